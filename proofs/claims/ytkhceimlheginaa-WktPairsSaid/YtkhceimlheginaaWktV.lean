import Derived.Test.YtkhceimlheginaaWktU
import Derived.Test.YtkhceimlheginaaWktW
import Derived.LoopIn
set_option linter.unusedVariables false
set_option linter.unusedSimpArgs false
namespace Go.Proofs.Ytkhceimlheginaa
open Go.RowKit Go.Rg
attribute [local go_sem] Oper.semAt_some

theorem rdsG_at3 {R : Nat} {X : World} : ∀ {gs : List Wk.Geo} {cs : List Value} {i : Nat} {g : Wk.Geo}, rdsG R X cs gs → gs[i]? = some g →
    ∃ v u, cs[i * 4]? = some (.int .i64 (g.kind : Int)) ∧ cs[i * 4 + 1]? = some (.int .i64 (g.level : Int)) ∧ cs[i * 4 + 2]? = some v ∧ cs[i * 4 + 3]? = some u ∧ BodyR R X v u (g.lists, g.sizes)
  | [], cs, i, g, h, hi => by cases hi
  | g' :: gs, cs, 0, g, ⟨v, u, ds, a, b, c⟩, hi => by
    cases hi
    subst a
    exact ⟨v, u, rfl, rfl, rfl, rfl, b⟩
  | g' :: gs, cs, i + 1, g, ⟨v, u, ds, a, b, c⟩, hi => by
    subst a
    obtain ⟨v', u', h0, h1, h2, h3, h4⟩ := rdsG_at3 (i := i) c hi
    have e : ∀ j, ([.int .i64 (g'.kind : Int), .int .i64 (g'.level : Int), v, u] ++ ds)[(i + 1) * 4 + j]? = ds[i * 4 + j]? := fun j => by
      rw [List.getElem?_append_right (by simp; omega)]
      congr 1
      simp; omega
    exact ⟨v', u', (e 0).trans h0, (e 1).trans h1, (e 2).trans h2, (e 3).trans h3, h4⟩

theorem fm_len {A B : Type} (f : A → List B) : ∀ {xs : List A} {i : Nat} {x : A}, xs[i]? = some x → ((xs.take (i + 1)).flatMap f).length = ((xs.take i).flatMap f).length + (f x).length
  | [], i, x, h => by cases h
  | y :: ys, 0, x, h => by cases h; simp
  | y :: ys, i + 1, x, h => by
    have := fm_len f (xs := ys) (i := i) (x := x) h
    simp only [List.take_succ_cons, List.flatMap_cons, List.length_append]
    omega
theorem fm_at {A B : Type} (f : A → List B) : ∀ {xs : List A} {i m : Nat} {x : A} {y : B}, xs[i]? = some x → (f x)[m]? = some y → (xs.flatMap f)[((xs.take i).flatMap f).length + m]? = some y
  | [], i, m, x, y, h, _ => by cases h
  | z :: zs, 0, m, x, y, h, hy => by
    cases h
    have hl := (List.getElem?_eq_some_iff.1 hy).1
    simp only [List.take_zero, List.flatMap_nil, List.length_nil, Nat.zero_add, List.flatMap_cons]
    rw [List.getElem?_append_left hl]; exact hy
  | z :: zs, i + 1, m, x, y, h, hy => by
    have := fm_at f (xs := zs) (i := i) (m := m) h hy
    simp only [List.take_succ_cons, List.flatMap_cons, List.length_append]
    rw [List.getElem?_append_right (by omega)]
    rw [← this]; congr 1; omega
theorem fl_len {B : Type} {xs : List (List B)} {i : Nat} {x : List B} (h : xs[i]? = some x) : (xs.take (i + 1)).flatten.length = (xs.take i).flatten.length + x.length := by
  have := fm_len (fun l : List B => l) h
  simpa using this
theorem fl_at {B : Type} {xs : List (List B)} {i m : Nat} {x : List B} {y : B} (h : xs[i]? = some x) (hy : x[m]? = some y) : xs.flatten[(xs.take i).flatten.length + m]? = some y := by
  have := fm_at (fun l : List B => l) h hy
  simpa using this

theorem enter_pairs1 (args : Array Value) (w : World) : (callFunc 49 args).run Try.prog w = .ok (.enter 49 args) w := enters_of Try.func49 (by kernel_rfl) rfl args w

theorem pairs_any (a : Option Addr) (n c : Nat) (w : World) :
    Calls Try.prog 29 #[.slice a n c] w fun e w' => e = .returned (.func (.func 49) #[] #[.pointer (some ⟨w.heap.size, 0, none⟩)]) ∧ w.alloc (.cells #[.slice a n c] 40) = w' := by
  go_enter Try.func29, Try.ntmps29
  go_wp2
  go_ret
  exact ⟨rfl, rfl⟩

set_option maxHeartbeats 4000000 in
set_option maxRecDepth 100000 in
theorem pairs_seq (b R : Nat) (v : Value) (gs : List Wk.Geo) (cs : List Value) (S : Nat → Prop) (w : World) (hb : Blk w b [v] 40) (hr : RdT 50 w v gs.length cs) (hg : rdsG R w cs gs) (hSb : S b) (hS : ∀ k, S k → k < w.heap.size)
    (hk0 : ∀ X, Kept S w X → KeepT 50 w X ∧ KeepT 60 w X ∧ KeepT 66 w X) :
    SeqI Try.prog 49 #[.pointer (some ⟨b, 0, none⟩)] ((allP gs).map fun p => #[prV p]) S w := by
  intro l J Jx W hW hJ hJx hY h0
  have hbW : Blk W b [v] 40 := hb.of_same (hW.same b hSb)
  obtain ⟨a, c, rfl, hm, _⟩ := rdT_base2 hr
  unfold maxLen at hm
  obtain ⟨n, hn⟩ : ∃ n, n = gs.length := ⟨_, rfl⟩
  rw [← hn] at hm hbW hr
  have c0 := hbW.cell (j := 0) rfl
  have HJ := Lib.hid hJ
  have HJx := Lib.hid hJx
  have HY := Lib.hid hY
  have HS := Lib.hid hS
  have HW := Lib.hid hW
  have Hg := Lib.hid hg
  have Hr := Lib.hid hr
  have Hn := Lib.hid hn
  have HK := Lib.hid hk0
  have H0 := Lib.hid (show J (allP (gs.take 0)).length (fun _ => False) W from h0)
  clear hJ hJx hY h0 hS hW hb hr hg hn hk0 hbW
  refine callsIn_of_wp Try.func49 rfl trivial ?_ rfl
  simp only [Try.ntmps49, List.size_toArray, List.length_cons, List.length_nil, Nat.reduceAdd, Nat.reduceSub, Array.replicate_succ, Array.replicate_zero, List.push_toArray, List.append_toArray, List.nil_append, List.cons_append]
  have Hal : Hid (∀ k X o, Hid (J k (fun _ => False) X) → Hid (Kept S W X) → Hid (J k (fun _ => False) (X.alloc o)) ∧ Hid (Kept S W (X.alloc o))) := by
    intro k X o h1 h2
    have hs := h2.out.size
    have hx : Ext W.heap.size X (X.alloc o) := Ext.of_below' ((Below.refl _ X).alloc (Nat.le_refl _) _) hs
    refine ⟨HJ.out _ _ _ _ _ h1.out hx (fun j (hj : False) => hj.elim), h2.out.trans ((Kept.of_below hx.below).mono (fun j hj => ?_))⟩
    have := HS.out j hj
    have := HW.out.size
    omega
  gi_wp2_with fail
  gi_loopw [11] (fun p wr => ∃ i : Nat, p = .int .i64 i ∧ i ≤ n ∧ Hid (J (allP (gs.take i)).length (fun _ => False) wr) ∧ Hid (Kept S W wr)) (fun p _ => n - (intOf p).toNat)
  case atStart => exact ⟨0, rfl, Nat.zero_le _, H0, Kept.refl _ _⟩
  case round =>
    obtain ⟨i, rfl, hi, Hj, Hk⟩ := hrel
    clear H0 c0
    by_cases hin : i < n
    · obtain ⟨g, hg⟩ : ∃ g, gs[i]? = some g := ⟨_, List.getElem?_eq_getElem (by rw [← Hn.out]; exact hin)⟩
      obtain ⟨lv, zv, q0, q1, q2, q3, hbody⟩ := rdsG_at3 Hg.out hg
      obtain ⟨a', c', e', _, ho⟩ := rdT_base2 (Hr.out.keep (HK.out wr (HW.out.trans Hk.out)).1)
      obtain ⟨rfl, rfl⟩ : a = a' ∧ c = c' := by simpa using e'
      obtain ⟨ga, off, rfl, h1, h2, h3, h4⟩ := ho (fun e => by rw [e] at q0; cases q0)
      obtain ⟨vs, hl, hls, hz⟩ := hbody
      obtain ⟨la, lc, rfl, hlm, _⟩ := rdT_base2 hl
      obtain ⟨za, zc, rfl⟩ := pair_form (R := 0) hz
      have p0 : wr.cell? ⟨ga, off + i * 4, none⟩ = some (.int .i64 (g.kind : Int)) := h4 _ _ q0
      have p1 := h4 _ _ q1
      have p2 := h4 _ _ q2
      have p3 := h4 _ _ q3
      simp only [← Nat.add_assoc] at p1 p2 p3
      obtain ⟨m, hm2⟩ : ∃ m, m = g.lists.length := ⟨_, rfl⟩
      obtain ⟨zn, hzn⟩ : ∃ zn, zn = g.sizes.length := ⟨_, rfl⟩
      simp only [← hm2, ← hzn] at hl hlm p2 p3
      have Hm2 := Lib.hid hm2
      have Hl := Lib.hid hl
      have Hls := Lib.hid hls
      have HG := Lib.hid hg
      unfold maxLen at h2 hlm
      clear h4 ho e' q0 q1 q2 q3 hl hls hz hg hm2 hzn
      gi_wp2_with fail
      obtain ⟨Wr, hWr⟩ : ∃ Wr, Wr = wr := ⟨_, rfl⟩
      gi_loopw [18] (fun p wr => ∃ j : Nat, p = .int .i64 j ∧ j ≤ m ∧ Hid (J ((allP (gs.take i)).length + (g.lists.take j).flatten.length) (fun _ => False) wr) ∧ Hid (Kept S W wr)) (fun p _ => m - (intOf p).toNat)
      case atStart => exact ⟨0, rfl, Nat.zero_le _, Hal.out _ _ _ Hj Hk⟩
      case round =>
        obtain ⟨j, rfl, hj, Hj2, Hk2⟩ := hrel
        clear p0 p1 p2 p3 Hj Hk hWr Wr h3
        by_cases hjm : j < m
        · obtain ⟨ls, hls⟩ : ∃ ls, g.lists[j]? = some ls := ⟨_, List.getElem?_eq_getElem (by rw [← Hm2.out]; exact hjm)⟩
          obtain ⟨pv, hpv, hrp⟩ := rdsL_at2 Hls.out hls
          obtain ⟨a', c', e', _, ho⟩ := rdT_base2 (Hl.out.keep (HK.out wr (HW.out.trans Hk2.out)).2.1)
          obtain ⟨rfl, rfl⟩ : la = a' ∧ lc = c' := by simpa using e'
          obtain ⟨ga2, off2, rfl, k1, k2, k3, k4⟩ := ho (fun e => by rw [e] at hpv; cases hpv)
          have p0 : wr.cell? ⟨ga2, off2 + j, none⟩ = some pv := k4 _ _ hpv
          obtain ⟨pa, pc, rfl, hpm, _⟩ := rdT_base2 hrp.1
          obtain ⟨q, hq⟩ : ∃ q, q = ls.length := ⟨_, rfl⟩
          rw [← hq] at p0 hpm
          have Hq := Lib.hid hq
          have Hrp := Lib.hid hrp.1
          have HL := Lib.hid hls
          unfold maxLen at hpm k2
          clear k4 ho e' hpv hrp hls hq
          gi_wp2_with fail
          obtain ⟨Wr, hWr⟩ : ∃ Wr, Wr = wr := ⟨_, rfl⟩
          gi_loopw [24] (fun p wr => ∃ t : Nat, p = .int .i64 t ∧ t ≤ q ∧ Hid (J ((allP (gs.take i)).length + ((g.lists.take j).flatten.length + t)) (fun _ => False) wr) ∧ Hid (Kept S W wr)) (fun p _ => q - (intOf p).toNat)
          case atStart => exact ⟨0, rfl, Nat.zero_le _, Hj2, Hk2⟩
          case round =>
            obtain ⟨t, rfl, ht, Hj3, Hk3⟩ := hrel
            clear p0 Hj2 Hk2 hWr Wr k3
            by_cases htq : t < q
            · obtain ⟨p, hp⟩ : ∃ p, ls[t]? = some p := ⟨_, List.getElem?_eq_getElem (by rw [← Hq.out]; exact htq)⟩
              obtain ⟨f1, f2⟩ := flatP_at2 _ _ _ hp
              obtain ⟨a', c', e', _, ho⟩ := rdT_base2 (Hrp.out.keep (HK.out wr (HW.out.trans Hk3.out)).2.2)
              obtain ⟨rfl, rfl⟩ : pa = a' ∧ pc = c' := by simpa using e'
              obtain ⟨ga3, off3, rfl, m1, m2, m3, m4⟩ := ho (fun e => by rw [e] at f1; cases f1)
              rw [← Hq.out] at m1
              have p0 : wr.cell? ⟨ga3, off3 + t * 2, none⟩ = some (.string ⟨p.1.toArray⟩) := m4 _ _ f1
              have p1 := m4 _ _ f2
              simp only [← Nat.add_assoc] at p1
              have hat : (allP gs)[(allP (gs.take i)).length + ((g.lists.take j).flatten.length + t)]? = some p := fm_at _ HG.out (fl_at HL.out hp)
              have Hat := Lib.hid hat
              unfold maxLen at m2
              clear m4 ho e' f1 f2 hp hat
              obtain ⟨HjA, HkA⟩ := Hal.out _ _ (.cells #[.string ⟨p.1.toArray⟩, .string ⟨p.2.toArray⟩] 66) Hj3 Hk3
              have hyield := HY.out _ #[prV p] (fun _ => False) _ (by rw [List.getElem?_map, Hat.out]; rfl) HkA.out (fun j (hj : False) => hj.elim) HjA.out
              obtain ⟨fn, tmps, assign, body, hy, hR⟩ := hyield
              unfold prV at hy
              clear Hj3 Hk3 HjA
              gi_wp2_with fail
              refine hR.mono ?_
              clear hR hy
              rintro e X' (⟨rfl, hj2, hE⟩ | ⟨rfl, hj2, hE⟩)
              · have Hj4 := Lib.hid hj2
                have Hk4 := Lib.hid (HkA.out.trans (hE.kept.mono (fun j hj => .inl hj)))
                clear hj2 hE
                gi_wp2_with fail
                go_roundw
                case rel => exact ⟨t + 1, by go_num, by omega, by rw [show ∀ a b t : Nat, a + (b + (t + 1)) = a + (b + t) + 1 from fun _ _ _ => by omega]; exact Hj4, Hk4⟩
                case measure => simp [intOf]; omega
              · have Hj4 := Lib.hid hj2
                have Hk4 := Lib.hid (HkA.out.trans (hE.kept.mono (fun j hj => .inl hj)))
                clear hj2 hE
                gi_wp2_with fail
                refine bodyPost_ret (results_none rfl _ _ _) rfl ?_
                refine ⟨⟨_, rfl⟩, Hk4.out, .inr ⟨_, Nat.succ_pos _, ?_, Hj4.out⟩⟩
                rw [List.length_map]
                exact (List.getElem?_eq_some_iff.1 Hat.out).1
            · have hte : t = q := by omega
              subst hte
              rw [Hq.out, ← fl_len HL.out] at Hj3
              gi_wp2_with fail
              go_roundw
              case rel => exact ⟨j + 1, by go_num, by omega, Hj3, Hk3⟩
              case measure => simp [intOf]; omega
        · have hje : j = m := by omega
          subst hje
          rw [Hm2.out, List.take_length] at Hj2
          have hfm := fm_len (fun g : Wk.Geo => g.lists.flatten) HG.out
          have Hj5 : Hid (J (allP (gs.take (i + 1))).length (fun _ => False) wr) := by unfold allP; rw [hfm]; exact Hj2
          clear hfm Hj2
          gi_wp2_with fail
          go_roundw
          case rel => exact ⟨i + 1, by go_num, by omega, Hj5, Hk2⟩
          case measure => simp [intOf]; omega
    · have hie : i = n := by omega
      subst hie
      rw [Hn.out, List.take_length] at Hj
      gi_wp2_with fail
      go_end0
      exact ⟨⟨_, rfl⟩, Hk.out, .inl ⟨_, fun j (hj : False) => hj.elim, by rw [List.length_map]; exact Hj.out⟩⟩
end Go.Proofs.Ytkhceimlheginaa
