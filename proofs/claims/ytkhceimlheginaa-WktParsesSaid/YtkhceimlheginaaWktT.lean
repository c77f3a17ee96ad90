import Derived.Test.YtkhceimlheginaaRfM
import Derived.BigQuiet
import Derived.Test.YtkhceimlheginaaWktS
import Derived.Deep.RegionHeld3
set_option linter.unusedVariables false
set_option linter.unusedSimpArgs false
namespace Go.Proofs.Ytkhceimlheginaa
open Go.RowKit Go.Rg
attribute [local go_sem] Oper.semAt_some

theorem rdsL_at {R : Nat} {w : World} : ∀ {vs : List Value} {ls : List (List Wk.Pr)} {k : Nat} {l : List Wk.Pr}, rdsL R w vs ls → ls[k]? = some l → ∃ v, vs[k]? = some v ∧ RdP R w v l
  | [], [], k, l, _, h => by cases h
  | v :: vs, m :: ls, 0, l, ⟨a, _⟩, h => by cases h; exact ⟨v, rfl, a⟩
  | v :: vs, m :: ls, k + 1, l, ⟨_, b⟩, h => by
    obtain ⟨v', h1, h2⟩ := rdsL_at (k := k) b h
    exact ⟨v', h1, h2⟩

/-- the address at which a slice that reads begins -/
theorem rdT_base {T : TypeId} {w : World} {v : Value} {n : Nat} {xs : List Value} (h : RdT T w v n xs) : ∃ a c, v = .slice a n c ∧ n ≤ maxLen ∧ (xs ≠ [] → ∃ g off, a = some ⟨g, off, none⟩ ∧ n ≤ c ∧ c ≤ maxLen ∧ g < w.heap.size ∧ ∀ j x, xs[j]? = some x → w.cell? ⟨g, off + j, none⟩ = some x) := by
  by_cases hx : xs = []
  · obtain ⟨a, c, e⟩ := pair_form (R := 0) h
    exact ⟨a, c, e, h.lt, fun h => absurd hx h⟩
  · obtain ⟨g, off, cap, e, h1, h2, h3, h4⟩ := rdT_opens h hx
    exact ⟨_, cap, e, h.lt, fun _ => ⟨g, off, rfl, h2, h3, h1, h4⟩⟩

theorem flat_at (P : List Wk.Pr) (m : Nat) (p : Wk.Pr) (h : P[m]? = some p) : (Wk.flat P)[m * 2]? = some p.1 ∧ (Wk.flat P)[m * 2 + 1]? = some p.2 := by
  induction P generalizing m with
  | nil => cases h
  | cons q P ih =>
    cases m with
    | zero => cases h; exact ⟨rfl, rfl⟩
    | succ m =>
      obtain ⟨a, b⟩ := ih m h
      have e : (m + 1) * 2 = m * 2 + 1 + 1 := by omega
      rw [e]
      exact ⟨a, b⟩
theorem flatP_at (P : List Wk.Pr) (m : Nat) (p : Wk.Pr) (h : P[m]? = some p) : (flatP P)[m * 2]? = some (.string ⟨p.1.toArray⟩) ∧ (flatP P)[m * 2 + 1]? = some (.string ⟨p.2.toArray⟩) := by
  induction P generalizing m with
  | nil => cases h
  | cons q P ih =>
    cases m with
    | zero => cases h; exact ⟨rfl, rfl⟩
    | succ m =>
      obtain ⟨a, b⟩ := ih m h
      have e : (m + 1) * 2 = m * 2 + 1 + 1 := by omega
      rw [e]
      exact ⟨a, b⟩
theorem flat_len (P : List Wk.Pr) : (Wk.flat P).length = P.length * 2 := by
  induction P with
  | nil => rfl
  | cons q P ih => show (q.1 :: q.2 :: Wk.flat P).length = _; simp [ih]; omega
/-- the j-th pair of the k-th list stands behind those of the lists ahead -/
theorem pair_at (ls : List (List Wk.Pr)) (k j : Nat) (l : List Wk.Pr) (p : Wk.Pr) (h : ls[k]? = some l) (hj : l[j]? = some p) : ls.flatten[(ls.take k).flatten.length + j]? = some p := by
  induction ls generalizing k with
  | nil => cases h
  | cons m ls ih =>
    cases k with
    | zero => cases h; simp only [List.take_zero, List.flatten_nil, List.length_nil, Nat.zero_add, List.flatten_cons]; rw [List.getElem?_append_left (List.getElem?_eq_some_iff.1 hj).1]; exact hj
    | succ k =>
      have := ih k h
      simp only [List.take_succ_cons, List.flatten_cons, List.length_append]
      rw [Nat.add_assoc, List.getElem?_append_right (by omega), Nat.add_sub_cancel_left]
      exact this
theorem take_flat (ls : List (List Wk.Pr)) (k : Nat) (l : List Wk.Pr) (h : ls[k]? = some l) : (ls.take (k + 1)).flatten.length = (ls.take k).flatten.length + l.length := by
  rw [List.take_add_one, h]; simp

theorem take_le (ls : List (List Wk.Pr)) (k : Nat) : (ls.take k).flatten.length ≤ ls.flatten.length := by
  induction ls generalizing k with
  | nil => simp
  | cons m ls ih =>
    cases k with
    | zero => simp
    | succ k => have := ih k; simp only [List.take_succ_cons, List.flatten_cons, List.length_append]; omega

def gV (g : Wk.Geo) (lv sv : Value) : Value := .agg #[.int .i64 (g.kind : Int), .int .i64 (g.level : Int), lv, sv]

set_option maxRecDepth 100000 in
set_option maxHeartbeats 8000000 in
theorem same_any (R : Nat) (g : Wk.Geo) (lv zv pv cv sv : Value) (w : World) (h : BodyR R w lv zv (g.lists, g.sizes)) (h2 : RdR w pv cv sv (Wk.toR g)) (hP : g.lists.flatten.length ≤ 1000000) :
    Calls Try.prog 24 #[gV g lv zv, rgV (Wk.toR g) pv cv sv] w fun e w' => e = .returned (.bool true) ∧ Below w.heap.size w w' := by
  obtain ⟨vs, hl, hvs, hz⟩ := h
  obtain ⟨hp, hc, hs⟩ := h2
  obtain ⟨la, lc, rfl, hlm, hlo⟩ := rdT_base hl
  obtain ⟨za, zc, rfl, hzm, hzo⟩ := rdT_base hz
  obtain ⟨pa, pc, rfl, hpm, hpo⟩ := rdT_base hp
  obtain ⟨ca, cc, rfl, hcm, hco⟩ := rdT_base hc
  obtain ⟨sa, sc, rfl, hsm, hso⟩ := rdT_base hs
  have e1 : (Wk.toR g).pairs.length = g.lists.flatten.length * 2 := by show (Wk.flat g.lists.flatten).length = _; exact flat_len _
  have e2 : (Wk.toR g).counts.length = g.lists.length := by simp [Wk.toR]
  have e3 : (Wk.toR g).size.length = g.sizes.length := rfl
  have e4 : (Wk.toR g).kind = g.kind := rfl
  have e5 : (Wk.toR g).level = g.level := rfl
  obtain ⟨nl, hnl⟩ : ∃ nl, nl = g.lists.length := ⟨_, rfl⟩
  obtain ⟨nz, hnz⟩ : ∃ nz, nz = g.sizes.length := ⟨_, rfl⟩
  obtain ⟨np, hnp⟩ : ∃ np, np = g.lists.flatten.length := ⟨_, rfl⟩
  unfold rgV gV
  rw [e4, e5]
  simp only [e1, e2, e3, ← hnl, ← hnz, ← hnp] at hlm hzm hpm hcm hsm hlo hzo hpo hco hso ⊢
  have Hlo := Lib.hid hlo
  have Hzo := Lib.hid hzo
  have Hpo := Lib.hid hpo
  have Hco := Lib.hid hco
  have Hso := Lib.hid hso
  have Hvs := Lib.hid hvs
  have Hnl := Lib.hid hnl
  have Hnz := Lib.hid hnz
  have Hnp := Lib.hid hnp
  rw [← hnp] at hP
  obtain ⟨W0, hW0⟩ : ∃ W0, [.cells #[.int .i64 (g.kind : Int), .int .i64 (g.level : Int), .slice la nl lc, .slice za nz zc] 50, .cells #[.int .i64 (g.kind : Int), .int .i64 (g.level : Int), .slice pa (np * 2) pc, .slice ca nl cc, .slice sa nz sc] 53].foldl World.alloc w = W0 := ⟨_, rfl⟩
  have B0 : Blk W0 w.heap.size [.int .i64 (g.kind : Int), .int .i64 (g.level : Int), .slice la nl lc, .slice za nz zc] 50 := Blk.allocs _ hW0 0 rfl
  have B1 : Blk W0 (w.heap.size + 1) [.int .i64 (g.kind : Int), .int .i64 (g.level : Int), .slice pa (np * 2) pc, .slice ca nl cc, .slice sa nz sc] 53 := Blk.allocs _ hW0 1 rfl
  have hBel : Below w.heap.size w W0 := hW0 ▸ allocs_below _ w
  have hz0 : w.heap.size + 2 ≤ W0.heap.size := Nat.le_of_eq (hW0 ▸ allocs_size _ w).symm
  simp only [List.foldl_cons, List.foldl_nil] at hW0
  have b0 := B0.cell (j := 0) rfl
  have b1 := B0.cell (j := 1) rfl
  have b2 := B0.cell (j := 2) rfl
  have b3 := B0.cell (j := 3) rfl
  obtain ⟨c0, c1, c2, c3, c4⟩ := cells5 B1
  have HB0 := Lib.hid B0
  have HB1 := Lib.hid B1
  have HBel := Lib.hid hBel
  clear B0 B1 hBel
  unfold maxLen at hlm hzm hpm hcm hsm
  clear hlo hzo hpo hco hso hl hvs hz hp hc hs hnl hnz hnp e1 e2 e3 e4 e5
  go_enter Try.func24, Try.ntmps24
  go_wp2_with fail
  go_loopg [45] nz (fun q s45 wx => ∃ i : Nat, i + q = nz ∧ s45 = .int .i64 (i : Int) ∧ W0 = wx)
  case atStart => exact ⟨0, by omega, rfl, rfl⟩
  case round =>
    obtain ⟨i, hiq, rfl, rfl⟩ := hrel
    cases gk with
    | succ q =>
      have hin : i < nz := by omega
      obtain ⟨m, hm⟩ : ∃ m, g.sizes[i]? = some m := ⟨_, List.getElem?_eq_getElem (by rw [← Hnz.out]; exact hin)⟩
      have hne : intsN g.sizes ≠ [] := by intro e; have := congrArg List.length e; simp [intsN] at this; rw [this] at hm; cases hm
      have hmi : (intsN g.sizes)[i]? = some (.int .i64 (m : Int)) := by unfold intsN; rw [List.getElem?_map, hm]; rfl
      obtain ⟨g1, o1, rfl, hz1, hz2, hz3, hz4⟩ := Hzo.out hne
      obtain ⟨g2, o2, rfl, hs1, hs2, hs3, hs4⟩ := Hso.out hne
      have x1 : W0.cell? ⟨g1, o1 + i, none⟩ = some (.int .i64 (m : Int)) := (HBel.out.cell (p := ⟨g1, o1 + i, none⟩) hz3).trans (hz4 i _ hmi)
      have x2 : W0.cell? ⟨g2, o2 + i, none⟩ = some (.int .i64 (m : Int)) := (HBel.out.cell (p := ⟨g2, o2 + i, none⟩) hs3).trans (hs4 i _ hmi)
      unfold maxLen at hz2 hs2
      clear hz4 hs4 hmi hne hm
      go_wp2_with fail
      go_roundg q
      case measure => omega
      case rel => exact ⟨i + 1, by omega, by first | rfl | simp, rfl⟩
    | zero =>
      have hin : i = nz := by omega
      subst hin
      go_wp2_with fail
      go_loopg [7, 61] nl (fun q s7 s61 wx => ∃ k m : Nat, k + q = nl ∧ s7 = .int .i64 (m : Int) ∧ s61 = .int .i64 (k : Int) ∧ Hid (m = (g.lists.take k).flatten.length) ∧ Hid (Below W0.heap.size W0 wx))
      case atStart => exact ⟨0, 0, by omega, rfl, rfl, by unfold Hid; simp, Below.refl _ _⟩
      case round =>
        obtain ⟨k, m, hkq, rfl, rfl, Hm, Hb⟩ := hrel
        have B0' := HB0.out.call Hb.out
        have B1' := HB1.out.call Hb.out
        have d2 := B0'.cell (j := 2) rfl
        obtain ⟨_, _, k2, k3, _⟩ := cells5 B1'
        have hbw := Lib.hid (HBel.out.trans (Hb.out.mono HBel.out.size))
        have hszr := Hb.out.size
        clear B0' B1' b0 b1 b2 b3 c0 c1 c2 c3 c4
        cases gk with
        | zero =>
          have hkn : k = nl := by omega
          have hmn : m = np := by rw [Hm.out, hkn, Hnl.out, List.take_length, Hnp.out]
          subst hmn
          have emm : ((2 * (m : Int)) == ((m : Int) * 2)) = true := by rw [beq_iff_eq]; omega
          go_wp2_with fail
          try rw [Exit.noGoto_ret]
          go_ret
          exact ⟨rfl, hbw.out⟩
        | succ q =>
          have hkn : k < nl := by omega
          obtain ⟨l, hlk⟩ : ∃ l, g.lists[k]? = some l := ⟨_, List.getElem?_eq_getElem (by rw [← Hnl.out]; exact hkn)⟩
          obtain ⟨vk, hvk, hPk⟩ := rdsL_at Hvs.out hlk
          obtain ⟨ka, kc, rfl, hkm, hko⟩ := rdT_base hPk.1
          have hmk : m + l.length ≤ np := by
            have h1 := take_flat _ _ _ hlk
            have h2 := take_le g.lists (k + 1)
            rw [Hm.out, Hnp.out]; omega
          have hck : (intsN (Wk.toR g).counts)[k]? = some (.int .i64 (l.length : Int)) := by
            unfold intsN Wk.toR; rw [List.getElem?_map, List.getElem?_map, hlk]; rfl
          obtain ⟨g1, o1, rfl, hl1, hl2, hl3, hl4⟩ := Hlo.out (fun e => by rw [e] at hvk; cases hvk)
          obtain ⟨g2, o2, rfl, hc1, hc2, hc3, hc4⟩ := Hco.out (fun e => by rw [e] at hck; cases hck)
          have x1 : wr.cell? ⟨g1, o1 + k, none⟩ = some (.slice ka l.length kc) := (hbw.out.cell (p := ⟨g1, o1 + k, none⟩) hl3).trans (hl4 k _ hvk)
          have x2 : wr.cell? ⟨g2, o2 + k, none⟩ = some (.int .i64 (l.length : Int)) := (hbw.out.cell (p := ⟨g2, o2 + k, none⟩) hc3).trans (hc4 k _ hck)
          have Hko := Lib.hid hko
          have Hlk := Lib.hid hlk
          unfold maxLen at hl2 hc2 hkm
          clear hl4 hc4 hck hvk hPk hko hlk
          go_wp2_with fail
          go_loopg [7, 87] l.length (fun q s7 s87 wx => ∃ j : Nat, j + q = l.length ∧ s7 = .int .i64 ((m + j : Nat) : Int) ∧ s87 = .int .i64 (j : Int) ∧ Hid (Below W0.heap.size W0 wx))
          case atStart => exact ⟨0, by omega, rfl, rfl, Hb⟩
          case round =>
            obtain ⟨j, hjq, rfl, rfl, Hb2⟩ := hrel
            cases gk with
            | zero =>
              have hjl : j = l.length := by omega
              subst hjl
              go_wp2_with fail
              go_roundg q
              case measure => omega
              case rel => exact ⟨k + 1, m + l.length, by omega, by first | rfl | simp, by first | rfl | simp, by unfold Hid; rw [take_flat _ _ _ Hlk.out, ← Hm.out], Hb2⟩
            | succ q2 =>
              have hjl : j < l.length := by omega
              obtain ⟨p, hp⟩ : ∃ p, l[j]? = some p := ⟨_, List.getElem?_eq_getElem hjl⟩
              obtain ⟨f1, f2⟩ := flatP_at _ _ _ hp
              have hpf := pair_at _ _ _ _ _ Hlk.out hp
              rw [← Hm.out] at hpf
              obtain ⟨r1, r2⟩ := flat_at _ _ _ hpf
              have hs1 : (strs (Wk.toR g).pairs)[(m + j) * 2]? = some (.string ⟨p.1.toArray⟩) := by unfold strs; rw [List.getElem?_map]; show Option.map _ (Wk.flat g.lists.flatten)[(m + j) * 2]? = _; rw [r1]; rfl
              have hs2 : (strs (Wk.toR g).pairs)[(m + j) * 2 + 1]? = some (.string ⟨p.2.toArray⟩) := by unfold strs; rw [List.getElem?_map]; show Option.map _ (Wk.flat g.lists.flatten)[(m + j) * 2 + 1]? = _; rw [r2]; rfl
              obtain ⟨g3, o3, rfl, hk1, hk2, hk3, hk4⟩ := Hko.out (fun e => by rw [e] at f1; cases f1)
              obtain ⟨g4, o4, rfl, hp1, hp2, hp3, hp4⟩ := Hpo.out (fun e => by rw [e] at hs1; cases hs1)
              have hbw2 := HBel.out.trans (Hb2.out.mono HBel.out.size)
              have y1 : wr.cell? ⟨g3, o3 + j * 2, none⟩ = some (.string ⟨p.1.toArray⟩) := (hbw2.cell (p := ⟨g3, o3 + j * 2, none⟩) hk3).trans (hk4 _ _ f1)
              have y2 : wr.cell? ⟨g3, o3 + j * 2 + 1, none⟩ = some (.string ⟨p.2.toArray⟩) := (hbw2.cell (p := ⟨g3, o3 + j * 2 + 1, none⟩) hk3).trans (hk4 _ _ f2)
              have y3 : wr.cell? ⟨g4, o4 + (m + j) * 2, none⟩ = some (.string ⟨p.1.toArray⟩) := (hbw2.cell (p := ⟨g4, o4 + (m + j) * 2, none⟩) hp3).trans (hp4 _ _ hs1)
              have y4 : wr.cell? ⟨g4, o4 + ((m + j) * 2 + 1), none⟩ = some (.string ⟨p.2.toArray⟩) := (hbw2.cell (p := ⟨g4, o4 + ((m + j) * 2 + 1), none⟩) hp3).trans (hp4 _ _ hs2)
              have B1'' := HB1.out.call Hb2.out
              obtain ⟨_, _, k2', _, _⟩ := cells5 B1''
              unfold maxLen at hk2 hp2
              have hsz2 := Hb2.out.size
              clear hk4 hp4 hs1 hs2 r1 r2 hpf f1 f2 hp hbw2 B1''
              go_wp2_with fail
              have hBp := Blk.new wr [.string ⟨p.1.toArray⟩, .string ⟨p.2.toArray⟩] 66
              have hbX : Below wr.heap.size wr (wr.alloc (.cells #[.string ⟨p.1.toArray⟩, .string ⟨p.2.toArray⟩] 66)) := (Below.refl _ _).alloc (Nat.le_refl _) _
              have X2 := keepc hbX (by have := HBel.out.size; have := Hb2.out.size; omega) k2'
              have X3 := keepc hbX (by have := HBel.out.size; have := Hb2.out.size; omega) y3
              have X4 := keepc hbX (by have := HBel.out.size; have := Hb2.out.size; omega) y4
              have Hb3 : Hid (Below W0.heap.size W0 (wr.alloc (.cells #[.string ⟨p.1.toArray⟩, .string ⟨p.2.toArray⟩] 66))) := Hb2.out.alloc Hb2.out.size _
              have P1 := hBp.cell (j := 0) rfl
              have P2 := hBp.cell (j := 1) rfl
              have hsX : (wr.alloc (.cells #[.string ⟨p.1.toArray⟩, .string ⟨p.2.toArray⟩] 66)).heap.size = wr.heap.size + 1 := by simp
              obtain ⟨bp, hbp⟩ : ∃ bp, bp = wr.heap.size := ⟨_, rfl⟩
              rw [← hbp] at P1 P2
              obtain ⟨X, hX⟩ : ∃ X, wr.alloc (.cells #[.string ⟨p.1.toArray⟩, .string ⟨p.2.toArray⟩] 66) = X := ⟨_, rfl⟩
              rw [hX] at X2 X3 X4 Hb3 P1 P2 ⊢
              rw [← hbp]
              obtain ⟨mj, hmj⟩ : ∃ mj, mj = m + j := ⟨_, rfl⟩
              rw [← hmj] at X3 X4 ⊢
              have hmjn : mj < np := by omega
              rw [show mj * 2 = 2 * mj from by omega] at X3 X4
              have Hmj := Lib.hid hmj
              clear hBp hbX hsX hbp hX y1 y2 y3 y4 k2' hmj
              go_quiet (fail)
              go_wp2_with fail
              go_roundg q2
              case measure => omega
              case rel => exact ⟨j + 1, by omega, by rw [Hmj.out]; congr 1, by first | rfl | simp, Hb3.out.trans (below_drewN _ _ _)⟩
end Go.Proofs.Ytkhceimlheginaa

namespace Go.Proofs.Ytkhceimlheginaa
open Go.RowKit Go.Rg
attribute [local go_sem] Oper.semAt_some

theorem parse_rparse (s : Lx.Str) : (∃ k, Wk.parse s = .error k ∧ Wk.rparse s = .error k) ∨ ∃ gs, Wk.parse s = .ok gs ∧ Wk.rparse s = .ok (gs.map Wk.toR) := by
  unfold Wk.rparse
  rcases Wk.parse_cases s with ⟨t, r, h1, h2⟩ | ⟨h1, k, h2, h3⟩ | ⟨h1, h2, h3, h4⟩ | ⟨gs, h1, h2, h3⟩
  · exact .inl ⟨t.fr, h2, by rw [h1]⟩
  · exact .inl ⟨k, h3, by rw [h1, h2]⟩
  · exact .inl ⟨s.length, h4, by rw [h1, h2]; exact if_neg h3⟩
  · exact .inr ⟨gs, h3, by rw [h1, h2]; rfl⟩

theorem run_good (s : Lx.Str) : ∀ (l : List Lx.Tok) (z : Wk.MS) (n : Nat), Wk.Good z → Wk.Lim n z → Wk.Lim (n + l.length) (Wk.run s z l).1
  | [], z, n, _, h => h
  | t :: r, z, n, hg, h => by
    unfold Wk.run
    cases hs : Wk.step z t.kind (Wk.txt s t) with
    | none =>
      refine ⟨Nat.le_trans h.1 (Nat.le_add_right _ _), Nat.le_trans h.2.1 (Nat.le_add_right _ _), fun g hgm => ?_⟩
      obtain ⟨a, b, c, d, e⟩ := h.2.2 g hgm
      exact ⟨Nat.le_trans a (Nat.le_add_right _ _), Nat.le_trans b (Nat.le_add_right _ _), Nat.le_trans c (Nat.le_add_right _ _), fun x hx => Nat.le_trans (d x hx) (Nat.le_add_right _ _), fun x hx => Nat.le_trans (e x hx) (Nat.le_add_right _ _)⟩
    | some z' =>
      obtain ⟨h1, h2⟩ := Wk.step_good n z z' _ _ hg h hs
      have := run_good s r z' (n + 1) h1 h2
      simp only [List.length_cons]
      rwa [show n + (r.length + 1) = n + 1 + r.length from by omega]

theorem rdsR_at {X : World} : ∀ {gs : List Wk.RGeo} {cs : List Value} {i : Nat} {g : Wk.RGeo}, rdsR X cs gs → gs[i]? = some g →
    ∃ pv cv sv, cs[i * 5]? = some (.int .i64 (g.kind : Int)) ∧ cs[i * 5 + 1]? = some (.int .i64 (g.level : Int)) ∧ cs[i * 5 + 2]? = some pv ∧ cs[i * 5 + 3]? = some cv ∧ cs[i * 5 + 4]? = some sv ∧ RdR X pv cv sv g
  | [], cs, i, g, h, hi => by cases hi
  | g' :: gs, cs, 0, g, ⟨pv, cv, sv, ds, a, b, c⟩, hi => by
    cases hi
    subst a
    exact ⟨pv, cv, sv, rfl, rfl, rfl, rfl, rfl, b⟩
  | g' :: gs, cs, i + 1, g, ⟨pv, cv, sv, ds, a, b, c⟩, hi => by
    subst a
    obtain ⟨pv', cv', sv', h0, h1, h2, h3, h4, h5⟩ := rdsR_at (i := i) c hi
    have e : ∀ j, (rgC g' pv cv sv ++ ds)[(i + 1) * 5 + j]? = ds[i * 5 + j]? := fun j => by
      rw [List.getElem?_append_right (by simp [rgC]; omega)]
      congr 1
      simp [rgC]; omega
    exact ⟨pv', cv', sv', (e 0).trans h0, (e 1).trans h1, (e 2).trans h2, (e 3).trans h3, (e 4).trans h4, h5⟩

set_option maxRecDepth 100000 in
set_option maxHeartbeats 8000000 in
/-- any text is read as the document says, or the place is told at which it is wrong -/
theorem lawParsesW (s : ByteArray) (hs : s.size ≤ maxLen) (w : World) : Calls Try.prog 7 #[.string s] w fun e w' => e = .returned (.bool true) ∧ Below w.heap.size w w' := by
  unfold maxLen at hs
  by_cases hb : s.size ≤ 2500
  · go_enter Try.func7, Try.ntmps7
    go_wp2_with fail
    refine (parse_any s w (by omega)).mono ?_
    rintro e w1 ⟨v1, at1, er1, rfl, h1, hw1⟩
    have hform : ∃ a n c, v1 = .slice a n c := by
      unfold parseRes at h1
      cases hp : Wk.parse s.data.toList with
      | error k => rw [hp] at h1; exact ⟨_, _, _, h1.1⟩
      | ok gs => rw [hp] at h1; obtain ⟨⟨R, cs, hv, _⟩, _⟩ := h1; obtain ⟨a, c, e⟩ := pair_form (R := 0) hv; exact ⟨_, _, _, e⟩
    obtain ⟨va, vn, vc, rfl⟩ := hform
    have H1 := Lib.hid h1
    clear h1
    go_wp2_with fail
    refine (rparse_any s w1 (by omega)).mono ?_
    rintro e w2 ⟨v2, at2, rfl, h2, hw2⟩
    have h1 := H1.out
    unfold parseRes at h1
    unfold rparseRes at h2
    have hw12 := hw1.trans (hw2.mono hw1.size)
    rcases parse_rparse s.data.toList with ⟨k, e1, e2⟩ | ⟨gs, e1, e2⟩
    · rw [e1] at h1
      rw [e2] at h2
      obtain ⟨hv1, rfl, rfl⟩ := h1
      cases hv1
      obtain ⟨rfl, rfl⟩ := h2
      clear e1 e2 H1 hw2 hw1
      have hk0 : (0 : Int) ≤ (k : Int) := by omega
      go_wp2_with fail
      refine (awake11_any w2).mono ?_
      rintro e w3 ⟨rfl, hw3⟩
      have hw13 := hw12.trans (hw3.mono hw12.size)
      clear hw3
      go_wp2_with fail
      go_ret
      exact ⟨rfl, hw13⟩
    · rw [e1] at h1
      rw [e2] at h2
      obtain ⟨⟨R, cs, hv, hg⟩, rfl, rfl⟩ := h1
      obtain ⟨⟨rs, hv2, hr2⟩, rfl⟩ := h2
      obtain ⟨va', vc', hve, hvm, hvo⟩ := rdT_base hv
      cases hve
      obtain ⟨wa, wc, rfl, hwm, hwo⟩ := rdT_base hv2
      have hlim : ∀ g ∈ gs, g.lists.flatten.length ≤ 1000000 := by
        intro g hgm
        have hl := run_good s.data.toList (Wk.toks s.data.toList) ⟨1, 0, []⟩ 0 (.inl rfl) ⟨Nat.zero_le _, Nat.zero_le _, by simp⟩
        have hrr : (Wk.run s.data.toList ⟨1, 0, []⟩ (Wk.toks s.data.toList)).1.out = gs.map Wk.toR := by
          rcases Wk.parse_cases s.data.toList with ⟨t, r, _, h⟩ | ⟨_, k, _, h⟩ | ⟨_, _, _, h⟩ | ⟨gs', h3, _, h⟩
          · rw [e1] at h; cases h
          · rw [e1] at h; cases h
          · rw [e1] at h; cases h
          · rw [e1] at h; cases h; rw [h3]
        have h4 := (hl.2.2 (Wk.toR g) (by rw [hrr]; exact List.mem_map_of_mem hgm)).1
        have h5 : (Wk.toR g).pairs.length = g.lists.flatten.length * 2 := by show (Wk.flat g.lists.flatten).length = _; exact flat_len _
        have h6 := toks_len s
        omega
      have hlen : (gs.map Wk.toR).length = gs.length := List.length_map _
      rw [hlen] at hwo ⊢
      rw [hlen] at hwm
      obtain ⟨n, hn⟩ : ∃ n, n = gs.length := ⟨_, rfl⟩
      rw [← hn] at hwo hwm hvm hvo ⊢
      have Hn := Lib.hid hn
      have Hvo := Lib.hid hvo
      have Hwo := Lib.hid hwo
      have Hg := Lib.hid hg
      have Hr2 := Lib.hid hr2
      have Hlim := Lib.hid hlim
      have hw2' := Lib.hid hw2
      unfold maxLen at hvm hwm
      have hneg : ¬ ((0 : Int) ≤ -1) := by omega
      clear hlen hn hvo hwo hg hr2 hlim e1 e2 H1 hv hv2 hw1 hw2
      go_wp2_with fail
      go_loopg [56] n (fun q s56 wx => ∃ i : Nat, i + q = n ∧ s56 = .int .i64 (i : Int) ∧ Hid (Below w2.heap.size w2 wx))
      case atStart => exact ⟨0, by omega, rfl, Below.refl _ _⟩
      case round =>
        obtain ⟨i, hiq, rfl, Hb⟩ := hrel
        cases gk with
        | zero =>
          have hin : i = n := by omega
          subst hin
          go_wp2_with fail
          refine (awake11_any wr).mono ?_
          rintro e w4 ⟨rfl, hw4⟩
          have hwf := (hw12.trans (Hb.out.mono hw12.size)).trans (hw4.mono (Nat.le_trans hw12.size Hb.out.size))
          clear hw4
          go_wp2_with fail
          try rw [Exit.noGoto_ret]
          go_ret
          exact ⟨rfl, hwf⟩
        | succ q =>
          have hin : i < n := by omega
          obtain ⟨g, hgi⟩ : ∃ g, gs[i]? = some g := ⟨_, List.getElem?_eq_getElem (by rw [← Hn.out]; exact hin)⟩
          have hgr : (gs.map Wk.toR)[i]? = some (Wk.toR g) := by rw [List.getElem?_map, hgi]; rfl
          obtain ⟨bv, bu, c0, c1, c2, c3, hB⟩ := rdsG_at Hg.out hgi
          obtain ⟨pv, cv, sv, d0, d1, d2, d3, d4, hR⟩ := rdsR_at Hr2.out hgr
          obtain ⟨g1, o1, rfl, hv1, hv2, hv3, hv4⟩ := Hvo.out (fun e => by rw [e] at c0; simp at c0)
          obtain ⟨g2, o2, rfl, hx1, hx2, hx3, hx4⟩ := Hwo.out (fun e => by rw [e] at d0; simp at d0)
          have hbw1 := hw2'.out.trans (Hb.out.mono hw2'.out.size)
          have hszr := Hb.out.size
          have hsz2 := hw2'.out.size
          have y0 : wr.cell? ⟨g1, o1 + i * 4, none⟩ = some (.int .i64 (g.kind : Int)) := keepc hbw1 hv3 (by have := hv4 _ _ c0; exact this)
          have y1 : wr.cell? ⟨g1, o1 + i * 4 + 1, none⟩ = some (.int .i64 (g.level : Int)) := keepc hbw1 hv3 (by have := hv4 _ _ c1; rw [← Nat.add_assoc] at this; exact this)
          have y2 : wr.cell? ⟨g1, o1 + i * 4 + 2, none⟩ = some (bv) := keepc hbw1 hv3 (by have := hv4 _ _ c2; rw [← Nat.add_assoc] at this; exact this)
          have y3 : wr.cell? ⟨g1, o1 + i * 4 + 3, none⟩ = some (bu) := keepc hbw1 hv3 (by have := hv4 _ _ c3; rw [← Nat.add_assoc] at this; exact this)
          have z0 : wr.cell? ⟨g2, o2 + i * 5, none⟩ = some (.int .i64 ((Wk.toR g).kind : Int)) := keepc Hb.out hx3 (by have := hx4 _ _ d0; exact this)
          have z1 : wr.cell? ⟨g2, o2 + i * 5 + 1, none⟩ = some (.int .i64 ((Wk.toR g).level : Int)) := keepc Hb.out hx3 (by have := hx4 _ _ d1; rw [← Nat.add_assoc] at this; exact this)
          have z2 : wr.cell? ⟨g2, o2 + i * 5 + 2, none⟩ = some (pv) := keepc Hb.out hx3 (by have := hx4 _ _ d2; rw [← Nat.add_assoc] at this; exact this)
          have z3 : wr.cell? ⟨g2, o2 + i * 5 + 3, none⟩ = some (cv) := keepc Hb.out hx3 (by have := hx4 _ _ d3; rw [← Nat.add_assoc] at this; exact this)
          have z4 : wr.cell? ⟨g2, o2 + i * 5 + 4, none⟩ = some (sv) := keepc Hb.out hx3 (by have := hx4 _ _ d4; rw [← Nat.add_assoc] at this; exact this)
          have HB := Lib.hid (hB.keep (.call hbw1) (.call hbw1) (.call hbw1))
          have HR := Lib.hid (hR.call Hb.out)
          have hgl := Hlim.out g (List.mem_of_getElem? hgi)
          unfold maxLen at hv2 hx2
          clear hv4 hx4 c0 c1 c2 c3 d0 d1 d2 d3 d4 hB hR hbw1 hgi hgr
          go_wp2_with fail
          go_region_held3 (fun w' => w'.cell? ⟨g1, o1 + i * 4, none⟩ = some (.int .i64 (g.kind : Int)) ∧ w'.cell? ⟨g1, o1 + i * 4 + 1, none⟩ = some (.int .i64 (g.level : Int)) ∧ w'.cell? ⟨g1, o1 + i * 4 + 2, none⟩ = some (bv) ∧ w'.cell? ⟨g1, o1 + i * 4 + 3, none⟩ = some (bu) ∧ w'.cell? ⟨g2, o2 + i * 5, none⟩ = some (.int .i64 ((Wk.toR g).kind : Int)) ∧ w'.cell? ⟨g2, o2 + i * 5 + 1, none⟩ = some (.int .i64 ((Wk.toR g).level : Int)) ∧ w'.cell? ⟨g2, o2 + i * 5 + 2, none⟩ = some (pv) ∧ w'.cell? ⟨g2, o2 + i * 5 + 3, none⟩ = some (cv) ∧ w'.cell? ⟨g2, o2 + i * 5 + 4, none⟩ = some (sv))
            (first
              | exact ⟨keepc hb5 (by show _ < wr.heap.size; omega) y0, keepc hb5 (by show _ < wr.heap.size; omega) y1, keepc hb5 (by show _ < wr.heap.size; omega) y2, keepc hb5 (by show _ < wr.heap.size; omega) y3, keepc hb5 (by show _ < wr.heap.size; omega) z0, keepc hb5 (by show _ < wr.heap.size; omega) z1, keepc hb5 (by show _ < wr.heap.size; omega) z2, keepc hb5 (by show _ < wr.heap.size; omega) z3, keepc hb5 (by show _ < wr.heap.size; omega) z4⟩
              | go_keep)
            ((go_at_call 24; refine (same_any R g bv bu pv cv sv _ (HB.out.keep (.call ((Below.refl _ wr).drew)) (.call ((Below.refl _ wr).drew)) (.call ((Below.refl _ wr).drew))) (HR.out.call ((Below.refl _ wr).drew)) hgl).mono ?_; rintro e w5 ⟨rfl, hb5⟩))
          have Hb5 : Hid (Below w2.heap.size w2 w5) := (Hb.out.drew).trans (hb5.mono hszr)
          clear hb5
          go_wp2_with fail
          go_roundg q
          case measure => omega
          case rel => exact ⟨i + 1, by omega, by first | rfl | simp, Hb5⟩
  · go_enter Try.func7, Try.ntmps7
    go_wp2_with (first | (go_at_call 21; refine (awake11_any _).mono ?_; rintro e w1 ⟨rfl, hb⟩))
    go_ret
    exact ⟨rfl, hb⟩
end Go.Proofs.Ytkhceimlheginaa
