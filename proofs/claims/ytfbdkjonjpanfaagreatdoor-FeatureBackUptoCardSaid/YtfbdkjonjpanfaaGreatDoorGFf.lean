/- feature's scaler: number, list, walked. -/
import Derived.Test.YtfbdkjonjpanfaaGreatDoorGFd
import Derived.Test.YtfbdkjonjpanfaaGreatDoorGFc
import Derived.Test.YtfbdkjonjpanfaaGreatDoorGFa
import Derived.Test.YtfbdkjonjpanfaaGreatDoorGFn
import Derived.Test.YtfbdkjonjpanfaaGreatDoorWktK

set_option linter.unusedVariables false
set_option linter.unusedSimpArgs false
namespace Go.Proofs.YtfbdkjonjpanfaaGreatDoor
open Go.RowKit Go.Rg Ft
attribute [local go_sem] Oper.semAt_some

/-- the scaler: so many places; was there one that is too fine, one that is too great? -/
abbrev Sc (w : World) (R : Nat) (fine : Int) (p r : Bool) : Prop := Blk w R [.int .i64 fine, .bool p, .bool r] 74

set_option maxRecDepth 100000 in
set_option maxHeartbeats 4000000 in
theorem number13_any (R : Nat) (t : ByteArray) (fine : Int) (p r : Bool) (w : World) (h : Sc w R fine p r) (ht : Tabs w) (hs : t.size ≤ 100000) (hf1 : -9223372036854775808 ≤ fine) (hf2 : fine ≤ 9223372036854775807) :
    Calls Tryz.prog 57 #[.pointer (some ⟨R, 0, none⟩), .string t] w fun e w' => e = .returned (.int .i64 (Dc.scaleP t.data.toList fine).1) ∧ Sc w' R fine (p || (Dc.scaleP t.data.toList fine).2 == 22) (r || (Dc.scaleP t.data.toList fine).2 == 23) ∧ Upd R w w' := by
  have HS := Lib.hid (scale_any t fine w ht hs hf1 hf2)
  obtain ⟨n, e0, hsc⟩ : ∃ n e0, Dc.scaleP t.data.toList fine = (n, e0) := ⟨_, _, rfl⟩
  rw [hsc] at HS ⊢
  simp only at HS ⊢
  have c0 := h.cell (j := 0) rfl
  have H := Lib.hid h
  clear h ht hsc hf1 hf2
  go_enter Tryz.func57, Tryz.ntmps57
  go_wp2_with fail
  refine HS.out.mono ?_
  rintro e w1 ⟨rfl, hb⟩
  have H1 := H.out.call hb
  have hR := H1.lt
  have b1 := H1.cell (j := 1) rfl
  have b2 := H1.cell (j := 2) rfl
  have bf := H1.frozen
  have K1 : Upd R w w1 := Upd.of_below hb
  have HK := Lib.hid K1
  have HH := Lib.hid H1
  clear H1 K1 hb c0 H HS
  cases p <;> cases r
  all_goals go_wp2_with fail
  all_goals go_ret
  all_goals exact ⟨rfl, (HH.out.set 1 _).set 2 _, (HK.out.set 1 _).set 2 _⟩
end Go.Proofs.YtfbdkjonjpanfaaGreatDoor

set_option linter.unusedVariables false
set_option linter.unusedSimpArgs false
namespace Go.Proofs.YtfbdkjonjpanfaaGreatDoor
open Go.RowKit Go.Rg Ft
attribute [local go_sem] Oper.semAt_some

theorem info_point : (Tryz.prog.info? 47).map (fun i => (i.zero, i.size, i.bytes)) = some (some (.agg #[.int .i64 0, .int .i64 0]), 2, 16) := by kernel_rfl
theorem or3 (a b c : Bool) : (a || b || c) = (a || (b || c)) := by cases a <;> rfl

set_option maxRecDepth 100000 in
set_option maxHeartbeats 8000000 in
theorem list13_any (R : Nat) (v : Value) (l : List Wk.Pr) (fine : Int) (pb0 rb0 : Bool) (w : World) (h : Sc w R fine pb0 rb0) (hv : RdC w v l.length (flatP l)) (hvR : ∀ p ∈ l, ∀ g, v.ownBlock = some g → g ≠ R) (ht : ∀ X, Upd R w X → Tabs X) (hl : l.length ≤ 1000000) (hx : ∀ p ∈ l, p.1.length ≤ 100000 ∧ p.2.length ≤ 100000) (hf1 : -9223372036854775808 ≤ fine) (hf2 : fine ≤ 9223372036854775807) :
    Calls Tryz.prog 37 #[.pointer (some ⟨R, 0, none⟩), v] w fun e w' => ∃ u, e = .returned u ∧ w'.ownsRow w.heap.size tP 2 u l.length (flat (scl fine l)) ∧ Sc w' R fine (pb0 || errs 22 fine l) (rb0 || errs 23 fine l) ∧ Upd R w w' := by
  have hRw := h.lt
  obtain ⟨a, c, rfl, hm, ho⟩ := hv
  have Ho := Lib.hid ho
  have HT := Lib.hid ht
  have HX := Lib.hid hx
  unfold maxLen at hm
  obtain ⟨n, hn⟩ : ∃ n, n = l.length := ⟨_, rfl⟩
  rw [← hn] at hm hl ⊢
  have Hn := Lib.hid hn
  have HS0 := Lib.hid h
  have HvR := Lib.hid hvR
  clear ho hn ht hx h hvR
  go_enter Tryz.func37, Tryz.ntmps37
  go_wp2_with fail
  go_loopg [5, 10] n (fun q s5 s10 wx => ∃ (i : Nat) (av : Option Addr) (capv : Nat) (pb rb : Bool), i + q = n ∧ s5 = .slice av i capv ∧ s10 = .int .i64 (i : Int) ∧ Hid (wx.ownsRow w.heap.size tP 2 (.slice av i capv) i (flat (scl fine (l.take i)))) ∧ Hid (Sc wx R fine pb rb) ∧ Hid (pb = (pb0 || errs 22 fine (l.take i)) ∧ rb = (rb0 || errs 23 fine (l.take i))) ∧ Hid (Upd R w wx))
  case atStart => exact ⟨0, none, 0, pb0, rb0, by omega, rfl, rfl, World.ownsRow_nil _ _ _ _, HS0, by unfold Hid; simp [errs], Upd.refl _ _⟩
  case round =>
    clear HS0
    obtain ⟨i, av, capv, pb, rb, hq, rfl, rfl, HO, HSc, Hpb, HU⟩ := hrel
    cases gk with
    | zero =>
      have hin : i = n := by omega
      subst hin
      have hfull : l.take i = l := by rw [Hn.out, List.take_length]
      rw [hfull] at HO Hpb
      obtain ⟨rfl, rfl⟩ := Hpb.out
      clear hfull
      go_wp2_with fail
      try rw [Exit.noGoto_ret]
      go_ret
      exact ⟨_, rfl, HO.out, HSc.out, HU.out⟩
    | succ q =>
      have hin : i < n := by omega
      obtain ⟨p, hp⟩ : ∃ p, l[i]? = some p := ⟨_, List.getElem?_eq_getElem (by rw [← Hn.out]; exact hin)⟩
      obtain ⟨f1, f2⟩ := flatP_at2 _ _ _ hp
      obtain ⟨g1, o1, rfl, h1, h2, h3, h4⟩ := Ho.out (fun e => by rw [e] at f1; cases f1)
      rw [← Hn.out] at h1
      have hgR : g1 ≠ R := HvR.out p (List.mem_of_getElem? hp) g1 rfl
      have y1 : wr.cell? ⟨g1, o1 + i * 2, none⟩ = some (.string ⟨p.1.toArray⟩) := (World.cell?_of_block (a := ⟨g1, o1 + i * 2, none⟩) (HU.out.same g1 hgR h3)).trans (h4 _ _ f1)
      have y2 : wr.cell? ⟨g1, o1 + i * 2 + 1, none⟩ = some (.string ⟨p.2.toArray⟩) := (World.cell?_of_block (a := ⟨g1, o1 + i * 2 + 1, none⟩) (HU.out.same g1 hgR h3)).trans (h4 _ _ f2)
      obtain ⟨hx1, hx2⟩ := HX.out p (List.mem_of_getElem? hp)
      have Hst : Hid (flat (scl fine (l.take (i + 1))) = flat (scl fine (l.take i)) ++ [.int .i64 (one fine p).1, .int .i64 (one fine p).2]) := by unfold Hid; rw [scl_take fine l i p hp, flat_snoc]
      have Hpb2 : Hid (((pb || (Dc.scaleP p.1 fine).2 == 22) || (Dc.scaleP p.2 fine).2 == 22) = (pb0 || errs 22 fine (l.take (i + 1))) ∧ ((rb || (Dc.scaleP p.1 fine).2 == 23) || (Dc.scaleP p.2 fine).2 == 23) = (rb0 || errs 23 fine (l.take (i + 1)))) := by
        unfold Hid
        rw [errs_take 22 fine l i p hp, errs_take 23 fine l i p hp, Hpb.out.1, Hpb.out.2]
        unfold err
        constructor <;> simp only [or3]
      unfold maxLen at h2
      have hRr : R < wr.heap.size := HSc.out.lt
      have hwr : w.heap.size ≤ wr.heap.size := HU.out.size
      have HQ := Lib.hid hq
      clear h4 f1 f2 hp Hpb hq
      have hPn : some wr.heap.size ≠ (Value.slice av i capv).ownBlock := fun e => by have := (HO.out.lt _ e.symm).2; omega
      go_wp2_with fail
      obtain ⟨wb, hwb⟩ : ∃ W, wr.alloc (.cells #[.string ⟨p.1.toArray⟩, .string ⟨p.2.toArray⟩] 77) = W := ⟨_, rfl⟩
      have hbb : Below wr.heap.size wr wb := hwb ▸ (Below.refl _ wr).alloc (Nat.le_refl _) _
      have HPB : Hid (Blk wb wr.heap.size [.string ⟨p.1.toArray⟩, .string ⟨p.2.toArray⟩] 77) := hwb ▸ Blk.new wr _ _
      have HSc := Lib.hid (HSc.out.call hbb)
      have HO := Lib.hid (own_call HO.out hbb)
      have HU := Lib.hid (HU.out.call hbb)
      rw [hwb]
      clear hwb hbb
      obtain ⟨P, hP⟩ : ∃ P, P = wr.heap.size := ⟨_, rfl⟩
      rw [← hP] at HPB hRr hwr hPn ⊢
      have x0 := HPB.out.cell (j := 0) rfl
      have x1 := HPB.out.cell (j := 1) rfl
      clear hP
      refine wp_region_held_drew (S := fun w' => w'.cell? ⟨P, 0, none⟩ = some (.string ⟨p.1.toArray⟩) ∧ w'.cell? ⟨P, 1, none⟩ = some (.string ⟨p.2.toArray⟩)) (by kernel_rfl) ⟨x0, x1⟩ (fun hHeld => ?_)
      refine takeL 0 (v := ?_) rfl (by kernel_rfl) (by kernel_rfl) (by kernel_rfl) (fun _ _ _ h => h) (by rfl) (by assumption) ?hy0 ?_
      case hy0 => (intro w hSw; (try dsimp only at hSw); go_simp; all_goals (with_reducible rfl))
      (try simp only [Act.put, List.setIfInBounds_toArray, List.set_cons_zero, List.set_cons_succ])
      refine takeL 1 (v := ?_) rfl (by kernel_rfl) (by kernel_rfl) (by kernel_rfl) (fun _ _ _ h => h) (by rfl) (by assumption) ?hy1 ?_
      case hy1 => (intro w hSw; (try dsimp only at hSw); go_simp; all_goals (with_reducible rfl))
      (try simp only [Act.put, List.setIfInBounds_toArray, List.set_cons_zero, List.set_cons_succ])
      refine takeL 2 (v := ?_) rfl (by kernel_rfl) (by kernel_rfl) (by kernel_rfl) (fun _ _ _ h => h) (by rfl) (by assumption) ?hy2 ?_
      case hy2 => (intro w hSw; (try dsimp only at hSw); go_simp; all_goals (with_reducible rfl))
      (try simp only [Act.put, List.setIfInBounds_toArray, List.set_cons_zero, List.set_cons_succ])
      refine takeL 3 (v := ?_) rfl (by kernel_rfl) (by kernel_rfl) (by kernel_rfl) (fun _ _ _ h => h) (by rfl) (by assumption) ?hy3 ?_
      case hy3 => (intro w hSw; (try dsimp only at hSw); go_simp; all_goals (with_reducible rfl))
      (try simp only [Act.put, List.setIfInBounds_toArray, List.set_cons_zero, List.set_cons_succ])
      refine takeL 5 (v := ?_) rfl (by kernel_rfl) (by kernel_rfl) (by kernel_rfl) (fun _ _ _ h => h) (by rfl) (by assumption) ?hy5 ?_
      case hy5 => (intro w hSw; (try dsimp only at hSw); go_simp; all_goals (with_reducible rfl))
      (try simp only [Act.put, List.setIfInBounds_toArray, List.set_cons_zero, List.set_cons_succ])
      refine takeL 6 (v := ?_) rfl (by kernel_rfl) (by kernel_rfl) (by kernel_rfl) (fun _ _ _ h => h) (by rfl) (by assumption) ?hy6 ?_
      case hy6 => (intro w hSw; (try dsimp only at hSw); go_simp; all_goals (with_reducible rfl))
      (try simp only [Act.put, List.setIfInBounds_toArray, List.set_cons_zero, List.set_cons_succ])
      refine takeL 7 (v := ?_) rfl (by kernel_rfl) (by kernel_rfl) (by kernel_rfl) (fun _ _ _ h => h) (by rfl) (by assumption) ?hy7 ?_
      case hy7 => (intro w hSw; (try dsimp only at hSw); go_simp; all_goals (with_reducible rfl))
      (try simp only [Act.put, List.setIfInBounds_toArray, List.set_cons_zero, List.set_cons_succ])
      refine consL 4 (by kernel_rfl) rfl (by rfl) (fun K hK => ?_)
      go_simp
      go_at_call 57
      refine (number13_any R ⟨p.1.toArray⟩ fine pb rb wb.drew HSc.out (HT.out _ HU.out.drew) (by rw [Lib.size_eq]; exact hx1) hf1 hf2).mono ?_
      rintro e w4 ⟨rfl, h4, u4⟩
      have u4 : Upd R wb w4 := (Upd.refl R wb).drew.trans u4
      have x0 := (HPB.out.upd u4 (by omega)).cell (j := 0) rfl
      have x1 := (HPB.out.upd u4 (by omega)).cell (j := 1) rfl
      have HPB := Lib.hid (HPB.out.upd u4 (by omega))
      have HSc := Lib.hid h4
      have HO := Lib.hid (own_upd HO.out u4 (by omega))
      have HU := Lib.hid (HU.out.trans u4)
      clear h4 u4
      clear hHeld
      refine hK.out _ _ ?hS4 (fun hHeld => ?_)
      case hS4 => ((try dsimp only); exact ⟨x0, x1⟩)
      clear hK K
      (try simp only [Act.put, List.setIfInBounds_toArray, List.set_cons_zero, List.set_cons_succ])
      refine consL 8 (by kernel_rfl) rfl (by rfl) (fun K hK => ?_)
      go_simp
      go_at_call 57
      refine (number13_any R ⟨p.2.toArray⟩ fine _ _ _ HSc.out (HT.out _ HU.out) (by rw [Lib.size_eq]; exact hx2) hf1 hf2).mono ?_
      rintro e w8 ⟨rfl, h8, u8⟩
      have x0 := (HPB.out.upd u8 (by omega)).cell (j := 0) rfl
      have x1 := (HPB.out.upd u8 (by omega)).cell (j := 1) rfl
      have HPB := Lib.hid (HPB.out.upd u8 (by omega))
      have HSc := Lib.hid h8
      have HO := Lib.hid (own_upd HO.out u8 (by omega))
      have HU := Lib.hid (HU.out.trans u8)
      have hz8 : P < w8.heap.size := HPB.out.lt
      clear h8 u8
      clear hHeld
      refine hK.out _ _ ?hS8 (fun hHeld => ?_)
      case hS8 => ((try dsimp only); exact ⟨x0, x1⟩)
      clear hK K
      (try simp only [Act.put, List.setIfInBounds_toArray, List.set_cons_zero, List.set_cons_succ])
      refine takeL 9 (v := ?_) rfl (by kernel_rfl) (by kernel_rfl) (by kernel_rfl) (fun _ _ _ h => h) (by rfl) (by assumption) ?hy9 ?_
      case hy9 => (intro w hSw; (try dsimp only at hSw); go_simp; all_goals (with_reducible rfl))
      (try simp only [Act.put, List.setIfInBounds_toArray, List.set_cons_zero, List.set_cons_succ])
      refine consL 10 (by kernel_rfl) rfl (by rfl) (fun K hK => ?_)
      go_simp
      have hal : Below w8.heap.size w8 (w8.alloc (.cells #[.int .i64 (one fine p).1, .int .i64 (one fine p).2] tP)) := (Below.refl _ w8).alloc (Nat.le_refl _) _
      have HPB := Lib.hid (HPB.out.call hal)
      have x0 := HPB.out.cell (j := 0) rfl
      have x1 := HPB.out.cell (j := 1) rfl
      have HSc := Lib.hid (HSc.out.call hal)
      have HO := Lib.hid (own_call HO.out hal)
      have HU := Lib.hid (HU.out.call hal)
      have hown := HO.out
      clear hal
      clear hHeld
      refine hK.out _ _ ?hS10 (fun hHeld => ?_)
      case hS10 => ((try dsimp only); exact ⟨x0, x1⟩)
      clear hK K
      (try simp only [Act.put, List.setIfInBounds_toArray, List.set_cons_zero, List.set_cons_succ])
      refine consL 11 (by kernel_rfl) rfl (by rfl) (fun K hK => ?_)
      refine wp_append2 _ _ _ tL rfl w.heap.size tP (.agg #[.int .i64 0, .int .i64 0]) 2 16 Tryz.underlying34 info_point rfl (by decide) (.slice av i capv) i _ rfl hown _ _ 1 [.int .i64 (one fine p).1, .int .i64 (one fine p).2] rfl (reads_new _ _ _ 1 1 (by decide) (by decide)) rfl (by simp [Value.oneCell']) (by unfold maxLen; omega) (by omega) (by simp; omega) ?_
      intro v' w11 hown2 hgrow hmov
      obtain ⟨a2, cap2, rfl⟩ := own_form hown2
      have HPB := Lib.hid (HPB.out.grown hgrow hPn)
      have x0 := HPB.out.cell (j := 0) rfl
      have x1 := HPB.out.cell (j := 1) rfl
      have HSc := Lib.hid (HSc.out.appended hown (by omega) hgrow)
      have HU := Lib.hid (HU.out.grown hgrow (fun k e => (hown.lt k e).1))
      have HO := Lib.hid hown2
      clear hown hown2 hgrow hmov
      clear hHeld
      refine hK.out _ _ ?hS11 (fun hHeld => ?_)
      case hS11 => ((try dsimp only); exact ⟨x0, x1⟩)
      clear hK K
      (try simp only [Act.put, List.setIfInBounds_toArray, List.set_cons_zero, List.set_cons_succ])
      refine takeL 12 (v := ?_) rfl (by kernel_rfl) (by kernel_rfl) (by kernel_rfl) (fun _ _ _ h => h) (by rfl) (by assumption) ?hy12 ?_
      case hy12 => (intro w hSw; (try dsimp only at hSw); go_simp; all_goals (with_reducible rfl))
      (try simp only [Act.put, List.setIfInBounds_toArray, List.set_cons_zero, List.set_cons_succ])
      refine wpAnyH_done (by kernel_rfl) ?_ _
      clear x0 x1 hHeld HPB
      go_wp2_with fail
      go_roundg q
      case measure => omega
      case rel => exact ⟨i + 1, a2, cap2, _, _, by have := HQ.out; omega, rfl, by first | rfl | simp, by unfold Hid; rw [Hst.out]; exact HO.out, HSc, Hpb2, HU⟩
end Go.Proofs.YtfbdkjonjpanfaaGreatDoor

set_option linter.unusedVariables false
set_option linter.unusedSimpArgs false
namespace Go.Proofs.YtfbdkjonjpanfaaGreatDoor
open Go.RowKit Go.Rg Ft
attribute [local go_sem] Oper.semAt_some

/-- below a block all but two blocks stay -/
structure Up2 (B D R : Nat) (W W' : World) : Prop where
  os : W'.os = W.os
  tape : W'.tape = W.tape
  output : W'.output = W.output
  size : W.heap.size ≤ W'.heap.size
  same : ∀ k, k < B → k ≠ D → k ≠ R → W'.heap[k]? = W.heap[k]?
theorem Up2.refl (B D R : Nat) (W : World) : Up2 B D R W W := ⟨rfl, rfl, rfl, Nat.le_refl _, fun _ _ _ _ => rfl⟩
theorem Up2.trans {B D R : Nat} {a b c : World} (h : Up2 B D R a b) (k : Up2 B D R b c) : Up2 B D R a c :=
  ⟨k.os.trans h.os, k.tape.trans h.tape, k.output.trans h.output, Nat.le_trans h.size k.size, fun i hi hd hr => (k.same i hi hd hr).trans (h.same i hi hd hr)⟩
theorem Up2.upd {B D R : Nat} {a b : World} (h : Upd R a b) (hB : B ≤ a.heap.size) : Up2 B D R a b := ⟨h.os, h.tape, h.output, h.size, fun k hk _ hr => h.same k hr (by omega)⟩
theorem Up2.call {B D R : Nat} {a b : World} (h : Below a.heap.size a b) (hB : B ≤ a.heap.size) : Up2 B D R a b := .upd (.of_below h) hB
theorem Up2.grown {B D R : Nat} {a b : World} {row : Option Nat} (h : a.grownBy b row) (hB : B ≤ a.heap.size) (hr : ∀ g, row = some g → B ≤ g) : Up2 B D R a b :=
  ⟨h.os, h.tape, h.output, h.size, fun k hk _ _ => h.block k (by omega) (fun e => by have := hr k e.symm; omega)⟩
theorem Up2.set {B D R : Nat} (a : World) (o : Nat) (v : Value) : Up2 B D R a (a.setCell ⟨D, o, none⟩ v) :=
  ⟨rfl, rfl, rfl, by simp [World.setCell], fun k hk hd _ => Below.heap_setCell a ⟨D, o, none⟩ v k hd⟩
theorem Up2.below {B D R C : Nat} {a b : World} (h : Up2 B D R a b) (h1 : C ≤ B) (h2 : C ≤ D) (h3 : C ≤ R) : Below C a b :=
  ⟨h.os, h.tape, h.output, h.size, fun k hk => h.same k (by omega) (by omega) (by omega)⟩
theorem set3_at {cs : List Value} {o : Nat} (h : o + 2 < cs.length) (a b c : Value) : (((cs.set o a).set (o + 1) b).set (o + 2) c)[o]? = some a ∧ (((cs.set o a).set (o + 1) b).set (o + 2) c)[o + 1]? = some b ∧ (((cs.set o a).set (o + 1) b).set (o + 2) c)[o + 2]? = some c := by
  refine ⟨?_, ?_, ?_⟩
  · rw [List.getElem?_set_ne (by omega), List.getElem?_set_ne (by omega), List.getElem?_set_self (by omega)]
  · rw [List.getElem?_set_ne (by omega), List.getElem?_set_self (by simp; omega)]
  · rw [List.getElem?_set_self (by simp; omega)]
theorem set3_0 {cs : List Value} {o : Nat} (a b c a' : Value) : (((cs.set o a).set (o + 1) b).set (o + 2) c).set o a' = ((cs.set o a').set (o + 1) b).set (o + 2) c := by
  rw [List.set_comm c a' (by omega : o + 2 ≠ o), List.set_comm b a' (by omega : o + 1 ≠ o), List.set_set]
theorem set3_1 {cs : List Value} {o : Nat} (a b c b' : Value) : (((cs.set o a).set (o + 1) b).set (o + 2) c).set (o + 1) b' = ((cs.set o a).set (o + 1) b').set (o + 2) c := by
  rw [List.set_comm c b' (by omega : o + 2 ≠ o + 1), List.set_set]
theorem set3_2 {cs : List Value} {o : Nat} (a b c c' : Value) : (((cs.set o a).set (o + 1) b).set (o + 2) c).set (o + 2) c' = ((cs.set o a).set (o + 1) b).set (o + 2) c' := by rw [List.set_set]
theorem set3_same {cs : List Value} {o : Nat} {a b c : Value} (h0 : cs[o]? = some a) (h1 : cs[o + 1]? = some b) (h2 : cs[o + 2]? = some c) : ((cs.set o a).set (o + 1) b).set (o + 2) c = cs := by
  have e : ∀ (l : List Value) (i : Nat) (x : Value), l[i]? = some x → l.set i x = l := by
    intro l i x h
    apply List.ext_getElem?
    intro j
    rw [List.getElem?_set]
    split
    · rename_i hij; subst hij
      have := (List.getElem?_eq_some_iff.1 h).1
      rw [if_pos this, h]
    · rfl
  rw [e cs o a h0, e cs (o + 1) b h1, e cs (o + 2) c h2]
theorem add_sizes (fine kind : Int) (f : Fe) (ls : List (List Wk.Pr)) (i : Nat) (l : List Wk.Pr) (hl : ls[i]? = some l) (h : f.pts.length + (ls.map List.length).sum ≤ 100000000) :
    Hid ((addG fine kind f (ls.take i)).pts.length + l.length ≤ 100000000 ∧ (addG fine kind f (ls.take i)).lines.length ≤ f.lines.length + i ∧ (addG fine kind f (ls.take i)).rings.length ≤ f.rings.length + i) := by
  have key : ∀ (ms : List (List Wk.Pr)) (f : Fe), (addG fine kind f ms).pts.length ≤ f.pts.length + (ms.map List.length).sum ∧ (addG fine kind f ms).lines.length ≤ f.lines.length + ms.length ∧ (addG fine kind f ms).rings.length ≤ f.rings.length + ms.length := by
    intro ms
    induction ms with
    | nil => intro f; simp [addG]
    | cons m ms ih =>
      intro f
      have h1 := ih (Ft.addL kind f (scl fine m))
      have h2 : (Ft.addL kind f (scl fine m)).pts.length ≤ f.pts.length + m.length ∧ (Ft.addL kind f (scl fine m)).lines.length ≤ f.lines.length + 1 ∧ (Ft.addL kind f (scl fine m)).rings.length ≤ f.rings.length + 1 := by
        unfold Ft.addL
        repeat' split
        all_goals simp [scl_len]
        all_goals omega
      have e : addG fine kind f (m :: ms) = addG fine kind (Ft.addL kind f (scl fine m)) ms := rfl
      rw [e]
      simp only [List.map_cons, List.sum_cons, List.length_cons]
      omega
  have h1 := key (ls.take i) f
  have hi : i < ls.length := (List.getElem?_eq_some_iff.1 hl).1
  have hs : ((ls.take i).map List.length).sum + l.length ≤ (ls.map List.length).sum := by
    have e : ls = ls.take i ++ (l :: ls.drop (i + 1)) := by
      have h2 := (List.getElem?_eq_some_iff.1 hl)
      obtain ⟨h3, h4⟩ := h2
      rw [← h4, ← List.drop_eq_getElem_cons h3, List.take_append_drop]
    have e2 := congrArg (fun x => (x.map List.length).sum) e
    simp only [List.map_append, List.sum_append, List.map_cons, List.sum_cons] at e2
    omega
  have hlen : (ls.take i).length = i := by rw [List.length_take]; omega
  rw [hlen] at h1
  exact ⟨by omega, h1.2.1, h1.2.2⟩
theorem _root_.Go.Rg.Blk.not_own {w : World} {b : Nat} {cs : List Value} {T e : TypeId} {base size n : Nat} {v : Value} {xs : List Value} (h : Blk w b cs T) (ho : w.ownsRow base e size v n xs) (hT : e ≠ T) : some b ≠ v.ownBlock := by
  intro hb
  rcases ho.2 with ⟨rfl, _⟩ | ⟨g, cap, cur, rfl, _, hg, _⟩
  · cases hb
  · cases hb
    unfold Blk at h
    rw [hg] at h
    cases h
    exact hT rfl
theorem info_pts : (Tryz.prog.info? 34).map (fun i => (i.zero, i.size, i.bytes)) = some (some (.slice none 0 0), 1, 24) := by kernel_rfl

set_option maxRecDepth 100000 in
set_option maxHeartbeats 8000000 in
theorem add13_any (D o R B : Nat) (g : GA) (glv gzv : Value) (fine : Int) (p0 r0 : Bool) (cs : List Value) (pv0 lv0 rv0 : Value) (f : Fe) (vs0 us0 : List Value) (w0 w : World)
    (hD : Blk w D cs tF) (hc : cs[o]? = some pv0 ∧ cs[o + 1]? = some lv0 ∧ cs[o + 2]? = some rv0) (hL : Last w B pv0 lv0 rv0 f vs0 us0) (hS : Sc w R fine p0 r0) (hg : BdA w0 glv gzv g) (ht : Tabs w0) (hw0 : Below w0.heap.size w0 w)
    (hR0 : w0.heap.size ≤ R) (hD0 : w0.heap.size ≤ D) (hDB : D < B) (hRB : R < B) (hBw : B ≤ w.heap.size) (hDR : D ≠ R) (hfl : g.lists.length ≤ 1000000) (hfx : ∀ l ∈ g.lists, l.length ≤ 1000000 ∧ ∀ p ∈ l, p.1.length ≤ 100000 ∧ p.2.length ≤ 100000)
    (hfp : f.pts.length + (g.lists.map List.length).sum ≤ 100000000) (hfn : f.lines.length + g.lists.length ≤ 100000000) (hfr : f.rings.length + g.lists.length ≤ 100000000) (hf1 : -9223372036854775808 ≤ fine) (hf2 : fine ≤ 9223372036854775807) :
    Calls Tryz.prog 21 #[.pointer (some ⟨D, o, none⟩), gaV g glv gzv, .pointer (some ⟨R, 0, none⟩)] w fun e w' => ∃ pv lv rv vs us, e = .returned (.tuple #[]) ∧ Last w' B pv lv rv (addG fine g.kind f g.lists) vs us ∧ Blk w' D (((cs.set o pv).set (o + 1) lv).set (o + 2) rv) tF ∧
      Sc w' R fine (p0 || errL 22 fine g.lists) (r0 || errL 23 fine g.lists) ∧ Up2 B D R w w' := by
  obtain ⟨kk, lev, ls, ss⟩ := g
  obtain ⟨vs, hvl, hl, hvs, hzs⟩ := hg
  simp only at hvl hl hvs hzs hfl hfx hfp hfn hfr
  obtain ⟨la, lc, rfl, hlm⟩ := hl.form
  obtain ⟨za, zc, rfl, hzm⟩ := hzs.form
  obtain ⟨n, hnn⟩ : ∃ n, n = ls.length := ⟨_, rfl⟩
  unfold gaV
  simp only
  rw [← hnn] at hl hlm hfl hfn hfr ⊢
  have Hn := Lib.hid hnn
  have Hl := Lib.hid hl
  have Hvs := Lib.hid hvs
  have HT := Lib.hid ht
  have HW0 := Lib.hid hw0
  have HX := Lib.hid hfx
  have HFP := Lib.hid hfp
  have Hcs : o + 2 < cs.length := (List.getElem?_eq_some_iff.1 hc.2.2).1
  unfold maxLen at hlm hzm
  have hD3 : Blk w D (((cs.set o pv0).set (o + 1) lv0).set (o + 2) rv0) tF := by rw [set3_same hc.1 hc.2.1 hc.2.2]; exact hD
  have hzz : w0.heap.size ≤ w.heap.size := hw0.size
  clear hnn hl hvs ht hw0 hfx hfp hc hD
  go_enter Tryz.func21, Tryz.ntmps21
  go_wp2_with fail
  obtain ⟨W, hW⟩ : ∃ W, w.alloc (.cells #[.int .i64 kk, .int .i64 lev, .slice la n lc, .slice za ss.length zc] 33) = W := ⟨_, rfl⟩
  have hbW : Below w.heap.size w W := hW ▸ (Below.refl _ w).alloc (Nat.le_refl _) _
  have HG : Hid (Blk W w.heap.size [.int .i64 kk, .int .i64 lev, .slice la n lc, .slice za ss.length zc] 33) := hW ▸ Blk.new w _ _
  have HL := Lib.hid (hL.call hbW)
  have HD := Lib.hid (hD3.call hbW)
  have HS := Lib.hid (hS.call hbW)
  have HU : Hid (Up2 B D R w W) := Up2.call hbW hBw
  rw [hW]
  clear hW hbW hL hD3 hS
  obtain ⟨G, hG⟩ : ∃ G, G = w.heap.size := ⟨_, rfl⟩
  have HGe := Lib.hid hG
  have hBG : B ≤ G := by omega
  rw [← hG] at HG ⊢
  have q0 := HG.out.cell (j := 0) rfl
  have q1 := HG.out.cell (j := 1) rfl
  have q2 := HG.out.cell (j := 2) rfl
  have q3 := HG.out.cell (j := 3) rfl
  clear hG
  go_wp2_with fail
  go_loopg [12] n (fun q s12 wx => ∃ (i : Nat) (pv lv rv : Value) (vs us : List Value) (pb rb : Bool), i + q = n ∧ s12 = .int .i64 (i : Int) ∧ Hid (Last wx B pv lv rv (addG fine kk f (ls.take i)) vs us) ∧ Hid (Blk wx D (((cs.set o pv).set (o + 1) lv).set (o + 2) rv) tF) ∧ Hid (Sc wx R fine pb rb) ∧
    Hid (pb = (p0 || errL 22 fine (ls.take i)) ∧ rb = (r0 || errL 23 fine (ls.take i))) ∧ Hid (Blk wx G [.int .i64 kk, .int .i64 lev, .slice la n lc, .slice za ss.length zc] 33) ∧ Hid (Up2 B D R w wx) ∧ G < wx.heap.size)
  case atStart => exact ⟨0, pv0, lv0, rv0, vs0, us0, p0, r0, by omega, rfl, HL, HD, HS, by unfold Hid; simp [errL], HG, HU, HG.out.lt⟩
  case round =>
    clear HL HD HS HG HU q0 q1 q2 q3
    obtain ⟨i, pv, lv, rv, vs1, us1, pb, rb, hq, rfl, HL, HD, HS, Hpb, HG, HU, hGx⟩ := hrel
    have q0 := HG.out.cell (j := 0) rfl
    have q2 := HG.out.cell (j := 2) rfl
    cases gk with
    | zero =>
      have hin : i = n := by omega
      subst hin
      have hfull : ls.take i = ls := by rw [Hn.out, List.take_length]
      rw [hfull] at HL Hpb
      obtain ⟨rfl, rfl⟩ := Hpb.out
      clear hfull
      go_wp2_with fail
      refine bodyPost_end (v := .tuple #[]) (by simp [results, Tryz.results21, go_sem, *]) rfl ⟨rfl, _, _, _, ⟨_, _, HL.out⟩, HD.out, HS.out, HU.out⟩
    | succ q =>
      have hin : i < n := by omega
      obtain ⟨l, hl⟩ : ∃ l, ls[i]? = some l := ⟨_, List.getElem?_eq_getElem (by rw [← Hn.out]; exact hin)⟩
      have HQ := Lib.hid hq
      -- the list as it lies in the beginning, and now
      have hwr0 : Below w0.heap.size w0 wr := HW0.out.trans (HU.out.below (by omega) hD0 hR0)
      obtain ⟨u, hu, hur⟩ := Hvs.out i l hl
      have hur2 : RdC wr u l.length (flatP l) := hur.call hwr0
      obtain ⟨a', c', e', _, ho'⟩ := Hl.out
      cases e'
      obtain ⟨g1, o1, rfl, h1, h2, h3, h4⟩ := ho' (fun e => by rw [e] at hu; simp at hu)
      have y1 : wr.cell? ⟨g1, o1 + i, none⟩ = some u := (hwr0.cell (p := ⟨g1, o1 + i, none⟩) h3).trans (h4 _ _ hu)
      obtain ⟨hl6, hlx⟩ := HX.out l (List.mem_of_getElem? hl)
      have Hsum : Hid ((addG fine kk f (ls.take i)).pts.length + l.length ≤ 100000000 ∧ (addG fine kk f (ls.take i)).lines.length ≤ f.lines.length + i ∧ (addG fine kk f (ls.take i)).rings.length ≤ f.rings.length + i) := add_sizes fine kk f ls i l hl HFP.out
      have Hst : Hid (addG fine kk f (ls.take (i + 1)) = Ft.addL kk (addG fine kk f (ls.take i)) (scl fine l)) := addG_take fine kk f ls i l hl
      have Hpb2 : Hid ((pb || errs 22 fine l) = (p0 || errL 22 fine (ls.take (i + 1))) ∧ (rb || errs 23 fine l) = (r0 || errL 23 fine (ls.take (i + 1)))) := by
        unfold Hid
        rw [errL_take 22 fine ls i l hl, errL_take 23 fine ls i l hl, Hpb.out.1, Hpb.out.2]
        constructor <;> simp only [or3]
      have HLi := Lib.hid (list13_any R u l fine pb rb wr HS.out hur2 (fun p hp g hg => by
          obtain ⟨a'', c'', e'', _, ho''⟩ := hur
          subst e''
          obtain ⟨g2, o2, rfl, _, _, h5, _⟩ := ho'' (fun e => by
            cases l with
            | nil => cases hp
            | cons p' l => have h7 := (flatP_at2 (p' :: l) 0 p' rfl).1; rw [e] at h7; cases h7)
          have e9 : g2 = g := by simpa [Value.ownBlock] using hg
          omega) (fun X hX => HT.out.below (hwr0.trans (hX.below hR0 hwr0.size)) (Nat.le_refl _)) hl6 hlx hf1 hf2)
      unfold maxLen at h2
      clear h4 hu hur hur2 ho' hl Hpb hq hlx
      go_wp2_with fail
      refine HLi.out.mono ?_
      rintro e w1 ⟨u1, rfl, ho1, hs1, hu1⟩
      obtain ⟨b1, k1, rfl⟩ := own_form ho1
      have hkT : ∀ T, 74 ≠ T → KeepT T wr w1 := fun T hT => KeepT.upd HS.out hT hu1
      have hpB : ∀ g, pv.ownBlock = some g → g < wr.heap.size := fun g e => (HL.out.op.lt g e).2
      have HL1 := Lib.hid (HL.out.keep (hkT _ (by decide)) (hkT _ (by decide)))
      have HD1 := Lib.hid (HD.out.upd hu1 hDR)
      have HG1 := Lib.hid (HG.out.upd hu1 (by omega))
      have HS1 := Lib.hid hs1
      have hwx : w.heap.size ≤ wr.heap.size := HU.out.size
      have HU1 := Lib.hid (HU.out.trans (Up2.upd hu1 (by omega)))
      have HO1 := Lib.hid ho1
      have hne1 : ∀ g, (Value.slice b1 (scl fine l).length k1).ownBlock = some g → pv.ownBlock ≠ some g := fun g e e2 => by
        have := (ho1.lt g (by rw [scl_len] at e; exact e)).1
        have := hpB g e2
        omega
      have Hne := Lib.hid hne1
      have hg1x : G < w1.heap.size := HG1.out.lt
      have q0 := HG1.out.cell (j := 0) rfl
      have hDx := HD1.out.lt
      have df := HD1.out.frozen
      obtain ⟨d0, d1, d2⟩ := set3_at (cs := cs) Hcs pv lv rv
      have c0 := HD1.out.cell d0
      have c1 := HD1.out.cell d1
      have c2 := HD1.out.cell d2
      clear ho1 hs1 hu1 hkT hpB HL HD HG HS HU HLi q2 y1 d0 d1 d2 hne1
      by_cases h0 : l.length = 0
      · have hl0 : l = [] := List.eq_nil_of_length_eq_zero h0
        have hst : addG fine kk f (ls.take (i + 1)) = addG fine kk f (ls.take i) := by rw [Hst.out, hl0]; unfold Ft.addL scl; simp
        have Hst2 := Lib.hid hst
        rw [h0]
        clear hst hl0 c0 c1 c2
        go_wp2_with fail
        go_roundg q
        case measure => omega
        case rel => exact ⟨i + 1, pv, lv, rv, vs1, us1, _, _, by have := HQ.out; omega, by first | rfl | simp, by unfold Hid; rw [Hst2.out]; exact HL1.out, HD1, HS1, Hpb2, HG1, HU1, hg1x⟩
      · have hne0 : ((l.length : Int) == 0) = false := by rw [beq_eq_false_iff_ne]; omega
        have hnl : scl fine l ≠ [] := fun e => h0 (by have := congrArg List.length e; rw [scl_len] at this; exact this)
        obtain ⟨m, hm⟩ : ∃ m, m = l.length := ⟨_, rfl⟩
        rw [← hm] at hne0 HO1 hl6 ⊢
        have Hm := Lib.hid hm
        have Hnl := Lib.hid hnl
        clear h0 hm hnl
        by_cases hk1 : kk = 1 ∨ kk = 4
        · have hst : Ft.addL kk (addG fine kk f (ls.take i)) (scl fine l) = { addG fine kk f (ls.take i) with pts := (addG fine kk f (ls.take i)).pts ++ scl fine l } := by unfold Ft.addL; rw [if_neg Hnl.out, if_pos hk1]
          have Hst2 : Hid (addG fine kk f (ls.take (i + 1)) = _) := Hst.out.trans hst
          obtain ⟨F, hF⟩ : ∃ F, F = addG fine kk f (ls.take i) := ⟨_, rfl⟩
          rw [← hF] at HL1 Hst2 Hsum
          obtain ⟨k, hk⟩ : ∃ k, k = F.pts.length := ⟨_, rfl⟩
          have hown := HL1.out.op
          rw [← hk] at hown
          obtain ⟨pa, pc, rfl⟩ := own_form hown
          have hk8 : k + m ≤ 100000000 := by have := Hsum.out.1; rw [← hk, ← Hm.out] at this; exact this
          have Hk := Lib.hid hk
          have hrd : Reads w1 w1.heap.size (.slice b1 m k1) m (flat (scl fine l)) := Reads.of_own HO1.out
          have hnf : (flat (scl fine l)).length = m * 2 := by rw [flat_len, scl_len, ← Hm.out]
          have hBx : B ≤ w1.heap.size := by omega
          clear hst hF hk Hst
          rcases hk1 with rfl | rfl
          · go_wp2_with (at_builtin; refine wpList_append2 _ rfl _ _ tL rfl B tP (.agg #[.int .i64 0, .int .i64 0]) 2 16 Tryz.underlying34 info_point rfl (by decide) (.slice pa k pc) k _ rfl hown _ w1.heap.size m (flat (scl fine l)) rfl hrd hnf (flat_one _) ?e3 ?e4 ?e5 ?_)
            case e3 => unfold maxLen; omega
            case e4 => omega
            case e5 => exact hBx
            intro v' w2 hown2 hgrow hmov
            have HL2 := Lib.hid (HL1.out.addP (l := scl fine l) (by rw [← Hk.out, scl_len, ← Hm.out]; exact hown2) hgrow hmov)
            have hrow : ∀ g, (Value.slice pa k pc).ownBlock = some g → B ≤ g := fun g e => (hown.lt g e).1
            have HD2 := Lib.hid (HD1.out.grown hgrow (fun e => by have := hrow _ e.symm; omega))
            have HG2 := Lib.hid (HG1.out.grown hgrow (HG1.out.not_own hown (by decide)))
            have HS2 := Lib.hid (HS1.out.grown hgrow (fun e => by have := hrow _ e.symm; omega))
            have HU2 := Lib.hid (HU1.out.trans (Up2.grown hgrow hBx hrow))
            obtain ⟨pa2, pc2, rfl⟩ := own_form hown2
            have HD3 : Hid (Blk (w2.setCell ⟨D, o, none⟩ (.slice pa2 (k + m) pc2)) D (((cs.set o (.slice pa2 (k + m) pc2)).set (o + 1) lv).set (o + 2) rv) tF) := by unfold Hid; rw [← set3_0 (.slice pa k pc) lv rv (.slice pa2 (k + m) pc2)]; exact HD2.out.set (o) (.slice pa2 (k + m) pc2)
            have HL3 := Lib.hid (HL2.out.keep (KeepT.set (T' := tF) ⟨D, o, none⟩ HD2.out (by decide) (.slice pa2 (k + m) pc2)) (KeepT.set (T' := tF) ⟨D, o, none⟩ HD2.out (by decide) (.slice pa2 (k + m) pc2)))
            have HG3 := Lib.hid (HG2.out.other ⟨D, o, none⟩ (by show G ≠ D; omega) (.slice pa2 (k + m) pc2))
            have HS3 := Lib.hid (HS2.out.other ⟨D, o, none⟩ (by show R ≠ D; omega) (.slice pa2 (k + m) pc2))
            have HU3 := Lib.hid (HU2.out.trans (Up2.set w2 (o) (.slice pa2 (k + m) pc2)))
            have hg3 : G < (w2.setCell ⟨D, o, none⟩ (.slice pa2 (k + m) pc2)).heap.size := HG3.out.lt
            have c0 := HD2.out.cell (set3_at (cs := cs) Hcs (.slice pa k pc) lv rv).1
            have c1 := HD2.out.cell (set3_at (cs := cs) Hcs (.slice pa k pc) lv rv).2.1
            have c2 := HD2.out.cell (set3_at (cs := cs) Hcs (.slice pa k pc) lv rv).2.2
            have df := HD2.out.frozen
            clear hown hown2 hgrow hmov hrow hrd hnf HL1 HD1 HG1 HS1 HU1 HL2 HG2 HS2 HU2 HD2 HO1 hBx
            go_wp2_with fail
            go_roundg q
            case measure => omega
            case rel => exact ⟨i + 1, _, lv, rv, vs1, us1, _, _, by have := HQ.out; omega, by first | rfl | simp, by unfold Hid; rw [Hst2.out]; exact HL3.out, HD3, HS3, Hpb2, HG3, HU3, hg3⟩
          · go_wp2_with (at_builtin; refine wpList_append2 _ rfl _ _ tL rfl B tP (.agg #[.int .i64 0, .int .i64 0]) 2 16 Tryz.underlying34 info_point rfl (by decide) (.slice pa k pc) k _ rfl hown _ w1.heap.size m (flat (scl fine l)) rfl hrd hnf (flat_one _) ?e3 ?e4 ?e5 ?_)
            case e3 => unfold maxLen; omega
            case e4 => omega
            case e5 => exact hBx
            intro v' w2 hown2 hgrow hmov
            have HL2 := Lib.hid (HL1.out.addP (l := scl fine l) (by rw [← Hk.out, scl_len, ← Hm.out]; exact hown2) hgrow hmov)
            have hrow : ∀ g, (Value.slice pa k pc).ownBlock = some g → B ≤ g := fun g e => (hown.lt g e).1
            have HD2 := Lib.hid (HD1.out.grown hgrow (fun e => by have := hrow _ e.symm; omega))
            have HG2 := Lib.hid (HG1.out.grown hgrow (HG1.out.not_own hown (by decide)))
            have HS2 := Lib.hid (HS1.out.grown hgrow (fun e => by have := hrow _ e.symm; omega))
            have HU2 := Lib.hid (HU1.out.trans (Up2.grown hgrow hBx hrow))
            obtain ⟨pa2, pc2, rfl⟩ := own_form hown2
            have HD3 : Hid (Blk (w2.setCell ⟨D, o, none⟩ (.slice pa2 (k + m) pc2)) D (((cs.set o (.slice pa2 (k + m) pc2)).set (o + 1) lv).set (o + 2) rv) tF) := by unfold Hid; rw [← set3_0 (.slice pa k pc) lv rv (.slice pa2 (k + m) pc2)]; exact HD2.out.set (o) (.slice pa2 (k + m) pc2)
            have HL3 := Lib.hid (HL2.out.keep (KeepT.set (T' := tF) ⟨D, o, none⟩ HD2.out (by decide) (.slice pa2 (k + m) pc2)) (KeepT.set (T' := tF) ⟨D, o, none⟩ HD2.out (by decide) (.slice pa2 (k + m) pc2)))
            have HG3 := Lib.hid (HG2.out.other ⟨D, o, none⟩ (by show G ≠ D; omega) (.slice pa2 (k + m) pc2))
            have HS3 := Lib.hid (HS2.out.other ⟨D, o, none⟩ (by show R ≠ D; omega) (.slice pa2 (k + m) pc2))
            have HU3 := Lib.hid (HU2.out.trans (Up2.set w2 (o) (.slice pa2 (k + m) pc2)))
            have hg3 : G < (w2.setCell ⟨D, o, none⟩ (.slice pa2 (k + m) pc2)).heap.size := HG3.out.lt
            have c0 := HD2.out.cell (set3_at (cs := cs) Hcs (.slice pa k pc) lv rv).1
            have c1 := HD2.out.cell (set3_at (cs := cs) Hcs (.slice pa k pc) lv rv).2.1
            have c2 := HD2.out.cell (set3_at (cs := cs) Hcs (.slice pa k pc) lv rv).2.2
            have df := HD2.out.frozen
            clear hown hown2 hgrow hmov hrow hrd hnf HL1 HD1 HG1 HS1 HU1 HL2 HG2 HS2 HU2 HD2 HO1 hBx
            go_wp2_with fail
            go_roundg q
            case measure => omega
            case rel => exact ⟨i + 1, _, lv, rv, vs1, us1, _, _, by have := HQ.out; omega, by first | rfl | simp, by unfold Hid; rw [Hst2.out]; exact HL3.out, HD3, HS3, Hpb2, HG3, HU3, hg3⟩
        · have n1 : (kk == 1) = false := by rw [beq_eq_false_iff_ne]; omega
          have n4 : (kk == 4) = false := by rw [beq_eq_false_iff_ne]; omega
          by_cases hk2 : kk = 2 ∨ kk = 5
          · have hst : Ft.addL kk (addG fine kk f (ls.take i)) (scl fine l) = { addG fine kk f (ls.take i) with lines := (addG fine kk f (ls.take i)).lines ++ [scl fine l] } := by unfold Ft.addL; rw [if_neg Hnl.out, if_neg hk1, if_pos hk2]
            have Hst2 : Hid (addG fine kk f (ls.take (i + 1)) = _) := Hst.out.trans hst
            obtain ⟨F, hF⟩ : ∃ F, F = addG fine kk f (ls.take i) := ⟨_, rfl⟩
            rw [← hF] at HL1 Hst2 Hsum
            obtain ⟨k, hk⟩ : ∃ k, k = F.lines.length := ⟨_, rfl⟩
            have hown := HL1.out.ol
            rw [← hk] at hown
            obtain ⟨pa, pc, rfl⟩ := own_form hown
            have hk8 : k ≤ 110000000 := by have := Hsum.out.2.1; rw [← hk] at this; omega
            have Hk := Lib.hid hk
            have hBx : B ≤ w1.heap.size := by omega
            clear hst hF hk Hst
            clear n1 n4
            rcases hk2 with rfl | rfl
            · go_wp2_with (at_builtin; refine wpList_append2 _ rfl _ _ 35 rfl B tL (.slice none 0 0) 1 24 Tryz.underlying35 info_pts rfl (by decide) (.slice pa k pc) k _ rfl (hown.alloc _) _ _ 1 [.slice b1 m k1] rfl (reads_new _ _ _ 1 1 (by decide) (by decide)) rfl ?e2 ?e3 ?e4 ?e5 ?_)
              case e2 => simp [Value.oneCell']
              case e3 => unfold maxLen; omega
              case e4 => omega
              case e5 => first | omega | (simp; omega)
              intro v' w2 hown2 hgrow hmov
              obtain ⟨wa, hwa⟩ : ∃ wa, w1.alloc (.cells #[.slice b1 m k1] tL) = wa := ⟨_, rfl⟩
              have hba : Below w1.heap.size w1 wa := hwa ▸ (Below.refl _ w1).alloc (Nat.le_refl _) _
              rw [hwa] at hgrow hmov
              have hown := own_call hown hba
              have HL1 := Lib.hid (HL1.out.call hba)
              have HD1 := Lib.hid (HD1.out.call hba)
              have HG1 := Lib.hid (HG1.out.call hba)
              have HS1 := Lib.hid (HS1.out.call hba)
              have HU1 := Lib.hid (HU1.out.trans (Up2.call hba hBx))
              have hu := RdT.of_own (own_call HO1.out hba)
              have hBx : B ≤ wa.heap.size := Nat.le_trans hBx hba.size
              clear hwa hba
              have HL2 := Lib.hid (HL1.out.addL (l := scl fine l) (u := .slice b1 m k1) (by rw [scl_len, ← Hm.out]; exact hu) (by have := Hne.out; rw [scl_len, ← Hm.out] at this; exact this) (by rw [← Hk.out]; exact hown2) hgrow hmov)
              have hrow : ∀ g, (Value.slice pa k pc).ownBlock = some g → B ≤ g := fun g e => (hown.lt g e).1
              have HD2 := Lib.hid (HD1.out.grown hgrow (fun e => by have := hrow _ e.symm; omega))
              have HG2 := Lib.hid (HG1.out.grown hgrow (HG1.out.not_own hown (by decide)))
              have HS2 := Lib.hid (HS1.out.grown hgrow (fun e => by have := hrow _ e.symm; omega))
              have HU2 := Lib.hid (HU1.out.trans (Up2.grown hgrow hBx hrow))
              obtain ⟨pa2, pc2, rfl⟩ := own_form hown2
              have HD3 : Hid (Blk (w2.setCell ⟨D, o + 1, none⟩ (.slice pa2 (k + 1) pc2)) D (((cs.set o pv).set (o + 1) (.slice pa2 (k + 1) pc2)).set (o + 2) rv) tF) := by unfold Hid; rw [← set3_1 pv (.slice pa k pc) rv (.slice pa2 (k + 1) pc2)]; exact HD2.out.set (o + 1) (.slice pa2 (k + 1) pc2)
              have HL3 := Lib.hid (HL2.out.keep (KeepT.set (T' := tF) ⟨D, o + 1, none⟩ HD2.out (by decide) (.slice pa2 (k + 1) pc2)) (KeepT.set (T' := tF) ⟨D, o + 1, none⟩ HD2.out (by decide) (.slice pa2 (k + 1) pc2)))
              have HG3 := Lib.hid (HG2.out.other ⟨D, o + 1, none⟩ (by show G ≠ D; omega) (.slice pa2 (k + 1) pc2))
              have HS3 := Lib.hid (HS2.out.other ⟨D, o + 1, none⟩ (by show R ≠ D; omega) (.slice pa2 (k + 1) pc2))
              have HU3 := Lib.hid (HU2.out.trans (Up2.set w2 (o + 1) (.slice pa2 (k + 1) pc2)))
              have hg3 : G < (w2.setCell ⟨D, o + 1, none⟩ (.slice pa2 (k + 1) pc2)).heap.size := HG3.out.lt
              have c0 := HD2.out.cell (set3_at (cs := cs) Hcs pv (.slice pa k pc) rv).1
              have c1 := HD2.out.cell (set3_at (cs := cs) Hcs pv (.slice pa k pc) rv).2.1
              have c2 := HD2.out.cell (set3_at (cs := cs) Hcs pv (.slice pa k pc) rv).2.2
              have df := HD2.out.frozen
              clear hown hown2 hgrow hmov hrow hu HL1 HD1 HG1 HS1 HU1 HL2 HG2 HS2 HU2 HD2 HO1 hBx
              go_wp2_with fail
              go_roundg q
              case measure => omega
              case rel => exact ⟨i + 1, pv, _, rv, _, us1, _, _, by have := HQ.out; omega, by first | rfl | simp, by unfold Hid; rw [Hst2.out]; exact HL3.out, HD3, HS3, Hpb2, HG3, HU3, hg3⟩
            · go_wp2_with (at_builtin; refine wpList_append2 _ rfl _ _ 35 rfl B tL (.slice none 0 0) 1 24 Tryz.underlying35 info_pts rfl (by decide) (.slice pa k pc) k _ rfl (hown.alloc _) _ _ 1 [.slice b1 m k1] rfl (reads_new _ _ _ 1 1 (by decide) (by decide)) rfl ?e2 ?e3 ?e4 ?e5 ?_)
              case e2 => simp [Value.oneCell']
              case e3 => unfold maxLen; omega
              case e4 => omega
              case e5 => first | omega | (simp; omega)
              intro v' w2 hown2 hgrow hmov
              obtain ⟨wa, hwa⟩ : ∃ wa, w1.alloc (.cells #[.slice b1 m k1] tL) = wa := ⟨_, rfl⟩
              have hba : Below w1.heap.size w1 wa := hwa ▸ (Below.refl _ w1).alloc (Nat.le_refl _) _
              rw [hwa] at hgrow hmov
              have hown := own_call hown hba
              have HL1 := Lib.hid (HL1.out.call hba)
              have HD1 := Lib.hid (HD1.out.call hba)
              have HG1 := Lib.hid (HG1.out.call hba)
              have HS1 := Lib.hid (HS1.out.call hba)
              have HU1 := Lib.hid (HU1.out.trans (Up2.call hba hBx))
              have hu := RdT.of_own (own_call HO1.out hba)
              have hBx : B ≤ wa.heap.size := Nat.le_trans hBx hba.size
              clear hwa hba
              have HL2 := Lib.hid (HL1.out.addL (l := scl fine l) (u := .slice b1 m k1) (by rw [scl_len, ← Hm.out]; exact hu) (by have := Hne.out; rw [scl_len, ← Hm.out] at this; exact this) (by rw [← Hk.out]; exact hown2) hgrow hmov)
              have hrow : ∀ g, (Value.slice pa k pc).ownBlock = some g → B ≤ g := fun g e => (hown.lt g e).1
              have HD2 := Lib.hid (HD1.out.grown hgrow (fun e => by have := hrow _ e.symm; omega))
              have HG2 := Lib.hid (HG1.out.grown hgrow (HG1.out.not_own hown (by decide)))
              have HS2 := Lib.hid (HS1.out.grown hgrow (fun e => by have := hrow _ e.symm; omega))
              have HU2 := Lib.hid (HU1.out.trans (Up2.grown hgrow hBx hrow))
              obtain ⟨pa2, pc2, rfl⟩ := own_form hown2
              have HD3 : Hid (Blk (w2.setCell ⟨D, o + 1, none⟩ (.slice pa2 (k + 1) pc2)) D (((cs.set o pv).set (o + 1) (.slice pa2 (k + 1) pc2)).set (o + 2) rv) tF) := by unfold Hid; rw [← set3_1 pv (.slice pa k pc) rv (.slice pa2 (k + 1) pc2)]; exact HD2.out.set (o + 1) (.slice pa2 (k + 1) pc2)
              have HL3 := Lib.hid (HL2.out.keep (KeepT.set (T' := tF) ⟨D, o + 1, none⟩ HD2.out (by decide) (.slice pa2 (k + 1) pc2)) (KeepT.set (T' := tF) ⟨D, o + 1, none⟩ HD2.out (by decide) (.slice pa2 (k + 1) pc2)))
              have HG3 := Lib.hid (HG2.out.other ⟨D, o + 1, none⟩ (by show G ≠ D; omega) (.slice pa2 (k + 1) pc2))
              have HS3 := Lib.hid (HS2.out.other ⟨D, o + 1, none⟩ (by show R ≠ D; omega) (.slice pa2 (k + 1) pc2))
              have HU3 := Lib.hid (HU2.out.trans (Up2.set w2 (o + 1) (.slice pa2 (k + 1) pc2)))
              have hg3 : G < (w2.setCell ⟨D, o + 1, none⟩ (.slice pa2 (k + 1) pc2)).heap.size := HG3.out.lt
              have c0 := HD2.out.cell (set3_at (cs := cs) Hcs pv (.slice pa k pc) rv).1
              have c1 := HD2.out.cell (set3_at (cs := cs) Hcs pv (.slice pa k pc) rv).2.1
              have c2 := HD2.out.cell (set3_at (cs := cs) Hcs pv (.slice pa k pc) rv).2.2
              have df := HD2.out.frozen
              clear hown hown2 hgrow hmov hrow hu HL1 HD1 HG1 HS1 HU1 HL2 HG2 HS2 HU2 HD2 HO1 hBx
              go_wp2_with fail
              go_roundg q
              case measure => omega
              case rel => exact ⟨i + 1, pv, _, rv, _, us1, _, _, by have := HQ.out; omega, by first | rfl | simp, by unfold Hid; rw [Hst2.out]; exact HL3.out, HD3, HS3, Hpb2, HG3, HU3, hg3⟩
          · have n2 : (kk == 2) = false := by rw [beq_eq_false_iff_ne]; omega
            have n5 : (kk == 5) = false := by rw [beq_eq_false_iff_ne]; omega
            have hst : Ft.addL kk (addG fine kk f (ls.take i)) (scl fine l) = { addG fine kk f (ls.take i) with rings := (addG fine kk f (ls.take i)).rings ++ [scl fine l] } := by unfold Ft.addL; rw [if_neg Hnl.out, if_neg hk1, if_neg hk2]
            have Hst2 : Hid (addG fine kk f (ls.take (i + 1)) = _) := Hst.out.trans hst
            obtain ⟨F, hF⟩ : ∃ F, F = addG fine kk f (ls.take i) := ⟨_, rfl⟩
            rw [← hF] at HL1 Hst2 Hsum
            obtain ⟨k, hk⟩ : ∃ k, k = F.rings.length := ⟨_, rfl⟩
            have hown := HL1.out.or
            rw [← hk] at hown
            obtain ⟨pa, pc, rfl⟩ := own_form hown
            have hk8 : k ≤ 110000000 := by have := Hsum.out.2.2; rw [← hk] at this; omega
            have Hk := Lib.hid hk
            have hBx : B ≤ w1.heap.size := by omega
            clear hst hF hk Hst
            clear hk1 hk2
            go_wp2_with (at_builtin; refine wpList_append2 _ rfl _ _ 35 rfl B tL (.slice none 0 0) 1 24 Tryz.underlying35 info_pts rfl (by decide) (.slice pa k pc) k _ rfl (hown.alloc _) _ _ 1 [.slice b1 m k1] rfl (reads_new _ _ _ 1 1 (by decide) (by decide)) rfl ?e2 ?e3 ?e4 ?e5 ?_)
            case e2 => simp [Value.oneCell']
            case e3 => unfold maxLen; omega
            case e4 => omega
            case e5 => first | omega | (simp; omega)
            intro v' w2 hown2 hgrow hmov
            obtain ⟨wa, hwa⟩ : ∃ wa, w1.alloc (.cells #[.slice b1 m k1] tL) = wa := ⟨_, rfl⟩
            have hba : Below w1.heap.size w1 wa := hwa ▸ (Below.refl _ w1).alloc (Nat.le_refl _) _
            rw [hwa] at hgrow hmov
            have hown := own_call hown hba
            have HL1 := Lib.hid (HL1.out.call hba)
            have HD1 := Lib.hid (HD1.out.call hba)
            have HG1 := Lib.hid (HG1.out.call hba)
            have HS1 := Lib.hid (HS1.out.call hba)
            have HU1 := Lib.hid (HU1.out.trans (Up2.call hba hBx))
            have hu := RdT.of_own (own_call HO1.out hba)
            have hBx : B ≤ wa.heap.size := Nat.le_trans hBx hba.size
            clear hwa hba
            have HL2 := Lib.hid (HL1.out.addR (l := scl fine l) (u := .slice b1 m k1) (by rw [scl_len, ← Hm.out]; exact hu) (by have := Hne.out; rw [scl_len, ← Hm.out] at this; exact this) (by rw [← Hk.out]; exact hown2) hgrow hmov)
            have hrow : ∀ g, (Value.slice pa k pc).ownBlock = some g → B ≤ g := fun g e => (hown.lt g e).1
            have HD2 := Lib.hid (HD1.out.grown hgrow (fun e => by have := hrow _ e.symm; omega))
            have HG2 := Lib.hid (HG1.out.grown hgrow (HG1.out.not_own hown (by decide)))
            have HS2 := Lib.hid (HS1.out.grown hgrow (fun e => by have := hrow _ e.symm; omega))
            have HU2 := Lib.hid (HU1.out.trans (Up2.grown hgrow hBx hrow))
            obtain ⟨pa2, pc2, rfl⟩ := own_form hown2
            have HD3 : Hid (Blk (w2.setCell ⟨D, o + 2, none⟩ (.slice pa2 (k + 1) pc2)) D (((cs.set o pv).set (o + 1) lv).set (o + 2) (.slice pa2 (k + 1) pc2)) tF) := by unfold Hid; rw [← set3_2 pv lv (.slice pa k pc) (.slice pa2 (k + 1) pc2)]; exact HD2.out.set (o + 2) (.slice pa2 (k + 1) pc2)
            have HL3 := Lib.hid (HL2.out.keep (KeepT.set (T' := tF) ⟨D, o + 2, none⟩ HD2.out (by decide) (.slice pa2 (k + 1) pc2)) (KeepT.set (T' := tF) ⟨D, o + 2, none⟩ HD2.out (by decide) (.slice pa2 (k + 1) pc2)))
            have HG3 := Lib.hid (HG2.out.other ⟨D, o + 2, none⟩ (by show G ≠ D; omega) (.slice pa2 (k + 1) pc2))
            have HS3 := Lib.hid (HS2.out.other ⟨D, o + 2, none⟩ (by show R ≠ D; omega) (.slice pa2 (k + 1) pc2))
            have HU3 := Lib.hid (HU2.out.trans (Up2.set w2 (o + 2) (.slice pa2 (k + 1) pc2)))
            have hg3 : G < (w2.setCell ⟨D, o + 2, none⟩ (.slice pa2 (k + 1) pc2)).heap.size := HG3.out.lt
            have c0 := HD2.out.cell (set3_at (cs := cs) Hcs pv lv (.slice pa k pc)).1
            have c1 := HD2.out.cell (set3_at (cs := cs) Hcs pv lv (.slice pa k pc)).2.1
            have c2 := HD2.out.cell (set3_at (cs := cs) Hcs pv lv (.slice pa k pc)).2.2
            have df := HD2.out.frozen
            clear hown hown2 hgrow hmov hrow hu HL1 HD1 HG1 HS1 HU1 HL2 HG2 HS2 HU2 HD2 HO1 hBx
            go_wp2_with fail
            go_roundg q
            case measure => omega
            case rel => exact ⟨i + 1, pv, lv, _, vs1, _, _, _, by have := HQ.out; omega, by first | rfl | simp, by unfold Hid; rw [Hst2.out]; exact HL3.out, HD3, HS3, Hpb2, HG3, HU3, hg3⟩
end Go.Proofs.YtfbdkjonjpanfaaGreatDoor

set_option linter.unusedVariables false
set_option linter.unusedSimpArgs false
namespace Go.Proofs.YtfbdkjonjpanfaaGreatDoor
open Go.RowKit Go.Rg Ft
attribute [local go_sem] Oper.semAt_some

/-- features, as the cells of a slice -/
def Cfs (w : World) (cs : List Value) (fs : List Fe) : Prop := ∀ (i : Nat) (f : Fe), fs[i]? = some f → ∃ pv lv rv, cs[i * 3]? = some pv ∧ cs[i * 3 + 1]? = some lv ∧ cs[i * 3 + 2]? = some rv ∧ FeT w pv lv rv f
/-- a slice of features, as it reads -/
def FsT (w : World) (v : Value) (fs : List Fe) : Prop := ∃ cs, cs.length = fs.length * 3 ∧ RdT tF w v fs.length cs ∧ Cfs w cs fs
def CfsB (w : World) (B : Nat) (cs : List Value) (fs : List Fe) : Prop := ∀ (i : Nat) (f : Fe), fs[i]? = some f → ∃ pv lv rv, cs[i * 3]? = some pv ∧ cs[i * 3 + 1]? = some lv ∧ cs[i * 3 + 2]? = some rv ∧ FeB w B pv lv rv f
theorem CfsB.keep {w w' : World} {B : Nat} {cs : List Value} {fs : List Fe} (h : CfsB w B cs fs) (k : KeepB B w w') : CfsB w' B cs fs := fun i f hf => by
  obtain ⟨a, b, c, h1, h2, h3, h4⟩ := h i f hf
  exact ⟨a, b, c, h1, h2, h3, h4.keep k⟩
theorem CfsB.mono {w : World} {B B' : Nat} {cs : List Value} {fs : List Fe} (h : CfsB w B cs fs) (k : B ≤ B') : CfsB w B' cs fs := fun i f hf => by
  obtain ⟨a, b, c, h1, h2, h3, h4⟩ := h i f hf
  exact ⟨a, b, c, h1, h2, h3, h4.mono k⟩
theorem CfsB.snoc {w : World} {B : Nat} {cs : List Value} {fs : List Fe} (h : CfsB w B cs fs) (hl : cs.length = fs.length * 3) {pv lv rv : Value} {f : Fe} (hf : FeB w B pv lv rv f) : CfsB w B (cs ++ [pv, lv, rv]) (fs ++ [f]) := by
  intro i g hg
  rw [List.getElem?_append] at hg
  split at hg
  · rename_i hlt
    obtain ⟨a, b, c, h1, h2, h3, h4⟩ := h i g hg
    refine ⟨a, b, c, ?_, ?_, ?_, h4⟩
    · rw [List.getElem?_append_left (by omega)]; exact h1
    · rw [List.getElem?_append_left (by omega)]; exact h2
    · rw [List.getElem?_append_left (by omega)]; exact h3
  · rename_i hlt
    have h0 : i - fs.length = 0 := by
      rcases Nat.eq_zero_or_pos (i - fs.length) with h | h
      · exact h
      · rw [List.getElem?_eq_none (by simp; omega)] at hg; cases hg
    rw [h0] at hg
    simp at hg
    subst hg
    refine ⟨pv, lv, rv, ?_, ?_, ?_, hf⟩
    · rw [List.getElem?_append_right (by omega), show i * 3 - cs.length = 0 from by omega]; rfl
    · rw [List.getElem?_append_right (by omega), show i * 3 + 1 - cs.length = 1 from by omega]; rfl
    · rw [List.getElem?_append_right (by omega), show i * 3 + 2 - cs.length = 2 from by omega]; rfl

/-- THE FEATURES SO FAR: those that are done, and the last one -/
structure Out (w : World) (b0 B R D cap : Nat) (cd : List Value) (d : List Fe) (pv lv rv : Value) (f : Fe) (vs us : List Value) : Prop where
  own : w.ownsRow b0 tF 3 (.slice (some ⟨D, 0, none⟩) (d.length + 1) cap) (d.length + 1) (cd ++ [pv, lv, rv])
  len : cd.length = d.length * 3
  done : CfsB w B cd d
  last : Last w B pv lv rv f vs us
  hD : D < B
  hR : R < B
  hB : B ≤ w.heap.size
theorem Out.call {w w' : World} {b0 B R D cap : Nat} {cd : List Value} {d : List Fe} {pv lv rv : Value} {f : Fe} {vs us : List Value} (h : Out w b0 B R D cap cd d pv lv rv f vs us) (hb : Below w.heap.size w w') : Out w' b0 B R D cap cd d pv lv rv f vs us :=
  ⟨own_call h.own hb, h.len, h.done.keep (.call hb), h.last.call hb, h.hD, h.hR, Nat.le_trans h.hB hb.size⟩
theorem Out.fsT {w : World} {b0 B R D cap : Nat} {cd : List Value} {d : List Fe} {pv lv rv : Value} {f : Fe} {vs us : List Value} (h : Out w b0 B R D cap cd d pv lv rv f vs us) : FsT w (.slice (some ⟨D, 0, none⟩) (d.length + 1) cap) (d ++ [f]) := by
  refine ⟨cd ++ [pv, lv, rv], by simp [h.len]; omega, by rw [List.length_append]; exact RdT.of_own h.own, fun i g hg => ?_⟩
  have := CfsB.snoc (h.done.mono h.hB) h.len h.last.done i g hg
  obtain ⟨a, b, c, h1, h2, h3, h4⟩ := this
  exact ⟨a, b, c, h1, h2, h3, h4.feT⟩
/-- the block of the slice, whole -/
theorem own_blk {w : World} {base e size n cap D : Nat} {xs : List Value} (h : w.ownsRow base e size (.slice (some ⟨D, 0, none⟩) n cap) n xs) : ∃ cs, Blk w D cs e ∧ cs.length = cap * size ∧ cs.take (n * size) = xs ∧ base ≤ D ∧ n ≤ cap ∧ cap ≤ maxLen := by
  rcases h.2 with ⟨h, _⟩ | ⟨g, cap', cur, hv, hb, hg, hn, hc, hs, ht⟩
  · cases h
  · cases hv
    exact ⟨cur.toList, by unfold Blk; simpa using hg, by simpa using hs, ht, hb, hn, hc⟩
theorem own_of_blk {w : World} {base e size n cap D : Nat} {cs : List Value} (h : Blk w D cs e) (hl : cs.length = cap * size) (hb : base ≤ D) (hn : n ≤ cap) (hc : cap ≤ maxLen) : w.ownsRow base e size (.slice (some ⟨D, 0, none⟩) n cap) n (cs.take (n * size)) := by
  have hle : n * size ≤ cap * size := Nat.mul_le_mul_right _ hn
  refine ⟨by rw [List.length_take]; omega, .inr ⟨D, cap, cs.toArray, rfl, hb, h, hn, hc, by simpa using hl, by simp⟩⟩
theorem KeepB.up2 {B D R : Nat} {a b : World} {cd cr : List Value} {TR : TypeId} (h : Up2 B D R a b) (hD : Blk a D cd tF) (hR : Blk a R cr TR) (h1 : TR ≠ tP) (h2 : TR ≠ tL) : KeepB B a b := fun g cs T fz hg hT x => by
  refine (h.same g hg ?_ ?_).trans x
  · rintro rfl
    unfold Blk at hD
    rw [hD] at x
    cases x
    rcases hT with h | h <;> exact absurd h (by decide)
  · rintro rfl
    unfold Blk at hR
    rw [hR] at x
    cases x
    rcases hT with h | h
    · exact h1 h
    · exact h2 h
theorem set3_take {cs cd : List Value} {pv lv rv a b c : Value} {m : Nat} (h : cs.take ((m + 1) * 3) = cd ++ [pv, lv, rv]) (hl : cd.length = m * 3) (hlen : (m + 1) * 3 ≤ cs.length) : (((cs.set (m * 3) a).set (m * 3 + 1) b).set (m * 3 + 2) c).take ((m + 1) * 3) = cd ++ [a, b, c] := by
  have hsplit : cs = (cd ++ [pv, lv, rv]) ++ cs.drop ((m + 1) * 3) := by rw [← h, List.take_append_drop]
  rw [hsplit, ← hl]
  have e0 : ∀ (x : Value) (r : List Value), ((cd ++ [pv, lv, rv]) ++ r).set cd.length x = (cd ++ [x, lv, rv]) ++ r := by
    intro x r
    rw [List.append_assoc, List.set_append_right _ _ (Nat.le_refl _), Nat.sub_self]; simp
  rw [e0]
  rw [List.append_assoc, List.set_append_right _ _ (by omega), show cd.length + 1 - cd.length = 1 from by omega]
  rw [List.set_append_right _ _ (by omega), show cd.length + 2 - cd.length = 2 from by omega]
  rw [show (m + 1) * 3 = (cd ++ [a, b, c]).length from by simp [hl]; omega]
  have e9 : ∀ X : List Value, cd ++ a :: b :: c :: X = (cd ++ [a, b, c]) ++ X := fun X => by simp
  simp
  rw [e9, List.take_append_of_le_length (by simp), List.take_of_length_le (by simp)]
theorem take_at {cs cd : List Value} {pv lv rv : Value} {m : Nat} (h : cs.take ((m + 1) * 3) = cd ++ [pv, lv, rv]) (hl : cd.length = m * 3) : cs[m * 3]? = some pv ∧ cs[m * 3 + 1]? = some lv ∧ cs[m * 3 + 2]? = some rv := by
  have e : ∀ j, j < (m + 1) * 3 → cs[j]? = (cd ++ [pv, lv, rv])[j]? := fun j hj => by rw [← h, List.getElem?_take, if_pos hj]
  refine ⟨?_, ?_, ?_⟩
  · rw [e _ (by omega), List.getElem?_append_right (by omega), show m * 3 - cd.length = 0 from by omega]; rfl
  · rw [e _ (by omega), List.getElem?_append_right (by omega), show m * 3 + 1 - cd.length = 1 from by omega]; rfl
  · rw [e _ (by omega), List.getElem?_append_right (by omega), show m * 3 + 2 - cd.length = 2 from by omega]; rfl
theorem info_fe : (Tryz.prog.info? 37).map (fun i => (i.zero, i.size, i.bytes)) = some (some (.agg #[.slice none 0 0, .slice none 0 0, .slice none 0 0]), 3, 72) := by kernel_rfl
/-- one more is begun -/
theorem Out.begin {w w' : World} {b0 B R D cap : Nat} {cd : List Value} {d : List Fe} {pv lv rv : Value} {f : Fe} {vs us : List Value} (h : Out w b0 B R D cap cd d pv lv rv f vs us) {v' : Value}
    (ho : w'.ownsRow b0 tF 3 v' (d.length + 1 + 1) ((cd ++ [pv, lv, rv]) ++ [.slice none 0 0, .slice none 0 0, .slice none 0 0])) (hg : w.grownBy w' (Value.slice (some ⟨D, 0, none⟩) (d.length + 1) cap).ownBlock) :
    ∃ D' cap', v' = .slice (some ⟨D', 0, none⟩) ((d ++ [f]).length + 1) cap' ∧ Out w' b0 w'.heap.size R D' cap' (cd ++ [pv, lv, rv]) (d ++ [f]) (.slice none 0 0) (.slice none 0 0) (.slice none 0 0) .no [] [] := by
  have hl : (d ++ [f]).length = d.length + 1 := by simp
  rcases ho.2 with ⟨_, h0⟩ | ⟨D', cap', cur, rfl, _⟩
  · omega
  · refine ⟨D', cap', by rw [hl], ?_⟩
    have hk1 : KeepT tP w w' := KeepT.grown h.own (by decide) hg
    have hk2 : KeepT tL w w' := KeepT.grown h.own (by decide) hg
    refine ⟨by rw [hl]; exact ho, by simp [h.len]; omega, ?_, Last.none _ _, (ho.lt D' rfl).2, Nat.lt_of_lt_of_le h.hR (Nat.le_trans h.hB hg.size), Nat.le_refl _⟩
    exact CfsB.snoc ((h.done.keep (.of hk1 hk2)).mono (Nat.le_trans h.hB hg.size)) h.len (h.last.keep hk1 hk2).done
theorem Out.first {w' : World} {b0 R : Nat} {v' : Value} (ho : w'.ownsRow b0 tF 3 v' 1 [.slice none 0 0, .slice none 0 0, .slice none 0 0]) (hR : R < w'.heap.size) :
    ∃ D' cap', v' = .slice (some ⟨D', 0, none⟩) (([] : List Fe).length + 1) cap' ∧ Out w' b0 w'.heap.size R D' cap' [] [] (.slice none 0 0) (.slice none 0 0) (.slice none 0 0) .no [] [] := by
  rcases ho.2 with ⟨_, h0⟩ | ⟨D', cap', cur, rfl, _⟩
  · omega
  · exact ⟨D', cap', rfl, ho, rfl, (fun i f hf => by cases hf), Last.none _ _, (ho.lt D' rfl).2, hR, Nat.le_refl _⟩
/-- how the accumulator lies -/
def Acc13 (w : World) (b0 R : Nat) (v : Value) (a : Option Acc) : Prop := match a with
  | .none => v = .slice none 0 0
  | .some (d, f) => ∃ B D cap cd pv lv rv vs us, v = .slice (some ⟨D, 0, none⟩) (d.length + 1) cap ∧ Out w b0 B R D cap cd d pv lv rv f vs us
theorem Acc13.call {w w' : World} {b0 R : Nat} {v : Value} {a : Option Acc} (h : Acc13 w b0 R v a) (hb : Below w.heap.size w w') : Acc13 w' b0 R v a := by
  cases a with
  | none => exact h
  | some z =>
    obtain ⟨d, f⟩ := z
    obtain ⟨B, D, cap, cd, pv, lv, rv, vs, us, e, ho⟩ := h
    exact ⟨B, D, cap, cd, pv, lv, rv, vs, us, e, ho.call hb⟩
end Go.Proofs.YtfbdkjonjpanfaaGreatDoor

set_option linter.unusedVariables false
set_option linter.unusedSimpArgs false
namespace Go.Proofs.YtfbdkjonjpanfaaGreatDoor
open Go.RowKit Go.Rg Ft
attribute [local go_sem] Oper.semAt_some

def errA (e fine : Int) (l : List GA) : Bool := l.any fun g => errL e fine g.lists
theorem errA_take (e fine : Int) (l : List GA) (k : Nat) (g : GA) (h : l[k]? = some g) : errA e fine (l.take (k + 1)) = (errA e fine (l.take k) || errL e fine g.lists) := by
  unfold errA; rw [List.take_add_one, h, List.any_append]; simp
def mu13 (g : GA) : Nat := (g.lists.map List.length).sum + g.lists.length
theorem addG_sizes (fine kind : Int) (ms : List (List Wk.Pr)) : ∀ f : Fe, (addG fine kind f ms).pts.length ≤ f.pts.length + (ms.map List.length).sum ∧ (addG fine kind f ms).lines.length ≤ f.lines.length + ms.length ∧ (addG fine kind f ms).rings.length ≤ f.rings.length + ms.length := by
  induction ms with
  | nil => intro f; simp [addG]
  | cons m ms ih =>
    intro f
    have h1 := ih (Ft.addL kind f (scl fine m))
    have h2 : (Ft.addL kind f (scl fine m)).pts.length ≤ f.pts.length + m.length ∧ (Ft.addL kind f (scl fine m)).lines.length ≤ f.lines.length + 1 ∧ (Ft.addL kind f (scl fine m)).rings.length ≤ f.rings.length + 1 := by
      unfold Ft.addL
      repeat' split
      all_goals simp [scl_len]
      all_goals omega
    have e : addG fine kind f (m :: ms) = addG fine kind (Ft.addL kind f (scl fine m)) ms := rfl
    rw [e]
    simp only [List.map_cons, List.sum_cons, List.length_cons]
    omega
theorem take_mu (l : List GA) (i : Nat) (g : GA) (h : l[i]? = some g) : ((l.take (i + 1)).map mu13).sum = ((l.take i).map mu13).sum + mu13 g := by
  rw [List.take_add_one, h, List.map_append, List.sum_append]; simp
theorem acc_sizes (fine : Int) (l : List GA) : ∀ i, i ≤ l.length → ∀ d f, accN fine l i = some (d, f) → d.length + 1 ≤ i ∧ f.pts.length ≤ ((l.take i).map mu13).sum ∧ f.lines.length ≤ ((l.take i).map mu13).sum ∧ f.rings.length ≤ ((l.take i).map mu13).sum := by
  intro i
  induction i with
  | zero => intro _ d f h; cases h
  | succ i ih =>
    intro hi d f h
    obtain ⟨g, hg⟩ : ∃ g, l[i]? = some g := ⟨_, List.getElem?_eq_getElem (by omega)⟩
    rw [accN_succ fine l i g hg] at h
    rw [take_mu l i g hg]
    have hsz := addG_sizes fine g.kind g.lists
    have hno := hsz .no
    have hmu : mu13 g = (g.lists.map List.length).sum + g.lists.length := rfl
    unfold next at h
    split at h
    · have := ih (by omega) d f h; omega
    · split at h
      · cases ha : accN fine l i with
        | none =>
          rw [ha] at h
          simp only [Option.some.injEq, Prod.mk.injEq] at h
          obtain ⟨rfl, rfl⟩ := h
          simp [Fe.no] at hno ⊢
          omega
        | some z =>
          obtain ⟨d0, f0⟩ := z
          rw [ha] at h
          simp only [Option.some.injEq, Prod.mk.injEq] at h
          obtain ⟨rfl, rfl⟩ := h
          have := ih (by omega) d0 f0 ha
          simp [Fe.no] at hno ⊢
          omega
      · cases ha : accN fine l i with
        | none => rw [ha] at h; cases h
        | some z =>
          obtain ⟨d0, f0⟩ := z
          rw [ha] at h
          simp only [Option.map_some, Option.some.injEq, Prod.mk.injEq] at h
          obtain ⟨rfl, rfl⟩ := h
          have h1 := ih (by omega) d0 f0 ha
          have h2 := hsz f0
          omega
theorem mu_total (l : List GA) (i : Nat) (g : GA) (h : l[i]? = some g) : ((l.take i).map mu13).sum + mu13 g ≤ (l.map mu13).sum := by
  have hi : i < l.length := (List.getElem?_eq_some_iff.1 h).1
  rw [← take_mu l i g h]
  have e : l = l.take (i + 1) ++ l.drop (i + 1) := (List.take_append_drop _ _).symm
  have e2 := congrArg (fun x => (x.map mu13).sum) e
  simp only [List.map_append, List.sum_append] at e2
  omega
/-- of a right geometry that is a collection no list is told -/
theorem right_coll (l : List GA) (hr : Wk.RightA l) (i : Nat) (g : GA) (h : l[i]? = some g) (hk : g.kind = 7) : g.lists = [] := by
  have hi : i < l.length := (List.getElem?_eq_some_iff.1 h).1
  have := hr.2 i hi
  unfold Wk.okAt at this
  rw [h] at this
  simp [Wk.okA, Wk.oneA, Wk.shapedA, hk] at this
  exact this.1.1
/-- what From tells -/
def FromR (w : World) (rv : Value) (err fine : Int) (l : List GA) : Prop :=
  (¬ (Wk.RightA l ∧ 0 ≤ fine ∧ fine ≤ 9) ∧ rv = .slice none 0 0 ∧ err = 10) ∨
  ((Wk.RightA l ∧ 0 ≤ fine ∧ fine ≤ 9) ∧ ((errA 22 fine l = true ∧ rv = .slice none 0 0 ∧ err = 22) ∨ (errA 22 fine l = false ∧ errA 23 fine l = true ∧ rv = .slice none 0 0 ∧ err = 23) ∨ (errA 22 fine l = false ∧ errA 23 fine l = false ∧ err = 0 ∧ FsT w rv (from_ fine l))))
theorem FsT.nil (w : World) : FsT w (.slice none 0 0) [] := ⟨[], rfl, .inl ⟨rfl, rfl, rfl⟩, fun i f h => by cases h⟩
theorem Acc13.fsT {w : World} {b0 R : Nat} {v : Value} {fine : Int} {l : List GA} (h : Acc13 w b0 R v (accN fine l l.length)) : FsT w v (from_ fine l) := by
  unfold from_ outs
  cases ha : accN fine l l.length with
  | none => rw [ha] at h; have : v = _ := h; subst this; exact FsT.nil w
  | some z =>
    obtain ⟨d, f⟩ := z
    rw [ha] at h
    obtain ⟨B, D, cap, cd, pv, lv, rv, vs, us, rfl, ho⟩ := h
    exact ho.fsT

set_option maxRecDepth 100000 in
set_option maxHeartbeats 16000000 in
theorem from13_any (v : Value) (cs : List Value) (l : List GA) (fine : Int) (w : World) (h : RdC w v l.length cs) (hg : GsC w cs l) (hf : ∀ g ∈ l, Wk.FitA g) (hn : l.length ≤ 1000000)
    (hs : ∀ g ∈ l, g.lists.length ≤ 1000000 ∧ ∀ m ∈ g.lists, m.length ≤ 1000000 ∧ ∀ p ∈ m, p.1.length ≤ 100000 ∧ p.2.length ≤ 100000) (htot : (l.map mu13).sum ≤ 100000000) (ht : Tabs w) (hf1 : -9223372036854775808 ≤ fine) (hf2 : fine ≤ 9223372036854775807) :
    Calls Tryz.prog 9 #[v, .int .i64 fine] w fun e w' => ∃ rv err, e = .returned (.tuple #[rv, .int .i64 err]) ∧ FromR w' rv err fine l ∧ Below w.heap.size w w' := by
  have HRt := Lib.hid (rightA_any v cs l w h hg hf)
  obtain ⟨a, c, rfl, hm⟩ := h.form
  obtain ⟨n, hnn⟩ : ∃ n, n = l.length := ⟨_, rfl⟩
  rw [← hnn] at h hm hn HRt ⊢
  have Hn := Lib.hid hnn
  have Hr := Lib.hid h
  have Hg := Lib.hid hg
  have HX := Lib.hid hs
  have HTot := Lib.hid htot
  have HTw := Lib.hid ht
  unfold maxLen at hm
  clear hnn h hg hs htot ht hf
  go_enter Tryz.func9, Tryz.ntmps9
  go_wp2_with fail
  refine HRt.out.mono ?_
  rintro e w2 ⟨b, rfl, Hb, hb2⟩
  have HB := Lib.hid hb2
  have hw2 : w.heap.size ≤ w2.heap.size := hb2.size
  clear hb2 HRt
  cases b
  · have hno : ¬ Wk.RightA l := fun h => by have := Hb.out.2 h; cases this
    have HR : Hid (FromR w2 (.slice none 0 0) 10 fine l) := .inl ⟨fun h => hno h.1, rfl, rfl⟩
    clear hno Hb
    go_wp2_with fail
    go_returns
    exact ⟨_, _, rfl, HR.out, HB.out⟩
  have HRight : Hid (Wk.RightA l) := Hb.out.1 rfl
  by_cases hlow : fine < 0
  · have HR : Hid (FromR w2 (.slice none 0 0) 10 fine l) := .inl ⟨fun h => by omega, rfl, rfl⟩
    go_wp2_with fail
    go_returns
    exact ⟨_, _, rfl, HR.out, HB.out⟩
  by_cases hhigh : fine > 9
  · have HR : Hid (FromR w2 (.slice none 0 0) 10 fine l) := .inl ⟨fun h => by omega, rfl, rfl⟩
    go_wp2_with fail
    go_returns
    exact ⟨_, _, rfl, HR.out, HB.out⟩
  have HF09 : Hid (Wk.RightA l ∧ 0 ≤ fine ∧ fine ≤ 9) := ⟨HRight.out, by omega, by omega⟩
  clear Hb
  go_wp2_with fail
  obtain ⟨W, hW⟩ : ∃ W, w2.alloc (.cells #[.int .i64 fine, .bool false, .bool false] 74) = W := ⟨_, rfl⟩
  have hbW : Below w2.heap.size w2 W := hW ▸ (Below.refl _ w2).alloc (Nat.le_refl _) _
  have HSc : Hid (Sc W w2.heap.size fine false false) := hW ▸ Blk.new w2 _ _
  have HB := Lib.hid (HB.out.trans (hbW.mono HB.out.size))
  obtain ⟨R, hR⟩ : ∃ R, R = w2.heap.size := ⟨_, rfl⟩
  rw [hW, ← hR]
  rw [← hR] at HSc hw2
  obtain ⟨b0, hb0⟩ : ∃ b0, b0 = W.heap.size := ⟨_, rfl⟩
  have hRb : R < b0 := by rw [hb0]; exact HSc.out.lt
  clear hW hbW hR
  go_wp2_with fail
  go_loopg [6, 26] n (fun q s6 s26 wx => ∃ (i : Nat) (pb rb : Bool) (av : Option Addr) (an ac : Nat), i + q = n ∧ s6 = .slice av an ac ∧ s26 = .int .i64 (i : Int) ∧ Hid (Acc13 wx b0 R (.slice av an ac) (accN fine l i)) ∧ Hid (Sc wx R fine pb rb) ∧ Hid (pb = errA 22 fine (l.take i) ∧ rb = errA 23 fine (l.take i)) ∧ Hid (Below w.heap.size w wx) ∧ b0 ≤ wx.heap.size)
  case atStart => exact ⟨0, false, false, none, 0, 0, by omega, rfl, rfl, rfl, HSc, ⟨rfl, rfl⟩, HB, by omega⟩
  case round =>
    clear HSc HB hb0
    obtain ⟨i, pb, rb, av, an, ac, hq, rfl, rfl, HA, HSc, Hpb, HB, hb0x⟩ := hrel
    have c1 := HSc.out.cell (j := 1) rfl
    have c2 := HSc.out.cell (j := 2) rfl
    cases gk with
    | zero =>
      have hin : i = n := by omega
      subst hin
      have hfull : l.take i = l := by rw [Hn.out, List.take_length]
      rw [hfull] at Hpb
      have HFs : Hid (FsT wr (.slice av an ac) (from_ fine l)) := by have := HA.out; rw [Hn.out] at this; exact this.fsT
      clear hfull HA
      cases pb
      · cases rb
        · have HR : Hid (FromR wr (.slice av an ac) 0 fine l) := .inr ⟨HF09.out, .inr (.inr ⟨Hpb.out.1.symm, Hpb.out.2.symm, rfl, HFs.out⟩)⟩
          go_wp2_with fail
          go_returns
          exact ⟨_, _, rfl, HR.out, HB.out⟩
        · have HR : Hid (FromR wr (.slice none 0 0) 23 fine l) := .inr ⟨HF09.out, .inr (.inl ⟨Hpb.out.1.symm, Hpb.out.2.symm, rfl, rfl⟩)⟩
          go_wp2_with fail
          go_returns
          exact ⟨_, _, rfl, HR.out, HB.out⟩
      · have HR : Hid (FromR wr (.slice none 0 0) 22 fine l) := .inr ⟨HF09.out, .inl ⟨Hpb.out.1.symm, rfl, rfl⟩⟩
        go_wp2_with fail
        go_returns
        exact ⟨_, _, rfl, HR.out, HB.out⟩
    | succ q =>
      have hin : i < n := by omega
      obtain ⟨g, hgi⟩ : ∃ g, l[i]? = some g := ⟨_, List.getElem?_eq_getElem (by rw [← Hn.out]; exact hin)⟩
      obtain ⟨g1, o1, glv, gzv, rfl, q1, q2, hBd, q3, z0, z1, z2, z3⟩ := gs_at Hr.out Hg.out i g hgi
      obtain ⟨hls6, hlx⟩ := HX.out g (List.mem_of_getElem? hgi)
      obtain ⟨kk, lev, ls, ss⟩ := g
      simp only at z0 z1 hls6 hlx
      have x0 := keepc HB.out q3 z0
      have x1 := keepc HB.out q3 z1
      have x2 := keepc HB.out q3 z2
      have x3 := keepc HB.out q3 z3
      have HBd := Lib.hid hBd
      obtain ⟨vs9, _, hlv, _, hzv⟩ := hBd
      obtain ⟨la, lc, rfl, hlm⟩ := hlv.form
      obtain ⟨za, zc, rfl, hzm⟩ := hzv.form
      simp only at HBd x2 x3
      obtain ⟨ln, hln⟩ : ∃ m, m = ls.length := ⟨_, rfl⟩
      obtain ⟨zn, hzn⟩ : ∃ m, m = ss.length := ⟨_, rfl⟩
      rw [← hln] at x2 HBd hls6
      rw [← hzn] at x3 HBd
      have hls6 : ls.length ≤ 1000000 := by rw [← hln]; exact hls6
      have HLx := Lib.hid hlx
      have Hgi := Lib.hid hgi
      have HQ := Lib.hid hq
      have hRw : w.heap.size ≤ R := hw2
      have Hpb2 : Hid ((pb || errL 22 fine ls) = errA 22 fine (l.take (i + 1)) ∧ (rb || errL 23 fine ls) = errA 23 fine (l.take (i + 1))) := by
        unfold Hid
        rw [errA_take 22 fine l i _ hgi, errA_take 23 fine l i _ hgi, Hpb.out.1, Hpb.out.2]
        exact ⟨rfl, rfl⟩
      clear z0 z1 z2 z3 hlv hzv hlm hzm hln hzn hlx hgi hq c1 c2 Hpb
      by_cases hnc : i = 0 ∧ kk = 7
      · obtain ⟨rfl, rfl⟩ := hnc
        have hnl : ls = [] := right_coll l HRight.out 0 _ Hgi.out rfl
        have Hpb3 : Hid (pb = errA 22 fine (l.take (0 + 1)) ∧ rb = errA 23 fine (l.take (0 + 1))) := by have := Hpb2.out; rw [hnl] at this; unfold Hid; simpa [errL] using this
        have HN : Hid (accN fine l (0 + 1) = accN fine l 0) := by unfold Hid; rw [accN_succ fine l 0 _ Hgi.out]; unfold next; rw [if_pos ⟨rfl, rfl⟩]
        simp only [Nat.zero_mul, Nat.add_zero] at x0 x1 x2 x3
        clear hnl Hpb2
        go_wp2_with fail
        obtain ⟨WX, hWX⟩ : ∃ WX, wr.alloc (.cells #[.int .i64 7, .int .i64 lev, .slice la ln lc, .slice za zn zc] 33) = WX := ⟨_, rfl⟩
        have hbX : Below wr.heap.size wr WX := hWX ▸ (Below.refl _ wr).alloc (Nat.le_refl _) _
        have HSc := Lib.hid (HSc.out.call hbX)
        have HB := Lib.hid (HB.out.trans (hbX.mono HB.out.size))
        have HA := Lib.hid (HA.out.call hbX)
        have hsX : b0 ≤ WX.heap.size := Nat.le_trans hb0x hbX.size
        rw [hWX]
        clear hWX hbX
        go_roundg q
        case measure => omega
        case rel => exact ⟨1, pb, rb, av, an, ac, by have := HQ.out; omega, rfl, by first | rfl | simp, by unfold Hid; rw [show (1 : Nat) = 0 + 1 from rfl, HN.out]; exact HA.out, HSc, Hpb3, HB, hsX⟩
      have HNC := Lib.hid hnc
      by_cases hi0 : i = 0
      · subst hi0
        have hk7 : (kk == 7) = false := by rw [beq_eq_false_iff_ne]; exact fun h => hnc ⟨rfl, h⟩
        have hacc : accN fine l 0 = none := rfl
        have hlev : lev ≤ 1 := by
          apply Classical.byContradiction
          intro hlev
          obtain ⟨z, hz⟩ := Ft.begun fine l HRight.out 0 _ Hgi.out hlev HNC.out
          rw [hacc] at hz
          cases hz
        simp only [Nat.zero_mul, Nat.add_zero] at x0 x1 x2 x3
        clear hnc
        have hav : Value.slice av an ac = .slice none 0 0 := by have := HA.out; rw [hacc] at this; exact this
        cases hav
        have HN : Hid (accN fine l (0 + 1) = some ([], addG fine kk .no ls)) := by unfold Hid; rw [accN_succ fine l 0 _ Hgi.out, hacc]; unfold next; rw [if_neg HNC.out, if_pos hlev]
        have HZ : Hid (Fe.no.pts.length + (ls.map List.length).sum ≤ 100000000 ∧ Fe.no.lines.length + ls.length ≤ 100000000 ∧ Fe.no.rings.length + ls.length ≤ 100000000) := by
          have h8 := mu_total l 0 ⟨kk, lev, ls, ss⟩ Hgi.out
          have h9 := HTot.out
          unfold mu13 at h8 h9
          unfold Hid
          simp only at h8
          have e0 : Fe.no.pts.length = 0 ∧ Fe.no.lines.length = 0 ∧ Fe.no.rings.length = 0 := ⟨rfl, rfl, rfl⟩
          omega
        clear hacc HA
        go_wp2_with (at_builtin; refine wpList_append2 _ rfl _ _ 27 rfl b0 tF (.agg #[.slice none 0 0, .slice none 0 0, .slice none 0 0]) 3 72 Tryz.underlying27 info_fe rfl (by decide) (.slice none 0 0) 0 _ rfl ((World.ownsRow_nil wr b0 tF 3).alloc _ |>.alloc _) _ _ 1 [.slice none 0 0, .slice none 0 0, .slice none 0 0] rfl (reads_new2 _ _ _ 1 1 _ (by simp) (by decide) (by decide)) rfl ?_ ?_ ?_ ?_ ?_)
        any_goals (first | (unfold maxLen; omega) | omega | (simp; omega) | (simp [Value.oneCell']; done))
        intro v' WX hown4 hgrow hmov
        obtain ⟨WA, hWA⟩ : ∃ WA, wr.alloc (.cells #[.int .i64 kk, .int .i64 lev, .slice la ln lc, .slice za zn zc] 33) = WA := ⟨_, rfl⟩
        have hbA : Below wr.heap.size wr WA := hWA ▸ (Below.refl _ wr).alloc (Nat.le_refl _) _
        have hPA : Blk WA wr.heap.size [.int .i64 kk, .int .i64 lev, .slice la ln lc, .slice za zn zc] 33 := hWA ▸ Blk.new wr _ _
        rw [hWA] at hgrow hmov
        obtain ⟨WZ, hWZ⟩ : ∃ WZ, WA.alloc (.cells #[.slice none 0 0, .slice none 0 0, .slice none 0 0] tF) = WZ := ⟨_, rfl⟩
        have hbZ : Below WA.heap.size WA WZ := hWZ ▸ (Below.refl _ WA).alloc (Nat.le_refl _) _
        rw [hWZ] at hgrow hmov
        have hbAZ : Below wr.heap.size wr WZ := hbA.trans (hbZ.mono hbA.size)
        have hszZ := hbAZ.size
        obtain ⟨P, hP⟩ : ∃ P, P = wr.heap.size := ⟨_, rfl⟩
        rw [← hP] at hPA ⊢
        have hPb : b0 ≤ P := by omega
        have hPz : P < WZ.heap.size := (hPA.call hbZ).lt
        have hgr : ∀ g : Nat, (Value.slice none 0 0).ownBlock = some g → b0 ≤ g := fun g e => by cases e
        have HPG := Lib.hid ((hPA.call hbZ).grown hgrow (fun e => by cases e))
        have HSc := Lib.hid ((HSc.out.call hbAZ).grown hgrow (fun e => by cases e))
        have HB := Lib.hid ((HB.out.trans (hbAZ.mono HB.out.size)).grown hgrow (by omega) (fun j e => by cases e))
        obtain ⟨D, cap, rfl, hout⟩ := Out.first hown4 (R := R) (Nat.lt_of_lt_of_le hRb (Nat.le_trans hb0x (Nat.le_trans hszZ hgrow.size)))
        have HOut := Lib.hid hout
        obtain ⟨B, hBe⟩ : ∃ B, B = WX.heap.size := ⟨_, rfl⟩
        rw [← hBe] at HOut
        obtain ⟨cd, hcd⟩ : ∃ cd : List Value, cd = [] := ⟨_, rfl⟩
        obtain ⟨d, hd⟩ : ∃ d : List Fe, d = [] := ⟨_, rfl⟩
        obtain ⟨f, hfe⟩ : ∃ f : Fe, f = .no := ⟨_, rfl⟩
        obtain ⟨pv, hpv⟩ : ∃ v : Value, v = .slice none 0 0 := ⟨_, rfl⟩
        rw [← hfe] at HZ
        have HOut : Hid (Out WX b0 B R D cap cd d pv pv pv f [] []) := by rw [hcd, hd, hpv, hfe]; exact HOut.out
        have HN : Hid (accN fine l (0 + 1) = some (d, addG fine kk f ls)) := by rw [hd, hfe]; exact HN.out
        have hlen0 : ([] : List Fe).length = d.length := by rw [hd]
        rw [hlen0]
        clear hout hown4 hgrow hmov hbA hPA hbZ hbAZ hgr hWA hWZ hcd hd hfe hpv hlen0 hBe hP
        obtain ⟨cb, hbk, hcl, hct, hbD, hkc, hcm⟩ := own_blk HOut.out.own
        have HBk := Lib.hid (hbk.call (Below.refl _ WX).drew)
        have HCl := Lib.hid hcl
        have HCt := Lib.hid hct
        have hDR : D ≠ R := by omega
        have HCb := Lib.hid (take_at hct HOut.out.len)
        have hDw : w.heap.size ≤ D := by omega
        have hwB : w.heap.size ≤ B := by have := HOut.out.hD; omega
        have hPR : P ≠ R := by omega
        have hPD : P ≠ D := fun e => by
          have h8 := HPG.out
          rw [e] at h8
          unfold Blk at h8 hbk
          rw [hbk] at h8
          cases h8
        have y0 := HPG.out.cell (j := 0) rfl
        have y1 := HPG.out.cell (j := 1) rfl
        have y2 := HPG.out.cell (j := 2) rfl
        have y3 := HPG.out.cell (j := 3) rfl
        have HKC := Lib.hid hkc
        have HKM := Lib.hid hcm
        have HbD := Lib.hid hbD
        have HOut := Lib.hid (HOut.out.call (Below.refl _ WX).drew)
        have HSc := Lib.hid (HSc.out.call (Below.refl _ WX).drew)
        have HBd0 := Lib.hid HB.out.drew
        have hszX : b0 ≤ WX.heap.size := by have := HOut.out.hB; have := HOut.out.hD; have : WX.drew.heap.size = WX.heap.size := rfl; omega
        obtain ⟨k, hk⟩ : ∃ k, k = d.length := ⟨_, rfl⟩
        have HK := Lib.hid hk
        have hkc' : k + 1 ≤ cap := by rw [hk]; exact hkc
        have hcm' : cap ≤ 9223372036854775807 := by unfold maxLen at hcm; omega
        rw [← hk] at HCb ⊢
        have hk1 : ((k + 1 : Nat) : Int) - 1 = (k : Int) := by omega
        have hk2 : (k : Int) + 1 - 1 = (k : Int) := by omega
        have hwk : IntKind.i64.wrap (k : Int) = (k : Int) := by rw [IntKind.wrap_i64]; omega
        have hkk : k < k + 1 := by omega
        have hkk2 : (k : Int) < (k : Int) + 1 := by omega
        clear hbk hcl hct hk hbD hkc hcm HB
        go_wp2_with fail
        refine heldG_go (S := fun w' => w'.cell? ⟨P, 0, none⟩ = some (.int .i64 kk) ∧ w'.cell? ⟨P, 1, none⟩ = some (.int .i64 lev) ∧ w'.cell? ⟨P, 2, none⟩ = some (.slice la ln lc) ∧ w'.cell? ⟨P, 3, none⟩ = some (.slice za zn zc)) (late := fun j => j == 7) (by kernel_rfl) ⟨y0, y1, y2, y3⟩ (fun hHeld => ?_)
        refine takeG 0 (v := ?_) [0, 4, 7] rfl (by kernel_rfl) (by kernel_rfl) (by kernel_rfl) (by kernel_rfl) (by kernel_rfl) (fun _ _ _ h => h) (by rfl) (by assumption) ?hy0 ?_
        case hy0 => (intro w hSw; (try dsimp only at hSw); go_simp; all_goals (with_reducible rfl))
        (try simp only [Act.put, List.setIfInBounds_toArray, List.set_cons_zero, List.set_cons_succ])
        refine takeG 1 (v := ?_) [1, 2, 3, 4, 7] rfl (by kernel_rfl) (by kernel_rfl) (by kernel_rfl) (by kernel_rfl) (by kernel_rfl) (fun _ _ _ h => h) (by rfl) (by assumption) ?hy1 ?_
        case hy1 => (intro w hSw; (try dsimp only at hSw); go_simp; all_goals (with_reducible rfl))
        (try simp only [Act.put, List.setIfInBounds_toArray, List.set_cons_zero, List.set_cons_succ])
        refine takeG 2 (v := ?_) [2, 3, 4, 7] rfl (by kernel_rfl) (by kernel_rfl) (by kernel_rfl) (by kernel_rfl) (by kernel_rfl) (fun _ _ _ h => h) (by rfl) (by assumption) ?hy2 ?_
        case hy2 => (intro w hSw; (try dsimp only at hSw); go_simp; all_goals (with_reducible rfl))
        (try simp only [Act.put, List.setIfInBounds_toArray, List.set_cons_zero, List.set_cons_succ])
        refine takeG 3 (v := ?_) [3, 4, 7] rfl (by kernel_rfl) (by kernel_rfl) (by kernel_rfl) (by kernel_rfl) (by kernel_rfl) (fun _ _ _ h => h) (by rfl) (by assumption) ?hy3 ?_
        case hy3 => (intro w hSw; (try dsimp only at hSw); go_simp; all_goals (with_reducible rfl))
        (try simp only [Act.put, List.setIfInBounds_toArray, List.set_cons_zero, List.set_cons_succ])
        refine takeG 4 (v := ?_) [4, 7] rfl (by kernel_rfl) (by kernel_rfl) (by kernel_rfl) (by kernel_rfl) (by kernel_rfl) (fun _ _ _ h => h) (by rfl) (by assumption) ?hy4 ?_
        case hy4 => (intro w hSw; (try dsimp only at hSw); go_simp; all_goals (with_reducible rfl))
        (try simp only [Act.put, List.setIfInBounds_toArray, List.set_cons_zero, List.set_cons_succ])
        refine takeG 5 (v := ?_) [5, 7] rfl (by kernel_rfl) (by kernel_rfl) (by kernel_rfl) (by kernel_rfl) (by kernel_rfl) (fun _ _ _ h => h) (by rfl) (by assumption) ?hy5 ?_
        case hy5 => (intro w hSw; (try dsimp only at hSw); go_simp; all_goals (with_reducible rfl))
        (try simp only [Act.put, List.setIfInBounds_toArray, List.set_cons_zero, List.set_cons_succ])
        refine takeG 6 (v := ?_) [6, 7] rfl (by kernel_rfl) (by kernel_rfl) (by kernel_rfl) (by kernel_rfl) (by kernel_rfl) (fun _ _ _ h => h) (by rfl) (by assumption) ?hy6 ?_
        case hy6 => (intro w hSw; (try dsimp only at hSw); go_simp; all_goals (with_reducible rfl))
        (try simp only [Act.put, List.setIfInBounds_toArray, List.set_cons_zero, List.set_cons_succ])
        refine consG 7 (by kernel_rfl) rfl (by rfl) (fun K hK => ?_)
        go_simp
        go_at_call 21
        refine (add13_any D (k * 3) R B ⟨kk, lev, ls, ss⟩ (.slice la ln lc) (.slice za zn zc) fine pb rb cb pv pv pv f [] [] w WX.drew HBk.out HCb.out HOut.out.last HSc.out HBd.out HTw.out HBd0.out hRw hDw HOut.out.hD HOut.out.hR HOut.out.hB hDR hls6 HLx.out HZ.out.1 HZ.out.2.1 HZ.out.2.2 hf1 hf2).mono ?_
        rintro e w7 ⟨pv', lv', rv', vs', us', rfl, hL7, hD7, hS7, hU7⟩
        have HB7 := Lib.hid (HBd0.out.trans (hU7.below hwB hDw hRw))
        have hb7 : b0 ≤ w7.heap.size := Nat.le_trans hszX hU7.size
        have HO7 : Hid (Out w7 b0 B R D cap cd d pv' lv' rv' (addG fine kk f ls) vs' us') := by
          have h9 := own_of_blk (n := d.length + 1) hD7 (by simpa using HCl.out) HbD.out HKC.out HKM.out
          rw [← HK.out] at h9
          rw [set3_take (by rw [HK.out]; exact HCt.out) (by rw [HK.out]; exact HOut.out.len) (by rw [HCl.out]; exact Nat.mul_le_mul_right _ hkc')] at h9
          exact ⟨by rw [← HK.out]; exact h9, HOut.out.len, HOut.out.done.keep (KeepB.up2 hU7 HBk.out HSc.out (by decide) (by decide)), hL7, HOut.out.hD, HOut.out.hR, Nat.le_trans HOut.out.hB hU7.size⟩
        have HS7 := Lib.hid hS7
        clear hL7 hD7 hS7 hU7
        clear hHeld
        refine hK.out _ _ (fun h => by cases h) (fun hHeld => ?_)
        clear hK K
        (try simp only [Act.put, List.setIfInBounds_toArray, List.set_cons_zero, List.set_cons_succ])
        refine wpAnyG_done (by kernel_rfl) ?_ _
        have HA7 : Hid (Acc13 w7 b0 R (.slice (some ⟨D, 0, none⟩) (k + 1) cap) (accN fine l (0 + 1))) := by
          unfold Hid
          rw [HN.out, HK.out]
          exact ⟨B, D, cap, cd, pv', lv', rv', vs', us', rfl, HO7.out⟩
        clear y0 y1 y2 y3 hHeld HO7 HOut HSc HBk HCl HCt HCb HPG HK HZ HN hkk hkk2 hwk hk1 hk2
        go_wp2_with fail
        go_roundg q
        case measure => omega
        case rel => exact ⟨0 + 1, _, _, _, _, _, by have := HQ.out; omega, rfl, by first | rfl | simp, HA7, HS7, Hpb2, HB7, hb7⟩
      have hi0' : ((i : Int) == 0) = false := by rw [beq_eq_false_iff_ne]; omega
      clear hnc
      by_cases hlev : lev ≤ 1
      · cases hacc : accN fine l i with
        | none =>
          have hav : Value.slice av an ac = .slice none 0 0 := by have := HA.out; rw [hacc] at this; exact this
          cases hav
          have HN : Hid (accN fine l (i + 1) = some ([], addG fine kk .no ls)) := by unfold Hid; rw [accN_succ fine l i _ Hgi.out, hacc]; unfold next; rw [if_neg HNC.out, if_pos hlev]
          have HZ : Hid (Fe.no.pts.length + (ls.map List.length).sum ≤ 100000000 ∧ Fe.no.lines.length + ls.length ≤ 100000000 ∧ Fe.no.rings.length + ls.length ≤ 100000000) := by
            have h8 := mu_total l i ⟨kk, lev, ls, ss⟩ Hgi.out
            have h9 := HTot.out
            unfold mu13 at h8 h9
            unfold Hid
            simp only at h8
            have e0 : Fe.no.pts.length = 0 ∧ Fe.no.lines.length = 0 ∧ Fe.no.rings.length = 0 := ⟨rfl, rfl, rfl⟩
            omega
          clear hacc HA
          go_wp2_with (at_builtin; refine wpList_append2 _ rfl _ _ 27 rfl b0 tF (.agg #[.slice none 0 0, .slice none 0 0, .slice none 0 0]) 3 72 Tryz.underlying27 info_fe rfl (by decide) (.slice none 0 0) 0 _ rfl ((World.ownsRow_nil wr b0 tF 3).alloc _ |>.alloc _) _ _ 1 [.slice none 0 0, .slice none 0 0, .slice none 0 0] rfl (reads_new2 _ _ _ 1 1 _ (by simp) (by decide) (by decide)) rfl ?_ ?_ ?_ ?_ ?_)
          any_goals (first | (unfold maxLen; omega) | omega | (simp; omega) | (simp [Value.oneCell']; done))
          intro v' WX hown4 hgrow hmov
          obtain ⟨WA, hWA⟩ : ∃ WA, wr.alloc (.cells #[.int .i64 kk, .int .i64 lev, .slice la ln lc, .slice za zn zc] 33) = WA := ⟨_, rfl⟩
          have hbA : Below wr.heap.size wr WA := hWA ▸ (Below.refl _ wr).alloc (Nat.le_refl _) _
          have hPA : Blk WA wr.heap.size [.int .i64 kk, .int .i64 lev, .slice la ln lc, .slice za zn zc] 33 := hWA ▸ Blk.new wr _ _
          rw [hWA] at hgrow hmov
          obtain ⟨WZ, hWZ⟩ : ∃ WZ, WA.alloc (.cells #[.slice none 0 0, .slice none 0 0, .slice none 0 0] tF) = WZ := ⟨_, rfl⟩
          have hbZ : Below WA.heap.size WA WZ := hWZ ▸ (Below.refl _ WA).alloc (Nat.le_refl _) _
          rw [hWZ] at hgrow hmov
          have hbAZ : Below wr.heap.size wr WZ := hbA.trans (hbZ.mono hbA.size)
          have hszZ := hbAZ.size
          obtain ⟨P, hP⟩ : ∃ P, P = wr.heap.size := ⟨_, rfl⟩
          rw [← hP] at hPA ⊢
          have hPb : b0 ≤ P := by omega
          have hPz : P < WZ.heap.size := (hPA.call hbZ).lt
          have hgr : ∀ g : Nat, (Value.slice none 0 0).ownBlock = some g → b0 ≤ g := fun g e => by cases e
          have HPG := Lib.hid ((hPA.call hbZ).grown hgrow (fun e => by cases e))
          have HSc := Lib.hid ((HSc.out.call hbAZ).grown hgrow (fun e => by cases e))
          have HB := Lib.hid ((HB.out.trans (hbAZ.mono HB.out.size)).grown hgrow (by omega) (fun j e => by cases e))
          obtain ⟨D, cap, rfl, hout⟩ := Out.first hown4 (R := R) (Nat.lt_of_lt_of_le hRb (Nat.le_trans hb0x (Nat.le_trans hszZ hgrow.size)))
          have HOut := Lib.hid hout
          obtain ⟨B, hBe⟩ : ∃ B, B = WX.heap.size := ⟨_, rfl⟩
          rw [← hBe] at HOut
          obtain ⟨cd, hcd⟩ : ∃ cd : List Value, cd = [] := ⟨_, rfl⟩
          obtain ⟨d, hd⟩ : ∃ d : List Fe, d = [] := ⟨_, rfl⟩
          obtain ⟨f, hfe⟩ : ∃ f : Fe, f = .no := ⟨_, rfl⟩
          obtain ⟨pv, hpv⟩ : ∃ v : Value, v = .slice none 0 0 := ⟨_, rfl⟩
          rw [← hfe] at HZ
          have HOut : Hid (Out WX b0 B R D cap cd d pv pv pv f [] []) := by rw [hcd, hd, hpv, hfe]; exact HOut.out
          have HN : Hid (accN fine l (i + 1) = some (d, addG fine kk f ls)) := by rw [hd, hfe]; exact HN.out
          have hlen0 : ([] : List Fe).length = d.length := by rw [hd]
          rw [hlen0]
          clear hout hown4 hgrow hmov hbA hPA hbZ hbAZ hgr hWA hWZ hcd hd hfe hpv hlen0 hBe hP
          obtain ⟨cb, hbk, hcl, hct, hbD, hkc, hcm⟩ := own_blk HOut.out.own
          have HBk := Lib.hid (hbk.call (Below.refl _ WX).drew)
          have HCl := Lib.hid hcl
          have HCt := Lib.hid hct
          have hDR : D ≠ R := by omega
          have HCb := Lib.hid (take_at hct HOut.out.len)
          have hDw : w.heap.size ≤ D := by omega
          have hwB : w.heap.size ≤ B := by have := HOut.out.hD; omega
          have hPR : P ≠ R := by omega
          have hPD : P ≠ D := fun e => by
            have h8 := HPG.out
            rw [e] at h8
            unfold Blk at h8 hbk
            rw [hbk] at h8
            cases h8
          have y0 := HPG.out.cell (j := 0) rfl
          have y1 := HPG.out.cell (j := 1) rfl
          have y2 := HPG.out.cell (j := 2) rfl
          have y3 := HPG.out.cell (j := 3) rfl
          have HKC := Lib.hid hkc
          have HKM := Lib.hid hcm
          have HbD := Lib.hid hbD
          have HOut := Lib.hid (HOut.out.call (Below.refl _ WX).drew)
          have HSc := Lib.hid (HSc.out.call (Below.refl _ WX).drew)
          have HBd0 := Lib.hid HB.out.drew
          have hszX : b0 ≤ WX.heap.size := by have := HOut.out.hB; have := HOut.out.hD; have : WX.drew.heap.size = WX.heap.size := rfl; omega
          obtain ⟨k, hk⟩ : ∃ k, k = d.length := ⟨_, rfl⟩
          have HK := Lib.hid hk
          have hkc' : k + 1 ≤ cap := by rw [hk]; exact hkc
          have hcm' : cap ≤ 9223372036854775807 := by unfold maxLen at hcm; omega
          rw [← hk] at HCb ⊢
          have hk1 : ((k + 1 : Nat) : Int) - 1 = (k : Int) := by omega
          have hk2 : (k : Int) + 1 - 1 = (k : Int) := by omega
          have hwk : IntKind.i64.wrap (k : Int) = (k : Int) := by rw [IntKind.wrap_i64]; omega
          have hkk : k < k + 1 := by omega
          have hkk2 : (k : Int) < (k : Int) + 1 := by omega
          clear hbk hcl hct hk hbD hkc hcm HB
          go_wp2_with fail
          refine heldG_go (S := fun w' => w'.cell? ⟨P, 0, none⟩ = some (.int .i64 kk) ∧ w'.cell? ⟨P, 1, none⟩ = some (.int .i64 lev) ∧ w'.cell? ⟨P, 2, none⟩ = some (.slice la ln lc) ∧ w'.cell? ⟨P, 3, none⟩ = some (.slice za zn zc)) (late := fun j => j == 7) (by kernel_rfl) ⟨y0, y1, y2, y3⟩ (fun hHeld => ?_)
          refine takeG 0 (v := ?_) [0, 4, 7] rfl (by kernel_rfl) (by kernel_rfl) (by kernel_rfl) (by kernel_rfl) (by kernel_rfl) (fun _ _ _ h => h) (by rfl) (by assumption) ?hy0 ?_
          case hy0 => (intro w hSw; (try dsimp only at hSw); go_simp; all_goals (with_reducible rfl))
          (try simp only [Act.put, List.setIfInBounds_toArray, List.set_cons_zero, List.set_cons_succ])
          refine takeG 1 (v := ?_) [1, 2, 3, 4, 7] rfl (by kernel_rfl) (by kernel_rfl) (by kernel_rfl) (by kernel_rfl) (by kernel_rfl) (fun _ _ _ h => h) (by rfl) (by assumption) ?hy1 ?_
          case hy1 => (intro w hSw; (try dsimp only at hSw); go_simp; all_goals (with_reducible rfl))
          (try simp only [Act.put, List.setIfInBounds_toArray, List.set_cons_zero, List.set_cons_succ])
          refine takeG 2 (v := ?_) [2, 3, 4, 7] rfl (by kernel_rfl) (by kernel_rfl) (by kernel_rfl) (by kernel_rfl) (by kernel_rfl) (fun _ _ _ h => h) (by rfl) (by assumption) ?hy2 ?_
          case hy2 => (intro w hSw; (try dsimp only at hSw); go_simp; all_goals (with_reducible rfl))
          (try simp only [Act.put, List.setIfInBounds_toArray, List.set_cons_zero, List.set_cons_succ])
          refine takeG 3 (v := ?_) [3, 4, 7] rfl (by kernel_rfl) (by kernel_rfl) (by kernel_rfl) (by kernel_rfl) (by kernel_rfl) (fun _ _ _ h => h) (by rfl) (by assumption) ?hy3 ?_
          case hy3 => (intro w hSw; (try dsimp only at hSw); go_simp; all_goals (with_reducible rfl))
          (try simp only [Act.put, List.setIfInBounds_toArray, List.set_cons_zero, List.set_cons_succ])
          refine takeG 4 (v := ?_) [4, 7] rfl (by kernel_rfl) (by kernel_rfl) (by kernel_rfl) (by kernel_rfl) (by kernel_rfl) (fun _ _ _ h => h) (by rfl) (by assumption) ?hy4 ?_
          case hy4 => (intro w hSw; (try dsimp only at hSw); go_simp; all_goals (with_reducible rfl))
          (try simp only [Act.put, List.setIfInBounds_toArray, List.set_cons_zero, List.set_cons_succ])
          refine takeG 5 (v := ?_) [5, 7] rfl (by kernel_rfl) (by kernel_rfl) (by kernel_rfl) (by kernel_rfl) (by kernel_rfl) (fun _ _ _ h => h) (by rfl) (by assumption) ?hy5 ?_
          case hy5 => (intro w hSw; (try dsimp only at hSw); go_simp; all_goals (with_reducible rfl))
          (try simp only [Act.put, List.setIfInBounds_toArray, List.set_cons_zero, List.set_cons_succ])
          refine takeG 6 (v := ?_) [6, 7] rfl (by kernel_rfl) (by kernel_rfl) (by kernel_rfl) (by kernel_rfl) (by kernel_rfl) (fun _ _ _ h => h) (by rfl) (by assumption) ?hy6 ?_
          case hy6 => (intro w hSw; (try dsimp only at hSw); go_simp; all_goals (with_reducible rfl))
          (try simp only [Act.put, List.setIfInBounds_toArray, List.set_cons_zero, List.set_cons_succ])
          refine consG 7 (by kernel_rfl) rfl (by rfl) (fun K hK => ?_)
          go_simp
          go_at_call 21
          refine (add13_any D (k * 3) R B ⟨kk, lev, ls, ss⟩ (.slice la ln lc) (.slice za zn zc) fine pb rb cb pv pv pv f [] [] w WX.drew HBk.out HCb.out HOut.out.last HSc.out HBd.out HTw.out HBd0.out hRw hDw HOut.out.hD HOut.out.hR HOut.out.hB hDR hls6 HLx.out HZ.out.1 HZ.out.2.1 HZ.out.2.2 hf1 hf2).mono ?_
          rintro e w7 ⟨pv', lv', rv', vs', us', rfl, hL7, hD7, hS7, hU7⟩
          have HB7 := Lib.hid (HBd0.out.trans (hU7.below hwB hDw hRw))
          have hb7 : b0 ≤ w7.heap.size := Nat.le_trans hszX hU7.size
          have HO7 : Hid (Out w7 b0 B R D cap cd d pv' lv' rv' (addG fine kk f ls) vs' us') := by
            have h9 := own_of_blk (n := d.length + 1) hD7 (by simpa using HCl.out) HbD.out HKC.out HKM.out
            rw [← HK.out] at h9
            rw [set3_take (by rw [HK.out]; exact HCt.out) (by rw [HK.out]; exact HOut.out.len) (by rw [HCl.out]; exact Nat.mul_le_mul_right _ hkc')] at h9
            exact ⟨by rw [← HK.out]; exact h9, HOut.out.len, HOut.out.done.keep (KeepB.up2 hU7 HBk.out HSc.out (by decide) (by decide)), hL7, HOut.out.hD, HOut.out.hR, Nat.le_trans HOut.out.hB hU7.size⟩
          have HS7 := Lib.hid hS7
          clear hL7 hD7 hS7 hU7
          clear hHeld
          refine hK.out _ _ (fun h => by cases h) (fun hHeld => ?_)
          clear hK K
          (try simp only [Act.put, List.setIfInBounds_toArray, List.set_cons_zero, List.set_cons_succ])
          refine wpAnyG_done (by kernel_rfl) ?_ _
          have HA7 : Hid (Acc13 w7 b0 R (.slice (some ⟨D, 0, none⟩) (k + 1) cap) (accN fine l (i + 1))) := by
            unfold Hid
            rw [HN.out, HK.out]
            exact ⟨B, D, cap, cd, pv', lv', rv', vs', us', rfl, HO7.out⟩
          clear y0 y1 y2 y3 hHeld HO7 HOut HSc HBk HCl HCt HCb HPG HK HZ HN hkk hkk2 hwk hk1 hk2
          go_wp2_with fail
          go_roundg q
          case measure => omega
          case rel => exact ⟨i + 1, _, _, _, _, _, by have := HQ.out; omega, rfl, by first | rfl | simp, HA7, HS7, Hpb2, HB7, hb7⟩
        | some z =>
          obtain ⟨d0, f0⟩ := z
          have hA2 := HA.out
          rw [hacc] at hA2
          obtain ⟨B0, D0, cap0, cd0, pv0, lv0, rv0, vs0, us0, hav, hout⟩ := hA2
          cases hav
          have HN : Hid (accN fine l (i + 1) = some (d0 ++ [f0], addG fine kk .no ls)) := by unfold Hid; rw [accN_succ fine l i _ Hgi.out, hacc]; unfold next; rw [if_neg HNC.out, if_pos hlev]
          have HZ : Hid (Fe.no.pts.length + (ls.map List.length).sum ≤ 100000000 ∧ Fe.no.lines.length + ls.length ≤ 100000000 ∧ Fe.no.rings.length + ls.length ≤ 100000000) := by
            have h8 := mu_total l i ⟨kk, lev, ls, ss⟩ Hgi.out
            have h9 := HTot.out
            unfold mu13 at h8 h9
            unfold Hid
            simp only at h8
            have e0 : Fe.no.pts.length = 0 ∧ Fe.no.lines.length = 0 ∧ Fe.no.rings.length = 0 := ⟨rfl, rfl, rfl⟩
            omega
          have hd6 : d0.length + 1 ≤ 1000000 := by have := (acc_sizes fine l i (by rw [← Hn.out]; omega) d0 f0 hacc).1; omega
          have HOld := Lib.hid hout
          have hown := hout.own
          obtain ⟨k0, hk0⟩ : ∃ k0, k0 = d0.length + 1 := ⟨_, rfl⟩
          have HK0 := Lib.hid hk0
          rw [← hk0] at hown hd6 ⊢
          clear hout hk0
          clear hacc HA
          go_wp2_with (at_builtin; refine wpList_append2 _ rfl _ _ 27 rfl b0 tF (.agg #[.slice none 0 0, .slice none 0 0, .slice none 0 0]) 3 72 Tryz.underlying27 info_fe rfl (by decide) (.slice (some ⟨D0, 0, none⟩) k0 ac) k0 _ rfl ((hown.alloc _).alloc _) _ _ 1 [.slice none 0 0, .slice none 0 0, .slice none 0 0] rfl (reads_new2 _ _ _ 1 1 _ (by simp) (by decide) (by decide)) rfl ?_ ?_ ?_ ?_ ?_)
          any_goals (first | (unfold maxLen; omega) | omega | (simp; omega) | (simp [Value.oneCell']; done))
          intro v' WX hown4 hgrow hmov
          obtain ⟨WA, hWA⟩ : ∃ WA, wr.alloc (.cells #[.int .i64 kk, .int .i64 lev, .slice la ln lc, .slice za zn zc] 33) = WA := ⟨_, rfl⟩
          have hbA : Below wr.heap.size wr WA := hWA ▸ (Below.refl _ wr).alloc (Nat.le_refl _) _
          have hPA : Blk WA wr.heap.size [.int .i64 kk, .int .i64 lev, .slice la ln lc, .slice za zn zc] 33 := hWA ▸ Blk.new wr _ _
          rw [hWA] at hgrow hmov
          obtain ⟨WZ, hWZ⟩ : ∃ WZ, WA.alloc (.cells #[.slice none 0 0, .slice none 0 0, .slice none 0 0] tF) = WZ := ⟨_, rfl⟩
          have hbZ : Below WA.heap.size WA WZ := hWZ ▸ (Below.refl _ WA).alloc (Nat.le_refl _) _
          rw [hWZ] at hgrow hmov
          have hbAZ : Below wr.heap.size wr WZ := hbA.trans (hbZ.mono hbA.size)
          have hszZ := hbAZ.size
          obtain ⟨P, hP⟩ : ∃ P, P = wr.heap.size := ⟨_, rfl⟩
          rw [← hP] at hPA ⊢
          have hPb : b0 ≤ P := by omega
          have hPz : P < WZ.heap.size := (hPA.call hbZ).lt
          have hbD0 : b0 ≤ D0 := (hown.lt D0 rfl).1
          have HPG := Lib.hid ((hPA.call hbZ).grown hgrow ((hPA.call hbZ).not_own (own_call hown hbAZ) (by decide)))
          have HSc := Lib.hid ((HSc.out.call hbAZ).grown hgrow (fun e => (by have e9 : R = D0 := (by simpa [Value.ownBlock] using e); omega)))
          have HB := Lib.hid ((HB.out.trans (hbAZ.mono HB.out.size)).grown hgrow (by omega) (fun j e => (by have e9 : D0 = j := (by simpa [Value.ownBlock] using e); omega)))
          have hOZ := HOld.out.call hbAZ
          obtain ⟨D, cap, rfl, hout⟩ := Out.begin hOZ (by rw [← HK0.out]; simpa using hown4) (by rw [← HK0.out]; exact hgrow)
          have HOut := Lib.hid hout
          obtain ⟨B, hBe⟩ : ∃ B, B = WX.heap.size := ⟨_, rfl⟩
          rw [← hBe] at HOut
          obtain ⟨cd, hcd⟩ : ∃ cd : List Value, cd = cd0 ++ [pv0, lv0, rv0] := ⟨_, rfl⟩
          obtain ⟨d, hd⟩ : ∃ d : List Fe, d = d0 ++ [f0] := ⟨_, rfl⟩
          obtain ⟨f, hfe⟩ : ∃ f : Fe, f = .no := ⟨_, rfl⟩
          obtain ⟨pv, hpv⟩ : ∃ v : Value, v = .slice none 0 0 := ⟨_, rfl⟩
          rw [← hfe] at HZ
          have HOut : Hid (Out WX b0 B R D cap cd d pv pv pv f [] []) := by rw [hcd, hd, hpv, hfe]; exact HOut.out
          have HN : Hid (accN fine l (i + 1) = some (d, addG fine kk f ls)) := by rw [hd, hfe]; exact HN.out
          rw [← hd]
          clear hout hown4 hown hgrow hmov hbA hPA hbZ hbAZ hWA hWZ hcd hd hfe hpv hBe hP hOZ HOld HK0
          obtain ⟨cb, hbk, hcl, hct, hbD, hkc, hcm⟩ := own_blk HOut.out.own
          have HBk := Lib.hid (hbk.call (Below.refl _ WX).drew)
          have HCl := Lib.hid hcl
          have HCt := Lib.hid hct
          have hDR : D ≠ R := by omega
          have HCb := Lib.hid (take_at hct HOut.out.len)
          have hDw : w.heap.size ≤ D := by omega
          have hwB : w.heap.size ≤ B := by have := HOut.out.hD; omega
          have hPR : P ≠ R := by omega
          have hPD : P ≠ D := fun e => by
            have h8 := HPG.out
            rw [e] at h8
            unfold Blk at h8 hbk
            rw [hbk] at h8
            cases h8
          have y0 := HPG.out.cell (j := 0) rfl
          have y1 := HPG.out.cell (j := 1) rfl
          have y2 := HPG.out.cell (j := 2) rfl
          have y3 := HPG.out.cell (j := 3) rfl
          have HKC := Lib.hid hkc
          have HKM := Lib.hid hcm
          have HbD := Lib.hid hbD
          have HOut := Lib.hid (HOut.out.call (Below.refl _ WX).drew)
          have HSc := Lib.hid (HSc.out.call (Below.refl _ WX).drew)
          have HBd0 := Lib.hid HB.out.drew
          have hszX : b0 ≤ WX.heap.size := by have := HOut.out.hB; have := HOut.out.hD; have : WX.drew.heap.size = WX.heap.size := rfl; omega
          obtain ⟨k, hk⟩ : ∃ k, k = d.length := ⟨_, rfl⟩
          have HK := Lib.hid hk
          have hkc' : k + 1 ≤ cap := by rw [hk]; exact hkc
          have hcm' : cap ≤ 9223372036854775807 := by unfold maxLen at hcm; omega
          rw [← hk] at HCb ⊢
          have hk1 : ((k + 1 : Nat) : Int) - 1 = (k : Int) := by omega
          have hk2 : (k : Int) + 1 - 1 = (k : Int) := by omega
          have hwk : IntKind.i64.wrap (k : Int) = (k : Int) := by rw [IntKind.wrap_i64]; omega
          have hkk : k < k + 1 := by omega
          have hkk2 : (k : Int) < (k : Int) + 1 := by omega
          clear hbk hcl hct hk hbD hkc hcm HB
          go_wp2_with fail
          refine heldG_go (S := fun w' => w'.cell? ⟨P, 0, none⟩ = some (.int .i64 kk) ∧ w'.cell? ⟨P, 1, none⟩ = some (.int .i64 lev) ∧ w'.cell? ⟨P, 2, none⟩ = some (.slice la ln lc) ∧ w'.cell? ⟨P, 3, none⟩ = some (.slice za zn zc)) (late := fun j => j == 7) (by kernel_rfl) ⟨y0, y1, y2, y3⟩ (fun hHeld => ?_)
          refine takeG 0 (v := ?_) [0, 4, 7] rfl (by kernel_rfl) (by kernel_rfl) (by kernel_rfl) (by kernel_rfl) (by kernel_rfl) (fun _ _ _ h => h) (by rfl) (by assumption) ?hy0 ?_
          case hy0 => (intro w hSw; (try dsimp only at hSw); go_simp; all_goals (with_reducible rfl))
          (try simp only [Act.put, List.setIfInBounds_toArray, List.set_cons_zero, List.set_cons_succ])
          refine takeG 1 (v := ?_) [1, 2, 3, 4, 7] rfl (by kernel_rfl) (by kernel_rfl) (by kernel_rfl) (by kernel_rfl) (by kernel_rfl) (fun _ _ _ h => h) (by rfl) (by assumption) ?hy1 ?_
          case hy1 => (intro w hSw; (try dsimp only at hSw); go_simp; all_goals (with_reducible rfl))
          (try simp only [Act.put, List.setIfInBounds_toArray, List.set_cons_zero, List.set_cons_succ])
          refine takeG 2 (v := ?_) [2, 3, 4, 7] rfl (by kernel_rfl) (by kernel_rfl) (by kernel_rfl) (by kernel_rfl) (by kernel_rfl) (fun _ _ _ h => h) (by rfl) (by assumption) ?hy2 ?_
          case hy2 => (intro w hSw; (try dsimp only at hSw); go_simp; all_goals (with_reducible rfl))
          (try simp only [Act.put, List.setIfInBounds_toArray, List.set_cons_zero, List.set_cons_succ])
          refine takeG 3 (v := ?_) [3, 4, 7] rfl (by kernel_rfl) (by kernel_rfl) (by kernel_rfl) (by kernel_rfl) (by kernel_rfl) (fun _ _ _ h => h) (by rfl) (by assumption) ?hy3 ?_
          case hy3 => (intro w hSw; (try dsimp only at hSw); go_simp; all_goals (with_reducible rfl))
          (try simp only [Act.put, List.setIfInBounds_toArray, List.set_cons_zero, List.set_cons_succ])
          refine takeG 4 (v := ?_) [4, 7] rfl (by kernel_rfl) (by kernel_rfl) (by kernel_rfl) (by kernel_rfl) (by kernel_rfl) (fun _ _ _ h => h) (by rfl) (by assumption) ?hy4 ?_
          case hy4 => (intro w hSw; (try dsimp only at hSw); go_simp; all_goals (with_reducible rfl))
          (try simp only [Act.put, List.setIfInBounds_toArray, List.set_cons_zero, List.set_cons_succ])
          refine takeG 5 (v := ?_) [5, 7] rfl (by kernel_rfl) (by kernel_rfl) (by kernel_rfl) (by kernel_rfl) (by kernel_rfl) (fun _ _ _ h => h) (by rfl) (by assumption) ?hy5 ?_
          case hy5 => (intro w hSw; (try dsimp only at hSw); go_simp; all_goals (with_reducible rfl))
          (try simp only [Act.put, List.setIfInBounds_toArray, List.set_cons_zero, List.set_cons_succ])
          refine takeG 6 (v := ?_) [6, 7] rfl (by kernel_rfl) (by kernel_rfl) (by kernel_rfl) (by kernel_rfl) (by kernel_rfl) (fun _ _ _ h => h) (by rfl) (by assumption) ?hy6 ?_
          case hy6 => (intro w hSw; (try dsimp only at hSw); go_simp; all_goals (with_reducible rfl))
          (try simp only [Act.put, List.setIfInBounds_toArray, List.set_cons_zero, List.set_cons_succ])
          refine consG 7 (by kernel_rfl) rfl (by rfl) (fun K hK => ?_)
          go_simp
          go_at_call 21
          refine (add13_any D (k * 3) R B ⟨kk, lev, ls, ss⟩ (.slice la ln lc) (.slice za zn zc) fine pb rb cb pv pv pv f [] [] w WX.drew HBk.out HCb.out HOut.out.last HSc.out HBd.out HTw.out HBd0.out hRw hDw HOut.out.hD HOut.out.hR HOut.out.hB hDR hls6 HLx.out HZ.out.1 HZ.out.2.1 HZ.out.2.2 hf1 hf2).mono ?_
          rintro e w7 ⟨pv', lv', rv', vs', us', rfl, hL7, hD7, hS7, hU7⟩
          have HB7 := Lib.hid (HBd0.out.trans (hU7.below hwB hDw hRw))
          have hb7 : b0 ≤ w7.heap.size := Nat.le_trans hszX hU7.size
          have HO7 : Hid (Out w7 b0 B R D cap cd d pv' lv' rv' (addG fine kk f ls) vs' us') := by
            have h9 := own_of_blk (n := d.length + 1) hD7 (by simpa using HCl.out) HbD.out HKC.out HKM.out
            rw [← HK.out] at h9
            rw [set3_take (by rw [HK.out]; exact HCt.out) (by rw [HK.out]; exact HOut.out.len) (by rw [HCl.out]; exact Nat.mul_le_mul_right _ hkc')] at h9
            exact ⟨by rw [← HK.out]; exact h9, HOut.out.len, HOut.out.done.keep (KeepB.up2 hU7 HBk.out HSc.out (by decide) (by decide)), hL7, HOut.out.hD, HOut.out.hR, Nat.le_trans HOut.out.hB hU7.size⟩
          have HS7 := Lib.hid hS7
          clear hL7 hD7 hS7 hU7
          clear hHeld
          refine hK.out _ _ (fun h => by cases h) (fun hHeld => ?_)
          clear hK K
          (try simp only [Act.put, List.setIfInBounds_toArray, List.set_cons_zero, List.set_cons_succ])
          refine wpAnyG_done (by kernel_rfl) ?_ _
          have HA7 : Hid (Acc13 w7 b0 R (.slice (some ⟨D, 0, none⟩) (k + 1) cap) (accN fine l (i + 1))) := by
            unfold Hid
            rw [HN.out, HK.out]
            exact ⟨B, D, cap, cd, pv', lv', rv', vs', us', rfl, HO7.out⟩
          clear y0 y1 y2 y3 hHeld HO7 HOut HSc HBk HCl HCt HCb HPG HK HZ HN hkk hkk2 hwk hk1 hk2
          go_wp2_with fail
          go_roundg q
          case measure => omega
          case rel => exact ⟨i + 1, _, _, _, _, _, by have := HQ.out; omega, rfl, by first | rfl | simp, HA7, HS7, Hpb2, HB7, hb7⟩
      · skip
        have hlev' : ¬ lev ≤ 1 := hlev
        obtain ⟨z, hacc⟩ := Ft.begun fine l HRight.out i _ Hgi.out hlev HNC.out
        obtain ⟨d, f⟩ := z
        have hA2 := HA.out
        rw [hacc] at hA2
        obtain ⟨B, D, cap, cd, pv, lv, rv, vs, us, hav, hout⟩ := hA2
        cases hav
        have HN : Hid (accN fine l (i + 1) = some (d, addG fine kk f ls)) := by unfold Hid; rw [accN_succ fine l i _ Hgi.out, hacc]; unfold next; rw [if_neg HNC.out, if_neg hlev]; rfl
        have HZ : Hid (f.pts.length + (ls.map List.length).sum ≤ 100000000 ∧ f.lines.length + ls.length ≤ 100000000 ∧ f.rings.length + ls.length ≤ 100000000) := by
          have h8 := mu_total l i ⟨kk, lev, ls, ss⟩ Hgi.out
          have h9 := HTot.out
          unfold mu13 at h8 h9
          unfold Hid
          simp only at h8
          have e0 := acc_sizes fine l i (by rw [← Hn.out]; omega) d f hacc
          unfold mu13 at e0
          omega
        have HOut := Lib.hid hout
        clear hacc HA hout
        go_wp2_with fail
        obtain ⟨WX, hWX⟩ : ∃ WX, wr.alloc (.cells #[.int .i64 kk, .int .i64 lev, .slice la ln lc, .slice za zn zc] 33) = WX := ⟨_, rfl⟩
        have hbX : Below wr.heap.size wr WX := hWX ▸ (Below.refl _ wr).alloc (Nat.le_refl _) _
        have HPG : Hid (Blk WX wr.heap.size [.int .i64 kk, .int .i64 lev, .slice la ln lc, .slice za zn zc] 33) := hWX ▸ Blk.new wr _ _
        have HSc := Lib.hid (HSc.out.call hbX)
        have HB := Lib.hid (HB.out.trans (hbX.mono HB.out.size))
        have HOut := Lib.hid (HOut.out.call hbX)
        rw [hWX]
        obtain ⟨P, hP⟩ : ∃ P, P = wr.heap.size := ⟨_, rfl⟩
        rw [← hP] at HPG ⊢
        have hPb : b0 ≤ P := by omega
        clear hWX hbX hP
        obtain ⟨cb, hbk, hcl, hct, hbD, hkc, hcm⟩ := own_blk HOut.out.own
        have HBk := Lib.hid (hbk.call (Below.refl _ WX).drew)
        have HCl := Lib.hid hcl
        have HCt := Lib.hid hct
        have hDR : D ≠ R := by omega
        have HCb := Lib.hid (take_at hct HOut.out.len)
        have hDw : w.heap.size ≤ D := by omega
        have hwB : w.heap.size ≤ B := by have := HOut.out.hD; omega
        have hPR : P ≠ R := by omega
        have hPD : P ≠ D := fun e => by
          have h8 := HPG.out
          rw [e] at h8
          unfold Blk at h8 hbk
          rw [hbk] at h8
          cases h8
        have y0 := HPG.out.cell (j := 0) rfl
        have y1 := HPG.out.cell (j := 1) rfl
        have y2 := HPG.out.cell (j := 2) rfl
        have y3 := HPG.out.cell (j := 3) rfl
        have HKC := Lib.hid hkc
        have HKM := Lib.hid hcm
        have HbD := Lib.hid hbD
        have HOut := Lib.hid (HOut.out.call (Below.refl _ WX).drew)
        have HSc := Lib.hid (HSc.out.call (Below.refl _ WX).drew)
        have HBd0 := Lib.hid HB.out.drew
        have hszX : b0 ≤ WX.heap.size := by have := HOut.out.hB; have := HOut.out.hD; have : WX.drew.heap.size = WX.heap.size := rfl; omega
        obtain ⟨k, hk⟩ : ∃ k, k = d.length := ⟨_, rfl⟩
        have HK := Lib.hid hk
        have hkc' : k + 1 ≤ ac := by rw [hk]; exact hkc
        have hcm' : ac ≤ 9223372036854775807 := by unfold maxLen at hcm; omega
        rw [← hk] at HCb ⊢
        have hk1 : ((k + 1 : Nat) : Int) - 1 = (k : Int) := by omega
        have hk2 : (k : Int) + 1 - 1 = (k : Int) := by omega
        have hwk : IntKind.i64.wrap (k : Int) = (k : Int) := by rw [IntKind.wrap_i64]; omega
        have hkk : k < k + 1 := by omega
        have hkk2 : (k : Int) < (k : Int) + 1 := by omega
        clear hbk hcl hct hk hbD hkc hcm HB
        refine heldG_go (S := fun w' => w'.cell? ⟨P, 0, none⟩ = some (.int .i64 kk) ∧ w'.cell? ⟨P, 1, none⟩ = some (.int .i64 lev) ∧ w'.cell? ⟨P, 2, none⟩ = some (.slice la ln lc) ∧ w'.cell? ⟨P, 3, none⟩ = some (.slice za zn zc)) (late := fun j => j == 7) (by kernel_rfl) ⟨y0, y1, y2, y3⟩ (fun hHeld => ?_)
        refine takeG 0 (v := ?_) [0, 4, 7] rfl (by kernel_rfl) (by kernel_rfl) (by kernel_rfl) (by kernel_rfl) (by kernel_rfl) (fun _ _ _ h => h) (by rfl) (by assumption) ?hy0 ?_
        case hy0 => (intro w hSw; (try dsimp only at hSw); go_simp; all_goals (with_reducible rfl))
        (try simp only [Act.put, List.setIfInBounds_toArray, List.set_cons_zero, List.set_cons_succ])
        refine takeG 1 (v := ?_) [1, 2, 3, 4, 7] rfl (by kernel_rfl) (by kernel_rfl) (by kernel_rfl) (by kernel_rfl) (by kernel_rfl) (fun _ _ _ h => h) (by rfl) (by assumption) ?hy1 ?_
        case hy1 => (intro w hSw; (try dsimp only at hSw); go_simp; all_goals (with_reducible rfl))
        (try simp only [Act.put, List.setIfInBounds_toArray, List.set_cons_zero, List.set_cons_succ])
        refine takeG 2 (v := ?_) [2, 3, 4, 7] rfl (by kernel_rfl) (by kernel_rfl) (by kernel_rfl) (by kernel_rfl) (by kernel_rfl) (fun _ _ _ h => h) (by rfl) (by assumption) ?hy2 ?_
        case hy2 => (intro w hSw; (try dsimp only at hSw); go_simp; all_goals (with_reducible rfl))
        (try simp only [Act.put, List.setIfInBounds_toArray, List.set_cons_zero, List.set_cons_succ])
        refine takeG 3 (v := ?_) [3, 4, 7] rfl (by kernel_rfl) (by kernel_rfl) (by kernel_rfl) (by kernel_rfl) (by kernel_rfl) (fun _ _ _ h => h) (by rfl) (by assumption) ?hy3 ?_
        case hy3 => (intro w hSw; (try dsimp only at hSw); go_simp; all_goals (with_reducible rfl))
        (try simp only [Act.put, List.setIfInBounds_toArray, List.set_cons_zero, List.set_cons_succ])
        refine takeG 4 (v := ?_) [4, 7] rfl (by kernel_rfl) (by kernel_rfl) (by kernel_rfl) (by kernel_rfl) (by kernel_rfl) (fun _ _ _ h => h) (by rfl) (by assumption) ?hy4 ?_
        case hy4 => (intro w hSw; (try dsimp only at hSw); go_simp; all_goals (with_reducible rfl))
        (try simp only [Act.put, List.setIfInBounds_toArray, List.set_cons_zero, List.set_cons_succ])
        refine takeG 5 (v := ?_) [5, 7] rfl (by kernel_rfl) (by kernel_rfl) (by kernel_rfl) (by kernel_rfl) (by kernel_rfl) (fun _ _ _ h => h) (by rfl) (by assumption) ?hy5 ?_
        case hy5 => (intro w hSw; (try dsimp only at hSw); go_simp; all_goals (with_reducible rfl))
        (try simp only [Act.put, List.setIfInBounds_toArray, List.set_cons_zero, List.set_cons_succ])
        refine takeG 6 (v := ?_) [6, 7] rfl (by kernel_rfl) (by kernel_rfl) (by kernel_rfl) (by kernel_rfl) (by kernel_rfl) (fun _ _ _ h => h) (by rfl) (by assumption) ?hy6 ?_
        case hy6 => (intro w hSw; (try dsimp only at hSw); go_simp; all_goals (with_reducible rfl))
        (try simp only [Act.put, List.setIfInBounds_toArray, List.set_cons_zero, List.set_cons_succ])
        refine consG 7 (by kernel_rfl) rfl (by rfl) (fun K hK => ?_)
        go_simp
        go_at_call 21
        refine (add13_any D (k * 3) R B ⟨kk, lev, ls, ss⟩ (.slice la ln lc) (.slice za zn zc) fine pb rb cb pv lv rv f vs us w WX.drew HBk.out HCb.out HOut.out.last HSc.out HBd.out HTw.out HBd0.out hRw hDw HOut.out.hD HOut.out.hR HOut.out.hB hDR hls6 HLx.out HZ.out.1 HZ.out.2.1 HZ.out.2.2 hf1 hf2).mono ?_
        rintro e w7 ⟨pv', lv', rv', vs', us', rfl, hL7, hD7, hS7, hU7⟩
        have HB7 := Lib.hid (HBd0.out.trans (hU7.below hwB hDw hRw))
        have hb7 : b0 ≤ w7.heap.size := Nat.le_trans hszX hU7.size
        have HO7 : Hid (Out w7 b0 B R D ac cd d pv' lv' rv' (addG fine kk f ls) vs' us') := by
          have h9 := own_of_blk (n := d.length + 1) hD7 (by simpa using HCl.out) HbD.out HKC.out HKM.out
          rw [← HK.out] at h9
          rw [set3_take (by rw [HK.out]; exact HCt.out) (by rw [HK.out]; exact HOut.out.len) (by rw [HCl.out]; exact Nat.mul_le_mul_right _ hkc')] at h9
          exact ⟨by rw [← HK.out]; exact h9, HOut.out.len, HOut.out.done.keep (KeepB.up2 hU7 HBk.out HSc.out (by decide) (by decide)), hL7, HOut.out.hD, HOut.out.hR, Nat.le_trans HOut.out.hB hU7.size⟩
        have HS7 := Lib.hid hS7
        clear hL7 hD7 hS7 hU7
        clear hHeld
        refine hK.out _ _ (fun h => by cases h) (fun hHeld => ?_)
        clear hK K
        (try simp only [Act.put, List.setIfInBounds_toArray, List.set_cons_zero, List.set_cons_succ])
        refine wpAnyG_done (by kernel_rfl) ?_ _
        have HA7 : Hid (Acc13 w7 b0 R (.slice (some ⟨D, 0, none⟩) (k + 1) ac) (accN fine l (i + 1))) := by
          unfold Hid
          rw [HN.out, HK.out]
          exact ⟨B, D, ac, cd, pv', lv', rv', vs', us', rfl, HO7.out⟩
        clear y0 y1 y2 y3 hHeld HO7 HOut HSc HBk HCl HCt HCb HPG HK HZ HN hkk hkk2 hwk hk1 hk2
        go_wp2_with fail
        go_roundg q
        case measure => omega
        case rel => exact ⟨i + 1, _, _, _, _, _, by have := HQ.out; omega, rfl, by first | rfl | simp, HA7, HS7, Hpb2, HB7, hb7⟩
end Go.Proofs.YtfbdkjonjpanfaaGreatDoor

set_option linter.unusedVariables false
set_option linter.unusedSimpArgs false
namespace Go.Proofs.YtfbdkjonjpanfaaGreatDoor
open Go.RowKit Go.Rg

namespace Pg
theorem bdC {R : Nat} {w : World} {lv zv : Value} {g : Wk.Geo} (h : BodyR R w lv zv (g.lists, g.sizes)) : BdC w lv zv g := by
  obtain ⟨vs, h1, h2, h3⟩ := h
  exact ⟨vs, h2.len, .of h1, .of h2, .of h3⟩
theorem bdA {w : World} {lv zv : Value} {g : Wk.Geo} (h : BdC w lv zv g) : BdA w lv zv (Wk.toA g) := by
  obtain ⟨vs, h0, h1, h2, h3⟩ := h
  refine ⟨vs, h0, h1, h2, ?_⟩
  have e1 : (Wk.toA g).sizes.length = g.sizes.length := by unfold Wk.toA; simp
  have e2 : intsZ (Wk.toA g).sizes = intsN g.sizes := by unfold intsZ intsN Wk.toA; rw [List.map_map]; rfl
  rw [e1, e2]
  exact h3
theorem cons {W : World} {g : GA} {lv zv : Value} {cs : List Value} {l : List GA} (h : BdA W lv zv g) (hl : GsC W cs l) : GsC W (.int .i64 g.kind :: .int .i64 g.level :: lv :: zv :: cs) (g :: l) := fun i x hx => by
  cases i with
  | zero => cases hx; exact ⟨lv, zv, rfl, rfl, rfl, rfl, h⟩
  | succ i =>
    obtain ⟨a, b, h1, h2, h3, h4, h5⟩ := hl i x (by simpa using hx)
    have e : ∀ j, (Value.int .i64 g.kind :: Value.int .i64 g.level :: lv :: zv :: cs)[j + 4]? = cs[j]? := fun j => rfl
    exact ⟨a, b, by rw [show (i + 1) * 4 = i * 4 + 4 from by omega, e]; exact h1, by rw [show (i + 1) * 4 + 1 = i * 4 + 1 + 4 from by omega, e]; exact h2,
      by rw [show (i + 1) * 4 + 2 = i * 4 + 2 + 4 from by omega, e]; exact h3, by rw [show (i + 1) * 4 + 3 = i * 4 + 3 + 4 from by omega, e]; exact h4, h5⟩
theorem gsC {R : Nat} {w : World} : ∀ {gs : List Wk.Geo} {cs : List Value}, rdsG R w cs gs → GsC w cs (gs.map Wk.toA)
  | [], cs, _ => fun i g h => by cases h
  | x :: gs, cs, ⟨v, u, ds, e, h1, h2⟩ => by
    subst e
    exact cons (bdA (bdC h1)) (gsC h2)
theorem sum_mem {A : Type} (f : A → Nat) : ∀ (l : List A) (x : A), x ∈ l → f x ≤ (l.map f).sum
  | y :: r, x, h => by
    simp only [List.map_cons, List.sum_cons]
    rcases List.mem_cons.1 h with rfl | h
    · omega
    · have := sum_mem f r x h; omega
theorem sum_len {A : Type} (f : A → Nat) (c : Nat) : ∀ (l : List A), (∀ x ∈ l, c ≤ f x) → l.length * c ≤ (l.map f).sum
  | [], _ => by simp
  | y :: r, h => by
    simp only [List.map_cons, List.sum_cons, List.length_cons, Nat.succ_mul]
    have := sum_len f c r (fun x hx => h x (List.mem_cons_of_mem _ hx))
    have := h y (List.mem_cons_self ..)
    omega
theorem sum_le {A : Type} (f g : A → Nat) : ∀ l : List A, (∀ x ∈ l, f x ≤ g x) → (l.map f).sum ≤ (l.map g).sum
  | [], _ => by simp
  | y :: r, h => by
    simp only [List.map_cons, List.sum_cons]
    have := sum_le f g r (fun x hx => h x (List.mem_cons_of_mem _ hx))
    have := h y (List.mem_cons_self ..)
    omega
theorem mL_len (l : List Wk.Pr) : l.length + 1 ≤ Wk.mL l := by
  have := sum_len Wk.mP 1 l (fun x _ => by unfold Wk.mP; omega)
  unfold Wk.mL; omega
theorem mLs_len (ls : List (List Wk.Pr)) : ls.length ≤ Wk.mLs ls ∧ (ls.map List.length).sum ≤ Wk.mLs ls := by
  have h1 := sum_len Wk.mL 1 ls (fun x _ => by have := mL_len x; omega)
  have h2 := sum_le List.length Wk.mL ls (fun x _ => by have := mL_len x; omega)
  unfold Wk.mLs; omega
/-- how much there is of a text's geometries -/
theorem fit (s : ByteArray) (gs : List Wk.Geo) (h : Wk.parse s.data.toList = .ok gs) (hs : s.size ≤ 50000) :
    Wk.RightA (gs.map Wk.toA) ∧ (∀ g ∈ gs.map Wk.toA, Wk.FitA g) ∧ (gs.map Wk.toA).length ≤ 2 * s.size ∧
    (∀ g ∈ gs.map Wk.toA, g.lists.length ≤ 2 * s.size ∧ ∀ m ∈ g.lists, m.length ≤ 2 * s.size ∧ ∀ p ∈ m, p.1.length ≤ 2 * s.size ∧ p.2.length ≤ 2 * s.size) ∧ ((gs.map Wk.toA).map mu13).sum ≤ 2 * s.size * 2 := by
  obtain ⟨hr, hm⟩ := Wk.parse_right s gs h
  have key : ∀ g ∈ gs, Wk.mG g ≤ 2 * s.size := fun g hg => Nat.le_trans (sum_mem Wk.mG gs g hg) hm
  have key2 : ∀ g ∈ gs, g.lists.length ≤ 2 * s.size ∧ g.sizes.length ≤ 2 * s.size ∧ ∀ m ∈ g.lists, m.length ≤ 2 * s.size ∧ ∀ p ∈ m, p.1.length ≤ 2 * s.size ∧ p.2.length ≤ 2 * s.size := by
    intro g hg
    have h1 := key g hg
    have h2 := mLs_len g.lists
    unfold Wk.mG at h1
    refine ⟨by omega, by omega, fun m hm => ?_⟩
    have h3 := sum_mem Wk.mL g.lists m hm
    have h4 := mL_len m
    unfold Wk.mLs at h1 h2
    refine ⟨by omega, fun p hp => ?_⟩
    have h5 := sum_mem Wk.mP m p hp
    have h6 : Wk.mL m = 1 + (m.map Wk.mP).sum := rfl
    unfold Wk.mP at h5
    unfold Wk.mP at h6
    omega
  refine ⟨Wk.right_toA gs hr, ?_, ?_, ?_, ?_⟩
  · intro x hx
    obtain ⟨g, hg, rfl⟩ := List.mem_map.1 hx
    obtain ⟨h1, h2, h3⟩ := key2 g hg
    refine ⟨by show g.lists.length ≤ _; omega, by show (g.sizes.map _).length ≤ _; rw [List.length_map]; omega, fun l hl p hp => ?_⟩
    have := (h3 l hl).2 p hp
    unfold Go.Proofs.YtfbdkjonjpanfaaGreatDoor.fit maxLen
    constructor <;> omega
  · rw [List.length_map]
    have := sum_len Wk.mG 1 gs (fun x _ => by unfold Wk.mG; omega)
    omega
  · intro x hx
    obtain ⟨g, hg, rfl⟩ := List.mem_map.1 hx
    exact ⟨(key2 g hg).1, (key2 g hg).2.2⟩
  · have : ((gs.map Wk.toA).map mu13).sum ≤ (gs.map fun g => 2 * Wk.mG g).sum := by
      rw [List.map_map]
      refine sum_le _ _ gs (fun g _ => ?_)
      have h2 := mLs_len g.lists
      show (g.lists.map List.length).sum + g.lists.length ≤ 2 * Wk.mG g
      unfold Wk.mG
      omega
    have e : ∀ l : List Wk.Geo, (l.map fun g => 2 * Wk.mG g).sum = 2 * (l.map Wk.mG).sum := by
      intro l
      induction l with
      | nil => rfl
      | cons x r ih => simp only [List.map_cons, List.sum_cons, ih]; omega
    rw [e] at this
    omega
end Pg
end Go.Proofs.YtfbdkjonjpanfaaGreatDoor
