/- Numbers of any length in memory; gromaref01's trim, Minus, sizes, Cmp, Sign. -/
import Derived.Test.YtkhpfdgkmnifcaaDoorBgA
import Derived.Test.YtkhpfdgkmnifcaaDoorShelf
import Derived.Test.YtkhpfdgkmnifcaaDoorRows
import Derived.Test.YtkhpfdgkmnifcaaDoorApp
import Derived.Test.YtkhpfdgkmnifcaaDoorUpd
import Derived.Test.YtkhpfdgkmnifcaaDoorHeld
import Derived.Deep.LoopGhost
import Derived.Deep.RegionHeld3
import Derived.BigQuiet
import Derived.Handy
import Derived.WalkSpells
import Derived.WalkLawsBesides
import Derived.Lib.Hide
set_option linter.unusedVariables false
set_option linter.unusedSimpArgs false
namespace Go.Proofs.YtkhpfdgkmnifcaaDoor
open Go.RowKit Go.Rg Bg
attribute [local go_sem] Oper.semAt_some

def ints (l : List Nat) : List Value := l.map fun d : Nat => .int .i64 (d : Int)
theorem ints_at {l : List Nat} {i d : Nat} (h : l[i]? = some d) : (ints l)[i]? = some (.int .i64 (d : Int)) := by unfold ints; rw [List.getElem?_map, h]; rfl
theorem ints_len (l : List Nat) : (ints l).length = l.length := by unfold ints; rw [List.length_map]
theorem ints_take (l : List Nat) (n : Nat) : ints (l.take n) = (ints l).take n := by unfold ints; rw [List.map_take]
theorem ints_snoc (l : List Nat) (d : Nat) : ints (l ++ [d]) = ints l ++ [.int .i64 (d : Int)] := by unfold ints; rw [List.map_append]; rfl

/-- v reads as a list of numbers, in a block of numbers -/
def RdN (w : World) (B : Nat) (v : Value) (n : Nat) (xs : List Value) : Prop := Reads w B v n xs ∧ RdT 3 w v n xs
theorem RdN.mono {w : World} {B B' : Nat} {v : Value} {n : Nat} {xs : List Value} (h : RdN w B v n xs) (hB : B ≤ B') : RdN w B' v n xs := ⟨h.1.mono hB, h.2⟩
theorem RdN.below {w w' : World} {B : Nat} {v : Value} {n : Nat} {xs : List Value} (h : RdN w B v n xs) (hb : Below B w w') : RdN w' B v n xs := by
  refine ⟨h.1.below hb, ?_⟩
  rcases h.1 with h1 | ⟨g, off, cap, rfl, h1, _⟩
  · exact .inl h1
  · rcases h.2 with ⟨e, _⟩ | ⟨g', off', cap', cs, fz, e, h2, h3⟩
    · cases e
    · cases e
      exact .inr ⟨_, _, _, cs, fz, rfl, (hb.block _ h1).trans h2, h3⟩
theorem RdN.of_own {w : World} {base size n : Nat} {v : Value} {xs : List Value} (h : w.ownsRow base 3 size v n xs) : RdN w w.heap.size v n xs := ⟨Reads.of_own h, RdT.of_own h⟩
theorem RdN.keep {w w' : World} {B : Nat} {v : Value} {n : Nat} {xs : List Value} (h : RdN w B v n xs) (hk : KeepT 3 w w') : RdN w' w'.heap.size v n xs := ⟨(h.2.keep hk).reads, h.2.keep hk⟩
theorem RdN.nil (w : World) (B : Nat) : RdN w B (.slice none 0 0) 0 [] := ⟨.inl ⟨rfl, rfl, rfl⟩, .inl ⟨rfl, rfl, rfl⟩⟩
/-- v is a number below 0 or not, with these digits -/
def BigV (w : World) (B : Nat) (v : Value) (neg : Bool) (l : List Nat) : Prop := ∃ s, v = .agg #[.bool neg, s] ∧ RdN w B s l.length (ints l)
/-- v is this number -/
def Big (w : World) (v : Value) (x : Int) : Prop := ∃ neg l, BigV w w.heap.size v neg l ∧ ok l ∧ nz l ∧ (l = [] → neg = false) ∧ x = sgn neg (val l)

theorem Big.call {w w' : World} {v : Value} {x : Int} (h : Big w v x) (hb : Below w.heap.size w w') : Big w' v x := by
  obtain ⟨neg, l, ⟨s, hv, hr⟩, r⟩ := h
  exact ⟨neg, l, ⟨s, hv, (hr.below hb).mono hb.size⟩, r⟩
theorem reads_digits {w : World} {B : Nat} {s : Value} {l : List Nat} (h : RdN w B s l.length (ints l)) : ∃ a cap, s = .slice a l.length cap ∧ l.length ≤ cap ∧ cap ≤ maxLen ∧
    (l ≠ [] → ∃ g off, a = some ⟨g, off, none⟩ ∧ g < B ∧ ∀ (i d : Nat), l[i]? = some d → w.cell? ⟨g, off + i, none⟩ = some (.int .i64 (d : Int))) := by
  rcases h.1 with ⟨rfl, h1, h2⟩ | ⟨g, off, cap, rfl, h1, h2, h3, h4⟩
  · rw [h1]
    exact ⟨none, 0, rfl, Nat.le_refl _, by unfold maxLen; omega, fun hl => absurd (List.eq_nil_of_length_eq_zero h1) hl⟩
  · exact ⟨_, cap, rfl, h2, h3, fun _ => ⟨g, off, rfl, h1, fun i d hd => h4 _ _ (ints_at hd)⟩⟩

theorem zero_nil : nz [] ∧ ok [] := ⟨by unfold nz; simp, fun d hd => by cases hd⟩

/-- a number stored into a box -/
theorem put2 {W : World} {b : Nat} {x0 y0 x y : Value} {t : TypeId} (h : Blk W b [x0, y0] t) : Blk ((W.setCell ⟨b, 0, none⟩ x).setCell ⟨b, 1, none⟩ y) b [x, y] t := (h.set 0 x).set 1 y
theorem put2_below {B b : Nat} {w W : World} {x y : Value} (h : Below B w W) (hB : B ≤ b) : Below B w ((W.setCell ⟨b, 0, none⟩ x).setCell ⟨b, 1, none⟩ y) := (h.setCell hB x).setCell hB y
theorem big_zero (w : World) : Big w (.agg #[.bool false, .slice none 0 0]) 0 := ⟨false, [], ⟨_, rfl, RdN.nil _ _⟩, zero_nil.2, zero_nil.1, fun _ => rfl, rfl⟩
theorem reads_prefix {w : World} {B n cap : Nat} {a : Option Addr} {l : List Nat} (h : RdN w B (.slice a l.length cap) l.length (ints l)) (hl : l ≠ []) (hn : n ≤ l.length) : RdN w B (.slice a n cap) (l.take n).length (ints (l.take n)) := by
  have e : (l.take n).length = n := by rw [List.length_take]; omega
  have ht : ∀ (j : Nat) x, (ints (l.take n))[j]? = some x → (ints l)[j]? = some x := by
    intro j x hj
    rw [ints_take, List.getElem?_take] at hj
    split at hj
    · exact hj
    · cases hj
  constructor
  · rcases h.1 with ⟨h, h1, _⟩ | ⟨g, off, c, h, h1, h2, h3, h4⟩
    · exact absurd (List.eq_nil_of_length_eq_zero h1) hl
    · cases h
      exact .inr ⟨g, off, cap, by rw [e], h1, by omega, h3, fun j x hj => h4 j x (ht j x hj)⟩
  · rcases h.2 with ⟨h, h1, _⟩ | ⟨g, off, c, cs, fz, h, h1, h2, h3, h4⟩
    · exact absurd (List.eq_nil_of_length_eq_zero h1) hl
    · cases h
      exact .inr ⟨g, off, cap, cs, fz, by rw [e], h1, by omega, h3, fun j x hj => h4 j x (ht j x hj)⟩

set_option maxHeartbeats 1000000 in
theorem trim_any (neg : Bool) (s : Value) (l : List Nat) (w : World) (h : RdN w w.heap.size s l.length (ints l)) (hok : ok l) (hl : l.length ≤ 100000) :
    Calls Tryd.prog 26 #[.agg #[.bool neg, s]] w fun e w' => ∃ v, e = .returned v ∧ Big w' v (sgn neg (val l)) ∧ Below w.heap.size w w' := by
  obtain ⟨a, cap, rfl, h1, h2, h3⟩ := reads_digits h
  unfold maxLen at h2
  have H3 := Lib.hid h3
  have HO := Lib.hid hok
  have HR := Lib.hid h
  clear h3 hok h
  obtain ⟨n, hn⟩ : ∃ n, n = l.length := ⟨_, rfl⟩
  rw [← hn] at h1 hl
  have Hn := Lib.hid hn
  rw [← hn]
  clear hn
  go_enter Tryd.func26, Tryd.ntmps26
  go_wp2_with fail
  obtain ⟨W, hW⟩ : ∃ W, (w.alloc (.cells #[.bool neg, .slice a n cap] 29)).alloc (.cells #[.bool false, .slice none 0 0] 29) = W := ⟨_, rfl⟩
  have hB1 : Blk W w.heap.size [.bool neg, .slice a n cap] 29 := hW ▸ (Blk.new w [.bool neg, .slice a n cap] _).alloc _
  have hB2 : Blk W (w.heap.size + 1) [.bool false, .slice none 0 0] 29 := by
    have := Blk.new (w.alloc (.cells #[.bool neg, .slice a n cap] 29)) [.bool false, .slice none 0 0] 29
    rw [World.size_alloc] at this
    exact hW ▸ this
  have hBw : Below w.heap.size w W := hW ▸ ((Below.refl _ w).alloc (Nat.le_refl _) _).alloc (by simp) _
  have hsz : W.heap.size = w.heap.size + 2 := by rw [← hW]; simp
  rw [hW]
  clear hW
  have c0 := hB1.cell (j := 0) rfl
  have c1 := hB1.cell (j := 1) rfl
  have d0 := hB2.cell (j := 0) rfl
  have d1 := hB2.cell (j := 1) rfl
  have f2 := hB2.frozen
  have HB2 := Lib.hid hB2
  have HBw := Lib.hid hBw
  clear hB1 hB2 hBw
  go_loopg [3] n (fun q s3 wx => s3 = .int .i64 (q : Int) ∧ W = wx ∧ q ≤ n ∧ Hid (val (l.take q) = val l))
  case atStart => exact ⟨rfl, rfl, Nat.le_refl _, by unfold Hid; rw [Hn.out, List.take_length]⟩
  case round =>
    obtain ⟨rfl, rfl, hq, Hv⟩ := hrel
    cases gk with
    | zero =>
      have Hz : Hid (val l = 0) := by unfold Hid; rw [← Hv.out]; rfl
      have Hend : Hid (∀ X, Below w.heap.size w X → (∃ v, Ending.returned (.agg #[.bool false, .slice none 0 0]) = .returned v ∧ Big X v (sgn neg (val l)) ∧ Below w.heap.size w X)) := by
        intro X hX
        exact ⟨_, rfl, by rw [Hz.out]; have := big_zero X; unfold sgn; cases neg <;> exact this, hX⟩
      have hP := put2 (x := .bool false) (y := .slice none 0 0) HB2.out
      have z0 := hP.cell (j := 0) rfl
      have z1 := hP.cell (j := 1) rfl
      have HP := Lib.hid (put2_below (x := .bool false) (y := .slice none 0 0) HBw.out (b := w.heap.size + 1) (by omega))
      clear hP
      go_wp2_with fail
      exact bodyPost_ret (v := .agg #[.bool false, .slice none 0 0]) (by simp [results, Tryd.results26, go_sem, *]) rfl (Hend.out _ HP.out)
    | succ q =>
      obtain ⟨d, hd⟩ : ∃ d, l[q]? = some d := ⟨_, List.getElem?_eq_getElem (by rw [← Hn.out]; omega)⟩
      obtain ⟨g, off, rfl, hg, hc⟩ := H3.out (fun e => by rw [e] at hd; cases hd)
      have e1 : W.cell? ⟨g, off + q, none⟩ = some (.int .i64 (d : Int)) := (HBw.out.cell (p := ⟨g, off + q, none⟩) hg).trans (hc _ _ hd)
      clear hc
      have hqc : ((q : Int) + 1) - 1 = (q : Int) := by omega
      by_cases hd0 : d = 0
      · subst hd0
        have HS := Lib.hid (trim_step Hv.out hd)
        clear hd
        go_wp2_with fail
        go_roundg q
        case measure => omega
        case rel => exact ⟨by first | rfl | simp, rfl, by omega, HS⟩
      · have hd1 : ((d : Int) == 0) = false := by rw [beq_eq_false_iff_ne]; omega
        have HS := Lib.hid (trim_nz hd hd0)
        clear hd
        have hl : l ≠ [] := fun e => by have := Hn.out; rw [e] at this; simp at this; omega
        have HRes := Lib.hid (reads_prefix HR.out hl (n := q + 1) (by rw [← Hn.out]; exact hq))
        have hq1 : (0 : Int) ≤ (q : Int) + 1 := by omega
        have hq2 : (q : Int) + 1 ≤ (n : Int) := by omega
        have hq3 : (q : Int) + 1 ≤ (cap : Int) := by omega
        have hq4 : ((q : Int) + 1).toNat = q + 1 := by omega
        clear hl
        go_wp2_with fail
        go_region_held3 (fun w' => w'.cell? ⟨w.heap.size, 0, none⟩ = some (.bool neg) ∧ w'.cell? ⟨w.heap.size, 1, none⟩ = some (.slice (some ⟨g, off, none⟩) n cap)) (first | exact ⟨c0, c1⟩ | go_keep) (fail)
        have hP := put2 (x := .bool neg) (y := .slice (some ⟨g, off, none⟩) (q + 1) cap) (show Blk W.drew (w.heap.size + 1) _ _ from HB2.out)
        have z0 := hP.cell (j := 0) rfl
        have z1 := hP.cell (j := 1) rfl
        have HP := Lib.hid (put2_below (x := .bool neg) (y := .slice (some ⟨g, off, none⟩) (q + 1) cap) (HBw.out.drew) (b := w.heap.size + 1) (by omega))
        clear hP
        go_wp2_with fail
        refine bodyPost_ret (v := .agg #[.bool neg, .slice (some ⟨g, off, none⟩) (q + 1) cap]) (by simp [results, Tryd.results26, go_sem, *]) rfl ⟨_, rfl, ?_, HP.out⟩
        refine ⟨neg, l.take (q + 1), ⟨_, rfl, (HRes.out.below HP.out).mono HP.out.size⟩, ok_take HO.out _, HS.out, fun e => ?_, by rw [Hv.out]⟩
        have h5 : (l.take (q + 1)).length = q + 1 := by rw [List.length_take]; have := Hn.out; omega
        rw [e] at h5; simp at h5

theorem Big.small {w : World} {v : Value} {x : Int} (h : Big w v x) {K : Nat} (hx : x.natAbs < 32768 ^ K) : ∃ neg l, BigV w w.heap.size v neg l ∧ ok l ∧ nz l ∧ (l = [] → neg = false) ∧ x = sgn neg (val l) ∧ l.length ≤ K := by
  obtain ⟨neg, l, h1, h2, h3, h4, h5⟩ := h
  refine ⟨neg, l, h1, h2, h3, h4, h5, len_le h3 ?_⟩
  have : x.natAbs = val l := by rw [h5]; unfold sgn; split <;> simp
  omega

theorem Big.form {w : World} {v : Value} {x : Int} (h : Big w v x) : ∃ n a k c, v = .agg #[.bool n, .slice a k c] := by
  obtain ⟨neg, l, ⟨s, rfl, hr⟩, _⟩ := h
  obtain ⟨a, c, rfl, _⟩ := reads_digits hr
  exact ⟨_, _, _, _, rfl⟩
theorem Big.keep {w w' : World} {v : Value} {x : Int} (h : Big w v x) (hk : KeepT 3 w w') : Big w' v x := by
  obtain ⟨neg, l, ⟨r, hv, hr⟩, q⟩ := h
  exact ⟨neg, l, ⟨r, hv, hr.keep hk⟩, q⟩
/-- a number is no other behind a store into a box of a number -/
theorem Big.put {W : World} {b : Nat} {x0 : Bool} {a0 : Option Addr} {n0 c0 : Nat} {t : TypeId} {v : Value} {x : Int} (h : Big W v x) (hB : Blk W b [.bool x0, .slice a0 n0 c0] t) (u s : Value) : Big ((W.setCell ⟨b, 0, none⟩ u).setCell ⟨b, 1, none⟩ s) v x := by
  obtain ⟨neg, l, ⟨r, hv, hr⟩, q⟩ := h
  refine ⟨neg, l, ⟨r, hv, ?_⟩, q⟩
  rcases hr.2 with hr | ⟨g, off, cap, cs, fz, h1, h2, h3, h4, h5⟩
  · exact ⟨.inl hr, .inl hr⟩
  · by_cases hl : l = []
    · subst hl
      by_cases hne : g = b
      · subst hne
        have hP := put2 (x := u) (y := s) hB
        unfold Blk at hP hB
        refine (fun (h : RdT _ _ _ _ _) => ⟨h.reads, h⟩) (.inr ⟨g, off, cap, #[u, s], (0, 0), h1, ?_, h3, h4, fun j x hj => by cases hj⟩)
        rw [hB] at h2; cases h2; exact hP
      · refine (fun (h : RdT _ _ _ _ _) => ⟨h.reads, h⟩) (.inr ⟨g, off, cap, cs, fz, h1, ?_, h3, h4, h5⟩)
        rw [Below.heap_setCell _ _ _ g (by simpa using hne), Below.heap_setCell _ _ _ g (by simpa using hne)]; exact h2
    · have hne : g ≠ b := by
        rintro rfl
        obtain ⟨d, l', rfl⟩ : ∃ d l', l = d :: l' := by cases l with
          | nil => exact absurd rfl hl
          | cons d l' => exact ⟨d, l', rfl⟩
        have h6 := h5 0 (.int .i64 (d : Int)) rfl
        unfold Blk at hB
        rw [hB] at h2
        cases h2
        generalize off + 0 = k at h6
        match k, h6 with
        | 0, h6 => simp at h6
        | 1, h6 => simp at h6
        | k + 2, h6 => simp at h6
      refine (fun (h : RdT _ _ _ _ _) => ⟨h.reads, h⟩) (.inr ⟨g, off, cap, cs, fz, h1, ?_, h3, h4, h5⟩)
      rw [Below.heap_setCell _ _ _ g (by simpa using hne), Below.heap_setCell _ _ _ g (by simpa using hne)]; exact h2

theorem minus_any (v : Value) (x : Int) (w : World) (h : Big w v x) :
    Calls Tryd.prog 17 #[v] w fun e w' => ∃ v', e = .returned v' ∧ Big w' v' (-x) ∧ Below w.heap.size w w' := by
  obtain ⟨neg, l, ⟨s, rfl, hr⟩, h1, h2, h3, h4⟩ := h
  obtain ⟨a, cap, rfl, hc1, hc2, _⟩ := reads_digits hr
  unfold maxLen at hc2
  have HR := Lib.hid hr
  clear hr
  obtain ⟨n, hn⟩ : ∃ n, n = l.length := ⟨_, rfl⟩
  rw [← hn] at hc1
  have Hn := Lib.hid hn
  rw [← hn]
  have H1 := Lib.hid h1
  have H2 := Lib.hid h2
  have H3 := Lib.hid h3
  have H4 := Lib.hid h4
  clear hn h1 h2 h3 h4
  by_cases h0 : n = 0
  · have hl : l = [] := List.eq_nil_of_length_eq_zero (by rw [← Hn.out]; exact h0)
    subst hl
    subst h0
    have hng := H3.out rfl
    subst hng
    have hres : ∀ X, Below w.heap.size w X → Big X (.agg #[.bool false, .slice a 0 cap]) (-x) := fun X hX => by
      rw [H4.out]; exact ⟨false, [], ⟨_, rfl, (HR.out.below hX).mono hX.size⟩, H1.out, H2.out, fun _ => rfl, rfl⟩
    have HRes := Lib.hid hres
    clear hres
    go_enter Tryd.func17, Tryd.ntmps17
    go_wp2_with fail
    go_returns
    exact ⟨_, rfl, HRes.out _ (by go_grown), by go_grown⟩
  · have h0' : ((n : Int) == 0) = false := by rw [beq_eq_false_iff_ne]; omega
    have hres : ∀ X, Below w.heap.size w X → Big X (.agg #[.bool (!neg), .slice a n cap]) (-x) := fun X hX => by
      rw [H4.out, Hn.out]; refine ⟨!neg, l, ⟨_, rfl, (HR.out.below hX).mono hX.size⟩, H1.out, H2.out, fun e => ?_, by unfold sgn; cases neg <;> simp⟩
      exact absurd (Hn.out.trans (by rw [e]; rfl)) h0
    have HRes := Lib.hid hres
    clear hres h0
    go_enter Tryd.func17, Tryd.ntmps17
    go_wp2_with fail
    go_returns
    exact ⟨_, rfl, HRes.out _ (by go_grown), by go_grown⟩
end Go.Proofs.YtkhpfdgkmnifcaaDoor
