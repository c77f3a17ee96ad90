/- spell's every, over pairs; pair and list: what is a number, what is right. -/
import Derived.Test.YtfbdkjonjpanfaaGreatDoorRdC
import Derived.Test.YtfbdkjonjpanfaaGreatDoorLexB

set_option linter.unusedVariables false
set_option linter.unusedSimpArgs false
namespace Go.Proofs.YtfbdkjonjpanfaaGreatDoor
open Go.RowKit Go.Rg
attribute [local go_sem] Oper.semAt_some

abbrev prP (p : Wk.Pr) : Value := .agg #[.string ⟨p.1.toArray⟩, .string ⟨p.2.toArray⟩]
def Wk.prB (p : Wk.Pr) : Bool := Lx.right p.1 && Lx.right p.2
def Wk.lsB (l : List Wk.Pr) : Bool := l.all Wk.prB
def fit (l : Lx.Str) : Prop := l.length ≤ maxLen
def fitP (l : List Wk.Pr) : Prop := ∀ p ∈ l, fit p.1 ∧ fit p.2

theorem enter_every1 (args : Array Value) (w : World) : (callFunc 104 args).run Tryz.prog w = .ok (.enter 104 args) w := enters_of Tryz.func104 (by kernel_rfl) rfl args w
theorem enter_pair (args : Array Value) (w : World) : (callFunc 77 args).run Tryz.prog w = .ok (.enter 77 args) w := enters_of Tryz.func77 (by kernel_rfl) rfl args w

set_option maxRecDepth 100000 in
set_option maxHeartbeats 4000000 in
theorem pair_ok_any (p : Wk.Pr) (w : World) (h1 : fit p.1) (h2 : fit p.2) :
    Calls Tryz.prog 77 #[prP p] w fun e w' => e = .returned (.bool (Wk.prB p)) ∧ Below w.heap.size w w' := by
  have hb : Below w.heap.size w (w.alloc (.cells #[.string ⟨p.1.toArray⟩, .string ⟨p.2.toArray⟩] 77)) := (Below.refl _ w).alloc (Nat.le_refl _) _
  have hs1 : (⟨p.1.toArray⟩ : ByteArray).size ≤ maxLen := by show p.1.toArray.size ≤ _; simpa [fit] using h1
  have hs2 : (⟨p.2.toArray⟩ : ByteArray).size ≤ maxLen := by show p.2.toArray.size ≤ _; simpa [fit] using h2
  have Hs1 := Lib.hid hs1
  have Hs2 := Lib.hid hs2
  clear h1 h2 hs1 hs2
  go_enter Tryz.func77, Tryz.ntmps77
  cases hr : Lx.right p.1 with
  | false =>
    have Hr := Lib.hid hr
    go_wp2_with fail
    refine (right_any _ _ Hs1.out).mono ?_
    rintro e w' ⟨rfl, rfl⟩
    rw [show Lx.right (⟨p.1.toArray⟩ : ByteArray).data.toList = false from hr]
    go_wp2_with fail
    go_ret
    refine ⟨?_, hb⟩
    unfold Wk.prB; rw [Hr.out]; rfl
  | true =>
    have Hr := Lib.hid hr
    go_wp2_with fail
    refine (right_any _ _ Hs1.out).mono ?_
    rintro e w' ⟨rfl, rfl⟩
    rw [show Lx.right (⟨p.1.toArray⟩ : ByteArray).data.toList = true from hr]
    go_wp2_with fail
    refine (right_any _ _ Hs2.out).mono ?_
    rintro e w' ⟨rfl, rfl⟩
    go_wp2_with fail
    go_ret
    refine ⟨?_, hb⟩
    unfold Wk.prB; rw [Hr.out]; rfl

set_option maxRecDepth 100000 in
set_option maxHeartbeats 4000000 in
/-- the place of the first that is so, or less than nothing -/
theorem indexP_any (v : Value) (l : List Wk.Pr) (f : Nat) (cap : Array Value) (b : Wk.Pr → Bool) (w : World) (h : RdC w v l.length (flatP l))
    (eg : ∀ args w, (callFunc f args).run Tryz.prog w = .ok (.enter f args) w)
    (hF : ∀ X p, p ∈ l → Below w.heap.size w X → Calls Tryz.prog f (#[prP p] ++ cap) X fun e X' => e = .returned (.bool (b p)) ∧ Below X.heap.size X X') :
    Calls Tryz.prog 115 #[v, .func (.func f) #[] cap] w fun e w' => ∃ r : Int, e = .returned (.int .i64 r) ∧ Hid (decide (0 ≤ r) = l.any b) ∧ Below w.heap.size w w' := by
  obtain ⟨a, c, rfl, hm, ho⟩ := h
  have Ho := Lib.hid ho
  obtain ⟨n, hnn⟩ : ∃ n, n = l.length := ⟨_, rfl⟩
  rw [← hnn] at hm ⊢
  have Hn := Lib.hid hnn
  clear ho hnn
  unfold maxLen at hm
  go_enter Tryz.func115, Tryz.ntmps115
  go_wp2_with fail
  go_loopg [8] n (fun q s8 wx => ∃ i : Nat, i + q = n ∧ s8 = .int .i64 (i : Int) ∧ Hid ((l.take i).any b = false) ∧ Hid (Below w.heap.size w wx))
  case atStart => exact ⟨0, by omega, rfl, rfl, Below.refl _ _⟩
  case round =>
    obtain ⟨i, hiq, rfl, Hi, Hb⟩ := hrel
    cases gk with
    | zero =>
      have hin : i = n := by omega
      subst hin
      go_wp2_with fail
      try rw [Exit.noGoto_ret]
      go_ret
      refine ⟨-1, rfl, ?_, Hb.out⟩
      have := Hi.out; rw [Hn.out, List.take_length] at this
      unfold Hid; rw [this]; rfl
    | succ q =>
      have hin : i < n := by omega
      obtain ⟨p, hp⟩ : ∃ p, l[i]? = some p := ⟨_, List.getElem?_eq_getElem (by rw [← Hn.out]; exact hin)⟩
      obtain ⟨f1, f2⟩ := flatP_at2 _ _ _ hp
      obtain ⟨g1, o1, rfl, h1, h2, h3, h4⟩ := Ho.out (fun e => by rw [e] at f1; cases f1)
      rw [← Hn.out] at h1
      have y1 : wr.cell? ⟨g1, o1 + i * 2, none⟩ = some (.string ⟨p.1.toArray⟩) := (Hb.out.cell (p := ⟨g1, o1 + i * 2, none⟩) h3).trans (h4 _ _ f1)
      have y2 : wr.cell? ⟨g1, o1 + i * 2 + 1, none⟩ = some (.string ⟨p.2.toArray⟩) := (Hb.out.cell (p := ⟨g1, o1 + i * 2 + 1, none⟩) h3).trans (h4 _ _ f2)
      unfold maxLen at h2
      have HF := Lib.hid (hF wr p (List.mem_of_getElem? hp) Hb.out)
      have Hp := Lib.hid hp
      clear h4 f1 f2 hp
      cases hbp : b p with
      | false =>
        have Hbp := Lib.hid hbp
        go_wp2_with fail
        refine HF.out.mono ?_
        rintro e w5 ⟨rfl, hb5⟩
        have Hb5 := Lib.hid (Hb.out.trans (hb5.mono Hb.out.size))
        clear hb5
        rw [hbp]
        go_wp2_with fail
        go_roundg q
        case measure => omega
        case rel => exact ⟨i + 1, by omega, by first | rfl | simp, by unfold Hid; rw [List.take_add_one, Hp.out, List.any_append, Hi.out]; simp [Hbp.out], Hb5⟩
      | true =>
        have Hbp := Lib.hid hbp
        go_wp2_with fail
        refine HF.out.mono ?_
        rintro e w5 ⟨rfl, hb5⟩
        have Hb5 := Lib.hid (Hb.out.trans (hb5.mono Hb.out.size))
        clear hb5
        rw [hbp]
        go_wp2_with fail
        try rw [Exit.noGoto_ret]
        go_ret
        refine ⟨(i : Int), rfl, ?_, Hb5.out⟩
        unfold Hid
        have : l.any b = true := List.any_eq_true.2 ⟨p, List.mem_of_getElem? Hp.out, Hbp.out⟩
        rw [this]; simp

set_option maxRecDepth 100000 in
set_option maxHeartbeats 4000000 in
theorem containsP_any (v : Value) (l : List Wk.Pr) (f : Nat) (cap : Array Value) (b : Wk.Pr → Bool) (w : World) (h : RdC w v l.length (flatP l))
    (eg : ∀ args w, (callFunc f args).run Tryz.prog w = .ok (.enter f args) w)
    (hF : ∀ X p, p ∈ l → Below w.heap.size w X → Calls Tryz.prog f (#[prP p] ++ cap) X fun e X' => e = .returned (.bool (b p)) ∧ Below X.heap.size X X') :
    Calls Tryz.prog 103 #[v, .func (.func f) #[] cap] w fun e w' => e = .returned (.bool (l.any b)) ∧ Below w.heap.size w w' := by
  have H := Lib.hid (indexP_any v l f cap b w h eg hF)
  clear hF h
  go_enter Tryz.func103, Tryz.ntmps103
  go_wp2_with fail
  refine H.out.mono ?_
  rintro e w1 ⟨r, rfl, hr, hb⟩
  go_wp2_with fail
  go_ret
  exact ⟨by rw [← hr.out]; rfl, hb⟩

set_option maxRecDepth 100000 in
set_option maxHeartbeats 4000000 in
theorem everyP_any (v : Value) (l : List Wk.Pr) (f : Nat) (b : Wk.Pr → Bool) (w : World) (h : RdC w v l.length (flatP l))
    (eg : ∀ args w, (callFunc f args).run Tryz.prog w = .ok (.enter f args) w)
    (hF : ∀ X p, p ∈ l → Calls Tryz.prog f #[prP p] X fun e X' => e = .returned (.bool (b p)) ∧ Below X.heap.size X X') :
    Calls Tryz.prog 76 #[v, .func (.func f) #[] #[]] w fun e w' => e = .returned (.bool (l.all b)) ∧ Below w.heap.size w w' := by
  obtain ⟨W0, hW0⟩ : ∃ W0, w.alloc (.cells #[.func (.func f) #[] #[]] 144) = W0 := ⟨_, rfl⟩
  have hB : Blk W0 w.heap.size [.func (.func f) #[] #[]] 144 := hW0 ▸ Blk.new w _ _
  have hBel : Below w.heap.size w W0 := hW0 ▸ (Below.refl _ w).alloc (Nat.le_refl _) _
  have hin : ∀ X p, p ∈ l → Below W0.heap.size W0 X → Calls Tryz.prog 104 #[prP p, .pointer (some ⟨w.heap.size, 0, none⟩)] X fun e X' => e = .returned (.bool (!b p)) ∧ Below X.heap.size X X' := by
    intro X p hp hX
    have c0 := (hB.call hX).cell (j := 0) rfl
    have hXs : w.heap.size < X.heap.size := Nat.lt_of_lt_of_le (by rw [← hW0, World.size_alloc]; omega) hX.size
    have c1 := keepc ((Below.refl _ X).alloc (Nat.le_refl _) (.cells #[.string ⟨p.1.toArray⟩, .string ⟨p.2.toArray⟩] 77)) hXs c0
    have HF := Lib.hid (hF (X.alloc (.cells #[.string ⟨p.1.toArray⟩, .string ⟨p.2.toArray⟩] 77)) p hp)
    have hbX : Below X.heap.size X (X.alloc (.cells #[.string ⟨p.1.toArray⟩, .string ⟨p.2.toArray⟩] 77)) := (Below.refl _ _).alloc (Nat.le_refl _) _
    have HbX := Lib.hid hbX
    clear hF hp hX hB hBel hW0 h hbX
    go_enter Tryz.func104, Tryz.ntmps104
    go_wp2_with fail
    refine HF.out.mono ?_
    rintro e w1 ⟨rfl, hb⟩
    go_wp2_with fail
    go_ret
    exact ⟨rfl, HbX.out.trans (hb.mono HbX.out.size)⟩
  have H := Lib.hid (containsP_any v l 104 #[.pointer (some ⟨w.heap.size, 0, none⟩)] (fun p => !b p) W0 (h.call hBel) enter_every1 (fun X p hp hX => hin X p hp hX))
  have HBel := Lib.hid hBel
  clear hin hF h hB hBel
  go_enter Tryz.func76, Tryz.ntmps76
  go_wp2_with fail
  try simp only [hW0]
  refine H.out.mono ?_
  rintro e w1 ⟨rfl, hb⟩
  go_wp2_with fail
  go_ret
  refine ⟨?_, HBel.out.trans (hb.mono HBel.out.size)⟩
  have : (!l.any fun p => !b p) = l.all b := by rw [List.any_eq_not_all_not]; simp
  rw [← this]; rfl

set_option maxRecDepth 100000 in
set_option maxHeartbeats 4000000 in
theorem list_ok_any (v : Value) (l : List Wk.Pr) (w : World) (h : RdC w v l.length (flatP l)) (hf : fitP l) :
    Calls Tryz.prog 45 #[v] w fun e w' => e = .returned (.bool (Wk.lsB l)) ∧ Below w.heap.size w w' := by
  have H := Lib.hid (everyP_any v l 77 Wk.prB w h enter_pair (fun X p hp => pair_ok_any p X (hf p hp).1 (hf p hp).2))
  clear h hf
  go_enter Tryz.func45, Tryz.ntmps45
  go_wp2_with fail
  refine H.out.mono ?_
  rintro e w1 ⟨rfl, hb⟩
  go_wp2_with fail
  go_ret
  exact ⟨rfl, hb⟩
end Go.Proofs.YtfbdkjonjpanfaaGreatDoor

set_option linter.unusedVariables false
set_option linter.unusedSimpArgs false
namespace Go.Proofs.YtfbdkjonjpanfaaGreatDoor
open Go.RowKit Go.Rg
attribute [local go_sem] Oper.semAt_some

theorem enter_everyL1 (args : Array Value) (w : World) : (callFunc 75 args).run Tryz.prog w = .ok (.enter 75 args) w := enters_of Tryz.func75 (by kernel_rfl) rfl args w
theorem enter_list (args : Array Value) (w : World) : (callFunc 45 args).run Tryz.prog w = .ok (.enter 45 args) w := enters_of Tryz.func45 (by kernel_rfl) rfl args w
theorem enter_shaped1 (args : Array Value) (w : World) : (callFunc 73 args).run Tryz.prog w = .ok (.enter 73 args) w := enters_of Tryz.func73 (by kernel_rfl) rfl args w

theorem shaped1_any (v : Value) (l : List Wk.Pr) (w : World) (h : RdC w v l.length (flatP l)) :
    Calls Tryz.prog 73 #[v] w fun e w' => e = .returned (.bool (decide (l.length ≤ 1))) ∧ Below w.heap.size w w' := by
  obtain ⟨a, c, rfl, hm, _⟩ := h
  go_enter Tryz.func73, Tryz.ntmps73
  go_wp2_with fail
  go_ret
  exact ⟨by simp; omega, Below.refl _ _⟩

set_option maxRecDepth 100000 in
set_option maxHeartbeats 4000000 in
/-- the place of the first that is so, or less than nothing -/
theorem indexL_any (v : Value) (vs : List Value) (ls : List (List Wk.Pr)) (f : Nat) (cap : Array Value) (b : List Wk.Pr → Bool) (w : World) (h : RdC w v ls.length vs) (hvs : LsC w vs ls)
    (eg : ∀ args w, (callFunc f args).run Tryz.prog w = .ok (.enter f args) w)
    (hF : ∀ X u l, l ∈ ls → RdC X u l.length (flatP l) → Below w.heap.size w X → Calls Tryz.prog f (#[u] ++ cap) X fun e X' => e = .returned (.bool (b l)) ∧ Below X.heap.size X X') :
    Calls Tryz.prog 102 #[v, .func (.func f) #[] cap] w fun e w' => ∃ r : Int, e = .returned (.int .i64 r) ∧ Hid (decide (0 ≤ r) = ls.any b) ∧ Below w.heap.size w w' := by
  obtain ⟨a, c, rfl, hm, ho⟩ := h
  have Ho := Lib.hid ho
  have Hvs := Lib.hid hvs
  obtain ⟨n, hnn⟩ : ∃ n, n = ls.length := ⟨_, rfl⟩
  rw [← hnn] at hm ⊢
  have Hn := Lib.hid hnn
  clear ho hnn hvs
  unfold maxLen at hm
  go_enter Tryz.func102, Tryz.ntmps102
  go_wp2_with fail
  go_loopg [8] n (fun q s8 wx => ∃ i : Nat, i + q = n ∧ s8 = .int .i64 (i : Int) ∧ Hid ((ls.take i).any b = false) ∧ Hid (Below w.heap.size w wx))
  case atStart => exact ⟨0, by omega, rfl, rfl, Below.refl _ _⟩
  case round =>
    obtain ⟨i, hiq, rfl, Hi, Hb⟩ := hrel
    cases gk with
    | zero =>
      have hin : i = n := by omega
      subst hin
      go_wp2_with fail
      try rw [Exit.noGoto_ret]
      go_ret
      refine ⟨-1, rfl, ?_, Hb.out⟩
      have := Hi.out; rw [Hn.out, List.take_length] at this
      unfold Hid; rw [this]; rfl
    | succ q =>
      have hin : i < n := by omega
      obtain ⟨l, hp⟩ : ∃ l, ls[i]? = some l := ⟨_, List.getElem?_eq_getElem (by rw [← Hn.out]; exact hin)⟩
      obtain ⟨u, hu, hPk⟩ := Hvs.out i l hp
      obtain ⟨g1, o1, rfl, h1, h2, h3, h4⟩ := Ho.out (fun e => by rw [e] at hu; cases hu)
      have y1 : wr.cell? ⟨g1, o1 + i, none⟩ = some u := (Hb.out.cell (p := ⟨g1, o1 + i, none⟩) h3).trans (h4 _ _ hu)
      unfold maxLen at h2
      have HF := Lib.hid (hF wr u l (List.mem_of_getElem? hp) (hPk.call Hb.out) Hb.out)
      have Hp := Lib.hid hp
      clear h4 hu hp hPk
      cases hbp : b l with
      | false =>
        have Hbp := Lib.hid hbp
        go_wp2_with fail
        refine HF.out.mono ?_
        rintro e w5 ⟨rfl, hb5⟩
        have Hb5 := Lib.hid (Hb.out.trans (hb5.mono Hb.out.size))
        clear hb5
        rw [hbp]
        go_wp2_with fail
        go_roundg q
        case measure => omega
        case rel => exact ⟨i + 1, by omega, by first | rfl | simp, by unfold Hid; rw [List.take_add_one, Hp.out, List.any_append, Hi.out]; simp [Hbp.out], Hb5⟩
      | true =>
        have Hbp := Lib.hid hbp
        go_wp2_with fail
        refine HF.out.mono ?_
        rintro e w5 ⟨rfl, hb5⟩
        have Hb5 := Lib.hid (Hb.out.trans (hb5.mono Hb.out.size))
        clear hb5
        rw [hbp]
        go_wp2_with fail
        try rw [Exit.noGoto_ret]
        go_ret
        refine ⟨(i : Int), rfl, ?_, Hb5.out⟩
        unfold Hid
        have : ls.any b = true := List.any_eq_true.2 ⟨l, List.mem_of_getElem? Hp.out, Hbp.out⟩
        rw [this]; simp

set_option maxRecDepth 100000 in
set_option maxHeartbeats 4000000 in
theorem containsL_any (v : Value) (vs : List Value) (ls : List (List Wk.Pr)) (f : Nat) (cap : Array Value) (b : List Wk.Pr → Bool) (w : World) (h : RdC w v ls.length vs) (hvs : LsC w vs ls)
    (eg : ∀ args w, (callFunc f args).run Tryz.prog w = .ok (.enter f args) w)
    (hF : ∀ X u l, l ∈ ls → RdC X u l.length (flatP l) → Below w.heap.size w X → Calls Tryz.prog f (#[u] ++ cap) X fun e X' => e = .returned (.bool (b l)) ∧ Below X.heap.size X X') :
    Calls Tryz.prog 74 #[v, .func (.func f) #[] cap] w fun e w' => e = .returned (.bool (ls.any b)) ∧ Below w.heap.size w w' := by
  have H := Lib.hid (indexL_any v vs ls f cap b w h hvs eg hF)
  clear hF h hvs
  go_enter Tryz.func74, Tryz.ntmps74
  go_wp2_with fail
  refine H.out.mono ?_
  rintro e w1 ⟨r, rfl, hr, hb⟩
  go_wp2_with fail
  go_ret
  exact ⟨by rw [← hr.out]; rfl, hb⟩

set_option maxRecDepth 100000 in
set_option maxHeartbeats 4000000 in
theorem everyL_any (v : Value) (vs : List Value) (ls : List (List Wk.Pr)) (f : Nat) (b : List Wk.Pr → Bool) (w : World) (h : RdC w v ls.length vs) (hvs : LsC w vs ls)
    (eg : ∀ args w, (callFunc f args).run Tryz.prog w = .ok (.enter f args) w)
    (hF : ∀ X u l, l ∈ ls → RdC X u l.length (flatP l) → Calls Tryz.prog f #[u] X fun e X' => e = .returned (.bool (b l)) ∧ Below X.heap.size X X') :
    Calls Tryz.prog 44 #[v, .func (.func f) #[] #[]] w fun e w' => e = .returned (.bool (ls.all b)) ∧ Below w.heap.size w w' := by
  obtain ⟨W0, hW0⟩ : ∃ W0, w.alloc (.cells #[.func (.func f) #[] #[]] 107) = W0 := ⟨_, rfl⟩
  have hB : Blk W0 w.heap.size [.func (.func f) #[] #[]] 107 := hW0 ▸ Blk.new w _ _
  have hBel : Below w.heap.size w W0 := hW0 ▸ (Below.refl _ w).alloc (Nat.le_refl _) _
  have hin : ∀ X u l, l ∈ ls → RdC X u l.length (flatP l) → Below W0.heap.size W0 X → Calls Tryz.prog 75 #[u, .pointer (some ⟨w.heap.size, 0, none⟩)] X fun e X' => e = .returned (.bool (!b l)) ∧ Below X.heap.size X X' := by
    intro X u l hl hr hX
    have c0 := (hB.call hX).cell (j := 0) rfl
    have HF := Lib.hid (hF X u l hl hr)
    clear hF hl hX hB hBel hW0 h hr hvs
    go_enter Tryz.func75, Tryz.ntmps75
    go_wp2_with fail
    refine HF.out.mono ?_
    rintro e w1 ⟨rfl, hb⟩
    go_wp2_with fail
    go_ret
    exact ⟨rfl, hb⟩
  have H := Lib.hid (containsL_any v vs ls 75 #[.pointer (some ⟨w.heap.size, 0, none⟩)] (fun p => !b p) W0 (h.call hBel) (hvs.call hBel) enter_everyL1 (fun X u l hl hr hX => hin X u l hl hr hX))
  have HBel := Lib.hid hBel
  clear hin hF h hB hBel hvs
  go_enter Tryz.func44, Tryz.ntmps44
  go_wp2_with fail
  try simp only [hW0]
  refine H.out.mono ?_
  rintro e w1 ⟨rfl, hb⟩
  go_wp2_with fail
  go_ret
  refine ⟨?_, HBel.out.trans (hb.mono HBel.out.size)⟩
  have : (!ls.any fun p => !b p) = ls.all b := by rw [List.any_eq_not_all_not]; simp
  rw [← this]; rfl
end Go.Proofs.YtfbdkjonjpanfaaGreatDoor

set_option linter.unusedVariables false
set_option linter.unusedSimpArgs false
namespace Go.Proofs.YtfbdkjonjpanfaaGreatDoor
open Go.RowKit Go.Rg
attribute [local go_sem] Oper.semAt_some

/-- any geometry, as the program holds it -/
structure GA where
  kind : Int
  level : Int
  lists : List (List Wk.Pr)
  sizes : List Int
def intsZ (l : List Int) : List Value := l.map fun n => .int .i64 n
abbrev gaV (g : GA) (lv zv : Value) : Value := .agg #[.int .i64 g.kind, .int .i64 g.level, lv, zv]
def BdA (w : World) (lv zv : Value) (g : GA) : Prop := ∃ vs, vs.length = g.lists.length ∧ RdC w lv g.lists.length vs ∧ LsC w vs g.lists ∧ RdC w zv g.sizes.length (intsZ g.sizes)
theorem BdA.call {w w' : World} {lv zv : Value} {g : GA} (h : BdA w lv zv g) (hb : Below w.heap.size w w') : BdA w' lv zv g := by
  obtain ⟨vs, h0, h1, h2, h3⟩ := h; exact ⟨vs, h0, h1.call hb, h2.call hb, h3.call hb⟩

namespace Wk
def sumTo (z : Int) (n : Nat) : List Int → Bool
  | [] => z == n
  | m :: r => !(decide (m < 0) || decide ((n : Int) < m)) && sumTo (z + m) n r
def shapedA (g : GA) : Bool :=
  if g.kind = 1 then g.lists.length == 0 || (g.lists.length == 1 && (g.lists.headD []).length == 1)
  else if g.kind = 2 then g.lists.length == 0 || (g.lists.length == 1 && decide (0 < (g.lists.headD []).length))
  else if g.kind = 4 then g.lists.all fun l => decide (l.length ≤ 1)
  else if g.kind = 3 ∨ g.kind = 5 then true
  else if g.kind = 6 then sumTo 0 g.lists.length g.sizes
  else g.kind == 7 && g.lists.length == 0
def oneA (g : GA) : Bool := shapedA g && ((g.kind == 6 || g.sizes.length == 0) && g.lists.all lsB)
/-- no list is longer than may be -/
def FitA (g : GA) : Prop := g.lists.length ≤ 1000000000 ∧ g.sizes.length ≤ 1000000000 ∧ ∀ l ∈ g.lists, fitP l
end Wk

theorem beq0 (n : Nat) : ((n : Int) == 0) = (n == 0) := by rw [Bool.eq_iff_iff]; simp
theorem beq1 (n : Nat) : ((n : Int) == 1) = decide (n = 1) := by rw [Bool.eq_iff_iff]; simp; omega
theorem sumTo_bound : ∀ (l : List Int) (z : Int) (n : Nat), Wk.sumTo z n l = true → ∀ i, i ≤ l.length → z + (l.take i).sum ≤ z + i * n ∧ z ≤ z + (l.take i).sum
  | l, z, n, h, 0, _ => by simp
  | [], z, n, h, i + 1, hi => by simp at hi
  | m :: r, z, n, h, i + 1, hi => by
    unfold Wk.sumTo at h
    simp at h
    obtain ⟨⟨h1, h2⟩, h3⟩ := h
    have := sumTo_bound r (z + m) n h3 i (by simpa using hi)
    simp only [List.take_succ_cons, List.sum_cons]
    have e : ((i + 1 : Nat) : Int) * n = i * n + n := by rw [Int.natCast_succ, Int.add_mul, Int.one_mul]
    omega

set_option maxRecDepth 100000 in
set_option maxHeartbeats 4000000 in
theorem shaped_any (g : GA) (lv zv : Value) (w : World) (h : BdA w lv zv g) (hf : Wk.FitA g) :
    Calls Tryz.prog 43 #[gaV g lv zv] w fun e w' => e = .returned (.bool (Wk.shapedA g)) ∧ Below w.heap.size w w' := by
  obtain ⟨kk, lev, ls, ss⟩ := g
  obtain ⟨vs, hvl, hl, hvs, hzs⟩ := h
  simp only at hvl hl hvs hzs hf
  obtain ⟨la, lc, rfl, hlm⟩ := hl.form
  obtain ⟨za, zc, rfl, hzm⟩ := hzs.form
  obtain ⟨hn, hz, hfl⟩ := hf
  simp only at hn hz hfl
  obtain ⟨n, hnn⟩ : ∃ n, n = ls.length := ⟨_, rfl⟩
  obtain ⟨nz, hnz⟩ : ∃ nz, nz = ss.length := ⟨_, rfl⟩
  rw [← hnn] at hn hl hlm hvl
  rw [← hnz] at hz hzs hzm
  unfold gaV
  simp only
  rw [← hnn, ← hnz]
  have Hn := Lib.hid hnn
  have Hnz := Lib.hid hnz
  have Hvs := Lib.hid hvs
  have Hl := Lib.hid hl
  have Hz := Lib.hid hzs
  have Hvl := Lib.hid hvl
  clear hnn hnz hvs hl hzs hvl hfl
  unfold maxLen at hlm hzm
  obtain ⟨W0, hW0⟩ : ∃ W0, w.alloc (.cells #[.int .i64 kk, .int .i64 lev, .slice la n lc, .slice za nz zc] 33) = W0 := ⟨_, rfl⟩
  have B0 : Blk W0 w.heap.size [.int .i64 kk, .int .i64 lev, .slice la n lc, .slice za nz zc] 33 := hW0 ▸ Blk.new w _ _
  have hBel : Below w.heap.size w W0 := hW0 ▸ (Below.refl _ w).alloc (Nat.le_refl _) _
  have hz0 : w.heap.size + 1 ≤ W0.heap.size := by rw [← hW0, World.size_alloc]; exact Nat.le_refl _
  have b0 := B0.cell (j := 0) rfl
  have b2 := B0.cell (j := 2) rfl
  have b3 := B0.cell (j := 3) rfl
  have HBel := Lib.hid hBel
  have HB0 := Lib.hid B0
  clear B0 hBel
  have hfirst : ∀ r : Bool, 0 < n → ∃ g1 o1 vk l, la = some ⟨g1, o1, none⟩ ∧ n ≤ lc ∧ lc ≤ 9223372036854775807 ∧ W0.cell? ⟨g1, o1, none⟩ = some vk ∧ ls.headD [] = l ∧ ∃ ka kc, vk = .slice ka l.length kc ∧ l.length ≤ 9223372036854775807 := by
    intro _ hpos
    obtain ⟨l, hl⟩ : ∃ l, ls[0]? = some l := ⟨_, List.getElem?_eq_getElem (by rw [← Hn.out]; exact hpos)⟩
    obtain ⟨vk, hvk, hPk⟩ := Hvs.out 0 l hl
    obtain ⟨a', c', e', _, ho⟩ := Hl.out
    cases e'
    obtain ⟨g1, o1, rfl, h1, h2, h3, h4⟩ := ho (fun e => by rw [e] at hvk; cases hvk)
    obtain ⟨ka, kc, e, hk⟩ := hPk.form
    refine ⟨g1, o1, vk, l, rfl, h1, h2, (HBel.out.cell (p := ⟨g1, o1, none⟩) h3).trans (h4 0 _ hvk), ?_, ka, kc, e, hk⟩
    cases ls with
    | nil => cases hl
    | cons x r => cases hl; rfl
  have Hfirst := Lib.hid hfirst
  clear hfirst
  go_enter Tryz.func43, Tryz.ntmps43
  by_cases h6 : kk = 6
  · subst h6
    have Hres : Hid (Wk.shapedA ⟨6, lev, ls, ss⟩ = Wk.sumTo 0 n ss) := by
      unfold Hid Wk.shapedA; simp only; rw [if_neg (by decide), if_neg (by decide), if_neg (by decide), if_neg (by decide), if_pos trivial, ← Hn.out]
    clear Hfirst
    go_wp2_with fail
    go_loopg [3, 61] nz (fun q s3 s61 wx => ∃ (i : Nat) (z : Int), i + q = nz ∧ s61 = .int .i64 (i : Int) ∧ s3 = .int .i64 z ∧ (0 ≤ z ∧ z ≤ i * 1000000000) ∧ Hid (Wk.sumTo 0 n ss = Wk.sumTo z n (ss.drop i)) ∧ W0 = wx)
    case atStart => exact ⟨0, 0, by omega, rfl, rfl, ⟨by omega, by omega⟩, rfl, rfl⟩
    case round =>
      obtain ⟨i, z, hiq, rfl, rfl, hzz, Hs, rfl⟩ := hrel
      cases gk with
      | zero =>
        have hin : i = nz := by omega
        have hd : ss.drop i = [] := List.drop_eq_nil_of_le (by rw [← Hnz.out]; omega)
        subst hin
        have Hs2 : Hid (Wk.sumTo 0 n ss = (z == n)) := by unfold Hid; rw [Hs.out, hd]; rfl
        clear hd
        go_wp2_with fail
        try rw [Exit.noGoto_ret]
        go_ret
        exact ⟨by rw [Hres.out, Hs2.out]; rfl, HBel.out⟩
      | succ q =>
        have hin : i < nz := by omega
        obtain ⟨m, hm⟩ : ∃ m, ss[i]? = some m := ⟨_, List.getElem?_eq_getElem (by rw [← Hnz.out]; exact hin)⟩
        obtain ⟨a', c', e', _, ho⟩ := Hz.out
        cases e'
        have hmi : (intsZ ss)[i]? = some (.int .i64 m) := by unfold intsZ; rw [List.getElem?_map, hm]; rfl
        obtain ⟨g1, o1, rfl, q1, q2, q3, q4⟩ := ho (fun e => by rw [e] at hmi; cases hmi)
        have y1 : W0.cell? ⟨g1, o1 + i, none⟩ = some (.int .i64 m) := (HBel.out.cell (p := ⟨g1, o1 + i, none⟩) q3).trans (q4 _ _ hmi)
        unfold maxLen at q2
        have hdr : ss.drop i = m :: ss.drop (i + 1) := by
          obtain ⟨hlt, e⟩ := List.getElem?_eq_some_iff.1 hm
          rw [List.drop_eq_getElem_cons hlt, e]
        have Hs2 : Hid (Wk.sumTo 0 n ss = (!(decide (m < 0) || decide ((n : Int) < m)) && Wk.sumTo (z + m) n (ss.drop (i + 1)))) := by unfold Hid; rw [Hs.out, hdr]; rfl
        have hzb : (i : Int) * 1000000000 ≤ 1000000000 * 1000000000 := by omega
        clear q4 hmi hm ho hdr Hs
        by_cases hm0 : m < 0
        · go_wp2_with fail
          try rw [Exit.noGoto_ret]
          go_ret
          exact ⟨by rw [Hres.out, Hs2.out]; simp [hm0], HBel.out⟩
        · by_cases hmn : (n : Int) < m
          · go_wp2_with fail
            try rw [Exit.noGoto_ret]
            go_ret
            exact ⟨by rw [Hres.out, Hs2.out]; simp [hmn], HBel.out⟩
          · have Hs3 : Hid (Wk.sumTo 0 n ss = Wk.sumTo (z + m) n (ss.drop (i + 1))) := by unfold Hid; rw [Hs2.out]; simp [hm0, hmn]
            go_wp2_with fail
            go_roundg q
            case measure => omega
            case rel => exact ⟨i + 1, z + m, by omega, by first | rfl | simp, rfl, ⟨by omega, by omega⟩, Hs3, rfl⟩
  by_cases h4 : kk = 4
  · subst h4
    go_wp2_with fail
    refine (everyL_any _ vs ls 73 (fun l => decide (l.length ≤ 1)) W0 (by rw [← Hn.out]; exact Hl.out.call HBel.out) (Hvs.out.call HBel.out) enter_shaped1 (fun X u l _ hr => shaped1_any u l X hr)).mono ?_
    rintro e w5 ⟨rfl, hb5⟩
    go_wp2_with fail
    go_ret
    exact ⟨rfl, HBel.out.trans (hb5.mono HBel.out.size)⟩
  by_cases h12 : kk = 1 ∨ kk = 2
  · have hres : Wk.shapedA ⟨kk, lev, ls, ss⟩ = (decide (n = 0) || (decide (n = 1) && if kk = 1 then decide ((ls.headD []).length = 1) else decide (0 < (ls.headD []).length))) := by
      unfold Wk.shapedA
      simp only
      rw [← Hn.out]
      rcases h12 with rfl | rfl
      · simp; rfl
      · simp; rfl
    have Hres := Lib.hid hres
    clear hres
    rcases h12 with rfl | rfl
    · clear h6 h4
      rcases Nat.eq_zero_or_pos n with rfl | hpos
      · go_wp2_with fail
        go_ret
        exact ⟨by rw [Hres.out]; rfl, HBel.out⟩
      · have hn0 : ((n : Int) == 0) = false := by rw [beq_eq_false_iff_ne]; omega
        by_cases hn1 : n = 1
        · subst hn1
          obtain ⟨g1, o1, vk, l, rfl, q1, q2, y1, q3, ka, kc, rfl, q4⟩ := Hfirst.out true hpos
          have Q3 := Lib.hid q3
          clear q3
          go_wp2_with fail
          go_ret
          refine ⟨?_, HBel.out⟩
          rw [Hres.out, Q3.out]
          first | rfl | (simp; done) | (simp; omega) | (simp; exact beq1 _)
        · have hn1' : ((n : Int) == 1) = false := by rw [beq_eq_false_iff_ne]; omega
          go_wp2_with fail
          go_ret
          refine ⟨?_, HBel.out⟩
          rw [Hres.out]
          have : n ≠ 0 := by omega
          simp [hn1, this]
    · clear h6 h4
      rcases Nat.eq_zero_or_pos n with rfl | hpos
      · go_wp2_with fail
        go_ret
        exact ⟨by rw [Hres.out]; rfl, HBel.out⟩
      · have hn0 : ((n : Int) == 0) = false := by rw [beq_eq_false_iff_ne]; omega
        by_cases hn1 : n = 1
        · subst hn1
          obtain ⟨g1, o1, vk, l, rfl, q1, q2, y1, q3, ka, kc, rfl, q4⟩ := Hfirst.out true hpos
          have Q3 := Lib.hid q3
          clear q3
          go_wp2_with fail
          go_ret
          refine ⟨?_, HBel.out⟩
          rw [Hres.out, Q3.out]
          first | rfl | (simp; done) | (simp; omega) | (simp; exact by simp)
        · have hn1' : ((n : Int) == 1) = false := by rw [beq_eq_false_iff_ne]; omega
          go_wp2_with fail
          go_ret
          refine ⟨?_, HBel.out⟩
          rw [Hres.out]
          have : n ≠ 0 := by omega
          simp [hn1, this]
  have e1 : (kk == 1) = false := by rw [beq_eq_false_iff_ne]; omega
  have e2 : (kk == 2) = false := by rw [beq_eq_false_iff_ne]; omega
  have e4 : (kk == 4) = false := by rw [beq_eq_false_iff_ne]; omega
  have e6 : (kk == 6) = false := by rw [beq_eq_false_iff_ne]; omega
  by_cases h35 : kk = 3 ∨ kk = 5
  · have hres : Wk.shapedA ⟨kk, lev, ls, ss⟩ = true := by
      unfold Wk.shapedA; simp only; rw [if_neg (by omega), if_neg (by omega), if_neg h4, if_pos h35]
    rcases h35 with rfl | rfl
    · go_wp2_with fail
      go_ret
      exact ⟨by rw [hres]; rfl, HBel.out⟩
    · go_wp2_with fail
      go_ret
      exact ⟨by rw [hres]; rfl, HBel.out⟩
  have e3 : (kk == 3) = false := by rw [beq_eq_false_iff_ne]; omega
  have e5 : (kk == 5) = false := by rw [beq_eq_false_iff_ne]; omega
  have hres : Wk.shapedA ⟨kk, lev, ls, ss⟩ = (kk == 7 && n == 0) := by
    unfold Wk.shapedA; simp only; rw [if_neg (by omega), if_neg (by omega), if_neg h4, if_neg h35, if_neg h6, ← Hn.out]
  have Hres := Lib.hid hres
  clear hres
  by_cases h7 : kk = 7
  · subst h7
    go_wp2_with fail
    go_ret
    exact ⟨by rw [Hres.out]; simp; exact beq0 n, HBel.out⟩
  · have e7 : (kk == 7) = false := by rw [beq_eq_false_iff_ne]; omega
    go_wp2_with fail
    go_ret
    exact ⟨by rw [Hres.out, e7]; rfl, HBel.out⟩
end Go.Proofs.YtfbdkjonjpanfaaGreatDoor

set_option linter.unusedVariables false
set_option linter.unusedSimpArgs false
namespace Go.Proofs.YtfbdkjonjpanfaaGreatDoor
open Go.RowKit Go.Rg
attribute [local go_sem] Oper.semAt_some

set_option maxRecDepth 100000 in
set_option maxHeartbeats 4000000 in
theorem one_any2 (g : GA) (lv zv : Value) (w : World) (h : BdA w lv zv g) (hf : Wk.FitA g) :
    Calls Tryz.prog 29 #[gaV g lv zv] w fun e w' => e = .returned (.bool (Wk.oneA g)) ∧ Below w.heap.size w w' := by
  obtain ⟨kk, lev, ls, ss⟩ := g
  obtain ⟨W0, hW0⟩ : ∃ W0, w.alloc (.cells #[.int .i64 kk, .int .i64 lev, lv, zv] 33) = W0 := ⟨_, rfl⟩
  have B0 : Blk W0 w.heap.size [.int .i64 kk, .int .i64 lev, lv, zv] 33 := hW0 ▸ Blk.new w _ _
  have hBel : Below w.heap.size w W0 := hW0 ▸ (Below.refl _ w).alloc (Nat.le_refl _) _
  have hz0 : w.heap.size + 1 ≤ W0.heap.size := by rw [← hW0, World.size_alloc]; exact Nat.le_refl _
  have HSh := Lib.hid (shaped_any ⟨kk, lev, ls, ss⟩ lv zv W0 (h.call hBel) hf)
  obtain ⟨vs, hvl, hl, hvs, hzs⟩ := h
  simp only at hvl hl hvs hzs hf
  obtain ⟨la, lc, rfl, hlm⟩ := hl.form
  obtain ⟨za, zc, rfl, hzm⟩ := hzs.form
  obtain ⟨hn, hz, hfl⟩ := hf
  simp only at hn hz hfl
  obtain ⟨nz, hnz⟩ : ∃ nz, nz = ss.length := ⟨_, rfl⟩
  rw [← hnz] at hz hzs hzm
  unfold gaV at HSh ⊢
  simp only at HSh ⊢
  rw [← hnz] at HSh hW0 B0 ⊢
  have Hnz := Lib.hid hnz
  have Hvs := Lib.hid hvs
  have Hl := Lib.hid hl
  have Hfl := Lib.hid hfl
  have b0 := B0.cell (j := 0) rfl
  have b1 := B0.cell (j := 1) rfl
  have b2 := B0.cell (j := 2) rfl
  have b3 := B0.cell (j := 3) rfl
  have HBel := Lib.hid hBel
  have HB0 := Lib.hid B0
  clear hnz hvs hl hzs hvl hfl B0 hBel
  unfold maxLen at hlm hzm
  go_enter Tryz.func29, Tryz.ntmps29
  cases hsh : Wk.shapedA ⟨kk, lev, ls, ss⟩ with
  | false =>
    have Hsh := Lib.hid hsh
    rw [hsh] at HSh
    clear hsh
    go_wp2_with fail
    refine HSh.out.mono ?_
    rintro e w5 ⟨rfl, hb5⟩
    have hbw := Lib.hid (HBel.out.trans (hb5.mono HBel.out.size))
    have B5 := HB0.out.call hb5
    have c0 := B5.cell (j := 0) rfl
    have c2 := B5.cell (j := 2) rfl
    have c3 := B5.cell (j := 3) rfl
    clear hb5 B5
    go_wp2_with fail
    go_ret
    exact ⟨by unfold Wk.oneA; rw [Hsh.out]; rfl, hbw.out⟩
  | true =>
    have Hsh := Lib.hid hsh
    rw [hsh] at HSh
    clear hsh
    have hsz : (nz == 0) = true ∨ (nz == 0) = false := by cases (nz == 0) <;> simp
    by_cases h6 : kk = 6 ∨ nz = 0
    · have Hres : Hid (Wk.oneA ⟨kk, lev, ls, ss⟩ = ls.all Wk.lsB) := by
        unfold Hid Wk.oneA; rw [Hsh.out]; simp only; rw [← Hnz.out]
        rcases h6 with rfl | rfl <;> simp
      by_cases hk : kk = 6
      · subst hk
        go_wp2_with fail
        refine HSh.out.mono ?_
        rintro e w5 ⟨rfl, hb5⟩
        have hbw := Lib.hid (HBel.out.trans (hb5.mono HBel.out.size))
        have B5 := HB0.out.call hb5
        have c0 := B5.cell (j := 0) rfl
        have c2 := B5.cell (j := 2) rfl
        have c3 := B5.cell (j := 3) rfl
        clear hb5 B5
        go_wp2_with fail
        refine (everyL_any _ vs ls 45 Wk.lsB w5 (Hl.out.call hbw.out) (Hvs.out.call hbw.out) enter_list (fun X u l hl hr => list_ok_any u l X hr (Hfl.out l hl))).mono ?_
        rintro e w6 ⟨rfl, hb6⟩
        go_wp2_with fail
        go_ret
        exact ⟨by rw [Hres.out]; rfl, hbw.out.trans (hb6.mono hbw.out.size)⟩
      · have e6 : (kk == 6) = false := by rw [beq_eq_false_iff_ne]; exact hk
        have hnz0 : nz = 0 := by rcases h6 with h | h; exact absurd h hk; exact h
        subst hnz0
        clear h6 hsz
        go_wp2_with fail
        refine HSh.out.mono ?_
        rintro e w5 ⟨rfl, hb5⟩
        have hbw := Lib.hid (HBel.out.trans (hb5.mono HBel.out.size))
        have B5 := HB0.out.call hb5
        have c0 := B5.cell (j := 0) rfl
        have c2 := B5.cell (j := 2) rfl
        have c3 := B5.cell (j := 3) rfl
        clear hb5 B5
        go_wp2_with fail
        refine (everyL_any _ vs ls 45 Wk.lsB w5 (Hl.out.call hbw.out) (Hvs.out.call hbw.out) enter_list (fun X u l hl hr => list_ok_any u l X hr (Hfl.out l hl))).mono ?_
        rintro e w6 ⟨rfl, hb6⟩
        go_wp2_with fail
        go_ret
        exact ⟨by rw [Hres.out]; rfl, hbw.out.trans (hb6.mono hbw.out.size)⟩
    · have e6 : (kk == 6) = false := by rw [beq_eq_false_iff_ne]; omega
      have en : ((nz : Int) == 0) = false := by rw [beq_eq_false_iff_ne]; omega
      have Hres : Hid (Wk.oneA ⟨kk, lev, ls, ss⟩ = false) := by
        unfold Hid Wk.oneA; rw [Hsh.out]; simp only; rw [← Hnz.out, e6, ← beq0, en]; rfl
      clear h6 hsz
      go_wp2_with fail
      refine HSh.out.mono ?_
      rintro e w5 ⟨rfl, hb5⟩
      have hbw := Lib.hid (HBel.out.trans (hb5.mono HBel.out.size))
      have B5 := HB0.out.call hb5
      have c0 := B5.cell (j := 0) rfl
      have c2 := B5.cell (j := 2) rfl
      have c3 := B5.cell (j := 3) rfl
      clear hb5 B5
      go_wp2_with fail
      go_ret
      exact ⟨by rw [Hres.out]; rfl, hbw.out⟩
end Go.Proofs.YtfbdkjonjpanfaaGreatDoor

set_option linter.unusedVariables false
set_option linter.unusedSimpArgs false
namespace Go.Proofs.YtfbdkjonjpanfaaGreatDoor
open Go.RowKit Go.Rg
attribute [local go_sem] Oper.semAt_some

namespace Wk
def mostA (p : GA) : Int := if p.kind = 7 then p.level + 1 else p.level
def levA (p : Option GA) (g : GA) : Bool := match p with
  | .none => !decide (g.level < 0) && !decide (0 < g.level)
  | .some p => !decide (g.level < 1) && !decide (mostA p < g.level)
def okA (p : Option GA) (g : GA) : Bool := oneA g && (levA p g && !(g.kind == 7 && decide (32 ≤ g.level)))
def prevA (l : List GA) (i : Nat) : Option GA := if i = 0 then .none else l[i - 1]?
def okAt (l : List GA) (i : Nat) : Bool := match l[i]? with | .none => true | .some g => okA (prevA l i) g
/-- they are what a text is read as -/
def RightA (l : List GA) : Prop := l ≠ [] ∧ ∀ i, i < l.length → okAt l i = true
end Wk

/-- the cells cs are those of the geometries -/
def GsC (w : World) (cs : List Value) (l : List GA) : Prop := ∀ (i : Nat) (g : GA), l[i]? = some g → ∃ lv zv, cs[i * 4]? = some (.int .i64 g.kind) ∧ cs[i * 4 + 1]? = some (.int .i64 g.level) ∧ cs[i * 4 + 2]? = some lv ∧ cs[i * 4 + 3]? = some zv ∧ BdA w lv zv g
theorem GsC.call {w w' : World} {cs : List Value} {l : List GA} (h : GsC w cs l) (hb : Below w.heap.size w w') : GsC w' cs l := fun i g hg => by
  obtain ⟨lv, zv, h1, h2, h3, h4, h5⟩ := h i g hg; exact ⟨lv, zv, h1, h2, h3, h4, h5.call hb⟩
/-- how an element of the slice lies -/
theorem gs_at {w : World} {a : Option Addr} {n c : Nat} {cs : List Value} {l : List GA} (h : RdC w (.slice a n c) n cs) (hg : GsC w cs l) (i : Nat) (g : GA) (hi : l[i]? = some g) :
    ∃ g1 o1 lv zv, a = some ⟨g1, o1, none⟩ ∧ n ≤ c ∧ c ≤ 9223372036854775807 ∧ BdA w lv zv g ∧ g1 < w.heap.size ∧
      w.cell? ⟨g1, o1 + i * 4, none⟩ = some (.int .i64 g.kind) ∧ w.cell? ⟨g1, o1 + i * 4 + 1, none⟩ = some (.int .i64 g.level) ∧ w.cell? ⟨g1, o1 + i * 4 + 2, none⟩ = some lv ∧ w.cell? ⟨g1, o1 + i * 4 + 3, none⟩ = some zv := by
  obtain ⟨lv, zv, h1, h2, h3, h4, h5⟩ := hg i g hi
  obtain ⟨a', c', e, _, ho⟩ := h
  cases e
  obtain ⟨g1, o1, rfl, q1, q2, q3, q4⟩ := ho (fun e => by rw [e] at h1; simp at h1)
  exact ⟨g1, o1, lv, zv, rfl, q1, q2, h5, q3, q4 _ _ h1, by have := q4 _ _ h2; rwa [← Nat.add_assoc] at this, by have := q4 _ _ h3; rwa [← Nat.add_assoc] at this, by have := q4 _ _ h4; rwa [← Nat.add_assoc] at this⟩

set_option maxRecDepth 100000 in
set_option maxHeartbeats 8000000 in
theorem rightA_any (v : Value) (cs : List Value) (l : List GA) (w : World) (h : RdC w v l.length cs) (hg : GsC w cs l) (hf : ∀ g ∈ l, Wk.FitA g) :
    Calls Tryz.prog 18 #[v] w fun e w' => ∃ b : Bool, e = .returned (.bool b) ∧ Hid (b = true ↔ Wk.RightA l) ∧ Below w.heap.size w w' := by
  obtain ⟨a, c, rfl, hm⟩ := h.form
  obtain ⟨n, hnn⟩ : ∃ n, n = l.length := ⟨_, rfl⟩
  rw [← hnn] at h hm ⊢
  have Hn := Lib.hid hnn
  have Hr := Lib.hid h
  have Hg := Lib.hid hg
  have Hf := Lib.hid hf
  clear hnn h hg hf
  unfold maxLen at hm
  go_enter Tryz.func18, Tryz.ntmps18
  go_wp2_with fail
  go_loopg [9] n (fun q s9 wx => ∃ i : Nat, i + q = n ∧ s9 = .int .i64 (i : Int) ∧ Hid (∀ j, j < i → Wk.okAt l j = true) ∧ Hid (Below w.heap.size w wx))
  case atStart => exact ⟨0, by omega, rfl, fun j hj => by omega, Below.refl _ _⟩
  case round =>
    obtain ⟨i, hiq, rfl, Hok, Hb⟩ := hrel
    cases gk with
    | zero =>
      have hin : i = n := by omega
      subst hin
      go_wp2_with fail
      try rw [Exit.noGoto_ret]
      go_ret
      refine ⟨decide (0 < i), rfl, ?_, Hb.out⟩
      unfold Hid Wk.RightA
      rw [← Hn.out, decide_eq_true_eq]
      refine ⟨fun h => ⟨fun e => ?_, Hok.out⟩, fun h => ?_⟩
      · have := Hn.out; rw [e] at this; simp at this; omega
      · rcases Nat.eq_zero_or_pos i with h0 | h0
        · exact absurd (List.eq_nil_of_length_eq_zero (Hn.out.symm.trans h0)) h.1
        · exact h0
    | succ q =>
      have hin : i < n := by omega
      obtain ⟨g, hgi⟩ : ∃ g, l[i]? = some g := ⟨_, List.getElem?_eq_getElem (by rw [← Hn.out]; exact hin)⟩
      obtain ⟨g1, o1, lv, zv, rfl, q1, q2, hB, q3, y0, y1, y2, y3⟩ := gs_at Hr.out Hg.out i g hgi
      have HB := Lib.hid hB
      obtain ⟨vs, _, hl, _, hzs⟩ := hB
      obtain ⟨la, lc, rfl, _⟩ := hl.form
      obtain ⟨za, zc, rfl, _⟩ := hzs.form
      clear hl hzs
      have x0 : wr.cell? ⟨g1, o1 + i * 4, none⟩ = _ := keepc Hb.out q3 y0
      have x1 : wr.cell? ⟨g1, o1 + i * 4 + 1, none⟩ = _ := keepc Hb.out q3 y1
      have x2 : wr.cell? ⟨g1, o1 + i * 4 + 2, none⟩ = _ := keepc Hb.out q3 y2
      have x3 : wr.cell? ⟨g1, o1 + i * 4 + 3, none⟩ = _ := keepc Hb.out q3 y3
      have hszr := Hb.out.size
      obtain ⟨Wb, hWb⟩ : ∃ Wb, wr.alloc (.cells #[.int .i64 g.kind, .int .i64 g.level, .slice la g.lists.length lc, .slice za g.sizes.length zc] 33) = Wb := ⟨_, rfl⟩
      have B0 : Blk Wb wr.heap.size [.int .i64 g.kind, .int .i64 g.level, .slice la g.lists.length lc, .slice za g.sizes.length zc] 33 := hWb ▸ Blk.new wr _ _
      have hBw : Below wr.heap.size wr Wb := hWb ▸ (Below.refl _ wr).alloc (Nat.le_refl _) _
      have hzb : wr.heap.size < Wb.heap.size := by rw [← hWb, World.size_alloc]; omega
      have hbw : Below w.heap.size w Wb := Hb.out.trans (hBw.mono hszr)
      have b0 := B0.cell (j := 0) rfl
      have b1 := B0.cell (j := 1) rfl
      have b2 := B0.cell (j := 2) rfl
      have b3 := B0.cell (j := 3) rfl
      have HOne : Hid (∀ X, Below w.heap.size w X → Calls Tryz.prog 29 #[gaV g (.slice la g.lists.length lc) (.slice za g.sizes.length zc)] X fun e X' => e = .returned (.bool (Wk.oneA g)) ∧ Below X.heap.size X X') := fun X hX => one_any2 g _ _ X (HB.out.call hX) (Hf.out g (List.mem_of_getElem? hgi))
      have HB0 := Lib.hid B0
      have Hbw := Lib.hid hbw
      have Hres : Hid (Wk.okAt l i = Wk.okA (Wk.prevA l i) g) := by unfold Hid Wk.okAt; rw [hgi]
      have Hstop : Hid (Wk.okAt l i = false → ¬ Wk.RightA l) := fun h hr => by have := hr.2 i (by rw [← Hn.out]; exact hin); rw [h] at this; cases this
      have Hgo : Hid (Wk.okAt l i = true → ∀ j, j < i + 1 → Wk.okAt l j = true) := fun h j hj => by
        rcases Nat.lt_or_ge j i with h' | h'
        · exact Hok.out j h'
        · have : j = i := by omega
          subst this; exact h
      have hX6 : ∀ {k : Nat} {X : World}, Below (Wb.drewN k).heap.size (Wb.drewN k) X → Below Wb.heap.size Wb X := fun h => (below_drewN _ _ _).trans (h.mono (below_drewN Wb.heap.size Wb _).size)
      have hX5 : ∀ {k : Nat} {X : World}, Below (Wb.drewN k).heap.size (Wb.drewN k) X → Below w.heap.size Wb X := fun h => (hX6 h).mono hbw.size
      clear B0 hBw hbw y0 y1 y2 y3 hgi
      obtain ⟨kk, lev, ls, ss⟩ := g
      simp only at *
      rcases Nat.eq_zero_or_pos i with rfl | hpos
      · have Hpr : Hid (Wk.prevA l 0 = .none) := rfl
        simp only [Nat.zero_mul, Nat.add_zero] at x0 x1 x2 x3
        go_wp2_with fail
        refine (HOne.out _ Hbw.out).mono ?_
        rintro e w5 ⟨rfl, hb5⟩
        have hbw5 := Lib.hid (Hbw.out.trans (hb5.mono Hbw.out.size))
        have B5 := HB0.out.call hb5
        have c0 := B5.cell (j := 0) rfl
        have c1 := B5.cell (j := 1) rfl
        have c2 := B5.cell (j := 2) rfl
        have c3 := B5.cell (j := 3) rfl
        clear hb5 B5 b0 b1 b2 b3
        cases hone : Wk.oneA ⟨kk, lev, ls, ss⟩ with
        | false =>
          have Hone := Lib.hid hone
          clear hone
          go_wp2_with fail
          (try rw [Exit.noGoto_ret])
          go_ret
          refine ⟨false, rfl, ?_, hbw5.out⟩
          have hno : ¬ Wk.RightA l := Hstop.out (by rw [Hres.out, Hpr.out]; unfold Wk.okA Wk.levA; rw [Hone.out]; rfl)
          exact ⟨(fun h => by cases h), fun h => absurd h hno⟩
        | true =>
          have Hone := Lib.hid hone
          clear hone
          by_cases hl1 : lev < 0
          · go_wp2_with fail
            (try rw [Exit.noGoto_ret])
            go_ret
            refine ⟨false, rfl, ?_, hbw5.out⟩
            have hno : ¬ Wk.RightA l := Hstop.out (by rw [Hres.out, Hpr.out]; unfold Wk.okA Wk.levA; simp [hl1])
            exact ⟨(fun h => by cases h), fun h => absurd h hno⟩
          · by_cases hl2 : 0 < lev
            · go_wp2_with fail
              (try rw [Exit.noGoto_ret])
              go_ret
              refine ⟨false, rfl, ?_, hbw5.out⟩
              have hno : ¬ Wk.RightA l := Hstop.out (by rw [Hres.out, Hpr.out]; unfold Wk.okA Wk.levA; simp [hl2])
              exact ⟨(fun h => by cases h), fun h => absurd h hno⟩
            · by_cases hk7 : kk = 7
              · by_cases h32 : 32 ≤ lev
                · exact absurd h32 (by omega)
                · subst hk7
                  go_wp2_with fail
                  go_roundg q
                  case measure => omega
                  case rel => exact ⟨0 + 1, by omega, by first | rfl | simp, Hgo.out (by rw [Hres.out, Hpr.out]; unfold Wk.okA Wk.levA; rw [Hone.out]; simp [hl1, hl2, h32]), hbw5⟩
              · have e7 : (kk == 7) = false := by rw [beq_eq_false_iff_ne]; exact hk7
                go_wp2_with fail
                go_roundg q
                case measure => omega
                case rel => exact ⟨0 + 1, by omega, by first | rfl | simp, Hgo.out (by rw [Hres.out, Hpr.out]; unfold Wk.okA Wk.levA; rw [Hone.out]; simp [hl1, hl2, hk7]), hbw5⟩
      · have hpi : i - 1 < n := by omega
        obtain ⟨p, hp⟩ : ∃ p, l[i - 1]? = some p := ⟨_, List.getElem?_eq_getElem (by rw [← Hn.out]; exact hpi)⟩
        obtain ⟨g1', o1', lv', zv', e', _, _, _, q3', y0, y1, _, _⟩ := gs_at Hr.out Hg.out (i - 1) p hp
        cases e'
        have p0 : Wb.cell? ⟨g1, o1 + (i - 1) * 4, none⟩ = _ := keepc Hbw.out q3 y0
        have p1 : Wb.cell? ⟨g1, o1 + (i - 1) * 4 + 1, none⟩ = _ := keepc Hbw.out q3 y1
        have Hpr : Hid (Wk.prevA l i = .some p) := by unfold Hid Wk.prevA; rw [if_neg (by omega)]; exact hp
        have hpok := Hok.out (i - 1) (by omega)
        have hp32 : p.kind = 7 → p.level < 32 := by
          intro h7
          unfold Wk.okAt Wk.okA at hpok
          rw [hp] at hpok
          simp only [Bool.and_eq_true] at hpok
          have := hpok.2.2
          rw [h7] at this
          simp at this
          omega
        have hp0 : 0 ≤ p.level := by
          unfold Wk.okAt Wk.okA at hpok
          rw [hp] at hpok
          simp only [Bool.and_eq_true] at hpok
          have := hpok.2.1
          unfold Wk.levA at this
          split at this
          · simp at this; omega
          · simp at this; omega
        have hi1 : ((i : Int) - 1) = ((i - 1 : Nat) : Int) := by omega
        have hi0 : (0 : Int) < (i : Int) := by omega
        clear y0 y1 hp hpok
        obtain ⟨pk, pl, pls, pss⟩ := p
        simp only at *
        by_cases hpk : pk = 7
        · subst hpk
          have hp32' : pl < 32 := hp32 rfl
          have Hm : Hid (Wk.mostA ⟨7, pl, pls, pss⟩ = pl + 1) := rfl
          go_wp2_with fail
          go_quiet (fail)
          go_wp2_with fail
          refine (HOne.out _ (Hbw.out.trans (below_drewN _ _ _))).mono ?_
          rintro e w5 ⟨rfl, hb5⟩
          have hbd := Hbw.out.trans (hX5 hb5)
          have hbw5 := Lib.hid hbd
          have B5 := HB0.out.call (hX6 hb5)
          have c0 := B5.cell (j := 0) rfl
          have c1 := B5.cell (j := 1) rfl
          have c2 := B5.cell (j := 2) rfl
          have c3 := B5.cell (j := 3) rfl
          clear hb5 B5 b0 b1 b2 b3
          cases hone : Wk.oneA ⟨kk, lev, ls, ss⟩ with
          | false =>
            have Hone := Lib.hid hone
            clear hone
            go_wp2_with fail
            (try rw [Exit.noGoto_ret])
            go_ret
            refine ⟨false, rfl, ?_, hbw5.out⟩
            have hno : ¬ Wk.RightA l := Hstop.out (by rw [Hres.out, Hpr.out]; unfold Wk.okA Wk.levA; rw [Hone.out]; rfl)
            exact ⟨(fun h => by cases h), fun h => absurd h hno⟩
          | true =>
            have Hone := Lib.hid hone
            clear hone
            by_cases hl1 : lev < 1
            · go_wp2_with fail
              (try rw [Exit.noGoto_ret])
              go_ret
              refine ⟨false, rfl, ?_, hbw5.out⟩
              have hno : ¬ Wk.RightA l := Hstop.out (by rw [Hres.out, Hpr.out]; unfold Wk.okA Wk.levA; simp [hl1])
              exact ⟨(fun h => by cases h), fun h => absurd h hno⟩
            · by_cases hl2 : (pl + 1) < lev
              · go_wp2_with fail
                (try rw [Exit.noGoto_ret])
                go_ret
                refine ⟨false, rfl, ?_, hbw5.out⟩
                have hno : ¬ Wk.RightA l := Hstop.out (by rw [Hres.out, Hpr.out]; unfold Wk.okA Wk.levA; simp [hl2, Wk.mostA])
                exact ⟨(fun h => by cases h), fun h => absurd h hno⟩
              · by_cases hk7 : kk = 7
                · by_cases h32 : 32 ≤ lev
                  · subst hk7
                    go_wp2_with fail
                    (try rw [Exit.noGoto_ret])
                    go_ret
                    refine ⟨false, rfl, ?_, hbw5.out⟩
                    have hno : ¬ Wk.RightA l := Hstop.out (by rw [Hres.out, Hpr.out]; unfold Wk.okA Wk.levA; simp [h32])
                    exact ⟨(fun h => by cases h), fun h => absurd h hno⟩
                  · subst hk7
                    go_wp2_with fail
                    go_roundg q
                    case measure => omega
                    case rel => exact ⟨i + 1, by omega, by first | rfl | simp, Hgo.out (by rw [Hres.out, Hpr.out]; unfold Wk.okA Wk.levA; rw [Hone.out]; simp [hl1, hl2, h32, Wk.mostA]), hbw5⟩
                · have e7 : (kk == 7) = false := by rw [beq_eq_false_iff_ne]; exact hk7
                  go_wp2_with fail
                  go_roundg q
                  case measure => omega
                  case rel => exact ⟨i + 1, by omega, by first | rfl | simp, Hgo.out (by rw [Hres.out, Hpr.out]; unfold Wk.okA Wk.levA; rw [Hone.out]; simp [hl1, hl2, hk7, Wk.mostA]), hbw5⟩
        · have epk : (pk == 7) = false := by rw [beq_eq_false_iff_ne]; exact hpk
          go_wp2_with fail
          go_quiet (fail)
          go_wp2_with fail
          refine (HOne.out _ (Hbw.out.trans (below_drewN _ _ _))).mono ?_
          rintro e w5 ⟨rfl, hb5⟩
          have hbd := Hbw.out.trans (hX5 hb5)
          have hbw5 := Lib.hid hbd
          have B5 := HB0.out.call (hX6 hb5)
          have c0 := B5.cell (j := 0) rfl
          have c1 := B5.cell (j := 1) rfl
          have c2 := B5.cell (j := 2) rfl
          have c3 := B5.cell (j := 3) rfl
          clear hb5 B5 b0 b1 b2 b3
          cases hone : Wk.oneA ⟨kk, lev, ls, ss⟩ with
          | false =>
            have Hone := Lib.hid hone
            clear hone
            go_wp2_with fail
            (try rw [Exit.noGoto_ret])
            go_ret
            refine ⟨false, rfl, ?_, hbw5.out⟩
            have hno : ¬ Wk.RightA l := Hstop.out (by rw [Hres.out, Hpr.out]; unfold Wk.okA Wk.levA; rw [Hone.out]; rfl)
            exact ⟨(fun h => by cases h), fun h => absurd h hno⟩
          | true =>
            have Hone := Lib.hid hone
            clear hone
            by_cases hl1 : lev < 1
            · go_wp2_with fail
              (try rw [Exit.noGoto_ret])
              go_ret
              refine ⟨false, rfl, ?_, hbw5.out⟩
              have hno : ¬ Wk.RightA l := Hstop.out (by rw [Hres.out, Hpr.out]; unfold Wk.okA Wk.levA; simp [hl1])
              exact ⟨(fun h => by cases h), fun h => absurd h hno⟩
            · by_cases hl2 : pl < lev
              · go_wp2_with fail
                (try rw [Exit.noGoto_ret])
                go_ret
                refine ⟨false, rfl, ?_, hbw5.out⟩
                have hno : ¬ Wk.RightA l := Hstop.out (by rw [Hres.out, Hpr.out]; unfold Wk.okA Wk.levA; simp [hl2, Wk.mostA, hpk])
                exact ⟨(fun h => by cases h), fun h => absurd h hno⟩
              · by_cases hk7 : kk = 7
                · by_cases h32 : 32 ≤ lev
                  · subst hk7
                    go_wp2_with fail
                    (try rw [Exit.noGoto_ret])
                    go_ret
                    refine ⟨false, rfl, ?_, hbw5.out⟩
                    have hno : ¬ Wk.RightA l := Hstop.out (by rw [Hres.out, Hpr.out]; unfold Wk.okA Wk.levA; simp [h32])
                    exact ⟨(fun h => by cases h), fun h => absurd h hno⟩
                  · subst hk7
                    go_wp2_with fail
                    go_roundg q
                    case measure => omega
                    case rel => exact ⟨i + 1, by omega, by first | rfl | simp, Hgo.out (by rw [Hres.out, Hpr.out]; unfold Wk.okA Wk.levA; rw [Hone.out]; simp [hl1, hl2, h32, Wk.mostA, hpk]), hbw5⟩
                · have e7 : (kk == 7) = false := by rw [beq_eq_false_iff_ne]; exact hk7
                  go_wp2_with fail
                  go_roundg q
                  case measure => omega
                  case rel => exact ⟨i + 1, by omega, by first | rfl | simp, Hgo.out (by rw [Hres.out, Hpr.out]; unfold Wk.okA Wk.levA; rw [Hone.out]; simp [hl1, hl2, hk7, Wk.mostA, hpk]), hbw5⟩
end Go.Proofs.YtfbdkjonjpanfaaGreatDoor
