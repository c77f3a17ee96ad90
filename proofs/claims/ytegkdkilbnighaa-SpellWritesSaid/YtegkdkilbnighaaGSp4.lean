/- The document's joined and Lists: texts of gromaref11's geometries. -/
import Derived.Test.YtegkdkilbnighaaGSp2
import Derived.Test.YtegkdkilbnighaaRfA
import Derived.Deep.RegionHeld3
import Derived.Test.YtegkdkilbnighaaGSp3
import Derived.Test.YtegkdkilbnighaaRfM
import Derived.Test.YtegkdkilbnighaaWktK

set_option linter.unusedVariables false
set_option linter.unusedSimpArgs false
namespace Go.Proofs.Ytegkdkilbnighaa
open Go.RowKit Go.Rg
attribute [local go_sem] Oper.semAt_some

/-- the first so many, with the commas that stand ahead of each but the first -/
def Wk.accT : List Lx.Str → Nat → Lx.Str
  | xs, 0 => []
  | xs, i + 1 => Wk.accT xs i ++ ((if i = 0 then [] else [44, 32]) ++ xs.getD i [])
theorem Wk.acc_succ (xs : List Lx.Str) (i : Nat) (x : Lx.Str) (h : xs[i]? = some x) : Wk.accT xs (i + 1) = Wk.accT xs i ++ ((if i = 0 then [] else [44, 32]) ++ x) := by
  show Wk.accT xs i ++ ((if i = 0 then [] else [44, 32]) ++ xs.getD i []) = _
  rw [List.getD_eq_getElem?_getD, h]; rfl
theorem Wk.acc_app (xs : List Lx.Str) (x : Lx.Str) : ∀ i, i ≤ xs.length → Wk.accT (xs ++ [x]) i = Wk.accT xs i
  | 0, _ => rfl
  | i + 1, h => by
    show Wk.accT (xs ++ [x]) i ++ _ = Wk.accT xs i ++ _
    rw [Wk.acc_app xs x i (by omega), List.getD_eq_getElem?_getD, List.getD_eq_getElem?_getD, List.getElem?_append_left (by omega)]
theorem Wk.join_snoc (x : Lx.Str) : ∀ xs : List Lx.Str, Wk.join (xs ++ [x]) = Wk.join xs ++ ((if xs.length = 0 then [] else [44, 32]) ++ x)
  | [] => by simp [Wk.join]
  | [y] => by simp [Wk.join]
  | y :: z :: r => by
    have := Wk.join_snoc x (z :: r)
    rw [List.cons_append, Wk.join_cons y _ (by simp), this, Wk.join_cons y (z :: r) (by simp)]
    simp
theorem Wk.acc_all : ∀ xs : List Lx.Str, Wk.accT xs xs.length = Wk.join xs := by
  intro xs
  obtain ⟨n, hn⟩ : ∃ n, n = xs.length := ⟨_, rfl⟩
  induction n generalizing xs with
  | zero => have : xs = [] := List.eq_nil_of_length_eq_zero hn.symm; subst this; rfl
  | succ n ih =>
    have hne : xs ≠ [] := fun e => by rw [e] at hn; simp at hn
    obtain ⟨ys, y, rfl⟩ : ∃ ys y, xs = ys ++ [y] := ⟨xs.dropLast, xs.getLast hne, (List.dropLast_concat_getLast hne).symm⟩
    have hl : ys.length = n := by simp at hn; omega
    rw [List.length_append, List.length_singleton, Wk.acc_succ (ys ++ [y]) ys.length y (by simp), Wk.acc_app ys y _ (Nat.le_refl _), ih ys hl.symm, Wk.join_snoc]
theorem Wk.acc_le (xs : List Lx.Str) (i j : Nat) (h : i ≤ j) : (Wk.accT xs i).length ≤ (Wk.accT xs j).length := by
  induction j with
  | zero => have : i = 0 := by omega
            subst this; exact Nat.le_refl _
  | succ j ih =>
    rcases Nat.lt_or_ge i (j + 1) with h1 | h1
    · have := ih (by omega)
      show _ ≤ (Wk.accT xs j ++ _).length
      rw [List.length_append]; omega
    · have : i = j + 1 := by omega
      subst this; exact Nat.le_refl _

set_option maxRecDepth 100000 in
set_option maxHeartbeats 4000000 in
theorem rjoined_any (v : Value) (xs : List Lx.Str) (w : World) (h : RdC w v xs.length (strs xs)) (hn : xs.length ≤ 1000000000) (hlen : (Wk.join xs).length ≤ 1000000000) :
    Calls Try.prog 30 #[v] w fun e w' => e = .returned (str (Wk.joined xs)) ∧ Below w.heap.size w w' := by
  obtain ⟨a, c, rfl, hm, ho⟩ := h
  have Ho := Lib.hid ho
  obtain ⟨n, hnn⟩ : ∃ n, n = xs.length := ⟨_, rfl⟩
  rw [← hnn] at hm hn ⊢
  have Hn := Lib.hid hnn
  have Hlen := Lib.hid hlen
  clear ho hnn hlen
  unfold maxLen at hm
  go_enter Try.func30, Try.ntmps30
  go_wp2_with fail
  go_loopg [3, 4] n (fun q s3 s4 wx => ∃ (i : Nat) (acc : ByteArray), i + q = n ∧ s4 = .int .i64 (i : Int) ∧ s3 = .string acc ∧ Hid (acc.data.toList = Wk.accT xs i) ∧ w = wx)
  case atStart => exact ⟨0, _, by omega, rfl, rfl, rfl, rfl⟩
  case round =>
    obtain ⟨i, acc, hiq, rfl, rfl, Hacc, rfl⟩ := hrel
    have hsz : acc.size ≤ 1000000000 := by
      rw [Lib.size_eq, Hacc.out]
      have := Wk.acc_le xs i n (by omega)
      rw [Hn.out, Wk.acc_all] at this
      have := Hlen.out; omega
    cases gk with
    | zero =>
      have hin : i = n := by omega
      subst hin
      have Hj : Hid (acc.data.toList = Wk.join xs) := by unfold Hid; rw [Hacc.out, Hn.out, Wk.acc_all]
      rcases Nat.eq_zero_or_pos i with h0 | hpos
      · have hx : xs = [] := List.eq_nil_of_length_eq_zero (Hn.out.symm.trans h0)
        have e0 : ((i : Int) == 0) = true := by rw [beq_iff_eq]; omega
        have Hx := Lib.hid hx
        clear h0 hx
        go_wp2_with fail
        try rw [Exit.noGoto_ret]
        go_ret
        exact ⟨by rw [Hx.out]; rfl, Below.refl _ _⟩
      · have hn0 : ((i : Int) == 0) = false := by rw [beq_eq_false_iff_ne]; omega
        have hx : xs ≠ [] := fun e => by have := Hn.out; rw [e] at this; simp at this; omega
        have Hx : Hid (Wk.joined xs = Wk.bracket xs) := by unfold Hid Wk.joined; rw [if_neg hx]
        clear hx
        go_wp2_with fail
        try rw [Exit.noGoto_ret]
        go_ret
        refine ⟨?_, Below.refl _ _⟩
        rw [Hx.out]
        exact retS (by simp [Wk.bracket, Hj.out])
    | succ q =>
      have hin : i < n := by omega
      obtain ⟨x, hx⟩ : ∃ x, xs[i]? = some x := ⟨_, List.getElem?_eq_getElem (by rw [← Hn.out]; exact hin)⟩
      have hxs := strs_at xs i x hx
      obtain ⟨g1, o1, rfl, h1, h2, h3, h4⟩ := Ho.out (fun e => by rw [e] at hxs; cases hxs)
      have y1 : w.cell? ⟨g1, o1 + i, none⟩ = some (str x) := h4 _ _ hxs
      unfold maxLen at h2
      have Hs := Lib.hid (Wk.acc_succ xs i x hx)
      have hxl : (Wk.accT xs (i + 1)).length ≤ 1000000000 := by
        have := Wk.acc_le xs (i + 1) n (by omega)
        rw [Hn.out, Wk.acc_all] at this
        have := Hlen.out; omega
      have hxl2 : acc.size + 2 + x.length ≤ 1000000002 := by
        rw [Hs.out] at hxl
        simp only [List.length_append] at hxl
        rw [Lib.size_eq, Hacc.out]; omega
      clear h4 hxs hx hxl
      rcases Nat.eq_zero_or_pos i with h0 | hpos
      · have e0 : ¬ ((0 : Int) < (i : Int)) := by omega
        have Hs2 : Hid (Wk.accT xs (i + 1) = Wk.accT xs i ++ x) := by unfold Hid; rw [Hs.out, if_pos h0]; rfl
        clear h0
        go_wp2_with fail
        go_roundg q
        case measure => omega
        case rel => exact ⟨i + 1, _, by omega, by first | rfl | simp, rfl, by unfold Hid; rw [Hs2.out, ← Hacc.out]; simp, rfl⟩
      · have e0 : (0 : Int) < (i : Int) := by omega
        have Hs2 : Hid (Wk.accT xs (i + 1) = Wk.accT xs i ++ ([44, 32] ++ x)) := by unfold Hid; rw [Hs.out, if_neg (by omega)]
        go_wp2_with fail
        go_roundg q
        case measure => omega
        case rel => exact ⟨i + 1, _, by omega, by first | rfl | simp, rfl, by unfold Hid; rw [Hs2.out, ← Hacc.out]; simp, rfl⟩
end Go.Proofs.Ytegkdkilbnighaa

set_option linter.unusedVariables false
set_option linter.unusedSimpArgs false
namespace Go.Proofs.Ytegkdkilbnighaa
open Go.RowKit Go.Rg
attribute [local go_sem] Oper.semAt_some

theorem flat_at2 (P : List Wk.Pr) (m : Nat) (p : Wk.Pr) (h : P[m]? = some p) : (Wk.flat P)[m * 2]? = some p.1 ∧ (Wk.flat P)[m * 2 + 1]? = some p.2 := by
  induction P generalizing m with
  | nil => cases h
  | cons q P ih =>
    cases m with
    | zero => cases h; exact ⟨rfl, rfl⟩
    | succ m =>
      obtain ⟨a, b⟩ := ih m h
      have e : (m + 1) * 2 = m * 2 + 1 + 1 := by omega
      rw [e]
      exact ⟨a, b⟩
theorem flat_len2 (P : List Wk.Pr) : (Wk.flat P).length = P.length * 2 := by
  induction P with
  | nil => rfl
  | cons q P ih => show (q.1 :: q.2 :: Wk.flat P).length = _; simp [ih]; omega
theorem pair_at2 (ls : List (List Wk.Pr)) (k j : Nat) (l : List Wk.Pr) (p : Wk.Pr) (h : ls[k]? = some l) (hj : l[j]? = some p) : ls.flatten[(ls.take k).flatten.length + j]? = some p := by
  induction ls generalizing k with
  | nil => cases h
  | cons m ls ih =>
    cases k with
    | zero => cases h; simp only [List.take_zero, List.flatten_nil, List.length_nil, Nat.zero_add, List.flatten_cons]; rw [List.getElem?_append_left (List.getElem?_eq_some_iff.1 hj).1]; exact hj
    | succ k =>
      have := ih k h
      simp only [List.take_succ_cons, List.flatten_cons, List.length_append]
      rw [Nat.add_assoc, List.getElem?_append_right (by omega), Nat.add_sub_cancel_left]
      exact this
theorem take_flat2 (ls : List (List Wk.Pr)) (k : Nat) (l : List Wk.Pr) (h : ls[k]? = some l) : (ls.take (k + 1)).flatten.length = (ls.take k).flatten.length + l.length := by
  rw [List.take_add_one, h]; simp
theorem take_le2 (ls : List (List Wk.Pr)) (k : Nat) : (ls.take k).flatten.length ≤ ls.flatten.length := by
  induction ls generalizing k with
  | nil => simp
  | cons m ls ih =>
    cases k with
    | zero => simp
    | succ k => have := ih k; simp only [List.take_succ_cons, List.flatten_cons, List.length_append]; omega

/-- how the document's geometry lies -/
def RgC (w : World) (pv cv sv : Value) (g : Wk.Geo) : Prop :=
  RdC w pv (g.lists.flatten.length * 2) (strs (Wk.flat g.lists.flatten)) ∧ RdC w cv g.lists.length (intsN (g.lists.map List.length)) ∧ RdC w sv g.sizes.length (intsN g.sizes)
theorem RgC.call {w w' : World} {pv cv sv : Value} {g : Wk.Geo} (h : RgC w pv cv sv g) (hb : Below w.heap.size w w') : RgC w' pv cv sv g := ⟨h.1.call hb, h.2.1.call hb, h.2.2.call hb⟩
theorem RgC.of {w : World} {pv cv sv : Value} {g : Wk.Geo} (h : RdR w pv cv sv (Wk.toR g)) : RgC w pv cv sv g := by
  obtain ⟨h1, h2, h3⟩ := h
  have e1 : (Wk.toR g).pairs.length = g.lists.flatten.length * 2 := by show (Wk.flat g.lists.flatten).length = _; exact flat_len2 _
  have e2 : (Wk.toR g).counts.length = g.lists.length := by simp [Wk.toR]
  rw [e1] at h1
  rw [e2] at h2
  exact ⟨.of h1, .of h2, .of h3⟩
abbrev rgV2 (g : Wk.Geo) (pv cv sv : Value) : Value := .agg #[.int .i64 (g.kind : Int), .int .i64 (g.level : Int), pv, cv, sv]

set_option maxRecDepth 100000 in
set_option maxHeartbeats 8000000 in
theorem rlists_any (g : Wk.Geo) (pv cv sv : Value) (w : World) (h : RgC w pv cv sv g) (hP : g.lists.flatten.length ≤ 1000000000) (hn : g.lists.length ≤ 1000000000) (hlen : ∀ l ∈ g.lists, (Wk.pairsT l).length ≤ 1000000000) :
    Calls Try.prog 66 #[rgV2 g pv cv sv] w fun e w' => ∃ v, e = .returned v ∧ RdC w' v g.lists.length (strs (g.lists.map Wk.pairsT)) ∧ Below w.heap.size w w' := by
  obtain ⟨hp, hc, hs⟩ := h
  obtain ⟨pa, pc, rfl, hpm⟩ := hp.form
  obtain ⟨ca, cc, rfl, hcm⟩ := hc.form
  obtain ⟨sa, sc, rfl, hsm⟩ := hs.form
  obtain ⟨n, hnn⟩ : ∃ n, n = g.lists.length := ⟨_, rfl⟩
  obtain ⟨np, hnp⟩ : ∃ np, np = g.lists.flatten.length := ⟨_, rfl⟩
  obtain ⟨kk, hkk⟩ : ∃ kk : Int, kk = (g.kind : Int) := ⟨_, rfl⟩
  obtain ⟨lev, hlev⟩ : ∃ lev : Int, lev = (g.level : Int) := ⟨_, rfl⟩
  unfold rgV2
  rw [← hkk, ← hlev]
  rw [← hnn] at hn hcm hc ⊢
  rw [← hnp] at hP hpm hp ⊢
  have Hn := Lib.hid hnn
  have Hnp := Lib.hid hnp
  have Hp := Lib.hid hp
  have Hc := Lib.hid hc
  have Hlen := Lib.hid hlen
  clear hnn hnp hp hc hs hlen hkk hlev
  unfold maxLen at hpm hcm hsm
  obtain ⟨W0, hW0⟩ : ∃ W0, w.alloc (.cells #[.int .i64 kk, .int .i64 lev, .slice pa (np * 2) pc, .slice ca n cc, .slice sa g.sizes.length sc] 78) = W0 := ⟨_, rfl⟩
  have B0 : Blk W0 w.heap.size [.int .i64 kk, .int .i64 lev, .slice pa (np * 2) pc, .slice ca n cc, .slice sa g.sizes.length sc] 78 := hW0 ▸ Blk.new w _ _
  have hBel : Below w.heap.size w W0 := hW0 ▸ (Below.refl _ w).alloc (Nat.le_refl _) _
  have hz0 : w.heap.size + 1 ≤ W0.heap.size := by rw [← hW0, World.size_alloc]; exact Nat.le_refl _
  have b2 := B0.cell (j := 2) rfl
  have b3 := B0.cell (j := 3) rfl
  have HB0 := Lib.hid B0
  have HBel := Lib.hid hBel
  clear B0 hBel
  go_enter Try.func66, Try.ntmps66
  go_wp2_with fail
  go_loopg [3, 4, 5] n (fun q s3 s4 s5 wx => ∃ (i m : Nat), i + q = n ∧ s5 = .int .i64 (i : Int) ∧ s4 = .int .i64 ((m * 2 : Nat) : Int) ∧ Hid (m = (g.lists.take i).flatten.length) ∧ wx.ownsRow W0.heap.size 9 1 s3 i (ltsT g.lists i) ∧ Hid (Below W0.heap.size W0 wx))
  case atStart => exact ⟨0, 0, by omega, rfl, rfl, rfl, World.ownsRow_nil _ _ _ _, Below.refl _ _⟩
  case round =>
    obtain ⟨i, m, hiq, rfl, rfl, Hm, hown, Hb⟩ := hrel
    obtain ⟨av, capv, rfl⟩ := own_form hown
    obtain ⟨Wr, rfl⟩ : ∃ Wr, Wr = wr := ⟨wr, rfl⟩
    have B1 := HB0.out.call Hb.out
    have c2 := B1.cell (j := 2) rfl
    have c3 := B1.cell (j := 3) rfl
    have hszr := Hb.out.size
    have hbw := Lib.hid (HBel.out.trans (Hb.out.mono HBel.out.size))
    clear B1
    cases gk with
    | zero =>
      have hin : i = n := by omega
      subst hin
      have hmap : ltsT g.lists i = strs (g.lists.map Wk.pairsT) := by unfold ltsT; rw [Hn.out, List.take_length]
      rw [hmap] at hown
      have hrd := Lib.hid (RdC.own hown)
      clear hown hmap
      go_wp2_with fail
      try rw [Exit.noGoto_ret]
      go_ret
      exact ⟨_, rfl, hrd.out, hbw.out⟩
    | succ q =>
      have hin : i < n := by omega
      obtain ⟨l, hl⟩ : ∃ l, g.lists[i]? = some l := ⟨_, List.getElem?_eq_getElem (by rw [← Hn.out]; exact hin)⟩
      obtain ⟨a', c', e', _, ho⟩ := Hc.out
      cases e'
      have hci : (intsN (g.lists.map List.length))[i]? = some (.int .i64 (l.length : Int)) := by unfold intsN; rw [List.getElem?_map, List.getElem?_map, hl]; rfl
      obtain ⟨g1, o1, rfl, q1, q2, q3, q4⟩ := ho (fun e => by rw [e] at hci; cases hci)
      have y1' : w.cell? ⟨g1, o1 + i, none⟩ = some (.int .i64 (l.length : Int)) := q4 _ _ hci
      have y1 : Wr.cell? ⟨g1, o1 + i, none⟩ = some (.int .i64 (l.length : Int)) := keepc hbw.out q3 y1'
      have hml : m + l.length ≤ np := by
        have h1 := take_flat2 _ _ _ hl
        have h2 := take_le2 g.lists (i + 1)
        rw [Hm.out, Hnp.out]; omega
      have Hm2 : Hid (m + l.length = (g.lists.take (i + 1)).flatten.length) := by unfold Hid; rw [take_flat2 _ _ _ hl, ← Hm.out]
      have Hl := Lib.hid hl
      have Hpl := Lib.hid (Hlen.out l (List.mem_of_getElem? hl))
      have hmap : Hid (ltsT g.lists (i + 1) = ltsT g.lists i ++ [str (Wk.pairsT l)]) := by unfold Hid ltsT strs; rw [List.take_add_one, hl, List.map_append, List.map_append]; rfl
      unfold maxLen at q2
      clear q4 hci ho hl
      go_wp2_with fail
      go_loopg [4, 6, 7] l.length (fun q s4 s6 s7 wx => ∃ (j : Nat), j + q = l.length ∧ s7 = .int .i64 (j : Int) ∧ s4 = .int .i64 (((m + j) * 2 : Nat) : Int) ∧ wx.ownsRow Wr.heap.size 9 1 s6 j (ptsT l j) ∧ Hid (Below Wr.heap.size Wr wx))
      case atStart => exact ⟨0, by omega, rfl, rfl, World.ownsRow_nil _ _ _ _, Below.refl _ _⟩
      case round =>
        obtain ⟨j, hjq, rfl, rfl, hown6, Hb6⟩ := hrel
        obtain ⟨av6, capv6, rfl⟩ := own_form hown6
        have hsz6 := Hb6.out.size
        have hbw6 := Lib.hid (hbw.out.trans (Hb6.out.mono hbw.out.size))
        have B2 := HB0.out.call (Hb.out.trans (Hb6.out.mono hszr))
        have d2 := B2.cell (j := 2) rfl
        have d3 := B2.cell (j := 3) rfl
        have z1 : wr.cell? ⟨g1, o1 + i, none⟩ = some (.int .i64 (l.length : Int)) := keepc hbw6.out q3 y1'
        have hHb := Lib.hid (Hb.out.trans (Hb6.out.mono hszr))
        clear B2 b2 b3 c2 c3 y1
        cases gk with
        | zero =>
          have hjl : j = l.length := by omega
          have hmap6 : ptsT l j = strs (l.map Wk.pairT) := by unfold ptsT; rw [hjl, List.take_length]
          rw [hmap6] at hown6
          have hrd := Lib.hid (RdC.own hown6)
          have hl9 : l.length ≤ 1000000000 := Nat.le_trans (Wk.pairs_len l) Hpl.out
          have Hjl := Lib.hid hjl
          have hown0 := own_call hown Hb6.out
          clear hown6 hmap6 hjl hown
          have hlt : ¬ (j < l.length) := by have := Hjl.out; omega
          go_wp2_with fail
          refine (rjoined_any _ (l.map Wk.pairT) wr (by rw [List.length_map, ← Hjl.out]; exact hrd.out) (by rw [List.length_map]; exact hl9) (Nat.le_trans (Wk.joined_le _) Hpl.out)).mono ?_
          rintro e w5 ⟨rfl, hb5⟩
          have hown5 := own_call hown0 hb5
          have hb5' : Hid (Below W0.heap.size W0 w5) := hHb.out.trans (hb5.mono hHb.out.size)
          have hsz5 := hb5'.out.size
          clear hb5 hown0
          go_wp2_with (at_builtin; refine wpList_append2 _ rfl _ _ 76 rfl W0.heap.size 9 (.string ⟨#[]⟩) 1 16 Try.underlying76 info_str rfl (by decide) (.slice av i capv) i _ rfl (hown5.alloc _) _ _ 1 [str (Wk.joined (l.map Wk.pairT))] rfl (reads_new _ _ _ 1 1 (by decide) (by decide)) rfl ?c2 ?c3 ?c4 ?c5 ?_)
          case c2 => simp [Value.oneCell']
          case c3 => unfold maxLen; omega
          case c4 => omega
          case c5 => simp; omega
          intro v' w2 hown2 hgrow hmov
          obtain ⟨a2, cap2, rfl⟩ := own_form hown2
          have hb2 : Hid (Below W0.heap.size W0 w2) := (hb5'.out.alloc hb5'.out.size _).grown hgrow (by simp; omega) (fun j e => (hown5.lt j e).1)
          have Hown : Hid (w2.ownsRow W0.heap.size 9 1 (.slice a2 (i + 1) cap2) (i + 1) (ltsT g.lists (i + 1))) := by
            unfold Hid; rw [hmap.out]; exact hown2
          have Hmj : Hid (m + j = (g.lists.take (i + 1)).flatten.length) := by unfold Hid; rw [← Hm2.out, Hjl.out]
          clear hown2 hgrow hmov hown5
          go_wp2_with fail
          go_roundg q
          case measure => omega
          case rel => exact ⟨i + 1, m + j, by omega, by first | rfl | simp, rfl, Hmj.out, Hown.out, hb2⟩
        | succ q2 =>
          have hjl : j < l.length := by omega
          obtain ⟨p, hpj⟩ : ∃ p, l[j]? = some p := ⟨_, List.getElem?_eq_getElem hjl⟩
          have hpf := pair_at2 _ _ _ _ _ Hl.out hpj
          rw [← Hm.out] at hpf
          obtain ⟨r1, r2⟩ := flat_at2 _ _ _ hpf
          have hs1 := strs_at _ _ _ r1
          have hs2 := strs_at _ _ _ r2
          obtain ⟨a', c', e', _, ho⟩ := Hp.out
          cases e'
          obtain ⟨g4, o4, rfl, hp1, hp2, hp3, hp4⟩ := ho (fun e => by rw [e] at hs1; cases hs1)
          have x1 : wr.cell? ⟨g4, o4 + (m + j) * 2, none⟩ = some (.string ⟨p.1.toArray⟩) := keepc hbw6.out hp3 (hp4 _ _ hs1)
          have x2 : wr.cell? ⟨g4, o4 + ((m + j) * 2 + 1), none⟩ = some (.string ⟨p.2.toArray⟩) := keepc hbw6.out hp3 (hp4 _ _ hs2)
          have hmjn : m + j < np := by omega
          obtain ⟨mj, hmj⟩ : ∃ mj, mj = (m + j) * 2 := ⟨_, rfl⟩
          have hmj2 : ((m + (j + 1)) * 2 : Nat) = mj + 2 := by omega
          rw [← hmj] at x1 x2 ⊢
          have hmjn2 : mj + 1 < np * 2 := by omega
          have Hmj2 := Lib.hid hmj2
          have hpp : p.1.length + 1 + p.2.length ≤ 1000000000 := by
            have h1 := Wk.mem_joined (l.map Wk.pairT) _ (List.mem_map_of_mem (List.mem_of_getElem? hpj))
            have h2 : (Wk.pairT p).length = p.1.length + (p.2.length + 1) := by unfold Wk.pairT; simp
            have := Hpl.out; unfold Wk.pairsT at this; omega
          have Hpt : Hid (({ data := p.1.toArray } ++ { data := #[32] } ++ { data := p.2.toArray } : ByteArray) = ⟨(Wk.pairT p).toArray⟩) := ba_ext (by simp [Wk.pairT])
          have hmapj : Hid (ptsT l (j + 1) = ptsT l j ++ [str (Wk.pairT p)]) := by unfold Hid ptsT strs; rw [List.take_add_one, hpj, List.map_append, List.map_append]; rfl
          unfold maxLen at hp2
          clear hp4 ho hs1 hs2 r1 r2 hpf hpj hmj hmj2
          go_wp2_with fail
          have k6 : ¬ (9223372036854775807 < List.length p.1 + 1) := by omega
          have k13 : ¬ (9223372036854775807 < List.length p.1 + 1 + List.length p.2) := by omega
          have i1 : (0 : Int) ≤ (mj : Int) + 1 := by omega
          have i2 : (mj : Int) + 1 < (np : Int) * 2 := by omega
          have i3 : mj < np * 2 := by omega
          have i4 : (mj : Int) < (np : Int) * 2 := by omega
          have i5 : IntKind.i64.wrap ((mj : Int) + 1) = (mj : Int) + 1 := IntWalk.i64_in _ ⟨by omega, by omega⟩
          have hownD : wr.drew.ownsRow Wr.heap.size 9 1 (.slice av6 j capv6) j (ptsT l j) := hown6
          go_region_held3 (fun w' => w'.cell? ⟨w.heap.size, 2, none⟩ = some (.slice (some ⟨g4, o4, none⟩) (np * 2) pc) ∧ w'.cell? ⟨g4, o4 + mj, none⟩ = some (.string ⟨p.1.toArray⟩) ∧ w'.cell? ⟨g4, o4 + (mj + 1), none⟩ = some (.string ⟨p.2.toArray⟩)) (first | exact ⟨d2, x1, x2⟩ | exact ⟨keepc hx2 (by omega) d2, keepc hx2 (by omega) x1, keepc hx2 (by omega) x2⟩ | go_keep)
            ((refine step_append2 _ (by rfl) _ _ 76 rfl Wr.heap.size 9 (.string ⟨#[]⟩) 1 16 Try.underlying76 info_str rfl (by decide) (.slice av6 j capv6) j _ rfl (hownD.alloc _) _ _ 1 [.string ((⟨p.1.toArray⟩ : ByteArray) ++ (⟨#[32]⟩ : ByteArray) ++ (⟨p.2.toArray⟩ : ByteArray))] rfl (reads_new _ _ _ 1 1 (by decide) (by decide)) rfl (by simp [Value.oneCell']) (by unfold maxLen; omega) (by omega) (by simp; omega) ?_; intro v' w2 hown2 hgrow hmov; have hx2 : Below W0.heap.size wr w2 := ((Below.refl W0.heap.size wr).drew.alloc (by show W0.heap.size ≤ wr.heap.size; omega) _).grown hgrow (by simp; omega) (fun j e => by have := (hownD.lt j e).1; omega); obtain ⟨a2, cap2, rfl⟩ := own_form hown2))
          have hb2 : Hid (Below Wr.heap.size Wr w2) := ((Hb6.out.drew).alloc (by show Wr.heap.size ≤ wr.heap.size; omega) _).grown hgrow (by simp; omega) (fun j e => by have := (hownD.lt j e).1; omega)
          rw [Hpt.out] at hown2
          have Hown : Hid (w2.ownsRow Wr.heap.size 9 1 (.slice a2 (j + 1) cap2) (j + 1) (ptsT l (j + 1))) := by
            unfold Hid; rw [hmapj.out]; exact hown2
          have hmj3 : ((mj : Int) + 2) = (((m + (j + 1)) * 2 : Nat) : Int) := by rw [Hmj2.out]; omega
          have Hmj3 := Lib.hid hmj3
          clear hown2 hgrow hmov hown6 hownD hmj3 i1 i2 i3 i4 i5 k6 k13
          go_wp2_with fail
          go_roundg q2
          case measure => omega
          case rel => exact ⟨j + 1, by omega, by first | rfl | simp, by rw [Hmj3.out], Hown.out, hb2⟩
end Go.Proofs.Ytegkdkilbnighaa

set_option linter.unusedVariables false
set_option linter.unusedSimpArgs false
namespace Go.Proofs.Ytegkdkilbnighaa
open Go.RowKit Go.Rg
attribute [local go_sem] Oper.semAt_some

set_option maxRecDepth 100000 in
set_option maxHeartbeats 8000000 in
theorem rbody_any (g : Wk.Geo) (pv cv sv : Value) (w : World) (h : RgC w pv cv sv g) (h1 : Wk.OneG g) (h7 : g.kind ≠ 7) (hP : g.lists.flatten.length ≤ 1000000000) (hn : g.lists.length ≤ 1000000000) (hz : g.sizes.length ≤ 1000000000) (hll : ∀ l ∈ g.lists, (Wk.pairsT l).length ≤ 1000000000) (hlen : (Wk.bodyT g).length ≤ 1000000000) :
    Calls Try.prog 29 #[rgV2 g pv cv sv] w fun e w' => e = .returned (str (Wk.bodyT g)) ∧ Below w.heap.size w w' := by
  have Hcl : Hid (∀ X, Below w.heap.size w X → Calls Try.prog 66 #[rgV2 g pv cv sv] X fun e w' => ∃ v, e = .returned v ∧ RdC w' v g.lists.length (strs (g.lists.map Wk.pairsT)) ∧ Below X.heap.size X w') := fun X hX => rlists_any g pv cv sv X (h.call hX) hP hn hll
  obtain ⟨hp, hc, hs⟩ := h
  obtain ⟨pa, pc, rfl, hpm⟩ := hp.form
  obtain ⟨ca, cc, rfl, hcm⟩ := hc.form
  obtain ⟨sa, sc, rfl, hsm⟩ := hs.form
  obtain ⟨n, hnn⟩ : ∃ n, n = g.lists.length := ⟨_, rfl⟩
  obtain ⟨nz, hnz⟩ : ∃ nz, nz = g.sizes.length := ⟨_, rfl⟩
  obtain ⟨np, hnp⟩ : ∃ np, np = g.lists.flatten.length := ⟨_, rfl⟩
  obtain ⟨kk, hkk⟩ : ∃ kk : Int, kk = (g.kind : Int) := ⟨_, rfl⟩
  obtain ⟨lev, hlev⟩ : ∃ lev : Int, lev = (g.level : Int) := ⟨_, rfl⟩
  have hk6 : 1 ≤ kk ∧ kk ≤ 6 := by have := h1.1; have := h1.2.1; omega
  unfold rgV2 at Hcl ⊢
  rw [← hkk, ← hlev, ← hnn, ← hnp, ← hnz] at Hcl
  rw [← hkk, ← hlev, ← hnn, ← hnp, ← hnz]
  rw [← hnn] at hn hcm
  rw [← hnz] at hz hs hsm
  rw [← hnp] at hpm
  have Hn := Lib.hid hnn
  have Hnz := Lib.hid hnz
  have Hs := Lib.hid hs
  have Hlen := Lib.hid hlen
  have Hkk := Lib.hid hkk
  have Hone := Lib.hid h1
  clear hnn hnp hp hc hs hlen hkk hlev hnz h7 h1 hll hP
  unfold maxLen at hpm hcm hsm
  obtain ⟨W0, hW0⟩ : ∃ W0, w.alloc (.cells #[.int .i64 kk, .int .i64 lev, .slice pa (np * 2) pc, .slice ca n cc, .slice sa nz sc] 78) = W0 := ⟨_, rfl⟩
  have B0 : Blk W0 w.heap.size [.int .i64 kk, .int .i64 lev, .slice pa (np * 2) pc, .slice ca n cc, .slice sa nz sc] 78 := hW0 ▸ Blk.new w _ _
  have hBel : Below w.heap.size w W0 := hW0 ▸ (Below.refl _ w).alloc (Nat.le_refl _) _
  have hz0 : w.heap.size + 1 ≤ W0.heap.size := by rw [← hW0, World.size_alloc]; exact Nat.le_refl _
  obtain ⟨b0, b1, b2, b3, b4⟩ := cells5 B0
  have HB0 := Lib.hid B0
  have HBel := Lib.hid hBel
  clear B0 hBel
  go_enter Try.func29, Try.ntmps29
  go_wp2_with fail
  refine (Hcl.out W0 HBel.out).mono ?_
  rintro e w1 ⟨v, rfl, hv, hb1⟩
  have B1 := HB0.out.call hb1
  obtain ⟨c0, _, _, _, c4⟩ := cells5 B1
  have HB1 := Lib.hid B1
  obtain ⟨a, c, rfl, hm⟩ := hv.form
  have Hv := Lib.hid hv
  have hbw := Lib.hid (HBel.out.trans (hb1.mono HBel.out.size))
  have hs1 : W0.heap.size ≤ w1.heap.size := hb1.size
  clear hv hb1 B1 b0 b1 b2 b3 b4 Hcl
  unfold maxLen at hm
  by_cases h12 : kk ≤ 2
  · have hb : Wk.bodyT g = match g.lists with | [] => Wk.emptyWord | x :: _ => Wk.pairsT x := by
      have hg : g.kind = 1 ∨ g.kind = 2 := by have := Hkk.out; omega
      unfold Wk.bodyT; rw [if_pos hg]; rfl
    have Hb := Lib.hid hb
    clear hb
    rcases Nat.eq_zero_or_pos n with rfl | hpos
    · have hl0 : g.lists = [] := List.eq_nil_of_length_eq_zero Hn.out.symm
      have Hb2 : Hid (Wk.bodyT g = Wk.emptyWord) := by unfold Hid; rw [Hb.out, hl0]
      have hg0 : g.lists.length = 0 := Hn.out.symm
      clear hl0
      go_wp2_with fail
      go_ret
      exact ⟨by rw [Hb2.out]; rfl, hbw.out⟩
    · have hn0 : ((n : Int) == 0) = false := by rw [beq_eq_false_iff_ne]; omega
      obtain ⟨l, hl⟩ : ∃ l, g.lists[0]? = some l := ⟨_, List.getElem?_eq_getElem (by rw [← Hn.out]; exact hpos)⟩
      have Hb2 : Hid (Wk.bodyT g = Wk.pairsT l) := by
        unfold Hid; rw [Hb.out]
        cases hg : g.lists with
        | nil => rw [hg] at hl; cases hl
        | cons x r => rw [hg] at hl; cases hl; rfl
      have hs0 := strs_at (g.lists.map Wk.pairsT) 0 (Wk.pairsT l) (by rw [List.getElem?_map, hl]; rfl)
      obtain ⟨a', c', e', _, ho⟩ := Hv.out
      cases e'
      obtain ⟨g1, o1, rfl, q1, q2, q3, q4⟩ := ho (fun e => by rw [e] at hs0; cases hs0)
      have y1 : w1.cell? ⟨g1, o1, none⟩ = some (str (Wk.pairsT l)) := q4 0 _ hs0
      unfold maxLen at q2
      clear q4 hs0 hl ho
      go_wp2_with fail
      go_ret
      exact ⟨by rw [Hb2.out]; rfl, hbw.out⟩
  · by_cases h6 : kk < 6
    · have hb : Wk.bodyT g = Wk.listsT g.lists := by
        have := Hkk.out
        unfold Wk.bodyT; rw [if_neg (by omega), if_neg (by omega)]
      have Hb := Lib.hid hb
      have Hj : Hid ((Wk.join (g.lists.map Wk.pairsT)).length ≤ 1000000000) := Nat.le_trans (Wk.joined_le _) (by have := Hlen.out; rw [hb] at this; exact this)
      clear hb
      go_wp2_with fail
      refine (rjoined_any _ (g.lists.map Wk.pairsT) w1 (by rw [List.length_map, ← Hn.out]; exact Hv.out) (by rw [List.length_map, ← Hn.out]; exact hn) Hj.out).mono ?_
      rintro e w5 ⟨rfl, hb5⟩
      go_wp2_with fail
      go_ret
      exact ⟨by rw [Hb.out]; rfl, hbw.out.trans (hb5.mono hbw.out.size)⟩
    · have hk : kk = 6 := by omega
      have hg6 : g.kind = 6 := by have := Hkk.out; omega
      have hsum : g.sizes.sum = n := by rw [Hn.out]; exact Hone.out.2.2.2.2.2.2.1 hg6
      have hb : Wk.bodyT g = Wk.joined ((Wk.parts g.sizes g.lists).map Wk.listsT) := by
        unfold Wk.bodyT; rw [hg6]; rfl
      have Hb := Lib.hid hb
      have Hsum := Lib.hid hsum
      have Hp : Hid (∀ l ∈ Wk.parts g.sizes g.lists, (Wk.listsT l).length ≤ 1000000000) := fun l hl => Nat.le_trans (by rw [hb]; exact Wk.mem_joined _ _ (List.mem_map_of_mem hl)) Hlen.out
      have Hk := Lib.hid hk
      clear hb hsum hk hg6
      go_wp2_with fail
      go_loopg [4, 5, 6] nz (fun q s4 s5 s6 wx => ∃ (i d : Nat), i + q = nz ∧ s6 = .int .i64 (i : Int) ∧ s5 = .int .i64 (d : Int) ∧ Hid (d = (g.sizes.take i).sum) ∧ wx.ownsRow w1.heap.size 9 1 s4 i (ptT g.sizes g.lists i) ∧ Hid (Below w1.heap.size w1 wx))
      case atStart => exact ⟨0, 0, by omega, rfl, rfl, rfl, World.ownsRow_nil _ _ _ _, Below.refl _ _⟩
      case round =>
        obtain ⟨i, d, hiq, rfl, rfl, Hd, hown, Hbx⟩ := hrel
        obtain ⟨av, capv, rfl⟩ := own_form hown
        have hszx := Hbx.out.size
        have hbx := Lib.hid (hbw.out.trans (Hbx.out.mono hbw.out.size))
        have B2 := HB1.out.call Hbx.out
        obtain ⟨d0, d1, d2, d3, d4⟩ := cells5 B2
        clear B2 c0 c4
        cases gk with
        | zero =>
          have hin : i = nz := by omega
          subst hin
          have hmap : ptT g.sizes g.lists i = strs ((Wk.parts g.sizes g.lists).map Wk.listsT) := by unfold ptT; rw [Hnz.out, ← Wk.parts_len g.sizes g.lists, List.take_length]
          have hpl : (Wk.parts g.sizes g.lists).length = i := by rw [Wk.parts_len]; exact Hnz.out.symm
          rw [hmap] at hown
          have hrd := Lib.hid (RdC.own hown)
          have Hpl := Lib.hid hpl
          have Hj : Hid ((Wk.join ((Wk.parts g.sizes g.lists).map Wk.listsT)).length ≤ 1000000000) := Nat.le_trans (Wk.joined_le _) (by rw [← Hb.out]; exact Hlen.out)
          clear hown hmap hpl
          go_wp2_with fail
          refine (rjoined_any _ ((Wk.parts g.sizes g.lists).map Wk.listsT) wr (by rw [List.length_map, Hpl.out]; exact hrd.out) (by rw [List.length_map, Hpl.out]; exact hz) (Hj.out)).mono ?_
          rintro e w5 ⟨rfl, hb5⟩
          go_wp2_with fail
          go_ret
          exact ⟨by rw [Hb.out]; rfl, hbx.out.trans (hb5.mono hbx.out.size)⟩
        | succ q =>
          have hin : i < nz := by omega
          obtain ⟨m, hm⟩ : ∃ m, g.sizes[i]? = some m := ⟨_, List.getElem?_eq_getElem (by rw [← Hnz.out]; exact hin)⟩
          obtain ⟨a', c', e', _, ho⟩ := Hs.out
          cases e'
          have hmi : (intsN g.sizes)[i]? = some (.int .i64 (m : Int)) := by unfold intsN; rw [List.getElem?_map, hm]; rfl
          obtain ⟨g1, o1, rfl, q1, q2, q3, q4⟩ := ho (fun e => by rw [e] at hmi; cases hmi)
          have y1' : w.cell? ⟨g1, o1 + i, none⟩ = some (.int .i64 (m : Int)) := q4 _ _ hmi
          have y1 : wr.cell? ⟨g1, o1 + i, none⟩ = some (.int .i64 (m : Int)) := keepc hbx.out q3 y1'
          unfold maxLen at q2
          have hts := take_sum _ _ _ hm
          have htl := take_sum_le g.sizes (i + 1)
          rw [hts, ← Hd.out, Hsum.out] at htl
          have hpa := Wk.parts_at g.sizes g.lists i m hm
          rw [← Hd.out] at hpa
          have hmem := List.mem_of_getElem? hpa
          have Hpl := Lib.hid (Hp.out _ hmem)
          have hmap : Hid (ptT g.sizes g.lists (i + 1) = ptT g.sizes g.lists i ++ [str (Wk.listsT ((g.lists.drop d).take m))]) := by unfold Hid ptT strs; rw [List.take_add_one, hpa, List.map_append, List.map_append]; rfl
          have hLl : ((g.lists.drop d).take m).length = m := by rw [List.length_take, List.length_drop, ← Hn.out]; omega
          have HLl := Lib.hid hLl
          have hsl : (strs (g.lists.map Wk.pairsT)).length = n := by unfold strs; rw [List.length_map, List.length_map]; exact Hn.out.symm
          have hr1 := (Hv.out.drop hsl d (by omega)).take (by rw [List.length_drop, hsl]) m (by omega)
          have hst : ((strs (g.lists.map Wk.pairsT)).drop d).take m = strs (((g.lists.drop d).take m).map Wk.pairsT) := by unfold strs; simp only [List.map_drop, List.map_take]
          rw [hst] at hr1
          have Hr1 := Lib.hid (hr1.call Hbx.out)
          have Hd2 : Hid (d + m = (g.sizes.take (i + 1)).sum) := by unfold Hid; rw [hts, ← Hd.out]
          have hcap : (d : Int) + (m : Int) ≤ (c : Int) ∨ n = 0 := by
            rcases Nat.eq_zero_or_pos n with h | h
            · right; exact h
            · left
              obtain ⟨a', c', e', _, ho⟩ := Hv.out
              cases e'
              have := (ho (fun e => by rw [e] at hsl; simp at hsl; omega)).choose_spec.choose_spec.2.1
              omega
          have hcap2 : (d : Int) + (m : Int) ≤ (c : Int) := by
            rcases hcap with h | h
            · exact h
            · omega
          have hHb := Lib.hid Hbx.out
          clear q4 hmi hm ho hpa hmem hts hLl hsl hr1 hst hcap
          by_cases hcd : c = d
          · subst hcd
            have hm0 : m = 0 := by omega
            subst hm0
            rw [if_pos rfl] at Hr1
            simp only [Nat.sub_self] at Hr1
            go_wp2_with fail
            refine (rjoined_any _ (((g.lists.drop c).take 0).map Wk.pairsT) wr (by rw [List.length_map, HLl.out]; exact Hr1.out) (by rw [List.length_map, HLl.out]; omega) (Nat.le_trans (Wk.joined_le _) Hpl.out)).mono ?_
            rintro e w5 ⟨he, hb5⟩
            have he2 : e = .returned (str (Wk.listsT ((g.lists.drop c).take 0))) := he
            subst he2
            clear he
            have hown5 := own_call hown hb5
            have hb5' : Hid (Below w1.heap.size w1 w5) := hHb.out.trans (hb5.mono hszx)
            have hsz5 := hb5'.out.size
            have hbx5 := hHb.out.trans (hb5.mono hszx)
            have B5 := HB1.out.call hbx5
            obtain ⟨f0, f1, f2, f3, f4⟩ := cells5 B5
            have y5 : w5.cell? ⟨g1, o1 + i, none⟩ = some (.int .i64 ((0 : Nat) : Int)) := keepc (hbw.out.trans (hbx5.mono hbw.out.size)) q3 y1'
            have HB1' := HB1
            clear hown hb5 B5 hbx5
            go_wp2_with (at_builtin; refine wpList_append2 _ rfl _ _ 76 rfl w1.heap.size 9 (.string ⟨#[]⟩) 1 16 Try.underlying76 info_str rfl (by decide) (.slice av i capv) i _ rfl (hown5.alloc _) _ _ 1 [str (Wk.listsT ((g.lists.drop c).take 0))] rfl (reads_new _ _ _ 1 1 (by decide) (by decide)) rfl ?c2 ?c3 ?c4 ?c5 ?_)
            case c2 => simp [Value.oneCell']
            case c3 => unfold maxLen; omega
            case c4 => omega
            case c5 => simp; omega
            intro v' w2 hown2 hgrow hmov
            obtain ⟨a2, cap2, rfl⟩ := own_form hown2
            have hb2 : Hid (Below w1.heap.size w1 w2) := (hb5'.out.alloc hb5'.out.size _).grown hgrow (by simp; omega) (fun j e => (hown5.lt j e).1)
            have Hown : Hid (w2.ownsRow w1.heap.size 9 1 (.slice a2 (i + 1) cap2) (i + 1) (ptT g.sizes g.lists (i + 1))) := by
              unfold Hid; rw [hmap.out]; exact hown2
            have B6 := HB1.out.call hb2.out
            obtain ⟨h0, h1', h2', h3', h4'⟩ := cells5 B6
            have y6 : w2.cell? ⟨g1, o1 + i, none⟩ = some (.int .i64 ((0 : Nat) : Int)) := keepc (hbw.out.trans (hb2.out.mono hbw.out.size)) q3 y1'
            clear hown2 hgrow hmov hown5 B6
            go_wp2_with fail
            go_roundg q
            case measure => omega
            case rel => exact ⟨i + 1, c, by omega, by first | rfl | simp, by first | rfl | simp, Hd2, Hown.out, hb2⟩
          · rw [if_neg hcd] at Hr1
            go_wp2_with fail
            refine (rjoined_any _ (((g.lists.drop d).take m).map Wk.pairsT) wr (by rw [List.length_map, HLl.out]; exact Hr1.out) (by rw [List.length_map, HLl.out]; omega) (Nat.le_trans (Wk.joined_le _) Hpl.out)).mono ?_
            rintro e w5 ⟨he, hb5⟩
            have he2 : e = .returned (str (Wk.listsT ((g.lists.drop d).take m))) := he
            subst he2
            clear he
            have hown5 := own_call hown hb5
            have hb5' : Hid (Below w1.heap.size w1 w5) := hHb.out.trans (hb5.mono hszx)
            have hsz5 := hb5'.out.size
            have hbx5 := hHb.out.trans (hb5.mono hszx)
            have B5 := HB1.out.call hbx5
            obtain ⟨f0, f1, f2, f3, f4⟩ := cells5 B5
            have y5 : w5.cell? ⟨g1, o1 + i, none⟩ = some (.int .i64 (m : Int)) := keepc (hbw.out.trans (hbx5.mono hbw.out.size)) q3 y1'
            have HB1' := HB1
            clear hown hb5 B5 hbx5
            go_wp2_with (at_builtin; refine wpList_append2 _ rfl _ _ 76 rfl w1.heap.size 9 (.string ⟨#[]⟩) 1 16 Try.underlying76 info_str rfl (by decide) (.slice av i capv) i _ rfl (hown5.alloc _) _ _ 1 [str (Wk.listsT ((g.lists.drop d).take m))] rfl (reads_new _ _ _ 1 1 (by decide) (by decide)) rfl ?c2 ?c3 ?c4 ?c5 ?_)
            case c2 => simp [Value.oneCell']
            case c3 => unfold maxLen; omega
            case c4 => omega
            case c5 => simp; omega
            intro v' w2 hown2 hgrow hmov
            obtain ⟨a2, cap2, rfl⟩ := own_form hown2
            have hb2 : Hid (Below w1.heap.size w1 w2) := (hb5'.out.alloc hb5'.out.size _).grown hgrow (by simp; omega) (fun j e => (hown5.lt j e).1)
            have Hown : Hid (w2.ownsRow w1.heap.size 9 1 (.slice a2 (i + 1) cap2) (i + 1) (ptT g.sizes g.lists (i + 1))) := by
              unfold Hid; rw [hmap.out]; exact hown2
            have B6 := HB1.out.call hb2.out
            obtain ⟨h0, h1', h2', h3', h4'⟩ := cells5 B6
            have y6 : w2.cell? ⟨g1, o1 + i, none⟩ = some (.int .i64 (m : Int)) := keepc (hbw.out.trans (hb2.out.mono hbw.out.size)) q3 y1'
            clear hown2 hgrow hmov hown5 B6
            go_wp2_with fail
            go_roundg q
            case measure => omega
            case rel => exact ⟨i + 1, d + m, by omega, by first | rfl | simp, by first | rfl | simp, Hd2, Hown.out, hb2⟩
end Go.Proofs.Ytegkdkilbnighaa

set_option linter.unusedVariables false
set_option linter.unusedSimpArgs false
namespace Go.Proofs.Ytegkdkilbnighaa
open Go.RowKit Go.Rg
attribute [local go_sem] Oper.semAt_some

def RsC (w : World) (cs : List Value) (gs : List Wk.Geo) : Prop := ∀ (i : Nat) (g : Wk.Geo), gs[i]? = some g → ∃ pv cv sv, cs[i * 5]? = some (.int .i64 (g.kind : Int)) ∧ cs[i * 5 + 1]? = some (.int .i64 (g.level : Int)) ∧ cs[i * 5 + 2]? = some pv ∧ cs[i * 5 + 3]? = some cv ∧ cs[i * 5 + 4]? = some sv ∧ RgC w pv cv sv g
theorem RsC.call {w w' : World} {cs : List Value} {gs : List Wk.Geo} (h : RsC w cs gs) (hb : Below w.heap.size w w') : RsC w' cs gs := fun i g hg => by
  obtain ⟨pv, cv, sv, h1, h2, h3, h4, h5, h6⟩ := h i g hg; exact ⟨pv, cv, sv, h1, h2, h3, h4, h5, h6.call hb⟩
theorem RsC.of {w : World} : ∀ {gs : List Wk.Geo} {cs : List Value}, rdsR w cs (gs.map Wk.toR) → RsC w cs gs
  | [], cs, _ => fun i g h => by cases h
  | x :: gs, cs, ⟨pv, cv, sv, ds, e, h1, h2⟩ => fun i g h => by
    subst e
    cases i with
    | zero => cases h; exact ⟨pv, cv, sv, rfl, rfl, rfl, rfl, rfl, .of h1⟩
    | succ i =>
      have := RsC.of h2 i g h
      obtain ⟨pv', cv', sv', q1, q2, q3, q4, q5, q6⟩ := this
      have e : (i + 1) * 5 = i * 5 + 1 + 1 + 1 + 1 + 1 := by omega
      rw [e]
      exact ⟨pv', cv', sv', q1, q2, q3, q4, q5, q6⟩
theorem rs_at {w : World} {a : Option Addr} {n c : Nat} {cs : List Value} {l : List Wk.Geo} (h : RdC w (.slice a n c) n cs) (hg : RsC w cs l) (i : Nat) (g : Wk.Geo) (hi : l[i]? = some g) :
    ∃ g1 o1 pv cv sv, a = some ⟨g1, o1, none⟩ ∧ n ≤ c ∧ c ≤ 9223372036854775807 ∧ RgC w pv cv sv g ∧ g1 < w.heap.size ∧
      w.cell? ⟨g1, o1 + i * 5, none⟩ = some (.int .i64 (g.kind : Int)) ∧ w.cell? ⟨g1, o1 + i * 5 + 1, none⟩ = some (.int .i64 (g.level : Int)) ∧ w.cell? ⟨g1, o1 + i * 5 + 2, none⟩ = some pv ∧ w.cell? ⟨g1, o1 + i * 5 + 3, none⟩ = some cv ∧ w.cell? ⟨g1, o1 + i * 5 + 4, none⟩ = some sv := by
  obtain ⟨pv, cv, sv, h1, h2, h3, h4, h5, h6⟩ := hg i g hi
  obtain ⟨a', c', e, _, ho⟩ := h
  cases e
  obtain ⟨g1, o1, rfl, q1, q2, q3, q4⟩ := ho (fun e => by rw [e] at h1; simp at h1)
  exact ⟨g1, o1, pv, cv, sv, rfl, q1, q2, h6, q3, q4 _ _ h1, by have := q4 _ _ h2; rwa [← Nat.add_assoc] at this, by have := q4 _ _ h3; rwa [← Nat.add_assoc] at this, by have := q4 _ _ h4; rwa [← Nat.add_assoc] at this, by have := q4 _ _ h5; rwa [← Nat.add_assoc] at this⟩
/-- no part is longer than may be -/
def Bnd (g : Wk.Geo) : Prop := g.lists.flatten.length ≤ 1000000000 ∧ g.lists.length ≤ 1000000000 ∧ g.sizes.length ≤ 1000000000 ∧ (∀ l ∈ g.lists, (Wk.pairsT l).length ≤ 1000000000) ∧ (Wk.bodyT g).length ≤ 1000000000
theorem words_eq : ([.string ⟨#[]⟩, .string ⟨#[80, 79, 73, 78, 84]⟩, .string ⟨#[76, 73, 78, 69, 83, 84, 82, 73, 78, 71]⟩, .string ⟨#[80, 79, 76, 89, 71, 79, 78]⟩, .string ⟨#[77, 85, 76, 84, 73, 80, 79, 73, 78, 84]⟩, .string ⟨#[77, 85, 76, 84, 73, 76, 73, 78, 69, 83, 84, 82, 73, 78, 71]⟩, .string ⟨#[77, 85, 76, 84, 73, 80, 79, 76, 89, 71, 79, 78]⟩, .string ⟨#[71, 69, 79, 77, 69, 84, 82, 89, 67, 79, 76, 76, 69, 67, 84, 73, 79, 78]⟩] : List Value) = strs Wk.names := rfl

set_option maxRecDepth 100000 in
set_option maxHeartbeats 8000000 in
theorem rwrite_any (gs : List Wk.Geo) (hR : Wk.RightG gs) (hbn : ∀ g ∈ gs, Bnd g) (hn : gs.length ≤ 1000000000) (hlen : (Wk.write gs).length ≤ 1000000000) (v : Value) (cs : List Value) : ∀ (fu at_ : Nat) (w : World), at_ < gs.length → gs.length - at_ ≤ fu → RdC w v gs.length cs → RsC w cs gs →
    Calls Try.prog 12 #[v, .int .i64 (at_ : Int)] w fun e w' => e = .returned (.tuple #[str (Wk.D (gs.drop at_)).1, .int .i64 ((Wk.plc gs (Wk.D (gs.drop at_)).2 : Nat) : Int)]) ∧ Below w.heap.size w w' := by
  intro fu
  induction fu with
  | zero => intro at_ w h1 h2; omega
  | succ fu ih =>
  intro at_ w hat hfu h hg
  obtain ⟨a, c, rfl, hm⟩ := h.form
  obtain ⟨n, hnn⟩ : ∃ n, n = gs.length := ⟨_, rfl⟩
  have Hn := Lib.hid hnn
  have IH := Lib.hid ih
  rw [← hnn] at h hm hn hat hfu IH ⊢
  obtain ⟨g, hgi⟩ : ∃ g, gs[at_]? = some g := ⟨_, List.getElem?_eq_getElem (by rw [← hnn]; exact hat)⟩
  obtain ⟨g1, o1, pv, cv, sv, rfl, q1, q2, hB, q3, y0, y1, y2, y3, y4⟩ := rs_at h hg at_ g hgi
  have HB := Lib.hid hB
  obtain ⟨k1, k2, k3⟩ := hB
  obtain ⟨pa, pc, rfl, _⟩ := k1.form
  obtain ⟨ca, cc, rfl, _⟩ := k2.form
  obtain ⟨sa, sc, rfl, _⟩ := k3.form
  clear k1 k2 k3
  have hgm := List.mem_of_getElem? hgi
  have hone := hR.1 g hgm
  have hbg := hbn g hgm
  have hD := Wk.D_le gs hR at_ g hgi
  have hDc : Wk.D (gs.drop at_) = if g.kind = 7 then (Wk.nm g.kind ++ (32 :: Wk.joined (Wk.K g.level (gs.drop (at_ + 1))).1), (Wk.K g.level (gs.drop (at_ + 1))).2) else (Wk.nm g.kind ++ (32 :: Wk.bodyT g), gs.drop (at_ + 1)) := by rw [Wk.drop_at hgi, Wk.D_cons]
  obtain ⟨np, hnp⟩ : ∃ np, np = g.lists.flatten.length := ⟨_, rfl⟩
  obtain ⟨nl, hnl⟩ : ∃ nl, nl = g.lists.length := ⟨_, rfl⟩
  obtain ⟨nz, hnz⟩ : ∃ nz, nz = g.sizes.length := ⟨_, rfl⟩
  obtain ⟨kk, hkk⟩ : ∃ kk : Nat, kk = g.kind := ⟨_, rfl⟩
  obtain ⟨lev, hlev⟩ : ∃ lev : Nat, lev = g.level := ⟨_, rfl⟩
  have hk17 : 1 ≤ kk ∧ kk ≤ 7 := by rw [hkk]; exact ⟨hone.1, hone.2.1⟩
  have hnm := Wk.nm_len g.kind
  have Hbody : Hid (∀ X, Below w.heap.size w X → g.kind ≠ 7 → Calls Try.prog 29 #[.agg #[.int .i64 (kk : Int), .int .i64 (lev : Int), .slice pa (np * 2) pc, .slice ca nl cc, .slice sa nz sc]] X fun e w' => e = .returned (str (Wk.bodyT g)) ∧ Below X.heap.size X w') := by
    intro X hX h7
    rw [hkk, hlev, hnp, hnl, hnz]
    exact rbody_any g _ _ _ X (HB.out.call hX) hone h7 hbg.1 hbg.2.1 hbg.2.2.1 hbg.2.2.2.1 hbg.2.2.2.2
  rw [← hkk] at y0
  rw [← hlev] at y1
  rw [← hnp] at y2
  rw [← hnl] at y3
  rw [← hnz] at y4
  have hws : (strs Wk.names)[kk]? = some (str (Wk.nm g.kind)) := by
    refine strs_at _ _ _ ?_
    rw [hkk]; unfold Wk.nm
    rw [List.getD_eq_getElem?_getD]
    have : g.kind < Wk.names.length := by have := hone.2.1; simp [Wk.names]; omega
    rw [List.getElem?_eq_getElem this]; rfl
  obtain ⟨Wd, hWd⟩ : ∃ Wd, w.alloc (.cells #[.string ⟨#[]⟩, .string ⟨#[80, 79, 73, 78, 84]⟩, .string ⟨#[76, 73, 78, 69, 83, 84, 82, 73, 78, 71]⟩, .string ⟨#[80, 79, 76, 89, 71, 79, 78]⟩, .string ⟨#[77, 85, 76, 84, 73, 80, 79, 73, 78, 84]⟩, .string ⟨#[77, 85, 76, 84, 73, 76, 73, 78, 69, 83, 84, 82, 73, 78, 71]⟩, .string ⟨#[77, 85, 76, 84, 73, 80, 79, 76, 89, 71, 79, 78]⟩, .string ⟨#[71, 69, 79, 77, 69, 84, 82, 89, 67, 79, 76, 76, 69, 67, 84, 73, 79, 78]⟩] 9) = Wd := ⟨_, rfl⟩
  have hBd : Blk Wd w.heap.size (strs Wk.names) 9 := by rw [← hWd, ← words_eq]; exact Blk.new w _ _
  have hbd : Below w.heap.size w Wd := hWd ▸ (Below.refl _ w).alloc (Nat.le_refl _) _
  have hzd : Wd.heap.size = w.heap.size + 1 := by rw [← hWd, World.size_alloc]
  obtain ⟨W0, hW0⟩ : ∃ W0, Wd.alloc (.cells #[.int .i64 (kk : Int), .int .i64 (lev : Int), .slice pa (np * 2) pc, .slice ca nl cc, .slice sa nz sc] 78) = W0 := ⟨_, rfl⟩
  have B0 : Blk W0 Wd.heap.size [.int .i64 (kk : Int), .int .i64 (lev : Int), .slice pa (np * 2) pc, .slice ca nl cc, .slice sa nz sc] 78 := hW0 ▸ Blk.new Wd _ _
  have hb0 : Below Wd.heap.size Wd W0 := hW0 ▸ (Below.refl _ Wd).alloc (Nat.le_refl _) _
  have hbw : Below w.heap.size w W0 := hbd.trans (hb0.mono hbd.size)
  have hz0 : w.heap.size + 2 ≤ W0.heap.size := by rw [← hW0, World.size_alloc, hzd]; exact Nat.le_refl _
  rw [hzd] at B0
  have c0 : W0.cell? ⟨w.heap.size, kk, none⟩ = some (str (Wk.nm g.kind)) := (hBd.call hb0).cell hws
  have x0 : Wd.cell? ⟨g1, o1 + at_ * 5, none⟩ = _ := keepc hbd q3 y0
  have x1 : Wd.cell? ⟨g1, o1 + at_ * 5 + 1, none⟩ = _ := keepc hbd q3 y1
  have x2 : Wd.cell? ⟨g1, o1 + at_ * 5 + 2, none⟩ = _ := keepc hbd q3 y2
  have x3 : Wd.cell? ⟨g1, o1 + at_ * 5 + 3, none⟩ = _ := keepc hbd q3 y3
  have x4 : Wd.cell? ⟨g1, o1 + at_ * 5 + 4, none⟩ = _ := keepc hbd q3 y4
  obtain ⟨b0, b1, b2, b3, b4⟩ := cells5 B0
  have HB0 := Lib.hid B0
  have Hbw := Lib.hid hbw
  have Hr := Lib.hid h
  have Hg := Lib.hid hg
  have HR := Lib.hid hR
  have Hgi := Lib.hid hgi
  have HD := Lib.hid hD
  have HDc := Lib.hid hDc
  have Hkk := Lib.hid hkk
  have Hlev := Lib.hid hlev
  have Hlen := Lib.hid hlen
  have hbt : (Wk.bodyT g).length ≤ 1000000000 := hbg.2.2.2.2
  have hn9 : ∀ N : Nat, N ≤ 1000000000 → ¬ (9223372036854775807 < (Wk.nm g.kind).length + 1 + N) := fun N hN => by omega
  clear h hg hR hgi hD hDc hkk hlev hlen B0 hbd hBd hbw hws y0 y1 y2 y3 y4 hnn ih hone hbg hgm hbn hb0 hnp hnl hnz hn9
  unfold maxLen at hm
  go_enter Try.func12, Try.ntmps12
  by_cases h7 : kk = 7
  · have hg7 : g.kind = 7 := by rw [← Hkk.out]; exact h7
    have e7 : ((kk : Int) == 7) = true := by rw [beq_iff_eq]; omega
    have e7' : ((kk : Int) != 7) = false := by rw [bne, e7]; rfl
    have Hg7 := Lib.hid hg7
    have Hk7 := Lib.hid h7
    clear hg7 h7
    have Hres : Hid (Wk.D (gs.drop at_) = (Wk.nm g.kind ++ (32 :: Wk.joined (Wk.K g.level (gs.drop (at_ + 1))).1), (Wk.K g.level (gs.drop (at_ + 1))).2)) := by unfold Hid; rw [HDc.out, if_pos Hg7.out]
    go_wp2_with fail
    go_loopg [9, 10] (n - (at_ + 1)) (fun q s9 s10 wx => ∃ (k : Nat) (ts : List Lx.Str), k + q = n ∧ at_ < k ∧ s10 = .int .i64 (k : Int) ∧ wx.ownsRow W0.heap.size 9 1 s9 ts.length (strs ts) ∧ ts.length ≤ k ∧ Hid (Wk.K g.level (gs.drop (at_ + 1)) = (ts ++ (Wk.K g.level (gs.drop k)).1, (Wk.K g.level (gs.drop k)).2)) ∧ Hid (Below W0.heap.size W0 wx))
    case atStart => exact ⟨at_ + 1, [], by omega, by omega, by first | rfl | simp, World.ownsRow_nil _ _ _ _, by simp, rfl, Below.refl _ _⟩
    case round =>
      obtain ⟨k, ts, hkq, hak, rfl, hown, htl, HK, Hb⟩ := hrel
      obtain ⟨nt, hnt⟩ : ∃ nt, nt = ts.length := ⟨_, rfl⟩
      rw [← hnt] at hown htl
      have Hnt := Lib.hid hnt
      clear hnt
      obtain ⟨av, capv, rfl⟩ := own_form hown
      have hbx := Lib.hid (Hbw.out.trans (Hb.out.mono Hbw.out.size))
      have hszx := Hb.out.size
      have B2 := HB0.out.call Hb.out
      obtain ⟨d0, d1, d2, d3, d4⟩ := cells5 B2
      clear B2 b0 b1 b2 b3 b4 c0
      have hend : Hid (∀ (r : List Wk.Geo), Wk.K g.level (gs.drop (at_ + 1)) = (ts, r) → Wk.plc gs r = k → wr.ownsRow W0.heap.size 9 1 (.slice av nt capv) nt (strs ts) → ∀ X, Below wr.heap.size wr X → Calls Try.prog 30 #[.slice av nt capv] X fun e w' => e = .returned (str (Wk.joined ts)) ∧ Below X.heap.size X w' ∧ Hid (Wk.D (gs.drop at_) = (Wk.nm g.kind ++ (32 :: Wk.joined ts), r)) ∧ (Wk.joined ts).length ≤ 1000000000) := by
        intro r hr hp ho X hX
        have hl : (Wk.joined ts).length ≤ 1000000000 := by
          have := HD.out; rw [Hres.out, hr] at this; have := Hlen.out; simp at *; omega
        refine (rjoined_any _ ts X (by rw [← Hnt.out]; exact .own (own_call ho hX)) (by rw [← Hnt.out]; omega) (Nat.le_trans (Wk.joined_le _) hl)).mono ?_
        rintro e w5 ⟨he, hb5⟩
        refine ⟨he, hb5, ?_, hl⟩
        unfold Hid; rw [Hres.out, hr]
      have hfin : ∀ N : Nat, N ≤ 1000000000 → (Wk.nm g.kind).length + 1 + N ≤ 2000000000 := fun N hN => by omega
      clear hfin
      by_cases hkn : k = n
      · have hkn' : ¬ ((k : Int) < (n : Int)) := by omega
        have hkn2 : ¬ (k < n) := by omega
        have hd : gs.drop k = [] := List.drop_eq_nil_of_le (by rw [← Hn.out]; omega)
        have hK2 : Wk.K g.level (gs.drop (at_ + 1)) = (ts, []) := by rw [HK.out, hd, Wk.K_nil, List.append_nil]
        have Hc := Lib.hid (hend.out [] hK2 (by unfold Wk.plc; rw [← Hn.out]; simp; omega) hown)
        have Hkn := Lib.hid hkn
        have Hpk : Hid (Wk.plc gs [] = k) := by unfold Hid Wk.plc; rw [← Hn.out]; simp; omega
        clear hd hK2 hkn hend
        go_wp2_with fail
        go_quiet (fail)
        go_wp2_with fail
        refine (Hc.out _ (below_drewN _ _ _)).mono ?_
        rintro e w5 ⟨rfl, hb5, hD5, hl5⟩
        have hw5 := Lib.hid ((hbx.out.trans (below_drewN _ _ _)).trans (hb5.mono (hbx.out.trans (below_drewN _ _ _)).size))
        clear hb5
        go_wp2_with fail
        refine bodyPost_ret (v := .tuple #[.string ((⟨(Wk.nm g.kind).toArray⟩ : ByteArray) ++ (⟨#[32]⟩ : ByteArray) ++ (⟨(Wk.joined ts).toArray⟩ : ByteArray)), .int .i64 (k : Int)]) (by simp [results, Try.results12, go_sem]) rfl ⟨?_, hw5.out⟩
        rw [hD5.out, Hpk.out]
        have : ((⟨(Wk.nm g.kind).toArray⟩ : ByteArray) ++ (⟨#[32]⟩ : ByteArray) ++ (⟨(Wk.joined ts).toArray⟩ : ByteArray)) = ⟨(Wk.nm g.kind ++ (32 :: Wk.joined ts)).toArray⟩ := ba_ext (by simp)
        rw [this]
      · have hkn' : (k : Int) < (n : Int) := by omega
        have hkn2 : k < n := by omega
        obtain ⟨h, hh⟩ : ∃ h, gs[k]? = some h := ⟨_, List.getElem?_eq_getElem (by rw [← Hn.out]; exact hkn2)⟩
        obtain ⟨g1', o1', pv', cv', sv', e', _, _, _, _, _, z1, _, _, _⟩ := rs_at Hr.out Hg.out k h hh
        cases e'
        obtain ⟨hl, hhl⟩ : ∃ hl, hl = h.level := ⟨_, rfl⟩
        rw [← hhl] at z1
        have z2 : wr.cell? ⟨g1, o1 + k * 5 + 1, none⟩ = some (.int .i64 (hl : Int)) := keepc hbx.out q3 z1
        have hKc := Wk.K_cons g.level h (gs.drop (k + 1))
        rw [← Wk.drop_at hh] at hKc
        clear z1
        by_cases hgt : lev < hl
        · have hgt' : (lev : Int) < (hl : Int) := by omega
          rw [if_pos (by rw [← hhl, ← Hlev.out]; exact hgt)] at hKc
          have hsuf : (Wk.D (gs.drop k)).2 <:+ gs.drop (k + 1) := by rw [Wk.drop_at hh]; exact Wk.D_rest h _
          have hsg : (Wk.D (gs.drop k)).2 <:+ gs := hsuf.trans (List.drop_suffix _ _)
          have hrl : (Wk.D (gs.drop k)).2.length + (k + 1) ≤ n := by
            have := hsuf.length_le; rw [List.length_drop, ← Hn.out] at this; omega
          obtain ⟨en, hen⟩ : ∃ en, en = Wk.plc gs (Wk.D (gs.drop k)).2 := ⟨_, rfl⟩
          have hen1 : k < en ∧ en ≤ n := by rw [hen]; unfold Wk.plc; rw [← Hn.out]; omega
          have hrd := Wk.plc_drop hsg
          rw [← hen] at hrd
          rw [hrd] at hKc
          have HK2 : Hid (Wk.K g.level (gs.drop (at_ + 1)) = ((ts ++ [(Wk.D (gs.drop k)).1]) ++ (Wk.K g.level (gs.drop en)).1, (Wk.K g.level (gs.drop en)).2)) := by
            unfold Hid; rw [HK.out, hKc]; simp
          have Hcall : Hid (∀ X, Below w.heap.size w X → Calls Try.prog 12 #[.slice (some ⟨g1, o1, none⟩) n c, .int .i64 (k : Int)] X fun e w' => e = .returned (.tuple #[str (Wk.D (gs.drop k)).1, .int .i64 ((Wk.plc gs (Wk.D (gs.drop k)).2 : Nat) : Int)]) ∧ Below X.heap.size X w') := fun X hX => IH.out k X hkn2 (by omega) (Hr.out.call hX) (Hg.out.call hX)
          rw [← hen] at Hcall
          obtain ⟨dk, hdk⟩ : ∃ dk, dk = (Wk.D (gs.drop k)).1 := ⟨_, rfl⟩
          rw [← hdk] at Hcall HK2
          clear hKc hsuf hsg hrd hen hdk hh hhl hend hrl
          go_wp2_with fail
          go_quiet (fail)
          go_wp2_with fail
          refine (Hcall.out _ (hbx.out.trans (below_drewN _ _ _))).mono ?_
          rintro e w5 ⟨rfl, hb5⟩
          have hown5 := own_call (own_call hown (below_drewN _ _ _)) hb5
          have hb5' : Hid (Below W0.heap.size W0 w5) := (Hb.out.trans (below_drewN _ _ _)).trans (hb5.mono (Hb.out.trans (below_drewN _ _ _)).size)
          have hsz5 := hb5'.out.size
          clear hb5
          go_wp2_with (at_builtin; refine wpList_append2 _ rfl _ _ 76 rfl W0.heap.size 9 (.string ⟨#[]⟩) 1 16 Try.underlying76 info_str rfl (by decide) (.slice av nt capv) nt _ rfl (hown5.alloc _) _ _ 1 [str dk] rfl (reads_new _ _ _ 1 1 (by decide) (by decide)) rfl ?c2 ?c3 ?c4 ?c5 ?_)
          case c2 => simp [Value.oneCell']
          case c3 => unfold maxLen; omega
          case c4 => omega
          case c5 => simp; omega
          intro v' w2 hown2 hgrow hmov
          obtain ⟨a2, cap2, rfl⟩ := own_form hown2
          have hb2 : Hid (Below W0.heap.size W0 w2) := (hb5'.out.alloc hb5'.out.size _).grown hgrow (by simp; omega) (fun j e => (hown5.lt j e).1)
          have Hown : Hid (w2.ownsRow W0.heap.size 9 1 (.slice a2 (ts ++ [dk]).length cap2) (ts ++ [dk]).length (strs (ts ++ [dk]))) := by
            unfold Hid
            have e1 : (ts ++ [dk]).length = nt + 1 := by rw [List.length_append, ← Hnt.out]; rfl
            rw [e1]; unfold strs at hown2 ⊢; rw [List.map_append]; exact hown2
          have Hl1 : Hid ((ts ++ [dk]).length = nt + 1) := by unfold Hid; rw [List.length_append, ← Hnt.out]; rfl
          clear hown2 hgrow hmov hown5 hown
          go_wp2_with fail
          go_roundg (n - en)
          case measure => omega
          case rel => exact ⟨en, ts ++ [dk], by omega, by omega, by first | rfl | simp, by have := Hown.out; rw [Hl1.out] at this ⊢; exact this, by rw [Hl1.out]; omega, HK2.out, hb2⟩
        · have hgt' : ¬ ((lev : Int) < (hl : Int)) := by omega
          rw [if_neg (by rw [← hhl, ← Hlev.out]; exact hgt)] at hKc
          have hK2 : Wk.K g.level (gs.drop (at_ + 1)) = (ts, gs.drop k) := by rw [HK.out, hKc, List.append_nil]
          have Hc := Lib.hid (hend.out (gs.drop k) hK2 (Wk.plc_of (by rw [← Hn.out]; omega)) hown)
          have Hpk : Hid (Wk.plc gs (gs.drop k) = k) := Wk.plc_of (by rw [← Hn.out]; omega)
          clear hK2 hend hKc hh hhl
          go_wp2_with fail
          go_quiet (fail)
          go_wp2_with fail
          refine (Hc.out _ (below_drewN _ _ _)).mono ?_
          rintro e w5 ⟨rfl, hb5, hD5, hl5⟩
          have hw5 := Lib.hid ((hbx.out.trans (below_drewN _ _ _)).trans (hb5.mono (hbx.out.trans (below_drewN _ _ _)).size))
          clear hb5
          go_wp2_with fail
          refine bodyPost_ret (v := .tuple #[.string ((⟨(Wk.nm g.kind).toArray⟩ : ByteArray) ++ (⟨#[32]⟩ : ByteArray) ++ (⟨(Wk.joined ts).toArray⟩ : ByteArray)), .int .i64 (k : Int)]) (by simp [results, Try.results12, go_sem]) rfl ⟨?_, hw5.out⟩
          rw [hD5.out, Hpk.out]
          have : ((⟨(Wk.nm g.kind).toArray⟩ : ByteArray) ++ (⟨#[32]⟩ : ByteArray) ++ (⟨(Wk.joined ts).toArray⟩ : ByteArray)) = ⟨(Wk.nm g.kind ++ (32 :: Wk.joined ts)).toArray⟩ := ba_ext (by simp)
          rw [this]
  · have hg7 : g.kind ≠ 7 := by rw [← Hkk.out]; exact h7
    have e7 : ((kk : Int) == 7) = false := by rw [beq_eq_false_iff_ne]; omega
    have e7' : ((kk : Int) != 7) = true := by rw [bne, e7]; rfl
    have hres : Wk.D (gs.drop at_) = (Wk.nm g.kind ++ (32 :: Wk.bodyT g), gs.drop (at_ + 1)) := by rw [HDc.out, if_neg hg7]
    have Hres := Lib.hid hres
    clear hres
    go_wp2_with fail
    refine (Hbody.out W0 Hbw.out hg7).mono ?_
    rintro e w5 ⟨rfl, hb5⟩
    have hw5 := Lib.hid (Hbw.out.trans (hb5.mono Hbw.out.size))
    clear hb5
    go_wp2_with fail
    refine bodyPost_ret (v := .tuple #[.string ((⟨(Wk.nm g.kind).toArray⟩ : ByteArray) ++ (⟨#[32]⟩ : ByteArray) ++ (⟨(Wk.bodyT g).toArray⟩ : ByteArray)), .int .i64 ((at_ : Int) + 1)]) (by simp [results, Try.results12, go_sem]) rfl ⟨?_, hw5.out⟩
    rw [Hres.out, Wk.plc_of (by rw [← Hn.out]; omega)]
    have : ((⟨(Wk.nm g.kind).toArray⟩ : ByteArray) ++ (⟨#[32]⟩ : ByteArray) ++ (⟨(Wk.bodyT g).toArray⟩ : ByteArray)) = ⟨(Wk.nm g.kind ++ (32 :: Wk.bodyT g)).toArray⟩ := ba_ext (by simp)
    rw [this]; rfl
end Go.Proofs.Ytegkdkilbnighaa

set_option linter.unusedVariables false
set_option linter.unusedSimpArgs false
namespace Go.Proofs.Ytegkdkilbnighaa
open Go.RowKit Go.Rg
attribute [local go_sem] Oper.semAt_some

theorem parse_rparse2 (s : Lx.Str) : (∃ k, Wk.parse s = .error k ∧ Wk.rparse s = .error k) ∨ ∃ gs, Wk.parse s = .ok gs ∧ Wk.rparse s = .ok (gs.map Wk.toR) := by
  unfold Wk.rparse
  rcases Wk.parse_cases s with ⟨t, r, h1, h2⟩ | ⟨h1, k, h2, h3⟩ | ⟨h1, h2, h3, h4⟩ | ⟨gs, h1, h2, h3⟩
  · exact .inl ⟨t.fr, h2, by rw [h1]⟩
  · exact .inl ⟨k, h3, by rw [h1, h2]⟩
  · exact .inl ⟨s.length, h4, by rw [h1, h2]; exact if_neg h3⟩
  · exact .inr ⟨gs, h3, by rw [h1, h2]; rfl⟩

theorem BdC.of {R : Nat} {w : World} {lv zv : Value} {g : Wk.Geo} (h : BodyR R w lv zv (g.lists, g.sizes)) : BdC w lv zv g := by
  obtain ⟨vs, h1, h2, h3⟩ := h
  exact ⟨vs, h2.len, .of h1, .of h2, .of h3⟩
theorem GsC.of {R : Nat} {w : World} : ∀ {gs : List Wk.Geo} {cs : List Value}, rdsG R w cs gs → GsC w cs (gs.map Wk.toA)
  | [], cs, _ => fun i g h => by cases h
  | x :: gs, cs, ⟨v, u, ds, e, h1, h2⟩ => by
    subst e
    exact GsC.cons (bdC_toA (.of h1)) (GsC.of h2)
theorem bnd_of (g : Wk.Geo) (N : Nat) (h : Wk.mG g ≤ N) (hN : N ≤ 10000000) : Bnd g := by
  have h1 := Wk.mLs_len g.lists
  have h2 := Wk.bodyT_size g
  have h3 := h
  unfold Wk.mG at h3
  refine ⟨by omega, by omega, by omega, fun l hl => ?_, by omega⟩
  have h4 := Wk.mLs_mem g.lists l hl
  have h5 := Wk.pairsT_size l
  omega
theorem sum_len (gs : List Wk.Geo) : gs.length ≤ (gs.map Wk.mG).sum := by
  induction gs with
  | nil => exact Nat.le_refl _
  | cons g r ih => simp only [List.length_cons, List.map_cons, List.sum_cons]; have : 6 ≤ Wk.mG g := by unfold Wk.mG; omega
                   omega

set_option maxRecDepth 100000 in
set_option maxHeartbeats 8000000 in
theorem lawWritesW (s : ByteArray) (hs : s.size ≤ maxLen) (w : World) : Calls Try.prog 3 #[.string s] w fun e w' => e = .returned (.bool true) ∧ Below w.heap.size w w' := by
  have hm : s.size ≤ 9223372036854775807 := hs
  go_enter Try.func3, Try.ntmps3
  by_cases h2 : s.size ≤ 2000
  · have hs6 : s.size ≤ 100000 := by omega
    go_wp2_with fail
    refine (parse_any s w hs6).mono ?_
    rintro e w1 ⟨v1, at1, e1, rfl, h1, hw1⟩
    have H1 := Lib.hid h1
    clear h1
    go_wp2_with fail
    refine (rparse_any s w1 hs6).mono ?_
    rintro e w2 ⟨v2, at2, rfl, h2', hw2⟩
    have h1 := H1.out
    unfold parseRes at h1
    unfold rparseRes at h2'
    have hw12 := Lib.hid (hw1.trans (hw2.mono hw1.size))
    rcases parse_rparse2 s.data.toList with ⟨k, e1, e2⟩ | ⟨gs, e1, e2⟩
    · rw [e1] at h1
      rw [e2] at h2'
      obtain ⟨hv1, rfl, rfl⟩ := h1
      cases hv1
      obtain ⟨rfl, rfl⟩ := h2'
      clear e1 e2 H1 hw2 hw1
      have hk0 : (0 : Int) ≤ (k : Int) := by omega
      go_wp2_with fail
      refine (awake12_any w2).mono ?_
      rintro e w3 ⟨rfl, hw3⟩
      have hw13 := hw12.out.trans (hw3.mono hw12.out.size)
      clear hw3
      go_wp2_with fail
      go_ret
      exact ⟨rfl, hw13⟩
    · rw [e1] at h1
      rw [e2] at h2'
      obtain ⟨⟨R, cs, hv, hg⟩, rfl, rfl⟩ := h1
      obtain ⟨⟨rs, hv2, hr2⟩, rfl⟩ := h2'
      obtain ⟨hR, hsz⟩ := Wk.parse_right s gs e1
      have hw := Wk.write_size gs hR
      have hsl := sum_len gs
      have hfit : ∀ x ∈ gs.map Wk.toA, Wk.FitA x := fun x hx => by
        obtain ⟨g, hgm, rfl⟩ := List.mem_map.1 hx
        exact Wk.fitA_of g _ (Wk.mG_le gs g hgm) (by omega)
      have hbnd : ∀ g ∈ gs, Bnd g := fun g hgm => bnd_of g _ (Wk.mG_le gs g hgm) (by omega)
      have hlen : (gs.map Wk.toR).length = gs.length := List.length_map _
      rw [hlen] at hv2
      have hc1 : RdC w1 v1 gs.length cs := .of hv
      have hc2 : RdC w2 v2 gs.length rs := .of hv2
      have hG : GsC w1 cs (gs.map Wk.toA) := .of hg
      have hS : RsC w2 rs gs := .of hr2
      have hpos : 0 < gs.length := by
        cases gs with
        | nil => exact absurd hR.2.2 (by simp [Wk.Top])
        | cons x r => simp
      have HW : Hid (∀ X, Below w2.heap.size w2 X → Calls Try.prog 11 #[v1] X fun e X' => e = .returned (.tuple #[str (Wk.write gs), .int .i64 0]) ∧ Below X.heap.size X X') := fun X hX =>
        write_any gs v1 cs X hR (hc1.call (hw2.trans (hX.mono hw2.size))) (hG.call (hw2.trans (hX.mono hw2.size))) hfit (by omega)
      have HD : Hid (∀ X, Below w2.heap.size w2 X → Calls Try.prog 12 #[v2, .int .i64 0] X fun e X' => e = .returned (.tuple #[str (Wk.write gs), .int .i64 (gs.length : Int)]) ∧ Below X.heap.size X X') := fun X hX => by
        have := rwrite_any gs hR hbnd (by omega) (by omega) v2 rs gs.length 0 X hpos (by omega) (hc2.call hX) (hS.call hX)
        rw [List.drop_zero, Wk.write_D gs hR] at this
        exact this
      obtain ⟨n, hn⟩ : ∃ n, n = gs.length := ⟨_, rfl⟩
      obtain ⟨t, ht⟩ : ∃ t, t = Wk.write gs := ⟨_, rfl⟩
      rw [← ht] at HW
      rw [← ht, ← hn] at HD
      obtain ⟨va, vc, rfl, _⟩ := hc1.form
      obtain ⟨wa, wc, rfl, _⟩ := hc2.form
      rw [← hn] at HW HD ⊢
      have hneg : ¬ ((0 : Int) ≤ -1) := by omega
      clear hc1 hc2 hG hS hpos hn ht hlen hv hv2 hg hr2 hfit hbnd hR hsz hw hsl H1 e1 e2 hw1 hw2
      go_wp2_with fail
      refine (HW.out w2 (Below.refl _ _)).mono ?_
      rintro e w3 ⟨rfl, hb3⟩
      have hw3 := Lib.hid hb3
      clear hb3
      go_wp2_with fail
      refine (HD.out w3 hw3.out).mono ?_
      rintro e w4 ⟨rfl, hb4⟩
      have hw4 := Lib.hid (hw3.out.trans (hb4.mono hw3.out.size))
      clear hb4
      go_wp2_with fail
      refine (awake12_any w4).mono ?_
      rintro e w5 ⟨rfl, hb5⟩
      have hw5 := hw12.out.trans ((hw4.out.trans (hb5.mono hw4.out.size)).mono hw12.out.size)
      clear hb5
      go_wp2_with fail
      go_ret
      exact ⟨by simp, hw5⟩
  · go_wp2_with (first | (go_at_call 8; refine (awake12_any _).mono ?_; rintro e w1 ⟨rfl, hb⟩))
    go_ret
    exact ⟨rfl, hb⟩
end Go.Proofs.Ytegkdkilbnighaa
