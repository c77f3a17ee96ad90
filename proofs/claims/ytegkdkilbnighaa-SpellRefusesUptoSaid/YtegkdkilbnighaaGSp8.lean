/- Taking an operation of a drawn region that is written out. No condition of its own. -/
import Derived.Deep.RegionHeld
import Derived.Test.YtegkdkilbnighaaGSp7
import Derived.Test.YtegkdkilbnighaaHeld
import Derived.BigQuiet

namespace Go.Rg
open Go
def nthO : List Oper → Nat → Option Oper
  | [], _ => none
  | x :: _, 0 => some x
  | _ :: l, n + 1 => nthO l n
theorem nthO_eq : ∀ (l : List Oper) (n : Nat), nthO l n = l.toArray[n]?
  | [], n => by simp [nthO]
  | x :: l, 0 => by simp [nthO]
  | x :: l, n + 1 => by rw [nthO, nthO_eq l n]; simp
theorem takeL {P : Program} {l : List Oper} {Q : Exit → Act → World → Prop} {md : Region.Mode} {S : World → Prop} (i : Nat) {oi : Oper} {v : Value} {fuel : Nat} {listed : Array Bool} {a : Act} {w : World} (hi : nthO l i = some oi)
    (hs : Region.noSelect l.toArray = true) (hf : Region.free md l.toArray listed i = true) (hr : (Region.ready md l.toArray listed).contains i = true)
    (hQ : ∀ c a w, Q (.panic c) (a.put oi.dst v) w → Q (.panic c) a w) (hw : Region.wanted oi (yielded l.toArray a.tmps) = true) (hS : S w) (hy : ∀ w, S w → (execOp a.eval oi).run P w = .ok (.value v) w)
    (h : wpAnyH P md l.toArray Q S fuel (listed.setIfInBounds i true) (a.put oi.dst v) w) : wpAnyH P md l.toArray Q S (fuel + 1) listed a w :=
  wpAnyH_take (nthO_eq l i ▸ hi) hs hf hr hQ (Or.inl ⟨hw, hy⟩) hS h
theorem skipL {P : Program} {l : List Oper} {Q : Exit → Act → World → Prop} {md : Region.Mode} {S : World → Prop} (i : Nat) {oi : Oper} {fuel : Nat} {listed : Array Bool} {a : Act} {w : World} (hi : nthO l i = some oi)
    (hs : Region.noSelect l.toArray = true) (hf : Region.free md l.toArray listed i = true) (hr : (Region.ready md l.toArray listed).contains i = true)
    (hQ : ∀ c a w, Q (.panic c) (a.put oi.dst undef) w → Q (.panic c) a w) (hw : Region.wanted oi (yielded l.toArray a.tmps) = false) (hS : S w)
    (h : wpAnyH P md l.toArray Q S fuel (listed.setIfInBounds i true) (a.put oi.dst undef) w) : wpAnyH P md l.toArray Q S (fuel + 1) listed a w :=
  wpAnyH_take (nthO_eq l i ▸ hi) hs hf hr hQ (Or.inr ⟨hw, rfl⟩) hS h
theorem consL {P : Program} {l : List Oper} {Q : Exit → Act → World → Prop} {md : Region.Mode} {S : World → Prop} {fuel : Nat} {listed : Array Bool} {a : Act} {w : World} (i : Nat) {o : Oper} (hn : Region.ready md l.toArray listed = [i]) (ho : nthO l i = some o)
    (hw : Region.wanted o (yielded l.toArray a.tmps) = true)
    (h : ∀ K' : Act → World → Prop, Shut (∀ a w, S w → (S w → wpAnyH P md l.toArray Q S fuel (listed.setIfInBounds i true) a w) → K' a w) → Oper.wp P o a w K' Q) : wpAnyH P md l.toArray Q S (fuel + 1) listed a w :=
  wpAnyH_ready hn (by simp) (AllReadyH.cons (nthO_eq l i ▸ ho) (fun K hK => by rw [if_pos hw]; exact h K hK) AllReadyH.nil)
end Go.Rg

set_option linter.unusedVariables false
set_option linter.unusedSimpArgs false
namespace Go.Proofs.Ytegkdkilbnighaa
open Go.RowKit Go.Rg
attribute [local go_sem] Oper.semAt_some

theorem said_sz1 (a : ByteArray) (x y : Lx.Str) (n : Nat) (h : a.size + 2 + (x.length + y.length) ≤ n) :
    (a ++ (((⟨x.toArray⟩ : ByteArray) ++ (⟨#[32]⟩ : ByteArray) : ByteArray) ++ (⟨y.toArray⟩ : ByteArray) : ByteArray) : ByteArray).size ≤ n := by
  have h1 : (⟨x.toArray⟩ : ByteArray).size = x.length := by rw [Lib.size_eq]
  have h2 : (⟨y.toArray⟩ : ByteArray).size = y.length := by rw [Lib.size_eq]
  have h3 : (⟨#[32]⟩ : ByteArray).size = 1 := rfl
  simp only [ByteArray.size_append, h1, h2, h3]; omega
theorem said_sz2 (a : ByteArray) (x y : Lx.Str) (n : Nat) (h : a.size + 2 + (x.length + y.length) ≤ n) :
    ((a ++ (⟨#[44]⟩ : ByteArray) : ByteArray) ++ (((⟨x.toArray⟩ : ByteArray) ++ (⟨#[32]⟩ : ByteArray) : ByteArray) ++ (⟨y.toArray⟩ : ByteArray) : ByteArray) : ByteArray).size ≤ n := by
  have h1 : (⟨x.toArray⟩ : ByteArray).size = x.length := by rw [Lib.size_eq]
  have h2 : (⟨y.toArray⟩ : ByteArray).size = y.length := by rw [Lib.size_eq]
  have h3 : (⟨#[32]⟩ : ByteArray).size = 1 := rfl
  have h4 : (⟨#[44]⟩ : ByteArray).size = 1 := rfl
  simp only [ByteArray.size_append, h1, h2, h3, h4]; omega


set_option maxRecDepth 100000 in
set_option maxHeartbeats 8000000 in
theorem said_any (g : GA) (on : Bool) (lv zv : Value) (w : World) (hB : BdA w lv zv g) (hq : qG g ≤ 1000000) :
    Calls Try.prog 17 #[gaV g lv zv, .bool on] w fun e w' => ∃ b : ByteArray, e = .returned (.string b) ∧ b.size ≤ 7 + 9 * qG g ∧ Below w.heap.size w w' := by
  obtain ⟨kk, lev, ls, ss⟩ := g
  obtain ⟨vs, hvl, hl, hvs, hzs⟩ := hB
  simp only at hvl hl hvs hzs
  obtain ⟨la, lc, rfl, hlm⟩ := hl.form
  obtain ⟨za, zc, rfl, hzm⟩ := hzs.form
  unfold gaV
  simp only
  obtain ⟨m, hmm⟩ : ∃ m, m = ls.length := ⟨_, rfl⟩
  obtain ⟨mz, hmz⟩ : ∃ m, m = ss.length := ⟨_, rfl⟩
  obtain ⟨tot, htot⟩ : ∃ tot, tot = (ls.map qL).sum := ⟨_, rfl⟩
  have hqg : qG ⟨kk, lev, ls, ss⟩ = (m + mz) + tot := by unfold qG; rw [hmm, hmz, htot]
  rw [hqg] at hq ⊢
  rw [← hmm] at hl hlm hvl ⊢
  rw [← hmz] at hzm ⊢
  have Htot := Lib.hid htot
  have Hm := Lib.hid hmm
  have Hl := Lib.hid hl
  have Hvs := Lib.hid hvs
  obtain ⟨Wb, hWb⟩ : ∃ Wb, w.alloc (.cells #[.int .i64 kk, .int .i64 lev, .slice la m lc, .slice za mz zc] 40) = Wb := ⟨_, rfl⟩
  have B0 : Blk Wb w.heap.size [.int .i64 kk, .int .i64 lev, .slice la m lc, .slice za mz zc] 40 := hWb ▸ Blk.new w _ _
  have hBw : Below w.heap.size w Wb := hWb ▸ (Below.refl _ w).alloc (Nat.le_refl _) _
  have hz0 : w.heap.size < Wb.heap.size := by rw [← hWb, World.size_alloc]; omega
  have b0 := B0.cell (j := 0) rfl
  have b2 := B0.cell (j := 2) rfl
  have HB0 := Lib.hid B0
  have HBw := Lib.hid hBw
  unfold maxLen at hlm hzm
  clear B0 hBw hqg hl hvs hzs hvl hmm hmz htot
  go_enter Try.func17, Try.ntmps17
  cases hk7 : (kk == 7) with
  | true =>
    cases on with
    | true =>
      go_wp2_with fail
      go_ret
      exact ⟨_, rfl, by show 0 ≤ _; omega, HBw.out⟩
    | false =>
      go_wp2_with fail
      go_ret
      exact ⟨_, rfl, by show 5 ≤ _; omega, HBw.out⟩
  | false =>
    go_wp2_with fail
    go_loopg [5, 17] m (fun q s5 s17 wx => ∃ (i : Nat) (acc : ByteArray), i + q = m ∧ s17 = .int .i64 (i : Int) ∧ s5 = .string acc ∧ Hid (acc.size ≤ 3 * i + 9 * tk qL ls i) ∧ Hid (Below Wb.heap.size Wb wx))
    case atStart => exact ⟨0, _, by omega, rfl, rfl, by show 0 ≤ _; omega, by first | exact Below.refl _ _ | (rw [hWb]; exact Below.refl _ _)⟩
    case round =>
      obtain ⟨i, acc, hiq, rfl, rfl, Ha, Hb⟩ := hrel
      have hbw := Lib.hid (HBw.out.trans (Hb.out.mono HBw.out.size))
      have B1 := HB0.out.call Hb.out
      have c0 := B1.cell (j := 0) rfl
      clear B1
      have htl := tk_le qL ls i
      rw [← Htot.out] at htl
      have hac : acc.size ≤ 3 * m + 9 * tot := by have := Ha.out; omega
      clear htl
      cases gk with
      | zero =>
        have hlt : ¬ (i < m) := by omega
        have hac2 : acc.size ≤ 11000000 := by omega
        by_cases h2 : kk ≤ 2
        · go_wp2_with fail
          try rw [Exit.noGoto_ret]
          go_ret
          exact ⟨_, rfl, by omega, hbw.out⟩
        · go_wp2_with fail
          try rw [Exit.noGoto_ret]
          go_ret
          exact ⟨_, rfl, by simp only [ByteArray.size_append]; show 1 + acc.size + 1 ≤ _; omega, hbw.out⟩
      | succ q =>
        have hin : i < m := by omega
        obtain ⟨x, hx⟩ : ∃ x, ls[i]? = some x := ⟨_, List.getElem?_eq_getElem (by rw [← Hm.out]; exact hin)⟩
        obtain ⟨vk, hvk, hPk⟩ := Hvs.out i x hx
        obtain ⟨xa, xc, rfl, hxm, hxo⟩ := hPk
        obtain ⟨a', c', e', _, ho⟩ := Hl.out
        cases e'
        obtain ⟨g2, o2, rfl, r1, r2, r3, r4⟩ := ho (fun e => by rw [e] at hvk; cases hvk)
        have z1 : wr.cell? ⟨g2, o2 + i, none⟩ = some (.slice xa x.length xc) := keepc hbw.out r3 (r4 _ _ hvk)
        have hsu := tk_succ qL ls i x hx
        have htl := tk_le qL ls (i + 1)
        rw [← Htot.out] at htl
        obtain ⟨nx, hnx⟩ : ∃ m, m = x.length := ⟨_, rfl⟩
        obtain ⟨tx, htx⟩ : ∃ m, m = (x.map qP).sum := ⟨_, rfl⟩
        have hqx : qL x = nx + tx := by unfold qL; rw [hnx, htx]
        have Hsu : Hid (9 * tk qL ls (i + 1) = 9 * tk qL ls i + 9 * (nx + tx)) := by unfold Hid; rw [hsu, hqx]; omega
        have hnt : tk qL ls i + (nx + tx) ≤ tot := by rw [← hqx]; omega
        rw [← hnx] at z1 hxm hxo
        have Hnx := Lib.hid hnx
        have Htx := Lib.hid htx
        have Hxo := Lib.hid hxo
        obtain ⟨ti, hti⟩ : ∃ ti, ti = tk qL ls i := ⟨_, rfl⟩
        have hac1 : acc.size ≤ 3 * i + 9 * ti := by rw [hti]; exact Ha.out
        rw [← hti] at hnt Hsu
        unfold maxLen at hxm r2
        clear r4 hvk ho hsu htl hx hqx hnx htx hxo hti
        obtain ⟨Wr, rfl⟩ : ∃ Wr, Wr = wr := ⟨wr, rfl⟩
        have hj1 : tot ≤ 1000000 := by omega
        rcases Nat.eq_zero_or_pos i with hi0 | hpos
        · have hi0' : ¬ ((0 : Int) < (i : Int)) := by omega
          clear hi0
          go_wp2_with fail
          go_loopg [5, 30] nx (fun q s5 s30 wx => ∃ (j : Nat) (a2 : ByteArray), j + q = nx ∧ s30 = .int .i64 (j : Int) ∧ s5 = .string a2 ∧ Hid (a2.size ≤ 3 * i + 9 * ti + 2 + 9 * (j + tk qP x j)) ∧ Hid (Below Wb.heap.size Wb wx))
          case atStart => exact ⟨0, _, by omega, rfl, rfl, by unfold Hid; rw [tk_zero]; simp only [ByteArray.size_append]; show acc.size + 1 ≤ _; omega, Hb⟩
          case round =>
            obtain ⟨j, a2, hjq, rfl, rfl, Ha2, Hb2⟩ := hrel
            have htl3 := tk_le qP x j
            rw [← Htx.out] at htl3
            cases gk with
            | zero =>
              have hjn : ¬ (j < nx) := by omega
              have ha3 : a2.size + 1 ≤ 3 * (i + 1) + 9 * ti + 9 * (nx + tx) := by have := Ha2.out; omega
              have ha4 : a2.size ≤ 11000000 := by omega
              go_wp2_with fail
              go_roundg q
              case measure => omega
              case rel => exact ⟨i + 1, _, by omega, by first | rfl | simp, rfl, by unfold Hid; rw [Hsu.out]; simp only [ByteArray.size_append]; show a2.size + 1 ≤ _; omega, Hb2⟩
            | succ q3 =>
              have hjn : j < nx := by omega
              obtain ⟨p, hp⟩ : ∃ p, x[j]? = some p := ⟨_, List.getElem?_eq_getElem (by rw [← Hnx.out]; exact hjn)⟩
              obtain ⟨f1, f2⟩ := flatP_at2 _ _ _ hp
              obtain ⟨g3, o3, rfl, t1, t2, t3, t4⟩ := Hxo.out (fun e => by rw [e] at f1; cases f1)
              have hbw2 := HBw.out.trans (Hb2.out.mono HBw.out.size)
              have u1 : wr.cell? ⟨g3, o3 + j * 2, none⟩ = some (.string ⟨p.1.toArray⟩) := keepc hbw2 t3 (t4 _ _ f1)
              have u2 : wr.cell? ⟨g3, o3 + j * 2 + 1, none⟩ = some (.string ⟨p.2.toArray⟩) := keepc hbw2 t3 (t4 _ _ f2)
              have hsu3 := tk_succ qP x j p hp
              have htl4 := tk_le qP x (j + 1)
              rw [← Htx.out] at htl4
              have hpq : qP p = (p.1.length + p.2.length) / 8 := rfl
              have ha3 := Ha2.out
              have Hp8 : Hid (p.1.length + p.2.length + 2 ≤ 9 * (1 + qP p)) := by unfold Hid; rw [hpq]; omega
              have hp8 : p.1.length + p.2.length ≤ 11000000 := by have := Hp8.out; omega
              have ha5 : a2.size ≤ 11000000 := by omega
              have Hfin : Hid (a2.size + 2 + (p.1.length + p.2.length) ≤ 3 * i + 9 * ti + 2 + 9 * (j + 1 + tk qP x (j + 1))) := by unfold Hid; rw [hsu3]; have := Hp8.out; omega
              unfold maxLen at t2
              have hb3' : Hid (Below Wb.heap.size Wb (wr.alloc (.cells #[.string ⟨p.1.toArray⟩, .string ⟨p.2.toArray⟩] 47))) := Hb2.out.alloc Hb2.out.size _
              clear t4 f1 f2 hp hsu3 htl4 hpq ha3 htl3
              rcases Nat.eq_zero_or_pos j with hj0 | hjp
              · have hj0' : ¬ ((0 : Int) < (j : Int)) := by omega
                clear hj0
                go_wp2_with fail
                go_roundg q3
                case measure => omega
                case rel => exact ⟨j + 1, _, by omega, by first | rfl | simp, rfl, by first | exact said_sz1 _ _ _ _ Hfin.out | exact said_sz2 _ _ _ _ Hfin.out, hb3'⟩
              · have hj0' : (0 : Int) < (j : Int) := by omega
                go_wp2_with fail
                go_roundg q3
                case measure => omega
                case rel => exact ⟨j + 1, _, by omega, by first | rfl | simp, rfl, by first | exact said_sz1 _ _ _ _ Hfin.out | exact said_sz2 _ _ _ _ Hfin.out, hb3'⟩
        · have hi0' : (0 : Int) < (i : Int) := by omega
          go_wp2_with fail
          go_loopg [5, 30] nx (fun q s5 s30 wx => ∃ (j : Nat) (a2 : ByteArray), j + q = nx ∧ s30 = .int .i64 (j : Int) ∧ s5 = .string a2 ∧ Hid (a2.size ≤ 3 * i + 9 * ti + 2 + 9 * (j + tk qP x j)) ∧ Hid (Below Wb.heap.size Wb wx))
          case atStart => exact ⟨0, _, by omega, rfl, rfl, by unfold Hid; rw [tk_zero]; simp only [ByteArray.size_append]; show acc.size + 1 + 1 ≤ _; omega, Hb⟩
          case round =>
            obtain ⟨j, a2, hjq, rfl, rfl, Ha2, Hb2⟩ := hrel
            have htl3 := tk_le qP x j
            rw [← Htx.out] at htl3
            cases gk with
            | zero =>
              have hjn : ¬ (j < nx) := by omega
              have ha3 : a2.size + 1 ≤ 3 * (i + 1) + 9 * ti + 9 * (nx + tx) := by have := Ha2.out; omega
              have ha4 : a2.size ≤ 11000000 := by omega
              go_wp2_with fail
              go_roundg q
              case measure => omega
              case rel => exact ⟨i + 1, _, by omega, by first | rfl | simp, rfl, by unfold Hid; rw [Hsu.out]; simp only [ByteArray.size_append]; show a2.size + 1 ≤ _; omega, Hb2⟩
            | succ q3 =>
              have hjn : j < nx := by omega
              obtain ⟨p, hp⟩ : ∃ p, x[j]? = some p := ⟨_, List.getElem?_eq_getElem (by rw [← Hnx.out]; exact hjn)⟩
              obtain ⟨f1, f2⟩ := flatP_at2 _ _ _ hp
              obtain ⟨g3, o3, rfl, t1, t2, t3, t4⟩ := Hxo.out (fun e => by rw [e] at f1; cases f1)
              have hbw2 := HBw.out.trans (Hb2.out.mono HBw.out.size)
              have u1 : wr.cell? ⟨g3, o3 + j * 2, none⟩ = some (.string ⟨p.1.toArray⟩) := keepc hbw2 t3 (t4 _ _ f1)
              have u2 : wr.cell? ⟨g3, o3 + j * 2 + 1, none⟩ = some (.string ⟨p.2.toArray⟩) := keepc hbw2 t3 (t4 _ _ f2)
              have hsu3 := tk_succ qP x j p hp
              have htl4 := tk_le qP x (j + 1)
              rw [← Htx.out] at htl4
              have hpq : qP p = (p.1.length + p.2.length) / 8 := rfl
              have ha3 := Ha2.out
              have Hp8 : Hid (p.1.length + p.2.length + 2 ≤ 9 * (1 + qP p)) := by unfold Hid; rw [hpq]; omega
              have hp8 : p.1.length + p.2.length ≤ 11000000 := by have := Hp8.out; omega
              have ha5 : a2.size ≤ 11000000 := by omega
              have Hfin : Hid (a2.size + 2 + (p.1.length + p.2.length) ≤ 3 * i + 9 * ti + 2 + 9 * (j + 1 + tk qP x (j + 1))) := by unfold Hid; rw [hsu3]; have := Hp8.out; omega
              unfold maxLen at t2
              have hb3' : Hid (Below Wb.heap.size Wb (wr.alloc (.cells #[.string ⟨p.1.toArray⟩, .string ⟨p.2.toArray⟩] 47))) := Hb2.out.alloc Hb2.out.size _
              clear t4 f1 f2 hp hsu3 htl4 hpq ha3 htl3
              rcases Nat.eq_zero_or_pos j with hj0 | hjp
              · have hj0' : ¬ ((0 : Int) < (j : Int)) := by omega
                clear hj0
                go_wp2_with fail
                go_roundg q3
                case measure => omega
                case rel => exact ⟨j + 1, _, by omega, by first | rfl | simp, rfl, by first | exact said_sz1 _ _ _ _ Hfin.out | exact said_sz2 _ _ _ _ Hfin.out, hb3'⟩
              · have hj0' : (0 : Int) < (j : Int) := by omega
                go_wp2_with fail
                go_roundg q3
                case measure => omega
                case rel => exact ⟨j + 1, _, by omega, by first | rfl | simp, rfl, by first | exact said_sz1 _ _ _ _ Hfin.out | exact said_sz2 _ _ _ _ Hfin.out, hb3'⟩
end Go.Proofs.Ytegkdkilbnighaa

set_option linter.unusedVariables false
set_option linter.unusedSimpArgs false
namespace Go.Proofs.Ytegkdkilbnighaa
open Go.RowKit Go.Rg
attribute [local go_sem] Oper.semAt_some

theorem Wk.nm_le18 (k : Int) : (Wk.name k).length ≤ 18 := by
  unfold Wk.name
  split
  · have : ∀ m, m ≤ 7 → (Wk.nm m).length ≤ 18 := by decide
    exact this _ (by omega)
  · exact Nat.zero_le _
theorem sizeA (a b c : ByteArray) (x : ByteArray) (n : Nat) (h : a.size + b.size + c.size + x.size ≤ n) : (a ++ (((b ++ c : ByteArray) ++ x : ByteArray) : ByteArray) : ByteArray).size ≤ n := by
  simp only [ByteArray.size_append]; omega
theorem tok_size (x : Lx.Str) : (⟨x.toArray⟩ : ByteArray).size = x.length := by rw [Lib.size_eq]

set_option maxRecDepth 100000 in
set_option maxHeartbeats 16000000 in
theorem lawRefusesW (l : List GA) (v : Value) (cs : List Value) (w : World) (h : RdC w v l.length cs) (hg : GsC w cs l) (hmu : (l.map muG).sum ≤ 1048576) :
    Calls Try.prog 6 #[v] w fun e w' => e = .returned (.bool true) ∧ Below w.heap.size w w' := by
  have hlm := light_mu l
  have hf : ∀ g ∈ l, Wk.FitA g := fun g hgm => fitA_mu g _ (Nat.le_trans (sum_map_le muG l g hgm) hmu) (by decide)
  have HL := Lib.hid (light_any l v cs w h hg (by omega))
  obtain ⟨a, c, rfl, hm⟩ := h.form
  have Hr := Lib.hid h
  have Hg := Lib.hid hg
  have Hf := Lib.hid hf
  clear hg hf hlm hmu h
  go_enter Try.func6, Try.ntmps6
  by_cases hli : lightN l ≤ 400
  · rw [decide_eq_true hli] at HL
    have Hli := Lib.hid hli
    clear hli
    go_wp2_with fail
    refine HL.out.mono ?_
    rintro e w1 ⟨rfl, hb1⟩
    have hw1 := Lib.hid hb1
    clear hb1
    by_cases hR : Wk.RightA l
    · have HA : Hid (∀ X, Below w.heap.size w X → Calls Try.prog 13 #[.slice a l.length c] X fun e X' => e = .returned (.bool true) ∧ Below X.heap.size X X') := fun X hX =>
        (rightA_any _ _ l X (Hr.out.call hX) (Hg.out.call hX) Hf.out).mono fun e X' ⟨b, he, hb, hx⟩ => by
          have : b = true := hb.out.2 hR
          subst this; exact ⟨he, hx⟩
      clear hR
      go_wp2_with fail
      refine (HA.out w1 hw1.out).mono ?_
      rintro e w3 ⟨rfl, hb3⟩
      have hw3 := Lib.hid (hw1.out.trans (hb3.mono hw1.out.size))
      clear hb3
      try go_wp2_with fail
      refine (awake12_any w3).mono ?_
      rintro e w6 ⟨rfl, hb6⟩
      have hw6 := hw3.out.trans (hb6.mono hw3.out.size)
      clear hb6
      go_wp2_with fail
      try rw [Exit.noGoto_ret]
      go_ret
      exact ⟨rfl, hw6⟩
    · have HA : Hid (∀ X, Below w.heap.size w X → Calls Try.prog 13 #[.slice a l.length c] X fun e X' => e = .returned (.bool false) ∧ Below X.heap.size X X') := fun X hX =>
        (rightA_any _ _ l X (Hr.out.call hX) (Hg.out.call hX) Hf.out).mono fun e X' ⟨b, he, hb, hx⟩ => by
          cases b with
          | true => exact absurd (hb.out.1 rfl) hR
          | false => exact ⟨he, hx⟩
      have HNR := Lib.hid hR
      obtain ⟨n, hn⟩ : ∃ n, n = l.length := ⟨_, rfl⟩
      rw [← hn] at HA hm HL Hr ⊢
      have Hn := Lib.hid hn
      have hn4 : n ≤ 400 := by have := Hli.out; unfold lightN at this; rw [← hn] at this; omega
      obtain ⟨tot, htot⟩ : ∃ tot, tot = (l.map qG).sum := ⟨_, rfl⟩
      have Htot := Lib.hid htot
      have htl : n + tot ≤ 400 := by have := Hli.out; unfold lightN at this; rw [← hn, ← htot] at this; exact this
      unfold maxLen at hm
      clear hR hn htot
      go_wp2_with fail
      refine (HA.out w1 hw1.out).mono ?_
      rintro e w3 ⟨rfl, hb3⟩
      have hw3 := Lib.hid (hw1.out.trans (hb3.mono hw1.out.size))
      clear hb3 HA
      go_wp2_with fail
      go_loopg [22] n (fun q s22 wx => ∃ (i : Nat), i + q = n ∧ s22 = .int .i64 (i : Int) ∧ Hid (∀ j g, j < i → l[j]? = some g → (1 ≤ g.kind ∧ g.kind ≤ 7) ∧ 0 ≤ g.level ∧ g.level ≤ 40) ∧ Hid (Below w.heap.size w wx))
      case atStart => exact ⟨0, by omega, rfl, fun j g hj => by omega, hw3.out⟩
      case round =>
        obtain ⟨i, hiq, rfl, Ha, Hb⟩ := hrel
        cases gk with
        | succ q =>
          have hin : i < n := by omega
          obtain ⟨g, hgi⟩ : ∃ g, l[i]? = some g := ⟨_, List.getElem?_eq_getElem (by rw [← Hn.out]; exact hin)⟩
          obtain ⟨g1, o1, lv, zv, rfl, q1, q2, hB, q3, y0, y1, y2, y3⟩ := gs_at Hr.out Hg.out i g hgi
          obtain ⟨vs, hvl, hl, hvs, hzs⟩ := hB
          obtain ⟨la, lc, rfl, hlm⟩ := hl.form
          obtain ⟨za, zc, rfl, hzm⟩ := hzs.form
          obtain ⟨kk, lev, ls, ss⟩ := g
          simp only at hvl hl hvs hzs y0 y1 y2 y3 hlm hzm
          have x0 : wr.cell? ⟨g1, o1 + i * 4, none⟩ = _ := keepc Hb.out q3 y0
          have x1 : wr.cell? ⟨g1, o1 + i * 4 + 1, none⟩ = _ := keepc Hb.out q3 y1
          have x2 : wr.cell? ⟨g1, o1 + i * 4 + 2, none⟩ = _ := keepc Hb.out q3 y2
          have x3 : wr.cell? ⟨g1, o1 + i * 4 + 3, none⟩ = _ := keepc Hb.out q3 y3
          have hszr := Hb.out.size
          obtain ⟨ln, hln⟩ : ∃ m, m = ls.length := ⟨_, rfl⟩
          obtain ⟨zn, hzn⟩ : ∃ m, m = ss.length := ⟨_, rfl⟩
          rw [← hln] at x2
          rw [← hzn] at x3
          obtain ⟨Wb, hWb⟩ : ∃ Wb, wr.alloc (.cells #[.int .i64 kk, .int .i64 lev, .slice la ln lc, .slice za zn zc] 40) = Wb := ⟨_, rfl⟩
          have B0 : Blk Wb wr.heap.size [.int .i64 kk, .int .i64 lev, .slice la ln lc, .slice za zn zc] 40 := hWb ▸ Blk.new wr _ _
          have hBw : Below wr.heap.size wr Wb := hWb ▸ (Below.refl _ wr).alloc (Nat.le_refl _) _
          have hbw := Lib.hid (Hb.out.trans (hBw.mono hszr))
          have b0 := B0.cell (j := 0) rfl
          have b1 := B0.cell (j := 1) rfl
          have Hgi := Lib.hid hgi
          clear B0 hBw y0 y1 y2 y3 hgi hl hvs hzs hvl hln hzn hlm hzm
          by_cases hk1 : kk < 1
          · go_wp2_with fail
            try go_wp2_with fail
            refine (awake12_any Wb).mono ?_
            rintro e w6 ⟨rfl, hb6⟩
            have hw6 := hbw.out.trans (hb6.mono hbw.out.size)
            clear hb6
            go_wp2_with fail
            try rw [Exit.noGoto_ret]
            go_ret
            exact ⟨rfl, hw6⟩
          by_cases hk7 : 7 < kk
          · go_wp2_with fail
            try go_wp2_with fail
            refine (awake12_any Wb).mono ?_
            rintro e w6 ⟨rfl, hb6⟩
            have hw6 := hbw.out.trans (hb6.mono hbw.out.size)
            clear hb6
            go_wp2_with fail
            try rw [Exit.noGoto_ret]
            go_ret
            exact ⟨rfl, hw6⟩
          by_cases hl0 : lev < 0
          · go_wp2_with fail
            try go_wp2_with fail
            refine (awake12_any Wb).mono ?_
            rintro e w6 ⟨rfl, hb6⟩
            have hw6 := hbw.out.trans (hb6.mono hbw.out.size)
            clear hb6
            go_wp2_with fail
            try rw [Exit.noGoto_ret]
            go_ret
            exact ⟨rfl, hw6⟩
          by_cases hl4 : 40 < lev
          · go_wp2_with fail
            try go_wp2_with fail
            refine (awake12_any Wb).mono ?_
            rintro e w6 ⟨rfl, hb6⟩
            have hw6 := hbw.out.trans (hb6.mono hbw.out.size)
            clear hb6
            go_wp2_with fail
            try rw [Exit.noGoto_ret]
            go_ret
            exact ⟨rfl, hw6⟩
          go_wp2_with fail
          go_roundg q
          case measure => omega
          case rel => exact ⟨i + 1, by omega, by first | rfl | simp, (fun j g' hj hg' => by
            rcases Nat.lt_or_ge j i with h1 | h1
            · exact Ha.out j g' h1 hg'
            · have : j = i := by omega
              subst this
              have := Option.some.inj (hg'.symm.trans Hgi.out)
              subst this
              exact ⟨⟨hk1, hk7⟩, hl0, hl4⟩), hbw⟩
        | zero =>
          have hin : ¬ (i < n) := by omega
          have HLv : Hid (∀ (j : Nat) g, l[j]? = some g → (1 ≤ g.kind ∧ g.kind ≤ 7) ∧ 0 ≤ g.level ∧ g.level ≤ 40) := fun j g hg' => Ha.out j g (by have := (List.getElem?_eq_some_iff.1 hg').1; rw [← Hn.out] at this; omega) hg'
          have hwr := Hb
          clear Ha Hb hiq
          rcases Nat.eq_zero_or_pos n with hn0 | hpos
          · have Hn0 := Lib.hid hn0
            have hz : ((n : Int) == 0) = true := by rw [beq_iff_eq]; omega
            clear hn0 hin
            have hin : ¬ ((i : Int) < (n : Int)) := by rw [Hn0.out]; omega
            go_wp2_with fail
            try go_wp2_with fail
            refine (awake12_any wr).mono ?_
            rintro e w6 ⟨rfl, hb6⟩
            have hw6 := hwr.out.trans (hb6.mono hwr.out.size)
            clear hb6
            go_wp2_with fail
            try rw [Exit.noGoto_ret]
            go_ret
            exact ⟨rfl, hw6⟩
          have hz : ((n : Int) == 0) = false := by rw [beq_eq_false_iff_ne]; omega
          go_wp2_with fail
          obtain ⟨W3, hW3⟩ : ∃ W3, W3 = wr := ⟨_, rfl⟩
          rw [← hW3] at hwr ⊢
          clear hW3 hin
          go_loopg [5, 52] n (fun q s5 s52 wx => ∃ (i : Nat) (acc : ByteArray), i + q = n ∧ s52 = .int .i64 (i : Int) ∧ s5 = .string acc ∧ Hid (acc.size ≤ 68 * i + 9 * tk qG l i) ∧ Hid (Below w.heap.size w wx))
          case atStart => exact ⟨0, _, by omega, rfl, rfl, by show 0 ≤ _; omega, hwr.out⟩
          case round =>
            obtain ⟨i, acc, hiq, rfl, rfl, Ha, Hb⟩ := hrel
            have htk := tk_le qG l i
            rw [← Htot.out] at htk
            have hac : acc.size ≤ 68 * i + 9 * tot := by have := Ha.out; omega
            clear htk
            cases gk with
            | zero =>
              have hin : ¬ ((i : Int) < (n : Int)) := by omega
              have hac3 : acc.size ≤ 50000 := by omega
              obtain ⟨gl, hgl⟩ : ∃ g, l[n - 1]? = some g := ⟨_, List.getElem?_eq_getElem (by rw [← Hn.out]; omega)⟩
              obtain ⟨_, hl0, hl4⟩ := HLv.out (n - 1) gl hgl
              obtain ⟨g1, o1, lv, zv, rfl, q1, q2, _, q3, _, y1, _, _⟩ := gs_at Hr.out Hg.out (n - 1) gl hgl
              obtain ⟨ll, hll⟩ : ∃ m : Nat, gl.level = (m : Int) := ⟨gl.level.toNat, by omega⟩
              rw [hll] at y1 hl4
              have hll4 : ll ≤ 40 := by omega
              have x1 : wr.cell? ⟨g1, o1 + (n - 1) * 4 + 1, none⟩ = some (.int .i64 (ll : Int)) := keepc Hb.out q3 y1
              have hn1 : ((n : Int) - 1) = ((n - 1 : Nat) : Int) := by omega
              have hn2 : n - 1 < n := by omega
              clear y1 hgl hl0 hll hl4
              obtain ⟨Wr, rfl⟩ : ∃ Wr, Wr = wr := ⟨wr, rfl⟩
              go_wp2_with fail
              go_loopg [5, 138] ll (fun q s5 s138 wx => ∃ (k : Nat) (a2 : ByteArray), k + q = ll ∧ s138 = .int .i64 (k : Int) ∧ s5 = .string a2 ∧ a2.size = acc.size + k ∧ Wr = wx)
              case atStart => exact ⟨0, acc, by omega, rfl, rfl, rfl, rfl⟩
              case round =>
                obtain ⟨k, a2, hkq, rfl, rfl, ha2, hwx⟩ := hrel
                subst hwx
                cases gk with
                | succ q =>
                  have hk : k < ll := by omega
                  have hac4 : a2.size ≤ 60000 := by omega
                  go_wp2_with fail
                  go_roundg q
                  case measure => omega
                  case rel => exact ⟨k + 1, _, by omega, by first | rfl | simp, rfl, (by rw [ByteArray.size_append]; show a2.size + 1 = _; omega), rfl⟩
                | zero =>
                  have hk : ¬ (k < ll) := by omega
                  have hac4 : a2.size ≤ 60000 := by omega
                  clear x1
                  go_wp2_with fail
                  refine (parse_any a2 Wr (by omega)).mono ?_
                  rintro e w5 ⟨v5, at5, e5, rfl, h5, hb5⟩
                  have hw5 := Lib.hid (Hb.out.trans (hb5.mono Hb.out.size))
                  clear hb5
                  unfold parseRes at h5
                  cases hp : Wk.parse a2.data.toList with
                  | error k =>
                    rw [hp] at h5
                    obtain ⟨hv5, rfl, rfl⟩ := h5
                    cases hv5
                    clear hp
                    try go_wp2_with fail
                    refine (awake12_any w5).mono ?_
                    rintro e w6 ⟨rfl, hb6⟩
                    have hw6 := hw5.out.trans (hb6.mono hw5.out.size)
                    clear hb6
                    go_wp2_with fail
                    try rw [Exit.noGoto_ret]
                    go_ret
                    exact ⟨rfl, hw6⟩
                  | ok gs =>
                    rw [hp] at h5
                    obtain ⟨⟨R, ds, hv5, hg5⟩, rfl, rfl⟩ := h5
                    have Hpr := Lib.hid (Wk.parse_right a2 gs hp)
                    have Hd := Lib.hid (RdC.of hv5)
                    have Hgd := Lib.hid (GsC.of2 hg5)
                    obtain ⟨a5, c5, rfl, _⟩ := Hd.out.form
                    clear hp hv5 hg5
                    go_wp2_with fail
                    refine (equalL_any _ _ cs ds l (gs.map Wk.toA) w5 (by rw [← Hn.out]; exact Hr.out.call hw5.out) (Hg.out.call hw5.out) (by rw [List.length_map]; exact Hd.out) Hgd.out).mono ?_
                    rintro e w7 ⟨b, rfl, hb, hb7⟩
                    cases b with
                    | true =>
                      exact absurd (by rw [hb.out.1 rfl]; exact Wk.right_toA gs Hpr.out.1) HNR.out
                    | false =>
                      have hw7 := Lib.hid (hw5.out.trans (hb7.mono hw5.out.size))
                      clear hb hb7
                      try go_wp2_with fail
                      refine (awake12_any w7).mono ?_
                      rintro e w6 ⟨rfl, hb6⟩
                      have hw6 := hw7.out.trans (hb6.mono hw7.out.size)
                      clear hb6
                      go_wp2_with fail
                      try rw [Exit.noGoto_ret]
                      go_ret
                      exact ⟨rfl, hw6⟩
            | succ q =>
              have hin : i < n := by omega
              obtain ⟨g, hgi⟩ : ∃ g, l[i]? = some g := ⟨_, List.getElem?_eq_getElem (by rw [← Hn.out]; exact hin)⟩
              obtain ⟨⟨hk1, hk7⟩, hl0, hl4⟩ := HLv.out i g hgi
              obtain ⟨g1, o1, lv, zv, rfl, q1, q2, hB, q3, y0, y1, y2, y3⟩ := gs_at Hr.out Hg.out i g hgi
              have hsu := tk_succ qG l i g hgi
              have htl2 := tk_le qG l (i + 1)
              rw [← Htot.out] at htl2
              have hqg : qG g ≤ 400 := by omega
              have HSd : Hid (∀ (X : World) (on : Bool), Below w.heap.size w X → Calls Try.prog 17 #[gaV g lv zv, .bool on] X fun e w' => ∃ b : ByteArray, e = .returned (.string b) ∧ b.size ≤ 7 + 9 * qG g ∧ Below X.heap.size X w') := fun X on hX => said_any g on lv zv X (hB.call hX) (by omega)
              unfold gaV at HSd
              obtain ⟨vs, hvl, hl, hvs, hzs⟩ := hB
              obtain ⟨la, lc, rfl, hlm⟩ := hl.form
              obtain ⟨za, zc, rfl, hzm⟩ := hzs.form
              obtain ⟨kk, lev, ls, ss⟩ := g
              simp only at hvl hl hvs hzs y0 y1 y2 y3 hlm hzm hk1 hk7 hl0 hl4 HSd
              obtain ⟨lv, rfl⟩ : ∃ m : Nat, lev = (m : Int) := ⟨lev.toNat, by omega⟩
              have hlv : lv ≤ 40 := by omega
              obtain ⟨qg, hqgd⟩ : ∃ m, m = qG ⟨kk, (lv : Int), ls, ss⟩ := ⟨_, rfl⟩
              rw [← hqgd] at HSd hsu hqg
              have x0 : wr.cell? ⟨g1, o1 + i * 4, none⟩ = _ := keepc Hb.out q3 y0
              have x1 : wr.cell? ⟨g1, o1 + i * 4 + 1, none⟩ = _ := keepc Hb.out q3 y1
              have x2 : wr.cell? ⟨g1, o1 + i * 4 + 2, none⟩ = _ := keepc Hb.out q3 y2
              have x3 : wr.cell? ⟨g1, o1 + i * 4 + 3, none⟩ = _ := keepc Hb.out q3 y3
              have hszr := Hb.out.size
              obtain ⟨ln, hln⟩ : ∃ m, m = ls.length := ⟨_, rfl⟩
              obtain ⟨zn, hzn⟩ : ∃ m, m = ss.length := ⟨_, rfl⟩
              rw [← hln] at x2 HSd
              rw [← hzn] at x3 HSd
              obtain ⟨Wb, hWb⟩ : ∃ Wb, wr.alloc (.cells #[.int .i64 kk, .int .i64 (lv : Int), .slice la ln lc, .slice za zn zc] 40) = Wb := ⟨_, rfl⟩
              have B0 : Blk Wb wr.heap.size [.int .i64 kk, .int .i64 (lv : Int), .slice la ln lc, .slice za zn zc] 40 := hWb ▸ Blk.new wr _ _
              have hBw : Below wr.heap.size wr Wb := hWb ▸ (Below.refl _ wr).alloc (Nat.le_refl _) _
              have hbw := Lib.hid (Hb.out.trans (hBw.mono hszr))
              have hzb : wr.heap.size < Wb.heap.size := by rw [← hWb, World.size_alloc]; omega
              have b0 := B0.cell (j := 0) rfl
              have b1 := B0.cell (j := 1) rfl
              have b2 := B0.cell (j := 2) rfl
              have b3 := B0.cell (j := 3) rfl
              have HB0 := Lib.hid B0
              have Hsz : Hid (68 * (i + 1) + 9 * tk qG l (i + 1) = 68 * i + 9 * tk qG l i + 68 + 9 * qg) := by unfold Hid; rw [hsu]; omega
              obtain ⟨nmb, hnmb⟩ : ∃ b : ByteArray, b = ⟨(Wk.name kk).toArray⟩ := ⟨_, rfl⟩
              have hns : nmb.size ≤ 18 := by rw [hnmb, tok_size]; exact Wk.nm_le18 kk
              have HNm : Hid (∀ X : World, Calls Try.prog 16 #[.int .i64 kk] X fun e w' => e = .returned (.string nmb) ∧ Below X.heap.size X w') := fun X => by rw [hnmb]; exact name_any kk X
              clear hnmb
              have hi1w : IntKind.i64.wrap ((i : Int) + 1) = (i : Int) + 1 := IntWalk.i64_in _ ⟨by omega, by omega⟩
              clear B0 hBw y0 y1 y2 y3 hl hvs hzs hvl hln hzn hlm hzm hqgd hsu htl2
              obtain ⟨Wr, rfl⟩ : ∃ Wr, Wr = wr := ⟨wr, rfl⟩
              rcases Nat.eq_zero_or_pos i with hi0 | hpi
              · have Hi0 := Lib.hid hi0
                clear hi0
                have HA : Hid (acc.size ≤ 68 * i + 9 * tk qG l i + 41) := by unfold Hid; have := Ha.out; omega
                have hA3 : acc.size ≤ 39000 := by omega
                go_wp2_with fail
                clear x0 x1 x2 x3
                have hi0' : ¬ (0 < i) := by have := Hi0.out; omega
                go_quiet (fail)
                go_wp2_with fail
                obtain ⟨Wq, hWq⟩ : ∃ Wq, Wb.drewN nq = Wq := ⟨_, rfl⟩
                rw [hWq]
                have b0 : Wq.cell? ⟨Wr.heap.size, 0, none⟩ = some (.int .i64 kk) := by rw [← hWq]; exact b0
                have b1 : Wq.cell? ⟨Wr.heap.size, 1, none⟩ = some (.int .i64 (lv : Int)) := by rw [← hWq]; exact b1
                have b2 : Wq.cell? ⟨Wr.heap.size, 2, none⟩ = some (.slice la ln lc) := by rw [← hWq]; exact b2
                have b3 : Wq.cell? ⟨Wr.heap.size, 3, none⟩ = some (.slice za zn zc) := by rw [← hWq]; exact b3
                have hbq : Hid (Below w.heap.size w Wq) := hWq ▸ hbw.out.trans (below_drewN _ _ _)
                have hzq : Wr.heap.size < Wq.heap.size := by rw [← hWq]; exact hzb
                clear hWq
                go_loopg [5, 8] 0 (fun q s5 s8 wx => s8 = .int .i64 (lv : Int) ∧ s5 = .string acc ∧ Wq = wx)
                case atStart => exact ⟨rfl, rfl, rfl⟩
                case round =>
                  obtain ⟨rfl, rfl, hwx⟩ := hrel
                  subst hwx
                  go_wp2_with fail
                  go_quiet (fail)
                  go_wp2_with fail
                  obtain ⟨B, hBd⟩ : ∃ B : ByteArray, acc = B := ⟨_, rfl⟩
                  have HB : Hid (B.size ≤ 68 * i + 9 * tk qG l i + 42) := by unfold Hid; rw [← hBd]; skip; have := HA.out; omega
                  have hB5 : B.size ≤ 40000 := by rw [← hBd]; skip; omega
                  (try rw [hBd])
                  clear hBd
                  obtain ⟨Wt, hWt⟩ : ∃ Wt, Wq.drewN nq = Wt := ⟨_, rfl⟩
                  have c0 : Wt.cell? ⟨Wr.heap.size, 0, none⟩ = some (.int .i64 kk) := by rw [← hWt]; exact b0
                  have c1 : Wt.cell? ⟨Wr.heap.size, 1, none⟩ = some (.int .i64 (lv : Int)) := by rw [← hWt]; exact b1
                  have c2 : Wt.cell? ⟨Wr.heap.size, 2, none⟩ = some (.slice la ln lc) := by rw [← hWt]; exact b2
                  have c3 : Wt.cell? ⟨Wr.heap.size, 3, none⟩ = some (.slice za zn zc) := by rw [← hWt]; exact b3
                  have Hbt : Hid (Below w.heap.size w Wt) := hWt ▸ hbq.out.trans (below_drewN _ _ _)
                  have hszt : Wr.heap.size < Wt.heap.size := by rw [← hWt]; exact hzq
                  rw [hWt]
                  clear hWt b0 b1 b2 b3
                  have hwt := Hbt.out.size
                  have hq7 : ¬ (9223372036854775807 < nmb.size + 1) := by omega
                  have hq8 : ¬ ((9223372036854775807 : Int) < (nmb.size : Int) + 1) := by omega
                  rcases Nat.lt_or_ge (i + 1) n with hi2 | hi2
                  · have hil : ((i : Int) + 1) < (n : Int) := by omega
                    obtain ⟨gn, hgn⟩ : ∃ g, l[i + 1]? = some g := ⟨_, List.getElem?_eq_getElem (by rw [← Hn.out]; exact hi2)⟩
                    obtain ⟨g1n, o1n, lvn, zvn, en, _, _, _, q3n, _, y1n, _, _⟩ := gs_at Hr.out Hg.out (i + 1) gn hgn
                    cases en
                    have c4 : Wt.cell? ⟨g1, o1 + (i + 1) * 4 + 1, none⟩ = _ := keepc Hbt.out q3n y1n
                    obtain ⟨nl, hnl⟩ : ∃ m, m = gn.level := ⟨_, rfl⟩
                    rw [← hnl] at c4
                    have hq4 : g1 < Wt.heap.size := Nat.lt_of_lt_of_le q3 hwt
                    have hil0 : (0 : Int) ≤ (i : Int) + 1 := by omega
                    clear y1n hgn hnl
                    refine wp_region_held_drew (S := fun w' => w'.cell? ⟨Wr.heap.size, 0, none⟩ = some (.int .i64 kk) ∧ w'.cell? ⟨Wr.heap.size, 1, none⟩ = some (.int .i64 (lv : Int)) ∧ w'.cell? ⟨Wr.heap.size, 2, none⟩ = some (.slice la ln lc) ∧ w'.cell? ⟨Wr.heap.size, 3, none⟩ = some (.slice za zn zc) ∧ w'.cell? ⟨g1, o1 + (i + 1) * 4 + 1, none⟩ = some (.int .i64 nl)) (by kernel_rfl) ⟨c0, c1, c2, c3, c4⟩ (fun hHeld => ?_)
                    refine takeL 0 (v := ?_) rfl (by kernel_rfl) (by kernel_rfl) (by kernel_rfl) (fun _ _ _ h => h) (by rfl) (by assumption) ?hy0 ?_
                    case hy0 => (intro w hSw; (try dsimp only at hSw); go_simp; all_goals (with_reducible rfl))
                    (try simp only [Act.put, List.setIfInBounds_toArray, List.set_cons_zero, List.set_cons_succ])
                    refine takeL 1 (v := ?_) rfl (by kernel_rfl) (by kernel_rfl) (by kernel_rfl) (fun _ _ _ h => h) (by rfl) (by assumption) ?hy1 ?_
                    case hy1 => (intro w hSw; (try dsimp only at hSw); go_simp; all_goals (with_reducible rfl))
                    (try simp only [Act.put, List.setIfInBounds_toArray, List.set_cons_zero, List.set_cons_succ])
                    refine takeL 2 (v := ?_) rfl (by kernel_rfl) (by kernel_rfl) (by kernel_rfl) (fun _ _ _ h => h) (by rfl) (by assumption) ?hy2 ?_
                    case hy2 => (intro w hSw; (try dsimp only at hSw); go_simp; all_goals (with_reducible rfl))
                    (try simp only [Act.put, List.setIfInBounds_toArray, List.set_cons_zero, List.set_cons_succ])
                    refine takeL 5 (v := ?_) rfl (by kernel_rfl) (by kernel_rfl) (by kernel_rfl) (fun _ _ _ h => h) (by rfl) (by assumption) ?hy5 ?_
                    case hy5 => (intro w hSw; (try dsimp only at hSw); go_simp; all_goals (with_reducible rfl))
                    (try simp only [Act.put, List.setIfInBounds_toArray, List.set_cons_zero, List.set_cons_succ])
                    refine takeL 6 (v := ?_) rfl (by kernel_rfl) (by kernel_rfl) (by kernel_rfl) (fun _ _ _ h => h) (by rfl) (by assumption) ?hy6 ?_
                    case hy6 => (intro w hSw; (try dsimp only at hSw); go_simp; all_goals (with_reducible rfl))
                    (try simp only [Act.put, List.setIfInBounds_toArray, List.set_cons_zero, List.set_cons_succ])
                    refine takeL 7 (v := ?_) rfl (by kernel_rfl) (by kernel_rfl) (by kernel_rfl) (fun _ _ _ h => h) (by rfl) (by assumption) ?hy7 ?_
                    case hy7 => (intro w hSw; (try dsimp only at hSw); go_simp; all_goals (with_reducible rfl))
                    (try simp only [Act.put, List.setIfInBounds_toArray, List.set_cons_zero, List.set_cons_succ])
                    refine takeL 8 (v := ?_) rfl (by kernel_rfl) (by kernel_rfl) (by kernel_rfl) (fun _ _ _ h => h) (by rfl) (by assumption) ?hy8 ?_
                    case hy8 => (intro w hSw; (try dsimp only at hSw); go_simp; all_goals (with_reducible rfl))
                    (try simp only [Act.put, List.setIfInBounds_toArray, List.set_cons_zero, List.set_cons_succ])
                    refine takeL 9 (v := ?_) rfl (by kernel_rfl) (by kernel_rfl) (by kernel_rfl) (fun _ _ _ h => h) (by rfl) (by assumption) ?hy9 ?_
                    case hy9 => (intro w hSw; (try dsimp only at hSw); go_simp; all_goals (with_reducible rfl))
                    (try simp only [Act.put, List.setIfInBounds_toArray, List.set_cons_zero, List.set_cons_succ])
                    refine takeL 10 (v := ?_) rfl (by kernel_rfl) (by kernel_rfl) (by kernel_rfl) (fun _ _ _ h => h) (by rfl) (by assumption) ?hy10 ?_
                    case hy10 => (intro w hSw; (try dsimp only at hSw); go_simp; all_goals (with_reducible rfl))
                    (try simp only [Act.put, List.setIfInBounds_toArray, List.set_cons_zero, List.set_cons_succ])
                    refine consL 3 (by kernel_rfl) rfl (by rfl) (fun K hK => ?_)
                    go_simp
                    ((go_at_call 16; refine (HNm.out _).mono ?_; rintro e w5 ⟨rfl, hb5⟩; have hs5 : Wt.heap.size ≤ w5.heap.size := hb5.size; have d0 := keepc hb5 hszt c0; have d1 := keepc hb5 hszt c1; have d2 := keepc hb5 hszt c2; have d3 := keepc hb5 hszt c3; have d4 := keepc hb5 hq4 c4; have Hb5 : Hid (Below w.heap.size w w5) := (Hbt.out.drew).trans (hb5.mono hwt); clear hb5))
                    clear hHeld
                    refine hK.out _ _ ?hS3 (fun hHeld => ?_)
                    case hS3 => ((try dsimp only); ((first | exact ⟨c0, c1, c2, c3, c4⟩ | exact ⟨d0, d1, d2, d3, d4⟩ | exact ⟨e0, e1, e2, e3, e4⟩ | go_keep)))
                    clear hK K
                    (try simp only [Act.put, List.setIfInBounds_toArray, List.set_cons_zero, List.set_cons_succ])
                    refine takeL 11 (v := ?_) rfl (by kernel_rfl) (by kernel_rfl) (by kernel_rfl) (fun _ _ _ h => h) (by rfl) (by assumption) ?hy11 ?_
                    case hy11 => (intro w hSw; (try dsimp only at hSw); go_simp; all_goals (with_reducible rfl))
                    (try simp only [Act.put, List.setIfInBounds_toArray, List.set_cons_zero, List.set_cons_succ])
                    refine takeL 4 (v := ?_) rfl (by kernel_rfl) (by kernel_rfl) (by kernel_rfl) (fun _ _ _ h => h) (by rfl) (by assumption) ?hy4 ?_
                    case hy4 => (intro w hSw; (try dsimp only at hSw); go_simp; all_goals (with_reducible rfl))
                    (try simp only [Act.put, List.setIfInBounds_toArray, List.set_cons_zero, List.set_cons_succ])
                    refine takeL 12 (v := ?_) rfl (by kernel_rfl) (by kernel_rfl) (by kernel_rfl) (fun _ _ _ h => h) (by rfl) (by assumption) ?hy12 ?_
                    case hy12 => (intro w hSw; (try dsimp only at hSw); go_simp; all_goals (with_reducible rfl))
                    (try simp only [Act.put, List.setIfInBounds_toArray, List.set_cons_zero, List.set_cons_succ])
                    refine takeL 13 (v := ?_) rfl (by kernel_rfl) (by kernel_rfl) (by kernel_rfl) (fun _ _ _ h => h) (by rfl) (by assumption) ?hy13 ?_
                    case hy13 => (intro w hSw; (try dsimp only at hSw); go_simp; all_goals (with_reducible rfl))
                    (try simp only [Act.put, List.setIfInBounds_toArray, List.set_cons_zero, List.set_cons_succ])
                    refine takeL 14 (v := ?_) rfl (by kernel_rfl) (by kernel_rfl) (by kernel_rfl) (fun _ _ _ h => h) (by rfl) (by assumption) ?hy14 ?_
                    case hy14 => (intro w hSw; (try dsimp only at hSw); go_simp; all_goals (with_reducible rfl))
                    (try simp only [Act.put, List.setIfInBounds_toArray, List.set_cons_zero, List.set_cons_succ])
                    refine takeL 15 (v := ?_) rfl (by kernel_rfl) (by kernel_rfl) (by kernel_rfl) (fun _ _ _ h => h) (by rfl) (by assumption) ?hy15 ?_
                    case hy15 => (intro w hSw; (try dsimp only at hSw); go_simp; all_goals (with_reducible rfl))
                    (try simp only [Act.put, List.setIfInBounds_toArray, List.set_cons_zero, List.set_cons_succ])
                    refine takeL 16 (v := ?_) rfl (by kernel_rfl) (by kernel_rfl) (by kernel_rfl) (fun _ _ _ h => h) (by rfl) (by assumption) ?hy16 ?_
                    case hy16 => (intro w hSw; (try dsimp only at hSw); go_simp; all_goals (with_reducible rfl))
                    (try simp only [Act.put, List.setIfInBounds_toArray, List.set_cons_zero, List.set_cons_succ])
                    refine takeL 17 (v := ?_) rfl (by kernel_rfl) (by kernel_rfl) (by kernel_rfl) (fun _ _ _ h => h) (by rfl) (by assumption) ?hy17 ?_
                    case hy17 => (intro w hSw; (try dsimp only at hSw); go_simp; all_goals (with_reducible rfl))
                    (try simp only [Act.put, List.setIfInBounds_toArray, List.set_cons_zero, List.set_cons_succ])
                    refine takeL 18 (v := ?_) rfl (by kernel_rfl) (by kernel_rfl) (by kernel_rfl) (fun _ _ _ h => h) (by rfl) (by assumption) ?hy18 ?_
                    case hy18 => (intro w hSw; (try dsimp only at hSw); go_simp; all_goals (with_reducible rfl))
                    (try simp only [Act.put, List.setIfInBounds_toArray, List.set_cons_zero, List.set_cons_succ])
                    refine takeL 19 (v := ?_) rfl (by kernel_rfl) (by kernel_rfl) (by kernel_rfl) (fun _ _ _ h => h) (by rfl) (by assumption) ?hy19 ?_
                    case hy19 => (intro w hSw; (try dsimp only at hSw); go_simp; all_goals (with_reducible rfl))
                    (try simp only [Act.put, List.setIfInBounds_toArray, List.set_cons_zero, List.set_cons_succ])
                    refine takeL 20 (v := ?_) rfl (by kernel_rfl) (by kernel_rfl) (by kernel_rfl) (fun _ _ _ h => h) (by rfl) (by assumption) ?hy20 ?_
                    case hy20 => (intro w hSw; (try dsimp only at hSw); go_simp; all_goals (with_reducible rfl))
                    (try simp only [Act.put, List.setIfInBounds_toArray, List.set_cons_zero, List.set_cons_succ])
                    refine takeL 21 (v := ?_) rfl (by kernel_rfl) (by kernel_rfl) (by kernel_rfl) (fun _ _ _ h => h) (by rfl) (by assumption) ?hy21 ?_
                    case hy21 => (intro w hSw; (try dsimp only at hSw); go_simp; all_goals (with_reducible rfl))
                    (try simp only [Act.put, List.setIfInBounds_toArray, List.set_cons_zero, List.set_cons_succ])
                    refine consL 22 (by kernel_rfl) rfl (by rfl) (fun K hK => ?_)
                    go_simp
                    (go_at_call 17; refine (HSd.out _ _ (by first | exact Hb5.out | exact Hb5.out.drew)).mono ?_; rintro e w7 ⟨b, rfl, hbs, hb7⟩; have hbs2 : b.size ≤ 4000 := (by omega); have hq9 : ¬ (9223372036854775807 < nmb.size + 1 + b.size) := (by omega); have hq10 : ¬ (9223372036854775807 < B.size + (nmb.size + 1 + b.size)) := (by omega); have e0 := keepc hb7 (Nat.lt_of_lt_of_le hszt hs5) d0; have e1 := keepc hb7 (Nat.lt_of_lt_of_le hszt hs5) d1; have e2 := keepc hb7 (Nat.lt_of_lt_of_le hszt hs5) d2; have e3 := keepc hb7 (Nat.lt_of_lt_of_le hszt hs5) d3; have e4 := keepc hb7 (Nat.lt_of_lt_of_le hq4 hs5) d4; have Hb7 : Hid (Below w.heap.size w w7) := (by first | exact Hb5.out.trans (hb7.mono (Nat.le_trans hwt hs5)) | exact (Hb5.out.drew).trans (hb7.mono (Nat.le_trans hwt hs5))); clear hb7)
                    clear hHeld
                    refine hK.out _ _ ?hS22 (fun hHeld => ?_)
                    case hS22 => ((try dsimp only); ((first | exact ⟨c0, c1, c2, c3, c4⟩ | exact ⟨d0, d1, d2, d3, d4⟩ | exact ⟨e0, e1, e2, e3, e4⟩ | go_keep)))
                    clear hK K
                    (try simp only [Act.put, List.setIfInBounds_toArray, List.set_cons_zero, List.set_cons_succ])
                    refine takeL 23 (v := ?_) rfl (by kernel_rfl) (by kernel_rfl) (by kernel_rfl) (fun _ _ _ h => h) (by rfl) (by assumption) ?hy23 ?_
                    case hy23 => (intro w hSw; (try dsimp only at hSw); go_simp; all_goals (with_reducible rfl))
                    (try simp only [Act.put, List.setIfInBounds_toArray, List.set_cons_zero, List.set_cons_succ])
                    refine takeL 24 (v := ?_) rfl (by kernel_rfl) (by kernel_rfl) (by kernel_rfl) (fun _ _ _ h => h) (by rfl) (by assumption) ?hy24 ?_
                    case hy24 => (intro w hSw; (try dsimp only at hSw); go_simp; all_goals (with_reducible rfl))
                    (try simp only [Act.put, List.setIfInBounds_toArray, List.set_cons_zero, List.set_cons_succ])
                    refine takeL 25 (v := ?_) rfl (by kernel_rfl) (by kernel_rfl) (by kernel_rfl) (fun _ _ _ h => h) (by rfl) (by assumption) ?hy25 ?_
                    case hy25 => (intro w hSw; (try dsimp only at hSw); go_simp; all_goals (with_reducible rfl))
                    (try simp only [Act.put, List.setIfInBounds_toArray, List.set_cons_zero, List.set_cons_succ])
                    refine wpAnyH_done (by kernel_rfl) ?_ _
                    all_goals (
                      go_wp2_with fail
                      go_roundg q
                      case measure => omega
                      case rel => exact ⟨i + 1, _, by omega, by first | rfl | simp, rfl, (by unfold Hid; rw [Hsz.out]; refine sizeA _ _ _ _ _ ?_; show B.size + nmb.size + 1 + b.size ≤ _; have := HB.out; omega), Hb7⟩)
                  · have hil : ¬ (((i : Int) + 1) < (n : Int)) := by omega
                    have hi2 : ¬ (i + 1 < n) := by omega
                    refine wp_region_held_drew (S := fun w' => w'.cell? ⟨Wr.heap.size, 0, none⟩ = some (.int .i64 kk) ∧ w'.cell? ⟨Wr.heap.size, 1, none⟩ = some (.int .i64 (lv : Int)) ∧ w'.cell? ⟨Wr.heap.size, 2, none⟩ = some (.slice la ln lc) ∧ w'.cell? ⟨Wr.heap.size, 3, none⟩ = some (.slice za zn zc)) (by kernel_rfl) ⟨c0, c1, c2, c3⟩ (fun hHeld => ?_)
                    refine takeL 0 (v := ?_) rfl (by kernel_rfl) (by kernel_rfl) (by kernel_rfl) (fun _ _ _ h => h) (by rfl) (by assumption) ?hy0 ?_
                    case hy0 => (intro w hSw; (try dsimp only at hSw); go_simp; all_goals (with_reducible rfl))
                    (try simp only [Act.put, List.setIfInBounds_toArray, List.set_cons_zero, List.set_cons_succ])
                    refine takeL 1 (v := ?_) rfl (by kernel_rfl) (by kernel_rfl) (by kernel_rfl) (fun _ _ _ h => h) (by rfl) (by assumption) ?hy1 ?_
                    case hy1 => (intro w hSw; (try dsimp only at hSw); go_simp; all_goals (with_reducible rfl))
                    (try simp only [Act.put, List.setIfInBounds_toArray, List.set_cons_zero, List.set_cons_succ])
                    refine takeL 2 (v := ?_) rfl (by kernel_rfl) (by kernel_rfl) (by kernel_rfl) (fun _ _ _ h => h) (by rfl) (by assumption) ?hy2 ?_
                    case hy2 => (intro w hSw; (try dsimp only at hSw); go_simp; all_goals (with_reducible rfl))
                    (try simp only [Act.put, List.setIfInBounds_toArray, List.set_cons_zero, List.set_cons_succ])
                    refine takeL 5 (v := ?_) rfl (by kernel_rfl) (by kernel_rfl) (by kernel_rfl) (fun _ _ _ h => h) (by rfl) (by assumption) ?hy5 ?_
                    case hy5 => (intro w hSw; (try dsimp only at hSw); go_simp; all_goals (with_reducible rfl))
                    (try simp only [Act.put, List.setIfInBounds_toArray, List.set_cons_zero, List.set_cons_succ])
                    refine takeL 6 (v := ?_) rfl (by kernel_rfl) (by kernel_rfl) (by kernel_rfl) (fun _ _ _ h => h) (by rfl) (by assumption) ?hy6 ?_
                    case hy6 => (intro w hSw; (try dsimp only at hSw); go_simp; all_goals (with_reducible rfl))
                    (try simp only [Act.put, List.setIfInBounds_toArray, List.set_cons_zero, List.set_cons_succ])
                    refine takeL 7 (v := ?_) rfl (by kernel_rfl) (by kernel_rfl) (by kernel_rfl) (fun _ _ _ h => h) (by rfl) (by assumption) ?hy7 ?_
                    case hy7 => (intro w hSw; (try dsimp only at hSw); go_simp; all_goals (with_reducible rfl))
                    (try simp only [Act.put, List.setIfInBounds_toArray, List.set_cons_zero, List.set_cons_succ])
                    refine takeL 8 (v := ?_) rfl (by kernel_rfl) (by kernel_rfl) (by kernel_rfl) (fun _ _ _ h => h) (by rfl) (by assumption) ?hy8 ?_
                    case hy8 => (intro w hSw; (try dsimp only at hSw); go_simp; all_goals (with_reducible rfl))
                    (try simp only [Act.put, List.setIfInBounds_toArray, List.set_cons_zero, List.set_cons_succ])
                    refine takeL 9 (v := ?_) rfl (by kernel_rfl) (by kernel_rfl) (by kernel_rfl) (fun _ _ _ h => h) (by rfl) (by assumption) ?hy9 ?_
                    case hy9 => (intro w hSw; (try dsimp only at hSw); go_simp; all_goals (with_reducible rfl))
                    (try simp only [Act.put, List.setIfInBounds_toArray, List.set_cons_zero, List.set_cons_succ])
                    refine takeL 10 (v := ?_) rfl (by kernel_rfl) (by kernel_rfl) (by kernel_rfl) (fun _ _ _ h => h) (by rfl) (by assumption) ?hy10 ?_
                    case hy10 => (intro w hSw; (try dsimp only at hSw); go_simp; all_goals (with_reducible rfl))
                    (try simp only [Act.put, List.setIfInBounds_toArray, List.set_cons_zero, List.set_cons_succ])
                    refine consL 3 (by kernel_rfl) rfl (by rfl) (fun K hK => ?_)
                    go_simp
                    ((go_at_call 16; refine (HNm.out _).mono ?_; rintro e w5 ⟨rfl, hb5⟩; have hs5 : Wt.heap.size ≤ w5.heap.size := hb5.size; have d0 := keepc hb5 hszt c0; have d1 := keepc hb5 hszt c1; have d2 := keepc hb5 hszt c2; have d3 := keepc hb5 hszt c3; have Hb5 : Hid (Below w.heap.size w w5) := (Hbt.out.drew).trans (hb5.mono hwt); clear hb5))
                    clear hHeld
                    refine hK.out _ _ ?hS3 (fun hHeld => ?_)
                    case hS3 => ((try dsimp only); ((first | exact ⟨c0, c1, c2, c3⟩ | exact ⟨d0, d1, d2, d3⟩ | exact ⟨e0, e1, e2, e3⟩ | go_keep)))
                    clear hK K
                    (try simp only [Act.put, List.setIfInBounds_toArray, List.set_cons_zero, List.set_cons_succ])
                    refine takeL 11 (v := ?_) rfl (by kernel_rfl) (by kernel_rfl) (by kernel_rfl) (fun _ _ _ h => h) (by rfl) (by assumption) ?hy11 ?_
                    case hy11 => (intro w hSw; (try dsimp only at hSw); go_simp; all_goals (with_reducible rfl))
                    (try simp only [Act.put, List.setIfInBounds_toArray, List.set_cons_zero, List.set_cons_succ])
                    refine skipL 12 rfl (by kernel_rfl) (by kernel_rfl) (by kernel_rfl) (fun _ _ _ h => h) (by rfl) (by assumption) ?_
                    (try simp only [Act.put, List.setIfInBounds_toArray, List.set_cons_zero, List.set_cons_succ])
                    refine skipL 13 rfl (by kernel_rfl) (by kernel_rfl) (by kernel_rfl) (fun _ _ _ h => h) (by rfl) (by assumption) ?_
                    (try simp only [Act.put, List.setIfInBounds_toArray, List.set_cons_zero, List.set_cons_succ])
                    refine skipL 14 rfl (by kernel_rfl) (by kernel_rfl) (by kernel_rfl) (fun _ _ _ h => h) (by rfl) (by assumption) ?_
                    (try simp only [Act.put, List.setIfInBounds_toArray, List.set_cons_zero, List.set_cons_succ])
                    refine skipL 15 rfl (by kernel_rfl) (by kernel_rfl) (by kernel_rfl) (fun _ _ _ h => h) (by rfl) (by assumption) ?_
                    (try simp only [Act.put, List.setIfInBounds_toArray, List.set_cons_zero, List.set_cons_succ])
                    refine skipL 16 rfl (by kernel_rfl) (by kernel_rfl) (by kernel_rfl) (fun _ _ _ h => h) (by rfl) (by assumption) ?_
                    (try simp only [Act.put, List.setIfInBounds_toArray, List.set_cons_zero, List.set_cons_succ])
                    refine skipL 17 rfl (by kernel_rfl) (by kernel_rfl) (by kernel_rfl) (fun _ _ _ h => h) (by rfl) (by assumption) ?_
                    (try simp only [Act.put, List.setIfInBounds_toArray, List.set_cons_zero, List.set_cons_succ])
                    refine skipL 18 rfl (by kernel_rfl) (by kernel_rfl) (by kernel_rfl) (fun _ _ _ h => h) (by rfl) (by assumption) ?_
                    (try simp only [Act.put, List.setIfInBounds_toArray, List.set_cons_zero, List.set_cons_succ])
                    refine skipL 19 rfl (by kernel_rfl) (by kernel_rfl) (by kernel_rfl) (fun _ _ _ h => h) (by rfl) (by assumption) ?_
                    (try simp only [Act.put, List.setIfInBounds_toArray, List.set_cons_zero, List.set_cons_succ])
                    refine skipL 20 rfl (by kernel_rfl) (by kernel_rfl) (by kernel_rfl) (fun _ _ _ h => h) (by rfl) (by assumption) ?_
                    (try simp only [Act.put, List.setIfInBounds_toArray, List.set_cons_zero, List.set_cons_succ])
                    refine takeL 4 (v := ?_) rfl (by kernel_rfl) (by kernel_rfl) (by kernel_rfl) (fun _ _ _ h => h) (by rfl) (by assumption) ?hy4 ?_
                    case hy4 => (intro w hSw; (try dsimp only at hSw); go_simp; all_goals (with_reducible rfl))
                    (try simp only [Act.put, List.setIfInBounds_toArray, List.set_cons_zero, List.set_cons_succ])
                    refine takeL 21 (v := ?_) rfl (by kernel_rfl) (by kernel_rfl) (by kernel_rfl) (fun _ _ _ h => h) (by rfl) (by assumption) ?hy21 ?_
                    case hy21 => (intro w hSw; (try dsimp only at hSw); go_simp; all_goals (with_reducible rfl))
                    (try simp only [Act.put, List.setIfInBounds_toArray, List.set_cons_zero, List.set_cons_succ])
                    refine consL 22 (by kernel_rfl) rfl (by rfl) (fun K hK => ?_)
                    go_simp
                    (go_at_call 17; refine (HSd.out _ _ (by first | exact Hb5.out | exact Hb5.out.drew)).mono ?_; rintro e w7 ⟨b, rfl, hbs, hb7⟩; have hbs2 : b.size ≤ 4000 := (by omega); have hq9 : ¬ (9223372036854775807 < nmb.size + 1 + b.size) := (by omega); have hq10 : ¬ (9223372036854775807 < B.size + (nmb.size + 1 + b.size)) := (by omega); have e0 := keepc hb7 (Nat.lt_of_lt_of_le hszt hs5) d0; have e1 := keepc hb7 (Nat.lt_of_lt_of_le hszt hs5) d1; have e2 := keepc hb7 (Nat.lt_of_lt_of_le hszt hs5) d2; have e3 := keepc hb7 (Nat.lt_of_lt_of_le hszt hs5) d3; have Hb7 : Hid (Below w.heap.size w w7) := (by first | exact Hb5.out.trans (hb7.mono (Nat.le_trans hwt hs5)) | exact (Hb5.out.drew).trans (hb7.mono (Nat.le_trans hwt hs5))); clear hb7)
                    clear hHeld
                    refine hK.out _ _ ?hS22 (fun hHeld => ?_)
                    case hS22 => ((try dsimp only); ((first | exact ⟨c0, c1, c2, c3⟩ | exact ⟨d0, d1, d2, d3⟩ | exact ⟨e0, e1, e2, e3⟩ | go_keep)))
                    clear hK K
                    (try simp only [Act.put, List.setIfInBounds_toArray, List.set_cons_zero, List.set_cons_succ])
                    refine takeL 23 (v := ?_) rfl (by kernel_rfl) (by kernel_rfl) (by kernel_rfl) (fun _ _ _ h => h) (by rfl) (by assumption) ?hy23 ?_
                    case hy23 => (intro w hSw; (try dsimp only at hSw); go_simp; all_goals (with_reducible rfl))
                    (try simp only [Act.put, List.setIfInBounds_toArray, List.set_cons_zero, List.set_cons_succ])
                    refine takeL 24 (v := ?_) rfl (by kernel_rfl) (by kernel_rfl) (by kernel_rfl) (fun _ _ _ h => h) (by rfl) (by assumption) ?hy24 ?_
                    case hy24 => (intro w hSw; (try dsimp only at hSw); go_simp; all_goals (with_reducible rfl))
                    (try simp only [Act.put, List.setIfInBounds_toArray, List.set_cons_zero, List.set_cons_succ])
                    refine takeL 25 (v := ?_) rfl (by kernel_rfl) (by kernel_rfl) (by kernel_rfl) (fun _ _ _ h => h) (by rfl) (by assumption) ?hy25 ?_
                    case hy25 => (intro w hSw; (try dsimp only at hSw); go_simp; all_goals (with_reducible rfl))
                    (try simp only [Act.put, List.setIfInBounds_toArray, List.set_cons_zero, List.set_cons_succ])
                    refine wpAnyH_done (by kernel_rfl) ?_ _
                    all_goals (
                      go_wp2_with fail
                      go_roundg q
                      case measure => omega
                      case rel => exact ⟨i + 1, _, by omega, by first | rfl | simp, rfl, (by unfold Hid; rw [Hsz.out]; refine sizeA _ _ _ _ _ ?_; show B.size + nmb.size + 1 + b.size ≤ _; have := HB.out; omega), Hb7⟩)
              · obtain ⟨p, hp⟩ : ∃ p, l[i - 1]? = some p := ⟨_, List.getElem?_eq_getElem (by rw [← Hn.out]; omega)⟩
                obtain ⟨_, hp0, hp4⟩ := HLv.out (i - 1) p hp
                obtain ⟨g1p, o1p, lvp, zvp, ep, _, _, _, q3p, _, y1p, _, _⟩ := gs_at Hr.out Hg.out (i - 1) p hp
                cases ep
                obtain ⟨pl, hpl⟩ : ∃ m : Nat, p.level = (m : Int) := ⟨p.level.toNat, by omega⟩
                rw [hpl] at y1p hp4
                have hpl4 : pl ≤ 40 := by omega
                have p1 : Wb.cell? ⟨g1, o1 + (i - 1) * 4 + 1, none⟩ = some (.int .i64 (pl : Int)) := keepc hbw.out q3p y1p
                have hi1 : ((i : Int) - 1) = ((i - 1 : Nat) : Int) := by omega
                have hiM : i - 1 < n := by omega
                have hi0 : (0 : Int) < (i : Int) := by omega
                clear y1p hp hpl hp0 hp4
                by_cases hgt : pl < lv
                · have hgt2 : (pl : Int) < (lv : Int) := by omega
                  have hgt3 : ¬ (lv < pl) := by omega
                  have hgt4 : ¬ (lv ≤ pl) := by omega
                  have hac5 : acc.size ≤ 39000 := by omega
                  go_wp2_with fail
                  clear x0 x1 x2 x3
                  go_quiet (fail)
                  go_wp2_with fail
                  obtain ⟨Wq, hWq⟩ : ∃ Wq, Wb.drewN nq = Wq := ⟨_, rfl⟩
                  rw [hWq]
                  have b0 : Wq.cell? ⟨Wr.heap.size, 0, none⟩ = some (.int .i64 kk) := by rw [← hWq]; exact b0
                  have b1 : Wq.cell? ⟨Wr.heap.size, 1, none⟩ = some (.int .i64 (lv : Int)) := by rw [← hWq]; exact b1
                  have b2 : Wq.cell? ⟨Wr.heap.size, 2, none⟩ = some (.slice la ln lc) := by rw [← hWq]; exact b2
                  have b3 : Wq.cell? ⟨Wr.heap.size, 3, none⟩ = some (.slice za zn zc) := by rw [← hWq]; exact b3
                  have hbq : Hid (Below w.heap.size w Wq) := hWq ▸ hbw.out.trans (below_drewN _ _ _)
                  have hzq : Wr.heap.size < Wq.heap.size := by rw [← hWq]; exact hzb
                  have p1 : Wq.cell? ⟨g1, o1 + (i - 1) * 4 + 1, none⟩ = some (.int .i64 (pl : Int)) := by rw [← hWq]; exact p1
                  obtain ⟨A, hA⟩ : ∃ A : ByteArray, (acc ++ (⟨#[40]⟩ : ByteArray) : ByteArray) = A := ⟨_, rfl⟩
                  have HA : Hid (A.size ≤ 68 * i + 9 * tk qG l i + 41) := by unfold Hid; rw [← hA, ByteArray.size_append]; show acc.size + 1 ≤ _; have := Ha.out; omega
                  have hA3 : A.size ≤ 39010 := by rw [← hA, ByteArray.size_append]; show acc.size + 1 ≤ _; omega
                  rw [hA]
                  clear hWq hA
                  go_loopg [5, 8] 0 (fun q s5 s8 wx => s8 = .int .i64 (lv : Int) ∧ s5 = .string A ∧ Wq = wx)
                  case atStart => exact ⟨rfl, rfl, rfl⟩
                  case round =>
                    obtain ⟨rfl, rfl, hwx⟩ := hrel
                    subst hwx
                    go_wp2_with fail
                    go_quiet (fail)
                    go_wp2_with fail
                    obtain ⟨B, hBd⟩ : ∃ B : ByteArray, A = B := ⟨_, rfl⟩
                    have HB : Hid (B.size ≤ 68 * i + 9 * tk qG l i + 42) := by unfold Hid; rw [← hBd]; skip; have := HA.out; omega
                    have hB5 : B.size ≤ 40000 := by rw [← hBd]; skip; omega
                    (try rw [hBd])
                    clear hBd
                    obtain ⟨Wt, hWt⟩ : ∃ Wt, Wq.drewN nq = Wt := ⟨_, rfl⟩
                    have c0 : Wt.cell? ⟨Wr.heap.size, 0, none⟩ = some (.int .i64 kk) := by rw [← hWt]; exact b0
                    have c1 : Wt.cell? ⟨Wr.heap.size, 1, none⟩ = some (.int .i64 (lv : Int)) := by rw [← hWt]; exact b1
                    have c2 : Wt.cell? ⟨Wr.heap.size, 2, none⟩ = some (.slice la ln lc) := by rw [← hWt]; exact b2
                    have c3 : Wt.cell? ⟨Wr.heap.size, 3, none⟩ = some (.slice za zn zc) := by rw [← hWt]; exact b3
                    have Hbt : Hid (Below w.heap.size w Wt) := hWt ▸ hbq.out.trans (below_drewN _ _ _)
                    have hszt : Wr.heap.size < Wt.heap.size := by rw [← hWt]; exact hzq
                    rw [hWt]
                    clear hWt b0 b1 b2 b3
                    have hwt := Hbt.out.size
                    have hq7 : ¬ (9223372036854775807 < nmb.size + 1) := by omega
                    have hq8 : ¬ ((9223372036854775807 : Int) < (nmb.size : Int) + 1) := by omega
                    rcases Nat.lt_or_ge (i + 1) n with hi2 | hi2
                    · have hil : ((i : Int) + 1) < (n : Int) := by omega
                      obtain ⟨gn, hgn⟩ : ∃ g, l[i + 1]? = some g := ⟨_, List.getElem?_eq_getElem (by rw [← Hn.out]; exact hi2)⟩
                      obtain ⟨g1n, o1n, lvn, zvn, en, _, _, _, q3n, _, y1n, _, _⟩ := gs_at Hr.out Hg.out (i + 1) gn hgn
                      cases en
                      have c4 : Wt.cell? ⟨g1, o1 + (i + 1) * 4 + 1, none⟩ = _ := keepc Hbt.out q3n y1n
                      obtain ⟨nl, hnl⟩ : ∃ m, m = gn.level := ⟨_, rfl⟩
                      rw [← hnl] at c4
                      have hq4 : g1 < Wt.heap.size := Nat.lt_of_lt_of_le q3 hwt
                      have hil0 : (0 : Int) ≤ (i : Int) + 1 := by omega
                      clear y1n hgn hnl
                      refine wp_region_held_drew (S := fun w' => w'.cell? ⟨Wr.heap.size, 0, none⟩ = some (.int .i64 kk) ∧ w'.cell? ⟨Wr.heap.size, 1, none⟩ = some (.int .i64 (lv : Int)) ∧ w'.cell? ⟨Wr.heap.size, 2, none⟩ = some (.slice la ln lc) ∧ w'.cell? ⟨Wr.heap.size, 3, none⟩ = some (.slice za zn zc) ∧ w'.cell? ⟨g1, o1 + (i + 1) * 4 + 1, none⟩ = some (.int .i64 nl)) (by kernel_rfl) ⟨c0, c1, c2, c3, c4⟩ (fun hHeld => ?_)
                      refine takeL 0 (v := ?_) rfl (by kernel_rfl) (by kernel_rfl) (by kernel_rfl) (fun _ _ _ h => h) (by rfl) (by assumption) ?hy0 ?_
                      case hy0 => (intro w hSw; (try dsimp only at hSw); go_simp; all_goals (with_reducible rfl))
                      (try simp only [Act.put, List.setIfInBounds_toArray, List.set_cons_zero, List.set_cons_succ])
                      refine takeL 1 (v := ?_) rfl (by kernel_rfl) (by kernel_rfl) (by kernel_rfl) (fun _ _ _ h => h) (by rfl) (by assumption) ?hy1 ?_
                      case hy1 => (intro w hSw; (try dsimp only at hSw); go_simp; all_goals (with_reducible rfl))
                      (try simp only [Act.put, List.setIfInBounds_toArray, List.set_cons_zero, List.set_cons_succ])
                      refine takeL 2 (v := ?_) rfl (by kernel_rfl) (by kernel_rfl) (by kernel_rfl) (fun _ _ _ h => h) (by rfl) (by assumption) ?hy2 ?_
                      case hy2 => (intro w hSw; (try dsimp only at hSw); go_simp; all_goals (with_reducible rfl))
                      (try simp only [Act.put, List.setIfInBounds_toArray, List.set_cons_zero, List.set_cons_succ])
                      refine takeL 5 (v := ?_) rfl (by kernel_rfl) (by kernel_rfl) (by kernel_rfl) (fun _ _ _ h => h) (by rfl) (by assumption) ?hy5 ?_
                      case hy5 => (intro w hSw; (try dsimp only at hSw); go_simp; all_goals (with_reducible rfl))
                      (try simp only [Act.put, List.setIfInBounds_toArray, List.set_cons_zero, List.set_cons_succ])
                      refine takeL 6 (v := ?_) rfl (by kernel_rfl) (by kernel_rfl) (by kernel_rfl) (fun _ _ _ h => h) (by rfl) (by assumption) ?hy6 ?_
                      case hy6 => (intro w hSw; (try dsimp only at hSw); go_simp; all_goals (with_reducible rfl))
                      (try simp only [Act.put, List.setIfInBounds_toArray, List.set_cons_zero, List.set_cons_succ])
                      refine takeL 7 (v := ?_) rfl (by kernel_rfl) (by kernel_rfl) (by kernel_rfl) (fun _ _ _ h => h) (by rfl) (by assumption) ?hy7 ?_
                      case hy7 => (intro w hSw; (try dsimp only at hSw); go_simp; all_goals (with_reducible rfl))
                      (try simp only [Act.put, List.setIfInBounds_toArray, List.set_cons_zero, List.set_cons_succ])
                      refine takeL 8 (v := ?_) rfl (by kernel_rfl) (by kernel_rfl) (by kernel_rfl) (fun _ _ _ h => h) (by rfl) (by assumption) ?hy8 ?_
                      case hy8 => (intro w hSw; (try dsimp only at hSw); go_simp; all_goals (with_reducible rfl))
                      (try simp only [Act.put, List.setIfInBounds_toArray, List.set_cons_zero, List.set_cons_succ])
                      refine takeL 9 (v := ?_) rfl (by kernel_rfl) (by kernel_rfl) (by kernel_rfl) (fun _ _ _ h => h) (by rfl) (by assumption) ?hy9 ?_
                      case hy9 => (intro w hSw; (try dsimp only at hSw); go_simp; all_goals (with_reducible rfl))
                      (try simp only [Act.put, List.setIfInBounds_toArray, List.set_cons_zero, List.set_cons_succ])
                      refine takeL 10 (v := ?_) rfl (by kernel_rfl) (by kernel_rfl) (by kernel_rfl) (fun _ _ _ h => h) (by rfl) (by assumption) ?hy10 ?_
                      case hy10 => (intro w hSw; (try dsimp only at hSw); go_simp; all_goals (with_reducible rfl))
                      (try simp only [Act.put, List.setIfInBounds_toArray, List.set_cons_zero, List.set_cons_succ])
                      refine consL 3 (by kernel_rfl) rfl (by rfl) (fun K hK => ?_)
                      go_simp
                      ((go_at_call 16; refine (HNm.out _).mono ?_; rintro e w5 ⟨rfl, hb5⟩; have hs5 : Wt.heap.size ≤ w5.heap.size := hb5.size; have d0 := keepc hb5 hszt c0; have d1 := keepc hb5 hszt c1; have d2 := keepc hb5 hszt c2; have d3 := keepc hb5 hszt c3; have d4 := keepc hb5 hq4 c4; have Hb5 : Hid (Below w.heap.size w w5) := (Hbt.out.drew).trans (hb5.mono hwt); clear hb5))
                      clear hHeld
                      refine hK.out _ _ ?hS3 (fun hHeld => ?_)
                      case hS3 => ((try dsimp only); ((first | exact ⟨c0, c1, c2, c3, c4⟩ | exact ⟨d0, d1, d2, d3, d4⟩ | exact ⟨e0, e1, e2, e3, e4⟩ | go_keep)))
                      clear hK K
                      (try simp only [Act.put, List.setIfInBounds_toArray, List.set_cons_zero, List.set_cons_succ])
                      refine takeL 11 (v := ?_) rfl (by kernel_rfl) (by kernel_rfl) (by kernel_rfl) (fun _ _ _ h => h) (by rfl) (by assumption) ?hy11 ?_
                      case hy11 => (intro w hSw; (try dsimp only at hSw); go_simp; all_goals (with_reducible rfl))
                      (try simp only [Act.put, List.setIfInBounds_toArray, List.set_cons_zero, List.set_cons_succ])
                      refine takeL 4 (v := ?_) rfl (by kernel_rfl) (by kernel_rfl) (by kernel_rfl) (fun _ _ _ h => h) (by rfl) (by assumption) ?hy4 ?_
                      case hy4 => (intro w hSw; (try dsimp only at hSw); go_simp; all_goals (with_reducible rfl))
                      (try simp only [Act.put, List.setIfInBounds_toArray, List.set_cons_zero, List.set_cons_succ])
                      refine takeL 12 (v := ?_) rfl (by kernel_rfl) (by kernel_rfl) (by kernel_rfl) (fun _ _ _ h => h) (by rfl) (by assumption) ?hy12 ?_
                      case hy12 => (intro w hSw; (try dsimp only at hSw); go_simp; all_goals (with_reducible rfl))
                      (try simp only [Act.put, List.setIfInBounds_toArray, List.set_cons_zero, List.set_cons_succ])
                      refine takeL 13 (v := ?_) rfl (by kernel_rfl) (by kernel_rfl) (by kernel_rfl) (fun _ _ _ h => h) (by rfl) (by assumption) ?hy13 ?_
                      case hy13 => (intro w hSw; (try dsimp only at hSw); go_simp; all_goals (with_reducible rfl))
                      (try simp only [Act.put, List.setIfInBounds_toArray, List.set_cons_zero, List.set_cons_succ])
                      refine takeL 14 (v := ?_) rfl (by kernel_rfl) (by kernel_rfl) (by kernel_rfl) (fun _ _ _ h => h) (by rfl) (by assumption) ?hy14 ?_
                      case hy14 => (intro w hSw; (try dsimp only at hSw); go_simp; all_goals (with_reducible rfl))
                      (try simp only [Act.put, List.setIfInBounds_toArray, List.set_cons_zero, List.set_cons_succ])
                      refine takeL 15 (v := ?_) rfl (by kernel_rfl) (by kernel_rfl) (by kernel_rfl) (fun _ _ _ h => h) (by rfl) (by assumption) ?hy15 ?_
                      case hy15 => (intro w hSw; (try dsimp only at hSw); go_simp; all_goals (with_reducible rfl))
                      (try simp only [Act.put, List.setIfInBounds_toArray, List.set_cons_zero, List.set_cons_succ])
                      refine takeL 16 (v := ?_) rfl (by kernel_rfl) (by kernel_rfl) (by kernel_rfl) (fun _ _ _ h => h) (by rfl) (by assumption) ?hy16 ?_
                      case hy16 => (intro w hSw; (try dsimp only at hSw); go_simp; all_goals (with_reducible rfl))
                      (try simp only [Act.put, List.setIfInBounds_toArray, List.set_cons_zero, List.set_cons_succ])
                      refine takeL 17 (v := ?_) rfl (by kernel_rfl) (by kernel_rfl) (by kernel_rfl) (fun _ _ _ h => h) (by rfl) (by assumption) ?hy17 ?_
                      case hy17 => (intro w hSw; (try dsimp only at hSw); go_simp; all_goals (with_reducible rfl))
                      (try simp only [Act.put, List.setIfInBounds_toArray, List.set_cons_zero, List.set_cons_succ])
                      refine takeL 18 (v := ?_) rfl (by kernel_rfl) (by kernel_rfl) (by kernel_rfl) (fun _ _ _ h => h) (by rfl) (by assumption) ?hy18 ?_
                      case hy18 => (intro w hSw; (try dsimp only at hSw); go_simp; all_goals (with_reducible rfl))
                      (try simp only [Act.put, List.setIfInBounds_toArray, List.set_cons_zero, List.set_cons_succ])
                      refine takeL 19 (v := ?_) rfl (by kernel_rfl) (by kernel_rfl) (by kernel_rfl) (fun _ _ _ h => h) (by rfl) (by assumption) ?hy19 ?_
                      case hy19 => (intro w hSw; (try dsimp only at hSw); go_simp; all_goals (with_reducible rfl))
                      (try simp only [Act.put, List.setIfInBounds_toArray, List.set_cons_zero, List.set_cons_succ])
                      refine takeL 20 (v := ?_) rfl (by kernel_rfl) (by kernel_rfl) (by kernel_rfl) (fun _ _ _ h => h) (by rfl) (by assumption) ?hy20 ?_
                      case hy20 => (intro w hSw; (try dsimp only at hSw); go_simp; all_goals (with_reducible rfl))
                      (try simp only [Act.put, List.setIfInBounds_toArray, List.set_cons_zero, List.set_cons_succ])
                      refine takeL 21 (v := ?_) rfl (by kernel_rfl) (by kernel_rfl) (by kernel_rfl) (fun _ _ _ h => h) (by rfl) (by assumption) ?hy21 ?_
                      case hy21 => (intro w hSw; (try dsimp only at hSw); go_simp; all_goals (with_reducible rfl))
                      (try simp only [Act.put, List.setIfInBounds_toArray, List.set_cons_zero, List.set_cons_succ])
                      refine consL 22 (by kernel_rfl) rfl (by rfl) (fun K hK => ?_)
                      go_simp
                      (go_at_call 17; refine (HSd.out _ _ (by first | exact Hb5.out | exact Hb5.out.drew)).mono ?_; rintro e w7 ⟨b, rfl, hbs, hb7⟩; have hbs2 : b.size ≤ 4000 := (by omega); have hq9 : ¬ (9223372036854775807 < nmb.size + 1 + b.size) := (by omega); have hq10 : ¬ (9223372036854775807 < B.size + (nmb.size + 1 + b.size)) := (by omega); have e0 := keepc hb7 (Nat.lt_of_lt_of_le hszt hs5) d0; have e1 := keepc hb7 (Nat.lt_of_lt_of_le hszt hs5) d1; have e2 := keepc hb7 (Nat.lt_of_lt_of_le hszt hs5) d2; have e3 := keepc hb7 (Nat.lt_of_lt_of_le hszt hs5) d3; have e4 := keepc hb7 (Nat.lt_of_lt_of_le hq4 hs5) d4; have Hb7 : Hid (Below w.heap.size w w7) := (by first | exact Hb5.out.trans (hb7.mono (Nat.le_trans hwt hs5)) | exact (Hb5.out.drew).trans (hb7.mono (Nat.le_trans hwt hs5))); clear hb7)
                      clear hHeld
                      refine hK.out _ _ ?hS22 (fun hHeld => ?_)
                      case hS22 => ((try dsimp only); ((first | exact ⟨c0, c1, c2, c3, c4⟩ | exact ⟨d0, d1, d2, d3, d4⟩ | exact ⟨e0, e1, e2, e3, e4⟩ | go_keep)))
                      clear hK K
                      (try simp only [Act.put, List.setIfInBounds_toArray, List.set_cons_zero, List.set_cons_succ])
                      refine takeL 23 (v := ?_) rfl (by kernel_rfl) (by kernel_rfl) (by kernel_rfl) (fun _ _ _ h => h) (by rfl) (by assumption) ?hy23 ?_
                      case hy23 => (intro w hSw; (try dsimp only at hSw); go_simp; all_goals (with_reducible rfl))
                      (try simp only [Act.put, List.setIfInBounds_toArray, List.set_cons_zero, List.set_cons_succ])
                      refine takeL 24 (v := ?_) rfl (by kernel_rfl) (by kernel_rfl) (by kernel_rfl) (fun _ _ _ h => h) (by rfl) (by assumption) ?hy24 ?_
                      case hy24 => (intro w hSw; (try dsimp only at hSw); go_simp; all_goals (with_reducible rfl))
                      (try simp only [Act.put, List.setIfInBounds_toArray, List.set_cons_zero, List.set_cons_succ])
                      refine takeL 25 (v := ?_) rfl (by kernel_rfl) (by kernel_rfl) (by kernel_rfl) (fun _ _ _ h => h) (by rfl) (by assumption) ?hy25 ?_
                      case hy25 => (intro w hSw; (try dsimp only at hSw); go_simp; all_goals (with_reducible rfl))
                      (try simp only [Act.put, List.setIfInBounds_toArray, List.set_cons_zero, List.set_cons_succ])
                      refine wpAnyH_done (by kernel_rfl) ?_ _
                      all_goals (
                        go_wp2_with fail
                        go_roundg q
                        case measure => omega
                        case rel => exact ⟨i + 1, _, by omega, by first | rfl | simp, rfl, (by unfold Hid; rw [Hsz.out]; refine sizeA _ _ _ _ _ ?_; show B.size + nmb.size + 1 + b.size ≤ _; have := HB.out; omega), Hb7⟩)
                    · have hil : ¬ (((i : Int) + 1) < (n : Int)) := by omega
                      have hi2 : ¬ (i + 1 < n) := by omega
                      refine wp_region_held_drew (S := fun w' => w'.cell? ⟨Wr.heap.size, 0, none⟩ = some (.int .i64 kk) ∧ w'.cell? ⟨Wr.heap.size, 1, none⟩ = some (.int .i64 (lv : Int)) ∧ w'.cell? ⟨Wr.heap.size, 2, none⟩ = some (.slice la ln lc) ∧ w'.cell? ⟨Wr.heap.size, 3, none⟩ = some (.slice za zn zc)) (by kernel_rfl) ⟨c0, c1, c2, c3⟩ (fun hHeld => ?_)
                      refine takeL 0 (v := ?_) rfl (by kernel_rfl) (by kernel_rfl) (by kernel_rfl) (fun _ _ _ h => h) (by rfl) (by assumption) ?hy0 ?_
                      case hy0 => (intro w hSw; (try dsimp only at hSw); go_simp; all_goals (with_reducible rfl))
                      (try simp only [Act.put, List.setIfInBounds_toArray, List.set_cons_zero, List.set_cons_succ])
                      refine takeL 1 (v := ?_) rfl (by kernel_rfl) (by kernel_rfl) (by kernel_rfl) (fun _ _ _ h => h) (by rfl) (by assumption) ?hy1 ?_
                      case hy1 => (intro w hSw; (try dsimp only at hSw); go_simp; all_goals (with_reducible rfl))
                      (try simp only [Act.put, List.setIfInBounds_toArray, List.set_cons_zero, List.set_cons_succ])
                      refine takeL 2 (v := ?_) rfl (by kernel_rfl) (by kernel_rfl) (by kernel_rfl) (fun _ _ _ h => h) (by rfl) (by assumption) ?hy2 ?_
                      case hy2 => (intro w hSw; (try dsimp only at hSw); go_simp; all_goals (with_reducible rfl))
                      (try simp only [Act.put, List.setIfInBounds_toArray, List.set_cons_zero, List.set_cons_succ])
                      refine takeL 5 (v := ?_) rfl (by kernel_rfl) (by kernel_rfl) (by kernel_rfl) (fun _ _ _ h => h) (by rfl) (by assumption) ?hy5 ?_
                      case hy5 => (intro w hSw; (try dsimp only at hSw); go_simp; all_goals (with_reducible rfl))
                      (try simp only [Act.put, List.setIfInBounds_toArray, List.set_cons_zero, List.set_cons_succ])
                      refine takeL 6 (v := ?_) rfl (by kernel_rfl) (by kernel_rfl) (by kernel_rfl) (fun _ _ _ h => h) (by rfl) (by assumption) ?hy6 ?_
                      case hy6 => (intro w hSw; (try dsimp only at hSw); go_simp; all_goals (with_reducible rfl))
                      (try simp only [Act.put, List.setIfInBounds_toArray, List.set_cons_zero, List.set_cons_succ])
                      refine takeL 7 (v := ?_) rfl (by kernel_rfl) (by kernel_rfl) (by kernel_rfl) (fun _ _ _ h => h) (by rfl) (by assumption) ?hy7 ?_
                      case hy7 => (intro w hSw; (try dsimp only at hSw); go_simp; all_goals (with_reducible rfl))
                      (try simp only [Act.put, List.setIfInBounds_toArray, List.set_cons_zero, List.set_cons_succ])
                      refine takeL 8 (v := ?_) rfl (by kernel_rfl) (by kernel_rfl) (by kernel_rfl) (fun _ _ _ h => h) (by rfl) (by assumption) ?hy8 ?_
                      case hy8 => (intro w hSw; (try dsimp only at hSw); go_simp; all_goals (with_reducible rfl))
                      (try simp only [Act.put, List.setIfInBounds_toArray, List.set_cons_zero, List.set_cons_succ])
                      refine takeL 9 (v := ?_) rfl (by kernel_rfl) (by kernel_rfl) (by kernel_rfl) (fun _ _ _ h => h) (by rfl) (by assumption) ?hy9 ?_
                      case hy9 => (intro w hSw; (try dsimp only at hSw); go_simp; all_goals (with_reducible rfl))
                      (try simp only [Act.put, List.setIfInBounds_toArray, List.set_cons_zero, List.set_cons_succ])
                      refine takeL 10 (v := ?_) rfl (by kernel_rfl) (by kernel_rfl) (by kernel_rfl) (fun _ _ _ h => h) (by rfl) (by assumption) ?hy10 ?_
                      case hy10 => (intro w hSw; (try dsimp only at hSw); go_simp; all_goals (with_reducible rfl))
                      (try simp only [Act.put, List.setIfInBounds_toArray, List.set_cons_zero, List.set_cons_succ])
                      refine consL 3 (by kernel_rfl) rfl (by rfl) (fun K hK => ?_)
                      go_simp
                      ((go_at_call 16; refine (HNm.out _).mono ?_; rintro e w5 ⟨rfl, hb5⟩; have hs5 : Wt.heap.size ≤ w5.heap.size := hb5.size; have d0 := keepc hb5 hszt c0; have d1 := keepc hb5 hszt c1; have d2 := keepc hb5 hszt c2; have d3 := keepc hb5 hszt c3; have Hb5 : Hid (Below w.heap.size w w5) := (Hbt.out.drew).trans (hb5.mono hwt); clear hb5))
                      clear hHeld
                      refine hK.out _ _ ?hS3 (fun hHeld => ?_)
                      case hS3 => ((try dsimp only); ((first | exact ⟨c0, c1, c2, c3⟩ | exact ⟨d0, d1, d2, d3⟩ | exact ⟨e0, e1, e2, e3⟩ | go_keep)))
                      clear hK K
                      (try simp only [Act.put, List.setIfInBounds_toArray, List.set_cons_zero, List.set_cons_succ])
                      refine takeL 11 (v := ?_) rfl (by kernel_rfl) (by kernel_rfl) (by kernel_rfl) (fun _ _ _ h => h) (by rfl) (by assumption) ?hy11 ?_
                      case hy11 => (intro w hSw; (try dsimp only at hSw); go_simp; all_goals (with_reducible rfl))
                      (try simp only [Act.put, List.setIfInBounds_toArray, List.set_cons_zero, List.set_cons_succ])
                      refine skipL 12 rfl (by kernel_rfl) (by kernel_rfl) (by kernel_rfl) (fun _ _ _ h => h) (by rfl) (by assumption) ?_
                      (try simp only [Act.put, List.setIfInBounds_toArray, List.set_cons_zero, List.set_cons_succ])
                      refine skipL 13 rfl (by kernel_rfl) (by kernel_rfl) (by kernel_rfl) (fun _ _ _ h => h) (by rfl) (by assumption) ?_
                      (try simp only [Act.put, List.setIfInBounds_toArray, List.set_cons_zero, List.set_cons_succ])
                      refine skipL 14 rfl (by kernel_rfl) (by kernel_rfl) (by kernel_rfl) (fun _ _ _ h => h) (by rfl) (by assumption) ?_
                      (try simp only [Act.put, List.setIfInBounds_toArray, List.set_cons_zero, List.set_cons_succ])
                      refine skipL 15 rfl (by kernel_rfl) (by kernel_rfl) (by kernel_rfl) (fun _ _ _ h => h) (by rfl) (by assumption) ?_
                      (try simp only [Act.put, List.setIfInBounds_toArray, List.set_cons_zero, List.set_cons_succ])
                      refine skipL 16 rfl (by kernel_rfl) (by kernel_rfl) (by kernel_rfl) (fun _ _ _ h => h) (by rfl) (by assumption) ?_
                      (try simp only [Act.put, List.setIfInBounds_toArray, List.set_cons_zero, List.set_cons_succ])
                      refine skipL 17 rfl (by kernel_rfl) (by kernel_rfl) (by kernel_rfl) (fun _ _ _ h => h) (by rfl) (by assumption) ?_
                      (try simp only [Act.put, List.setIfInBounds_toArray, List.set_cons_zero, List.set_cons_succ])
                      refine skipL 18 rfl (by kernel_rfl) (by kernel_rfl) (by kernel_rfl) (fun _ _ _ h => h) (by rfl) (by assumption) ?_
                      (try simp only [Act.put, List.setIfInBounds_toArray, List.set_cons_zero, List.set_cons_succ])
                      refine skipL 19 rfl (by kernel_rfl) (by kernel_rfl) (by kernel_rfl) (fun _ _ _ h => h) (by rfl) (by assumption) ?_
                      (try simp only [Act.put, List.setIfInBounds_toArray, List.set_cons_zero, List.set_cons_succ])
                      refine skipL 20 rfl (by kernel_rfl) (by kernel_rfl) (by kernel_rfl) (fun _ _ _ h => h) (by rfl) (by assumption) ?_
                      (try simp only [Act.put, List.setIfInBounds_toArray, List.set_cons_zero, List.set_cons_succ])
                      refine takeL 4 (v := ?_) rfl (by kernel_rfl) (by kernel_rfl) (by kernel_rfl) (fun _ _ _ h => h) (by rfl) (by assumption) ?hy4 ?_
                      case hy4 => (intro w hSw; (try dsimp only at hSw); go_simp; all_goals (with_reducible rfl))
                      (try simp only [Act.put, List.setIfInBounds_toArray, List.set_cons_zero, List.set_cons_succ])
                      refine takeL 21 (v := ?_) rfl (by kernel_rfl) (by kernel_rfl) (by kernel_rfl) (fun _ _ _ h => h) (by rfl) (by assumption) ?hy21 ?_
                      case hy21 => (intro w hSw; (try dsimp only at hSw); go_simp; all_goals (with_reducible rfl))
                      (try simp only [Act.put, List.setIfInBounds_toArray, List.set_cons_zero, List.set_cons_succ])
                      refine consL 22 (by kernel_rfl) rfl (by rfl) (fun K hK => ?_)
                      go_simp
                      (go_at_call 17; refine (HSd.out _ _ (by first | exact Hb5.out | exact Hb5.out.drew)).mono ?_; rintro e w7 ⟨b, rfl, hbs, hb7⟩; have hbs2 : b.size ≤ 4000 := (by omega); have hq9 : ¬ (9223372036854775807 < nmb.size + 1 + b.size) := (by omega); have hq10 : ¬ (9223372036854775807 < B.size + (nmb.size + 1 + b.size)) := (by omega); have e0 := keepc hb7 (Nat.lt_of_lt_of_le hszt hs5) d0; have e1 := keepc hb7 (Nat.lt_of_lt_of_le hszt hs5) d1; have e2 := keepc hb7 (Nat.lt_of_lt_of_le hszt hs5) d2; have e3 := keepc hb7 (Nat.lt_of_lt_of_le hszt hs5) d3; have Hb7 : Hid (Below w.heap.size w w7) := (by first | exact Hb5.out.trans (hb7.mono (Nat.le_trans hwt hs5)) | exact (Hb5.out.drew).trans (hb7.mono (Nat.le_trans hwt hs5))); clear hb7)
                      clear hHeld
                      refine hK.out _ _ ?hS22 (fun hHeld => ?_)
                      case hS22 => ((try dsimp only); ((first | exact ⟨c0, c1, c2, c3⟩ | exact ⟨d0, d1, d2, d3⟩ | exact ⟨e0, e1, e2, e3⟩ | go_keep)))
                      clear hK K
                      (try simp only [Act.put, List.setIfInBounds_toArray, List.set_cons_zero, List.set_cons_succ])
                      refine takeL 23 (v := ?_) rfl (by kernel_rfl) (by kernel_rfl) (by kernel_rfl) (fun _ _ _ h => h) (by rfl) (by assumption) ?hy23 ?_
                      case hy23 => (intro w hSw; (try dsimp only at hSw); go_simp; all_goals (with_reducible rfl))
                      (try simp only [Act.put, List.setIfInBounds_toArray, List.set_cons_zero, List.set_cons_succ])
                      refine takeL 24 (v := ?_) rfl (by kernel_rfl) (by kernel_rfl) (by kernel_rfl) (fun _ _ _ h => h) (by rfl) (by assumption) ?hy24 ?_
                      case hy24 => (intro w hSw; (try dsimp only at hSw); go_simp; all_goals (with_reducible rfl))
                      (try simp only [Act.put, List.setIfInBounds_toArray, List.set_cons_zero, List.set_cons_succ])
                      refine takeL 25 (v := ?_) rfl (by kernel_rfl) (by kernel_rfl) (by kernel_rfl) (fun _ _ _ h => h) (by rfl) (by assumption) ?hy25 ?_
                      case hy25 => (intro w hSw; (try dsimp only at hSw); go_simp; all_goals (with_reducible rfl))
                      (try simp only [Act.put, List.setIfInBounds_toArray, List.set_cons_zero, List.set_cons_succ])
                      refine wpAnyH_done (by kernel_rfl) ?_ _
                      all_goals (
                        go_wp2_with fail
                        go_roundg q
                        case measure => omega
                        case rel => exact ⟨i + 1, _, by omega, by first | rfl | simp, rfl, (by unfold Hid; rw [Hsz.out]; refine sizeA _ _ _ _ _ ?_; show B.size + nmb.size + 1 + b.size ≤ _; have := HB.out; omega), Hb7⟩)
                · have hgt2 : ¬ ((pl : Int) < (lv : Int)) := by omega
                  have hgt4 : lv ≤ pl := by omega
                  have hgt5 : (lv : Int) ≤ (pl : Int) := by omega
                  have hac5 : acc.size ≤ 39000 := by omega
                  go_wp2_with fail
                  clear x0 x1 x2 x3
                  go_quiet (fail)
                  go_wp2_with fail
                  obtain ⟨Wq, hWq⟩ : ∃ Wq, Wb.drewN nq = Wq := ⟨_, rfl⟩
                  rw [hWq]
                  have b0 : Wq.cell? ⟨Wr.heap.size, 0, none⟩ = some (.int .i64 kk) := by rw [← hWq]; exact b0
                  have b1 : Wq.cell? ⟨Wr.heap.size, 1, none⟩ = some (.int .i64 (lv : Int)) := by rw [← hWq]; exact b1
                  have b2 : Wq.cell? ⟨Wr.heap.size, 2, none⟩ = some (.slice la ln lc) := by rw [← hWq]; exact b2
                  have b3 : Wq.cell? ⟨Wr.heap.size, 3, none⟩ = some (.slice za zn zc) := by rw [← hWq]; exact b3
                  have hbq : Hid (Below w.heap.size w Wq) := hWq ▸ hbw.out.trans (below_drewN _ _ _)
                  have hzq : Wr.heap.size < Wq.heap.size := by rw [← hWq]; exact hzb
                  have p1 : Wq.cell? ⟨g1, o1 + (i - 1) * 4 + 1, none⟩ = some (.int .i64 (pl : Int)) := by rw [← hWq]; exact p1
                  clear hWq
                  go_loopg [5, 8] (pl - lv) (fun q s5 s8 wx => ∃ (k : Nat) (a2 : ByteArray), k + q = pl ∧ s8 = .int .i64 (k : Int) ∧ s5 = .string a2 ∧ a2.size + lv = acc.size + k ∧ Wq = wx)
                  case atStart => exact ⟨lv, acc, by omega, rfl, rfl, rfl, rfl⟩
                  case round =>
                    obtain ⟨k, A, hkq, rfl, rfl, ha2, hwx⟩ := hrel
                    subst hwx
                    have hA3 : A.size ≤ 39040 := by omega
                    cases gk with
                    | succ q2 =>
                      have hk : k < pl := by omega
                      have hk2 : (k : Int) < (pl : Int) := by omega
                      go_wp2_with fail
                      go_roundg q2
                      case measure => omega
                      case rel => exact ⟨k + 1, _, by omega, by first | rfl | simp, rfl, (by rw [ByteArray.size_append]; show A.size + 1 + lv = _; omega), rfl⟩
                    | zero =>
                      have hk : ¬ (k < pl) := by omega
                      have hk2 : ¬ ((k : Int) < (pl : Int)) := by omega
                      have HA : Hid (A.size ≤ 68 * i + 9 * tk qG l i + 41) := by unfold Hid; have := Ha.out; omega
                      go_wp2_with fail
                      go_quiet (fail)
                      go_wp2_with fail
                      obtain ⟨B, hBd⟩ : ∃ B : ByteArray, (A ++ (⟨#[44]⟩ : ByteArray) : ByteArray) = B := ⟨_, rfl⟩
                      have HB : Hid (B.size ≤ 68 * i + 9 * tk qG l i + 42) := by unfold Hid; rw [← hBd]; rw [ByteArray.size_append]; show A.size + 1 ≤ _; have := HA.out; omega
                      have hB5 : B.size ≤ 40000 := by rw [← hBd]; rw [ByteArray.size_append]; show A.size + 1 ≤ _; omega
                      (try rw [hBd])
                      clear hBd
                      obtain ⟨Wt, hWt⟩ : ∃ Wt, Wq.drewN nq = Wt := ⟨_, rfl⟩
                      have c0 : Wt.cell? ⟨Wr.heap.size, 0, none⟩ = some (.int .i64 kk) := by rw [← hWt]; exact b0
                      have c1 : Wt.cell? ⟨Wr.heap.size, 1, none⟩ = some (.int .i64 (lv : Int)) := by rw [← hWt]; exact b1
                      have c2 : Wt.cell? ⟨Wr.heap.size, 2, none⟩ = some (.slice la ln lc) := by rw [← hWt]; exact b2
                      have c3 : Wt.cell? ⟨Wr.heap.size, 3, none⟩ = some (.slice za zn zc) := by rw [← hWt]; exact b3
                      have Hbt : Hid (Below w.heap.size w Wt) := hWt ▸ hbq.out.trans (below_drewN _ _ _)
                      have hszt : Wr.heap.size < Wt.heap.size := by rw [← hWt]; exact hzq
                      rw [hWt]
                      clear hWt b0 b1 b2 b3
                      have hwt := Hbt.out.size
                      have hq7 : ¬ (9223372036854775807 < nmb.size + 1) := by omega
                      have hq8 : ¬ ((9223372036854775807 : Int) < (nmb.size : Int) + 1) := by omega
                      rcases Nat.lt_or_ge (i + 1) n with hi2 | hi2
                      · have hil : ((i : Int) + 1) < (n : Int) := by omega
                        obtain ⟨gn, hgn⟩ : ∃ g, l[i + 1]? = some g := ⟨_, List.getElem?_eq_getElem (by rw [← Hn.out]; exact hi2)⟩
                        obtain ⟨g1n, o1n, lvn, zvn, en, _, _, _, q3n, _, y1n, _, _⟩ := gs_at Hr.out Hg.out (i + 1) gn hgn
                        cases en
                        have c4 : Wt.cell? ⟨g1, o1 + (i + 1) * 4 + 1, none⟩ = _ := keepc Hbt.out q3n y1n
                        obtain ⟨nl, hnl⟩ : ∃ m, m = gn.level := ⟨_, rfl⟩
                        rw [← hnl] at c4
                        have hq4 : g1 < Wt.heap.size := Nat.lt_of_lt_of_le q3 hwt
                        have hil0 : (0 : Int) ≤ (i : Int) + 1 := by omega
                        clear y1n hgn hnl
                        refine wp_region_held_drew (S := fun w' => w'.cell? ⟨Wr.heap.size, 0, none⟩ = some (.int .i64 kk) ∧ w'.cell? ⟨Wr.heap.size, 1, none⟩ = some (.int .i64 (lv : Int)) ∧ w'.cell? ⟨Wr.heap.size, 2, none⟩ = some (.slice la ln lc) ∧ w'.cell? ⟨Wr.heap.size, 3, none⟩ = some (.slice za zn zc) ∧ w'.cell? ⟨g1, o1 + (i + 1) * 4 + 1, none⟩ = some (.int .i64 nl)) (by kernel_rfl) ⟨c0, c1, c2, c3, c4⟩ (fun hHeld => ?_)
                        refine takeL 0 (v := ?_) rfl (by kernel_rfl) (by kernel_rfl) (by kernel_rfl) (fun _ _ _ h => h) (by rfl) (by assumption) ?hy0 ?_
                        case hy0 => (intro w hSw; (try dsimp only at hSw); go_simp; all_goals (with_reducible rfl))
                        (try simp only [Act.put, List.setIfInBounds_toArray, List.set_cons_zero, List.set_cons_succ])
                        refine takeL 1 (v := ?_) rfl (by kernel_rfl) (by kernel_rfl) (by kernel_rfl) (fun _ _ _ h => h) (by rfl) (by assumption) ?hy1 ?_
                        case hy1 => (intro w hSw; (try dsimp only at hSw); go_simp; all_goals (with_reducible rfl))
                        (try simp only [Act.put, List.setIfInBounds_toArray, List.set_cons_zero, List.set_cons_succ])
                        refine takeL 2 (v := ?_) rfl (by kernel_rfl) (by kernel_rfl) (by kernel_rfl) (fun _ _ _ h => h) (by rfl) (by assumption) ?hy2 ?_
                        case hy2 => (intro w hSw; (try dsimp only at hSw); go_simp; all_goals (with_reducible rfl))
                        (try simp only [Act.put, List.setIfInBounds_toArray, List.set_cons_zero, List.set_cons_succ])
                        refine takeL 5 (v := ?_) rfl (by kernel_rfl) (by kernel_rfl) (by kernel_rfl) (fun _ _ _ h => h) (by rfl) (by assumption) ?hy5 ?_
                        case hy5 => (intro w hSw; (try dsimp only at hSw); go_simp; all_goals (with_reducible rfl))
                        (try simp only [Act.put, List.setIfInBounds_toArray, List.set_cons_zero, List.set_cons_succ])
                        refine takeL 6 (v := ?_) rfl (by kernel_rfl) (by kernel_rfl) (by kernel_rfl) (fun _ _ _ h => h) (by rfl) (by assumption) ?hy6 ?_
                        case hy6 => (intro w hSw; (try dsimp only at hSw); go_simp; all_goals (with_reducible rfl))
                        (try simp only [Act.put, List.setIfInBounds_toArray, List.set_cons_zero, List.set_cons_succ])
                        refine takeL 7 (v := ?_) rfl (by kernel_rfl) (by kernel_rfl) (by kernel_rfl) (fun _ _ _ h => h) (by rfl) (by assumption) ?hy7 ?_
                        case hy7 => (intro w hSw; (try dsimp only at hSw); go_simp; all_goals (with_reducible rfl))
                        (try simp only [Act.put, List.setIfInBounds_toArray, List.set_cons_zero, List.set_cons_succ])
                        refine takeL 8 (v := ?_) rfl (by kernel_rfl) (by kernel_rfl) (by kernel_rfl) (fun _ _ _ h => h) (by rfl) (by assumption) ?hy8 ?_
                        case hy8 => (intro w hSw; (try dsimp only at hSw); go_simp; all_goals (with_reducible rfl))
                        (try simp only [Act.put, List.setIfInBounds_toArray, List.set_cons_zero, List.set_cons_succ])
                        refine takeL 9 (v := ?_) rfl (by kernel_rfl) (by kernel_rfl) (by kernel_rfl) (fun _ _ _ h => h) (by rfl) (by assumption) ?hy9 ?_
                        case hy9 => (intro w hSw; (try dsimp only at hSw); go_simp; all_goals (with_reducible rfl))
                        (try simp only [Act.put, List.setIfInBounds_toArray, List.set_cons_zero, List.set_cons_succ])
                        refine takeL 10 (v := ?_) rfl (by kernel_rfl) (by kernel_rfl) (by kernel_rfl) (fun _ _ _ h => h) (by rfl) (by assumption) ?hy10 ?_
                        case hy10 => (intro w hSw; (try dsimp only at hSw); go_simp; all_goals (with_reducible rfl))
                        (try simp only [Act.put, List.setIfInBounds_toArray, List.set_cons_zero, List.set_cons_succ])
                        refine consL 3 (by kernel_rfl) rfl (by rfl) (fun K hK => ?_)
                        go_simp
                        ((go_at_call 16; refine (HNm.out _).mono ?_; rintro e w5 ⟨rfl, hb5⟩; have hs5 : Wt.heap.size ≤ w5.heap.size := hb5.size; have d0 := keepc hb5 hszt c0; have d1 := keepc hb5 hszt c1; have d2 := keepc hb5 hszt c2; have d3 := keepc hb5 hszt c3; have d4 := keepc hb5 hq4 c4; have Hb5 : Hid (Below w.heap.size w w5) := (Hbt.out.drew).trans (hb5.mono hwt); clear hb5))
                        clear hHeld
                        refine hK.out _ _ ?hS3 (fun hHeld => ?_)
                        case hS3 => ((try dsimp only); ((first | exact ⟨c0, c1, c2, c3, c4⟩ | exact ⟨d0, d1, d2, d3, d4⟩ | exact ⟨e0, e1, e2, e3, e4⟩ | go_keep)))
                        clear hK K
                        (try simp only [Act.put, List.setIfInBounds_toArray, List.set_cons_zero, List.set_cons_succ])
                        refine takeL 11 (v := ?_) rfl (by kernel_rfl) (by kernel_rfl) (by kernel_rfl) (fun _ _ _ h => h) (by rfl) (by assumption) ?hy11 ?_
                        case hy11 => (intro w hSw; (try dsimp only at hSw); go_simp; all_goals (with_reducible rfl))
                        (try simp only [Act.put, List.setIfInBounds_toArray, List.set_cons_zero, List.set_cons_succ])
                        refine takeL 4 (v := ?_) rfl (by kernel_rfl) (by kernel_rfl) (by kernel_rfl) (fun _ _ _ h => h) (by rfl) (by assumption) ?hy4 ?_
                        case hy4 => (intro w hSw; (try dsimp only at hSw); go_simp; all_goals (with_reducible rfl))
                        (try simp only [Act.put, List.setIfInBounds_toArray, List.set_cons_zero, List.set_cons_succ])
                        refine takeL 12 (v := ?_) rfl (by kernel_rfl) (by kernel_rfl) (by kernel_rfl) (fun _ _ _ h => h) (by rfl) (by assumption) ?hy12 ?_
                        case hy12 => (intro w hSw; (try dsimp only at hSw); go_simp; all_goals (with_reducible rfl))
                        (try simp only [Act.put, List.setIfInBounds_toArray, List.set_cons_zero, List.set_cons_succ])
                        refine takeL 13 (v := ?_) rfl (by kernel_rfl) (by kernel_rfl) (by kernel_rfl) (fun _ _ _ h => h) (by rfl) (by assumption) ?hy13 ?_
                        case hy13 => (intro w hSw; (try dsimp only at hSw); go_simp; all_goals (with_reducible rfl))
                        (try simp only [Act.put, List.setIfInBounds_toArray, List.set_cons_zero, List.set_cons_succ])
                        refine takeL 14 (v := ?_) rfl (by kernel_rfl) (by kernel_rfl) (by kernel_rfl) (fun _ _ _ h => h) (by rfl) (by assumption) ?hy14 ?_
                        case hy14 => (intro w hSw; (try dsimp only at hSw); go_simp; all_goals (with_reducible rfl))
                        (try simp only [Act.put, List.setIfInBounds_toArray, List.set_cons_zero, List.set_cons_succ])
                        refine takeL 15 (v := ?_) rfl (by kernel_rfl) (by kernel_rfl) (by kernel_rfl) (fun _ _ _ h => h) (by rfl) (by assumption) ?hy15 ?_
                        case hy15 => (intro w hSw; (try dsimp only at hSw); go_simp; all_goals (with_reducible rfl))
                        (try simp only [Act.put, List.setIfInBounds_toArray, List.set_cons_zero, List.set_cons_succ])
                        refine takeL 16 (v := ?_) rfl (by kernel_rfl) (by kernel_rfl) (by kernel_rfl) (fun _ _ _ h => h) (by rfl) (by assumption) ?hy16 ?_
                        case hy16 => (intro w hSw; (try dsimp only at hSw); go_simp; all_goals (with_reducible rfl))
                        (try simp only [Act.put, List.setIfInBounds_toArray, List.set_cons_zero, List.set_cons_succ])
                        refine takeL 17 (v := ?_) rfl (by kernel_rfl) (by kernel_rfl) (by kernel_rfl) (fun _ _ _ h => h) (by rfl) (by assumption) ?hy17 ?_
                        case hy17 => (intro w hSw; (try dsimp only at hSw); go_simp; all_goals (with_reducible rfl))
                        (try simp only [Act.put, List.setIfInBounds_toArray, List.set_cons_zero, List.set_cons_succ])
                        refine takeL 18 (v := ?_) rfl (by kernel_rfl) (by kernel_rfl) (by kernel_rfl) (fun _ _ _ h => h) (by rfl) (by assumption) ?hy18 ?_
                        case hy18 => (intro w hSw; (try dsimp only at hSw); go_simp; all_goals (with_reducible rfl))
                        (try simp only [Act.put, List.setIfInBounds_toArray, List.set_cons_zero, List.set_cons_succ])
                        refine takeL 19 (v := ?_) rfl (by kernel_rfl) (by kernel_rfl) (by kernel_rfl) (fun _ _ _ h => h) (by rfl) (by assumption) ?hy19 ?_
                        case hy19 => (intro w hSw; (try dsimp only at hSw); go_simp; all_goals (with_reducible rfl))
                        (try simp only [Act.put, List.setIfInBounds_toArray, List.set_cons_zero, List.set_cons_succ])
                        refine takeL 20 (v := ?_) rfl (by kernel_rfl) (by kernel_rfl) (by kernel_rfl) (fun _ _ _ h => h) (by rfl) (by assumption) ?hy20 ?_
                        case hy20 => (intro w hSw; (try dsimp only at hSw); go_simp; all_goals (with_reducible rfl))
                        (try simp only [Act.put, List.setIfInBounds_toArray, List.set_cons_zero, List.set_cons_succ])
                        refine takeL 21 (v := ?_) rfl (by kernel_rfl) (by kernel_rfl) (by kernel_rfl) (fun _ _ _ h => h) (by rfl) (by assumption) ?hy21 ?_
                        case hy21 => (intro w hSw; (try dsimp only at hSw); go_simp; all_goals (with_reducible rfl))
                        (try simp only [Act.put, List.setIfInBounds_toArray, List.set_cons_zero, List.set_cons_succ])
                        refine consL 22 (by kernel_rfl) rfl (by rfl) (fun K hK => ?_)
                        go_simp
                        (go_at_call 17; refine (HSd.out _ _ (by first | exact Hb5.out | exact Hb5.out.drew)).mono ?_; rintro e w7 ⟨b, rfl, hbs, hb7⟩; have hbs2 : b.size ≤ 4000 := (by omega); have hq9 : ¬ (9223372036854775807 < nmb.size + 1 + b.size) := (by omega); have hq10 : ¬ (9223372036854775807 < B.size + (nmb.size + 1 + b.size)) := (by omega); have e0 := keepc hb7 (Nat.lt_of_lt_of_le hszt hs5) d0; have e1 := keepc hb7 (Nat.lt_of_lt_of_le hszt hs5) d1; have e2 := keepc hb7 (Nat.lt_of_lt_of_le hszt hs5) d2; have e3 := keepc hb7 (Nat.lt_of_lt_of_le hszt hs5) d3; have e4 := keepc hb7 (Nat.lt_of_lt_of_le hq4 hs5) d4; have Hb7 : Hid (Below w.heap.size w w7) := (by first | exact Hb5.out.trans (hb7.mono (Nat.le_trans hwt hs5)) | exact (Hb5.out.drew).trans (hb7.mono (Nat.le_trans hwt hs5))); clear hb7)
                        clear hHeld
                        refine hK.out _ _ ?hS22 (fun hHeld => ?_)
                        case hS22 => ((try dsimp only); ((first | exact ⟨c0, c1, c2, c3, c4⟩ | exact ⟨d0, d1, d2, d3, d4⟩ | exact ⟨e0, e1, e2, e3, e4⟩ | go_keep)))
                        clear hK K
                        (try simp only [Act.put, List.setIfInBounds_toArray, List.set_cons_zero, List.set_cons_succ])
                        refine takeL 23 (v := ?_) rfl (by kernel_rfl) (by kernel_rfl) (by kernel_rfl) (fun _ _ _ h => h) (by rfl) (by assumption) ?hy23 ?_
                        case hy23 => (intro w hSw; (try dsimp only at hSw); go_simp; all_goals (with_reducible rfl))
                        (try simp only [Act.put, List.setIfInBounds_toArray, List.set_cons_zero, List.set_cons_succ])
                        refine takeL 24 (v := ?_) rfl (by kernel_rfl) (by kernel_rfl) (by kernel_rfl) (fun _ _ _ h => h) (by rfl) (by assumption) ?hy24 ?_
                        case hy24 => (intro w hSw; (try dsimp only at hSw); go_simp; all_goals (with_reducible rfl))
                        (try simp only [Act.put, List.setIfInBounds_toArray, List.set_cons_zero, List.set_cons_succ])
                        refine takeL 25 (v := ?_) rfl (by kernel_rfl) (by kernel_rfl) (by kernel_rfl) (fun _ _ _ h => h) (by rfl) (by assumption) ?hy25 ?_
                        case hy25 => (intro w hSw; (try dsimp only at hSw); go_simp; all_goals (with_reducible rfl))
                        (try simp only [Act.put, List.setIfInBounds_toArray, List.set_cons_zero, List.set_cons_succ])
                        refine wpAnyH_done (by kernel_rfl) ?_ _
                        all_goals (
                          go_wp2_with fail
                          go_roundg q
                          case measure => omega
                          case rel => exact ⟨i + 1, _, by omega, by first | rfl | simp, rfl, (by unfold Hid; rw [Hsz.out]; refine sizeA _ _ _ _ _ ?_; show B.size + nmb.size + 1 + b.size ≤ _; have := HB.out; omega), Hb7⟩)
                      · have hil : ¬ (((i : Int) + 1) < (n : Int)) := by omega
                        have hi2 : ¬ (i + 1 < n) := by omega
                        refine wp_region_held_drew (S := fun w' => w'.cell? ⟨Wr.heap.size, 0, none⟩ = some (.int .i64 kk) ∧ w'.cell? ⟨Wr.heap.size, 1, none⟩ = some (.int .i64 (lv : Int)) ∧ w'.cell? ⟨Wr.heap.size, 2, none⟩ = some (.slice la ln lc) ∧ w'.cell? ⟨Wr.heap.size, 3, none⟩ = some (.slice za zn zc)) (by kernel_rfl) ⟨c0, c1, c2, c3⟩ (fun hHeld => ?_)
                        refine takeL 0 (v := ?_) rfl (by kernel_rfl) (by kernel_rfl) (by kernel_rfl) (fun _ _ _ h => h) (by rfl) (by assumption) ?hy0 ?_
                        case hy0 => (intro w hSw; (try dsimp only at hSw); go_simp; all_goals (with_reducible rfl))
                        (try simp only [Act.put, List.setIfInBounds_toArray, List.set_cons_zero, List.set_cons_succ])
                        refine takeL 1 (v := ?_) rfl (by kernel_rfl) (by kernel_rfl) (by kernel_rfl) (fun _ _ _ h => h) (by rfl) (by assumption) ?hy1 ?_
                        case hy1 => (intro w hSw; (try dsimp only at hSw); go_simp; all_goals (with_reducible rfl))
                        (try simp only [Act.put, List.setIfInBounds_toArray, List.set_cons_zero, List.set_cons_succ])
                        refine takeL 2 (v := ?_) rfl (by kernel_rfl) (by kernel_rfl) (by kernel_rfl) (fun _ _ _ h => h) (by rfl) (by assumption) ?hy2 ?_
                        case hy2 => (intro w hSw; (try dsimp only at hSw); go_simp; all_goals (with_reducible rfl))
                        (try simp only [Act.put, List.setIfInBounds_toArray, List.set_cons_zero, List.set_cons_succ])
                        refine takeL 5 (v := ?_) rfl (by kernel_rfl) (by kernel_rfl) (by kernel_rfl) (fun _ _ _ h => h) (by rfl) (by assumption) ?hy5 ?_
                        case hy5 => (intro w hSw; (try dsimp only at hSw); go_simp; all_goals (with_reducible rfl))
                        (try simp only [Act.put, List.setIfInBounds_toArray, List.set_cons_zero, List.set_cons_succ])
                        refine takeL 6 (v := ?_) rfl (by kernel_rfl) (by kernel_rfl) (by kernel_rfl) (fun _ _ _ h => h) (by rfl) (by assumption) ?hy6 ?_
                        case hy6 => (intro w hSw; (try dsimp only at hSw); go_simp; all_goals (with_reducible rfl))
                        (try simp only [Act.put, List.setIfInBounds_toArray, List.set_cons_zero, List.set_cons_succ])
                        refine takeL 7 (v := ?_) rfl (by kernel_rfl) (by kernel_rfl) (by kernel_rfl) (fun _ _ _ h => h) (by rfl) (by assumption) ?hy7 ?_
                        case hy7 => (intro w hSw; (try dsimp only at hSw); go_simp; all_goals (with_reducible rfl))
                        (try simp only [Act.put, List.setIfInBounds_toArray, List.set_cons_zero, List.set_cons_succ])
                        refine takeL 8 (v := ?_) rfl (by kernel_rfl) (by kernel_rfl) (by kernel_rfl) (fun _ _ _ h => h) (by rfl) (by assumption) ?hy8 ?_
                        case hy8 => (intro w hSw; (try dsimp only at hSw); go_simp; all_goals (with_reducible rfl))
                        (try simp only [Act.put, List.setIfInBounds_toArray, List.set_cons_zero, List.set_cons_succ])
                        refine takeL 9 (v := ?_) rfl (by kernel_rfl) (by kernel_rfl) (by kernel_rfl) (fun _ _ _ h => h) (by rfl) (by assumption) ?hy9 ?_
                        case hy9 => (intro w hSw; (try dsimp only at hSw); go_simp; all_goals (with_reducible rfl))
                        (try simp only [Act.put, List.setIfInBounds_toArray, List.set_cons_zero, List.set_cons_succ])
                        refine takeL 10 (v := ?_) rfl (by kernel_rfl) (by kernel_rfl) (by kernel_rfl) (fun _ _ _ h => h) (by rfl) (by assumption) ?hy10 ?_
                        case hy10 => (intro w hSw; (try dsimp only at hSw); go_simp; all_goals (with_reducible rfl))
                        (try simp only [Act.put, List.setIfInBounds_toArray, List.set_cons_zero, List.set_cons_succ])
                        refine consL 3 (by kernel_rfl) rfl (by rfl) (fun K hK => ?_)
                        go_simp
                        ((go_at_call 16; refine (HNm.out _).mono ?_; rintro e w5 ⟨rfl, hb5⟩; have hs5 : Wt.heap.size ≤ w5.heap.size := hb5.size; have d0 := keepc hb5 hszt c0; have d1 := keepc hb5 hszt c1; have d2 := keepc hb5 hszt c2; have d3 := keepc hb5 hszt c3; have Hb5 : Hid (Below w.heap.size w w5) := (Hbt.out.drew).trans (hb5.mono hwt); clear hb5))
                        clear hHeld
                        refine hK.out _ _ ?hS3 (fun hHeld => ?_)
                        case hS3 => ((try dsimp only); ((first | exact ⟨c0, c1, c2, c3⟩ | exact ⟨d0, d1, d2, d3⟩ | exact ⟨e0, e1, e2, e3⟩ | go_keep)))
                        clear hK K
                        (try simp only [Act.put, List.setIfInBounds_toArray, List.set_cons_zero, List.set_cons_succ])
                        refine takeL 11 (v := ?_) rfl (by kernel_rfl) (by kernel_rfl) (by kernel_rfl) (fun _ _ _ h => h) (by rfl) (by assumption) ?hy11 ?_
                        case hy11 => (intro w hSw; (try dsimp only at hSw); go_simp; all_goals (with_reducible rfl))
                        (try simp only [Act.put, List.setIfInBounds_toArray, List.set_cons_zero, List.set_cons_succ])
                        refine skipL 12 rfl (by kernel_rfl) (by kernel_rfl) (by kernel_rfl) (fun _ _ _ h => h) (by rfl) (by assumption) ?_
                        (try simp only [Act.put, List.setIfInBounds_toArray, List.set_cons_zero, List.set_cons_succ])
                        refine skipL 13 rfl (by kernel_rfl) (by kernel_rfl) (by kernel_rfl) (fun _ _ _ h => h) (by rfl) (by assumption) ?_
                        (try simp only [Act.put, List.setIfInBounds_toArray, List.set_cons_zero, List.set_cons_succ])
                        refine skipL 14 rfl (by kernel_rfl) (by kernel_rfl) (by kernel_rfl) (fun _ _ _ h => h) (by rfl) (by assumption) ?_
                        (try simp only [Act.put, List.setIfInBounds_toArray, List.set_cons_zero, List.set_cons_succ])
                        refine skipL 15 rfl (by kernel_rfl) (by kernel_rfl) (by kernel_rfl) (fun _ _ _ h => h) (by rfl) (by assumption) ?_
                        (try simp only [Act.put, List.setIfInBounds_toArray, List.set_cons_zero, List.set_cons_succ])
                        refine skipL 16 rfl (by kernel_rfl) (by kernel_rfl) (by kernel_rfl) (fun _ _ _ h => h) (by rfl) (by assumption) ?_
                        (try simp only [Act.put, List.setIfInBounds_toArray, List.set_cons_zero, List.set_cons_succ])
                        refine skipL 17 rfl (by kernel_rfl) (by kernel_rfl) (by kernel_rfl) (fun _ _ _ h => h) (by rfl) (by assumption) ?_
                        (try simp only [Act.put, List.setIfInBounds_toArray, List.set_cons_zero, List.set_cons_succ])
                        refine skipL 18 rfl (by kernel_rfl) (by kernel_rfl) (by kernel_rfl) (fun _ _ _ h => h) (by rfl) (by assumption) ?_
                        (try simp only [Act.put, List.setIfInBounds_toArray, List.set_cons_zero, List.set_cons_succ])
                        refine skipL 19 rfl (by kernel_rfl) (by kernel_rfl) (by kernel_rfl) (fun _ _ _ h => h) (by rfl) (by assumption) ?_
                        (try simp only [Act.put, List.setIfInBounds_toArray, List.set_cons_zero, List.set_cons_succ])
                        refine skipL 20 rfl (by kernel_rfl) (by kernel_rfl) (by kernel_rfl) (fun _ _ _ h => h) (by rfl) (by assumption) ?_
                        (try simp only [Act.put, List.setIfInBounds_toArray, List.set_cons_zero, List.set_cons_succ])
                        refine takeL 4 (v := ?_) rfl (by kernel_rfl) (by kernel_rfl) (by kernel_rfl) (fun _ _ _ h => h) (by rfl) (by assumption) ?hy4 ?_
                        case hy4 => (intro w hSw; (try dsimp only at hSw); go_simp; all_goals (with_reducible rfl))
                        (try simp only [Act.put, List.setIfInBounds_toArray, List.set_cons_zero, List.set_cons_succ])
                        refine takeL 21 (v := ?_) rfl (by kernel_rfl) (by kernel_rfl) (by kernel_rfl) (fun _ _ _ h => h) (by rfl) (by assumption) ?hy21 ?_
                        case hy21 => (intro w hSw; (try dsimp only at hSw); go_simp; all_goals (with_reducible rfl))
                        (try simp only [Act.put, List.setIfInBounds_toArray, List.set_cons_zero, List.set_cons_succ])
                        refine consL 22 (by kernel_rfl) rfl (by rfl) (fun K hK => ?_)
                        go_simp
                        (go_at_call 17; refine (HSd.out _ _ (by first | exact Hb5.out | exact Hb5.out.drew)).mono ?_; rintro e w7 ⟨b, rfl, hbs, hb7⟩; have hbs2 : b.size ≤ 4000 := (by omega); have hq9 : ¬ (9223372036854775807 < nmb.size + 1 + b.size) := (by omega); have hq10 : ¬ (9223372036854775807 < B.size + (nmb.size + 1 + b.size)) := (by omega); have e0 := keepc hb7 (Nat.lt_of_lt_of_le hszt hs5) d0; have e1 := keepc hb7 (Nat.lt_of_lt_of_le hszt hs5) d1; have e2 := keepc hb7 (Nat.lt_of_lt_of_le hszt hs5) d2; have e3 := keepc hb7 (Nat.lt_of_lt_of_le hszt hs5) d3; have Hb7 : Hid (Below w.heap.size w w7) := (by first | exact Hb5.out.trans (hb7.mono (Nat.le_trans hwt hs5)) | exact (Hb5.out.drew).trans (hb7.mono (Nat.le_trans hwt hs5))); clear hb7)
                        clear hHeld
                        refine hK.out _ _ ?hS22 (fun hHeld => ?_)
                        case hS22 => ((try dsimp only); ((first | exact ⟨c0, c1, c2, c3⟩ | exact ⟨d0, d1, d2, d3⟩ | exact ⟨e0, e1, e2, e3⟩ | go_keep)))
                        clear hK K
                        (try simp only [Act.put, List.setIfInBounds_toArray, List.set_cons_zero, List.set_cons_succ])
                        refine takeL 23 (v := ?_) rfl (by kernel_rfl) (by kernel_rfl) (by kernel_rfl) (fun _ _ _ h => h) (by rfl) (by assumption) ?hy23 ?_
                        case hy23 => (intro w hSw; (try dsimp only at hSw); go_simp; all_goals (with_reducible rfl))
                        (try simp only [Act.put, List.setIfInBounds_toArray, List.set_cons_zero, List.set_cons_succ])
                        refine takeL 24 (v := ?_) rfl (by kernel_rfl) (by kernel_rfl) (by kernel_rfl) (fun _ _ _ h => h) (by rfl) (by assumption) ?hy24 ?_
                        case hy24 => (intro w hSw; (try dsimp only at hSw); go_simp; all_goals (with_reducible rfl))
                        (try simp only [Act.put, List.setIfInBounds_toArray, List.set_cons_zero, List.set_cons_succ])
                        refine takeL 25 (v := ?_) rfl (by kernel_rfl) (by kernel_rfl) (by kernel_rfl) (fun _ _ _ h => h) (by rfl) (by assumption) ?hy25 ?_
                        case hy25 => (intro w hSw; (try dsimp only at hSw); go_simp; all_goals (with_reducible rfl))
                        (try simp only [Act.put, List.setIfInBounds_toArray, List.set_cons_zero, List.set_cons_succ])
                        refine wpAnyH_done (by kernel_rfl) ?_ _
                        all_goals (
                          go_wp2_with fail
                          go_roundg q
                          case measure => omega
                          case rel => exact ⟨i + 1, _, by omega, by first | rfl | simp, rfl, (by unfold Hid; rw [Hsz.out]; refine sizeA _ _ _ _ _ ?_; show B.size + nmb.size + 1 + b.size ≤ _; have := HB.out; omega), Hb7⟩)
  · rw [decide_eq_false hli] at HL
    clear hli
    go_wp2_with fail
    refine HL.out.mono ?_
    rintro e w1 ⟨rfl, hb1⟩
    have hw1 := Lib.hid hb1
    clear hb1
    try go_wp2_with fail
    refine (awake12_any w1).mono ?_
    rintro e w6 ⟨rfl, hb6⟩
    have hw6 := hw1.out.trans (hb6.mono hw1.out.size)
    clear hb6
    go_wp2_with fail
    try rw [Exit.noGoto_ret]
    go_ret
    exact ⟨rfl, hw6⟩
end Go.Proofs.Ytegkdkilbnighaa
