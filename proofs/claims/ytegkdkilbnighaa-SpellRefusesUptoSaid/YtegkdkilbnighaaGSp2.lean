/- The shelf's contracts of the Builder's writing, laid by hand at the numbers of strings.Join's laying. No condition of its own. -/
import Derived.Test.YtegkdkilbnighaaShelf
import Derived.Test.YtegkdkilbnighaaGSp1
import Derived.Test.YtegkdkilbnighaaBase
import Derived.Test.YtegkdkilbnighaaRfC
import Derived.Test.YtegkdkilbnighaaRfD
import Derived.Deep.LoopGhost
import Derived.BigQuiet
import Derived.Test.YtegkdkilbnighaaLexB

set_option linter.unusedVariables false
set_option linter.unusedSimpArgs false
namespace Go.Proofs.Ytegkdkilbnighaa
open Go.Shelf

theorem lays166 : Go.Proofs.Lays.n166 Try.prog Try.lays156_ren := {
  mixed := Try.lays156.mixed
  f166 := Try.lays156.f166
  f240 := Try.lays156.f240
  f276 := Try.lays156.f276
  t0 := Try.lays156.t0
  a0 := Try.lays156.a0
  z0 := Try.lays156.z0
  v0 := Try.lays156.v0
  t3 := Try.lays156.t3
  a3 := Try.lays156.a3
  z3 := Try.lays156.z3
  v3 := Try.lays156.v3
  t4 := Try.lays156.t4
  a4 := Try.lays156.a4
  z4 := Try.lays156.z4
  v4 := Try.lays156.v4
  t9 := Try.lays156.t9
  a9 := Try.lays156.a9
  z9 := Try.lays156.z9
  v9 := Try.lays156.v9
  t20 := Try.lays156.t20
  a20 := Try.lays156.a20
  z20 := Try.lays156.z20
  v20 := Try.lays156.v20
  t37 := Try.lays156.t37
  a37 := Try.lays156.a37
  z37 := Try.lays156.z37
  v37 := Try.lays156.v37
  t70 := Try.lays156.t70
  a70 := Try.lays156.a70
  z70 := Try.lays156.z70
  v70 := Try.lays156.v70
  t72 := Try.lays156.t72
  a72 := Try.lays156.a72
  z72 := Try.lays156.z72
  v72 := Try.lays156.v72
  t75 := Try.lays156.t75
  a75 := Try.lays156.a75
  z75 := Try.lays156.z75
  v75 := Try.lays156.v75
  t164 := Try.lays156.t164
  a164 := Try.lays156.a164
  z164 := Try.lays156.z164
  v164 := Try.lays156.v164 }
open Go.RowKit

theorem writeString_any (B b : Nat) (bs : List Value) (s : ByteArray) (w : World) (h : Lib.IsBuilder 69 5 B b bs w) (hlen : bs.length + s.size ≤ 140737488355328) (hBw : B ≤ w.heap.size) :
    Calls Try.prog 25 #[.pointer (some ⟨b, 0, none⟩), .string s] w fun e w' => e = .returned (.tuple #[.int .i64 s.size, .nilIface]) ∧ Lib.IsBuilder 69 5 B b (bs ++ Lib.strCells s) w' ∧ Below B w w' :=
  (Any.Builder_WriteString lays166 Try.Builder_Extra_156 B b bs s w h hlen hBw).mono fun e w' ⟨h1, h2, h3⟩ => ⟨h1, .inr h2, h3⟩
end Go.Proofs.Ytegkdkilbnighaa

set_option linter.unusedVariables false
set_option linter.unusedSimpArgs false
namespace Go.Proofs.Ytegkdkilbnighaa
open Go.RowKit Go.Rg
attribute [local go_sem] Oper.semAt_some

/-- the slice v reads as these cells -/
def RdC (w : World) (v : Value) (n : Nat) (xs : List Value) : Prop :=
  ∃ a c, v = .slice a n c ∧ n ≤ maxLen ∧ (xs ≠ [] → ∃ g off, a = some ⟨g, off, none⟩ ∧ n ≤ c ∧ c ≤ maxLen ∧ g < w.heap.size ∧ ∀ j x, xs[j]? = some x → w.cell? ⟨g, off + j, none⟩ = some x)
theorem RdC.of {T : TypeId} {w : World} {v : Value} {n : Nat} {xs : List Value} (h : RdT T w v n xs) : RdC w v n xs := rdT_base2 h
theorem RdC.call {w w' : World} {v : Value} {n : Nat} {xs : List Value} (h : RdC w v n xs) (hb : Below w.heap.size w w') : RdC w' v n xs := by
  obtain ⟨a, c, e, hm, ho⟩ := h
  refine ⟨a, c, e, hm, fun hx => ?_⟩
  obtain ⟨g, off, h1, h2, h3, h4, h5⟩ := ho hx
  exact ⟨g, off, h1, h2, h3, Nat.lt_of_lt_of_le h4 hb.size, fun j x hj => (hb.cell (p := ⟨g, off + j, none⟩) h4).trans (h5 j x hj)⟩
theorem RdC.own {e : TypeId} {w : World} {base size n : Nat} {v : Value} {xs : List Value} (h : w.ownsRow base e size v n xs) : RdC w v n xs := .of (.of_own h)
theorem RdC.le {w : World} {v : Value} {n : Nat} {xs : List Value} (h : RdC w v n xs) : n ≤ maxLen := h.choose_spec.choose_spec.2.1

abbrev str (l : Lx.Str) : Value := .string ⟨l.toArray⟩
theorem retS {b : ByteArray} {l : Lx.Str} (h : b.data.toList = l) : Ending.returned (.string b) = Ending.returned (str l) := by rw [bytes_eq h]
theorem join_eq (xs : List Lx.Str) : Lib.join xs [44, 32] = Wk.join xs := by
  induction xs with
  | nil => rfl
  | cons x xs ih =>
    cases xs with
    | nil => rw [Lib.join_one]; rfl
    | cons y r => rw [Lib.join_cons] at ih ⊢; unfold Wk.join; rw [← ih]; simp [Lib.joinTail]

set_option maxRecDepth 100000 in
set_option maxHeartbeats 4000000 in
theorem bracket_any (v : Value) (xs : List Lx.Str) (w : World) (h : RdC w v xs.length (strs xs)) (hn : xs.length ≤ 1000000000) (hlen : (Wk.join xs).length ≤ 1000000000) :
    Calls Try.prog 65 #[v] w fun e w' => e = .returned (str (Wk.bracket xs)) ∧ Below w.heap.size w w' := by
  obtain ⟨a, c, rfl, hm, ho⟩ := h
  have hjoin : Calls Try.prog 87 #[.slice a xs.length c, .string ⟨#[44, 32]⟩] w fun e w' => e = .returned (str (Wk.join xs)) ∧ Below w.heap.size w w' := by
    cases xs with
    | nil => exact (Try.strings_Join_none a c ⟨#[44, 32]⟩ w).mono fun e w' ⟨h1, h2⟩ => ⟨h1, h2 ▸ Below.refl _ _⟩
    | cons x r =>
      obtain ⟨g, off, rfl, h1, h2, h3, h4⟩ := ho (by simp [strs])
      have e1 : ((x :: r).map fun (l : Lx.Str) => (⟨l.toArray⟩ : ByteArray)).map (fun b => b.data.toList) = x :: r := by rw [List.map_map]; exact List.map_id _
      have := Try.strings_Join g off c ((x :: r).map fun l => ⟨l.toArray⟩) ⟨#[44, 32]⟩ w (fun j y hj => by
        refine h4 j _ ?_
        unfold strs
        rw [List.getElem?_map] at hj ⊢
        cases hq : (x :: r)[j]? with
        | none => rw [hq] at hj; cases hj
        | some z => rw [hq] at hj; cases hj; rfl) h3 (by rw [List.length_map]; omega) (by rw [List.length_map]; exact h1) (by rw [e1]; show (Lib.join _ [44, 32]).length ≤ _; rw [join_eq]; omega)
      rw [e1, List.length_map, show (⟨#[44, 32]⟩ : ByteArray).data.toList = [44, 32] from rfl, join_eq] at this
      exact this
  go_enter Try.func65, Try.ntmps65
  go_wp2_with (first | (go_at_call 87; refine hjoin.mono ?_; rintro e w1 ⟨rfl, hb⟩))
  go_ret
  refine ⟨?_, hb⟩
  exact retS (by simp [Wk.bracket])

theorem Wk.mem_join : ∀ (xs : List Lx.Str) (x : Lx.Str), x ∈ xs → x.length ≤ (Wk.join xs).length
  | [], x, h => by cases h
  | [y], x, h => by rw [List.mem_singleton] at h; subst h; exact Nat.le_refl _
  | y :: z :: r, x, h => by
    unfold Wk.join
    rcases List.mem_cons.1 h with rfl | h
    · simp
    · have := Wk.mem_join (z :: r) x h
      simp; omega
def ptsT (l : List Wk.Pr) (i : Nat) : List Value := strs ((l.take i).map Wk.pairT)
theorem reads_new2 (W : World) (cs : List Value) (t : TypeId) (n c b : Nat) (hb : b = W.heap.size) (hn : n ≤ c) (hc : c ≤ maxLen) : Reads (W.alloc (.cells cs.toArray t)) (W.heap.size + 1) (.slice (some ⟨b, 0, none⟩) n c) n cs := hb ▸ reads_new W cs t n c hn hc
theorem strs_at (l : List Lx.Str) (j : Nat) (x : Lx.Str) (h : l[j]? = some x) : (strs l)[j]? = some (str x) := by unfold strs; rw [List.getElem?_map, h]; rfl

set_option maxRecDepth 100000 in
set_option maxHeartbeats 4000000 in
theorem pairs_any2 (v : Value) (l : List Wk.Pr) (w : World) (h : RdC w v l.length (flatP l)) (hn : l.length ≤ 1000000000) (hlen : (Wk.pairsT l).length ≤ 1000000000) :
    Calls Try.prog 63 #[v] w fun e w' => e = .returned (str (Wk.pairsT l)) ∧ Below w.heap.size w w' := by
  obtain ⟨a, c, rfl, hm, ho⟩ := h
  have Ho := Lib.hid ho
  obtain ⟨n, hnn⟩ : ∃ n, n = l.length := ⟨_, rfl⟩
  rw [← hnn] at hm hn ⊢
  have Hn := Lib.hid hnn
  have Hlen := Lib.hid hlen
  clear ho hnn hlen
  unfold maxLen at hm
  go_enter Try.func63, Try.ntmps63
  rcases Nat.eq_zero_or_pos n with rfl | hpos
  · have hl0 : l = [] := List.eq_nil_of_length_eq_zero Hn.out.symm
    subst hl0
    go_wp2_with fail
    go_ret
    exact ⟨rfl, Below.refl _ _⟩
  · have hn0 : ((n : Int) == 0) = false := by rw [beq_eq_false_iff_ne]; omega
    have hne : l ≠ [] := fun e => by have := Hn.out; rw [e] at this; simp at this; omega
    have hx : Wk.pairsT l = Wk.bracket (l.map Wk.pairT) := by unfold Wk.pairsT Wk.joined; rw [if_neg (by simpa using hne)]
    have Hx := Lib.hid hx
    have Hj : Hid ((Wk.join (l.map Wk.pairT)).length ≤ 1000000000) := by
      have := Hlen.out; rw [hx] at this; unfold Wk.bracket at this; unfold Hid; simp at this; omega
    have Hp : Hid (∀ p ∈ l, p.1.length + 1 + p.2.length ≤ 1000000000) := by
      intro p hp
      have h1 := Wk.mem_join (l.map Wk.pairT) _ (List.mem_map_of_mem hp)
      have h2 : (Wk.pairT p).length = p.1.length + (p.2.length + 1) := by unfold Wk.pairT; simp
      have := Hj.out; omega
    clear hne hx
    go_wp2_with fail
    go_loopg [3, 11] n (fun q s3 s11 wx => ∃ i : Nat, i + q = n ∧ s11 = .int .i64 (i : Int) ∧ wx.ownsRow w.heap.size 9 1 s3 i (ptsT l i) ∧ Hid (Below w.heap.size w wx))
    case atStart => exact ⟨0, by omega, rfl, World.ownsRow_nil _ _ _ _, Below.refl _ _⟩
    case round =>
      obtain ⟨i, hiq, rfl, hown, Hb⟩ := hrel
      obtain ⟨av, capv, rfl⟩ := own_form hown
      cases gk with
      | zero =>
        have hin : i = n := by omega
        subst hin
        have hmap : ptsT l i = strs (l.map Wk.pairT) := by unfold ptsT; rw [Hn.out, List.take_length]
        rw [hmap] at hown
        have hrd := Lib.hid (RdC.own hown)
        clear hown hmap
        go_wp2_with (first | (go_at_call 65; refine (bracket_any _ (l.map Wk.pairT) wr (by rw [List.length_map, ← Hn.out]; exact hrd.out) (by rw [List.length_map, ← Hn.out]; exact hn) (Hj.out)).mono ?_; rintro e w5 ⟨rfl, hb5⟩))
        go_ret
        exact ⟨by rw [Hx.out]; rfl, Hb.out.trans (hb5.mono Hb.out.size)⟩
      | succ q =>
        have hin : i < n := by omega
        obtain ⟨p, hp⟩ : ∃ p, l[i]? = some p := ⟨_, List.getElem?_eq_getElem (by rw [← Hn.out]; exact hin)⟩
        obtain ⟨f1, f2⟩ := flatP_at2 _ _ _ hp
        obtain ⟨g1, o1, rfl, h1, h2, h3, h4⟩ := Ho.out (fun e => by rw [e] at f1; cases f1)
        rw [← Hn.out] at h1
        have y1 : wr.cell? ⟨g1, o1 + i * 2, none⟩ = some (.string ⟨p.1.toArray⟩) := (Hb.out.cell (p := ⟨g1, o1 + i * 2, none⟩) h3).trans (h4 _ _ f1)
        have y2 : wr.cell? ⟨g1, o1 + i * 2 + 1, none⟩ = some (.string ⟨p.2.toArray⟩) := (Hb.out.cell (p := ⟨g1, o1 + i * 2 + 1, none⟩) h3).trans (h4 _ _ f2)
        unfold maxLen at h2
        have pl := Hp.out p (List.mem_of_getElem? hp)
        have hsz := Hb.out.size
        have hmap : Hid (ptsT l (i + 1) = ptsT l i ++ [str (Wk.pairT p)]) := by unfold Hid ptsT strs; rw [ List.take_add_one, hp, List.map_append, List.map_append]; rfl
        have hpt : ({ data := p.1.toArray } ++ { data := #[32] } ++ { data := p.2.toArray } : ByteArray) = ⟨(Wk.pairT p).toArray⟩ := ba_ext (by simp [Wk.pairT])
        have Hpt := Lib.hid hpt
        clear h4 f1 f2 hp hpt
        go_wp2_with (at_builtin; refine wpList_append2 _ rfl _ _ 76 rfl w.heap.size 9 (.string ⟨#[]⟩) 1 16 Try.underlying76 info_str rfl (by decide) (.slice av i capv) i _ rfl ((hown.alloc _).alloc _) _ _ 1 [.string ((⟨p.1.toArray⟩ : ByteArray) ++ (⟨#[32]⟩ : ByteArray) ++ (⟨p.2.toArray⟩ : ByteArray))] rfl (reads_new2 _ _ _ 1 1 _ (World.size_alloc _ _).symm (by decide) (by decide)) rfl ?c2 ?c3 ?c4 ?c5 ?_)
        case c2 => simp [Value.oneCell']
        case c3 => unfold maxLen; omega
        case c4 => omega
        case c5 => simp; omega
        intro v' w2 hown2 hgrow hmov
        obtain ⟨a2, cap2, rfl⟩ := own_form hown2
        have hb2 : Hid (Below w.heap.size w w2) := ((Hb.out.alloc Hb.out.size _).alloc (by simp; omega) _).grown hgrow (by simp; omega) (fun j e => (hown.lt j e).1)
        rw [Hpt.out] at hown2
        have Hown : Hid (w2.ownsRow w.heap.size 9 1 (.slice a2 (i + 1) cap2) (i + 1) (ptsT l (i + 1))) := by
          unfold Hid; rw [hmap.out]; exact hown2
        clear hown2 hgrow hmov hown
        go_wp2_with fail
        go_roundg q
        case measure => omega
        case rel => exact ⟨i + 1, by omega, by first | rfl | simp, Hown.out, hb2⟩
end Go.Proofs.Ytegkdkilbnighaa

set_option linter.unusedVariables false
set_option linter.unusedSimpArgs false
namespace Go.Proofs.Ytegkdkilbnighaa
open Go.RowKit Go.Rg
attribute [local go_sem] Oper.semAt_some

/-- these values read as those lists of pairs -/
def LsC (w : World) (vs : List Value) (ls : List (List Wk.Pr)) : Prop := ∀ (i : Nat) (l : List Wk.Pr), ls[i]? = some l → ∃ v, vs[i]? = some v ∧ RdC w v l.length (flatP l)
theorem LsC.call {w w' : World} {vs : List Value} {ls : List (List Wk.Pr)} (h : LsC w vs ls) (hb : Below w.heap.size w w') : LsC w' vs ls := fun i l hl => by
  obtain ⟨v, h1, h2⟩ := h i l hl; exact ⟨v, h1, h2.call hb⟩
theorem LsC.of {R : Nat} {w : World} {vs : List Value} {ls : List (List Wk.Pr)} (h : rdsL R w vs ls) : LsC w vs ls := fun i l hl => by
  obtain ⟨v, h1, h2⟩ := rdsL_at2 h hl; exact ⟨v, h1, .of h2.1⟩
theorem LsC.take {w : World} {vs : List Value} {ls : List (List Wk.Pr)} (h : LsC w vs ls) (n : Nat) : LsC w (vs.take n) (ls.take n) := fun i l hl => by
  rw [List.getElem?_take] at hl ⊢
  split at hl
  · rename_i hi; rw [if_pos hi]; exact h i l hl
  · cases hl
theorem LsC.drop {w : World} {vs : List Value} {ls : List (List Wk.Pr)} (h : LsC w vs ls) (n : Nat) : LsC w (vs.drop n) (ls.drop n) := fun i l hl => by
  rw [List.getElem?_drop] at hl ⊢; exact h _ l hl

def ltsT (ls : List (List Wk.Pr)) (i : Nat) : List Value := strs ((ls.take i).map Wk.pairsT)
theorem Wk.joined_le (xs : List Lx.Str) : (Wk.join xs).length ≤ (Wk.joined xs).length := by
  unfold Wk.joined; split
  · rename_i h; subst h; exact Nat.zero_le _
  · unfold Wk.bracket; simp; omega
theorem Wk.mem_joined (xs : List Lx.Str) (x : Lx.Str) (h : x ∈ xs) : x.length ≤ (Wk.joined xs).length := Nat.le_trans (Wk.mem_join xs x h) (Wk.joined_le xs)
theorem Wk.joined_cons {A : Type} (f : A → Lx.Str) (l : List A) (h : l ≠ []) : Wk.joined (l.map f) = Wk.bracket (l.map f) := by unfold Wk.joined; rw [if_neg (by simpa using h)]
theorem Wk.pairs_len (l : List Wk.Pr) : l.length ≤ (Wk.pairsT l).length := by
  cases l with
  | nil => exact Nat.zero_le _
  | cons p l =>
    have : ∀ (xs : List Lx.Str), (∀ x ∈ xs, 1 ≤ x.length) → xs.length ≤ (Wk.join xs).length := by
      intro xs
      induction xs with
      | nil => intro _; exact Nat.zero_le _
      | cons x xs ih =>
        intro h
        cases xs with
        | nil => have := h x (List.mem_cons_self ..); simpa [Wk.join] using this
        | cons y r => have h1 := ih (fun z hz => h z (List.mem_cons_of_mem _ hz)); have h2 := h x (List.mem_cons_self ..); rw [Wk.join_cons x (y :: r) (by simp)]; simp only [List.length_append, List.length_cons] at h1 ⊢; omega
    have h1 := this ((p :: l).map Wk.pairT) (fun x hx => by obtain ⟨q, _, rfl⟩ := List.mem_map.1 hx; unfold Wk.pairT; simp; omega)
    have h2 := Wk.joined_le ((p :: l).map Wk.pairT)
    rw [List.length_map] at h1
    unfold Wk.pairsT; omega

set_option maxRecDepth 100000 in
set_option maxHeartbeats 4000000 in
theorem lists_any2 (v : Value) (vs : List Value) (ls : List (List Wk.Pr)) (w : World) (h : RdC w v ls.length vs) (hvs : LsC w vs ls) (hn : ls.length ≤ 1000000000) (hlen : (Wk.listsT ls).length ≤ 1000000000) :
    Calls Try.prog 64 #[v] w fun e w' => e = .returned (str (Wk.listsT ls)) ∧ Below w.heap.size w w' := by
  obtain ⟨a, c, rfl, hm, ho⟩ := h
  have Ho := Lib.hid ho
  obtain ⟨n, hnn⟩ : ∃ n, n = ls.length := ⟨_, rfl⟩
  rw [← hnn] at hm hn ⊢
  have Hn := Lib.hid hnn
  have Hlen := Lib.hid hlen
  have Hvs := Lib.hid hvs
  clear ho hnn hlen hvs
  unfold maxLen at hm
  go_enter Try.func64, Try.ntmps64
  rcases Nat.eq_zero_or_pos n with rfl | hpos
  · have hl0 : ls = [] := List.eq_nil_of_length_eq_zero Hn.out.symm
    subst hl0
    go_wp2_with fail
    go_ret
    exact ⟨rfl, Below.refl _ _⟩
  · have hn0 : ((n : Int) == 0) = false := by rw [beq_eq_false_iff_ne]; omega
    have hne : ls ≠ [] := fun e => by have := Hn.out; rw [e] at this; simp at this; omega
    have Hx : Hid (Wk.listsT ls = Wk.bracket (ls.map Wk.pairsT)) := Wk.joined_cons _ _ hne
    have Hj : Hid ((Wk.join (ls.map Wk.pairsT)).length ≤ 1000000000) := Nat.le_trans (Wk.joined_le _) Hlen.out
    have Hp : Hid (∀ l ∈ ls, (Wk.pairsT l).length ≤ 1000000000) := fun l hl => Nat.le_trans (Wk.mem_joined _ _ (List.mem_map_of_mem hl)) Hlen.out
    clear hne
    go_wp2_with fail
    go_loopg [3, 11] n (fun q s3 s11 wx => ∃ i : Nat, i + q = n ∧ s11 = .int .i64 (i : Int) ∧ wx.ownsRow w.heap.size 9 1 s3 i (ltsT ls i) ∧ Hid (Below w.heap.size w wx))
    case atStart => exact ⟨0, by omega, rfl, World.ownsRow_nil _ _ _ _, Below.refl _ _⟩
    case round =>
      obtain ⟨i, hiq, rfl, hown, Hb⟩ := hrel
      obtain ⟨av, capv, rfl⟩ := own_form hown
      cases gk with
      | zero =>
        have hin : i = n := by omega
        subst hin
        have hmap : ltsT ls i = strs (ls.map Wk.pairsT) := by unfold ltsT; rw [Hn.out, List.take_length]
        rw [hmap] at hown
        have hrd := Lib.hid (RdC.own hown)
        clear hown hmap
        go_wp2_with (first | (go_at_call 65; refine (bracket_any _ (ls.map Wk.pairsT) wr (by rw [List.length_map, ← Hn.out]; exact hrd.out) (by rw [List.length_map, ← Hn.out]; exact hn) (Hj.out)).mono ?_; rintro e w5 ⟨rfl, hb5⟩))
        go_ret
        exact ⟨by rw [Hx.out]; rfl, Hb.out.trans (hb5.mono Hb.out.size)⟩
      | succ q =>
        have hin : i < n := by omega
        obtain ⟨l, hl⟩ : ∃ l, ls[i]? = some l := ⟨_, List.getElem?_eq_getElem (by rw [← Hn.out]; exact hin)⟩
        obtain ⟨vk, hvk, hPk⟩ := Hvs.out i l hl
        obtain ⟨g1, o1, rfl, h1, h2, h3, h4⟩ := Ho.out (fun e => by rw [e] at hvk; cases hvk)
        have y1 : wr.cell? ⟨g1, o1 + i, none⟩ = some vk := (Hb.out.cell (p := ⟨g1, o1 + i, none⟩) h3).trans (h4 _ _ hvk)
        unfold maxLen at h2
        have Hpl := Lib.hid (Hp.out l (List.mem_of_getElem? hl))
        have hsz := Hb.out.size
        have HPk := Lib.hid (hPk.call Hb.out)
        have hmap : Hid (ltsT ls (i + 1) = ltsT ls i ++ [str (Wk.pairsT l)]) := by unfold Hid ltsT strs; rw [List.take_add_one, hl, List.map_append, List.map_append]; rfl
        clear h4 hvk hPk hl
        go_wp2_with fail
        refine (pairs_any2 vk l wr HPk.out (Nat.le_trans (Wk.pairs_len l) Hpl.out) Hpl.out).mono ?_
        rintro e w5 ⟨rfl, hb5⟩
        have hown5 := own_call hown hb5
        have hb5' : Hid (Below w.heap.size w w5) := Hb.out.trans (hb5.mono Hb.out.size)
        have hsz5 := hb5'.out.size
        clear hown hb5
        go_wp2_with (at_builtin; refine wpList_append2 _ rfl _ _ 76 rfl w.heap.size 9 (.string ⟨#[]⟩) 1 16 Try.underlying76 info_str rfl (by decide) (.slice av i capv) i _ rfl (hown5.alloc _) _ _ 1 [str (Wk.pairsT l)] rfl (reads_new _ _ _ 1 1 (by decide) (by decide)) rfl ?c2 ?c3 ?c4 ?c5 ?_)
        case c2 => simp [Value.oneCell']
        case c3 => unfold maxLen; omega
        case c4 => omega
        case c5 => simp; omega
        intro v' w2 hown2 hgrow hmov
        obtain ⟨a2, cap2, rfl⟩ := own_form hown2
        have hb2 : Hid (Below w.heap.size w w2) := (hb5'.out.alloc hb5'.out.size _).grown hgrow (by simp; omega) (fun j e => (hown5.lt j e).1)
        have Hown : Hid (w2.ownsRow w.heap.size 9 1 (.slice a2 (i + 1) cap2) (i + 1) (ltsT ls (i + 1))) := by
          unfold Hid; rw [hmap.out]; exact hown2
        clear hown2 hgrow hmov hown5
        go_wp2_with fail
        go_roundg q
        case measure => omega
        case rel => exact ⟨i + 1, by omega, by first | rfl | simp, Hown.out, hb2⟩
end Go.Proofs.Ytegkdkilbnighaa

set_option linter.unusedVariables false
set_option linter.unusedSimpArgs false
namespace Go.Proofs.Ytegkdkilbnighaa
open Go.RowKit Go.Rg
attribute [local go_sem] Oper.semAt_some

/-- the slices lv and zv read as g's lists and sizes -/
def BdC (w : World) (lv zv : Value) (g : Wk.Geo) : Prop := ∃ vs, vs.length = g.lists.length ∧ RdC w lv g.lists.length vs ∧ LsC w vs g.lists ∧ RdC w zv g.sizes.length (intsN g.sizes)
theorem BdC.call {w w' : World} {lv zv : Value} {g : Wk.Geo} (h : BdC w lv zv g) (hb : Below w.heap.size w w') : BdC w' lv zv g := by
  obtain ⟨vs, h0, h1, h2, h3⟩ := h; exact ⟨vs, h0, h1.call hb, h2.call hb, h3.call hb⟩
theorem RdC.form {w : World} {v : Value} {n : Nat} {xs : List Value} (h : RdC w v n xs) : ∃ a c, v = .slice a n c ∧ n ≤ maxLen := by
  obtain ⟨a, c, h1, h2, _⟩ := h; exact ⟨a, c, h1, h2⟩
theorem RdC.drop {w : World} {a : Option Addr} {n c : Nat} {xs : List Value} (h : RdC w (.slice a n c) n xs) (hn : xs.length = n) (k : Nat) (hk : k ≤ n) : RdC w (.slice (if c = k then a else a.map (·.add k)) (n - k) (c - k)) (n - k) (xs.drop k) := by
  obtain ⟨a', c', e, hm, ho⟩ := h
  cases e
  refine ⟨_, _, rfl, by omega, fun hx => ?_⟩
  have hlt : k < n := by
    rcases Nat.lt_or_ge k n with h | h
    · exact h
    · exact absurd (List.drop_eq_nil_of_le (by omega)) hx
  obtain ⟨g, off, rfl, h1, h2, h3, h4⟩ := ho (fun e => by rw [e] at hn; simp at hn; omega)
  refine ⟨g, off + k, ?_, by omega, by omega, h3, fun j x hj => ?_⟩
  · rw [if_neg (by omega)]
    unfold Addr.add
    cases k with
    | zero => rfl
    | succ k => rfl
  · rw [List.getElem?_drop] at hj
    have := h4 _ _ hj
    rw [Nat.add_assoc]; exact this
theorem RdC.take {w : World} {a : Option Addr} {n c : Nat} {xs : List Value} (h : RdC w (.slice a n c) n xs) (hn : xs.length = n) (k : Nat) (hk : k ≤ n) : RdC w (.slice a k c) k (xs.take k) := by
  obtain ⟨a', c', e, hm, ho⟩ := h
  cases e
  refine ⟨_, _, rfl, by omega, fun hx => ?_⟩
  obtain ⟨g, off, rfl, h1, h2, h3, h4⟩ := ho (fun e => by rw [e] at hx; simp at hx)
  refine ⟨g, off, rfl, by omega, h2, h3, fun j x hj => ?_⟩
  rw [List.getElem?_take] at hj
  split at hj
  · exact h4 _ _ hj
  · cases hj

def ptT (ss : List Nat) (ls : List (List Wk.Pr)) (i : Nat) : List Value := strs (((Wk.parts ss ls).take i).map Wk.listsT)
theorem Wk.parts_len {A : Type} : ∀ (ss : List Nat) (ls : List A), (Wk.parts ss ls).length = ss.length
  | [], _ => rfl
  | n :: r, ls => by unfold Wk.parts; simp [Wk.parts_len r]
theorem Wk.parts_at {A : Type} : ∀ (ss : List Nat) (ls : List A) (i n : Nat), ss[i]? = some n → (Wk.parts ss ls)[i]? = some ((ls.drop (ss.take i).sum).take n)
  | [], _, i, n, h => by cases h
  | m :: r, ls, 0, n, h => by cases h; simp [Wk.parts]
  | m :: r, ls, i + 1, n, h => by
    unfold Wk.parts
    have := Wk.parts_at r (ls.drop m) i n h
    simp only [List.getElem?_cons_succ, List.take_succ_cons, List.sum_cons]
    rw [this, List.drop_drop]
theorem take_sum (ss : List Nat) (i n : Nat) (h : ss[i]? = some n) : (ss.take (i + 1)).sum = (ss.take i).sum + n := by
  rw [List.take_add_one, h, Wk.sum_append]; simp
theorem take_sum_le (ss : List Nat) (i : Nat) : (ss.take i).sum ≤ ss.sum := by
  conv => rhs; rw [← List.take_append_drop i ss]
  rw [Wk.sum_append]; omega

set_option maxRecDepth 100000 in
set_option maxHeartbeats 4000000 in
theorem body_any2 (g : Wk.Geo) (lv zv : Value) (w : World) (h : BdC w lv zv g) (h1 : Wk.OneG g) (hn : g.lists.length ≤ 1000000000) (hz : g.sizes.length ≤ 1000000000) (hlen : (Wk.bodyT g).length ≤ 1000000000) :
    Calls Try.prog 27 #[gV2 g lv zv] w fun e w' => e = .returned (str (Wk.bodyT g)) ∧ Below w.heap.size w w' := by
  obtain ⟨vs, hvl, hl, hvs, hzs⟩ := h
  obtain ⟨la, lc, rfl, hlm⟩ := hl.form
  obtain ⟨za, zc, rfl, hzm⟩ := hzs.form
  obtain ⟨kk, hkk⟩ : ∃ kk : Int, kk = (g.kind : Int) := ⟨_, rfl⟩
  obtain ⟨n, hnn⟩ : ∃ n, n = g.lists.length := ⟨_, rfl⟩
  obtain ⟨nz, hnz⟩ : ∃ nz, nz = g.sizes.length := ⟨_, rfl⟩
  rw [← hnn] at hn hl hlm hvl
  rw [← hnz] at hz hzs hzm
  unfold gV2
  rw [← hkk, ← hnn, ← hnz]
  have Hn := Lib.hid hnn
  have Hnz := Lib.hid hnz
  have Hkk := Lib.hid hkk
  have Hlen := Lib.hid hlen
  have Hvs := Lib.hid hvs
  have Hl := Lib.hid hl
  have Hz := Lib.hid hzs
  have Hone := Lib.hid h1
  have Hvl := Lib.hid hvl
  have hk1 : 1 ≤ kk ∧ kk ≤ 7 := by have := h1.1; have := h1.2.1; omega
  clear hnn hnz hkk hlen hvs hl hzs h1 hvl
  unfold maxLen at hlm hzm
  have B0 : Blk (w.alloc (.cells #[.int .i64 kk, .int .i64 (g.level : Int), .slice la n lc, .slice za nz zc] 40)) w.heap.size [.int .i64 kk, .int .i64 (g.level : Int), .slice la n lc, .slice za nz zc] 40 := Blk.new w _ _
  have hBel : Below w.heap.size w (w.alloc (.cells #[.int .i64 kk, .int .i64 (g.level : Int), .slice la n lc, .slice za nz zc] 40)) := (Below.refl _ w).alloc (Nat.le_refl _) _
  obtain ⟨W0, hW0⟩ : ∃ W0, w.alloc (.cells #[.int .i64 kk, .int .i64 (g.level : Int), .slice la n lc, .slice za nz zc] 40) = W0 := ⟨_, rfl⟩
  have hz0 : w.heap.size + 1 ≤ W0.heap.size := by rw [← hW0, World.size_alloc]; exact Nat.le_refl _
  rw [hW0] at B0 hBel
  have b0 := B0.cell (j := 0) rfl
  have b2 := B0.cell (j := 2) rfl
  have b3 := B0.cell (j := 3) rfl
  have HB0 := Lib.hid B0
  have HBel := Lib.hid hBel
  clear B0 hBel
  go_enter Try.func27, Try.ntmps27
  by_cases h6 : kk = 6
  · subst h6
    have hg6 : g.kind = 6 := by have := Hkk.out; omega
    have hsum : g.sizes.sum = n := by rw [Hn.out]; exact Hone.out.2.2.2.2.2.2.1 hg6
    have hb : Wk.bodyT g = Wk.joined ((Wk.parts g.sizes g.lists).map Wk.listsT) := by
      unfold Wk.bodyT; rw [hg6]; rfl
    have Hb := Lib.hid hb
    have Hsum := Lib.hid hsum
    have Hp : Hid (∀ l ∈ Wk.parts g.sizes g.lists, (Wk.listsT l).length ≤ 1000000000) := fun l hl => Nat.le_trans (by rw [hb]; exact Wk.mem_joined _ _ (List.mem_map_of_mem hl)) Hlen.out
    clear hb hsum
    go_wp2_with fail
    go_loopg [3, 4, 28] nz (fun q s3 s4 s28 wx => ∃ (i d : Nat) (a4 : Option Addr) (c4 : Nat), i + q = nz ∧ s28 = .int .i64 (i : Int) ∧ s4 = .slice a4 (n - d) c4 ∧ Hid (d = (g.sizes.take i).sum) ∧ wx.ownsRow W0.heap.size 9 1 s3 i (ptT g.sizes g.lists i) ∧ Hid (RdC W0 (.slice a4 (n - d) c4) (n - d) (vs.drop d)) ∧ Hid (Below W0.heap.size W0 wx))
    case atStart => exact ⟨0, 0, la, lc, by omega, rfl, rfl, rfl,  World.ownsRow_nil _ _ _ _, Hl.out.call HBel.out, Below.refl _ _⟩
    case round =>
      obtain ⟨i, d, a4, c4, hiq, rfl, rfl, Hd, hown, Hr, Hbx⟩ := hrel
      obtain ⟨av, capv, rfl⟩ := own_form hown
      cases gk with
      | zero =>
        have hin : i = nz := by omega
        subst hin
        have hmap : ptT g.sizes g.lists i = strs ((Wk.parts g.sizes g.lists).map Wk.listsT) := by unfold ptT; rw [Hnz.out, ← Wk.parts_len g.sizes g.lists, List.take_length]
        have hpl : (Wk.parts g.sizes g.lists).length = i := by rw [Wk.parts_len]; exact Hnz.out.symm
        rw [hmap] at hown
        have hrd := Lib.hid (RdC.own hown)
        have Hpl := Lib.hid hpl
        have hbw := Lib.hid (HBel.out.trans (Hbx.out.mono HBel.out.size))
        clear hown hmap hpl
        rcases Nat.eq_zero_or_pos i with rfl | hpos
        · have h0 : Wk.parts g.sizes g.lists = [] := List.eq_nil_of_length_eq_zero Hpl.out
          go_wp2_with fail
          go_ret
          exact ⟨by rw [Hb.out, h0]; rfl, hbw.out⟩
        · have hi0 : ((i : Int) == 0) = false := by rw [beq_eq_false_iff_ne]; omega
          have hne : Wk.parts g.sizes g.lists ≠ [] := fun e => by have := Hpl.out; rw [e] at this; simp at this; omega
          have Hx : Hid (Wk.bodyT g = Wk.bracket ((Wk.parts g.sizes g.lists).map Wk.listsT)) := by unfold Hid; rw [Hb.out]; exact Wk.joined_cons _ _ hne
          have Hj : Hid ((Wk.join ((Wk.parts g.sizes g.lists).map Wk.listsT)).length ≤ 1000000000) := Nat.le_trans (Wk.joined_le _) (by rw [← Hb.out]; exact Hlen.out)
          clear hne
          go_wp2_with fail
          refine (bracket_any _ ((Wk.parts g.sizes g.lists).map Wk.listsT) wr (by rw [List.length_map, Hpl.out]; exact hrd.out) (by rw [List.length_map, Hpl.out]; exact hz) (Hj.out)).mono ?_
          rintro e w5 ⟨rfl, hb5⟩
          go_wp2_with fail
          go_ret
          exact ⟨by rw [Hx.out]; rfl, hbw.out.trans (hb5.mono hbw.out.size)⟩
      | succ q =>
        have hin : i < nz := by omega
        obtain ⟨m, hm⟩ : ∃ m, g.sizes[i]? = some m := ⟨_, List.getElem?_eq_getElem (by rw [← Hnz.out]; exact hin)⟩
        have hbw := Lib.hid (HBel.out.trans (Hbx.out.mono HBel.out.size))
        obtain ⟨a', c', e', _, ho⟩ := Hz.out
        cases e'
        have hmi : (intsN g.sizes)[i]? = some (.int .i64 (m : Int)) := by unfold intsN; rw [List.getElem?_map, hm]; rfl
        obtain ⟨g1, o1, rfl, q1, q2, q3, q4⟩ := ho (fun e => by rw [e] at hmi; cases hmi)
        have y1 : wr.cell? ⟨g1, o1 + i, none⟩ = some (.int .i64 (m : Int)) := (hbw.out.cell (p := ⟨g1, o1 + i, none⟩) q3).trans (q4 _ _ hmi)
        unfold maxLen at q2
        have hts := take_sum _ _ _ hm
        have htl := take_sum_le g.sizes (i + 1)
        rw [hts, ← Hd.out, Hsum.out] at htl
        have hpa := Wk.parts_at g.sizes g.lists i m hm
        rw [← Hd.out] at hpa
        have hmem := List.mem_of_getElem? hpa
        have Hpl := Lib.hid (Hp.out _ hmem)
        have hmap : Hid (ptT g.sizes g.lists (i + 1) = ptT g.sizes g.lists i ++ [str (Wk.listsT ((g.lists.drop d).take m))]) := by unfold Hid ptT strs; rw [List.take_add_one, hpa, List.map_append, List.map_append]; rfl
        have hdl : (vs.drop d).length = n - d := by rw [List.length_drop, Hvl.out]
        have hmn : m ≤ n - d := by omega
        have hLl : ((g.lists.drop d).take m).length = m := by rw [List.length_take, List.length_drop, ← Hn.out]; omega
        have HLl := Lib.hid hLl
        have Hr1 := Lib.hid ((Hr.out.take hdl m hmn).call Hbx.out)
        have Hr2 := Lib.hid (Hr.out.drop hdl m hmn)
        rw [List.drop_drop, Nat.sub_sub] at Hr2
        have Hv1 := Lib.hid (((Hvs.out.call hbw.out).drop d).take m)
        have Hd2 : Hid (d + m = (g.sizes.take (i + 1)).sum) := by unfold Hid; rw [hts, ← Hd.out]
        have hcap : n - d ≤ c4 ∨ m = 0 := by
          rcases Nat.eq_zero_or_pos (n - d) with h | h
          · right; omega
          · left
            obtain ⟨a', c', e', _, ho⟩ := Hr.out
            cases e'
            exact (ho (fun e => by rw [e] at hdl; simp at hdl; omega)).choose_spec.choose_spec.2.1
        have hnd : ((n - d : Nat) : Int) = (n : Int) - d := by omega
        have hsz := hbw.out.size
        have hszx := Hbx.out.size
        clear q4 hmi hm ho hpa hmem hts hdl hLl
        go_wp2_with fail
        refine (lists_any2 _ ((vs.drop d).take m) ((g.lists.drop d).take m) wr (by rw [HLl.out]; exact Hr1.out) Hv1.out (by rw [HLl.out]; omega) Hpl.out).mono ?_
        rintro e w5 ⟨rfl, hb5⟩
        have hown5 := own_call hown hb5
        have hb5' : Hid (Below W0.heap.size W0 w5) := Hbx.out.trans (hb5.mono hszx)
        have hsz5 := hb5'.out.size
        have hb5'' := Lib.hid hb5
        clear hown hb5
        go_wp2_with (at_builtin; refine wpList_append2 _ rfl _ _ 76 rfl W0.heap.size 9 (.string ⟨#[]⟩) 1 16 Try.underlying76 info_str rfl (by decide) (.slice av i capv) i _ rfl (hown5.alloc _) _ _ 1 [str (Wk.listsT ((g.lists.drop d).take m))] rfl (reads_new _ _ _ 1 1 (by decide) (by decide)) rfl ?c2 ?c3 ?c4 ?c5 ?_)
        case c2 => simp [Value.oneCell']
        case c3 => unfold maxLen; omega
        case c4 => omega
        case c5 => simp; omega
        intro v' w2 hown2 hgrow hmov
        obtain ⟨a2, cap2, rfl⟩ := own_form hown2
        have hb2 : Hid (Below W0.heap.size W0 w2) := (hb5'.out.alloc hb5'.out.size _).grown hgrow (by simp; omega) (fun j e => (hown5.lt j e).1)
        have Hown : Hid (w2.ownsRow W0.heap.size 9 1 (.slice a2 (i + 1) cap2) (i + 1) (ptT g.sizes g.lists (i + 1))) := by
          unfold Hid; rw [hmap.out]; exact hown2
        clear hown2 hgrow hmov hown5
        go_wp2_with fail
        · have hcm : c4 = m := by assumption
          rw [if_pos hcm, hcm, Nat.sub_self] at Hr2
          go_roundg q
          case measure => omega
          case rel => exact ⟨i + 1, d + m, a4, 0, by omega, by first | rfl | simp, by rw [Nat.sub_sub], Hd2, Hown.out, Hr2, hb2⟩
        · have hcm : ¬ c4 = m := by assumption
          rw [if_neg hcm] at Hr2
          go_roundg q
          case measure => omega
          case rel => exact ⟨i + 1, d + m, _, c4 - m, by omega, by first | rfl | simp, by rw [Nat.sub_sub], Hd2, Hown.out, Hr2, hb2⟩
  · by_cases h12 : kk = 1 ∨ kk = 2
    · have hb : Wk.bodyT g = match g.lists with | [] => Wk.emptyWord | x :: _ => Wk.pairsT x := by
        have hg : g.kind = 1 ∨ g.kind = 2 := by have := Hkk.out; omega
        unfold Wk.bodyT; rw [if_pos hg]; rfl
      have Hb := Lib.hid hb
      clear hb
      rcases Nat.eq_zero_or_pos n with rfl | hpos
      · have hl0 : g.lists = [] := List.eq_nil_of_length_eq_zero Hn.out.symm
        have Hb2 : Hid (Wk.bodyT g = Wk.emptyWord) := by unfold Hid; rw [Hb.out, hl0]
        clear hl0
        rcases h12 with rfl | rfl
        · go_wp2_with fail
          go_ret
          exact ⟨by rw [Hb2.out]; rfl, HBel.out⟩
        · go_wp2_with fail
          go_ret
          exact ⟨by rw [Hb2.out]; rfl, HBel.out⟩
      · have hn0 : ((n : Int) == 0) = false := by rw [beq_eq_false_iff_ne]; omega
        obtain ⟨l, hl⟩ : ∃ l, g.lists[0]? = some l := ⟨_, List.getElem?_eq_getElem (by rw [← Hn.out]; exact hpos)⟩
        have Hb2 : Hid (Wk.bodyT g = Wk.pairsT l) := by
          unfold Hid; rw [Hb.out]
          cases hg : g.lists with
          | nil => rw [hg] at hl; cases hl
          | cons x r => rw [hg] at hl; cases hl; rfl
        obtain ⟨vk, hvk, hPk⟩ := Hvs.out 0 l hl
        obtain ⟨a', c', e', _, ho⟩ := Hl.out
        cases e'
        obtain ⟨g1, o1, rfl, h1, h2, h3, h4⟩ := ho (fun e => by rw [e] at hvk; cases hvk)
        have y1 : W0.cell? ⟨g1, o1, none⟩ = some vk := (HBel.out.cell (p := ⟨g1, o1, none⟩) h3).trans (h4 0 _ hvk)
        unfold maxLen at h2
        have HPk := Lib.hid (hPk.call HBel.out)
        have Hpl : Hid ((Wk.pairsT l).length ≤ 1000000000) := by unfold Hid; rw [← Hb2.out]; exact Hlen.out
        clear h4 hvk hPk hl ho
        rcases h12 with rfl | rfl
        · go_wp2_with fail
          refine (pairs_any2 vk l W0 HPk.out (Nat.le_trans (Wk.pairs_len l) Hpl.out) Hpl.out).mono ?_
          rintro e w5 ⟨rfl, hb5⟩
          go_wp2_with fail
          go_ret
          exact ⟨by rw [Hb2.out]; rfl, HBel.out.trans (hb5.mono HBel.out.size)⟩
        · go_wp2_with fail
          refine (pairs_any2 vk l W0 HPk.out (Nat.le_trans (Wk.pairs_len l) Hpl.out) Hpl.out).mono ?_
          rintro e w5 ⟨rfl, hb5⟩
          go_wp2_with fail
          go_ret
          exact ⟨by rw [Hb2.out]; rfl, HBel.out.trans (hb5.mono HBel.out.size)⟩
    · have e1 : (kk == 1) = false := by rw [beq_eq_false_iff_ne]; omega
      have e2 : (kk == 2) = false := by rw [beq_eq_false_iff_ne]; omega
      have e6 : (kk == 6) = false := by rw [beq_eq_false_iff_ne]; omega
      have hb : Wk.bodyT g = Wk.listsT g.lists := by
        unfold Wk.bodyT; have := Hkk.out; rw [if_neg (by omega), if_neg (by omega)]
      have Hlen2 : Hid ((Wk.listsT g.lists).length ≤ 1000000000) := by unfold Hid; rw [← hb]; exact Hlen.out
      have Hb := Lib.hid hb
      clear hb
      go_wp2_with fail
      refine (lists_any2 _ vs g.lists W0 (by rw [← Hn.out]; exact Hl.out.call HBel.out) (Hvs.out.call HBel.out) (by rw [← Hn.out]; exact hn) Hlen2.out).mono ?_
      rintro e w5 ⟨rfl, hb5⟩
      go_wp2_with fail
      go_ret
      exact ⟨by rw [Hb.out]; rfl, HBel.out.trans (hb5.mono HBel.out.size)⟩
end Go.Proofs.Ytegkdkilbnighaa

set_option linter.unusedVariables false
set_option linter.unusedSimpArgs false
namespace Go.Proofs.Ytegkdkilbnighaa
open Go.RowKit Go.Rg
attribute [local go_sem] Oper.semAt_some

abbrev prP (p : Wk.Pr) : Value := .agg #[.string ⟨p.1.toArray⟩, .string ⟨p.2.toArray⟩]
def Wk.prB (p : Wk.Pr) : Bool := Lx.right p.1 && Lx.right p.2
def Wk.lsB (l : List Wk.Pr) : Bool := l.all Wk.prB
def fit (l : Lx.Str) : Prop := l.length ≤ maxLen
def fitP (l : List Wk.Pr) : Prop := ∀ p ∈ l, fit p.1 ∧ fit p.2

theorem enter_every1 (args : Array Value) (w : World) : (callFunc 104 args).run Try.prog w = .ok (.enter 104 args) w := enters_of Try.func104 (by kernel_rfl) rfl args w
theorem enter_pair (args : Array Value) (w : World) : (callFunc 92 args).run Try.prog w = .ok (.enter 92 args) w := enters_of Try.func92 (by kernel_rfl) rfl args w

set_option maxRecDepth 100000 in
set_option maxHeartbeats 4000000 in
theorem pair_ok_any (p : Wk.Pr) (w : World) (h1 : fit p.1) (h2 : fit p.2) :
    Calls Try.prog 92 #[prP p] w fun e w' => e = .returned (.bool (Wk.prB p)) ∧ Below w.heap.size w w' := by
  have hb : Below w.heap.size w (w.alloc (.cells #[.string ⟨p.1.toArray⟩, .string ⟨p.2.toArray⟩] 47)) := (Below.refl _ w).alloc (Nat.le_refl _) _
  have hs1 : (⟨p.1.toArray⟩ : ByteArray).size ≤ maxLen := by show p.1.toArray.size ≤ _; simpa [fit] using h1
  have hs2 : (⟨p.2.toArray⟩ : ByteArray).size ≤ maxLen := by show p.2.toArray.size ≤ _; simpa [fit] using h2
  have Hs1 := Lib.hid hs1
  have Hs2 := Lib.hid hs2
  clear h1 h2 hs1 hs2
  go_enter Try.func92, Try.ntmps92
  cases hr : Lx.right p.1 with
  | false =>
    have Hr := Lib.hid hr
    go_wp2_with fail
    refine (right_any _ _ Hs1.out).mono ?_
    rintro e w' ⟨rfl, rfl⟩
    rw [show Lx.right (⟨p.1.toArray⟩ : ByteArray).data.toList = false from hr]
    go_wp2_with fail
    go_ret
    refine ⟨?_, hb⟩
    unfold Wk.prB; rw [Hr.out]; rfl
  | true =>
    have Hr := Lib.hid hr
    go_wp2_with fail
    refine (right_any _ _ Hs1.out).mono ?_
    rintro e w' ⟨rfl, rfl⟩
    rw [show Lx.right (⟨p.1.toArray⟩ : ByteArray).data.toList = true from hr]
    go_wp2_with fail
    refine (right_any _ _ Hs2.out).mono ?_
    rintro e w' ⟨rfl, rfl⟩
    go_wp2_with fail
    go_ret
    refine ⟨?_, hb⟩
    unfold Wk.prB; rw [Hr.out]; rfl

set_option maxRecDepth 100000 in
set_option maxHeartbeats 4000000 in
/-- the place of the first that is so, or less than nothing -/
theorem indexP_any (v : Value) (l : List Wk.Pr) (f : Nat) (cap : Array Value) (b : Wk.Pr → Bool) (w : World) (h : RdC w v l.length (flatP l))
    (eg : ∀ args w, (callFunc f args).run Try.prog w = .ok (.enter f args) w)
    (hF : ∀ X p, p ∈ l → Below w.heap.size w X → Calls Try.prog f (#[prP p] ++ cap) X fun e X' => e = .returned (.bool (b p)) ∧ Below X.heap.size X X') :
    Calls Try.prog 110 #[v, .func (.func f) #[] cap] w fun e w' => ∃ r : Int, e = .returned (.int .i64 r) ∧ Hid (decide (0 ≤ r) = l.any b) ∧ Below w.heap.size w w' := by
  obtain ⟨a, c, rfl, hm, ho⟩ := h
  have Ho := Lib.hid ho
  obtain ⟨n, hnn⟩ : ∃ n, n = l.length := ⟨_, rfl⟩
  rw [← hnn] at hm ⊢
  have Hn := Lib.hid hnn
  clear ho hnn
  unfold maxLen at hm
  go_enter Try.func110, Try.ntmps110
  go_wp2_with fail
  go_loopg [8] n (fun q s8 wx => ∃ i : Nat, i + q = n ∧ s8 = .int .i64 (i : Int) ∧ Hid ((l.take i).any b = false) ∧ Hid (Below w.heap.size w wx))
  case atStart => exact ⟨0, by omega, rfl, rfl, Below.refl _ _⟩
  case round =>
    obtain ⟨i, hiq, rfl, Hi, Hb⟩ := hrel
    cases gk with
    | zero =>
      have hin : i = n := by omega
      subst hin
      go_wp2_with fail
      try rw [Exit.noGoto_ret]
      go_ret
      refine ⟨-1, rfl, ?_, Hb.out⟩
      have := Hi.out; rw [Hn.out, List.take_length] at this
      unfold Hid; rw [this]; rfl
    | succ q =>
      have hin : i < n := by omega
      obtain ⟨p, hp⟩ : ∃ p, l[i]? = some p := ⟨_, List.getElem?_eq_getElem (by rw [← Hn.out]; exact hin)⟩
      obtain ⟨f1, f2⟩ := flatP_at2 _ _ _ hp
      obtain ⟨g1, o1, rfl, h1, h2, h3, h4⟩ := Ho.out (fun e => by rw [e] at f1; cases f1)
      rw [← Hn.out] at h1
      have y1 : wr.cell? ⟨g1, o1 + i * 2, none⟩ = some (.string ⟨p.1.toArray⟩) := (Hb.out.cell (p := ⟨g1, o1 + i * 2, none⟩) h3).trans (h4 _ _ f1)
      have y2 : wr.cell? ⟨g1, o1 + i * 2 + 1, none⟩ = some (.string ⟨p.2.toArray⟩) := (Hb.out.cell (p := ⟨g1, o1 + i * 2 + 1, none⟩) h3).trans (h4 _ _ f2)
      unfold maxLen at h2
      have HF := Lib.hid (hF wr p (List.mem_of_getElem? hp) Hb.out)
      have Hp := Lib.hid hp
      clear h4 f1 f2 hp
      cases hbp : b p with
      | false =>
        have Hbp := Lib.hid hbp
        go_wp2_with fail
        refine HF.out.mono ?_
        rintro e w5 ⟨rfl, hb5⟩
        have Hb5 := Lib.hid (Hb.out.trans (hb5.mono Hb.out.size))
        clear hb5
        rw [hbp]
        go_wp2_with fail
        go_roundg q
        case measure => omega
        case rel => exact ⟨i + 1, by omega, by first | rfl | simp, by unfold Hid; rw [List.take_add_one, Hp.out, List.any_append, Hi.out]; simp [Hbp.out], Hb5⟩
      | true =>
        have Hbp := Lib.hid hbp
        go_wp2_with fail
        refine HF.out.mono ?_
        rintro e w5 ⟨rfl, hb5⟩
        have Hb5 := Lib.hid (Hb.out.trans (hb5.mono Hb.out.size))
        clear hb5
        rw [hbp]
        go_wp2_with fail
        try rw [Exit.noGoto_ret]
        go_ret
        refine ⟨(i : Int), rfl, ?_, Hb5.out⟩
        unfold Hid
        have : l.any b = true := List.any_eq_true.2 ⟨p, List.mem_of_getElem? Hp.out, Hbp.out⟩
        rw [this]; simp

set_option maxRecDepth 100000 in
set_option maxHeartbeats 4000000 in
theorem containsP_any (v : Value) (l : List Wk.Pr) (f : Nat) (cap : Array Value) (b : Wk.Pr → Bool) (w : World) (h : RdC w v l.length (flatP l))
    (eg : ∀ args w, (callFunc f args).run Try.prog w = .ok (.enter f args) w)
    (hF : ∀ X p, p ∈ l → Below w.heap.size w X → Calls Try.prog f (#[prP p] ++ cap) X fun e X' => e = .returned (.bool (b p)) ∧ Below X.heap.size X X') :
    Calls Try.prog 103 #[v, .func (.func f) #[] cap] w fun e w' => e = .returned (.bool (l.any b)) ∧ Below w.heap.size w w' := by
  have H := Lib.hid (indexP_any v l f cap b w h eg hF)
  clear hF h
  go_enter Try.func103, Try.ntmps103
  go_wp2_with fail
  refine H.out.mono ?_
  rintro e w1 ⟨r, rfl, hr, hb⟩
  go_wp2_with fail
  go_ret
  exact ⟨by rw [← hr.out]; rfl, hb⟩

set_option maxRecDepth 100000 in
set_option maxHeartbeats 4000000 in
theorem everyP_any (v : Value) (l : List Wk.Pr) (f : Nat) (b : Wk.Pr → Bool) (w : World) (h : RdC w v l.length (flatP l))
    (eg : ∀ args w, (callFunc f args).run Try.prog w = .ok (.enter f args) w)
    (hF : ∀ X p, p ∈ l → Calls Try.prog f #[prP p] X fun e X' => e = .returned (.bool (b p)) ∧ Below X.heap.size X X') :
    Calls Try.prog 91 #[v, .func (.func f) #[] #[]] w fun e w' => e = .returned (.bool (l.all b)) ∧ Below w.heap.size w w' := by
  obtain ⟨W0, hW0⟩ : ∃ W0, w.alloc (.cells #[.func (.func f) #[] #[]] 138) = W0 := ⟨_, rfl⟩
  have hB : Blk W0 w.heap.size [.func (.func f) #[] #[]] 138 := hW0 ▸ Blk.new w _ _
  have hBel : Below w.heap.size w W0 := hW0 ▸ (Below.refl _ w).alloc (Nat.le_refl _) _
  have hin : ∀ X p, p ∈ l → Below W0.heap.size W0 X → Calls Try.prog 104 #[prP p, .pointer (some ⟨w.heap.size, 0, none⟩)] X fun e X' => e = .returned (.bool (!b p)) ∧ Below X.heap.size X X' := by
    intro X p hp hX
    have c0 := (hB.call hX).cell (j := 0) rfl
    have hXs : w.heap.size < X.heap.size := Nat.lt_of_lt_of_le (by rw [← hW0, World.size_alloc]; omega) hX.size
    have c1 := keepc ((Below.refl _ X).alloc (Nat.le_refl _) (.cells #[.string ⟨p.1.toArray⟩, .string ⟨p.2.toArray⟩] 47)) hXs c0
    have HF := Lib.hid (hF (X.alloc (.cells #[.string ⟨p.1.toArray⟩, .string ⟨p.2.toArray⟩] 47)) p hp)
    have hbX : Below X.heap.size X (X.alloc (.cells #[.string ⟨p.1.toArray⟩, .string ⟨p.2.toArray⟩] 47)) := (Below.refl _ _).alloc (Nat.le_refl _) _
    have HbX := Lib.hid hbX
    clear hF hp hX hB hBel hW0 h hbX
    go_enter Try.func104, Try.ntmps104
    go_wp2_with fail
    refine HF.out.mono ?_
    rintro e w1 ⟨rfl, hb⟩
    go_wp2_with fail
    go_ret
    exact ⟨rfl, HbX.out.trans (hb.mono HbX.out.size)⟩
  have H := Lib.hid (containsP_any v l 104 #[.pointer (some ⟨w.heap.size, 0, none⟩)] (fun p => !b p) W0 (h.call hBel) enter_every1 (fun X p hp hX => hin X p hp hX))
  have HBel := Lib.hid hBel
  clear hin hF h hB hBel
  go_enter Try.func91, Try.ntmps91
  go_wp2_with fail
  try simp only [hW0]
  refine H.out.mono ?_
  rintro e w1 ⟨rfl, hb⟩
  go_wp2_with fail
  go_ret
  refine ⟨?_, HBel.out.trans (hb.mono HBel.out.size)⟩
  have : (!l.any fun p => !b p) = l.all b := by rw [List.any_eq_not_all_not]; simp
  rw [← this]; rfl

set_option maxRecDepth 100000 in
set_option maxHeartbeats 4000000 in
theorem list_ok_any (v : Value) (l : List Wk.Pr) (w : World) (h : RdC w v l.length (flatP l)) (hf : fitP l) :
    Calls Try.prog 69 #[v] w fun e w' => e = .returned (.bool (Wk.lsB l)) ∧ Below w.heap.size w w' := by
  have H := Lib.hid (everyP_any v l 92 Wk.prB w h enter_pair (fun X p hp => pair_ok_any p X (hf p hp).1 (hf p hp).2))
  clear h hf
  go_enter Try.func69, Try.ntmps69
  go_wp2_with fail
  refine H.out.mono ?_
  rintro e w1 ⟨rfl, hb⟩
  go_wp2_with fail
  go_ret
  exact ⟨rfl, hb⟩
end Go.Proofs.Ytegkdkilbnighaa

set_option linter.unusedVariables false
set_option linter.unusedSimpArgs false
namespace Go.Proofs.Ytegkdkilbnighaa
open Go.RowKit Go.Rg
attribute [local go_sem] Oper.semAt_some

theorem enter_everyL1 (args : Array Value) (w : World) : (callFunc 90 args).run Try.prog w = .ok (.enter 90 args) w := enters_of Try.func90 (by kernel_rfl) rfl args w
theorem enter_list (args : Array Value) (w : World) : (callFunc 69 args).run Try.prog w = .ok (.enter 69 args) w := enters_of Try.func69 (by kernel_rfl) rfl args w
theorem enter_shaped1 (args : Array Value) (w : World) : (callFunc 88 args).run Try.prog w = .ok (.enter 88 args) w := enters_of Try.func88 (by kernel_rfl) rfl args w

theorem shaped1_any (v : Value) (l : List Wk.Pr) (w : World) (h : RdC w v l.length (flatP l)) :
    Calls Try.prog 88 #[v] w fun e w' => e = .returned (.bool (decide (l.length ≤ 1))) ∧ Below w.heap.size w w' := by
  obtain ⟨a, c, rfl, hm, _⟩ := h
  go_enter Try.func88, Try.ntmps88
  go_wp2_with fail
  go_ret
  exact ⟨by simp; omega, Below.refl _ _⟩

set_option maxRecDepth 100000 in
set_option maxHeartbeats 4000000 in
/-- the place of the first that is so, or less than nothing -/
theorem indexL_any (v : Value) (vs : List Value) (ls : List (List Wk.Pr)) (f : Nat) (cap : Array Value) (b : List Wk.Pr → Bool) (w : World) (h : RdC w v ls.length vs) (hvs : LsC w vs ls)
    (eg : ∀ args w, (callFunc f args).run Try.prog w = .ok (.enter f args) w)
    (hF : ∀ X u l, l ∈ ls → RdC X u l.length (flatP l) → Below w.heap.size w X → Calls Try.prog f (#[u] ++ cap) X fun e X' => e = .returned (.bool (b l)) ∧ Below X.heap.size X X') :
    Calls Try.prog 102 #[v, .func (.func f) #[] cap] w fun e w' => ∃ r : Int, e = .returned (.int .i64 r) ∧ Hid (decide (0 ≤ r) = ls.any b) ∧ Below w.heap.size w w' := by
  obtain ⟨a, c, rfl, hm, ho⟩ := h
  have Ho := Lib.hid ho
  have Hvs := Lib.hid hvs
  obtain ⟨n, hnn⟩ : ∃ n, n = ls.length := ⟨_, rfl⟩
  rw [← hnn] at hm ⊢
  have Hn := Lib.hid hnn
  clear ho hnn hvs
  unfold maxLen at hm
  go_enter Try.func102, Try.ntmps102
  go_wp2_with fail
  go_loopg [8] n (fun q s8 wx => ∃ i : Nat, i + q = n ∧ s8 = .int .i64 (i : Int) ∧ Hid ((ls.take i).any b = false) ∧ Hid (Below w.heap.size w wx))
  case atStart => exact ⟨0, by omega, rfl, rfl, Below.refl _ _⟩
  case round =>
    obtain ⟨i, hiq, rfl, Hi, Hb⟩ := hrel
    cases gk with
    | zero =>
      have hin : i = n := by omega
      subst hin
      go_wp2_with fail
      try rw [Exit.noGoto_ret]
      go_ret
      refine ⟨-1, rfl, ?_, Hb.out⟩
      have := Hi.out; rw [Hn.out, List.take_length] at this
      unfold Hid; rw [this]; rfl
    | succ q =>
      have hin : i < n := by omega
      obtain ⟨l, hp⟩ : ∃ l, ls[i]? = some l := ⟨_, List.getElem?_eq_getElem (by rw [← Hn.out]; exact hin)⟩
      obtain ⟨u, hu, hPk⟩ := Hvs.out i l hp
      obtain ⟨g1, o1, rfl, h1, h2, h3, h4⟩ := Ho.out (fun e => by rw [e] at hu; cases hu)
      have y1 : wr.cell? ⟨g1, o1 + i, none⟩ = some u := (Hb.out.cell (p := ⟨g1, o1 + i, none⟩) h3).trans (h4 _ _ hu)
      unfold maxLen at h2
      have HF := Lib.hid (hF wr u l (List.mem_of_getElem? hp) (hPk.call Hb.out) Hb.out)
      have Hp := Lib.hid hp
      clear h4 hu hp hPk
      cases hbp : b l with
      | false =>
        have Hbp := Lib.hid hbp
        go_wp2_with fail
        refine HF.out.mono ?_
        rintro e w5 ⟨rfl, hb5⟩
        have Hb5 := Lib.hid (Hb.out.trans (hb5.mono Hb.out.size))
        clear hb5
        rw [hbp]
        go_wp2_with fail
        go_roundg q
        case measure => omega
        case rel => exact ⟨i + 1, by omega, by first | rfl | simp, by unfold Hid; rw [List.take_add_one, Hp.out, List.any_append, Hi.out]; simp [Hbp.out], Hb5⟩
      | true =>
        have Hbp := Lib.hid hbp
        go_wp2_with fail
        refine HF.out.mono ?_
        rintro e w5 ⟨rfl, hb5⟩
        have Hb5 := Lib.hid (Hb.out.trans (hb5.mono Hb.out.size))
        clear hb5
        rw [hbp]
        go_wp2_with fail
        try rw [Exit.noGoto_ret]
        go_ret
        refine ⟨(i : Int), rfl, ?_, Hb5.out⟩
        unfold Hid
        have : ls.any b = true := List.any_eq_true.2 ⟨l, List.mem_of_getElem? Hp.out, Hbp.out⟩
        rw [this]; simp

set_option maxRecDepth 100000 in
set_option maxHeartbeats 4000000 in
theorem containsL_any (v : Value) (vs : List Value) (ls : List (List Wk.Pr)) (f : Nat) (cap : Array Value) (b : List Wk.Pr → Bool) (w : World) (h : RdC w v ls.length vs) (hvs : LsC w vs ls)
    (eg : ∀ args w, (callFunc f args).run Try.prog w = .ok (.enter f args) w)
    (hF : ∀ X u l, l ∈ ls → RdC X u l.length (flatP l) → Below w.heap.size w X → Calls Try.prog f (#[u] ++ cap) X fun e X' => e = .returned (.bool (b l)) ∧ Below X.heap.size X X') :
    Calls Try.prog 89 #[v, .func (.func f) #[] cap] w fun e w' => e = .returned (.bool (ls.any b)) ∧ Below w.heap.size w w' := by
  have H := Lib.hid (indexL_any v vs ls f cap b w h hvs eg hF)
  clear hF h hvs
  go_enter Try.func89, Try.ntmps89
  go_wp2_with fail
  refine H.out.mono ?_
  rintro e w1 ⟨r, rfl, hr, hb⟩
  go_wp2_with fail
  go_ret
  exact ⟨by rw [← hr.out]; rfl, hb⟩

set_option maxRecDepth 100000 in
set_option maxHeartbeats 4000000 in
theorem everyL_any (v : Value) (vs : List Value) (ls : List (List Wk.Pr)) (f : Nat) (b : List Wk.Pr → Bool) (w : World) (h : RdC w v ls.length vs) (hvs : LsC w vs ls)
    (eg : ∀ args w, (callFunc f args).run Try.prog w = .ok (.enter f args) w)
    (hF : ∀ X u l, l ∈ ls → RdC X u l.length (flatP l) → Calls Try.prog f #[u] X fun e X' => e = .returned (.bool (b l)) ∧ Below X.heap.size X X') :
    Calls Try.prog 68 #[v, .func (.func f) #[] #[]] w fun e w' => e = .returned (.bool (ls.all b)) ∧ Below w.heap.size w w' := by
  obtain ⟨W0, hW0⟩ : ∃ W0, w.alloc (.cells #[.func (.func f) #[] #[]] 115) = W0 := ⟨_, rfl⟩
  have hB : Blk W0 w.heap.size [.func (.func f) #[] #[]] 115 := hW0 ▸ Blk.new w _ _
  have hBel : Below w.heap.size w W0 := hW0 ▸ (Below.refl _ w).alloc (Nat.le_refl _) _
  have hin : ∀ X u l, l ∈ ls → RdC X u l.length (flatP l) → Below W0.heap.size W0 X → Calls Try.prog 90 #[u, .pointer (some ⟨w.heap.size, 0, none⟩)] X fun e X' => e = .returned (.bool (!b l)) ∧ Below X.heap.size X X' := by
    intro X u l hl hr hX
    have c0 := (hB.call hX).cell (j := 0) rfl
    have HF := Lib.hid (hF X u l hl hr)
    clear hF hl hX hB hBel hW0 h hr hvs
    go_enter Try.func90, Try.ntmps90
    go_wp2_with fail
    refine HF.out.mono ?_
    rintro e w1 ⟨rfl, hb⟩
    go_wp2_with fail
    go_ret
    exact ⟨rfl, hb⟩
  have H := Lib.hid (containsL_any v vs ls 90 #[.pointer (some ⟨w.heap.size, 0, none⟩)] (fun p => !b p) W0 (h.call hBel) (hvs.call hBel) enter_everyL1 (fun X u l hl hr hX => hin X u l hl hr hX))
  have HBel := Lib.hid hBel
  clear hin hF h hB hBel hvs
  go_enter Try.func68, Try.ntmps68
  go_wp2_with fail
  try simp only [hW0]
  refine H.out.mono ?_
  rintro e w1 ⟨rfl, hb⟩
  go_wp2_with fail
  go_ret
  refine ⟨?_, HBel.out.trans (hb.mono HBel.out.size)⟩
  have : (!ls.any fun p => !b p) = ls.all b := by rw [List.any_eq_not_all_not]; simp
  rw [← this]; rfl
end Go.Proofs.Ytegkdkilbnighaa

set_option linter.unusedVariables false
set_option linter.unusedSimpArgs false
namespace Go.Proofs.Ytegkdkilbnighaa
open Go.RowKit Go.Rg
attribute [local go_sem] Oper.semAt_some

/-- any geometry, as the program holds it -/
structure GA where
  kind : Int
  level : Int
  lists : List (List Wk.Pr)
  sizes : List Int
def intsZ (l : List Int) : List Value := l.map fun n => .int .i64 n
abbrev gaV (g : GA) (lv zv : Value) : Value := .agg #[.int .i64 g.kind, .int .i64 g.level, lv, zv]
def BdA (w : World) (lv zv : Value) (g : GA) : Prop := ∃ vs, vs.length = g.lists.length ∧ RdC w lv g.lists.length vs ∧ LsC w vs g.lists ∧ RdC w zv g.sizes.length (intsZ g.sizes)
theorem BdA.call {w w' : World} {lv zv : Value} {g : GA} (h : BdA w lv zv g) (hb : Below w.heap.size w w') : BdA w' lv zv g := by
  obtain ⟨vs, h0, h1, h2, h3⟩ := h; exact ⟨vs, h0, h1.call hb, h2.call hb, h3.call hb⟩

namespace Wk
def sumTo (z : Int) (n : Nat) : List Int → Bool
  | [] => z == n
  | m :: r => !(decide (m < 0) || decide ((n : Int) < m)) && sumTo (z + m) n r
def shapedA (g : GA) : Bool :=
  if g.kind = 1 then g.lists.length == 0 || (g.lists.length == 1 && (g.lists.headD []).length == 1)
  else if g.kind = 2 then g.lists.length == 0 || (g.lists.length == 1 && decide (0 < (g.lists.headD []).length))
  else if g.kind = 4 then g.lists.all fun l => decide (l.length ≤ 1)
  else if g.kind = 3 ∨ g.kind = 5 then true
  else if g.kind = 6 then sumTo 0 g.lists.length g.sizes
  else g.kind == 7 && g.lists.length == 0
def oneA (g : GA) : Bool := shapedA g && ((g.kind == 6 || g.sizes.length == 0) && g.lists.all lsB)
/-- no list is longer than may be -/
def FitA (g : GA) : Prop := g.lists.length ≤ 1000000000 ∧ g.sizes.length ≤ 1000000000 ∧ ∀ l ∈ g.lists, fitP l
end Wk

theorem beq0 (n : Nat) : ((n : Int) == 0) = (n == 0) := by rw [Bool.eq_iff_iff]; simp
theorem beq1 (n : Nat) : ((n : Int) == 1) = decide (n = 1) := by rw [Bool.eq_iff_iff]; simp; omega
theorem sumTo_bound : ∀ (l : List Int) (z : Int) (n : Nat), Wk.sumTo z n l = true → ∀ i, i ≤ l.length → z + (l.take i).sum ≤ z + i * n ∧ z ≤ z + (l.take i).sum
  | l, z, n, h, 0, _ => by simp
  | [], z, n, h, i + 1, hi => by simp at hi
  | m :: r, z, n, h, i + 1, hi => by
    unfold Wk.sumTo at h
    simp at h
    obtain ⟨⟨h1, h2⟩, h3⟩ := h
    have := sumTo_bound r (z + m) n h3 i (by simpa using hi)
    simp only [List.take_succ_cons, List.sum_cons]
    have e : ((i + 1 : Nat) : Int) * n = i * n + n := by rw [Int.natCast_succ, Int.add_mul, Int.one_mul]
    omega

set_option maxRecDepth 100000 in
set_option maxHeartbeats 4000000 in
theorem shaped_any (g : GA) (lv zv : Value) (w : World) (h : BdA w lv zv g) (hf : Wk.FitA g) :
    Calls Try.prog 67 #[gaV g lv zv] w fun e w' => e = .returned (.bool (Wk.shapedA g)) ∧ Below w.heap.size w w' := by
  obtain ⟨kk, lev, ls, ss⟩ := g
  obtain ⟨vs, hvl, hl, hvs, hzs⟩ := h
  simp only at hvl hl hvs hzs hf
  obtain ⟨la, lc, rfl, hlm⟩ := hl.form
  obtain ⟨za, zc, rfl, hzm⟩ := hzs.form
  obtain ⟨hn, hz, hfl⟩ := hf
  simp only at hn hz hfl
  obtain ⟨n, hnn⟩ : ∃ n, n = ls.length := ⟨_, rfl⟩
  obtain ⟨nz, hnz⟩ : ∃ nz, nz = ss.length := ⟨_, rfl⟩
  rw [← hnn] at hn hl hlm hvl
  rw [← hnz] at hz hzs hzm
  unfold gaV
  simp only
  rw [← hnn, ← hnz]
  have Hn := Lib.hid hnn
  have Hnz := Lib.hid hnz
  have Hvs := Lib.hid hvs
  have Hl := Lib.hid hl
  have Hz := Lib.hid hzs
  have Hvl := Lib.hid hvl
  clear hnn hnz hvs hl hzs hvl hfl
  unfold maxLen at hlm hzm
  obtain ⟨W0, hW0⟩ : ∃ W0, w.alloc (.cells #[.int .i64 kk, .int .i64 lev, .slice la n lc, .slice za nz zc] 40) = W0 := ⟨_, rfl⟩
  have B0 : Blk W0 w.heap.size [.int .i64 kk, .int .i64 lev, .slice la n lc, .slice za nz zc] 40 := hW0 ▸ Blk.new w _ _
  have hBel : Below w.heap.size w W0 := hW0 ▸ (Below.refl _ w).alloc (Nat.le_refl _) _
  have hz0 : w.heap.size + 1 ≤ W0.heap.size := by rw [← hW0, World.size_alloc]; exact Nat.le_refl _
  have b0 := B0.cell (j := 0) rfl
  have b2 := B0.cell (j := 2) rfl
  have b3 := B0.cell (j := 3) rfl
  have HBel := Lib.hid hBel
  have HB0 := Lib.hid B0
  clear B0 hBel
  have hfirst : ∀ r : Bool, 0 < n → ∃ g1 o1 vk l, la = some ⟨g1, o1, none⟩ ∧ n ≤ lc ∧ lc ≤ 9223372036854775807 ∧ W0.cell? ⟨g1, o1, none⟩ = some vk ∧ ls.headD [] = l ∧ ∃ ka kc, vk = .slice ka l.length kc ∧ l.length ≤ 9223372036854775807 := by
    intro _ hpos
    obtain ⟨l, hl⟩ : ∃ l, ls[0]? = some l := ⟨_, List.getElem?_eq_getElem (by rw [← Hn.out]; exact hpos)⟩
    obtain ⟨vk, hvk, hPk⟩ := Hvs.out 0 l hl
    obtain ⟨a', c', e', _, ho⟩ := Hl.out
    cases e'
    obtain ⟨g1, o1, rfl, h1, h2, h3, h4⟩ := ho (fun e => by rw [e] at hvk; cases hvk)
    obtain ⟨ka, kc, e, hk⟩ := hPk.form
    refine ⟨g1, o1, vk, l, rfl, h1, h2, (HBel.out.cell (p := ⟨g1, o1, none⟩) h3).trans (h4 0 _ hvk), ?_, ka, kc, e, hk⟩
    cases ls with
    | nil => cases hl
    | cons x r => cases hl; rfl
  have Hfirst := Lib.hid hfirst
  clear hfirst
  go_enter Try.func67, Try.ntmps67
  by_cases h6 : kk = 6
  · subst h6
    have Hres : Hid (Wk.shapedA ⟨6, lev, ls, ss⟩ = Wk.sumTo 0 n ss) := by
      unfold Hid Wk.shapedA; simp only; rw [if_neg (by decide), if_neg (by decide), if_neg (by decide), if_neg (by decide), if_pos trivial, ← Hn.out]
    clear Hfirst
    go_wp2_with fail
    go_loopg [3, 61] nz (fun q s3 s61 wx => ∃ (i : Nat) (z : Int), i + q = nz ∧ s61 = .int .i64 (i : Int) ∧ s3 = .int .i64 z ∧ (0 ≤ z ∧ z ≤ i * 1000000000) ∧ Hid (Wk.sumTo 0 n ss = Wk.sumTo z n (ss.drop i)) ∧ W0 = wx)
    case atStart => exact ⟨0, 0, by omega, rfl, rfl, ⟨by omega, by omega⟩, rfl, rfl⟩
    case round =>
      obtain ⟨i, z, hiq, rfl, rfl, hzz, Hs, rfl⟩ := hrel
      cases gk with
      | zero =>
        have hin : i = nz := by omega
        have hd : ss.drop i = [] := List.drop_eq_nil_of_le (by rw [← Hnz.out]; omega)
        subst hin
        have Hs2 : Hid (Wk.sumTo 0 n ss = (z == n)) := by unfold Hid; rw [Hs.out, hd]; rfl
        clear hd
        go_wp2_with fail
        try rw [Exit.noGoto_ret]
        go_ret
        exact ⟨by rw [Hres.out, Hs2.out]; rfl, HBel.out⟩
      | succ q =>
        have hin : i < nz := by omega
        obtain ⟨m, hm⟩ : ∃ m, ss[i]? = some m := ⟨_, List.getElem?_eq_getElem (by rw [← Hnz.out]; exact hin)⟩
        obtain ⟨a', c', e', _, ho⟩ := Hz.out
        cases e'
        have hmi : (intsZ ss)[i]? = some (.int .i64 m) := by unfold intsZ; rw [List.getElem?_map, hm]; rfl
        obtain ⟨g1, o1, rfl, q1, q2, q3, q4⟩ := ho (fun e => by rw [e] at hmi; cases hmi)
        have y1 : W0.cell? ⟨g1, o1 + i, none⟩ = some (.int .i64 m) := (HBel.out.cell (p := ⟨g1, o1 + i, none⟩) q3).trans (q4 _ _ hmi)
        unfold maxLen at q2
        have hdr : ss.drop i = m :: ss.drop (i + 1) := by
          obtain ⟨hlt, e⟩ := List.getElem?_eq_some_iff.1 hm
          rw [List.drop_eq_getElem_cons hlt, e]
        have Hs2 : Hid (Wk.sumTo 0 n ss = (!(decide (m < 0) || decide ((n : Int) < m)) && Wk.sumTo (z + m) n (ss.drop (i + 1)))) := by unfold Hid; rw [Hs.out, hdr]; rfl
        have hzb : (i : Int) * 1000000000 ≤ 1000000000 * 1000000000 := by omega
        clear q4 hmi hm ho hdr Hs
        by_cases hm0 : m < 0
        · go_wp2_with fail
          try rw [Exit.noGoto_ret]
          go_ret
          exact ⟨by rw [Hres.out, Hs2.out]; simp [hm0], HBel.out⟩
        · by_cases hmn : (n : Int) < m
          · go_wp2_with fail
            try rw [Exit.noGoto_ret]
            go_ret
            exact ⟨by rw [Hres.out, Hs2.out]; simp [hmn], HBel.out⟩
          · have Hs3 : Hid (Wk.sumTo 0 n ss = Wk.sumTo (z + m) n (ss.drop (i + 1))) := by unfold Hid; rw [Hs2.out]; simp [hm0, hmn]
            go_wp2_with fail
            go_roundg q
            case measure => omega
            case rel => exact ⟨i + 1, z + m, by omega, by first | rfl | simp, rfl, ⟨by omega, by omega⟩, Hs3, rfl⟩
  by_cases h4 : kk = 4
  · subst h4
    go_wp2_with fail
    refine (everyL_any _ vs ls 88 (fun l => decide (l.length ≤ 1)) W0 (by rw [← Hn.out]; exact Hl.out.call HBel.out) (Hvs.out.call HBel.out) enter_shaped1 (fun X u l _ hr => shaped1_any u l X hr)).mono ?_
    rintro e w5 ⟨rfl, hb5⟩
    go_wp2_with fail
    go_ret
    exact ⟨rfl, HBel.out.trans (hb5.mono HBel.out.size)⟩
  by_cases h12 : kk = 1 ∨ kk = 2
  · have hres : Wk.shapedA ⟨kk, lev, ls, ss⟩ = (decide (n = 0) || (decide (n = 1) && if kk = 1 then decide ((ls.headD []).length = 1) else decide (0 < (ls.headD []).length))) := by
      unfold Wk.shapedA
      simp only
      rw [← Hn.out]
      rcases h12 with rfl | rfl
      · simp; rfl
      · simp; rfl
    have Hres := Lib.hid hres
    clear hres
    rcases h12 with rfl | rfl
    · clear h6 h4
      rcases Nat.eq_zero_or_pos n with rfl | hpos
      · go_wp2_with fail
        go_ret
        exact ⟨by rw [Hres.out]; rfl, HBel.out⟩
      · have hn0 : ((n : Int) == 0) = false := by rw [beq_eq_false_iff_ne]; omega
        by_cases hn1 : n = 1
        · subst hn1
          obtain ⟨g1, o1, vk, l, rfl, q1, q2, y1, q3, ka, kc, rfl, q4⟩ := Hfirst.out true hpos
          have Q3 := Lib.hid q3
          clear q3
          go_wp2_with fail
          go_ret
          refine ⟨?_, HBel.out⟩
          rw [Hres.out, Q3.out]
          first | rfl | (simp; done) | (simp; omega) | (simp; exact beq1 _)
        · have hn1' : ((n : Int) == 1) = false := by rw [beq_eq_false_iff_ne]; omega
          go_wp2_with fail
          go_ret
          refine ⟨?_, HBel.out⟩
          rw [Hres.out]
          have : n ≠ 0 := by omega
          simp [hn1, this]
    · clear h6 h4
      rcases Nat.eq_zero_or_pos n with rfl | hpos
      · go_wp2_with fail
        go_ret
        exact ⟨by rw [Hres.out]; rfl, HBel.out⟩
      · have hn0 : ((n : Int) == 0) = false := by rw [beq_eq_false_iff_ne]; omega
        by_cases hn1 : n = 1
        · subst hn1
          obtain ⟨g1, o1, vk, l, rfl, q1, q2, y1, q3, ka, kc, rfl, q4⟩ := Hfirst.out true hpos
          have Q3 := Lib.hid q3
          clear q3
          go_wp2_with fail
          go_ret
          refine ⟨?_, HBel.out⟩
          rw [Hres.out, Q3.out]
          first | rfl | (simp; done) | (simp; omega) | (simp; exact by simp)
        · have hn1' : ((n : Int) == 1) = false := by rw [beq_eq_false_iff_ne]; omega
          go_wp2_with fail
          go_ret
          refine ⟨?_, HBel.out⟩
          rw [Hres.out]
          have : n ≠ 0 := by omega
          simp [hn1, this]
  have e1 : (kk == 1) = false := by rw [beq_eq_false_iff_ne]; omega
  have e2 : (kk == 2) = false := by rw [beq_eq_false_iff_ne]; omega
  have e4 : (kk == 4) = false := by rw [beq_eq_false_iff_ne]; omega
  have e6 : (kk == 6) = false := by rw [beq_eq_false_iff_ne]; omega
  by_cases h35 : kk = 3 ∨ kk = 5
  · have hres : Wk.shapedA ⟨kk, lev, ls, ss⟩ = true := by
      unfold Wk.shapedA; simp only; rw [if_neg (by omega), if_neg (by omega), if_neg h4, if_pos h35]
    rcases h35 with rfl | rfl
    · go_wp2_with fail
      go_ret
      exact ⟨by rw [hres]; rfl, HBel.out⟩
    · go_wp2_with fail
      go_ret
      exact ⟨by rw [hres]; rfl, HBel.out⟩
  have e3 : (kk == 3) = false := by rw [beq_eq_false_iff_ne]; omega
  have e5 : (kk == 5) = false := by rw [beq_eq_false_iff_ne]; omega
  have hres : Wk.shapedA ⟨kk, lev, ls, ss⟩ = (kk == 7 && n == 0) := by
    unfold Wk.shapedA; simp only; rw [if_neg (by omega), if_neg (by omega), if_neg h4, if_neg h35, if_neg h6, ← Hn.out]
  have Hres := Lib.hid hres
  clear hres
  by_cases h7 : kk = 7
  · subst h7
    go_wp2_with fail
    go_ret
    exact ⟨by rw [Hres.out]; simp; exact beq0 n, HBel.out⟩
  · have e7 : (kk == 7) = false := by rw [beq_eq_false_iff_ne]; omega
    go_wp2_with fail
    go_ret
    exact ⟨by rw [Hres.out, e7]; rfl, HBel.out⟩
end Go.Proofs.Ytegkdkilbnighaa

set_option linter.unusedVariables false
set_option linter.unusedSimpArgs false
namespace Go.Proofs.Ytegkdkilbnighaa
open Go.RowKit Go.Rg
attribute [local go_sem] Oper.semAt_some

set_option maxRecDepth 100000 in
set_option maxHeartbeats 4000000 in
theorem one_any2 (g : GA) (lv zv : Value) (w : World) (h : BdA w lv zv g) (hf : Wk.FitA g) :
    Calls Try.prog 31 #[gaV g lv zv] w fun e w' => e = .returned (.bool (Wk.oneA g)) ∧ Below w.heap.size w w' := by
  obtain ⟨kk, lev, ls, ss⟩ := g
  obtain ⟨W0, hW0⟩ : ∃ W0, w.alloc (.cells #[.int .i64 kk, .int .i64 lev, lv, zv] 40) = W0 := ⟨_, rfl⟩
  have B0 : Blk W0 w.heap.size [.int .i64 kk, .int .i64 lev, lv, zv] 40 := hW0 ▸ Blk.new w _ _
  have hBel : Below w.heap.size w W0 := hW0 ▸ (Below.refl _ w).alloc (Nat.le_refl _) _
  have hz0 : w.heap.size + 1 ≤ W0.heap.size := by rw [← hW0, World.size_alloc]; exact Nat.le_refl _
  have HSh := Lib.hid (shaped_any ⟨kk, lev, ls, ss⟩ lv zv W0 (h.call hBel) hf)
  obtain ⟨vs, hvl, hl, hvs, hzs⟩ := h
  simp only at hvl hl hvs hzs hf
  obtain ⟨la, lc, rfl, hlm⟩ := hl.form
  obtain ⟨za, zc, rfl, hzm⟩ := hzs.form
  obtain ⟨hn, hz, hfl⟩ := hf
  simp only at hn hz hfl
  obtain ⟨nz, hnz⟩ : ∃ nz, nz = ss.length := ⟨_, rfl⟩
  rw [← hnz] at hz hzs hzm
  unfold gaV at HSh ⊢
  simp only at HSh ⊢
  rw [← hnz] at HSh hW0 B0 ⊢
  have Hnz := Lib.hid hnz
  have Hvs := Lib.hid hvs
  have Hl := Lib.hid hl
  have Hfl := Lib.hid hfl
  have b0 := B0.cell (j := 0) rfl
  have b1 := B0.cell (j := 1) rfl
  have b2 := B0.cell (j := 2) rfl
  have b3 := B0.cell (j := 3) rfl
  have HBel := Lib.hid hBel
  have HB0 := Lib.hid B0
  clear hnz hvs hl hzs hvl hfl B0 hBel
  unfold maxLen at hlm hzm
  go_enter Try.func31, Try.ntmps31
  cases hsh : Wk.shapedA ⟨kk, lev, ls, ss⟩ with
  | false =>
    have Hsh := Lib.hid hsh
    rw [hsh] at HSh
    clear hsh
    go_wp2_with fail
    refine HSh.out.mono ?_
    rintro e w5 ⟨rfl, hb5⟩
    have hbw := Lib.hid (HBel.out.trans (hb5.mono HBel.out.size))
    have B5 := HB0.out.call hb5
    have c0 := B5.cell (j := 0) rfl
    have c2 := B5.cell (j := 2) rfl
    have c3 := B5.cell (j := 3) rfl
    clear hb5 B5
    go_wp2_with fail
    go_ret
    exact ⟨by unfold Wk.oneA; rw [Hsh.out]; rfl, hbw.out⟩
  | true =>
    have Hsh := Lib.hid hsh
    rw [hsh] at HSh
    clear hsh
    have hsz : (nz == 0) = true ∨ (nz == 0) = false := by cases (nz == 0) <;> simp
    by_cases h6 : kk = 6 ∨ nz = 0
    · have Hres : Hid (Wk.oneA ⟨kk, lev, ls, ss⟩ = ls.all Wk.lsB) := by
        unfold Hid Wk.oneA; rw [Hsh.out]; simp only; rw [← Hnz.out]
        rcases h6 with rfl | rfl <;> simp
      by_cases hk : kk = 6
      · subst hk
        go_wp2_with fail
        refine HSh.out.mono ?_
        rintro e w5 ⟨rfl, hb5⟩
        have hbw := Lib.hid (HBel.out.trans (hb5.mono HBel.out.size))
        have B5 := HB0.out.call hb5
        have c0 := B5.cell (j := 0) rfl
        have c2 := B5.cell (j := 2) rfl
        have c3 := B5.cell (j := 3) rfl
        clear hb5 B5
        go_wp2_with fail
        refine (everyL_any _ vs ls 69 Wk.lsB w5 (Hl.out.call hbw.out) (Hvs.out.call hbw.out) enter_list (fun X u l hl hr => list_ok_any u l X hr (Hfl.out l hl))).mono ?_
        rintro e w6 ⟨rfl, hb6⟩
        go_wp2_with fail
        go_ret
        exact ⟨by rw [Hres.out]; rfl, hbw.out.trans (hb6.mono hbw.out.size)⟩
      · have e6 : (kk == 6) = false := by rw [beq_eq_false_iff_ne]; exact hk
        have hnz0 : nz = 0 := by rcases h6 with h | h; exact absurd h hk; exact h
        subst hnz0
        clear h6 hsz
        go_wp2_with fail
        refine HSh.out.mono ?_
        rintro e w5 ⟨rfl, hb5⟩
        have hbw := Lib.hid (HBel.out.trans (hb5.mono HBel.out.size))
        have B5 := HB0.out.call hb5
        have c0 := B5.cell (j := 0) rfl
        have c2 := B5.cell (j := 2) rfl
        have c3 := B5.cell (j := 3) rfl
        clear hb5 B5
        go_wp2_with fail
        refine (everyL_any _ vs ls 69 Wk.lsB w5 (Hl.out.call hbw.out) (Hvs.out.call hbw.out) enter_list (fun X u l hl hr => list_ok_any u l X hr (Hfl.out l hl))).mono ?_
        rintro e w6 ⟨rfl, hb6⟩
        go_wp2_with fail
        go_ret
        exact ⟨by rw [Hres.out]; rfl, hbw.out.trans (hb6.mono hbw.out.size)⟩
    · have e6 : (kk == 6) = false := by rw [beq_eq_false_iff_ne]; omega
      have en : ((nz : Int) == 0) = false := by rw [beq_eq_false_iff_ne]; omega
      have Hres : Hid (Wk.oneA ⟨kk, lev, ls, ss⟩ = false) := by
        unfold Hid Wk.oneA; rw [Hsh.out]; simp only; rw [← Hnz.out, e6, ← beq0, en]; rfl
      clear h6 hsz
      go_wp2_with fail
      refine HSh.out.mono ?_
      rintro e w5 ⟨rfl, hb5⟩
      have hbw := Lib.hid (HBel.out.trans (hb5.mono HBel.out.size))
      have B5 := HB0.out.call hb5
      have c0 := B5.cell (j := 0) rfl
      have c2 := B5.cell (j := 2) rfl
      have c3 := B5.cell (j := 3) rfl
      clear hb5 B5
      go_wp2_with fail
      go_ret
      exact ⟨by rw [Hres.out]; rfl, hbw.out⟩
end Go.Proofs.Ytegkdkilbnighaa
