/- The sort by merging hands back a list in order. No program in sight. -/
import Derived.Test.YtlkhneiccjhgdaaGreatGRl
import Derived.Test.YtlkhneiccjhgdaaGreatGRa
import Derived.Test.YtlkhneiccjhgdaaGreatGRb
import Derived.Deep.Cut
import Derived.Test.YtlkhneiccjhgdaaGreatGRh
import Derived.Test.YtlkhneiccjhgdaaGreatGRg
set_option linter.unusedVariables false
set_option linter.unusedSimpArgs false
namespace Go.Mg
variable {α : Type}
section
variable {le : α → α → Bool} {P : α → Prop} (ht : ∀ x y z, P x → P y → P z → le x y = true → le y z = true → le x z = true) (hh : ∀ x y, P x → P y → le x y = true ∨ le y x = true)
include ht hh
theorem mgB_sorted : ∀ a b : List α, (∀ x ∈ a, P x) → (∀ x ∈ b, P x) → a.Pairwise (fun x y => le x y = true) → b.Pairwise (fun x y => le x y = true) → (mgB le a b).Pairwise (fun x y => le x y = true)
 | [], b, _, _, _, hb => by rw [mgB_nil]; exact hb
 | x :: a, [], _, _, ha, _ => by rw [mgB_nil_right]; exact ha
 | x :: a, y :: b, pa, pb, ha, hb => by
  rw [mgB_cons]
  have px := pa x (List.mem_cons_self ..)
  have py := pb y (List.mem_cons_self ..)
  by_cases h : le x y = true
  ·rw [if_pos h]
   refine List.Pairwise.cons (fun z hz => ?_) (mgB_sorted a (y :: b) (fun u hu => pa u (List.mem_cons_of_mem _ hu)) pb (List.pairwise_cons.1 ha).2 hb)
   rcases mgB_mem.1 hz with k | k
   ·exact (List.pairwise_cons.1 ha).1 z k
   ·rcases List.mem_cons.1 k with rfl | k
    ·exact h
    ·exact ht x y z px py (pb z (List.mem_cons_of_mem _ k)) h ((List.pairwise_cons.1 hb).1 z k)
  ·rw [if_neg h]
   have h' := (hh x y px py).resolve_left h
   refine List.Pairwise.cons (fun z hz => ?_) (mgB_sorted (x :: a) b pa (fun u hu => pb u (List.mem_cons_of_mem _ hu)) ha (List.pairwise_cons.1 hb).2)
   rcases mgB_mem.1 hz with k | k
   ·rcases List.mem_cons.1 k with rfl | k
    ·exact h'
    ·exact ht y x z py px (pa z (List.mem_cons_of_mem _ k)) h' ((List.pairwise_cons.1 ha).1 z k)
   ·exact (List.pairwise_cons.1 hb).1 z k
termination_by a b => a.length + b.length
theorem passB_chunks {k : Nat} (hk : 0 < k) : ∀ (f : Nat) (l : List α), l.length ≤ f → (∀ x ∈ l, P x) → (∀ i, ((l.drop (i * k)).take k).Pairwise (fun x y => le x y = true)) →
  ∀ i, (((passB le k f l).drop (i * (2 * k))).take (2 * k)).Pairwise (fun x y => le x y = true) := by
 intro f
 induction f with
 | zero => intro l _ _ _ i; show ((([] : List α).drop _).take _).Pairwise _; simp
 | succ f ih =>
  intro l hl hp hc i
  by_cases h0 : l = []
  ·subst h0; rw [passB_nil]; simp
  have h1 : 0 < l.length := List.length_pos_iff.2 h0
  rw [passB_step le k f h0]
  have hM : (mgB le (l.take k) ((l.drop k).take k)).Pairwise (fun x y => le x y = true) := by
   have c0 := hc 0
   have c1 := hc 1
   rw [Nat.zero_mul, List.drop_zero] at c0
   rw [Nat.one_mul] at c1
   exact mgB_sorted ht hh _ _ (fun x hx => hp x (List.mem_of_mem_take hx)) (fun x hx => hp x (List.mem_of_mem_drop (List.mem_of_mem_take hx))) c0 c1
  have hlen : (mgB le (l.take k) ((l.drop k).take k)).length = min (2 * k) l.length := by
   rw [mgB_len, List.length_take, List.length_take, List.length_drop]; omega
  have hR := ih (l.drop (2 * k)) (by rw [List.length_drop]; omega) (fun x hx => hp x (List.mem_of_mem_drop hx)) (fun i => by
   have := hc (i + 2)
   rw [List.drop_drop]
   have e : 2 * k + i * k = (i + 2) * k := by rw [Nat.add_mul]; omega
   rw [e]; exact this)
  rcases Nat.lt_or_ge l.length (2 * k) with h | h
  ·have e : l.drop (2 * k) = [] := List.drop_eq_nil_of_le (by omega)
   rw [e, passB_nil, List.append_nil]
   exact List.Pairwise.sublist ((List.take_sublist _ _).trans (List.drop_sublist _ _)) hM
  ·have e : (mgB le (l.take k) ((l.drop k).take k)).length = 2 * k := by omega
   cases i with
   | zero =>
    rw [Nat.zero_mul, List.drop_zero, List.take_append_of_le_length (by omega), List.take_of_length_le (by omega)]
    exact hM
   | succ i =>
    have e2 : (i + 1) * (2 * k) = (mgB le (l.take k) ((l.drop k).take k)).length + i * (2 * k) := by rw [e, Nat.add_mul]; omega
    rw [e2, ← List.drop_drop, List.drop_left]
    exact hR i
theorem sortG_sorted : ∀ (f k : Nat) (l : List α), 0 < k → l.length ≤ k * 2 ^ f → (∀ x ∈ l, P x) → (∀ i, ((l.drop (i * k)).take k).Pairwise (fun x y => le x y = true)) → (sortG le f k l).Pairwise (fun x y => le x y = true) := by
 intro f
 induction f with
 | zero =>
  intro k l hk hl hp hc
  have c := hc 0
  rw [Nat.zero_mul, List.drop_zero, List.take_of_length_le (by omega)] at c
  exact c
 | succ f ih =>
  intro k l hk hl hp hc
  rw [sortG]
  split
  ·have hq := passB_perm le k hk l.length l (Nat.le_refl _)
   refine ih (2 * k) _ (by omega) ?_ (fun x hx => hp x (hq.mem_iff.1 hx)) (passB_chunks ht hh hk l.length l (Nat.le_refl _) hp hc)
   rw [hq.length_eq]
   have : k * 2 ^ (f + 1) = 2 * k * 2 ^ f := by rw [Nat.pow_succ]; ac_rfl
   omega
  ·have c := hc 0
   rw [Nat.zero_mul, List.drop_zero, List.take_of_length_le (by omega)] at c
   exact c
theorem sortB_sorted (l : List α) (hp : ∀ x ∈ l, P x) : (sortB le l).Pairwise (fun x y => le x y = true) := by
 unfold sortB
 refine sortG_sorted ht hh l.length 1 l (by omega) (by rw [Nat.one_mul]; exact Nat.le_of_lt Nat.lt_two_pow_self) hp (fun i => ?_)
 have h : ((l.drop (i * 1)).take 1).length ≤ 1 := by rw [List.length_take]; omega
 match (l.drop (i * 1)).take 1, h with
 | [], _ => exact List.Pairwise.nil
 | [x], _ => exact List.pairwise_singleton _ _
end
theorem sorted_unique {lt : α → α → Prop} (hi : ∀ x, ¬ lt x x) (ha : ∀ x y, lt x y → ¬ lt y x) : ∀ {a b : List α}, a.Pairwise lt → b.Pairwise lt → (∀ x, x ∈ a ↔ x ∈ b) → a = b
 | [], [], _, _, _ => rfl
 | [], y :: b, _, _, h => absurd ((h y).2 (List.mem_cons_self ..)) (List.not_mem_nil)
 | x :: a, [], _, _, h => absurd ((h x).1 (List.mem_cons_self ..)) (List.not_mem_nil)
 | x :: a, y :: b, h1, h2, h => by
  obtain ⟨p1, q1⟩ := List.pairwise_cons.1 h1
  obtain ⟨p2, q2⟩ := List.pairwise_cons.1 h2
  have e : x = y := by
   rcases List.mem_cons.1 ((h x).1 (List.mem_cons_self ..)) with k | k
   ·exact k
   ·rcases List.mem_cons.1 ((h y).2 (List.mem_cons_self ..)) with k' | k'
    ·exact k'.symm
    ·exact absurd (p1 y k') (ha _ _ (p2 x k))
  subst e
  congr 1
  refine sorted_unique hi ha q1 q2 fun z => ?_
  constructor
  ·intro hz
   rcases List.mem_cons.1 ((h z).1 (List.mem_cons_of_mem _ hz)) with rfl | k
   ·exact absurd (p1 z hz) (hi z)
   ·exact k
  ·intro hz
   rcases List.mem_cons.1 ((h z).2 (List.mem_cons_of_mem _ hz)) with rfl | k
   ·exact absurd (p2 z hz) (hi z)
   ·exact k
end Go.Mg
namespace Go.Wd
theorem Rising.head_le {x : Int} {r : List Int} (h : Rising (x :: r)) : ∀ y ∈ r, x ≤ y := by
 intro y hy
 obtain ⟨j, hj, e⟩ := List.getElem_of_mem hy
 exact h 0 (j + 1) x y (by omega) rfl (by rw [List.getElem?_cons_succ, List.getElem?_eq_getElem hj, e])
theorem drop_low {β : Type} (f : β → Int) (k : Int) : ∀ l : List β, Rising (l.map f) → l.drop (lowB (l.map f) k) = l.filter (fun z => decide (k ≤ f z))
 | [], _ => by simp
 | x :: r, h => by
  have ih := drop_low f k r (Rising.tail (by simpa using h))
  rw [List.map_cons, lowB]
  by_cases hx : f x < k
  ·rw [if_pos hx, List.drop_succ_cons, ih, List.filter_cons, if_neg (by simp; omega)]
  ·rw [if_neg hx, List.drop_zero]
   symm
   rw [List.filter_eq_self]
   intro z hz
   rw [decide_eq_true_eq]
   rcases List.mem_cons.1 hz with rfl | hz
   ·omega
   ·have := (Rising.head_le (by simpa using h)) (f z) (List.mem_map_of_mem hz)
    omega
theorem take_high {β : Type} (f : β → Int) (k : Int) : ∀ l : List β, Rising (l.map f) → l.takeWhile (fun z => decide (f z ≤ k)) = l.filter (fun z => decide (f z ≤ k))
 | [], _ => by simp
 | x :: r, h => by
  have ih := take_high f k r (Rising.tail (by simpa using h))
  by_cases hx : f x ≤ k
  ·rw [List.takeWhile_cons, if_pos (by simpa using hx), List.filter_cons, if_pos (by simpa using hx), ih]
  ·rw [List.takeWhile_cons, if_neg (by simpa using hx), List.filter_cons, if_neg (by simpa using hx)]
   symm
   rw [List.filter_eq_nil_iff]
   intro z hz
   have := (Rising.head_le (by simpa using h)) (f z) (List.mem_map_of_mem hz)
   simp; omega
theorem Rising.drop {l : List Int} (h : Rising l) (n : Nat) : Rising (l.drop n) := by
 intro i j x y hij hi hj
 rw [List.getElem?_drop] at hi hj
 exact h _ _ _ _ (by omega) hi hj
theorem mem_rowNear {lx hx : Int} {r : Int × List Int} (h : Rising r.2) {x y : Int} : (x, y) ∈ rowNear lx hx r ↔ y = r.1 ∧ x ∈ r.2 ∧ lx ≤ x ∧ x ≤ hx := by
 unfold rowNear inR
 have e := drop_low (fun z : Int => z) lx r.2 (by simpa using h)
 rw [List.map_id'] at e
 have e2 := take_high (fun z : Int => z) hx (r.2.drop (lowB r.2 lx)) (by simpa using h.drop _)
 rw [e2, e]
 simp only [List.mem_map, List.mem_filter, decide_eq_true_eq, Prod.mk.injEq]
 constructor
 ·rintro ⟨z, ⟨⟨h1, h2⟩, h3⟩, rfl, rfl⟩; exact ⟨rfl, h1, h2, h3⟩
 ·rintro ⟨rfl, h1, h2, h3⟩; exact ⟨x, ⟨⟨h1, h2⟩, h3⟩, rfl, rfl⟩
theorem mem_nearB {rows : List (Int × List Int)} (hy : Rising (rows.map (·.1))) (hr : ∀ r ∈ rows, Rising r.2) {lx ly hx h2 x y : Int} :
  (x, y) ∈ nearB rows lx ly hx h2 ↔ (∃ r ∈ rows, r.1 = y ∧ x ∈ r.2) ∧ lx ≤ x ∧ x ≤ hx ∧ ly ≤ y ∧ y ≤ h2 := by
 unfold nearB nearRest
 have hd : Rising ((rows.drop (lowB (rows.map (·.1)) ly)).map (·.1)) := by rw [List.map_drop]; exact hy.drop _
 rw [take_high (fun r : Int × List Int => r.1) h2 _ hd, drop_low (fun r : Int × List Int => r.1) ly rows hy]
 simp only [List.mem_flatMap, List.mem_filter, decide_eq_true_eq]
 constructor
 ·rintro ⟨r, ⟨⟨h1, h3⟩, h4⟩, h5⟩
  obtain ⟨rfl, k1, k2, k3⟩ := (mem_rowNear (hr r h1)).1 h5
  exact ⟨⟨r, h1, rfl, k1⟩, k2, k3, h3, h4⟩
 ·rintro ⟨⟨r, h1, rfl, k1⟩, k2, k3, h3, h4⟩
  exact ⟨r, ⟨⟨h1, h3⟩, h4⟩, (mem_rowNear (hr r h1)).2 ⟨rfl, k1, k2, k3⟩⟩
end Go.Wd
namespace Go.Wd
open Go
structure Ptz where
 fn : Int
 fd : Int
 tn : Int
 td : Int
structure Ptz.Ok (p : Ptz) : Prop where
 f : Wd.Ok p.fn p.fd
 t : Wd.Ok p.tn p.td
end Go.Wd
namespace Go.Proofs.YtlkhneiccjhgdaaGreat
open Go.RowKit Go.Rg Go.Wd
end Go.Proofs.YtlkhneiccjhgdaaGreat
namespace Go.Wd
open Go
end Go.Wd
namespace Go.Wd
open Go
def leF (n d n' d' : Int) : Prop := n * d' ≤ n' * d
theorem cmpI_lt {x y : Int} : cmpI x y < 0 ↔ x < y := by unfold cmpI; split <;> (try split) <;> omega
theorem cmpI_gt {x y : Int} : 0 < cmpI x y ↔ y < x := by unfold cmpI; split <;> (try split) <;> omega
theorem leF_trans {n1 d1 n2 d2 n3 d3 : Int} (h1 : 0 < d1) (h2 : 0 < d2) (h3 : 0 < d3) (a : leF n1 d1 n2 d2) (b : leF n2 d2 n3 d3) : leF n1 d1 n3 d3 := by
 unfold leF at *
 have e1 : n1 * d2 * d3 ≤ n2 * d1 * d3 := Int.mul_le_mul_of_nonneg_right a (by omega)
 have e2 : n2 * d3 * d1 ≤ n3 * d2 * d1 := Int.mul_le_mul_of_nonneg_right b (by omega)
 have e3 : n1 * d3 * d2 ≤ n3 * d1 * d2 := by
  have t1 : n1 * d3 * d2 = n1 * d2 * d3 := by ac_rfl
  have t2 : n2 * d1 * d3 = n2 * d3 * d1 := by ac_rfl
  have t3 : n3 * d2 * d1 = n3 * d1 * d2 := by ac_rfl
  omega
 exact Int.le_of_mul_le_mul_right e3 h2
def Good (p : Ptz) : Prop := leF p.fn p.fd p.tn p.td
theorem mono {k x y : Int} (hk : 0 ≤ k) (h : x ≤ y) : k * x ≤ k * y := Int.mul_le_mul_of_nonneg_left h hk
end Go.Wd
namespace Go.Wd
open Go
def ltF (n d n' d' : Int) : Prop := n * d' < n' * d
def eqF (n d n' d' : Int) : Prop := n * d' = n' * d
theorem ltF_le {n d n' d' : Int} : ltF n d n' d' ↔ ¬ leF n' d' n d := by unfold ltF leF; omega
theorem ltF_leF {n1 d1 n2 d2 n3 d3 : Int} (h1 : 0 < d1) (h2 : 0 < d2) (h3 : 0 < d3) (a : ltF n1 d1 n2 d2) (b : leF n2 d2 n3 d3) : ltF n1 d1 n3 d3 := by
 rw [ltF_le] at *
 exact fun k => a (leF_trans h2 h3 h1 b k)
theorem leF_ltF {n1 d1 n2 d2 n3 d3 : Int} (h1 : 0 < d1) (h2 : 0 < d2) (h3 : 0 < d3) (a : leF n1 d1 n2 d2) (b : ltF n2 d2 n3 d3) : ltF n1 d1 n3 d3 := by
 rw [ltF_le] at *
 exact fun k => b (leF_trans h3 h1 h2 k a)
theorem eqF_iff {n d n' d' : Int} : eqF n d n' d' ↔ leF n d n' d' ∧ leF n' d' n d := by unfold eqF leF; omega
def loB (n d : Int) (o : Bool) (p q : Int) : Prop := ltF n d p q ∨ (eqF n d p q ∧ o = false)
def hiB (n d : Int) (o : Bool) (p q : Int) : Prop := ltF p q n d ∨ (eqF p q n d ∧ o = false)
def Mem (s : Stz) (p q : Int) : Prop := loB s.fn s.fd s.op p q ∧ hiB s.tn s.td s.ot p q
theorem loB_le {n d : Int} {o : Bool} {p q : Int} (h : loB n d o p q) : leF n d p q := by
 rcases h with h | ⟨h, _⟩
 ·unfold ltF at h; unfold leF; omega
 ·exact (eqF_iff.1 h).1
theorem hiB_le {n d : Int} {o : Bool} {p q : Int} (h : hiB n d o p q) : leF p q n d := by
 rcases h with h | ⟨h, _⟩
 ·unfold ltF at h; unfold leF; omega
 ·exact (eqF_iff.1 h).1
structure SPos (s : Stz) : Prop where
 f : 0 < s.fd
 t : 0 < s.td
theorem from_pos {s : Stz} {n d : Int} {o : Bool} (h : SPos s) (hd : 0 < d) : SPos (fromZ s n d o) := by
 unfold fromZ; split
 ·exact ⟨hd, h.t⟩
 ·split <;> exact ⟨h.f, h.t⟩
theorem to_pos {s : Stz} {n d : Int} {o : Bool} (h : SPos s) (hd : 0 < d) : SPos (toZ s n d o) := by
 unfold toZ; split
 ·exact ⟨h.f, hd⟩
 ·split <;> exact ⟨h.f, h.t⟩
theorem from_lo {s : Stz} {n d : Int} {o : Bool} (h : SPos s) (hd : 0 < d) {p q : Int} (hq : 0 < q) :
  loB (fromZ s n d o).fn (fromZ s n d o).fd (fromZ s n d o).op p q ↔ loB s.fn s.fd s.op p q ∧ loB n d o p q := by
 unfold fromZ
 split
 ·rename_i hc
  have hl : ltF s.fn s.fd n d := by unfold cmpR at hc; have := cmpI_gt.1 hc; unfold ltF; omega
  exact ⟨fun k => ⟨.inl (ltF_leF h.f hd hq hl (loB_le k)), k⟩, fun k => k.2⟩
 ·split
  ·rename_i h1 h2
   have he : eqF n d s.fn s.fd := by
    unfold cmpR at h1 h2
    have : ¬ (s.fn * d < n * s.fd) := fun k => h1 (cmpI_gt.2 k)
    have : ¬ (n * s.fd < s.fn * d) := fun k => by have := cmpI_lt.2 k; omega
    unfold eqF; omega
   obtain ⟨e1, e2⟩ := eqF_iff.1 he
   have hlt : ltF n d p q ↔ ltF s.fn s.fd p q := ⟨fun k => leF_ltF h.f hd hq e2 k, fun k => leF_ltF hd h.f hq e1 k⟩
   have heq : eqF n d p q ↔ eqF s.fn s.fd p q := by
    rw [eqF_iff, eqF_iff]
    exact ⟨fun k => ⟨leF_trans h.f hd hq e2 k.1, leF_trans hq hd h.f k.2 e1⟩, fun k => ⟨leF_trans hd h.f hq e1 k.1, leF_trans hq h.f hd k.2 e2⟩⟩
   unfold loB
   rw [hlt, heq]
   simp only [Bool.or_eq_false_iff]
   constructor
   ·rintro (k | ⟨k, ko, kp⟩)
    ·exact ⟨.inl k, .inl k⟩
    ·exact ⟨.inr ⟨k, ko⟩, .inr ⟨k, kp⟩⟩
   ·rintro ⟨k | ⟨k, ko⟩, l | ⟨l, lo⟩⟩
    ·exact .inl k
    ·exact .inl k
    ·exact .inl l
    ·exact .inr ⟨k, ko, lo⟩
  ·rename_i h1 h2
   have hl : ltF n d s.fn s.fd := by
    unfold cmpR at h1 h2
    have a1 : ¬ (s.fn * d < n * s.fd) := fun k => h1 (cmpI_gt.2 k)
    have a2 : ¬ (n * s.fd = s.fn * d) := fun k => h2 (by unfold cmpI; rw [if_neg (by omega), if_pos k])
    unfold ltF; omega
   exact ⟨fun k => ⟨k, .inl (ltF_leF hd h.f hq hl (loB_le k))⟩, fun k => k.1⟩
theorem to_hi {s : Stz} {n d : Int} {o : Bool} (h : SPos s) (hd : 0 < d) {p q : Int} (hq : 0 < q) :
  hiB (toZ s n d o).tn (toZ s n d o).td (toZ s n d o).ot p q ↔ hiB s.tn s.td s.ot p q ∧ hiB n d o p q := by
 unfold toZ
 split
 ·rename_i hc
  have hl : ltF n d s.tn s.td := by unfold cmpR at hc; have := cmpI_lt.1 hc; unfold ltF; omega
  exact ⟨fun k => ⟨.inl (leF_ltF hq hd h.t (hiB_le k) hl), k⟩, fun k => k.2⟩
 ·split
  ·rename_i h1 h2
   have he : eqF n d s.tn s.td := by
    unfold cmpR at h1 h2
    have : ¬ (n * s.td < s.tn * d) := fun k => h1 (cmpI_lt.2 k)
    have : ¬ (s.tn * d < n * s.td) := fun k => by have := cmpI_gt.2 k; omega
    unfold eqF; omega
   obtain ⟨e1, e2⟩ := eqF_iff.1 he
   have hlt : ltF p q n d ↔ ltF p q s.tn s.td := ⟨fun k => ltF_leF hq hd h.t k e1, fun k => ltF_leF hq h.t hd k e2⟩
   have heq : eqF p q n d ↔ eqF p q s.tn s.td := by
    rw [eqF_iff, eqF_iff]
    exact ⟨fun k => ⟨leF_trans hq hd h.t k.1 e1, leF_trans h.t hd hq e2 k.2⟩, fun k => ⟨leF_trans hq h.t hd k.1 e2, leF_trans hd h.t hq e1 k.2⟩⟩
   unfold hiB
   rw [hlt, heq]
   simp only [Bool.or_eq_false_iff]
   constructor
   ·rintro (k | ⟨k, ko, kp⟩)
    ·exact ⟨.inl k, .inl k⟩
    ·exact ⟨.inr ⟨k, ko⟩, .inr ⟨k, kp⟩⟩
   ·rintro ⟨k | ⟨k, ko⟩, l | ⟨l, lo⟩⟩
    ·exact .inl k
    ·exact .inl k
    ·exact .inl l
    ·exact .inr ⟨k, ko, lo⟩
  ·rename_i h1 h2
   have hl : ltF s.tn s.td n d := by
    unfold cmpR at h1 h2
    have a1 : ¬ (n * s.td < s.tn * d) := fun k => h1 (cmpI_lt.2 k)
    have a2 : ¬ (n * s.td = s.tn * d) := fun k => h2 (by unfold cmpI; rw [if_neg (by omega), if_pos k])
    unfold ltF; omega
   exact ⟨fun k => ⟨k, .inl (leF_ltF hq h.t hd (hiB_le k) hl)⟩, fun k => k.1⟩
theorem from_t (s : Stz) (n d : Int) (o : Bool) : (fromZ s n d o).tn = s.tn ∧ (fromZ s n d o).td = s.td ∧ (fromZ s n d o).ot = s.ot := by
 unfold fromZ; split
 ·exact ⟨rfl, rfl, rfl⟩
 ·split <;> exact ⟨rfl, rfl, rfl⟩
theorem to_f (s : Stz) (n d : Int) (o : Bool) : (toZ s n d o).fn = s.fn ∧ (toZ s n d o).fd = s.fd ∧ (toZ s n d o).op = s.op := by
 unfold toZ; split
 ·exact ⟨rfl, rfl, rfl⟩
 ·split <;> exact ⟨rfl, rfl, rfl⟩
theorem mem_fromto {s : Stz} {n d n' d' : Int} {o o' : Bool} (h : SPos s) (hd : 0 < d) (hd' : 0 < d') {p q : Int} (hq : 0 < q) :
  Mem (toZ (fromZ s n d o) n' d' o') p q ↔ Mem s p q ∧ loB n d o p q ∧ hiB n' d' o' p q := by
 unfold Mem
 obtain ⟨a1, a2, a3⟩ := to_f (fromZ s n d o) n' d' o'
 obtain ⟨b1, b2, b3⟩ := from_t s n d o
 rw [a1, a2, a3, from_lo h hd hq, to_hi (from_pos h hd) hd' hq, b1, b2, b3]
 exact ⟨fun ⟨⟨x, y⟩, z, u⟩ => ⟨⟨x, z⟩, y, u⟩, fun ⟨⟨x, z⟩, y, u⟩ => ⟨⟨x, y⟩, z, u⟩⟩
def InB (a way low high p q : Int) : Prop := low * q ≤ 2 * (a * q + way * p) ∧ 2 * (a * q + way * p) < high * q
theorem band_pos' {s : Stz} {a way low high : Int} (h : SPos s) : SPos (bandZ s a way low high).1 := by
 unfold bandZ
 split
 ·exact to_pos (from_pos h (by omega)) (by omega)
 ·split
  ·exact to_pos (from_pos h (by omega)) (by omega)
  ·exact h
theorem band_mem {s : Stz} {a way low high : Int} (h : SPos s) {p q : Int} (hq : 0 < q) :
  (Mem s p q ∧ InB a way low high p q) ↔ ((bandZ s a way low high).2 = true ∧ Mem (bandZ s a way low high).1 p q) := by
 have e1 : (low - 2 * a) * q = low * q - 2 * (a * q) := by rw [Int.sub_mul, Int.mul_assoc]
 have e2 : (high - 2 * a) * q = high * q - 2 * (a * q) := by rw [Int.sub_mul, Int.mul_assoc]
 have e3 : (2 * a - low) * q = 2 * (a * q) - low * q := by rw [Int.sub_mul, Int.mul_assoc]
 have e4 : (2 * a - high) * q = 2 * (a * q) - high * q := by rw [Int.sub_mul, Int.mul_assoc]
 have e5 : p * (2 * way) = 2 * (way * p) := by rw [Int.mul_left_comm, Int.mul_comm p way]
 have e6 : p * (-(2 * way)) = -(2 * (way * p)) := by rw [Int.mul_neg, e5]
 unfold bandZ
 split
 ·rename_i hw
  simp only [true_and]
  rw [mem_fromto h (by omega) (by omega) hq]
  have : (loB (low - 2 * a) (2 * way) false p q ∧ hiB (high - 2 * a) (2 * way) true p q) ↔ InB a way low high p q := by
   unfold loB hiB InB ltF eqF
   rw [e1, e2, e5]
   simp only [and_true, Bool.true_eq_false, and_false, or_false]
   omega
  rw [this]
 ·split
  ·rename_i hw
   simp only [true_and]
   rw [mem_fromto h (by omega) (by omega) hq]
   have : (loB (2 * a - high) (-(2 * way)) true p q ∧ hiB (2 * a - low) (-(2 * way)) false p q) ↔ InB a way low high p q := by
    unfold loB hiB InB ltF eqF
    rw [e3, e4, e6]
    simp only [and_true, Bool.true_eq_false, and_false, or_false]
    omega
   rw [this]
  ·rename_i h1 h2
   have hw : way = 0 := by omega
   subst hw
   have : (decide (low ≤ 2 * a) && decide (2 * a < high)) = true ↔ InB a 0 low high p q := by
    unfold InB
    rw [Bool.and_eq_true, decide_eq_true_eq, decide_eq_true_eq, Int.zero_mul, Int.add_zero, ← Int.mul_assoc]
    exact ⟨fun ⟨x, y⟩ => ⟨Int.mul_le_mul_of_nonneg_right x (by omega), Int.mul_lt_mul_of_pos_right y hq⟩, fun ⟨x, y⟩ => ⟨Int.le_of_mul_le_mul_right x hq, Int.lt_of_mul_lt_mul_right y (by omega)⟩⟩
   rw [← this]
   exact ⟨fun ⟨x, y⟩ => ⟨y, x⟩, fun ⟨x, y⟩ => ⟨y, x⟩⟩
def InC (a b c d cx cy size p q : Int) : Prop := (0 ≤ p ∧ p ≤ q) ∧ InB a (c - a) (2 * cx * size - size) (2 * cx * size + size) p q ∧ InB b (d - b) (2 * cy * size - size) (2 * cy * size + size) p q
theorem whole_mem {p q : Int} : Mem whole p q ↔ 0 ≤ p ∧ p ≤ q := by
 unfold Mem whole loB hiB ltF eqF
 simp only [and_true, Int.zero_mul, Int.mul_one, Int.one_mul]
 omega
theorem mem_some {s : Stz} {p q : Int} (h : SPos s) (hq : 0 < q) (hm : Mem s p q) : someZ s = true := by
 have h1 := leF_trans h.f hq h.t (loB_le hm.1) (hiB_le hm.2)
 unfold someZ
 rw [Bool.or_eq_true, Bool.and_eq_true, Bool.and_eq_true, decide_eq_true_eq, decide_eq_true_eq, Bool.not_eq_true', Bool.not_eq_true']
 by_cases h2 : leF s.tn s.td s.fn s.fd
 ·refine .inr ⟨?_, ?_, ?_⟩
  ·unfold cmpR cmpI
   unfold leF at h1 h2
   rw [if_neg (by omega), if_pos (by omega)]
  ·rcases hm.1 with k | ⟨_, k⟩
   ·exact absurd h2 (ltF_le.1 (ltF_leF h.f hq h.t k (hiB_le hm.2)))
   ·exact k
  ·rcases hm.2 with k | ⟨_, k⟩
   ·exact absurd h2 (ltF_le.1 (leF_ltF h.f hq h.t (loB_le hm.1) k))
   ·exact k
 ·left
  unfold cmpR
  rw [cmpI_lt]
  unfold leF at h2
  omega
theorem cutZ_some {a b c d cx cy size : Int} {z : Stz} (hz : cutZ a b c d cx cy size = some z) : SPos z ∧ someZ z = true ∧ ∀ p q : Int, 0 < q → (InC a b c d cx cy size p q ↔ Mem z p q) := by
 have hw : SPos whole := ⟨by decide, by decide⟩
 unfold cutZ at hz
 split at hz
 ·rename_i h1
  split at hz
  ·rename_i h2
   split at hz
   ·rename_i h3
    cases hz
    refine ⟨band_pos' (band_pos' hw), h3, fun p q hq => ?_⟩
    unfold InC
    rw [← whole_mem (p := p) (q := q), ← and_assoc, band_mem hw hq]
    rw [h1, eq_self, true_and, band_mem (band_pos' hw) hq, h2, eq_self, true_and]
   ·cases hz
  ·cases hz
 ·cases hz
theorem cutZ_none {a b c d cx cy size : Int} (hz : cutZ a b c d cx cy size = none) (p q : Int) (hq : 0 < q) : ¬ InC a b c d cx cy size p q := by
 have hw : SPos whole := ⟨by decide, by decide⟩
 intro h
 unfold InC at h
 rw [← whole_mem (p := p) (q := q), ← and_assoc, band_mem hw hq] at h
 obtain ⟨⟨h1, hm⟩, hi⟩ := h
 obtain ⟨h2, hm2⟩ := (band_mem (band_pos' hw) hq).1 ⟨hm, hi⟩
 have h3 := mem_some (band_pos' (band_pos' hw)) hq hm2
 unfold cutZ at hz
 rw [if_pos h1, if_pos h2, if_pos h3] at hz
 cases hz
end Go.Wd
namespace Go.Wd
open Go
theorem hiB_down {n d : Int} {o : Bool} {p q p' q' : Int} (hd : 0 < d) (hq : 0 < q) (hq' : 0 < q') (h : hiB n d o p q) (k : ltF p' q' p q) : hiB n d o p' q' :=
 .inl (ltF_leF hq' hq hd k (hiB_le h))
theorem loB_eq {n d : Int} {o : Bool} {p q p' q' : Int} (hd : 0 < d) (hq : 0 < q) (hq' : 0 < q') (h : loB n d o p q) (k : eqF p q p' q') : loB n d o p' q' := by
 obtain ⟨k1, k2⟩ := eqF_iff.1 k
 rcases h with h | ⟨h, ho⟩
 ·exact .inl (ltF_leF hd hq hq' h k1)
 ·obtain ⟨h1, h2⟩ := eqF_iff.1 h
  exact .inr ⟨eqF_iff.2 ⟨leF_trans hd hq hq' h1 k1, leF_trans hq' hq hd k2 h2⟩, ho⟩
theorem hiB_eq {n d : Int} {o : Bool} {p q p' q' : Int} (hd : 0 < d) (hq : 0 < q) (hq' : 0 < q') (h : hiB n d o p q) (k : eqF p q p' q') : hiB n d o p' q' := by
 obtain ⟨k1, k2⟩ := eqF_iff.1 k
 rcases h with h | ⟨h, ho⟩
 ·exact .inl (leF_ltF hq' hq hd k2 h)
 ·obtain ⟨h1, h2⟩ := eqF_iff.1 h
  exact .inr ⟨eqF_iff.2 ⟨leF_trans hq' hq hd k2 h1, leF_trans hd hq hq' h2 k1⟩, ho⟩
theorem mem_eq {s : Stz} (h : SPos s) {p q p' q' : Int} (hq : 0 < q) (hq' : 0 < q') (hm : Mem s p q) (k : eqF p q p' q') : Mem s p' q' :=
 ⟨loB_eq h.f hq hq' hm.1 k, hiB_eq h.t hq hq' hm.2 k⟩
theorem tri (p q p' q' : Int) : ltF p q p' q' ∨ eqF p q p' q' ∨ ltF p' q' p q := by unfold ltF eqF; omega
theorem mem_ex {s : Stz} (h : SPos s) (hs : someZ s = true) : ∃ p q : Int, 0 < q ∧ Mem s p q := by
 unfold someZ at hs
 rw [Bool.or_eq_true, Bool.and_eq_true, Bool.and_eq_true, decide_eq_true_eq, decide_eq_true_eq, Bool.not_eq_true', Bool.not_eq_true'] at hs
 have hf := h.f
 have ht := h.t
 rcases hs with hl | ⟨he, ho, ht'⟩
 ·unfold cmpR at hl
  rw [cmpI_lt] at hl
  refine ⟨s.fn * s.td + s.tn * s.fd, 2 * (s.fd * s.td), by have := Int.mul_pos hf ht; omega, .inl ?_, .inl ?_⟩
  ·unfold ltF
   have e : (s.fn * s.td + s.tn * s.fd) * s.fd = s.fn * s.td * s.fd + s.tn * s.fd * s.fd := Int.add_mul _ _ _
   have e2 : s.fn * (2 * (s.fd * s.td)) = 2 * (s.fn * s.td * s.fd) := by
    have : s.fn * (s.fd * s.td) = s.fn * s.td * s.fd := by ac_rfl
    rw [Int.mul_left_comm, this]
   have e3 := Int.mul_lt_mul_of_pos_right hl hf
   omega
  ·unfold ltF
   have e : (s.fn * s.td + s.tn * s.fd) * s.td = s.fn * s.td * s.td + s.tn * s.fd * s.td := Int.add_mul _ _ _
   have e2 : s.tn * (2 * (s.fd * s.td)) = 2 * (s.tn * s.fd * s.td) := by
    have : s.tn * (s.fd * s.td) = s.tn * s.fd * s.td := by ac_rfl
    rw [Int.mul_left_comm, this]
   have e3 := Int.mul_lt_mul_of_pos_right hl ht
   omega
 ·have he' : s.fn * s.td = s.tn * s.fd := by
   unfold cmpR cmpI at he
   split at he
   ·cases he
   ·split at he
    ·assumption
    ·cases he
  exact ⟨s.fn, s.fd, hf, .inr ⟨rfl, ho⟩, .inr ⟨by unfold eqF; omega, ht'⟩⟩
theorem ahead_lo {s t : Stz} (hs : SPos s) (ht : SPos t) (h : 0 ≤ aheadZ s t) {p q : Int} (hq : 0 < q) (hl : loB s.fn s.fd s.op p q) : loB t.fn t.fd t.op p q := by
 unfold aheadZ at h
 split at h
 ·rename_i hc
  have hlt : ltF t.fn t.fd s.fn s.fd := by
   unfold cmpR at hc h
   have a1 : ¬ (s.fn * t.fd < t.fn * s.fd) := fun k => by have := cmpI_lt.2 k; omega
   have a2 : ¬ (s.fn * t.fd = t.fn * s.fd) := fun k => hc (by unfold cmpI; rw [if_neg (by omega), if_pos k])
   unfold ltF; omega
  exact .inl (ltF_leF ht.f hs.f hq hlt (loB_le hl))
 ·rename_i hc
  have he : eqF t.fn t.fd s.fn s.fd := by
   have hc' : cmpR s.fn s.fd t.fn t.fd = 0 := Decidable.not_not.1 hc
   unfold cmpR cmpI at hc'
   split at hc'
   ·cases hc'
   ·split at hc'
    ·rename_i k; unfold eqF; omega
    ·cases hc'
  obtain ⟨e1, e2⟩ := eqF_iff.1 he
  rcases hl with k | ⟨k, ko⟩
  ·exact .inl (leF_ltF ht.f hs.f hq e1 k)
  ·obtain ⟨k1, k2⟩ := eqF_iff.1 k
   refine .inr ⟨eqF_iff.2 ⟨leF_trans ht.f hs.f hq e1 k1, leF_trans hq hs.f ht.f k2 e2⟩, ?_⟩
   split at h
   ·rename_i ho; rw [← ho]; exact ko
   ·split at h
    ·cases h
    ·rename_i h2; simpa using h2
theorem ahead_neg (s t : Stz) : aheadZ t s = - aheadZ s t := by
 have e : cmpR t.fn t.fd s.fn s.fd = - cmpR s.fn s.fd t.fn t.fd := by
  unfold cmpR cmpI
  split <;> split <;> (try split) <;> (try split) <;> omega
 unfold aheadZ
 rw [e]
 by_cases h : cmpR s.fn s.fd t.fn t.fd = 0
 ·rw [h]
  cases s.op <;> cases t.op <;> rfl
 ·rw [if_pos (by omega), if_pos h]
def Apart (s t : Stz) : Prop := ∀ p q : Int, 0 < q → ¬ (Mem s p q ∧ Mem t p q)
theorem ahead_of {s t : Stz} (hs : SPos s) (ht : SPos t) (ha : Apart s t) {p q p' q' : Int} (hq : 0 < q) (hq' : 0 < q') (h1 : Mem s p q) (h2 : Mem t p' q') (hl : ltF p q p' q') : aheadZ s t < 0 := by
 rcases Int.lt_or_le (aheadZ s t) 0 with h | h
 ·exact h
 ·exact absurd ⟨h1, ahead_lo hs ht h hq h1.1, hiB_down ht.t hq' hq h2.2 hl⟩ (ha p q hq)
theorem ahead_iff {s t : Stz} (hs : SPos s) (ht : SPos t) (ha : Apart s t) {p q p' q' : Int} (hq : 0 < q) (hq' : 0 < q') (h1 : Mem s p q) (h2 : Mem t p' q') : (aheadZ s t < 0 ↔ ltF p q p' q') ∧ (0 < aheadZ s t ↔ ltF p' q' p q) := by
 rcases tri p q p' q' with h | h | h
 ·have k := ahead_of hs ht ha hq hq' h1 h2 h
  exact ⟨⟨fun _ => h, fun _ => k⟩, ⟨fun k' => by omega, fun k' => by unfold ltF at *; omega⟩⟩
 ·exact absurd ⟨mem_eq hs hq hq' h1 h, h2⟩ (ha p' q' hq')
 ·have k := ahead_of ht hs (fun p q hq h => ha p q hq ⟨h.2, h.1⟩) hq' hq h2 h1 h
  rw [ahead_neg] at k
  exact ⟨⟨fun k' => by omega, fun k' => by unfold ltF at *; omega⟩, ⟨fun _ => h, fun _ => by omega⟩⟩
theorem row_one {c1 c2 size u q : Int} (hs : 1 ≤ size) (hq : 0 < q) (h1 : (2 * c1 * size - size) * q ≤ u) (h2 : u < (2 * c1 * size + size) * q) (h3 : (2 * c2 * size - size) * q ≤ u) (h4 : u < (2 * c2 * size + size) * q) : c1 = c2 := by
 have a1 : 2 * c1 * size - size < 2 * c2 * size + size := Int.lt_of_mul_lt_mul_right (by omega : (2 * c1 * size - size) * q < (2 * c2 * size + size) * q) (by omega)
 have a2 : 2 * c2 * size - size < 2 * c1 * size + size := Int.lt_of_mul_lt_mul_right (by omega : (2 * c2 * size - size) * q < (2 * c1 * size + size) * q) (by omega)
 have b1 : (2 * c1 - 1) * size < (2 * c2 + 1) * size := by rw [Int.sub_mul, Int.add_mul]; omega
 have b2 : (2 * c2 - 1) * size < (2 * c1 + 1) * size := by rw [Int.sub_mul, Int.add_mul]; omega
 have d1 := Int.lt_of_mul_lt_mul_right b1 (by omega)
 have d2 := Int.lt_of_mul_lt_mul_right b2 (by omega)
 omega
theorem inC_one {a b c d x y x' y' size p q : Int} (hs : 1 ≤ size) (hq : 0 < q) (h : InC a b c d x y size p q) (h' : InC a b c d x' y' size p q) : x = x' ∧ y = y' := by
 obtain ⟨_, ⟨a1, a2⟩, b1, b2⟩ := h
 obtain ⟨_, ⟨a3, a4⟩, b3, b4⟩ := h'
 exact ⟨row_one hs hq a1 a2 a3 a4, row_one hs hq b1 b2 b3 b4⟩
end Go.Wd
namespace Go.Wd
open Go
theorem way_ge {a c m p q : Int} (h1 : m ≤ a) (h2 : m ≤ c) (hp : 0 ≤ p) (hq : p ≤ q) : m * q ≤ a * q + (c - a) * p := by
 have e : a * q + (c - a) * p = a * (q - p) + c * p := by rw [Int.sub_mul, Int.mul_sub]; omega
 have e2 : m * q = m * (q - p) + m * p := by rw [Int.mul_sub]; omega
 have k1 := Int.mul_le_mul_of_nonneg_right h1 (show 0 ≤ q - p by omega)
 have k2 := Int.mul_le_mul_of_nonneg_right h2 hp
 omega
theorem way_le {a c m p q : Int} (h1 : a ≤ m) (h2 : c ≤ m) (hp : 0 ≤ p) (hq : p ≤ q) : a * q + (c - a) * p ≤ m * q := by
 have e : a * q + (c - a) * p = a * (q - p) + c * p := by rw [Int.sub_mul, Int.mul_sub]; omega
 have e2 : m * q = m * (q - p) + m * p := by rw [Int.mul_sub]; omega
 have k1 := Int.mul_le_mul_of_nonneg_right h1 (show 0 ≤ q - p by omega)
 have k2 := Int.mul_le_mul_of_nonneg_right h2 hp
 omega
theorem cell_low {n k size : Int} (hs : 1 ≤ size) (h : 2 * k * size - size ≤ 2 * n) : k ≤ cellZ n 1 size := by
 unfold cellZ
 rw [Int.le_ediv_iff_mul_le (by omega)]
 have e : k * (1 * size + 1 * size) = 2 * k * size := by rw [Int.one_mul, Int.mul_add, Int.mul_assoc, Int.two_mul]
 omega
theorem cell_high {n k size : Int} (hs : 1 ≤ size) (h : 2 * n < 2 * k * size + size) : cellZ n 1 size ≤ k := by
 unfold cellZ
 have : (n + n + 1 * size) / (1 * size + 1 * size) < k + 1 := by
  rw [Int.ediv_lt_iff_lt_mul (by omega)]
  have e : (k + 1) * (1 * size + 1 * size) = 2 * k * size + 2 * size := by rw [Int.one_mul, Int.mul_add, Int.add_mul, Int.mul_assoc 2 k size, Int.two_mul]; omega
  omega
 omega
theorem cell_box {a c k size p q : Int} (hs : 1 ≤ size) (hq : 0 < q) (hp : 0 ≤ p) (hpq : p ≤ q) (h : InB a (c - a) (2 * k * size - size) (2 * k * size + size) p q) :
  min (cellZ a 1 size) (cellZ c 1 size) ≤ k ∧ k ≤ max (cellZ a 1 size) (cellZ c 1 size) := by
 obtain ⟨h1, h2⟩ := h
 constructor
 ·rcases Int.le_total a c with hac | hac
  ·have := way_ge (m := a) (Int.le_refl _) hac hp hpq
   have k1 : 2 * a < 2 * k * size + size := Int.lt_of_mul_lt_mul_right (show 2 * a * q < (2 * k * size + size) * q by rw [Int.mul_assoc 2 a q]; omega) (by omega)
   have := cell_high hs k1
   omega
  ·have := way_ge (m := c) hac (Int.le_refl _) hp hpq
   have k1 : 2 * c < 2 * k * size + size := Int.lt_of_mul_lt_mul_right (show 2 * c * q < (2 * k * size + size) * q by rw [Int.mul_assoc 2 c q]; omega) (by omega)
   have := cell_high hs k1
   omega
 ·rcases Int.le_total a c with hac | hac
  ·have := way_le (m := c) hac (Int.le_refl _) hp hpq
   have k1 : 2 * k * size - size ≤ 2 * c := Int.le_of_mul_le_mul_right (show (2 * k * size - size) * q ≤ 2 * c * q by rw [Int.mul_assoc 2 c q]; omega) hq
   have := cell_low hs k1
   omega
  ·have := way_le (m := a) (Int.le_refl _) hac hp hpq
   have k1 : 2 * k * size - size ≤ 2 * a := Int.le_of_mul_le_mul_right (show (2 * k * size - size) * q ≤ 2 * a * q by rw [Int.mul_assoc 2 a q]; omega) hq
   have := cell_low hs k1
   omega
theorem inC_box {a b c d x y size p q : Int} (hs : 1 ≤ size) (hq : 0 < q) (h : InC a b c d x y size p q) :
  (min (cellZ a 1 size) (cellZ c 1 size) ≤ x ∧ x ≤ max (cellZ a 1 size) (cellZ c 1 size)) ∧ min (cellZ b 1 size) (cellZ d 1 size) ≤ y ∧ y ≤ max (cellZ b 1 size) (cellZ d 1 size) :=
 ⟨cell_box hs hq h.1.1 h.1.2 h.2.1, cell_box hs hq h.1.1 h.1.2 h.2.2⟩
end Go.Wd
namespace Go.Proofs.YtlkhneiccjhgdaaGreat
open Go.RowKit Go.Rg Go.Wd Go.Mg
theorem not_ltF {n d n' d' : Int} : ¬ ltF n d n' d' ↔ leF n' d' n d := by unfold ltF leF; omega
section
variable {a b c d size : Int}
def MetP (a b c d size : Int) (x : (Int × Int) × Stz) : Prop := cutZ a b c d x.1.1 x.1.2 size = some x.2
theorem MetP.eq {x y : (Int × Int) × Stz} (hx : MetP a b c d size x) (hy : MetP a b c d size y) (h : x.1 = y.1) : x = y := by
 unfold MetP at hx hy
 rw [h] at hx
 have := Option.some.inj (hx.symm.trans hy)
 exact Prod.ext h this
theorem MetP.apart {x y : (Int × Int) × Stz} (hs : 1 ≤ size) (hx : MetP a b c d size x) (hy : MetP a b c d size y) (h : x.1 ≠ y.1) : Apart x.2 y.2 := by
 intro p q hq hm
 have k1 := ((cutZ_some hx).2.2 p q hq).2 hm.1
 have k2 := ((cutZ_some hy).2.2 p q hq).2 hm.2
 obtain ⟨e1, e2⟩ := inC_one hs hq k1 k2
 exact h (Prod.ext e1 e2)
theorem MetP.iff {x y : (Int × Int) × Stz} (hs : 1 ≤ size) (hx : MetP a b c d size x) (hy : MetP a b c d size y) (h : x.1 ≠ y.1) {p q p' q' : Int} (hq : 0 < q) (hq' : 0 < q') (h1 : Mem x.2 p q) (h2 : Mem y.2 p' q') :
  (aheadZ x.2 y.2 < 0 ↔ ltF p q p' q') ∧ (0 < aheadZ x.2 y.2 ↔ ltF p' q' p q) :=
 ahead_iff (cutZ_some hx).1 (cutZ_some hy).1 (hx.apart hs hy h) hq hq' h1 h2
theorem MetP.pt {x : (Int × Int) × Stz} (hx : MetP a b c d size x) : ∃ p q : Int, 0 < q ∧ Mem x.2 p q := mem_ex (cutZ_some hx).1 (cutZ_some hx).2.1
theorem ahead_self (z : Stz) : aheadZ z z = 0 := by have := ahead_neg z z; omega
def leM (x y : (Int × Int) × Stz) : Bool := !decide (aheadZ y.2 x.2 < 0)
theorem leM_iff {x y : (Int × Int) × Stz} : leM x y = true ↔ ¬ aheadZ y.2 x.2 < 0 := by unfold leM; simp
theorem leM_total (x y : (Int × Int) × Stz) : leM x y = true ∨ leM y x = true := by
 rw [leM_iff, leM_iff, ahead_neg x.2 y.2]; omega
theorem leM_trans (hs : 1 ≤ size) {x y z : (Int × Int) × Stz} (hx : MetP a b c d size x) (hy : MetP a b c d size y) (hz : MetP a b c d size z) (h1 : leM x y = true) (h2 : leM y z = true) : leM x z = true := by
 by_cases e1 : x.1 = y.1
 ·rw [hx.eq hy e1]; exact h2
 by_cases e2 : y.1 = z.1
 ·rw [← hy.eq hz e2]; exact h1
 by_cases e3 : x.1 = z.1
 ·rw [hx.eq hz e3, leM_iff, ahead_self]; omega
 obtain ⟨p1, q1, k1, m1⟩ := hx.pt
 obtain ⟨p2, q2, k2, m2⟩ := hy.pt
 obtain ⟨p3, q3, k3, m3⟩ := hz.pt
 rw [leM_iff, (hy.iff hs hx (Ne.symm e1) k2 k1 m2 m1).1, not_ltF] at h1
 rw [leM_iff, (hz.iff hs hy (Ne.symm e2) k3 k2 m3 m2).1, not_ltF] at h2
 rw [leM_iff, (hz.iff hs hx (Ne.symm e3) k3 k1 m3 m1).1, ltF_le]
 exact fun k => k (leF_trans k1 k2 k3 h1 h2)
def Bef (a b c d size : Int) (p q : Int × Int) : Prop := ∃ s t, cutZ a b c d p.1 p.2 size = some s ∧ cutZ a b c d q.1 q.2 size = some t ∧ aheadZ s t < 0
theorem Bef.irr (p : Int × Int) : ¬ Bef a b c d size p p := by
 rintro ⟨s, t, h1, h2, h3⟩
 have := Option.some.inj (h1.symm.trans h2)
 subst this
 rw [ahead_self] at h3; omega
theorem Bef.asym (p q : Int × Int) (h : Bef a b c d size p q) : ¬ Bef a b c d size q p := by
 obtain ⟨s, t, h1, h2, h3⟩ := h
 rintro ⟨t', s', k1, k2, k3⟩
 have e1 := Option.some.inj (h1.symm.trans k2)
 have e2 := Option.some.inj (h2.symm.trans k1)
 subst e1; subst e2
 rw [ahead_neg] at k3; omega
theorem metOf_iff {p : Int × Int} {x : (Int × Int) × Stz} : metOf a b c d size p = some x ↔ x.1 = p ∧ MetP a b c d size x := by
 unfold metOf MetP
 rw [Option.map_eq_some_iff]
 constructor
 ·rintro ⟨s, h, rfl⟩; exact ⟨rfl, h⟩
 ·rintro ⟨rfl, h⟩; exact ⟨x.2, h, rfl⟩
theorem mem_mets {l : List (Int × Int)} {x : (Int × Int) × Stz} : x ∈ metsB a b c d size l ↔ x.1 ∈ l ∧ MetP a b c d size x := by
 unfold metsB
 rw [List.mem_filterMap]
 constructor
 ·rintro ⟨p, hp, h⟩
  obtain ⟨rfl, h2⟩ := metOf_iff.1 h
  exact ⟨hp, h2⟩
 ·rintro ⟨hp, h⟩; exact ⟨x.1, hp, metOf_iff.2 ⟨rfl, h⟩⟩
theorem mets_nodup : ∀ {l : List (Int × Int)}, l.Nodup → (metsB a b c d size l).Pairwise (fun x y => x.1 ≠ y.1)
 | [], _ => List.Pairwise.nil
 | p :: l, h => by
  obtain ⟨h1, h2⟩ := List.nodup_cons.1 h
  have ih := mets_nodup h2
  unfold metsB at ih ⊢
  rw [List.filterMap_cons]
  split
  ·exact ih
  ·rename_i x hx
   obtain ⟨rfl, _⟩ := metOf_iff.1 hx
   refine List.Pairwise.cons (fun y hy e => ?_) ih
   exact h1 (e ▸ (mem_mets.1 hy).1)
theorem ofB_mem (hs : 1 ≤ size) {rows : List (Int × List Int)} (hy : Rising (rows.map (·.1))) (hr : ∀ r ∈ rows, Rising r.2) {p : Int × Int} :
  p ∈ ofB a b c d size rows ↔ (∃ r ∈ rows, r.1 = p.2 ∧ p.1 ∈ r.2) ∧ ∃ z, cutZ a b c d p.1 p.2 size = some z := by
 unfold ofB
 rw [List.mem_map]
 have hm : ∀ x, x ∈ sortB (fun x y : (Int × Int) × Stz => !decide (aheadZ y.2 x.2 < 0)) (metsB a b c d size (nearS a b c d size rows)) ↔ x.1 ∈ nearS a b c d size rows ∧ MetP a b c d size x := fun x => by
  rw [(sortB_perm _ _).mem_iff, mem_mets]
 constructor
 ·rintro ⟨x, hx, rfl⟩
  obtain ⟨h1, h2⟩ := (hm x).1 hx
  unfold nearS at h1
  exact ⟨((mem_nearB hy hr).1 h1).1, x.2, h2⟩
 ·rintro ⟨h1, z, hz⟩
  obtain ⟨u, v, hv, hmem⟩ := mem_ex (cutZ_some hz).1 (cutZ_some hz).2.1
  have hb := inC_box hs hv (((cutZ_some hz).2.2 u v hv).2 hmem)
  refine ⟨(p, z), (hm _).2 ⟨?_, hz⟩, rfl⟩
  unfold nearS
  exact (mem_nearB hy hr).2 ⟨h1, hb.1.1, hb.1.2, hb.2.1, hb.2.2⟩
theorem ofB_sorted (hs : 1 ≤ size) {rows : List (Int × List Int)} (hn : (nearS a b c d size rows).Nodup) : (ofB a b c d size rows).Pairwise (Bef a b c d size) := by
 unfold ofB
 have hp : ∀ x ∈ metsB a b c d size (nearS a b c d size rows), MetP a b c d size x := fun x hx => (mem_mets.1 hx).2
 have h1 := sortB_sorted (le := leM) (P := MetP a b c d size) (fun x y z hx hy hz => leM_trans hs hx hy hz) (fun x y _ _ => leM_total x y) _ hp
 have h2 := ((sortB_perm leM (metsB a b c d size (nearS a b c d size rows))).pairwise_iff (R := fun x y => x.1 ≠ y.1) (fun h => Ne.symm h)).2 (mets_nodup hn)
 show ((sortB leM _).map _).Pairwise _
 rw [List.pairwise_map]
 refine (h1.and h2).imp_of_mem fun {x y} hx hy h => ?_
 have kx := hp x ((sortB_perm _ _).mem_iff.1 hx)
 have ky := hp y ((sortB_perm _ _).mem_iff.1 hy)
 obtain ⟨p1, q1, k1, m1⟩ := kx.pt
 obtain ⟨p2, q2, k2, m2⟩ := ky.pt
 have hle := leM_iff.1 h.1
 rw [(ky.iff hs kx (Ne.symm h.2) k2 k1 m2 m1).1] at hle
 refine ⟨x.2, y.2, kx, ky, (kx.iff hs ky h.2 k1 k2 m1 m2).1.2 ?_⟩
 rcases tri p1 q1 p2 q2 with t | t | t
 ·exact t
 ·exact absurd ⟨mem_eq (cutZ_some kx).1 k1 k2 m1 t, m2⟩ (kx.apart hs ky h.2 p2 q2 k2)
 ·exact absurd t hle
end
end Go.Proofs.YtlkhneiccjhgdaaGreat
namespace Go.Proofs.YtlkhneiccjhgdaaGreat
open Go.RowKit Go.Rg Go.Wd Go.Mg
section
variable {a b c d size : Int}
end
end Go.Proofs.YtlkhneiccjhgdaaGreat
namespace Go.Mg
variable {α β : Type}
theorem grpA_join (sm : α → α → Bool) : ∀ (t cur : List α) (x : α), (grpA sm cur x t).flatten = cur ++ t
 | [], cur, x => by simp [grpA]
 | y :: t, cur, x => by
  rw [grpA]
  split
  ·rw [grpA_join sm t]; simp
  ·rw [List.flatten_cons, grpA_join sm t]; simp
theorem grpB_join (sm : α → α → Bool) (l : List α) : (grpB sm l).flatten = l := by
 cases l with
 | nil => rfl
 | cons x t => rw [grpB, grpA_join]; rfl
section
variable {sm : α → α → Bool} {κ : α → β} {R : α → α → Prop} {S : β → β → Prop} (hs : ∀ x y, sm x y = true ↔ κ x = κ y) (hR : ∀ x y, R x y → κ x = κ y ∨ S (κ x) (κ y)) (hT : ∀ x y z, S x y → S y z → S x z)
include hs hR hT
theorem grpA_keys : ∀ (t cur : List α) (x : α), cur ≠ [] → (∀ u ∈ cur, κ u = κ x) → (x :: t).Pairwise R →
  (grpA sm cur x t).Pairwise (fun g h => ∀ u ∈ g, ∀ v ∈ h, S (κ u) (κ v)) ∧ (∀ g ∈ grpA sm cur x t, g ≠ [] ∧ ∀ u ∈ g, ∀ v ∈ g, κ u = κ v)
 | [], cur, x, hc, hk, hp => by
  rw [grpA]
  exact ⟨List.pairwise_singleton _ _, fun g hg => by rw [List.mem_singleton.1 hg]; exact ⟨hc, fun u hu v hv => (hk u hu).trans (hk v hv).symm⟩⟩
 | y :: t, cur, x, hc, hk, hp => by
  obtain ⟨h1, h2⟩ := List.pairwise_cons.1 hp
  rw [grpA]
  by_cases h : sm x y = true
  ·rw [if_pos h]
   have e := (hs x y).1 h
   refine grpA_keys t (cur ++ [y]) y (by simp) (fun u hu => ?_) h2
   rcases List.mem_append.1 hu with k | k
   ·exact (hk u k).trans e
   ·rw [List.mem_singleton.1 k]
  ·rw [if_neg h]
   have hxy : S (κ x) (κ y) := (hR x y (h1 y (List.mem_cons_self ..))).resolve_left (fun e => h ((hs x y).2 e))
   obtain ⟨i1, i2⟩ := grpA_keys t [y] y (by simp) (fun u hu => by rw [List.mem_singleton.1 hu]) h2
   refine ⟨List.Pairwise.cons (fun g hg u hu v hv => ?_) i1, fun g hg => ?_⟩
   ·have hv' : v ∈ [y] ++ t := by rw [← grpA_join sm t [y] y]; exact List.mem_flatten.2 ⟨g, hg, hv⟩
    rw [hk u hu]
    rcases List.mem_append.1 hv' with k | k
    ·rw [List.mem_singleton.1 k]; exact hxy
    ·rcases hR y v ((List.pairwise_cons.1 h2).1 v k) with e | e
     ·rw [← e]; exact hxy
     ·exact hT _ _ _ hxy e
   ·rcases List.mem_cons.1 hg with rfl | k
    ·exact ⟨hc, fun u hu v hv => (hk u hu).trans (hk v hv).symm⟩
    ·exact i2 g k
theorem grpB_keys {l : List α} (hp : l.Pairwise R) : (grpB sm l).Pairwise (fun g h => ∀ u ∈ g, ∀ v ∈ h, S (κ u) (κ v)) ∧ (∀ g ∈ grpB sm l, g ≠ [] ∧ ∀ u ∈ g, ∀ v ∈ g, κ u = κ v) := by
 cases l with
 | nil => exact ⟨List.Pairwise.nil, fun g hg => absurd hg (List.not_mem_nil)⟩
 | cons x t => exact grpA_keys hs hR hT t [x] x (by simp) (fun u hu => by rw [List.mem_singleton.1 hu]) hp
end
end Go.Mg
namespace Go.Proofs.YtlkhneiccjhgdaaGreat
open Go.RowKit Go.Rg Go.Wd Go.Mg
theorem ptO_neg {p q : Int × Int} : ptO p q < 0 ↔ p.1 < q.1 ∨ (p.1 = q.1 ∧ p.2 < q.2) := by
 unfold ptO orZ cmpI
 split <;> (try split) <;> (try split) <;> (try split) <;> (try split) <;> omega
theorem ptO_zero {p q : Int × Int} : ptO p q = 0 ↔ p = q := by
 have : p = q ↔ p.1 = q.1 ∧ p.2 = q.2 := ⟨fun e => by rw [e]; exact ⟨rfl, rfl⟩, fun e => Prod.ext e.1 e.2⟩
 rw [this]
 unfold ptO orZ cmpI
 split <;> (try split) <;> (try split) <;> (try split) <;> (try split) <;> omega
theorem rowO_neg {p q : Int × Int} : rowO p q < 0 ↔ p.2 < q.2 ∨ (p.2 = q.2 ∧ p.1 < q.1) := by
 unfold rowO orZ cmpI
 split <;> (try split) <;> (try split) <;> (try split) <;> (try split) <;> omega
def LtP (p q : Int × Int) : Prop := p.1 < q.1 ∨ (p.1 = q.1 ∧ p.2 < q.2)
def LtR (p q : Int × Int) : Prop := p.2 < q.2 ∨ (p.2 = q.2 ∧ p.1 < q.1)
theorem mem_onceB {ord : (Int × Int) → (Int × Int) → Int} (hz : ∀ p q, ord p q = 0 ↔ p = q) {S : (Int × Int) → (Int × Int) → Prop} (hn : ∀ p q, ord p q < 0 ↔ S p q) (hT : ∀ x y z, S x y → S y z → S x z) (hI : ∀ x y, ¬ S x y → ¬ S y x → x = y) (ps : List (Int × Int)) :
  (∀ p, p ∈ onceB ord ps ↔ p ∈ ps) ∧ (onceB ord ps).Pairwise S := by
 have hle : ∀ x y, ((fun x y => !decide (ord y x < 0)) x y = true) ↔ ¬ S y x := fun x y => by simp [hn]
 have hsort := sortB_sorted (le := fun x y => !decide (ord y x < 0)) (P := fun _ => True) (fun x y z _ _ _ h1 h2 => by
   rw [hle] at h1 h2 ⊢
   intro h
   by_cases e : S x y
   ·exact h2 (hT _ _ _ h e)
   ·have := hI x y e h1
    subst this; exact h2 h)
  (fun x y _ _ => by
   rw [hle, hle]
   by_cases e : S y x
   ·right; intro e2
    have h0 : ord y y < 0 := (hn y y).2 (hT _ _ _ e e2)
    have := (hz y y).2 rfl
    omega
   ·exact .inl e) ps (fun _ _ => trivial)
 obtain ⟨k1, k2⟩ := grpB_keys (sm := fun p q => ord p q == 0) (κ := fun p : Int × Int => p) (R := fun x y => (!decide (ord y x < 0)) = true) (S := S)
  (fun x y => by rw [beq_iff_eq]; exact hz x y)
  (fun x y h => by
   rw [hle] at h
   by_cases e : S x y
   ·exact .inr e
   ·exact .inl (hI x y e h)) hT hsort
 constructor
 ·intro p
  unfold onceB
  rw [List.mem_map]
  constructor
  ·rintro ⟨g, hg, rfl⟩
   have hne := (k2 g hg).1
   have : g.headD (0, 0) ∈ g := by cases g with | nil => exact absurd rfl hne | cons x r => exact List.mem_cons_self ..
   have h2 : g.headD (0, 0) ∈ (grpB (fun p q => ord p q == 0) (sortB (fun x y => !decide (ord y x < 0)) ps)).flatten := List.mem_flatten.2 ⟨g, hg, this⟩
   rw [grpB_join] at h2
   exact (sortB_perm _ _).mem_iff.1 h2
  ·intro hp
   have h2 := (sortB_perm (fun x y => !decide (ord y x < 0)) ps).mem_iff.2 hp
   rw [← grpB_join (fun p q => ord p q == 0) (sortB (fun x y => !decide (ord y x < 0)) ps)] at h2
   obtain ⟨g, hg, hpg⟩ := List.mem_flatten.1 h2
   refine ⟨g, hg, ?_⟩
   have hne := (k2 g hg).1
   cases g with
   | nil => exact absurd rfl hne
   | cons x r => exact (k2 _ hg).2 x (List.mem_cons_self ..) p hpg
 ·unfold onceB
  rw [List.pairwise_map]
  refine k1.imp_of_mem fun {g h} hg hh k => ?_
  have n1 := (k2 g hg).1
  have n2 := (k2 h hh).1
  refine k _ ?_ _ ?_
  ·cases g with | nil => exact absurd rfl n1 | cons x r => exact List.mem_cons_self ..
  ·cases h with | nil => exact absurd rfl n2 | cons x r => exact List.mem_cons_self ..
theorem setC_law (ps : List (Int × Int)) : (∀ p, p ∈ setC ps ↔ p ∈ ps) ∧ (setC ps).Pairwise LtP :=
 mem_onceB (S := LtP) (fun p q => ptO_zero) (fun p q => ptO_neg) (fun x y z h1 h2 => by unfold LtP at *; omega) (fun x y h1 h2 => by unfold LtP at *; exact Prod.ext (by omega) (by omega)) ps
end Go.Proofs.YtlkhneiccjhgdaaGreat
namespace Go.Proofs.YtlkhneiccjhgdaaGreat
open Go.RowKit Go.Rg Go.Wd Go.Mg
theorem rising_of {l : List Int} (h : l.Pairwise (· < ·)) : Rising l := by
 intro i j x y hij hi hj
 obtain ⟨hi', rfl⟩ := List.getElem?_eq_some_iff.1 hi
 obtain ⟨hj', rfl⟩ := List.getElem?_eq_some_iff.1 hj
 rcases Nat.lt_or_ge i j with k | k
 ·exact Int.le_of_lt (List.pairwise_iff_getElem.1 h i j hi' hj' k)
 ·have : i = j := by omega
  subst this; exact Int.le_refl _
def rowsL (ps : List (Int × Int)) : List (Int × Int) := sortB (fun x y => !decide (rowO y x < 0)) (setC ps)
theorem rowsL_law (ps : List (Int × Int)) : (∀ p, p ∈ rowsL ps ↔ p ∈ ps) ∧ (rowsL ps).Pairwise LtR := by
 obtain ⟨c1, c2⟩ := setC_law ps
 have hle : ∀ x y, ((fun x y => !decide (rowO y x < 0)) x y = true) ↔ ¬ LtR y x := fun x y => by rw [Bool.not_eq_true', decide_eq_false_iff_not, rowO_neg]; rfl
 have hsort := sortB_sorted (le := fun x y => !decide (rowO y x < 0)) (P := fun _ => True) (fun x y z _ _ _ h1 h2 => by
   rw [hle] at h1 h2 ⊢; unfold LtR at *; omega)
  (fun x y _ _ => by rw [hle, hle]; unfold LtR; omega) (setC ps) (fun _ _ => trivial)
 have hne := ((sortB_perm (fun x y => !decide (rowO y x < 0)) (setC ps)).pairwise_iff (R := fun x y => x ≠ y) (fun h => Ne.symm h)).2 (c2.imp fun {x y} h e => by subst e; unfold LtP at h; omega)
 refine ⟨fun p => by unfold rowsL; rw [(sortB_perm _ _).mem_iff]; exact c1 p, ?_⟩
 unfold rowsL
 refine (hsort.and hne).imp fun {x y} h => ?_
 have h1 := (hle x y).1 h.1
 have h2 : ¬ (x.1 = y.1 ∧ x.2 = y.2) := fun e => h.2 (Prod.ext e.1 e.2)
 unfold LtR at *; omega
theorem setG_law (ps : List (Int × Int)) : (setG ps).Pairwise (fun g h => ∀ u ∈ g, ∀ v ∈ h, u.2 < v.2) ∧ (∀ g ∈ setG ps, g ≠ [] ∧ ∀ u ∈ g, ∀ v ∈ g, u.2 = v.2) ∧ (setG ps).flatten = rowsL ps := by
 obtain ⟨k1, k2⟩ := grpB_keys (sm := fun p q : Int × Int => p.2 == q.2) (κ := fun p : Int × Int => p.2) (R := LtR) (S := fun x y => x < y)
  (fun x y => by rw [beq_iff_eq]) (fun x y h => by unfold LtR at h; omega) (fun x y z h1 h2 => by omega) (rowsL_law ps).2
 exact ⟨k1, k2, grpB_join _ _⟩
theorem headD_mem {α : Type} {g : List α} (h : g ≠ []) (z : α) : g.headD z ∈ g := by cases g with | nil => exact absurd rfl h | cons x r => exact List.mem_cons_self ..
theorem setR_strict (ps : List (Int × Int)) : ((setR ps).map (·.1)).Pairwise (· < ·) ∧ ∀ r ∈ setR ps, r.2.Pairwise (· < ·) := by
 obtain ⟨k1, k2, k3⟩ := setG_law ps
 constructor
 ·unfold setR
  rw [List.map_map, List.pairwise_map]
  exact k1.imp_of_mem fun {g h} hg hh k => k _ (headD_mem (k2 g hg).1 _) _ (headD_mem (k2 h hh).1 _)
 ·intro r hr
  unfold setR at hr
  obtain ⟨g, hg, rfl⟩ := List.mem_map.1 hr
  show (g.map (·.1)).Pairwise _
  rw [List.pairwise_map]
  have hp := (rowsL_law ps).2
  rw [← k3, List.pairwise_flatten] at hp
  exact (hp.1 g hg).imp_of_mem fun {u v} hu hv h => by have := (k2 g hg).2 u hu v hv; unfold LtR at h; omega
theorem setR_rising (ps : List (Int × Int)) : Rising ((setR ps).map (·.1)) ∧ ∀ r ∈ setR ps, Rising r.2 :=
 ⟨rising_of (setR_strict ps).1, fun r hr => rising_of ((setR_strict ps).2 r hr)⟩
theorem setR_mem (ps : List (Int × Int)) (p : Int × Int) : (∃ r ∈ setR ps, r.1 = p.2 ∧ p.1 ∈ r.2) ↔ p ∈ ps := by
 obtain ⟨k1, k2, k3⟩ := setG_law ps
 rw [← (rowsL_law ps).1 p, ← k3, List.mem_flatten]
 unfold setR
 constructor
 ·rintro ⟨r, hr, h1, h2⟩
  obtain ⟨g, hg, rfl⟩ := List.mem_map.1 hr
  obtain ⟨u, hu, h3⟩ := List.mem_map.1 (show p.1 ∈ g.map (·.1) from h2)
  have h4 := (k2 g hg).2 _ hu _ (headD_mem (k2 g hg).1 (0, 0))
  have e : u = p := Prod.ext h3 (h4.trans h1)
  exact ⟨g, hg, e ▸ hu⟩
 ·rintro ⟨g, hg, hp⟩
  exact ⟨rowOf g, List.mem_map_of_mem hg, (k2 g hg).2 _ (headD_mem (k2 g hg).1 (0, 0)) _ hp, List.mem_map_of_mem hp⟩
theorem nearB_nodup {rows : List (Int × List Int)} (h1 : (rows.map (·.1)).Pairwise (· < ·)) (h2 : ∀ r ∈ rows, r.2.Pairwise (· < ·)) (lx ly hx hy : Int) : (nearB rows lx ly hx hy).Nodup := by
 unfold nearB nearRest
 have hsub : (List.takeWhile (fun r : Int × List Int => decide (r.1 ≤ hy)) (rows.drop (lowB (rows.map (·.1)) ly))).Sublist rows := (List.takeWhile_sublist _).trans (List.drop_sublist _ _)
 unfold List.Nodup
 rw [List.pairwise_flatMap]
 rw [List.pairwise_map] at h1
 constructor
 ·intro r hr
  unfold rowNear inR
  rw [List.pairwise_map]
  exact ((h2 r (hsub.subset hr)).sublist ((List.takeWhile_sublist _).trans (List.drop_sublist _ _))).imp fun {x y} h e => by have := congrArg Prod.fst e; simp at this; omega
 ·refine (h1.sublist hsub).imp fun {r s} h => ?_
  intro u hu v hv e
  unfold rowNear inR at hu hv
  obtain ⟨x, _, rfl⟩ := List.mem_map.1 hu
  obtain ⟨y, _, rfl⟩ := List.mem_map.1 hv
  have := congrArg Prod.snd e
  simp at this; omega
theorem ofS_law (a b c d size : Int) (hs : 1 ≤ size) (ps : List (Int × Int)) : (∀ p, p ∈ ofB a b c d size (setR ps) ↔ p ∈ ps ∧ ∃ z, cutZ a b c d p.1 p.2 size = some z) ∧ (ofB a b c d size (setR ps)).Pairwise (Bef a b c d size) := by
 obtain ⟨r1, r2⟩ := setR_rising ps
 refine ⟨fun p => by rw [ofB_mem hs r1 r2, setR_mem], ofB_sorted hs ?_⟩
 unfold nearS
 exact nearB_nodup (setR_strict ps).1 (setR_strict ps).2 _ _ _ _
end Go.Proofs.YtlkhneiccjhgdaaGreat
namespace Go.Wd
theorem nodup_len {α : Type} [BEq α] [LawfulBEq α] : ∀ (l L : List α), l.Nodup → (∀ x ∈ l, x ∈ L) → l.length ≤ L.length
 | [], _, _, _ => Nat.zero_le _
 | x :: l, L, h, hs => by
  obtain ⟨h1, h2⟩ := List.nodup_cons.1 h
  have hx := hs x (List.mem_cons_self ..)
  have := nodup_len l (L.erase x) h2 fun y hy => (List.mem_erase_of_ne (show y ≠ x from fun e => h1 (by rw [← e]; exact hy))).2 (hs y (List.mem_cons_of_mem _ hy))
  rw [List.length_erase_of_mem hx] at this
  have := List.length_pos_of_mem hx
  rw [List.length_cons]; omega
def Mo (sx sy : Int) (p q : Int × Int) : Prop := 0 ≤ sx * (q.1 - p.1) ∧ 0 ≤ sy * (q.2 - p.2) ∧ p ≠ q
theorem Mo.trans {sx sy : Int} (hx : sx = 1 ∨ sx = -1) (hy : sy = 1 ∨ sy = -1) {p q r : Int × Int} (h : Mo sx sy p q) (k : Mo sx sy q r) : Mo sx sy p r := by
 obtain ⟨h1, h2, h3⟩ := h
 obtain ⟨k1, k2, k3⟩ := k
 rcases hx with rfl | rfl <;> rcases hy with rfl | rfl <;> refine ⟨by omega, by omega, fun e => h3 ?_⟩ <;> subst e <;> exact Prod.ext (by omega) (by omega)
theorem Mo.irr {sx sy : Int} (p : Int × Int) : ¬ Mo sx sy p p := fun h => h.2.2 rfl
theorem row_mono {a W u v s p1 q1 p2 q2 : Int} (hs : 1 ≤ s) (hq1 : 0 < q1) (hq2 : 0 < q2) (hW : 0 ≤ W) (hp : p1 * q2 ≤ p2 * q1) (h1 : (2 * u * s - s) * q1 ≤ 2 * (a * q1 + W * p1)) (h2 : 2 * (a * q2 + W * p2) < (2 * v * s + s) * q2) : u ≤ v := by
 refine Int.not_lt.1 fun h => ?_
 have x1 := Int.mul_le_mul_of_nonneg_right h1 (Int.le_of_lt hq2)
 have x2 := Int.mul_lt_mul_of_pos_right h2 hq1
 have x3 := Int.mul_le_mul_of_nonneg_left hp hW
 have x4 : (2 * v * s + s) ≤ (2 * u * s - s) := by
  have := Int.mul_le_mul_of_nonneg_right (show v + 1 ≤ u by omega) (show 0 ≤ 2 * s by omega)
  have e1 : (v + 1) * (2 * s) = 2 * v * s + 2 * s := by grind
  have e2 : u * (2 * s) = 2 * u * s := by grind
  omega
 have x5 := Int.mul_le_mul_of_nonneg_right x4 (Int.le_of_lt (Int.mul_pos hq1 hq2))
 have e1 : (2 * u * s - s) * q1 * q2 = (2 * u * s - s) * (q1 * q2) := by grind
 have e2 : (2 * v * s + s) * q2 * q1 = (2 * v * s + s) * (q1 * q2) := by grind
 have e3 : 2 * (a * q1 + W * p1) * q2 = 2 * (a * (q1 * q2)) + 2 * (W * (p1 * q2)) := by grind
 have e4 : 2 * (a * q2 + W * p2) * q1 = 2 * (a * (q1 * q2)) + 2 * (W * (p2 * q1)) := by grind
 omega
theorem row_mono' {a W u v s p1 q1 p2 q2 : Int} (hs : 1 ≤ s) (hq1 : 0 < q1) (hq2 : 0 < q2) (hW : W ≤ 0) (hp : p1 * q2 ≤ p2 * q1) (h1 : (2 * v * s - s) * q2 ≤ 2 * (a * q2 + W * p2)) (h2 : 2 * (a * q1 + W * p1) < (2 * u * s + s) * q1) : v ≤ u :=
 row_mono (a := a) (W := -W) (p1 := -p2) (q1 := q2) (p2 := -p1) (q2 := q1) hs hq2 hq1 (by omega) (by rw [Int.neg_mul, Int.neg_mul]; omega) (by rw [Int.neg_mul_neg]; exact h1) (by rw [Int.neg_mul_neg]; exact h2)
theorem cell_spec {n size : Int} (hs : 1 ≤ size) : 2 * cellZ n 1 size * size - size ≤ 2 * n ∧ 2 * n < 2 * cellZ n 1 size * size + size := by
 unfold cellZ
 rw [Int.one_mul, show size + size = 2 * size by omega]
 have h1 := Int.emod_add_mul_ediv (n + n + size) (2 * size)
 have h2 := Int.emod_nonneg (n + n + size) (show 2 * size ≠ 0 by omega)
 have h3 := Int.emod_lt_of_pos (n + n + size) (show 0 < 2 * size by omega)
 have e : 2 * ((n + n + size) / (2 * size)) * size = 2 * size * ((n + n + size) / (2 * size)) := by grind
 omega
theorem inC_begin {a b c d size : Int} (hs : 1 ≤ size) : InC a b c d (cellZ a 1 size) (cellZ b 1 size) size 0 1 := by
 obtain ⟨h1, h2⟩ := cell_spec (n := a) hs
 obtain ⟨h3, h4⟩ := cell_spec (n := b) hs
 refine ⟨⟨by omega, by omega⟩, ⟨?_, ?_⟩, ?_, ?_⟩ <;> omega
theorem inC_end {a b c d size : Int} (hs : 1 ≤ size) : InC a b c d (cellZ c 1 size) (cellZ d 1 size) size 1 1 := by
 obtain ⟨h1, h2⟩ := cell_spec (n := c) hs
 obtain ⟨h3, h4⟩ := cell_spec (n := d) hs
 refine ⟨⟨by omega, by omega⟩, ⟨?_, ?_⟩, ?_, ?_⟩ <;> omega
theorem inC_centre {u v : Int × Int} {size : Int} (hs : 1 ≤ size) : InC (u.1 * size) (u.2 * size) (v.1 * size) (v.2 * size) u.1 u.2 size 0 1 := by
 have e1 : 2 * u.1 * size = 2 * (u.1 * size) := by grind
 have e2 : 2 * u.2 * size = 2 * (u.2 * size) := by grind
 refine ⟨⟨by omega, by omega⟩, ⟨?_, ?_⟩, ?_, ?_⟩ <;> omega
theorem inC_centre' {u v : Int × Int} {size : Int} (hs : 1 ≤ size) : InC (u.1 * size) (u.2 * size) (v.1 * size) (v.2 * size) v.1 v.2 size 1 1 := by
 have e1 : 2 * v.1 * size = 2 * (v.1 * size) := by grind
 have e2 : 2 * v.2 * size = 2 * (v.2 * size) := by grind
 refine ⟨⟨by omega, by omega⟩, ⟨?_, ?_⟩, ?_, ?_⟩ <;> omega
theorem foldl_pair {R : Int × Int → Int × Int → Prop} (hi : ∀ x, ¬ R x x) : ∀ (l out : List (Int × Int)), (out ++ l).Pairwise R → l.foldl jstep out = out ++ l
 | [], out, _ => by simp
 | p :: l, out, h => by
  have e : jstep out p = out ++ [p] := by
   unfold jstep
   cases hg : out.getLast? with
   | none => rfl
   | some q =>
    have hq := List.mem_of_getLast? hg
    have : R q p := (List.pairwise_append.1 h).2.2 q hq p (List.mem_cons_self ..)
    have hne : (q == p) = false := by
     refine Bool.eq_false_iff.2 fun e => ?_
     have := eq_of_beq e
     subst this
     exact hi _ (by assumption)
    simp only [hne, Bool.false_eq_true, if_false]
  rw [List.foldl_cons, e, foldl_pair hi l (out ++ [p]) (by rw [List.append_assoc]; exact h), List.append_assoc]; rfl
theorem join_glue {R : Int × Int → Int × Int → Prop} (hi : ∀ x, ¬ R x x) (ht : ∀ x y z, R x y → R y z → R x z) {out part : List (Int × Int)} {q : Int × Int} (h1 : out.Pairwise R) (h2 : part.Pairwise R) (h3 : out.getLast? = some q) (h4 : part.head? = some q) :
  part.foldl jstep out = out ++ part.tail ∧ (out ++ part.tail).Pairwise R := by
 obtain ⟨t, rfl⟩ : ∃ t, part = q :: t := by
  cases part with
  | nil => cases h4
  | cons x t => cases h4; exact ⟨t, rfl⟩
 obtain ⟨k1, k2⟩ := List.pairwise_cons.1 h2
 obtain ⟨o, ho⟩ : ∃ o, out = o ++ [q] := by
  rcases List.eq_nil_or_concat out with rfl | ⟨o, z, rfl⟩
  ·cases h3
  ·rw [List.concat_eq_append] at h3 ⊢
   rw [List.getLast?_concat] at h3
   cases h3; exact ⟨o, rfl⟩
 have hp : (out ++ t).Pairwise R := by
  refine List.pairwise_append.2 ⟨h1, k2, fun x hx y hy => ?_⟩
  subst ho
  rcases List.mem_append.1 hx with hx | hx
  ·exact ht x q y ((List.pairwise_append.1 h1).2.2 x hx q (List.mem_singleton.2 rfl)) (k1 y hy)
  ·rw [List.mem_singleton.1 hx]; exact k1 y hy
 have e : jstep out q = out := by unfold jstep; rw [h3]; simp
 refine ⟨?_, hp⟩
 rw [List.foldl_cons, e]
 exact foldl_pair hi t out hp
end Go.Wd
namespace Go.Proofs.YtlkhneiccjhgdaaGreat
open Go.Wd Go.Mg
theorem bef_mo {a b c d size sx sy : Int} (hs : 1 ≤ size) (hx : sx = 1 ∨ sx = -1) (hy : sy = 1 ∨ sy = -1) (h1 : 0 ≤ sx * (c - a)) (h2 : 0 ≤ sy * (d - b)) {p q : Int × Int} (h : Bef a b c d size p q) : Mo sx sy p q := by
 obtain ⟨s, t, hs1, ht1, hlt⟩ := h
 have X : MetP a b c d size (p, s) := hs1
 have Y : MetP a b c d size (q, t) := ht1
 have hne : p ≠ q := fun e => by
  subst e
  rw [hs1] at ht1
  cases ht1
  rw [ahead_self] at hlt; omega
 obtain ⟨p1, q1, g1, m1⟩ := X.pt
 obtain ⟨p2, q2, g2, m2⟩ := Y.pt
 have hl := ((X.iff hs Y hne g1 g2 m1 m2).1).1 hlt
 obtain ⟨_, ⟨a1, a2⟩, b1, b2⟩ := ((cutZ_some hs1).2.2 p1 q1 g1).2 m1
 obtain ⟨_, ⟨c1, c2⟩, d1, d2⟩ := ((cutZ_some ht1).2.2 p2 q2 g2).2 m2
 have hl' : p1 * q2 ≤ p2 * q1 := Int.le_of_lt hl
 refine ⟨?_, ?_, hne⟩
 ·rcases hx with rfl | rfl
  ·have := row_mono hs g1 g2 (show 0 ≤ c - a by omega) hl' a1 c2; omega
  ·have := row_mono' hs g1 g2 (show c - a ≤ 0 by omega) hl' c1 a2; omega
 ·rcases hy with rfl | rfl
  ·have := row_mono hs g1 g2 (show 0 ≤ d - b by omega) hl' b1 d2; omega
  ·have := row_mono' hs g1 g2 (show d - b ≤ 0 by omega) hl' d1 b2; omega
theorem bef_head {a b c d size : Int} (hs : 1 ≤ size) {l : List (Int × Int)} (hl : l.Pairwise (Bef a b c d size)) {u : Int × Int} (hu : u ∈ l) (h : InC a b c d u.1 u.2 size 0 1) : l.head? = some u := by
 cases l with
 | nil => cases hu
 | cons x t =>
  rcases List.mem_cons.1 hu with rfl | hu
  ·rfl
  ·exfalso
   obtain ⟨s, t', hs1, ht1, hlt⟩ := (List.pairwise_cons.1 hl).1 u hu
   have X : MetP a b c d size (x, s) := hs1
   have Y : MetP a b c d size (u, t') := ht1
   have hne : x ≠ u := fun e => by subst e; rw [hs1] at ht1; cases ht1; rw [ahead_self] at hlt; omega
   obtain ⟨p1, q1, g1, m1⟩ := X.pt
   have m2 := ((cutZ_some ht1).2.2 0 1 (by decide)).1 h
   have := ((X.iff hs Y hne g1 (by decide) m1 m2).1).1 hlt
   obtain ⟨⟨k1, k2⟩, _⟩ := ((cutZ_some hs1).2.2 p1 q1 g1).2 m1
   unfold ltF at this; omega
theorem bef_last {a b c d size : Int} (hs : 1 ≤ size) {l : List (Int × Int)} (hl : l.Pairwise (Bef a b c d size)) {u : Int × Int} (hu : u ∈ l) (h : InC a b c d u.1 u.2 size 1 1) : l.getLast? = some u := by
 rcases List.eq_nil_or_concat l with rfl | ⟨o, z, rfl⟩
 ·cases hu
 ·rw [List.concat_eq_append] at *
  rw [List.getLast?_concat]
  rcases List.mem_append.1 hu with hu | hu
  ·exfalso
   obtain ⟨s, t', hs1, ht1, hlt⟩ := (List.pairwise_append.1 hl).2.2 u hu z (List.mem_singleton.2 rfl)
   have X : MetP a b c d size (u, s) := hs1
   have Y : MetP a b c d size (z, t') := ht1
   have hne : u ≠ z := fun e => by subst e; rw [hs1] at ht1; cases ht1; rw [ahead_self] at hlt; omega
   obtain ⟨p1, q1, g1, m1⟩ := Y.pt
   have m2 := ((cutZ_some hs1).2.2 1 1 (by decide)).1 h
   have := ((X.iff hs Y hne (by decide) g1 m2 m1).1).1 hlt
   obtain ⟨⟨k1, k2⟩, _⟩ := ((cutZ_some ht1).2.2 p1 q1 g1).2 m1
   unfold ltF at this; omega
  ·rw [List.mem_singleton.1 hu]
theorem cut_ex {a b c d x y size p q : Int} (hq : 0 < q) (h : InC a b c d x y size p q) : ∃ z, cutZ a b c d x y size = some z := by
 cases hz : cutZ a b c d x y size with
 | none => exact absurd h (cutZ_none hz p q hq)
 | some z => exact ⟨z, rfl⟩
theorem cut_pt {a b c d x y size : Int} {z : Stz} (h : cutZ a b c d x y size = some z) : ∃ p q, 0 < q ∧ InC a b c d x y size p q := by
 obtain ⟨p, q, h1, h2⟩ := mem_ex (cutZ_some h).1 (cutZ_some h).2.1
 exact ⟨p, q, h1, ((cutZ_some h).2.2 p q h1).2 h2⟩
end Go.Proofs.YtlkhneiccjhgdaaGreat
namespace Go.Wd
def Nr1 (a W x size k p q : Int) : Prop := (2 * x * size - k * size) * q ≤ 2 * (a * q + W * p) ∧ 2 * (a * q + W * p) ≤ (2 * x * size + k * size) * q
def Nr (a b c d x y size k : Int) : Prop := ∃ p q : Int, 0 < q ∧ 0 ≤ p ∧ p ≤ q ∧ Nr1 a (c - a) x size k p q ∧ Nr1 b (d - b) y size k p q
theorem nr_first {a b c d x y size p q : Int} (hq : 0 < q) (h : InC a b c d x y size p q) : Nr a b c d x y size 1 := by
 obtain ⟨⟨h1, h2⟩, ⟨h3, h4⟩, h5, h6⟩ := h
 refine ⟨p, q, hq, h1, h2, ⟨?_, ?_⟩, ?_, ?_⟩ <;> (rw [Int.one_mul]; omega)
theorem nr1_mono {a W x size k p q : Int} (hs : 0 ≤ size) (hq : 0 < q) (h : Nr1 a W x size k p q) : Nr1 a W x size (k + 1) p q := by
 obtain ⟨h1, h2⟩ := h
 have : 0 ≤ size * q := Int.mul_nonneg hs (Int.le_of_lt hq)
 refine ⟨?_, ?_⟩
 ·rw [show (2 * x * size - (k + 1) * size) * q = (2 * x * size - k * size) * q - size * q by grind]; omega
 ·rw [show (2 * x * size + (k + 1) * size) * q = (2 * x * size + k * size) * q + size * q by grind]; omega
theorem nr_mono {a b c d x y size k : Int} (hs : 0 ≤ size) (h : Nr a b c d x y size k) : Nr a b c d x y size (k + 1) := by
 obtain ⟨p, q, h1, h2, h3, h4, h5⟩ := h
 exact ⟨p, q, h1, h2, h3, nr1_mono hs h1 h4, nr1_mono hs h1 h5⟩
theorem nr1_step {a W u v w size k p1 q1 p2 q2 p q : Int} (hq1 : 0 < q1) (hq2 : 0 < q2) (hp : 0 ≤ p) (hpq : p ≤ q) (h1 : Nr1 a W u size k p1 q1) (h2 : Nr1 a W v size k p2 q2)
  (h : InB (u * size) (v * size - u * size) (2 * w * size - size) (2 * w * size + size) p q) : Nr1 a W w size (k + 1) ((q - p) * p1 * q2 + p * p2 * q1) (q * q1 * q2) := by
 obtain ⟨a1, a2⟩ := h1
 obtain ⟨b1, b2⟩ := h2
 obtain ⟨c1, c2⟩ := h
 have n1 : 0 ≤ (q - p) * q2 := Int.mul_nonneg (by omega) (Int.le_of_lt hq2)
 have n2 : 0 ≤ p * q1 := Int.mul_nonneg hp (Int.le_of_lt hq1)
 have n3 : 0 ≤ q1 * q2 := Int.mul_nonneg (Int.le_of_lt hq1) (Int.le_of_lt hq2)
 have e : 2 * (a * (q * q1 * q2) + W * ((q - p) * p1 * q2 + p * p2 * q1)) = (q - p) * q2 * (2 * (a * q1 + W * p1)) + p * q1 * (2 * (a * q2 + W * p2)) := by grind
 unfold Nr1
 rw [e]
 have x1 := Int.mul_le_mul_of_nonneg_left a1 n1
 have x2 := Int.mul_le_mul_of_nonneg_left a2 n1
 have y1 := Int.mul_le_mul_of_nonneg_left b1 n2
 have y2 := Int.mul_le_mul_of_nonneg_left b2 n2
 have z1 := Int.mul_le_mul_of_nonneg_left c1 n3
 have z2 := Int.mul_le_mul_of_nonneg_left (Int.le_of_lt c2) n3
 refine ⟨?_, ?_⟩
 ·have : (2 * w * size - (k + 1) * size) * (q * q1 * q2) ≤ (q - p) * q2 * ((2 * u * size - k * size) * q1) + p * q1 * ((2 * v * size - k * size) * q2) := by
   have e1 : (q - p) * q2 * ((2 * u * size - k * size) * q1) + p * q1 * ((2 * v * size - k * size) * q2) = q1 * q2 * (2 * (u * size * q + (v * size - u * size) * p)) - k * size * (q * q1 * q2) := by grind
   have e2 : (2 * w * size - (k + 1) * size) * (q * q1 * q2) = q1 * q2 * ((2 * w * size - size) * q) - k * size * (q * q1 * q2) := by grind
   rw [e1, e2]; omega
  omega
 ·have : (q - p) * q2 * ((2 * u * size + k * size) * q1) + p * q1 * ((2 * v * size + k * size) * q2) ≤ (2 * w * size + (k + 1) * size) * (q * q1 * q2) := by
   have e1 : (q - p) * q2 * ((2 * u * size + k * size) * q1) + p * q1 * ((2 * v * size + k * size) * q2) = q1 * q2 * (2 * (u * size * q + (v * size - u * size) * p)) + k * size * (q * q1 * q2) := by grind
   have e2 : (2 * w * size + (k + 1) * size) * (q * q1 * q2) = q1 * q2 * ((2 * w * size + size) * q) + k * size * (q * q1 * q2) := by grind
   rw [e1, e2]; omega
  omega
theorem nr_step {a b c d size k : Int} {u v w : Int × Int} (h1 : Nr a b c d u.1 u.2 size k) (h2 : Nr a b c d v.1 v.2 size k) {p q : Int} (hq : 0 < q) (h : InC (u.1 * size) (u.2 * size) (v.1 * size) (v.2 * size) w.1 w.2 size p q) : Nr a b c d w.1 w.2 size (k + 1) := by
 obtain ⟨p1, q1, g1, g2, g3, g4, g5⟩ := h1
 obtain ⟨p2, q2, f1, f2, f3, f4, f5⟩ := h2
 obtain ⟨⟨hp, hpq⟩, hx, hy⟩ := h
 refine ⟨(q - p) * p1 * q2 + p * p2 * q1, q * q1 * q2, Int.mul_pos (Int.mul_pos hq g1) f1, ?_, ?_, nr1_step g1 f1 hp hpq g4 f4 hx, nr1_step g1 f1 hp hpq g5 f5 hy⟩
 ·have := Int.mul_nonneg (Int.mul_nonneg (show 0 ≤ q - p by omega) g2) (Int.le_of_lt f1)
  have := Int.mul_nonneg (Int.mul_nonneg hp f2) (Int.le_of_lt g1)
  omega
 ·have x1 := Int.mul_le_mul_of_nonneg_left g3 (Int.mul_nonneg (show 0 ≤ q - p by omega) (Int.le_of_lt f1))
  have x2 := Int.mul_le_mul_of_nonneg_left f3 (Int.mul_nonneg hp (Int.le_of_lt g1))
  have e1 : (q - p) * p1 * q2 = (q - p) * q2 * p1 := by grind
  have e2 : p * p2 * q1 = p * q1 * p2 := by grind
  have e3 : (q - p) * q2 * q1 + p * q1 * q2 = q * q1 * q2 := by grind
  rw [e1, e2, ← e3]; omega
end Go.Wd
set_option maxRecDepth 100000
namespace Go.Proofs.YtlkhneiccjhgdaaGreat
open Go.Eo Go.RowKit Go.Rg
abbrev cmpV : Value := .func (.func 243) #[] #[]
def spA (v : Nat → Int) : Value := .agg #[.int .u64 (v 0), .int .u64 (v 1), .int .u64 (v 2), .int .u64 (v 3), .int .u64 (v 4), .int .u64 (v 5), .int .u64 (v 6), .int .u64 (v 7), .int .u64 (v 8), .int .u64 (v 9), .int .u64 (v 10), .int .u64 (v 11)]
def CmpIs (a b : Nat → Int) (c : Int) : Prop := ∀ w, Calls Tryz.prog 243 #[spA a, spA b] w fun e w' => e = .returned (i6 c) ∧ Below w.heap.size w w'
def sideF (c : Int) : Int × Bool := bif decide (c < 0) then (0, true) else bif decide (0 < c) then (1, true) else (0, false)
def encS (p : Nat × Bool) : List Dt := [.v (i6 p.1), .v (i6 (sd p.2))]
section
variable (root n : Int) (ns : List Nd) (fs : List Nat)
theorem side_ok (v : Nat → Int) (i : Nat) (c : Int) (hi : i < ns.length) (hc : CmpIs v (nd ns i).v c) :
  FnP Tryz.prog 266 (Tr3 cmpV root n ns fs) [.a (.p 0 0), .a (.v (spA v)), vi i] (Tr3 cmpV root n ns fs) [] (.a (.v (.tuple #[i6 (sideF c).1, .bool (sideF c).2]))) := by
 refine fq Tryz.func266 fun C => ?_
 by_cases h : c < 0
 ·have e : sideF c = (0, true) := by unfold sideF; rw [decide_eq_true h]; rfl
  rw [e]
  exact dn (.f 16 [0, 1, 2] [0, 1, 2] (at_ok cmpV root n ns fs i hi) <| .l 19 (nd_enc hi) <| .c 20 hc <| .v 23 (bt h) .nil) [0, 1, 2]
 ·by_cases h' : 0 < c
  ·have e : sideF c = (1, true) := by unfold sideF; rw [decide_eq_false h, decide_eq_true h']; rfl
   rw [e]
   exact dn (.f 16 [0, 1, 2] [0, 1, 2] (at_ok cmpV root n ns fs i hi) <| .l 19 (nd_enc hi) <| .c 20 hc <| .v 23 (bf h) <| .v 26 (bt h') .nil) [0, 1, 2]
  ·have e : sideF c = (0, false) := by unfold sideF; rw [decide_eq_false h, decide_eq_false h']; rfl
   rw [e]
   exact dn (.f 16 [0, 1, 2] [0, 1, 2] (at_ok cmpV root n ns fs i hi) <| .l 19 (nd_enc hi) <| .c 20 hc <| .v 23 (bf h) <| .v 26 (bf h') .nil) [0, 1, 2]
end
inductive Way (ns : List Nd) (c : Nat → Int) : Nat → List (Nat × Bool) → Nat → Prop where
 | out : Way ns c 0 [] 0
 | hit (i : Nat) (h : i ≠ 0) (hi : i < ns.length) (hc : c i = 0) : Way ns c i [] i
 | on (i : Nat) (h : i ≠ 0) (hi : i < ns.length) (b : Bool) (hc : sideF (c i) = (sd b, true)) {l : List (Nat × Bool)} {e : Nat} (w : Way ns c (kid ns i b) l e) : Way ns c i ((i, b) :: l) e
noncomputable abbrev wayB : Code := Tryz.f250.body.getD .skip
theorem nt {x y : Int} (h : x ≠ y) : Value.bool (x != y) = .bool true := by simp [h]
theorem nf {x y : Int} (h : x = y) : Value.bool (x != y) = .bool false := by simp [h]
section
variable (n : Int) (root : Nat) (ns : List Nd) (fs : List Nat)
theorem way_ok (v : Nat → Int) (c : Nat → Int) (l : List (Nat × Bool)) (e : Nat) (hw : Way ns c root l e) (hc : ∀ i, (i ∈ l.map (·.1) ∨ i = e ∧ e ≠ 0) → CmpIs v (nd ns i).v (c i)) (hl : l.length < 1000000000000) :
  FnP Tryz.prog 250 (Tr3 cmpV root n ns fs) [.a (.p 0 0), .a (.v (spA v))] (Tr3 cmpV root n ns fs) [.row 347 2 (l.map encS)] (.t [.a (.w 3), .a (.v (i6 e))]) := by
 refine fq Tryz.func250 fun C => ?_
 let bx : Ob := .box ((spA v).cells.toList.map .v) 78
 refine gq [2] (lp 2 wayB []) (.n 1000 4 347 2 .nil) [0, 1, 2, 3, 4] [(0, .a (.p 0 0)), (3, .a (.p 3 0)), (4, .a (.w 4)), (6, vi root)] (Tr3 cmpV root n ns fs ++ [bx, .row 347 2 (([] : List (Nat × Bool)).map encS)]) fun d => ?_
 refine loop (β := { x : Nat × List (Nat × Bool) × List (Nat × Bool) // Way ns c x.1 x.2.2 e ∧ x.2.1 ++ x.2.2 = l })
  (fun x d => ⟨d, [(0, .a (.p 0 0)), (3, .a (.p 3 0)), (4, .a (.w 4)), (6, vi x.1.1)], mkX (Tr3 cmpV root n ns fs ++ [bx, .row 347 2 (x.1.2.1.map encS)])⟩) (fun x => x.1.2.2.length) (by kernel_rfl) (fun x K ih d => ?_) ⟨(root, [], l), hw, rfl⟩ d
 obtain ⟨⟨i, acc, rest⟩, hx, hal⟩ := x
 simp only at hx hal
 cases hx with
 | out =>
  rw [List.append_nil] at hal
  subst hal
  exact dn (.v 14 (bf (show ¬ ((0 : Nat) : Int) ≠ 0 by simp)) .nil) [0, 1, 2, 4]
 | hit i h hi hc0 =>
  rw [List.append_nil] at hal
  subst hal
  have hs := side_ok root n ns fs v e (c e) hi (hc e (.inr ⟨rfl, h⟩))
  rw [show sideF (c e) = (0, false) by rw [hc0]; rfl] at hs
  exact dn (.v 14 (nt (show ((e : Nat) : Int) ≠ 0 by omega)) <| .f 19 [0, 1, 2] [0, 1, 2] hs .nil) [0, 1, 2, 4]
 | on i h hi b hcb w =>
  rename_i l'
  have hs := side_ok root n ns fs v i (c i) hi (hc i (.inl (by rw [← hal]; simp)))
  rw [hcb] at hs
  have hlen : acc.length + 1 ≤ l.length := by rw [← hal]; simp
  have hlm : (acc.map encS).length = acc.length := by simp
  have its := fun C : Cx => (.v 14 (nt (show ((i : Nat) : Int) ≠ 0 by omega)) <| .f 19 [0, 1, 2] [0, 1, 2] hs <| .a (n := (acc.map encS).length + 1) (bytes := 16) 31 (by rw [hlm]; unfold maxLen; omega) (by rw [hlm]; omega) <|
   .f 34 [0, 1, 2] [0, 1, 2] (at_ok cmpV root n ns fs i hi) <| .l 39 (nd_enc hi) <| .o (x := .row 347 2 (acc.map encS ++ [encS (i, b)])) (y := .row 347 2 ((acc ++ [(i, b)]).map encS)) 1000 6 (by rw [List.map_append]; rfl) .nil : Its Tryz.prog C.W C.D _)
  have ih' := fun d => ih ⟨(kid ns i b, acc ++ [(i, b)], l'), w, by rw [List.append_assoc]; exact hal⟩ d (by simp)
  cases b <;> exact gq [] (lpK 2 wayB [] K) (its C) [0, 1, 2, 3, 6] [(0, .a (.p 0 0)), (3, .a (.p 3 0)), (4, .a (.w 4)), (6, vi _)] (Tr3 cmpV root n ns fs ++ [bx, .row 347 2 _]) ih'
end
end Go.Proofs.YtlkhneiccjhgdaaGreat
set_option maxRecDepth 100000
namespace Go.Proofs.YtlkhneiccjhgdaaGreat
open Go.Eo Go.RowKit Go.Rg
inductive Dw (ns : List Nd) (b : Bool) : Nat → List (Nat × Bool) → Prop where
 | out (i : Nat) (hi : i < ns.length) (h : kid ns i b = 0) : Dw ns b i [(i, b)]
 | on (i : Nat) (hi : i < ns.length) (h : kid ns i b ≠ 0) {l : List (Nat × Bool)} (w : Dw ns b (kid ns i b) l) : Dw ns b i ((i, b) :: l)
noncomputable abbrev endB : Code := Tryz.f252.body.getD .skip
section
variable (f : Value) (root n : Int) (ns : List Nd) (fs : List Nat)
theorem end_ok (i : Nat) (b : Bool) (l : List (Nat × Bool)) (hw : Dw ns b i l) (hl : l.length < 1000000000000) :
  FnP Tryz.prog 252 (Tr3 f root n ns fs) [.a (.p 0 0), vi i, vi (sd b)] (Tr3 f root n ns fs) [.row 347 2 (l.map encS)] (.a (.w 3)) := by
 refine fq Tryz.func252 fun C => ?_
 refine gq [2] (lp 2 endB []) (.n 1000 7 347 2 .nil) [0, 1, 2, 3] [(0, .a (.p 0 0)), (1, vi i), (2, vi (sd b)), (7, .a (.w 3))] (Tr3 f root n ns fs ++ [.row 347 2 (([] : List (Nat × Bool)).map encS)]) fun d => ?_
 refine loop (β := { x : Nat × List (Nat × Bool) × List (Nat × Bool) // Dw ns b x.1 x.2.2 ∧ x.2.1 ++ x.2.2 = l })
  (fun x d => ⟨d, [(0, .a (.p 0 0)), (1, vi x.1.1), (2, vi (sd b)), (7, .a (.w 3))], mkX (Tr3 f root n ns fs ++ [.row 347 2 (x.1.2.1.map encS)])⟩) (fun x => x.1.2.2.length) (by kernel_rfl) (fun x K ih d => ?_) ⟨(i, [], l), hw, rfl⟩ d
 obtain ⟨⟨i, acc, rest⟩, hx, hal⟩ := x
 simp only at hx hal
 have hlm : (acc.map encS).length = acc.length := by simp
 cases hx with
 | out i hi h =>
  have hlen : acc.length + 1 = l.length := by rw [← hal]; simp
  have its := fun C : Cx => (.f 10 [0, 1, 2] [0, 1, 2] (at_ok f root n ns fs i hi) <| .l 15 (nd_enc hi) <| .v 16 (nf (show ((kid ns i b : Nat) : Int) = 0 by omega)) <| .a (n := (acc.map encS).length + 1) (bytes := 16) 36 (by rw [hlm]; unfold maxLen; omega) (by rw [hlm]; omega) <|
   .o (x := .row 347 2 (acc.map encS ++ [encS (i, b)])) (y := .row 347 2 (l.map encS)) 1000 5 (by rw [← hal, List.map_append]; rfl) .nil : Its Tryz.prog C.W C.D _)
  cases b <;> exact dn (its C) [0, 1, 2, 5]
 | on i hi h w =>
  rename_i l'
  have hlen : acc.length + 1 ≤ l.length := by rw [← hal]; simp
  have its := fun C : Cx => (.f 10 [0, 1, 2] [0, 1, 2] (at_ok f root n ns fs i hi) <| .l 15 (nd_enc hi) <| .v 16 (nt (show ((kid ns i b : Nat) : Int) ≠ 0 by omega)) <| .a (n := (acc.map encS).length + 1) (bytes := 16) 22 (by rw [hlm]; unfold maxLen; omega) (by rw [hlm]; omega) <|
   .f 25 [0, 1, 2] [0, 1, 2] (at_ok f root n ns fs i hi) <| .l 30 (nd_enc hi) <| .o (x := .row 347 2 (acc.map encS ++ [encS (i, b)])) (y := .row 347 2 ((acc ++ [(i, b)]).map encS)) 1000 5 (by rw [List.map_append]; rfl) .nil : Its Tryz.prog C.W C.D _)
  have ih' := fun d => ih ⟨(kid ns i b, acc ++ [(i, b)], l'), w, by rw [List.append_assoc]; exact hal⟩ d (by simp)
  cases b <;> exact gq [] (lpK 2 endB [] K) (its C) [0, 1, 2, 5] [(0, .a (.p 0 0)), (1, vi _), (2, vi _), (7, .a (.w 3))] (Tr3 f root n ns fs ++ [.row 347 2 _]) ih'
theorem told_ok (i : Nat) (hi : i < ns.length) :
  FnP Tryz.prog 265 (Tr3 f root n ns fs) [.a (.p 0 0), vi i] (Tr3 f root n ns fs) [] (.a (.v (.tuple #[spA (nd ns i).v, .bool (((i : Nat) : Int) != 0)]))) :=
 fq Tryz.func265 fun C => dn (.f 8 [0, 1, 2] [0, 1, 2] (at_ok f root n ns fs i hi) <| .l 11 (nd_enc hi) .nil) [0, 1, 2]
end
section
variable (f : Value) (n : Int) (root : Nat) (ns : List Nd) (fs : List Nat)
theorem et {x y : Int} (h : x = y) : Value.bool (x == y) = .bool true := by simp [h]
theorem ef {x y : Int} (h : x ≠ y) : Value.bool (x == y) = .bool false := by simp [h]
theorem outer0_ok (b : Bool) (hn : 0 < ns.length) :
  FnP Tryz.prog 249 (Tr3 f (0 : Nat) n ns fs) [.a (.p 0 0), vi (sd b)] (Tr3 f (0 : Nat) n ns fs) [] (.a (.v (.tuple #[spA (nd ns 0).v, .bool false]))) :=
 fq Tryz.func249 fun C => dn (.f 13 [0, 1, 2] [0, 1, 2] (told_ok f (0 : Nat) n ns fs 0 hn) .nil) [0, 1, 2]
theorem outer_ok (b : Bool) (hr : root ≠ 0) (l : List (Nat × Bool)) (i : Nat) (hi : i < ns.length) (hi0 : i ≠ 0) (hw : Dw ns b root (l ++ [(i, b)])) (hl : l.length < 100000000000) :
  FnP Tryz.prog 249 (Tr3 f root n ns fs) [.a (.p 0 0), vi (sd b)] (Tr3 f root n ns fs) [] (.a (.v (.tuple #[spA (nd ns i).v, .bool true]))) := by
 have ht := told_ok f root n ns fs i hi
 rw [nt (show ((i : Nat) : Int) ≠ 0 by omega)] at ht
 exact fq Tryz.func249 fun C => dn (.v 11 (ef (show ((root : Nat) : Int) ≠ 0 by omega)) <| .f 22 [0, 1, 2] [0, 1, 2] (end_ok f root n ns fs root b _ hw (by simp; omega)) <|
  .v (x := .int .i64 (IntKind.i64.wrap ((((l ++ [(i, b)]).map encS).length : Nat) - 1 : Int))) (y := i6 (l.length : Nat)) 27 ((w64 (by simp; omega)).trans (by simp)) <| .i (n := l.length) (len := ((l ++ [(i, b)]).map encS).length) 28 rfl (by simp) <| .l (es := (l ++ [(i, b)]).map encS) (n := l.length) (e := encS (i, b)) 30 (by simp) <|
  .f 31 [0, 1, 2] [0, 1, 2] ht .nil) [0, 1, 2]
theorem first_ok (hr : root ≠ 0) (l : List (Nat × Bool)) (i : Nat) (hi : i < ns.length) (hi0 : i ≠ 0) (hw : Dw ns false root (l ++ [(i, false)])) (hl : l.length < 100000000000) :
  FnP Tryz.prog 224 (Tr3 f root n ns fs) [.a (.p 0 0)] (Tr3 f root n ns fs) [] (.a (.v (.tuple #[spA (nd ns i).v, .bool true]))) :=
 fq Tryz.func224 fun C => dn (.f 5 [0, 1, 2] [0, 1, 2] (outer_ok f n root ns fs false hr l i hi hi0 hw hl) .nil) [0, 1, 2]
theorem first0_ok (hn : 0 < ns.length) :
  FnP Tryz.prog 224 (Tr3 f (0 : Nat) n ns fs) [.a (.p 0 0)] (Tr3 f (0 : Nat) n ns fs) [] (.a (.v (.tuple #[spA (nd ns 0).v, .bool false]))) :=
 fq Tryz.func224 fun C => dn (.f 5 [0, 1, 2] [0, 1, 2] (outer0_ok f n ns fs false hn) .nil) [0, 1, 2]
end
end Go.Proofs.YtlkhneiccjhgdaaGreat
set_option maxRecDepth 100000
namespace Go.Proofs.YtlkhneiccjhgdaaGreat
open Go.Eo Go.RowKit Go.Rg
abbrev TBx (f : Value) (a b : Nat) (root n : Int) : Ob := .box [.v f, .w a, .w b, .v (i6 root), .v (i6 n)] 351
def newNd (v : Nat → Int) : Nd := ⟨v, 0, 0, 1⟩
theorem gt_t {x y : Int} (h : y < x) : Value.bool (decide (x > y)) = .bool true := by rw [decide_eq_true (show x > y from h)]
section
variable (f : Value) (root n : Int) (ns : List Nd)
theorem fresh0_ok (v : Nat → Int) (hl : ns.length < 100000000000) :
  FnP Tryz.prog 261 (Tr3 f root n ns []) [.a (.p 0 0), .a (.v (spA v))] [TBx f 3 4 root n, .dead, .dead] [NO (ns ++ [newNd v]), FO []] (vi ns.length) := by
 have hlm : (ns.map Nd.enc).length = ns.length := by simp
 exact fq Tryz.func261 fun C => dn (.a (n := (ns.map Nd.enc).length + 1) (bytes := 120) 49 (by rw [hlm]; unfold maxLen; omega) (by rw [hlm]; omega) <|
  .o (x := .row 342 15 (ns.map Nd.enc ++ [(newNd v).enc])) (y := NO (ns ++ [newNd v])) 8 5 (by simp [NO]) <|
  .v (x := .int .i64 (IntKind.i64.wrap ((((ns ++ [newNd v]).map Nd.enc).length : Nat) - 1 : Int))) (y := i6 (ns.length : Nat)) 57 ((w64 (by simp; omega)).trans (by simp)) .nil) [0, 1, 2, 5, 2]
theorem fresh1_ok (v : Nat → Int) (gs : List Nat) (i : Nat) (hi : i < ns.length) (hl : gs.length < 100000000000) :
  FnP Tryz.prog 261 (Tr3 f root n ns (gs ++ [i])) [.a (.p 0 0), .a (.v (spA v))] [TBx f 3 4 root n, .dead, .dead] [NO (ns.set i (newNd v)), FO gs] (vi i) := by
 have w (t : Nat) : Value.int .i64 (IntKind.i64.wrap ((((gs ++ [i]).map fun x => [Dt.v (i6 (x : Nat))]).length : Nat) - 1 : Int)) = i6 (gs.length : Nat) := (w64 (by simp; omega)).trans (by simp)
 exact fq Tryz.func261 fun C => dn (.v (x := .bool (decide ((((gs ++ [i]).map fun x => [Dt.v (i6 (x : Nat))]).length : Int) > 0))) 13 (gt_t (by simp)) <|
  .v 19 (w 0) <| .i (n := gs.length) (len := ((gs ++ [i]).map fun x => [Dt.v (i6 (x : Nat))]).length) 20 rfl (by simp) <| .l (es := (gs ++ [i]).map fun x => [Dt.v (i6 (x : Nat))]) (n := gs.length) (e := [.v (i6 i)]) 21 (by simp) <|
  .v 28 (w 0) <| .b (lo := 0) (l := 0) (h := gs.length) (len := ((gs ++ [i]).map fun x => [Dt.v (i6 (x : Nat))]).length) 29 true rfl rfl (by omega) (by simp) <|
  .o (x := .row 3 1 (((gs ++ [i]).map fun x => [Dt.v (i6 (x : Nat))]).take gs.length)) (y := FO gs) 5 4 (by congr 1; simp) <|
  .i (n := i) (len := (ns.map Nd.enc).length) 39 rfl (by simpa using hi) <| .l 1 (nd_enc hi) <| .o (y := NO (ns.set i (newNd v))) 6 1 (congrArg (Ob.row 342 15) (set_enc ns i (newNd v))) .nil) [0, 1, 2, 1, 4]
theorem new_ok : FnP Tryz.prog 242 [] [.a (.v cmpV)] [] [TBx cmpV 1 2 (0 : Nat) 0, NO [default], FO []] (.a (.p 0 0)) :=
 fq Tryz.func242 fun C => dn (.k (n := 1) (bytes := 120) 4 1 rfl (by decide) (by decide) (by decide) <| .q 1000 1 2 3 1 .nil) [1, 0, 2]
end
end Go.Proofs.YtlkhneiccjhgdaaGreat
set_option maxRecDepth 100000
namespace Go.Proofs.YtlkhneiccjhgdaaGreat
open Go.Eo Go.RowKit Go.Rg
theorem back_ok (es : List (List Dt)) : FnP Tryz.prog 267 [.sl 2 es] [.a (.w 0)] [.sl 2 es] [.box [.w 0] 337] (.f (.func 274) [] [.p 1 0]) :=
 fq Tryz.func267 fun C => dn .nil [0, 1]
end Go.Proofs.YtlkhneiccjhgdaaGreat
set_option maxRecDepth 100000
namespace Go.Proofs.YtlkhneiccjhgdaaGreat
open Go.Eo Go.RowKit Go.Rg
abbrev stVa (s : Nat × Bool) : AV := .a (.v (.agg #[i6 s.1, i6 (sd s.2)]))
def backE (l : List (Nat × Bool)) (k : Nat) : List AV × List Ob := ([vi ((l.length : Int) - 1 - k), stVa (l.getD (l.length - 1 - k) (0, false))], [])
noncomputable abbrev backB : Code := Tryz.f274.body.getD .skip
abbrev yv (l : Nat) : AV := .a (.v (.func (.yield l) #[] #[]))
theorem map_at {α : Type} (f : α → List Dt) (l : List α) (d : α) {i : Nat} (h : i < l.length) : (l.map f)[i]? = some (f (l.getD i d)) := by
 simp [List.getD_eq_getElem?_getD, List.getElem?_eq_getElem h]
theorem back1_ok (l : List (Nat × Bool)) (hl : l.length < 1000000000000) : SeqP Tryz.prog 274 [.p 0 0] [.ro [.w 1] 337, .sl 2 (l.map encS)] l.length (backE l) := by
 refine sq Tryz.func274 fun p0 C hp hA => ?_
 have hlen : (l.map encS).length = l.length := List.length_map _
 have hv : (Value.int .i64 ((l.map encS).length : Int)) = i6 l.length := by rw [hlen]
 refine gq [1] (lpA 1 backB [] []) (.v 5 hv <| .v 6 (w64 (z := (l.length : Int) - 1) (by omega)) .nil) [0, 1] [(0, yv p0.l), (1, .a (.p 0 0)), (3, vi ((l.length : Int) - 1))] [.ro [.w 1] 337, .sl 2 (l.map encS)] fun d => ?_
 let p := prW p0 l.length 2 (backE l)
 have start : ∀ x C, (At p true x C ∧ x ≤ l.length) → ∀ d, Eo.Good Tryz.prog Tryz.f274.ntmps 2 (itF Tryz.prog Tryz.f274 p) C (lpA 1 backB [] []) ⟨d, [(0, yv p0.l), (1, .a (.p 0 0)), (3, vi ((l.length : Int) - 1 - (x : Nat)))], mkX [.ro [.w 1] 337, .sl 2 (l.map encS)]⟩ := by
  refine loopA (fun x C => At p true x C ∧ x ≤ l.length) (fun x C h => ⟨h.1.m, h.1.r, rfl⟩) (fun x d => ⟨d, [(0, yv p0.l), (1, .a (.p 0 0)), (3, vi ((l.length : Int) - 1 - (x : Nat)))], mkX [.ro [.w 1] 337, .sl 2 (l.map encS)]⟩) (fun x => l.length - x) (by kernel_rfl) fun x K ih C hx d => ?_
  obtain ⟨hA, hx⟩ := hx
  by_cases h : x < l.length
  ·have hi : l.length - 1 - x < l.length := by omega
   refine goY hm hp (fun _ _ => rfl) hA h (by kernel_rfl) 3 80 (.v 8 (bt (p := (l.length : Int) - 1 - (x : Nat) ≥ 0) (by omega)) .nil) 6 [] (fun W D => .i 15 (z := (l.length : Int) - 1 - (x : Nat)) (n := l.length - 1 - x) (len := (l.map encS).length) (by omega) (by rw [hlen]; exact hi) <| .l 16 (map_at encS l (0, false) hi) .nil) rfl (by kernel_rfl) (by kernel_rfl) (fun b => by kernel_rfl) fun C' b hA' => ?_
   cases b with
   | false => exact dnI hp hA' ⟨by omega, h⟩ .nil
   | true =>
    refine gq [] (lpKA 1 backB [] [] K) (.v 10 (w64 (z := (l.length : Int) - 1 - (x : Nat) - 1) (by omega)) <| .nil) [0, 1] [(0, yv p0.l), (1, .a (.p 0 0)), (3, vi ((l.length : Int) - 1 - (x : Nat) - 1))] [.ro [.w 1] 337, .sl 2 (l.map encS)] fun d => ?_
    have := ih (x + 1) C' ⟨hA', h⟩ (by omega) d
    rw [show (l.length : Int) - 1 - ((x + 1 : Nat) : Int) = (l.length : Int) - 1 - (x : Nat) - 1 by omega] at this
    exact this
  ·have e : x = l.length := by omega
   exact dnI hp hA e (.v 8 (bf (p := (l.length : Int) - 1 - (x : Nat) ≥ 0) (by omega)) .nil)
 have := start 0 C ⟨hA, Nat.zero_le _⟩ d
 rw [show (l.length : Int) - 1 - ((0 : Nat) : Int) = (l.length : Int) - 1 by omega] at this
 exact this
end Go.Proofs.YtlkhneiccjhgdaaGreat
set_option maxRecDepth 100000
namespace Go.Proofs.YtlkhneiccjhgdaaGreat
open Go.Eo Go.RowKit Go.Rg
def hang1 (s : Nat × Bool) (x : List Nd × Nat) : List Nd × Nat := levelF (x.1.set s.1 (setKid (nd x.1 s.1) s.2 x.2)) s.1
def hangF (l : List (Nat × Bool)) (x : List Nd × Nat) : List Nd × Nat := l.foldr hang1 x
def hangK (l : List (Nat × Bool)) (x : List Nd × Nat) (k : Nat) : List Nd × Nat := hangF (l.drop (l.length - k)) x
theorem hangK_succ (l : List (Nat × Bool)) (x : List Nd × Nat) {k : Nat} (h : k < l.length) : hangK l x (k + 1) = hang1 (l.getD (l.length - 1 - k) (0, false)) (hangK l x k) := by
 unfold hangK hangF
 have hi : l.length - 1 - k < l.length := by omega
 rw [show l.length - (k + 1) = l.length - 1 - k by omega, List.drop_eq_getElem_cons hi, List.foldr_cons, show l.length - 1 - k + 1 = l.length - k by omega, List.getD_eq_getElem?_getD, List.getElem?_eq_getElem hi]
 rfl
def HangOk (l : List (Nat × Bool)) (x : List Nd × Nat) : Prop := ∀ k, k < l.length → ∀ s, s = l.getD (l.length - 1 - k) (0, false) → s.1 < (hangK l x k).1.length ∧ LevelOk ((hangK l x k).1.set s.1 (setKid (nd (hangK l x k).1 s.1) s.2 (hangK l x k).2)) s.1
section
variable (n : Int) (root : Nat) (fs : List Nat)
theorem hang_ok (l : List (Nat × Bool)) (ns : List Nd) (i : Nat) (hl : l.length < 1000000000000) (h : HangOk l (ns, i)) :
  FnP Tryz.prog 253 (Tr3 cmpV root n ns fs ++ [.sl 2 (l.map encS)]) [.a (.p 0 0), .a (.w 3), vi i] (Tr3 cmpV (hangF l (ns, i)).2 n (hangF l (ns, i)).1 fs ++ [.sl 2 (l.map encS)]) [] unit := by
 refine fqM Tryz.func253 fun C hC => ?_
 let X : Nat → List Ob := fun k => Tr3 cmpV root n (hangK l (ns, i) k).1 fs ++ [.sl 2 (l.map encS), .box [.p 0 0] 308, .box [.v (i6 (hangK l (ns, i) k).2)] 3, .ro [.w 3] 337]
 have h0 : hangK l (ns, i) 0 = (ns, i) := by unfold hangK; rw [Nat.sub_zero, List.drop_length]; rfl
 have hn : hangK l (ns, i) l.length = hangF l (ns, i) := by unfold hangK; rw [Nat.sub_self, List.drop_zero]
 have hX0 : X 0 = Tr3 cmpV root n ns fs ++ [.sl 2 (l.map encS), .box [.p 0 0] 308, .box [.v (i6 i)] 3, .ro [.w 3] 337] := by simp only [X]; rw [h0]
 refine gq [2] (rgK 2 (Tryz.f253.body.getD .skip) []) (.f 9 [3] [0] (back_ok (l.map encS)) <| .z 1000 6 .nil) [0, 1, 2, 3, 4, 5, 6] [(3, .a (.p 4 0)), (5, .a (.p 5 0)), (9, .f (.func 274) [] [.p 6 0])]
  (Tr3 cmpV root n ns fs ++ [.sl 2 (l.map encS), .box [.p 0 0] 308, .box [.v (i6 i)] 3, .ro [.w 3] 337]) fun d => ?_
 rw [← hX0]
 refine rng hm (reb_finM _ _ _ _) hC (back1_ok l hl) 7 [6, 3] X (by kernel_rfl) (by kernel_rfl) (by kernel_rfl) (fun k => by kernel_rfl) (fun k => by kernel_rfl) (fun k => by kernel_rfl) (fun k C' K hk hdf ih => ?_) (fun C' hC' _ => ?_)
 ·obtain ⟨⟨si, sb⟩, hs⟩ : ∃ s, s = l.getD (l.length - 1 - k) (0, false) := ⟨_, rfl⟩
  obtain ⟨g1, g2⟩ := h k hk _ hs
  let N1 := (hangK l (ns, i) k).1
  let M := N1.set si (setKid (nd N1 si) sb (hangK l (ns, i) k).2)
  have hE : backE l k = ([vi ((l.length : Int) - 1 - k), .a (.v (.agg #[i6 si, i6 (sd sb)]))], []) := by unfold backE; rw [← hs]
  have hX1 : X (k + 1) = Tr3 cmpV root n (levelF M si).1 fs ++ [.sl 2 (l.map encS), .box [.p 0 0] 308, .box [.v (i6 (levelF M si).2)] 3, .ro [.w 3] 337] := by
   simp only [X]; rw [hangK_succ l _ hk, ← hs]; rfl
  rw [hE]
  have its := fun C : Cx => (.f 15 [0, 1, 2] [0, 1, 2] (at_ok cmpV root n N1 fs si g1) <| .l 1 (nd_enc g1) <| .o (y := NO M) 4 1 (congrArg (Ob.row 342 15) (set_enc N1 si _)) <| .f 25 [0, 1, 2] [0, 2] (level_ok cmpV root n M fs si g2) .nil : Its Tryz.prog C.W C.D _)
  have fin := fun d => hX1 ▸ ih d
  cases sb <;> exact gq [] ([.a K]) (its C') [0, 1, 2, 3, 4, 5, 6] [] (Tr3 cmpV root n (levelF M si).1 fs ++ [.sl 2 (l.map encS), .box [.p 0 0] 308, .box [.v (i6 (levelF M si).2)] 3, .ro [.w 3] 337]) fin
 ·have hXn : X l.length = Tr3 cmpV root n (hangF l (ns, i)).1 fs ++ [.sl 2 (l.map encS), .box [.p 0 0] 308, .box [.v (i6 (hangF l (ns, i)).2)] 3, .ro [.w 3] 337] := by simp only [X]; rw [hn]
  rw [hXn]
  exact dnM .nil [0, 1, 2, 3]
end
end Go.Proofs.YtlkhneiccjhgdaaGreat
