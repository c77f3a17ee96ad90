/- Pieces of a list in order: one behind the other by their keys. No program in sight. -/
import Derived.Test.YthbplhglfjlngaaGreatGPi
import Derived.Test.YthbplhglfjlngaaGreatGPj
import Derived.Test.YthbplhglfjlngaaGreatGPm
import Derived.Test.YthbplhglfjlngaaGreatGPl
import Derived.Test.YthbplhglfjlngaaGreatGPg
set_option linter.unusedVariables false
set_option linter.unusedSimpArgs false
namespace Go.Mg
variable {α β : Type}
theorem grpA_join (sm : α → α → Bool) : ∀ (t cur : List α) (x : α), (grpA sm cur x t).flatten = cur ++ t
 | [], cur, x => by simp [grpA]
 | y :: t, cur, x => by
  rw [grpA]
  split
  ·rw [grpA_join sm t]; simp
  ·rw [List.flatten_cons, grpA_join sm t]; simp
theorem grpB_join (sm : α → α → Bool) (l : List α) : (grpB sm l).flatten = l := by
 cases l with
 | nil => rfl
 | cons x t => rw [grpB, grpA_join]; rfl
section
variable {sm : α → α → Bool} {κ : α → β} {R : α → α → Prop} {S : β → β → Prop} (hs : ∀ x y, sm x y = true ↔ κ x = κ y) (hR : ∀ x y, R x y → κ x = κ y ∨ S (κ x) (κ y)) (hT : ∀ x y z, S x y → S y z → S x z)
include hs hR hT
theorem grpA_keys : ∀ (t cur : List α) (x : α), cur ≠ [] → (∀ u ∈ cur, κ u = κ x) → (x :: t).Pairwise R →
  (grpA sm cur x t).Pairwise (fun g h => ∀ u ∈ g, ∀ v ∈ h, S (κ u) (κ v)) ∧ (∀ g ∈ grpA sm cur x t, g ≠ [] ∧ ∀ u ∈ g, ∀ v ∈ g, κ u = κ v)
 | [], cur, x, hc, hk, hp => by
  rw [grpA]
  exact ⟨List.pairwise_singleton _ _, fun g hg => by rw [List.mem_singleton.1 hg]; exact ⟨hc, fun u hu v hv => (hk u hu).trans (hk v hv).symm⟩⟩
 | y :: t, cur, x, hc, hk, hp => by
  obtain ⟨h1, h2⟩ := List.pairwise_cons.1 hp
  rw [grpA]
  by_cases h : sm x y = true
  ·rw [if_pos h]
   have e := (hs x y).1 h
   refine grpA_keys t (cur ++ [y]) y (by simp) (fun u hu => ?_) h2
   rcases List.mem_append.1 hu with k | k
   ·exact (hk u k).trans e
   ·rw [List.mem_singleton.1 k]
  ·rw [if_neg h]
   have hxy : S (κ x) (κ y) := (hR x y (h1 y (List.mem_cons_self ..))).resolve_left (fun e => h ((hs x y).2 e))
   obtain ⟨i1, i2⟩ := grpA_keys t [y] y (by simp) (fun u hu => by rw [List.mem_singleton.1 hu]) h2
   refine ⟨List.Pairwise.cons (fun g hg u hu v hv => ?_) i1, fun g hg => ?_⟩
   ·have hv' : v ∈ [y] ++ t := by rw [← grpA_join sm t [y] y]; exact List.mem_flatten.2 ⟨g, hg, hv⟩
    rw [hk u hu]
    rcases List.mem_append.1 hv' with k | k
    ·rw [List.mem_singleton.1 k]; exact hxy
    ·rcases hR y v ((List.pairwise_cons.1 h2).1 v k) with e | e
     ·rw [← e]; exact hxy
     ·exact hT _ _ _ hxy e
   ·rcases List.mem_cons.1 hg with rfl | k
    ·exact ⟨hc, fun u hu v hv => (hk u hu).trans (hk v hv).symm⟩
    ·exact i2 g k
theorem grpB_keys {l : List α} (hp : l.Pairwise R) : (grpB sm l).Pairwise (fun g h => ∀ u ∈ g, ∀ v ∈ h, S (κ u) (κ v)) ∧ (∀ g ∈ grpB sm l, g ≠ [] ∧ ∀ u ∈ g, ∀ v ∈ g, κ u = κ v) := by
 cases l with
 | nil => exact ⟨List.Pairwise.nil, fun g hg => absurd hg (List.not_mem_nil)⟩
 | cons x t => exact grpA_keys hs hR hT t [x] x (by simp) (fun u hu => by rw [List.mem_singleton.1 hu]) hp
end
end Go.Mg
namespace Go.Mg
variable {α : Type}
section
variable {le : α → α → Bool} {P : α → Prop} (ht : ∀ x y z, P x → P y → P z → le x y = true → le y z = true → le x z = true) (hh : ∀ x y, P x → P y → le x y = true ∨ le y x = true)
include ht hh
theorem mgB_sorted : ∀ a b : List α, (∀ x ∈ a, P x) → (∀ x ∈ b, P x) → a.Pairwise (fun x y => le x y = true) → b.Pairwise (fun x y => le x y = true) → (mgB le a b).Pairwise (fun x y => le x y = true)
 | [], b, _, _, _, hb => by rw [mgB_nil]; exact hb
 | x :: a, [], _, _, ha, _ => by rw [mgB_nil_right]; exact ha
 | x :: a, y :: b, pa, pb, ha, hb => by
  rw [mgB_cons]
  have px := pa x (List.mem_cons_self ..)
  have py := pb y (List.mem_cons_self ..)
  by_cases h : le x y = true
  ·rw [if_pos h]
   refine List.Pairwise.cons (fun z hz => ?_) (mgB_sorted a (y :: b) (fun u hu => pa u (List.mem_cons_of_mem _ hu)) pb (List.pairwise_cons.1 ha).2 hb)
   rcases mgB_mem.1 hz with k | k
   ·exact (List.pairwise_cons.1 ha).1 z k
   ·rcases List.mem_cons.1 k with rfl | k
    ·exact h
    ·exact ht x y z px py (pb z (List.mem_cons_of_mem _ k)) h ((List.pairwise_cons.1 hb).1 z k)
  ·rw [if_neg h]
   have h' := (hh x y px py).resolve_left h
   refine List.Pairwise.cons (fun z hz => ?_) (mgB_sorted (x :: a) b pa (fun u hu => pb u (List.mem_cons_of_mem _ hu)) ha (List.pairwise_cons.1 hb).2)
   rcases mgB_mem.1 hz with k | k
   ·rcases List.mem_cons.1 k with rfl | k
    ·exact h'
    ·exact ht y x z py px (pa z (List.mem_cons_of_mem _ k)) h' ((List.pairwise_cons.1 ha).1 z k)
   ·exact (List.pairwise_cons.1 hb).1 z k
termination_by a b => a.length + b.length
theorem passB_chunks {k : Nat} (hk : 0 < k) : ∀ (f : Nat) (l : List α), l.length ≤ f → (∀ x ∈ l, P x) → (∀ i, ((l.drop (i * k)).take k).Pairwise (fun x y => le x y = true)) →
  ∀ i, (((passB le k f l).drop (i * (2 * k))).take (2 * k)).Pairwise (fun x y => le x y = true) := by
 intro f
 induction f with
 | zero => intro l _ _ _ i; show ((([] : List α).drop _).take _).Pairwise _; simp
 | succ f ih =>
  intro l hl hp hc i
  by_cases h0 : l = []
  ·subst h0; rw [passB_nil]; simp
  have h1 : 0 < l.length := List.length_pos_iff.2 h0
  rw [passB_step le k f h0]
  have hM : (mgB le (l.take k) ((l.drop k).take k)).Pairwise (fun x y => le x y = true) := by
   have c0 := hc 0
   have c1 := hc 1
   rw [Nat.zero_mul, List.drop_zero] at c0
   rw [Nat.one_mul] at c1
   exact mgB_sorted ht hh _ _ (fun x hx => hp x (List.mem_of_mem_take hx)) (fun x hx => hp x (List.mem_of_mem_drop (List.mem_of_mem_take hx))) c0 c1
  have hlen : (mgB le (l.take k) ((l.drop k).take k)).length = min (2 * k) l.length := by
   rw [mgB_len, List.length_take, List.length_take, List.length_drop]; omega
  have hR := ih (l.drop (2 * k)) (by rw [List.length_drop]; omega) (fun x hx => hp x (List.mem_of_mem_drop hx)) (fun i => by
   have := hc (i + 2)
   rw [List.drop_drop]
   have e : 2 * k + i * k = (i + 2) * k := by rw [Nat.add_mul]; omega
   rw [e]; exact this)
  rcases Nat.lt_or_ge l.length (2 * k) with h | h
  ·have e : l.drop (2 * k) = [] := List.drop_eq_nil_of_le (by omega)
   rw [e, passB_nil, List.append_nil]
   exact List.Pairwise.sublist ((List.take_sublist _ _).trans (List.drop_sublist _ _)) hM
  ·have e : (mgB le (l.take k) ((l.drop k).take k)).length = 2 * k := by omega
   cases i with
   | zero =>
    rw [Nat.zero_mul, List.drop_zero, List.take_append_of_le_length (by omega), List.take_of_length_le (by omega)]
    exact hM
   | succ i =>
    have e2 : (i + 1) * (2 * k) = (mgB le (l.take k) ((l.drop k).take k)).length + i * (2 * k) := by rw [e, Nat.add_mul]; omega
    rw [e2, ← List.drop_drop, List.drop_left]
    exact hR i
theorem sortG_sorted : ∀ (f k : Nat) (l : List α), 0 < k → l.length ≤ k * 2 ^ f → (∀ x ∈ l, P x) → (∀ i, ((l.drop (i * k)).take k).Pairwise (fun x y => le x y = true)) → (sortG le f k l).Pairwise (fun x y => le x y = true) := by
 intro f
 induction f with
 | zero =>
  intro k l hk hl hp hc
  have c := hc 0
  rw [Nat.zero_mul, List.drop_zero, List.take_of_length_le (by omega)] at c
  exact c
 | succ f ih =>
  intro k l hk hl hp hc
  rw [sortG]
  split
  ·have hq := passB_perm le k hk l.length l (Nat.le_refl _)
   refine ih (2 * k) _ (by omega) ?_ (fun x hx => hp x (hq.mem_iff.1 hx)) (passB_chunks ht hh hk l.length l (Nat.le_refl _) hp hc)
   rw [hq.length_eq]
   have : k * 2 ^ (f + 1) = 2 * k * 2 ^ f := by rw [Nat.pow_succ]; ac_rfl
   omega
  ·have c := hc 0
   rw [Nat.zero_mul, List.drop_zero, List.take_of_length_le (by omega)] at c
   exact c
theorem sortB_sorted (l : List α) (hp : ∀ x ∈ l, P x) : (sortB le l).Pairwise (fun x y => le x y = true) := by
 unfold sortB
 refine sortG_sorted ht hh l.length 1 l (by omega) (by rw [Nat.one_mul]; exact Nat.le_of_lt Nat.lt_two_pow_self) hp (fun i => ?_)
 have h : ((l.drop (i * 1)).take 1).length ≤ 1 := by rw [List.length_take]; omega
 match (l.drop (i * 1)).take 1, h with
 | [], _ => exact List.Pairwise.nil
 | [x], _ => exact List.pairwise_singleton _ _
end
theorem sorted_unique {lt : α → α → Prop} (hi : ∀ x, ¬ lt x x) (ha : ∀ x y, lt x y → ¬ lt y x) : ∀ {a b : List α}, a.Pairwise lt → b.Pairwise lt → (∀ x, x ∈ a ↔ x ∈ b) → a = b
 | [], [], _, _, _ => rfl
 | [], y :: b, _, _, h => absurd ((h y).2 (List.mem_cons_self ..)) (List.not_mem_nil)
 | x :: a, [], _, _, h => absurd ((h x).1 (List.mem_cons_self ..)) (List.not_mem_nil)
 | x :: a, y :: b, h1, h2, h => by
  obtain ⟨p1, q1⟩ := List.pairwise_cons.1 h1
  obtain ⟨p2, q2⟩ := List.pairwise_cons.1 h2
  have e : x = y := by
   rcases List.mem_cons.1 ((h x).1 (List.mem_cons_self ..)) with k | k
   ·exact k
   ·rcases List.mem_cons.1 ((h y).2 (List.mem_cons_self ..)) with k' | k'
    ·exact k'.symm
    ·exact absurd (p1 y k') (ha _ _ (p2 x k))
  subst e
  congr 1
  refine sorted_unique hi ha q1 q2 fun z => ?_
  constructor
  ·intro hz
   rcases List.mem_cons.1 ((h z).1 (List.mem_cons_of_mem _ hz)) with rfl | k
   ·exact absurd (p1 z hz) (hi z)
   ·exact k
  ·intro hz
   rcases List.mem_cons.1 ((h z).2 (List.mem_cons_of_mem _ hz)) with rfl | k
   ·exact absurd (p2 z hz) (hi z)
   ·exact k
end Go.Mg
namespace Go.Wd
theorem Rising.head_le {x : Int} {r : List Int} (h : Rising (x :: r)) : ∀ y ∈ r, x ≤ y := by
 intro y hy
 obtain ⟨j, hj, e⟩ := List.getElem_of_mem hy
 exact h 0 (j + 1) x y (by omega) rfl (by rw [List.getElem?_cons_succ, List.getElem?_eq_getElem hj, e])
theorem drop_low {β : Type} (f : β → Int) (k : Int) : ∀ l : List β, Rising (l.map f) → l.drop (lowB (l.map f) k) = l.filter (fun z => decide (k ≤ f z))
 | [], _ => by simp
 | x :: r, h => by
  have ih := drop_low f k r (Rising.tail (by simpa using h))
  rw [List.map_cons, lowB]
  by_cases hx : f x < k
  ·rw [if_pos hx, List.drop_succ_cons, ih, List.filter_cons, if_neg (by simp; omega)]
  ·rw [if_neg hx, List.drop_zero]
   symm
   rw [List.filter_eq_self]
   intro z hz
   rw [decide_eq_true_eq]
   rcases List.mem_cons.1 hz with rfl | hz
   ·omega
   ·have := (Rising.head_le (by simpa using h)) (f z) (List.mem_map_of_mem hz)
    omega
theorem take_high {β : Type} (f : β → Int) (k : Int) : ∀ l : List β, Rising (l.map f) → l.takeWhile (fun z => decide (f z ≤ k)) = l.filter (fun z => decide (f z ≤ k))
 | [], _ => by simp
 | x :: r, h => by
  have ih := take_high f k r (Rising.tail (by simpa using h))
  by_cases hx : f x ≤ k
  ·rw [List.takeWhile_cons, if_pos (by simpa using hx), List.filter_cons, if_pos (by simpa using hx), ih]
  ·rw [List.takeWhile_cons, if_neg (by simpa using hx), List.filter_cons, if_neg (by simpa using hx)]
   symm
   rw [List.filter_eq_nil_iff]
   intro z hz
   have := (Rising.head_le (by simpa using h)) (f z) (List.mem_map_of_mem hz)
   simp; omega
theorem Rising.drop {l : List Int} (h : Rising l) (n : Nat) : Rising (l.drop n) := by
 intro i j x y hij hi hj
 rw [List.getElem?_drop] at hi hj
 exact h _ _ _ _ (by omega) hi hj
theorem mem_rowNear {lx hx : Int} {r : Int × List Int} (h : Rising r.2) {x y : Int} : (x, y) ∈ rowNear lx hx r ↔ y = r.1 ∧ x ∈ r.2 ∧ lx ≤ x ∧ x ≤ hx := by
 unfold rowNear inR
 have e := drop_low (fun z : Int => z) lx r.2 (by simpa using h)
 rw [List.map_id'] at e
 have e2 := take_high (fun z : Int => z) hx (r.2.drop (lowB r.2 lx)) (by simpa using h.drop _)
 rw [e2, e]
 simp only [List.mem_map, List.mem_filter, decide_eq_true_eq, Prod.mk.injEq]
 constructor
 ·rintro ⟨z, ⟨⟨h1, h2⟩, h3⟩, rfl, rfl⟩; exact ⟨rfl, h1, h2, h3⟩
 ·rintro ⟨rfl, h1, h2, h3⟩; exact ⟨x, ⟨⟨h1, h2⟩, h3⟩, rfl, rfl⟩
theorem mem_nearB {rows : List (Int × List Int)} (hy : Rising (rows.map (·.1))) (hr : ∀ r ∈ rows, Rising r.2) {lx ly hx h2 x y : Int} :
  (x, y) ∈ nearB rows lx ly hx h2 ↔ (∃ r ∈ rows, r.1 = y ∧ x ∈ r.2) ∧ lx ≤ x ∧ x ≤ hx ∧ ly ≤ y ∧ y ≤ h2 := by
 unfold nearB nearRest
 have hd : Rising ((rows.drop (lowB (rows.map (·.1)) ly)).map (·.1)) := by rw [List.map_drop]; exact hy.drop _
 rw [take_high (fun r : Int × List Int => r.1) h2 _ hd, drop_low (fun r : Int × List Int => r.1) ly rows hy]
 simp only [List.mem_flatMap, List.mem_filter, decide_eq_true_eq]
 constructor
 ·rintro ⟨r, ⟨⟨h1, h3⟩, h4⟩, h5⟩
  obtain ⟨rfl, k1, k2, k3⟩ := (mem_rowNear (hr r h1)).1 h5
  exact ⟨⟨r, h1, rfl, k1⟩, k2, k3, h3, h4⟩
 ·rintro ⟨⟨r, h1, rfl, k1⟩, k2, k3, h3, h4⟩
  exact ⟨r, ⟨⟨h1, h3⟩, h4⟩, (mem_rowNear (hr r h1)).2 ⟨rfl, k1, k2, k3⟩⟩
end Go.Wd
namespace Go.Proofs.YthbplhglfjlngaaGreat
open Go.RowKit Go.Rg Go.Wd Go.Mg
theorem ptO_neg {p q : Int × Int} : ptO p q < 0 ↔ p.1 < q.1 ∨ (p.1 = q.1 ∧ p.2 < q.2) := by
 unfold ptO orZ cmpI
 split <;> (try split) <;> (try split) <;> (try split) <;> (try split) <;> omega
theorem ptO_zero {p q : Int × Int} : ptO p q = 0 ↔ p = q := by
 have : p = q ↔ p.1 = q.1 ∧ p.2 = q.2 := ⟨fun e => by rw [e]; exact ⟨rfl, rfl⟩, fun e => Prod.ext e.1 e.2⟩
 rw [this]
 unfold ptO orZ cmpI
 split <;> (try split) <;> (try split) <;> (try split) <;> (try split) <;> omega
theorem rowO_neg {p q : Int × Int} : rowO p q < 0 ↔ p.2 < q.2 ∨ (p.2 = q.2 ∧ p.1 < q.1) := by
 unfold rowO orZ cmpI
 split <;> (try split) <;> (try split) <;> (try split) <;> (try split) <;> omega
def LtP (p q : Int × Int) : Prop := p.1 < q.1 ∨ (p.1 = q.1 ∧ p.2 < q.2)
def LtR (p q : Int × Int) : Prop := p.2 < q.2 ∨ (p.2 = q.2 ∧ p.1 < q.1)
theorem mem_onceB {ord : (Int × Int) → (Int × Int) → Int} (hz : ∀ p q, ord p q = 0 ↔ p = q) {S : (Int × Int) → (Int × Int) → Prop} (hn : ∀ p q, ord p q < 0 ↔ S p q) (hT : ∀ x y z, S x y → S y z → S x z) (hI : ∀ x y, ¬ S x y → ¬ S y x → x = y) (ps : List (Int × Int)) :
  (∀ p, p ∈ onceB ord ps ↔ p ∈ ps) ∧ (onceB ord ps).Pairwise S := by
 have hle : ∀ x y, ((fun x y => !decide (ord y x < 0)) x y = true) ↔ ¬ S y x := fun x y => by simp [hn]
 have hsort := sortB_sorted (le := fun x y => !decide (ord y x < 0)) (P := fun _ => True) (fun x y z _ _ _ h1 h2 => by
   rw [hle] at h1 h2 ⊢
   intro h
   by_cases e : S x y
   ·exact h2 (hT _ _ _ h e)
   ·have := hI x y e h1
    subst this; exact h2 h)
  (fun x y _ _ => by
   rw [hle, hle]
   by_cases e : S y x
   ·right; intro e2
    have h0 : ord y y < 0 := (hn y y).2 (hT _ _ _ e e2)
    have := (hz y y).2 rfl
    omega
   ·exact .inl e) ps (fun _ _ => trivial)
 obtain ⟨k1, k2⟩ := grpB_keys (sm := fun p q => ord p q == 0) (κ := fun p : Int × Int => p) (R := fun x y => (!decide (ord y x < 0)) = true) (S := S)
  (fun x y => by rw [beq_iff_eq]; exact hz x y)
  (fun x y h => by
   rw [hle] at h
   by_cases e : S x y
   ·exact .inr e
   ·exact .inl (hI x y e h)) hT hsort
 constructor
 ·intro p
  unfold onceB
  rw [List.mem_map]
  constructor
  ·rintro ⟨g, hg, rfl⟩
   have hne := (k2 g hg).1
   have : g.headD (0, 0) ∈ g := by cases g with | nil => exact absurd rfl hne | cons x r => exact List.mem_cons_self ..
   have h2 : g.headD (0, 0) ∈ (grpB (fun p q => ord p q == 0) (sortB (fun x y => !decide (ord y x < 0)) ps)).flatten := List.mem_flatten.2 ⟨g, hg, this⟩
   rw [grpB_join] at h2
   exact (sortB_perm _ _).mem_iff.1 h2
  ·intro hp
   have h2 := (sortB_perm (fun x y => !decide (ord y x < 0)) ps).mem_iff.2 hp
   rw [← grpB_join (fun p q => ord p q == 0) (sortB (fun x y => !decide (ord y x < 0)) ps)] at h2
   obtain ⟨g, hg, hpg⟩ := List.mem_flatten.1 h2
   refine ⟨g, hg, ?_⟩
   have hne := (k2 g hg).1
   cases g with
   | nil => exact absurd rfl hne
   | cons x r => exact (k2 _ hg).2 x (List.mem_cons_self ..) p hpg
 ·unfold onceB
  rw [List.pairwise_map]
  refine k1.imp_of_mem fun {g h} hg hh k => ?_
  have n1 := (k2 g hg).1
  have n2 := (k2 h hh).1
  refine k _ ?_ _ ?_
  ·cases g with | nil => exact absurd rfl n1 | cons x r => exact List.mem_cons_self ..
  ·cases h with | nil => exact absurd rfl n2 | cons x r => exact List.mem_cons_self ..
theorem setC_law (ps : List (Int × Int)) : (∀ p, p ∈ setC ps ↔ p ∈ ps) ∧ (setC ps).Pairwise LtP :=
 mem_onceB (S := LtP) (fun p q => ptO_zero) (fun p q => ptO_neg) (fun x y z h1 h2 => by unfold LtP at *; omega) (fun x y h1 h2 => by unfold LtP at *; exact Prod.ext (by omega) (by omega)) ps
end Go.Proofs.YthbplhglfjlngaaGreat
namespace Go.Wd
open Go
def leF (n d n' d' : Int) : Prop := n * d' ≤ n' * d
theorem cmpI_lt {x y : Int} : cmpI x y < 0 ↔ x < y := by unfold cmpI; split <;> (try split) <;> omega
theorem cmpI_gt {x y : Int} : 0 < cmpI x y ↔ y < x := by unfold cmpI; split <;> (try split) <;> omega
theorem leF_trans {n1 d1 n2 d2 n3 d3 : Int} (h1 : 0 < d1) (h2 : 0 < d2) (h3 : 0 < d3) (a : leF n1 d1 n2 d2) (b : leF n2 d2 n3 d3) : leF n1 d1 n3 d3 := by
 unfold leF at *
 have e1 : n1 * d2 * d3 ≤ n2 * d1 * d3 := Int.mul_le_mul_of_nonneg_right a (by omega)
 have e2 : n2 * d3 * d1 ≤ n3 * d2 * d1 := Int.mul_le_mul_of_nonneg_right b (by omega)
 have e3 : n1 * d3 * d2 ≤ n3 * d1 * d2 := by
  have t1 : n1 * d3 * d2 = n1 * d2 * d3 := by ac_rfl
  have t2 : n2 * d1 * d3 = n2 * d3 * d1 := by ac_rfl
  have t3 : n3 * d2 * d1 = n3 * d1 * d2 := by ac_rfl
  omega
 exact Int.le_of_mul_le_mul_right e3 h2
def cutP (p : Ptz) (n1 n2 d : Int) : Ptz := earlierZ (laterZ p n1 d) n2 d
theorem pband_pos (p : Ptz) (a way low high : Int) (h : 0 < way) : pbandZ p a way low high = (cutP p (low - 2 * a) (high - 2 * a) (2 * way), true) := by
 unfold pbandZ; rw [if_neg (by omega), if_neg (by omega)]; rfl
theorem pband_neg (p : Ptz) (a way low high : Int) (h : way < 0) : pbandZ p a way low high = (cutP p (-(high - 2 * a)) (-(low - 2 * a)) (2 * (-way)), true) := by
 unfold pbandZ; rw [if_neg (by omega), if_pos h]; rfl
theorem mono {k x y : Int} (hk : 0 ≤ k) (h : x ≤ y) : k * x ≤ k * y := Int.mul_le_mul_of_nonneg_left h hk
end Go.Wd
namespace Go.Wd
open Go
def ltF (n d n' d' : Int) : Prop := n * d' < n' * d
def eqF (n d n' d' : Int) : Prop := n * d' = n' * d
theorem ltF_le {n d n' d' : Int} : ltF n d n' d' ↔ ¬ leF n' d' n d := by unfold ltF leF; omega
theorem ltF_leF {n1 d1 n2 d2 n3 d3 : Int} (h1 : 0 < d1) (h2 : 0 < d2) (h3 : 0 < d3) (a : ltF n1 d1 n2 d2) (b : leF n2 d2 n3 d3) : ltF n1 d1 n3 d3 := by
 rw [ltF_le] at *
 exact fun k => a (leF_trans h2 h3 h1 b k)
theorem leF_ltF {n1 d1 n2 d2 n3 d3 : Int} (h1 : 0 < d1) (h2 : 0 < d2) (h3 : 0 < d3) (a : leF n1 d1 n2 d2) (b : ltF n2 d2 n3 d3) : ltF n1 d1 n3 d3 := by
 rw [ltF_le] at *
 exact fun k => b (leF_trans h3 h1 h2 k a)
theorem eqF_iff {n d n' d' : Int} : eqF n d n' d' ↔ leF n d n' d' ∧ leF n' d' n d := by unfold eqF leF; omega
def loB (n d : Int) (o : Bool) (p q : Int) : Prop := ltF n d p q ∨ (eqF n d p q ∧ o = false)
def hiB (n d : Int) (o : Bool) (p q : Int) : Prop := ltF p q n d ∨ (eqF p q n d ∧ o = false)
def Mem (s : Stz) (p q : Int) : Prop := loB s.fn s.fd s.op p q ∧ hiB s.tn s.td s.ot p q
theorem loB_le {n d : Int} {o : Bool} {p q : Int} (h : loB n d o p q) : leF n d p q := by
 rcases h with h | ⟨h, _⟩
 ·unfold ltF at h; unfold leF; omega
 ·exact (eqF_iff.1 h).1
theorem hiB_le {n d : Int} {o : Bool} {p q : Int} (h : hiB n d o p q) : leF p q n d := by
 rcases h with h | ⟨h, _⟩
 ·unfold ltF at h; unfold leF; omega
 ·exact (eqF_iff.1 h).1
structure SPos (s : Stz) : Prop where
 f : 0 < s.fd
 t : 0 < s.td
theorem from_pos {s : Stz} {n d : Int} {o : Bool} (h : SPos s) (hd : 0 < d) : SPos (fromZ s n d o) := by
 unfold fromZ; split
 ·exact ⟨hd, h.t⟩
 ·split <;> exact ⟨h.f, h.t⟩
theorem to_pos {s : Stz} {n d : Int} {o : Bool} (h : SPos s) (hd : 0 < d) : SPos (toZ s n d o) := by
 unfold toZ; split
 ·exact ⟨h.f, hd⟩
 ·split <;> exact ⟨h.f, h.t⟩
theorem from_lo {s : Stz} {n d : Int} {o : Bool} (h : SPos s) (hd : 0 < d) {p q : Int} (hq : 0 < q) :
  loB (fromZ s n d o).fn (fromZ s n d o).fd (fromZ s n d o).op p q ↔ loB s.fn s.fd s.op p q ∧ loB n d o p q := by
 unfold fromZ
 split
 ·rename_i hc
  have hl : ltF s.fn s.fd n d := by unfold cmpR at hc; have := cmpI_gt.1 hc; unfold ltF; omega
  exact ⟨fun k => ⟨.inl (ltF_leF h.f hd hq hl (loB_le k)), k⟩, fun k => k.2⟩
 ·split
  ·rename_i h1 h2
   have he : eqF n d s.fn s.fd := by
    unfold cmpR at h1 h2
    have : ¬ (s.fn * d < n * s.fd) := fun k => h1 (cmpI_gt.2 k)
    have : ¬ (n * s.fd < s.fn * d) := fun k => by have := cmpI_lt.2 k; omega
    unfold eqF; omega
   obtain ⟨e1, e2⟩ := eqF_iff.1 he
   have hlt : ltF n d p q ↔ ltF s.fn s.fd p q := ⟨fun k => leF_ltF h.f hd hq e2 k, fun k => leF_ltF hd h.f hq e1 k⟩
   have heq : eqF n d p q ↔ eqF s.fn s.fd p q := by
    rw [eqF_iff, eqF_iff]
    exact ⟨fun k => ⟨leF_trans h.f hd hq e2 k.1, leF_trans hq hd h.f k.2 e1⟩, fun k => ⟨leF_trans hd h.f hq e1 k.1, leF_trans hq h.f hd k.2 e2⟩⟩
   unfold loB
   rw [hlt, heq]
   simp only [Bool.or_eq_false_iff]
   constructor
   ·rintro (k | ⟨k, ko, kp⟩)
    ·exact ⟨.inl k, .inl k⟩
    ·exact ⟨.inr ⟨k, ko⟩, .inr ⟨k, kp⟩⟩
   ·rintro ⟨k | ⟨k, ko⟩, l | ⟨l, lo⟩⟩
    ·exact .inl k
    ·exact .inl k
    ·exact .inl l
    ·exact .inr ⟨k, ko, lo⟩
  ·rename_i h1 h2
   have hl : ltF n d s.fn s.fd := by
    unfold cmpR at h1 h2
    have a1 : ¬ (s.fn * d < n * s.fd) := fun k => h1 (cmpI_gt.2 k)
    have a2 : ¬ (n * s.fd = s.fn * d) := fun k => h2 (by unfold cmpI; rw [if_neg (by omega), if_pos k])
    unfold ltF; omega
   exact ⟨fun k => ⟨k, .inl (ltF_leF hd h.f hq hl (loB_le k))⟩, fun k => k.1⟩
theorem to_hi {s : Stz} {n d : Int} {o : Bool} (h : SPos s) (hd : 0 < d) {p q : Int} (hq : 0 < q) :
  hiB (toZ s n d o).tn (toZ s n d o).td (toZ s n d o).ot p q ↔ hiB s.tn s.td s.ot p q ∧ hiB n d o p q := by
 unfold toZ
 split
 ·rename_i hc
  have hl : ltF n d s.tn s.td := by unfold cmpR at hc; have := cmpI_lt.1 hc; unfold ltF; omega
  exact ⟨fun k => ⟨.inl (leF_ltF hq hd h.t (hiB_le k) hl), k⟩, fun k => k.2⟩
 ·split
  ·rename_i h1 h2
   have he : eqF n d s.tn s.td := by
    unfold cmpR at h1 h2
    have : ¬ (n * s.td < s.tn * d) := fun k => h1 (cmpI_lt.2 k)
    have : ¬ (s.tn * d < n * s.td) := fun k => by have := cmpI_gt.2 k; omega
    unfold eqF; omega
   obtain ⟨e1, e2⟩ := eqF_iff.1 he
   have hlt : ltF p q n d ↔ ltF p q s.tn s.td := ⟨fun k => ltF_leF hq hd h.t k e1, fun k => ltF_leF hq h.t hd k e2⟩
   have heq : eqF p q n d ↔ eqF p q s.tn s.td := by
    rw [eqF_iff, eqF_iff]
    exact ⟨fun k => ⟨leF_trans hq hd h.t k.1 e1, leF_trans h.t hd hq e2 k.2⟩, fun k => ⟨leF_trans hq h.t hd k.1 e2, leF_trans hd h.t hq e1 k.2⟩⟩
   unfold hiB
   rw [hlt, heq]
   simp only [Bool.or_eq_false_iff]
   constructor
   ·rintro (k | ⟨k, ko, kp⟩)
    ·exact ⟨.inl k, .inl k⟩
    ·exact ⟨.inr ⟨k, ko⟩, .inr ⟨k, kp⟩⟩
   ·rintro ⟨k | ⟨k, ko⟩, l | ⟨l, lo⟩⟩
    ·exact .inl k
    ·exact .inl k
    ·exact .inl l
    ·exact .inr ⟨k, ko, lo⟩
  ·rename_i h1 h2
   have hl : ltF s.tn s.td n d := by
    unfold cmpR at h1 h2
    have a1 : ¬ (n * s.td < s.tn * d) := fun k => h1 (cmpI_lt.2 k)
    have a2 : ¬ (n * s.td = s.tn * d) := fun k => h2 (by unfold cmpI; rw [if_neg (by omega), if_pos k])
    unfold ltF; omega
   exact ⟨fun k => ⟨k, .inl (leF_ltF hq h.t hd (hiB_le k) hl)⟩, fun k => k.1⟩
theorem from_t (s : Stz) (n d : Int) (o : Bool) : (fromZ s n d o).tn = s.tn ∧ (fromZ s n d o).td = s.td ∧ (fromZ s n d o).ot = s.ot := by
 unfold fromZ; split
 ·exact ⟨rfl, rfl, rfl⟩
 ·split <;> exact ⟨rfl, rfl, rfl⟩
theorem to_f (s : Stz) (n d : Int) (o : Bool) : (toZ s n d o).fn = s.fn ∧ (toZ s n d o).fd = s.fd ∧ (toZ s n d o).op = s.op := by
 unfold toZ; split
 ·exact ⟨rfl, rfl, rfl⟩
 ·split <;> exact ⟨rfl, rfl, rfl⟩
theorem mem_fromto {s : Stz} {n d n' d' : Int} {o o' : Bool} (h : SPos s) (hd : 0 < d) (hd' : 0 < d') {p q : Int} (hq : 0 < q) :
  Mem (toZ (fromZ s n d o) n' d' o') p q ↔ Mem s p q ∧ loB n d o p q ∧ hiB n' d' o' p q := by
 unfold Mem
 obtain ⟨a1, a2, a3⟩ := to_f (fromZ s n d o) n' d' o'
 obtain ⟨b1, b2, b3⟩ := from_t s n d o
 rw [a1, a2, a3, from_lo h hd hq, to_hi (from_pos h hd) hd' hq, b1, b2, b3]
 exact ⟨fun ⟨⟨x, y⟩, z, u⟩ => ⟨⟨x, z⟩, y, u⟩, fun ⟨⟨x, z⟩, y, u⟩ => ⟨⟨x, y⟩, z, u⟩⟩
def InB (a way low high p q : Int) : Prop := low * q ≤ 2 * (a * q + way * p) ∧ 2 * (a * q + way * p) < high * q
theorem band_pos' {s : Stz} {a way low high : Int} (h : SPos s) : SPos (bandZ s a way low high).1 := by
 unfold bandZ
 split
 ·exact to_pos (from_pos h (by omega)) (by omega)
 ·split
  ·exact to_pos (from_pos h (by omega)) (by omega)
  ·exact h
theorem band_mem {s : Stz} {a way low high : Int} (h : SPos s) {p q : Int} (hq : 0 < q) :
  (Mem s p q ∧ InB a way low high p q) ↔ ((bandZ s a way low high).2 = true ∧ Mem (bandZ s a way low high).1 p q) := by
 have e1 : (low - 2 * a) * q = low * q - 2 * (a * q) := by rw [Int.sub_mul, Int.mul_assoc]
 have e2 : (high - 2 * a) * q = high * q - 2 * (a * q) := by rw [Int.sub_mul, Int.mul_assoc]
 have e3 : (2 * a - low) * q = 2 * (a * q) - low * q := by rw [Int.sub_mul, Int.mul_assoc]
 have e4 : (2 * a - high) * q = 2 * (a * q) - high * q := by rw [Int.sub_mul, Int.mul_assoc]
 have e5 : p * (2 * way) = 2 * (way * p) := by rw [Int.mul_left_comm, Int.mul_comm p way]
 have e6 : p * (-(2 * way)) = -(2 * (way * p)) := by rw [Int.mul_neg, e5]
 unfold bandZ
 split
 ·rename_i hw
  simp only [true_and]
  rw [mem_fromto h (by omega) (by omega) hq]
  have : (loB (low - 2 * a) (2 * way) false p q ∧ hiB (high - 2 * a) (2 * way) true p q) ↔ InB a way low high p q := by
   unfold loB hiB InB ltF eqF
   rw [e1, e2, e5]
   simp only [and_true, Bool.true_eq_false, and_false, or_false]
   omega
  rw [this]
 ·split
  ·rename_i hw
   simp only [true_and]
   rw [mem_fromto h (by omega) (by omega) hq]
   have : (loB (2 * a - high) (-(2 * way)) true p q ∧ hiB (2 * a - low) (-(2 * way)) false p q) ↔ InB a way low high p q := by
    unfold loB hiB InB ltF eqF
    rw [e3, e4, e6]
    simp only [and_true, Bool.true_eq_false, and_false, or_false]
    omega
   rw [this]
  ·rename_i h1 h2
   have hw : way = 0 := by omega
   subst hw
   have : (decide (low ≤ 2 * a) && decide (2 * a < high)) = true ↔ InB a 0 low high p q := by
    unfold InB
    rw [Bool.and_eq_true, decide_eq_true_eq, decide_eq_true_eq, Int.zero_mul, Int.add_zero, ← Int.mul_assoc]
    exact ⟨fun ⟨x, y⟩ => ⟨Int.mul_le_mul_of_nonneg_right x (by omega), Int.mul_lt_mul_of_pos_right y hq⟩, fun ⟨x, y⟩ => ⟨Int.le_of_mul_le_mul_right x hq, Int.lt_of_mul_lt_mul_right y (by omega)⟩⟩
   rw [← this]
   exact ⟨fun ⟨x, y⟩ => ⟨y, x⟩, fun ⟨x, y⟩ => ⟨y, x⟩⟩
def InC (a b c d cx cy size p q : Int) : Prop := (0 ≤ p ∧ p ≤ q) ∧ InB a (c - a) (2 * cx * size - size) (2 * cx * size + size) p q ∧ InB b (d - b) (2 * cy * size - size) (2 * cy * size + size) p q
theorem whole_mem {p q : Int} : Mem whole p q ↔ 0 ≤ p ∧ p ≤ q := by
 unfold Mem whole loB hiB ltF eqF
 simp only [and_true, Int.zero_mul, Int.mul_one, Int.one_mul]
 omega
theorem mem_some {s : Stz} {p q : Int} (h : SPos s) (hq : 0 < q) (hm : Mem s p q) : someZ s = true := by
 have h1 := leF_trans h.f hq h.t (loB_le hm.1) (hiB_le hm.2)
 unfold someZ
 rw [Bool.or_eq_true, Bool.and_eq_true, Bool.and_eq_true, decide_eq_true_eq, decide_eq_true_eq, Bool.not_eq_true', Bool.not_eq_true']
 by_cases h2 : leF s.tn s.td s.fn s.fd
 ·refine .inr ⟨?_, ?_, ?_⟩
  ·unfold cmpR cmpI
   unfold leF at h1 h2
   rw [if_neg (by omega), if_pos (by omega)]
  ·rcases hm.1 with k | ⟨_, k⟩
   ·exact absurd h2 (ltF_le.1 (ltF_leF h.f hq h.t k (hiB_le hm.2)))
   ·exact k
  ·rcases hm.2 with k | ⟨_, k⟩
   ·exact absurd h2 (ltF_le.1 (leF_ltF h.f hq h.t (loB_le hm.1) k))
   ·exact k
 ·left
  unfold cmpR
  rw [cmpI_lt]
  unfold leF at h2
  omega
theorem cutZ_some {a b c d cx cy size : Int} {z : Stz} (hz : cutZ a b c d cx cy size = some z) : SPos z ∧ someZ z = true ∧ ∀ p q : Int, 0 < q → (InC a b c d cx cy size p q ↔ Mem z p q) := by
 have hw : SPos whole := ⟨by decide, by decide⟩
 unfold cutZ at hz
 split at hz
 ·rename_i h1
  split at hz
  ·rename_i h2
   split at hz
   ·rename_i h3
    cases hz
    refine ⟨band_pos' (band_pos' hw), h3, fun p q hq => ?_⟩
    unfold InC
    rw [← whole_mem (p := p) (q := q), ← and_assoc, band_mem hw hq]
    rw [h1, eq_self, true_and, band_mem (band_pos' hw) hq, h2, eq_self, true_and]
   ·cases hz
  ·cases hz
 ·cases hz
theorem cutZ_none {a b c d cx cy size : Int} (hz : cutZ a b c d cx cy size = none) (p q : Int) (hq : 0 < q) : ¬ InC a b c d cx cy size p q := by
 have hw : SPos whole := ⟨by decide, by decide⟩
 intro h
 unfold InC at h
 rw [← whole_mem (p := p) (q := q), ← and_assoc, band_mem hw hq] at h
 obtain ⟨⟨h1, hm⟩, hi⟩ := h
 obtain ⟨h2, hm2⟩ := (band_mem (band_pos' hw) hq).1 ⟨hm, hi⟩
 have h3 := mem_some (band_pos' (band_pos' hw)) hq hm2
 unfold cutZ at hz
 rw [if_pos h1, if_pos h2, if_pos h3] at hz
 cases hz
end Go.Wd
namespace Go.Wd
open Go
theorem ltF_trans {n1 d1 n2 d2 n3 d3 : Int} (h1 : 0 < d1) (h2 : 0 < d2) (h3 : 0 < d3) (a : ltF n1 d1 n2 d2) (b : ltF n2 d2 n3 d3) : ltF n1 d1 n3 d3 :=
 ltF_leF h1 h2 h3 a (by unfold ltF at b; unfold leF; omega)
theorem hiB_down {n d : Int} {o : Bool} {p q p' q' : Int} (hd : 0 < d) (hq : 0 < q) (hq' : 0 < q') (h : hiB n d o p q) (k : ltF p' q' p q) : hiB n d o p' q' :=
 .inl (ltF_leF hq' hq hd k (hiB_le h))
theorem loB_eq {n d : Int} {o : Bool} {p q p' q' : Int} (hd : 0 < d) (hq : 0 < q) (hq' : 0 < q') (h : loB n d o p q) (k : eqF p q p' q') : loB n d o p' q' := by
 obtain ⟨k1, k2⟩ := eqF_iff.1 k
 rcases h with h | ⟨h, ho⟩
 ·exact .inl (ltF_leF hd hq hq' h k1)
 ·obtain ⟨h1, h2⟩ := eqF_iff.1 h
  exact .inr ⟨eqF_iff.2 ⟨leF_trans hd hq hq' h1 k1, leF_trans hq' hq hd k2 h2⟩, ho⟩
theorem hiB_eq {n d : Int} {o : Bool} {p q p' q' : Int} (hd : 0 < d) (hq : 0 < q) (hq' : 0 < q') (h : hiB n d o p q) (k : eqF p q p' q') : hiB n d o p' q' := by
 obtain ⟨k1, k2⟩ := eqF_iff.1 k
 rcases h with h | ⟨h, ho⟩
 ·exact .inl (leF_ltF hq' hq hd k2 h)
 ·obtain ⟨h1, h2⟩ := eqF_iff.1 h
  exact .inr ⟨eqF_iff.2 ⟨leF_trans hq' hq hd k2 h1, leF_trans hd hq hq' h2 k1⟩, ho⟩
theorem mem_eq {s : Stz} (h : SPos s) {p q p' q' : Int} (hq : 0 < q) (hq' : 0 < q') (hm : Mem s p q) (k : eqF p q p' q') : Mem s p' q' :=
 ⟨loB_eq h.f hq hq' hm.1 k, hiB_eq h.t hq hq' hm.2 k⟩
theorem tri (p q p' q' : Int) : ltF p q p' q' ∨ eqF p q p' q' ∨ ltF p' q' p q := by unfold ltF eqF; omega
theorem mem_ex {s : Stz} (h : SPos s) (hs : someZ s = true) : ∃ p q : Int, 0 < q ∧ Mem s p q := by
 unfold someZ at hs
 rw [Bool.or_eq_true, Bool.and_eq_true, Bool.and_eq_true, decide_eq_true_eq, decide_eq_true_eq, Bool.not_eq_true', Bool.not_eq_true'] at hs
 have hf := h.f
 have ht := h.t
 rcases hs with hl | ⟨he, ho, ht'⟩
 ·unfold cmpR at hl
  rw [cmpI_lt] at hl
  refine ⟨s.fn * s.td + s.tn * s.fd, 2 * (s.fd * s.td), by have := Int.mul_pos hf ht; omega, .inl ?_, .inl ?_⟩
  ·unfold ltF
   have e : (s.fn * s.td + s.tn * s.fd) * s.fd = s.fn * s.td * s.fd + s.tn * s.fd * s.fd := Int.add_mul _ _ _
   have e2 : s.fn * (2 * (s.fd * s.td)) = 2 * (s.fn * s.td * s.fd) := by
    have : s.fn * (s.fd * s.td) = s.fn * s.td * s.fd := by ac_rfl
    rw [Int.mul_left_comm, this]
   have e3 := Int.mul_lt_mul_of_pos_right hl hf
   omega
  ·unfold ltF
   have e : (s.fn * s.td + s.tn * s.fd) * s.td = s.fn * s.td * s.td + s.tn * s.fd * s.td := Int.add_mul _ _ _
   have e2 : s.tn * (2 * (s.fd * s.td)) = 2 * (s.tn * s.fd * s.td) := by
    have : s.tn * (s.fd * s.td) = s.tn * s.fd * s.td := by ac_rfl
    rw [Int.mul_left_comm, this]
   have e3 := Int.mul_lt_mul_of_pos_right hl ht
   omega
 ·have he' : s.fn * s.td = s.tn * s.fd := by
   unfold cmpR cmpI at he
   split at he
   ·cases he
   ·split at he
    ·assumption
    ·cases he
  exact ⟨s.fn, s.fd, hf, .inr ⟨rfl, ho⟩, .inr ⟨by unfold eqF; omega, ht'⟩⟩
theorem ahead_lo {s t : Stz} (hs : SPos s) (ht : SPos t) (h : 0 ≤ aheadZ s t) {p q : Int} (hq : 0 < q) (hl : loB s.fn s.fd s.op p q) : loB t.fn t.fd t.op p q := by
 unfold aheadZ at h
 split at h
 ·rename_i hc
  have hlt : ltF t.fn t.fd s.fn s.fd := by
   unfold cmpR at hc h
   have a1 : ¬ (s.fn * t.fd < t.fn * s.fd) := fun k => by have := cmpI_lt.2 k; omega
   have a2 : ¬ (s.fn * t.fd = t.fn * s.fd) := fun k => hc (by unfold cmpI; rw [if_neg (by omega), if_pos k])
   unfold ltF; omega
  exact .inl (ltF_leF ht.f hs.f hq hlt (loB_le hl))
 ·rename_i hc
  have he : eqF t.fn t.fd s.fn s.fd := by
   have hc' : cmpR s.fn s.fd t.fn t.fd = 0 := Decidable.not_not.1 hc
   unfold cmpR cmpI at hc'
   split at hc'
   ·cases hc'
   ·split at hc'
    ·rename_i k; unfold eqF; omega
    ·cases hc'
  obtain ⟨e1, e2⟩ := eqF_iff.1 he
  rcases hl with k | ⟨k, ko⟩
  ·exact .inl (leF_ltF ht.f hs.f hq e1 k)
  ·obtain ⟨k1, k2⟩ := eqF_iff.1 k
   refine .inr ⟨eqF_iff.2 ⟨leF_trans ht.f hs.f hq e1 k1, leF_trans hq hs.f ht.f k2 e2⟩, ?_⟩
   split at h
   ·rename_i ho; rw [← ho]; exact ko
   ·split at h
    ·cases h
    ·rename_i h2; simpa using h2
theorem ahead_neg (s t : Stz) : aheadZ t s = - aheadZ s t := by
 have e : cmpR t.fn t.fd s.fn s.fd = - cmpR s.fn s.fd t.fn t.fd := by
  unfold cmpR cmpI
  split <;> split <;> (try split) <;> (try split) <;> omega
 unfold aheadZ
 rw [e]
 by_cases h : cmpR s.fn s.fd t.fn t.fd = 0
 ·rw [h]
  cases s.op <;> cases t.op <;> rfl
 ·rw [if_pos (by omega), if_pos h]
def Apart (s t : Stz) : Prop := ∀ p q : Int, 0 < q → ¬ (Mem s p q ∧ Mem t p q)
theorem ahead_of {s t : Stz} (hs : SPos s) (ht : SPos t) (ha : Apart s t) {p q p' q' : Int} (hq : 0 < q) (hq' : 0 < q') (h1 : Mem s p q) (h2 : Mem t p' q') (hl : ltF p q p' q') : aheadZ s t < 0 := by
 rcases Int.lt_or_le (aheadZ s t) 0 with h | h
 ·exact h
 ·exact absurd ⟨h1, ahead_lo hs ht h hq h1.1, hiB_down ht.t hq' hq h2.2 hl⟩ (ha p q hq)
theorem ahead_iff {s t : Stz} (hs : SPos s) (ht : SPos t) (ha : Apart s t) {p q p' q' : Int} (hq : 0 < q) (hq' : 0 < q') (h1 : Mem s p q) (h2 : Mem t p' q') : (aheadZ s t < 0 ↔ ltF p q p' q') ∧ (0 < aheadZ s t ↔ ltF p' q' p q) := by
 rcases tri p q p' q' with h | h | h
 ·have k := ahead_of hs ht ha hq hq' h1 h2 h
  exact ⟨⟨fun _ => h, fun _ => k⟩, ⟨fun k' => by omega, fun k' => by unfold ltF at *; omega⟩⟩
 ·exact absurd ⟨mem_eq hs hq hq' h1 h, h2⟩ (ha p' q' hq')
 ·have k := ahead_of ht hs (fun p q hq h => ha p q hq ⟨h.2, h.1⟩) hq' hq h2 h1 h
  rw [ahead_neg] at k
  exact ⟨⟨fun k' => by omega, fun k' => by unfold ltF at *; omega⟩, ⟨fun _ => h, fun _ => by omega⟩⟩
theorem row_one {c1 c2 size u q : Int} (hs : 1 ≤ size) (hq : 0 < q) (h1 : (2 * c1 * size - size) * q ≤ u) (h2 : u < (2 * c1 * size + size) * q) (h3 : (2 * c2 * size - size) * q ≤ u) (h4 : u < (2 * c2 * size + size) * q) : c1 = c2 := by
 have a1 : 2 * c1 * size - size < 2 * c2 * size + size := Int.lt_of_mul_lt_mul_right (by omega : (2 * c1 * size - size) * q < (2 * c2 * size + size) * q) (by omega)
 have a2 : 2 * c2 * size - size < 2 * c1 * size + size := Int.lt_of_mul_lt_mul_right (by omega : (2 * c2 * size - size) * q < (2 * c1 * size + size) * q) (by omega)
 have b1 : (2 * c1 - 1) * size < (2 * c2 + 1) * size := by rw [Int.sub_mul, Int.add_mul]; omega
 have b2 : (2 * c2 - 1) * size < (2 * c1 + 1) * size := by rw [Int.sub_mul, Int.add_mul]; omega
 have d1 := Int.lt_of_mul_lt_mul_right b1 (by omega)
 have d2 := Int.lt_of_mul_lt_mul_right b2 (by omega)
 omega
theorem inC_one {a b c d x y x' y' size p q : Int} (hs : 1 ≤ size) (hq : 0 < q) (h : InC a b c d x y size p q) (h' : InC a b c d x' y' size p q) : x = x' ∧ y = y' := by
 obtain ⟨_, ⟨a1, a2⟩, b1, b2⟩ := h
 obtain ⟨_, ⟨a3, a4⟩, b3, b4⟩ := h'
 exact ⟨row_one hs hq a1 a2 a3 a4, row_one hs hq b1 b2 b3 b4⟩
end Go.Wd
namespace Go.Wd
open Go
theorem way_ge {a c m p q : Int} (h1 : m ≤ a) (h2 : m ≤ c) (hp : 0 ≤ p) (hq : p ≤ q) : m * q ≤ a * q + (c - a) * p := by
 have e : a * q + (c - a) * p = a * (q - p) + c * p := by rw [Int.sub_mul, Int.mul_sub]; omega
 have e2 : m * q = m * (q - p) + m * p := by rw [Int.mul_sub]; omega
 have k1 := Int.mul_le_mul_of_nonneg_right h1 (show 0 ≤ q - p by omega)
 have k2 := Int.mul_le_mul_of_nonneg_right h2 hp
 omega
theorem way_le {a c m p q : Int} (h1 : a ≤ m) (h2 : c ≤ m) (hp : 0 ≤ p) (hq : p ≤ q) : a * q + (c - a) * p ≤ m * q := by
 have e : a * q + (c - a) * p = a * (q - p) + c * p := by rw [Int.sub_mul, Int.mul_sub]; omega
 have e2 : m * q = m * (q - p) + m * p := by rw [Int.mul_sub]; omega
 have k1 := Int.mul_le_mul_of_nonneg_right h1 (show 0 ≤ q - p by omega)
 have k2 := Int.mul_le_mul_of_nonneg_right h2 hp
 omega
theorem cell_low {n k size : Int} (hs : 1 ≤ size) (h : 2 * k * size - size ≤ 2 * n) : k ≤ cellZ n 1 size := by
 unfold cellZ
 rw [Int.le_ediv_iff_mul_le (by omega)]
 have e : k * (1 * size + 1 * size) = 2 * k * size := by rw [Int.one_mul, Int.mul_add, Int.mul_assoc, Int.two_mul]
 omega
theorem cell_high {n k size : Int} (hs : 1 ≤ size) (h : 2 * n < 2 * k * size + size) : cellZ n 1 size ≤ k := by
 unfold cellZ
 have : (n + n + 1 * size) / (1 * size + 1 * size) < k + 1 := by
  rw [Int.ediv_lt_iff_lt_mul (by omega)]
  have e : (k + 1) * (1 * size + 1 * size) = 2 * k * size + 2 * size := by rw [Int.one_mul, Int.mul_add, Int.add_mul, Int.mul_assoc 2 k size, Int.two_mul]; omega
  omega
 omega
theorem cell_box {a c k size p q : Int} (hs : 1 ≤ size) (hq : 0 < q) (hp : 0 ≤ p) (hpq : p ≤ q) (h : InB a (c - a) (2 * k * size - size) (2 * k * size + size) p q) :
  min (cellZ a 1 size) (cellZ c 1 size) ≤ k ∧ k ≤ max (cellZ a 1 size) (cellZ c 1 size) := by
 obtain ⟨h1, h2⟩ := h
 constructor
 ·rcases Int.le_total a c with hac | hac
  ·have := way_ge (m := a) (Int.le_refl _) hac hp hpq
   have k1 : 2 * a < 2 * k * size + size := Int.lt_of_mul_lt_mul_right (show 2 * a * q < (2 * k * size + size) * q by rw [Int.mul_assoc 2 a q]; omega) (by omega)
   have := cell_high hs k1
   omega
  ·have := way_ge (m := c) hac (Int.le_refl _) hp hpq
   have k1 : 2 * c < 2 * k * size + size := Int.lt_of_mul_lt_mul_right (show 2 * c * q < (2 * k * size + size) * q by rw [Int.mul_assoc 2 c q]; omega) (by omega)
   have := cell_high hs k1
   omega
 ·rcases Int.le_total a c with hac | hac
  ·have := way_le (m := c) hac (Int.le_refl _) hp hpq
   have k1 : 2 * k * size - size ≤ 2 * c := Int.le_of_mul_le_mul_right (show (2 * k * size - size) * q ≤ 2 * c * q by rw [Int.mul_assoc 2 c q]; omega) hq
   have := cell_low hs k1
   omega
  ·have := way_le (m := a) (Int.le_refl _) hac hp hpq
   have k1 : 2 * k * size - size ≤ 2 * a := Int.le_of_mul_le_mul_right (show (2 * k * size - size) * q ≤ 2 * a * q by rw [Int.mul_assoc 2 a q]; omega) hq
   have := cell_low hs k1
   omega
theorem inC_box {a b c d x y size p q : Int} (hs : 1 ≤ size) (hq : 0 < q) (h : InC a b c d x y size p q) :
  (min (cellZ a 1 size) (cellZ c 1 size) ≤ x ∧ x ≤ max (cellZ a 1 size) (cellZ c 1 size)) ∧ min (cellZ b 1 size) (cellZ d 1 size) ≤ y ∧ y ≤ max (cellZ b 1 size) (cellZ d 1 size) :=
 ⟨cell_box hs hq h.1.1 h.1.2 h.2.1, cell_box hs hq h.1.1 h.1.2 h.2.2⟩
end Go.Wd
namespace Go.Proofs.YthbplhglfjlngaaGreat
open Go.RowKit Go.Rg Go.Wd Go.Mg
theorem not_ltF {n d n' d' : Int} : ¬ ltF n d n' d' ↔ leF n' d' n d := by unfold ltF leF; omega
section
variable {a b c d size : Int}
def MetP (a b c d size : Int) (x : (Int × Int) × Stz) : Prop := cutZ a b c d x.1.1 x.1.2 size = some x.2
theorem MetP.eq {x y : (Int × Int) × Stz} (hx : MetP a b c d size x) (hy : MetP a b c d size y) (h : x.1 = y.1) : x = y := by
 unfold MetP at hx hy
 rw [h] at hx
 have := Option.some.inj (hx.symm.trans hy)
 exact Prod.ext h this
theorem MetP.apart {x y : (Int × Int) × Stz} (hs : 1 ≤ size) (hx : MetP a b c d size x) (hy : MetP a b c d size y) (h : x.1 ≠ y.1) : Apart x.2 y.2 := by
 intro p q hq hm
 have k1 := ((cutZ_some hx).2.2 p q hq).2 hm.1
 have k2 := ((cutZ_some hy).2.2 p q hq).2 hm.2
 obtain ⟨e1, e2⟩ := inC_one hs hq k1 k2
 exact h (Prod.ext e1 e2)
theorem MetP.iff {x y : (Int × Int) × Stz} (hs : 1 ≤ size) (hx : MetP a b c d size x) (hy : MetP a b c d size y) (h : x.1 ≠ y.1) {p q p' q' : Int} (hq : 0 < q) (hq' : 0 < q') (h1 : Mem x.2 p q) (h2 : Mem y.2 p' q') :
  (aheadZ x.2 y.2 < 0 ↔ ltF p q p' q') ∧ (0 < aheadZ x.2 y.2 ↔ ltF p' q' p q) :=
 ahead_iff (cutZ_some hx).1 (cutZ_some hy).1 (hx.apart hs hy h) hq hq' h1 h2
theorem MetP.pt {x : (Int × Int) × Stz} (hx : MetP a b c d size x) : ∃ p q : Int, 0 < q ∧ Mem x.2 p q := mem_ex (cutZ_some hx).1 (cutZ_some hx).2.1
theorem ahead_self (z : Stz) : aheadZ z z = 0 := by have := ahead_neg z z; omega
def leM (x y : (Int × Int) × Stz) : Bool := !decide (aheadZ y.2 x.2 < 0)
theorem leM_iff {x y : (Int × Int) × Stz} : leM x y = true ↔ ¬ aheadZ y.2 x.2 < 0 := by unfold leM; simp
theorem leM_total (x y : (Int × Int) × Stz) : leM x y = true ∨ leM y x = true := by
 rw [leM_iff, leM_iff, ahead_neg x.2 y.2]; omega
theorem leM_trans (hs : 1 ≤ size) {x y z : (Int × Int) × Stz} (hx : MetP a b c d size x) (hy : MetP a b c d size y) (hz : MetP a b c d size z) (h1 : leM x y = true) (h2 : leM y z = true) : leM x z = true := by
 by_cases e1 : x.1 = y.1
 ·rw [hx.eq hy e1]; exact h2
 by_cases e2 : y.1 = z.1
 ·rw [← hy.eq hz e2]; exact h1
 by_cases e3 : x.1 = z.1
 ·rw [hx.eq hz e3, leM_iff, ahead_self]; omega
 obtain ⟨p1, q1, k1, m1⟩ := hx.pt
 obtain ⟨p2, q2, k2, m2⟩ := hy.pt
 obtain ⟨p3, q3, k3, m3⟩ := hz.pt
 rw [leM_iff, (hy.iff hs hx (Ne.symm e1) k2 k1 m2 m1).1, not_ltF] at h1
 rw [leM_iff, (hz.iff hs hy (Ne.symm e2) k3 k2 m3 m2).1, not_ltF] at h2
 rw [leM_iff, (hz.iff hs hx (Ne.symm e3) k3 k1 m3 m1).1, ltF_le]
 exact fun k => k (leF_trans k1 k2 k3 h1 h2)
def Bef (a b c d size : Int) (p q : Int × Int) : Prop := ∃ s t, cutZ a b c d p.1 p.2 size = some s ∧ cutZ a b c d q.1 q.2 size = some t ∧ aheadZ s t < 0
theorem Bef.irr (p : Int × Int) : ¬ Bef a b c d size p p := by
 rintro ⟨s, t, h1, h2, h3⟩
 have := Option.some.inj (h1.symm.trans h2)
 subst this
 rw [ahead_self] at h3; omega
theorem Bef.asym (p q : Int × Int) (h : Bef a b c d size p q) : ¬ Bef a b c d size q p := by
 obtain ⟨s, t, h1, h2, h3⟩ := h
 rintro ⟨t', s', k1, k2, k3⟩
 have e1 := Option.some.inj (h1.symm.trans k2)
 have e2 := Option.some.inj (h2.symm.trans k1)
 subst e1; subst e2
 rw [ahead_neg] at k3; omega
theorem metOf_iff {p : Int × Int} {x : (Int × Int) × Stz} : metOf a b c d size p = some x ↔ x.1 = p ∧ MetP a b c d size x := by
 unfold metOf MetP
 rw [Option.map_eq_some_iff]
 constructor
 ·rintro ⟨s, h, rfl⟩; exact ⟨rfl, h⟩
 ·rintro ⟨rfl, h⟩; exact ⟨x.2, h, rfl⟩
theorem mem_mets {l : List (Int × Int)} {x : (Int × Int) × Stz} : x ∈ metsB a b c d size l ↔ x.1 ∈ l ∧ MetP a b c d size x := by
 unfold metsB
 rw [List.mem_filterMap]
 constructor
 ·rintro ⟨p, hp, h⟩
  obtain ⟨rfl, h2⟩ := metOf_iff.1 h
  exact ⟨hp, h2⟩
 ·rintro ⟨hp, h⟩; exact ⟨x.1, hp, metOf_iff.2 ⟨rfl, h⟩⟩
theorem mets_nodup : ∀ {l : List (Int × Int)}, l.Nodup → (metsB a b c d size l).Pairwise (fun x y => x.1 ≠ y.1)
 | [], _ => List.Pairwise.nil
 | p :: l, h => by
  obtain ⟨h1, h2⟩ := List.nodup_cons.1 h
  have ih := mets_nodup h2
  unfold metsB at ih ⊢
  rw [List.filterMap_cons]
  split
  ·exact ih
  ·rename_i x hx
   obtain ⟨rfl, _⟩ := metOf_iff.1 hx
   refine List.Pairwise.cons (fun y hy e => ?_) ih
   exact h1 (e ▸ (mem_mets.1 hy).1)
theorem ofB_mem (hs : 1 ≤ size) {rows : List (Int × List Int)} (hy : Rising (rows.map (·.1))) (hr : ∀ r ∈ rows, Rising r.2) {p : Int × Int} :
  p ∈ ofB a b c d size rows ↔ (∃ r ∈ rows, r.1 = p.2 ∧ p.1 ∈ r.2) ∧ ∃ z, cutZ a b c d p.1 p.2 size = some z := by
 unfold ofB
 rw [List.mem_map]
 have hm : ∀ x, x ∈ sortB (fun x y : (Int × Int) × Stz => !decide (aheadZ y.2 x.2 < 0)) (metsB a b c d size (nearS a b c d size rows)) ↔ x.1 ∈ nearS a b c d size rows ∧ MetP a b c d size x := fun x => by
  rw [(sortB_perm _ _).mem_iff, mem_mets]
 constructor
 ·rintro ⟨x, hx, rfl⟩
  obtain ⟨h1, h2⟩ := (hm x).1 hx
  unfold nearS at h1
  exact ⟨((mem_nearB hy hr).1 h1).1, x.2, h2⟩
 ·rintro ⟨h1, z, hz⟩
  obtain ⟨u, v, hv, hmem⟩ := mem_ex (cutZ_some hz).1 (cutZ_some hz).2.1
  have hb := inC_box hs hv (((cutZ_some hz).2.2 u v hv).2 hmem)
  refine ⟨(p, z), (hm _).2 ⟨?_, hz⟩, rfl⟩
  unfold nearS
  exact (mem_nearB hy hr).2 ⟨h1, hb.1.1, hb.1.2, hb.2.1, hb.2.2⟩
theorem ofB_sorted (hs : 1 ≤ size) {rows : List (Int × List Int)} (hn : (nearS a b c d size rows).Nodup) : (ofB a b c d size rows).Pairwise (Bef a b c d size) := by
 unfold ofB
 have hp : ∀ x ∈ metsB a b c d size (nearS a b c d size rows), MetP a b c d size x := fun x hx => (mem_mets.1 hx).2
 have h1 := sortB_sorted (le := leM) (P := MetP a b c d size) (fun x y z hx hy hz => leM_trans hs hx hy hz) (fun x y _ _ => leM_total x y) _ hp
 have h2 := ((sortB_perm leM (metsB a b c d size (nearS a b c d size rows))).pairwise_iff (R := fun x y => x.1 ≠ y.1) (fun h => Ne.symm h)).2 (mets_nodup hn)
 show ((sortB leM _).map _).Pairwise _
 rw [List.pairwise_map]
 refine (h1.and h2).imp_of_mem fun {x y} hx hy h => ?_
 have kx := hp x ((sortB_perm _ _).mem_iff.1 hx)
 have ky := hp y ((sortB_perm _ _).mem_iff.1 hy)
 obtain ⟨p1, q1, k1, m1⟩ := kx.pt
 obtain ⟨p2, q2, k2, m2⟩ := ky.pt
 have hle := leM_iff.1 h.1
 rw [(ky.iff hs kx (Ne.symm h.2) k2 k1 m2 m1).1] at hle
 refine ⟨x.2, y.2, kx, ky, (kx.iff hs ky h.2 k1 k2 m1 m2).1.2 ?_⟩
 rcases tri p1 q1 p2 q2 with t | t | t
 ·exact t
 ·exact absurd ⟨mem_eq (cutZ_some kx).1 k1 k2 m1 t, m2⟩ (kx.apart hs ky h.2 p2 q2 k2)
 ·exact absurd t hle
end
end Go.Proofs.YthbplhglfjlngaaGreat
namespace Go.Proofs.YthbplhglfjlngaaGreat
open Go.RowKit Go.Rg Go.Wd Go.Mg
theorem rising_of {l : List Int} (h : l.Pairwise (· < ·)) : Rising l := by
 intro i j x y hij hi hj
 obtain ⟨hi', rfl⟩ := List.getElem?_eq_some_iff.1 hi
 obtain ⟨hj', rfl⟩ := List.getElem?_eq_some_iff.1 hj
 rcases Nat.lt_or_ge i j with k | k
 ·exact Int.le_of_lt (List.pairwise_iff_getElem.1 h i j hi' hj' k)
 ·have : i = j := by omega
  subst this; exact Int.le_refl _
def rowsL (ps : List (Int × Int)) : List (Int × Int) := sortB (fun x y => !decide (rowO y x < 0)) (setC ps)
theorem rowsL_law (ps : List (Int × Int)) : (∀ p, p ∈ rowsL ps ↔ p ∈ ps) ∧ (rowsL ps).Pairwise LtR := by
 obtain ⟨c1, c2⟩ := setC_law ps
 have hle : ∀ x y, ((fun x y => !decide (rowO y x < 0)) x y = true) ↔ ¬ LtR y x := fun x y => by rw [Bool.not_eq_true', decide_eq_false_iff_not, rowO_neg]; rfl
 have hsort := sortB_sorted (le := fun x y => !decide (rowO y x < 0)) (P := fun _ => True) (fun x y z _ _ _ h1 h2 => by
   rw [hle] at h1 h2 ⊢; unfold LtR at *; omega)
  (fun x y _ _ => by rw [hle, hle]; unfold LtR; omega) (setC ps) (fun _ _ => trivial)
 have hne := ((sortB_perm (fun x y => !decide (rowO y x < 0)) (setC ps)).pairwise_iff (R := fun x y => x ≠ y) (fun h => Ne.symm h)).2 (c2.imp fun {x y} h e => by subst e; unfold LtP at h; omega)
 refine ⟨fun p => by unfold rowsL; rw [(sortB_perm _ _).mem_iff]; exact c1 p, ?_⟩
 unfold rowsL
 refine (hsort.and hne).imp fun {x y} h => ?_
 have h1 := (hle x y).1 h.1
 have h2 : ¬ (x.1 = y.1 ∧ x.2 = y.2) := fun e => h.2 (Prod.ext e.1 e.2)
 unfold LtR at *; omega
theorem setG_law (ps : List (Int × Int)) : (setG ps).Pairwise (fun g h => ∀ u ∈ g, ∀ v ∈ h, u.2 < v.2) ∧ (∀ g ∈ setG ps, g ≠ [] ∧ ∀ u ∈ g, ∀ v ∈ g, u.2 = v.2) ∧ (setG ps).flatten = rowsL ps := by
 obtain ⟨k1, k2⟩ := grpB_keys (sm := fun p q : Int × Int => p.2 == q.2) (κ := fun p : Int × Int => p.2) (R := LtR) (S := fun x y => x < y)
  (fun x y => by rw [beq_iff_eq]) (fun x y h => by unfold LtR at h; omega) (fun x y z h1 h2 => by omega) (rowsL_law ps).2
 exact ⟨k1, k2, grpB_join _ _⟩
theorem headD_mem {α : Type} {g : List α} (h : g ≠ []) (z : α) : g.headD z ∈ g := by cases g with | nil => exact absurd rfl h | cons x r => exact List.mem_cons_self ..
theorem setR_strict (ps : List (Int × Int)) : ((setR ps).map (·.1)).Pairwise (· < ·) ∧ ∀ r ∈ setR ps, r.2.Pairwise (· < ·) := by
 obtain ⟨k1, k2, k3⟩ := setG_law ps
 constructor
 ·unfold setR
  rw [List.map_map, List.pairwise_map]
  exact k1.imp_of_mem fun {g h} hg hh k => k _ (headD_mem (k2 g hg).1 _) _ (headD_mem (k2 h hh).1 _)
 ·intro r hr
  unfold setR at hr
  obtain ⟨g, hg, rfl⟩ := List.mem_map.1 hr
  show (g.map (·.1)).Pairwise _
  rw [List.pairwise_map]
  have hp := (rowsL_law ps).2
  rw [← k3, List.pairwise_flatten] at hp
  exact (hp.1 g hg).imp_of_mem fun {u v} hu hv h => by have := (k2 g hg).2 u hu v hv; unfold LtR at h; omega
theorem setR_rising (ps : List (Int × Int)) : Rising ((setR ps).map (·.1)) ∧ ∀ r ∈ setR ps, Rising r.2 :=
 ⟨rising_of (setR_strict ps).1, fun r hr => rising_of ((setR_strict ps).2 r hr)⟩
theorem setR_mem (ps : List (Int × Int)) (p : Int × Int) : (∃ r ∈ setR ps, r.1 = p.2 ∧ p.1 ∈ r.2) ↔ p ∈ ps := by
 obtain ⟨k1, k2, k3⟩ := setG_law ps
 rw [← (rowsL_law ps).1 p, ← k3, List.mem_flatten]
 unfold setR
 constructor
 ·rintro ⟨r, hr, h1, h2⟩
  obtain ⟨g, hg, rfl⟩ := List.mem_map.1 hr
  obtain ⟨u, hu, h3⟩ := List.mem_map.1 (show p.1 ∈ g.map (·.1) from h2)
  have h4 := (k2 g hg).2 _ hu _ (headD_mem (k2 g hg).1 (0, 0))
  have e : u = p := Prod.ext h3 (h4.trans h1)
  exact ⟨g, hg, e ▸ hu⟩
 ·rintro ⟨g, hg, hp⟩
  exact ⟨rowOf g, List.mem_map_of_mem hg, (k2 g hg).2 _ (headD_mem (k2 g hg).1 (0, 0)) _ hp, List.mem_map_of_mem hp⟩
theorem nearB_nodup {rows : List (Int × List Int)} (h1 : (rows.map (·.1)).Pairwise (· < ·)) (h2 : ∀ r ∈ rows, r.2.Pairwise (· < ·)) (lx ly hx hy : Int) : (nearB rows lx ly hx hy).Nodup := by
 unfold nearB nearRest
 have hsub : (List.takeWhile (fun r : Int × List Int => decide (r.1 ≤ hy)) (rows.drop (lowB (rows.map (·.1)) ly))).Sublist rows := (List.takeWhile_sublist _).trans (List.drop_sublist _ _)
 unfold List.Nodup
 rw [List.pairwise_flatMap]
 rw [List.pairwise_map] at h1
 constructor
 ·intro r hr
  unfold rowNear inR
  rw [List.pairwise_map]
  exact ((h2 r (hsub.subset hr)).sublist ((List.takeWhile_sublist _).trans (List.drop_sublist _ _))).imp fun {x y} h e => by have := congrArg Prod.fst e; simp at this; omega
 ·refine (h1.sublist hsub).imp fun {r s} h => ?_
  intro u hu v hv e
  unfold rowNear inR at hu hv
  obtain ⟨x, _, rfl⟩ := List.mem_map.1 hu
  obtain ⟨y, _, rfl⟩ := List.mem_map.1 hv
  have := congrArg Prod.snd e
  simp at this; omega
theorem ofS_law (a b c d size : Int) (hs : 1 ≤ size) (ps : List (Int × Int)) : (∀ p, p ∈ ofB a b c d size (setR ps) ↔ p ∈ ps ∧ ∃ z, cutZ a b c d p.1 p.2 size = some z) ∧ (ofB a b c d size (setR ps)).Pairwise (Bef a b c d size) := by
 obtain ⟨r1, r2⟩ := setR_rising ps
 refine ⟨fun p => by rw [ofB_mem hs r1 r2, setR_mem], ofB_sorted hs ?_⟩
 unfold nearS
 exact nearB_nodup (setR_strict ps).1 (setR_strict ps).2 _ _ _ _
end Go.Proofs.YthbplhglfjlngaaGreat
namespace Go.Proofs.YthbplhglfjlngaaGreat
open Go.RowKit Go.Rg Go.Wd Go.Mg
structure DStr where
 n : Int
 d : Int
 o : Bool
def dAhead (s t : DStr) : Bool := decide (cmpR s.n s.d t.n t.d < 0) || (decide (cmpR s.n s.d t.n t.d = 0) && (!s.o && t.o))
def insD (l : List ((Int × Int) × DStr)) (x : (Int × Int) × DStr) : List ((Int × Int) × DStr) :=
 l.takeWhile (fun e => !dAhead x.2 e.2) ++ x :: l.dropWhile (fun e => !dAhead x.2 e.2)
def dOf (cut : (Int × Int) → Option DStr) (l : List ((Int × Int) × DStr)) : List (Int × Int) → List ((Int × Int) × DStr)
 | [] => l
 | p :: ps => dOf cut (match cut p with | some s => insD l (p, s) | none => l) ps
section
variable {a b c d size : Int}
def DRight (a b c d size : Int) (x : (Int × Int) × DStr) : Prop := ∃ z, cutZ a b c d x.1.1 x.1.2 size = some z ∧ 0 < x.2.d ∧ eqF x.2.n x.2.d z.fn z.fd ∧ x.2.o = z.op
theorem cmp_eqF {n d n' d' m e m' e' : Int} (h1 : 0 < d) (h2 : 0 < d') (h3 : 0 < e) (h4 : 0 < e') (ha : eqF n d n' d') (hb : eqF m e m' e') : cmpR n d m e = cmpR n' d' m' e' := by
 obtain ⟨a1, a2⟩ := eqF_iff.1 ha
 obtain ⟨b1, b2⟩ := eqF_iff.1 hb
 have k1 : leF n d m e ↔ leF n' d' m' e' := ⟨fun k => leF_trans h2 h1 h4 a2 (leF_trans h1 h3 h4 k b1), fun k => leF_trans h1 h2 h3 a1 (leF_trans h2 h4 h3 k b2)⟩
 have k2 : leF m e n d ↔ leF m' e' n' d' := ⟨fun k => leF_trans h4 h3 h2 b2 (leF_trans h3 h1 h2 k a1), fun k => leF_trans h3 h4 h1 b1 (leF_trans h4 h2 h1 k a2)⟩
 unfold leF at k1 k2
 unfold cmpR cmpI
 split <;> split <;> (try split) <;> (try split) <;> omega
theorem dAhead_iff {x y : (Int × Int) × DStr} (hx : DRight a b c d size x) (hy : DRight a b c d size y) : dAhead x.2 y.2 = true ↔ Bef a b c d size x.1 y.1 := by
 obtain ⟨z, e1, d1, f1, o1⟩ := hx
 obtain ⟨u, e2, d2, f2, o2⟩ := hy
 have hb : Bef a b c d size x.1 y.1 ↔ aheadZ z u < 0 := by
  constructor
  ·rintro ⟨s, t, k1, k2, k3⟩
   rw [Option.some.inj (e1.symm.trans k1), Option.some.inj (e2.symm.trans k2)]; exact k3
  ·intro k; exact ⟨z, u, e1, e2, k⟩
 rw [hb]
 have hc := cmp_eqF d1 (cutZ_some e1).1.f d2 (cutZ_some e2).1.f f1 f2
 unfold dAhead aheadZ
 rw [hc, o1, o2]
 by_cases h : cmpR z.fn z.fd u.fn u.fd = 0
 ·rw [h]
  cases z.op <;> cases u.op <;> simp
 ·rw [if_pos h]
  simp [h]
theorem bef_total (hs : 1 ≤ size) {p q : Int × Int} {s t : Stz} (h1 : cutZ a b c d p.1 p.2 size = some s) (h2 : cutZ a b c d q.1 q.2 size = some t) (hne : p ≠ q) : Bef a b c d size p q ∨ Bef a b c d size q p := by
 have P1 : MetP a b c d size (p, s) := h1
 have P2 : MetP a b c d size (q, t) := h2
 obtain ⟨p1, q1, k1, m1⟩ := P1.pt
 obtain ⟨p2, q2, k2, m2⟩ := P2.pt
 rcases tri p1 q1 p2 q2 with k | k | k
 ·exact .inl ⟨s, t, h1, h2, (P1.iff hs P2 hne k1 k2 m1 m2).1.2 k⟩
 ·exact absurd ⟨mem_eq (cutZ_some h1).1 k1 k2 m1 k, m2⟩ (P1.apart hs P2 hne p2 q2 k2)
 ·exact .inr ⟨t, s, h2, h1, (P2.iff hs P1 (Ne.symm hne) k2 k1 m2 m1).1.2 k⟩
theorem bef_trans (hs : 1 ≤ size) {p q r : Int × Int} (h1 : Bef a b c d size p q) (h2 : Bef a b c d size q r) : Bef a b c d size p r := by
 have n1 : p ≠ q := fun e => Bef.irr p (by rw [← e] at h1; exact h1)
 have n2 : q ≠ r := fun e => Bef.irr q (by rw [← e] at h2; exact h2)
 have n3 : p ≠ r := fun e => Bef.asym p q h1 (by rw [← e] at h2; exact h2)
 obtain ⟨s, t, e1, e2, k1⟩ := h1
 obtain ⟨t', u, e2', e3, k2⟩ := h2
 obtain rfl := Option.some.inj (e2.symm.trans e2')
 have P1 : MetP a b c d size (p, s) := e1
 have P2 : MetP a b c d size (q, t) := e2
 have P3 : MetP a b c d size (r, u) := e3
 obtain ⟨p1, q1, g1, m1⟩ := P1.pt
 obtain ⟨p2, q2, g2, m2⟩ := P2.pt
 obtain ⟨p3, q3, g3, m3⟩ := P3.pt
 exact ⟨s, u, e1, e3, (P1.iff hs P3 n3 g1 g3 m1 m3).1.2 (ltF_trans g1 g2 g3 ((P1.iff hs P2 n1 g1 g2 m1 m2).1.1 k1) ((P2.iff hs P3 n2 g2 g3 m2 m3).1.1 k2))⟩
theorem insD_mem {l : List ((Int × Int) × DStr)} {x y : (Int × Int) × DStr} : y ∈ insD l x ↔ y = x ∨ y ∈ l := by
 unfold insD
 have h := List.takeWhile_append_dropWhile (p := fun e : (Int × Int) × DStr => !dAhead x.2 e.2) (l := l)
 rw [List.mem_append, List.mem_cons]
 constructor
 ·rintro (k | rfl | k)
  ·exact .inr ((List.takeWhile_sublist _).subset k)
  ·exact .inl rfl
  ·exact .inr ((List.dropWhile_sublist _).subset k)
 ·rintro (rfl | k)
  ·exact .inr (.inl rfl)
  ·rw [← h, List.mem_append] at k
   rcases k with k | k
   ·exact .inl k
   ·exact .inr (.inr k)
theorem insD_sorted (hs : 1 ≤ size) : ∀ {l : List ((Int × Int) × DStr)} {x : (Int × Int) × DStr}, (∀ e ∈ l, DRight a b c d size e) → DRight a b c d size x → (∀ e ∈ l, e.1 ≠ x.1) → l.Pairwise (fun e f => Bef a b c d size e.1 f.1) →
  (insD l x).Pairwise (fun e f => Bef a b c d size e.1 f.1)
 | [], x, _, _, _, _ => List.pairwise_singleton _ _
 | e :: l, x, hr, hx, hn, hp => by
  obtain ⟨h1, h2⟩ := List.pairwise_cons.1 hp
  have he := hr e (List.mem_cons_self ..)
  by_cases h : dAhead x.2 e.2 = true
  ·have k := (dAhead_iff hx he).1 h
   unfold insD
   rw [List.takeWhile_cons, if_neg (by simp [h]), List.dropWhile_cons, if_neg (by simp [h]), List.nil_append]
   refine List.Pairwise.cons (fun f hf => ?_) hp
   rcases List.mem_cons.1 hf with rfl | hf
   ·exact k
   ·exact bef_trans hs k (h1 f hf)
  ·have hb : Bef a b c d size e.1 x.1 := by
    obtain ⟨z, e1, _⟩ := id he
    obtain ⟨u, e2, _⟩ := id hx
    exact (bef_total hs e1 e2 (hn e (List.mem_cons_self ..))).resolve_right (fun k => h ((dAhead_iff hx he).2 k))
   have ih := insD_sorted hs (fun f hf => hr f (List.mem_cons_of_mem _ hf)) hx (fun f hf => hn f (List.mem_cons_of_mem _ hf)) h2
   have e0 : insD (e :: l) x = e :: insD l x := by
    unfold insD
    rw [List.takeWhile_cons, if_pos (by simp [h]), List.dropWhile_cons, if_pos (by simp [h])]; rfl
   rw [e0]
   refine List.Pairwise.cons (fun f hf => ?_) ih
   rcases insD_mem.1 hf with rfl | hf
   ·exact hb
   ·exact h1 f hf
def CutOk (a b c d size : Int) (cut : (Int × Int) → Option DStr) (p : Int × Int) : Prop := (∀ s, cut p = some s → DRight a b c d size (p, s)) ∧ (cut p = none → cutZ a b c d p.1 p.2 size = none)
theorem dOf_law (hs : 1 ≤ size) (cut : (Int × Int) → Option DStr) : ∀ (ps : List (Int × Int)) (l : List ((Int × Int) × DStr)), (∀ p ∈ ps, CutOk a b c d size cut p) → ps.Nodup → (∀ e ∈ l, DRight a b c d size e ∧ e.1 ∉ ps) → l.Pairwise (fun e f => Bef a b c d size e.1 f.1) →
  (dOf cut l ps).Pairwise (fun e f => Bef a b c d size e.1 f.1) ∧ ∀ p, p ∈ (dOf cut l ps).map (·.1) ↔ p ∈ l.map (·.1) ∨ (p ∈ ps ∧ ∃ z, cutZ a b c d p.1 p.2 size = some z)
 | [], l, _, _, _, hp => ⟨hp, fun p => by simp [dOf]⟩
 | p :: ps, l, hc, hn, hr, hp => by
  obtain ⟨n1, n2⟩ := List.nodup_cons.1 hn
  have hcp := hc p (List.mem_cons_self ..)
  rw [dOf]
  cases hx : cut p with
  | none =>
   obtain ⟨i1, i2⟩ := dOf_law hs cut ps l (fun q hq => hc q (List.mem_cons_of_mem _ hq)) n2 (fun e he => ⟨(hr e he).1, fun h => (hr e he).2 (List.mem_cons_of_mem _ h)⟩) hp
   refine ⟨i1, fun q => ?_⟩
   show q ∈ (dOf cut l ps).map (·.1) ↔ _
   rw [i2 q]
   have hz := hcp.2 hx
   constructor
   ·rintro (k | ⟨k, z⟩)
    ·exact .inl k
    ·exact .inr ⟨List.mem_cons_of_mem _ k, z⟩
   ·rintro (k | ⟨k, z, kz⟩)
    ·exact .inl k
    ·rcases List.mem_cons.1 k with rfl | k
     ·rw [hz] at kz; cases kz
     ·exact .inr ⟨k, z, kz⟩
  | some s =>
   have hD := hcp.1 s hx
   obtain ⟨i1, i2⟩ := dOf_law hs cut ps (insD l (p, s)) (fun q hq => hc q (List.mem_cons_of_mem _ hq)) n2
    (fun e he => by
     rcases insD_mem.1 he with rfl | he
     ·exact ⟨hD, n1⟩
     ·exact ⟨(hr e he).1, fun h => (hr e he).2 (List.mem_cons_of_mem _ h)⟩)
    (insD_sorted hs (fun e he => (hr e he).1) hD (fun e he k => (hr e he).2 (by rw [k]; exact List.mem_cons_self ..)) hp)
   refine ⟨i1, fun q => ?_⟩
   show q ∈ (dOf cut (insD l (p, s)) ps).map (·.1) ↔ _
   rw [i2 q]
   obtain ⟨z, hz, _⟩ := hD
   have hm : q ∈ (insD l (p, s)).map (·.1) ↔ q = p ∨ q ∈ l.map (·.1) := by
    rw [List.mem_map, List.mem_map]
    constructor
    ·rintro ⟨e, he, rfl⟩
     rcases insD_mem.1 he with rfl | he
     ·exact .inl rfl
     ·exact .inr ⟨e, he, rfl⟩
    ·rintro (rfl | ⟨e, he, rfl⟩)
     ·exact ⟨(q, s), insD_mem.2 (.inl rfl), rfl⟩
     ·exact ⟨e, insD_mem.2 (.inr he), rfl⟩
   rw [hm]
   constructor
   ·rintro ((rfl | k) | ⟨k, z'⟩)
    ·exact .inr ⟨List.mem_cons_self .., z, hz⟩
    ·exact .inl k
    ·exact .inr ⟨List.mem_cons_of_mem _ k, z'⟩
   ·rintro (k | ⟨k, z'⟩)
    ·exact .inl (.inr k)
    ·rcases List.mem_cons.1 k with rfl | k
     ·exact .inl (.inl rfl)
     ·exact .inr ⟨k, z'⟩
theorem dOf_eq (hs : 1 ≤ size) (cut : (Int × Int) → Option DStr) (ps cells : List (Int × Int)) (hn : cells.Nodup) (hm : ∀ p, p ∈ cells ↔ p ∈ ps) (hc : ∀ p ∈ cells, CutOk a b c d size cut p) :
  (dOf cut [] cells).map (·.1) = ofB a b c d size (setR ps) := by
 obtain ⟨h1, h2⟩ := dOf_law hs cut cells [] hc hn (fun e he => absurd he (List.not_mem_nil)) List.Pairwise.nil
 obtain ⟨k1, k2⟩ := ofS_law a b c d size hs ps
 refine sorted_unique (lt := Bef a b c d size) Bef.irr Bef.asym (List.pairwise_map.2 h1) k2 fun p => ?_
 rw [h2 p, k1 p, hm p]
 simp
end
end Go.Proofs.YthbplhglfjlngaaGreat
namespace Go.Proofs.YthbplhglfjlngaaGreat
open Go.RowKit Go.Rg Go.Wd Go.Mg
abbrev Fr := Int × Int
def LtT (t u : Fr) : Prop := ltF t.1 t.2 u.1 u.2
def EqT (t u : Fr) : Prop := eqF t.1 t.2 u.1 u.2
instance (t u : Fr) : Decidable (LtT t u) := by unfold LtT ltF; infer_instance
instance (t u : Fr) : Decidable (EqT t u) := by unfold EqT eqF; infer_instance
structure Un (t : Fr) : Prop where
 d : 0 < t.2
 l : 0 ≤ t.1
 h : t.1 ≤ t.2
def putD : List Fr → Fr → List Fr
 | [], t => [t]
 | e :: r, t => if LtT e t then e :: putD r t else if EqT e t then e :: r else t :: e :: r
theorem LtT.trans {t u v : Fr} (h1 : 0 < t.2) (h2 : 0 < u.2) (h3 : 0 < v.2) (a : LtT t u) (b : LtT u v) : LtT t v := ltF_trans h1 h2 h3 a b
theorem putD_mem {t : Fr} : ∀ {l : List Fr} {u : Fr}, u ∈ putD l t → u = t ∨ u ∈ l
 | [], u, h => .inl (List.mem_singleton.1 h)
 | e :: r, u, h => by
  rw [putD] at h
  split at h
  ·rcases List.mem_cons.1 h with rfl | h
   ·exact .inr (List.mem_cons_self ..)
   ·rcases putD_mem h with k | k
    ·exact .inl k
    ·exact .inr (List.mem_cons_of_mem _ k)
  ·split at h
   ·exact .inr h
   ·rcases List.mem_cons.1 h with rfl | h
    ·exact .inl rfl
    ·exact .inr h
theorem putD_old {t : Fr} : ∀ {l : List Fr} {u : Fr}, u ∈ l → u ∈ putD l t
 | e :: r, u, h => by
  rw [putD]
  split
  ·rcases List.mem_cons.1 h with rfl | h
   ·exact List.mem_cons_self ..
   ·exact List.mem_cons_of_mem _ (putD_old h)
  ·split
   ·exact h
   ·exact List.mem_cons_of_mem _ h
theorem putD_new {t : Fr} : ∀ (l : List Fr), ∃ u ∈ putD l t, EqT u t
 | [] => ⟨t, List.mem_singleton.2 rfl, rfl⟩
 | e :: r => by
  rw [putD]
  split
  ·obtain ⟨u, h1, h2⟩ := putD_new (t := t) r
   exact ⟨u, List.mem_cons_of_mem _ h1, h2⟩
  ·split
   ·rename_i h; exact ⟨e, List.mem_cons_self .., h⟩
   ·exact ⟨t, List.mem_cons_self .., rfl⟩
theorem putD_sorted {t : Fr} (ht : 0 < t.2) : ∀ {l : List Fr}, (∀ u ∈ l, 0 < u.2) → l.Pairwise LtT → (putD l t).Pairwise LtT
 | [], _, _ => List.pairwise_singleton _ _
 | e :: r, hd, hp => by
  obtain ⟨h1, h2⟩ := List.pairwise_cons.1 hp
  rw [putD]
  split
  ·rename_i h
   refine List.Pairwise.cons (fun u hu => ?_) (putD_sorted ht (fun u hu => hd u (List.mem_cons_of_mem _ hu)) h2)
   rcases putD_mem hu with rfl | k
   ·exact h
   ·exact h1 u k
  ·split
   ·exact hp
   ·rename_i n1 n2
    have hte : LtT t e := by unfold LtT EqT ltF eqF at *; omega
    refine List.Pairwise.cons (fun u hu => ?_) hp
    rcases List.mem_cons.1 hu with rfl | k
    ·exact hte
    ·exact hte.trans ht (hd e (List.mem_cons_self ..)) (hd u (List.mem_cons_of_mem _ k)) (h1 u k)
def midD (t u : Fr) : Fr := (t.1 * u.2 + u.1 * t.2, 2 * (t.2 * u.2))
def scanD (I : Fr → Bool) : List Fr → Option DStr
 | [] => none
 | [t] => if I t then some ⟨t.1, t.2, false⟩ else none
 | t :: u :: r => if I t then some ⟨t.1, t.2, false⟩ else if I (midD t u) then some ⟨t.1, t.2, true⟩ else scanD I (u :: r)
theorem midD_lt {t u : Fr} (h1 : 0 < t.2) (h2 : 0 < u.2) (h : LtT t u) : 0 < (midD t u).2 ∧ LtT t (midD t u) ∧ LtT (midD t u) u := by
 unfold LtT ltF at h
 refine ⟨by unfold midD; have := Int.mul_pos h1 h2; show 0 < 2 * (t.2 * u.2); omega, ?_, ?_⟩
 ·show t.1 * (2 * (t.2 * u.2)) < (t.1 * u.2 + u.1 * t.2) * t.2
  have e1 : t.1 * (2 * (t.2 * u.2)) = 2 * (t.1 * u.2 * t.2) := by
   have : t.1 * (t.2 * u.2) = t.1 * u.2 * t.2 := by ac_rfl
   rw [Int.mul_left_comm, this]
  have e2 := Int.add_mul (t.1 * u.2) (u.1 * t.2) t.2
  have e3 := Int.mul_lt_mul_of_pos_right h h1
  omega
 ·show (t.1 * u.2 + u.1 * t.2) * u.2 < u.1 * (2 * (t.2 * u.2))
  have e1 : u.1 * (2 * (t.2 * u.2)) = 2 * (u.1 * t.2 * u.2) := by
   have : u.1 * (t.2 * u.2) = u.1 * t.2 * u.2 := by ac_rfl
   rw [Int.mul_left_comm, this]
  have e2 := Int.add_mul (t.1 * u.2) (u.1 * t.2) u.2
  have e3 := Int.mul_lt_mul_of_pos_right h h2
  omega
end Go.Proofs.YthbplhglfjlngaaGreat
namespace Go.Proofs.YthbplhglfjlngaaGreat
open Go.RowKit Go.Rg Go.Wd Go.Mg
theorem sorted_head_le {u : Fr} {r : List Fr} (hp : (u :: r).Pairwise LtT) {f : Fr} (hf : f ∈ u :: r) : leF u.1 u.2 f.1 f.2 := by
 rcases List.mem_cons.1 hf with rfl | hf
 ·unfold leF; omega
 ·have := (List.pairwise_cons.1 hp).1 f hf
  unfold LtT ltF at this; unfold leF; omega
theorem Un.mid {t u : Fr} (ht : Un t) (hu : Un u) (h : LtT t u) : Un (midD t u) := by
 obtain ⟨h1, h2, h3⟩ := midD_lt ht.d hu.d h
 refine ⟨h1, ?_, ?_⟩
 ·have a1 := Int.mul_nonneg ht.l (Int.le_of_lt hu.d)
  have a2 := Int.mul_nonneg hu.l (Int.le_of_lt ht.d)
  show 0 ≤ t.1 * u.2 + u.1 * t.2
  omega
 ·have a1 := Int.mul_le_mul_of_nonneg_right ht.h (Int.le_of_lt hu.d)
  have a2 := Int.mul_le_mul_of_nonneg_right hu.h (Int.le_of_lt ht.d)
  have e : u.2 * t.2 = t.2 * u.2 := Int.mul_comm _ _
  show t.1 * u.2 + u.1 * t.2 ≤ 2 * (t.2 * u.2)
  omega
theorem some_le {z : Stz} (hs : someZ z = true) : leF z.fn z.fd z.tn z.td ∧ ((z.op = true ∨ z.ot = true) → ltF z.fn z.fd z.tn z.td) := by
 unfold someZ at hs
 rw [Bool.or_eq_true, Bool.and_eq_true, Bool.and_eq_true, decide_eq_true_eq, decide_eq_true_eq, Bool.not_eq_true', Bool.not_eq_true'] at hs
 rcases hs with hl | ⟨he, ho, ht⟩
 ·unfold cmpR at hl
  rw [cmpI_lt] at hl
  exact ⟨by unfold leF; omega, fun _ => hl⟩
 ·have he' : z.fn * z.td = z.tn * z.fd := by
   unfold cmpR cmpI at he
   split at he
   ·cases he
   ·split at he
    ·assumption
    ·cases he
  exact ⟨by unfold leF; omega, fun h => by rw [ho, ht] at h; rcases h with h | h <;> cases h⟩
theorem scan_some {z : Stz} (hz : SPos z) (hs : someZ z = true) {I : Fr → Bool} (hI : ∀ t : Fr, Un t → (I t = true ↔ Mem z t.1 t.2)) : ∀ l : List Fr, (∀ t ∈ l, Un t) → l.Pairwise LtT →
  (∃ f ∈ l, EqT f (z.fn, z.fd)) → (∃ g ∈ l, EqT g (z.tn, z.td)) → ∃ s, scanD I l = some s ∧ 0 < s.d ∧ eqF s.n s.d z.fn z.fd ∧ s.o = z.op
 | [], _, _, ⟨f, hf, _⟩, _ => absurd hf List.not_mem_nil
 | [t], hu, _, ⟨f, hf, ef⟩, ⟨g, hg, eg⟩ => by
  obtain rfl := List.mem_singleton.1 hf
  obtain rfl := List.mem_singleton.1 hg
  have hd := (hu g (List.mem_cons_self ..)).d
  obtain ⟨a1, a2⟩ := eqF_iff.1 (show eqF g.1 g.2 z.fn z.fd from ef)
  obtain ⟨b1, b2⟩ := eqF_iff.1 (show eqF g.1 g.2 z.tn z.td from eg)
  have hle : leF z.tn z.td z.fn z.fd := leF_trans hz.t hd hz.f b2 a1
  have ho : z.op = false := by
   cases h : z.op with
   | false => rfl
   | true => exact absurd ((some_le hs).2 (.inl h)) (fun k => ltF_le.1 k hle)
  have ht : z.ot = false := by
   cases h : z.ot with
   | false => rfl
   | true => exact absurd ((some_le hs).2 (.inr h)) (fun k => ltF_le.1 k hle)
  have hm : I g = true := (hI g (hu g (List.mem_cons_self ..))).2 ⟨.inr ⟨eqF_iff.2 ⟨a2, a1⟩, ho⟩, .inr ⟨eg, ht⟩⟩
  refine ⟨⟨g.1, g.2, false⟩, by rw [scanD, if_pos hm], hd, ef, ho.symm⟩
 | t :: u :: r, hu, hp, ⟨f, hf, ef⟩, ⟨g, hg, eg⟩ => by
  have ut := hu t (List.mem_cons_self ..)
  have uu := hu u (List.mem_cons_of_mem _ (List.mem_cons_self ..))
  obtain ⟨p1, p2⟩ := List.pairwise_cons.1 hp
  have htu := p1 u (List.mem_cons_self ..)
  obtain ⟨md, m1, m2⟩ := midD_lt ut.d uu.d htu
  have um := Un.mid ut uu htu
  have ug := hu g hg
  have uf := hu f hf
  obtain ⟨f1, f2⟩ := eqF_iff.1 (show eqF f.1 f.2 z.fn z.fd from ef)
  obtain ⟨g1, g2⟩ := eqF_iff.1 (show eqF g.1 g.2 z.tn z.td from eg)
  rw [scanD]
  by_cases ht : EqT t (z.fn, z.fd)
  ·obtain ⟨t1, t2⟩ := eqF_iff.1 (show eqF t.1 t.2 z.fn z.fd from ht)
   cases ho : z.op with
   | false =>
    have hm : I t = true := by
     refine (hI t ut).2 ⟨.inr ⟨eqF_iff.2 ⟨t2, t1⟩, ho⟩, ?_⟩
     cases hot : z.ot with
     | true => exact .inl (leF_ltF ut.d hz.f hz.t t1 ((some_le hs).2 (.inr hot)))
     | false =>
      have k := leF_trans ut.d hz.f hz.t t1 (some_le hs).1
      unfold hiB
      by_cases e : eqF t.1 t.2 z.tn z.td
      ·exact .inr ⟨e, rfl⟩
      ·left; unfold leF at k; unfold eqF at e; unfold ltF; omega
    exact ⟨⟨t.1, t.2, false⟩, by rw [if_pos hm], ut.d, ht, rfl⟩
   | true =>
    have hlt := (some_le hs).2 (.inl ho)
    have hm : I t ≠ true := by
     intro k
     rcases ((hI t ut).1 k).1 with k | ⟨_, k⟩
     ·exact ltF_le.1 k t1
     ·rw [ho] at k; cases k
    have hgt : g ∈ u :: r := by
     rcases List.mem_cons.1 hg with rfl | k
     ·exact absurd hlt (fun k => ltF_le.1 k (leF_trans hz.t ut.d hz.f g2 t1))
     ·exact k
    have hmm : I (midD t u) = true := by
     refine (hI _ um).2 ⟨.inl (leF_ltF hz.f ut.d md t2 m1), .inl ?_⟩
     exact ltF_leF md uu.d hz.t m2 (leF_trans uu.d ug.d hz.t (sorted_head_le p2 hgt) g1)
    exact ⟨⟨t.1, t.2, true⟩, by rw [if_neg hm, if_pos hmm], ut.d, ht, rfl⟩
  ·have hf' : f ∈ u :: r := by
    rcases List.mem_cons.1 hf with rfl | k
    ·exact absurd ef ht
    ·exact k
   have huf := leF_trans uu.d uf.d hz.f (sorted_head_le p2 hf') f1
   have htf : ltF t.1 t.2 z.fn z.fd := ltF_leF ut.d uu.d hz.f htu huf
   have hmf : ltF (midD t u).1 (midD t u).2 z.fn z.fd := ltF_leF md uu.d hz.f m2 huf
   have hm : I t ≠ true := fun k => ltF_le.1 htf (loB_le ((hI t ut).1 k).1)
   have hmm : I (midD t u) ≠ true := fun k => ltF_le.1 hmf (loB_le ((hI _ um).1 k).1)
   have hg' : g ∈ u :: r := by
    rcases List.mem_cons.1 hg with rfl | k
    ·exact absurd htf (fun k => ltF_le.1 k (leF_trans hz.f hz.t ut.d (some_le hs).1 g2))
    ·exact k
   rw [if_neg hm, if_neg hmm]
   exact scan_some hz hs hI (u :: r) (fun v hv => hu v (List.mem_cons_of_mem _ hv)) p2 ⟨f, hf', ef⟩ ⟨g, hg', eg⟩
theorem scan_none {I : Fr → Bool} (hI : ∀ t : Fr, Un t → I t = false) : ∀ l : List Fr, (∀ t ∈ l, Un t) → l.Pairwise LtT → scanD I l = none
 | [], _, _ => rfl
 | [t], hu, _ => by rw [scanD, if_neg (by rw [hI t (hu t (List.mem_cons_self ..))]; decide)]
 | t :: u :: r, hu, hp => by
  obtain ⟨p1, p2⟩ := List.pairwise_cons.1 hp
  have ut := hu t (List.mem_cons_self ..)
  have uu := hu u (List.mem_cons_of_mem _ (List.mem_cons_self ..))
  rw [scanD, if_neg (by rw [hI t ut]; decide), if_neg (by rw [hI _ (Un.mid ut uu (p1 u (List.mem_cons_self ..)))]; decide)]
  exact scan_none hI (u :: r) (fun v hv => hu v (List.mem_cons_of_mem _ hv)) p2
end Go.Proofs.YthbplhglfjlngaaGreat
namespace Go.Proofs.YthbplhglfjlngaaGreat
open Go.RowKit Go.Rg Go.Wd Go.Mg
def insideD (n w k size : Int) : Bool := decide (2 * k * size * w - size * w ≤ n + n) && decide (n + n < 2 * k * size * w + size * w)
def inD (a b c d x y size : Int) (t : Fr) : Bool := insideD (a * t.2 + (c - a) * t.1) t.2 x size && insideD (b * t.2 + (d - b) * t.1) t.2 y size
def edgeD (f way e : Int) : Fr := if way < 0 then (-(e - 2 * f), -(2 * way)) else (e - 2 * f, 2 * way)
def tsStep (l : List Fr) (f way e : Int) : List Fr := if way ≠ 0 ∧ 0 ≤ (edgeD f way e).1 ∧ (edgeD f way e).1 ≤ (edgeD f way e).2 then putD l (edgeD f way e) else l
def tsD (a b c d x y size : Int) : List Fr :=
 tsStep (tsStep (tsStep (tsStep [(0, 1), (1, 1)] a (c - a) (2 * x * size - size)) a (c - a) (2 * x * size + size)) b (d - b) (2 * y * size - size)) b (d - b) (2 * y * size + size)
def cutD (a b c d size : Int) (p : Int × Int) : Option DStr := scanD (inD a b c d p.1 p.2 size) (tsD a b c d p.1 p.2 size)
structure TsOk (l : List Fr) : Prop where
 u : ∀ t ∈ l, Un t
 s : l.Pairwise LtT
theorem edge_pos {f way e : Int} (h : way ≠ 0) : 0 < (edgeD f way e).2 := by unfold edgeD; split <;> simp <;> omega
theorem ts_ok {l : List Fr} {f way e : Int} (h : TsOk l) : TsOk (tsStep l f way e) := by
 unfold tsStep
 split
 ·rename_i k
  have hp := edge_pos (f := f) (e := e) k.1
  refine ⟨fun t ht => ?_, putD_sorted hp (fun u hu => (h.u u hu).d) h.s⟩
  rcases putD_mem ht with rfl | ht
  ·exact ⟨hp, k.2.1, k.2.2⟩
  ·exact h.u t ht
 ·exact h
theorem ts_old {l : List Fr} {f way e : Int} {u : Fr} (h : ∃ v ∈ l, EqT v u) : ∃ v ∈ tsStep l f way e, EqT v u := by
 obtain ⟨v, h1, h2⟩ := h
 refine ⟨v, ?_, h2⟩
 unfold tsStep
 split
 ·exact putD_old h1
 ·exact h1
theorem ts_new {l : List Fr} {f way e : Int} (h : way ≠ 0) (hu : Un (edgeD f way e)) : ∃ v ∈ tsStep l f way e, EqT v (edgeD f way e) := by
 unfold tsStep
 rw [if_pos ⟨h, hu.l, hu.h⟩]
 exact putD_new l
theorem tsD_ok (a b c d x y size : Int) : TsOk (tsD a b c d x y size) := by
 refine ts_ok (ts_ok (ts_ok (ts_ok ⟨fun t ht => ?_, ?_⟩)))
 ·simp only [List.mem_cons, List.not_mem_nil, or_false] at ht
  rcases ht with rfl | rfl <;> exact ⟨by decide, by decide, by decide⟩
 ·exact List.Pairwise.cons (fun u hu => by rw [List.mem_singleton.1 hu]; decide) (List.pairwise_singleton _ _)
theorem from_is (s : Stz) (n d : Int) (o : Bool) : ((fromZ s n d o).fn, (fromZ s n d o).fd) = (s.fn, s.fd) ∨ ((fromZ s n d o).fn, (fromZ s n d o).fd) = (n, d) := by
 unfold fromZ; split
 ·exact .inr rfl
 ·split <;> exact .inl rfl
theorem to_is (s : Stz) (n d : Int) (o : Bool) : ((toZ s n d o).tn, (toZ s n d o).td) = (s.tn, s.td) ∨ ((toZ s n d o).tn, (toZ s n d o).td) = (n, d) := by
 unfold toZ; split
 ·exact .inr rfl
 ·split <;> exact .inl rfl
theorem from_le (s : Stz) (n d : Int) (o : Bool) : leF s.fn s.fd (fromZ s n d o).fn (fromZ s n d o).fd := by
 unfold fromZ; split
 ·rename_i h; unfold cmpR at h; have := cmpI_gt.1 h; unfold leF; simp only; omega
 ·split <;> (unfold leF; first | omega | (simp only; omega))
theorem to_le (s : Stz) (n d : Int) (o : Bool) : leF (toZ s n d o).tn (toZ s n d o).td s.tn s.td := by
 unfold toZ; split
 ·rename_i h; unfold cmpR at h; have := cmpI_lt.1 h; unfold leF; simp only; omega
 ·split <;> (unfold leF; first | omega | (simp only; omega))
theorem band_f (s : Stz) (a way low high : Int) : (((bandZ s a way low high).1.fn, (bandZ s a way low high).1.fd) = (s.fn, s.fd) ∨ (way ≠ 0 ∧ (((bandZ s a way low high).1.fn, (bandZ s a way low high).1.fd) = edgeD a way low ∨ ((bandZ s a way low high).1.fn, (bandZ s a way low high).1.fd) = edgeD a way high))) ∧
  leF s.fn s.fd (bandZ s a way low high).1.fn (bandZ s a way low high).1.fd := by
 unfold bandZ
 split
 ·rename_i hw
  simp only []
  obtain ⟨e1, e2, _⟩ := to_f (fromZ s (low - 2 * a) (2 * way) false) (high - 2 * a) (2 * way) true
  rw [e1, e2]
  refine ⟨?_, from_le s _ _ _⟩
  rcases from_is s (low - 2 * a) (2 * way) false with h | h
  ·exact .inl h
  ·refine .inr ⟨by omega, .inl ?_⟩
   rw [h]; unfold edgeD; rw [if_neg (by omega)]
 ·split
  ·rename_i hw
   simp only []
   obtain ⟨e1, e2, _⟩ := to_f (fromZ s (2 * a - high) (-(2 * way)) true) (2 * a - low) (-(2 * way)) false
   rw [e1, e2]
   refine ⟨?_, from_le s _ _ _⟩
   rcases from_is s (2 * a - high) (-(2 * way)) true with h | h
   ·exact .inl h
   ·refine .inr ⟨by omega, .inr ?_⟩
    rw [h]; unfold edgeD; rw [if_pos (by omega), show -(high - 2 * a) = 2 * a - high by omega]
  ·exact ⟨.inl rfl, by unfold leF; simp only; omega⟩
theorem band_t (s : Stz) (a way low high : Int) : (((bandZ s a way low high).1.tn, (bandZ s a way low high).1.td) = (s.tn, s.td) ∨ (way ≠ 0 ∧ (((bandZ s a way low high).1.tn, (bandZ s a way low high).1.td) = edgeD a way low ∨ ((bandZ s a way low high).1.tn, (bandZ s a way low high).1.td) = edgeD a way high))) ∧
  leF (bandZ s a way low high).1.tn (bandZ s a way low high).1.td s.tn s.td := by
 unfold bandZ
 split
 ·rename_i hw
  simp only []
  obtain ⟨e1, e2, _⟩ := from_t s (low - 2 * a) (2 * way) false
  have hl := to_le (fromZ s (low - 2 * a) (2 * way) false) (high - 2 * a) (2 * way) true
  have hi := to_is (fromZ s (low - 2 * a) (2 * way) false) (high - 2 * a) (2 * way) true
  rw [e1, e2] at hl hi
  refine ⟨?_, hl⟩
  rcases hi with h | h
  ·exact .inl h
  ·refine .inr ⟨by omega, .inr ?_⟩
   rw [h]; unfold edgeD; rw [if_neg (by omega)]
 ·split
  ·rename_i hw
   simp only []
   obtain ⟨e1, e2, _⟩ := from_t s (2 * a - high) (-(2 * way)) true
   have hl := to_le (fromZ s (2 * a - high) (-(2 * way)) true) (2 * a - low) (-(2 * way)) false
   have hi := to_is (fromZ s (2 * a - high) (-(2 * way)) true) (2 * a - low) (-(2 * way)) false
   rw [e1, e2] at hl hi
   refine ⟨?_, hl⟩
   rcases hi with h | h
   ·exact .inl h
   ·refine .inr ⟨by omega, .inl ?_⟩
    rw [h]; unfold edgeD; rw [if_pos (by omega), show -(low - 2 * a) = 2 * a - low by omega]
  ·exact ⟨.inl rfl, by unfold leF; simp only; omega⟩
theorem inside_iff (a way p q k size : Int) : insideD (a * q + way * p) q k size = true ↔ InB a way (2 * k * size - size) (2 * k * size + size) p q := by
 unfold insideD InB
 rw [Bool.and_eq_true, decide_eq_true_eq, decide_eq_true_eq, Int.sub_mul, Int.add_mul]
 omega
theorem inD_iff {a b c d x y size : Int} {t : Fr} (h : Un t) : inD a b c d x y size t = true ↔ InC a b c d x y size t.1 t.2 := by
 unfold inD InC
 rw [Bool.and_eq_true, inside_iff, inside_iff]
 exact ⟨fun k => ⟨⟨h.l, h.h⟩, k⟩, fun k => k.2⟩
theorem whole_in (a b c d x y size : Int) : (∃ v ∈ tsD a b c d x y size, EqT v (0, 1)) ∧ ∃ v ∈ tsD a b c d x y size, EqT v (1, 1) :=
 ⟨ts_old (ts_old (ts_old (ts_old ⟨_, List.mem_cons_self .., rfl⟩))), ts_old (ts_old (ts_old (ts_old ⟨_, List.mem_cons_of_mem _ (List.mem_cons_self ..), rfl⟩)))⟩
theorem cut_ok (a b c d size : Int) (p : Int × Int) : CutOk a b c d size (cutD a b c d size) p := by
 have T := tsD_ok a b c d p.1 p.2 size
 obtain ⟨w0, w1⟩ := whole_in a b c d p.1 p.2 size
 cases hz : cutZ a b c d p.1 p.2 size with
 | none =>
  have hn : cutD a b c d size p = none := scan_none (I := inD a b c d p.1 p.2 size) (fun t ht => by
   cases h : inD a b c d p.1 p.2 size t with
   | false => rfl
   | true => exact absurd ((inD_iff ht).1 h) (cutZ_none hz _ _ ht.d)) _ T.u T.s
  exact ⟨fun s hs => (by rw [hn] at hs; cases hs), fun _ => hz⟩
 | some z =>
  obtain ⟨hp, hs, hm⟩ := cutZ_some hz
  have hz0 := hz
  unfold cutZ at hz0
  split at hz0
  ·split at hz0
   ·split at hz0
    ·cases hz0
     obtain ⟨f1, l1⟩ := band_f whole a (c - a) (2 * p.1 * size - size) (2 * p.1 * size + size)
     obtain ⟨t1, m1⟩ := band_t whole a (c - a) (2 * p.1 * size - size) (2 * p.1 * size + size)
     have P1 : SPos (bandZ whole a (c - a) (2 * p.1 * size - size) (2 * p.1 * size + size)).1 := band_pos' ⟨by decide, by decide⟩
     generalize hB : (bandZ whole a (c - a) (2 * p.1 * size - size) (2 * p.1 * size + size)).1 = B at *
     obtain ⟨f2, l2⟩ := band_f B b (d - b) (2 * p.2 * size - size) (2 * p.2 * size + size)
     obtain ⟨t2, m2⟩ := band_t B b (d - b) (2 * p.2 * size - size) (2 * p.2 * size + size)
     generalize hC : (bandZ B b (d - b) (2 * p.2 * size - size) (2 * p.2 * size + size)).1 = C at *
     have a1 : leF 0 1 C.fn C.fd := leF_trans (by decide) P1.f hp.f l1 l2
     have a2 : leF C.tn C.td 1 1 := leF_trans hp.t P1.t (by decide) m2 m1
     have a3 := (some_le hs).1
     have a4 := leF_trans (by decide) hp.f hp.t a1 a3
     have a5 := leF_trans hp.f hp.t (by decide) a3 a2
     have uF : Un (C.fn, C.fd) := ⟨hp.f, by unfold leF at a1; simp only; omega, by unfold leF at a5; simp only; omega⟩
     have uT : Un (C.tn, C.td) := ⟨hp.t, by unfold leF at a4; simp only; omega, by unfold leF at a2; simp only; omega⟩
     have F : ∃ f ∈ tsD a b c d p.1 p.2 size, EqT f (C.fn, C.fd) := by
      rcases f2 with h | ⟨n, h | h⟩
      ·rw [h] at uF ⊢
       rcases f1 with k | ⟨n, k | k⟩
       ·rw [k]; exact w0
       ·rw [k] at uF ⊢; exact ts_old (ts_old (ts_old (ts_new n uF)))
       ·rw [k] at uF ⊢; exact ts_old (ts_old (ts_new n uF))
      ·rw [h] at uF ⊢; exact ts_old (ts_new n uF)
      ·rw [h] at uF ⊢; exact ts_new n uF
     have G : ∃ f ∈ tsD a b c d p.1 p.2 size, EqT f (C.tn, C.td) := by
      rcases t2 with h | ⟨n, h | h⟩
      ·rw [h] at uT ⊢
       rcases t1 with k | ⟨n, k | k⟩
       ·rw [k]; exact w1
       ·rw [k] at uT ⊢; exact ts_old (ts_old (ts_old (ts_new n uT)))
       ·rw [k] at uT ⊢; exact ts_old (ts_old (ts_new n uT))
      ·rw [h] at uT ⊢; exact ts_old (ts_new n uT)
      ·rw [h] at uT ⊢; exact ts_new n uT
     obtain ⟨s, e1, e2, e3, e4⟩ := scan_some hp hs (I := inD a b c d p.1 p.2 size) (fun t ht => (inD_iff ht).trans (hm t.1 t.2 ht.d)) _ T.u T.s F G
     have e1 : cutD a b c d size p = some s := e1
     refine ⟨fun s' hs' => ?_, fun h => (by rw [e1] at h; cases h)⟩
     obtain rfl := Option.some.inj (e1.symm.trans hs')
     exact ⟨C, hz, e2, e3, e4⟩
    ·cases hz0
   ·cases hz0
  ·cases hz0
end Go.Proofs.YthbplhglfjlngaaGreat
namespace Go.Rg
open Go Go.RowKit
section
variable {P : Program} {Q : Exit → Act → World → Prop} {l : List Oper} {s : Oper}
@[irreducible] def lastQ (P : Program) (s : Oper) (Q : Exit → Act → World → Prop) : Exit → Act → World → Prop
 | .normal, a, w => s.wp P a w (fun a' w' => Q .normal a' w') Q
 | e, a, w => Q e a w
theorem lastQ_normal {a : Act} {w : World} : lastQ P s Q .normal a w = s.wp P a w (fun a' w' => Q .normal a' w') Q := by unfold lastQ; rfl
theorem lastQ_panic {c : List PanicEntry} {a : Act} {w : World} : lastQ P s Q (.panic c) a w = Q (.panic c) a w := by unfold lastQ; rfl
theorem lastQ_out {a : Act} {w : World} : lastQ P s Q .outgrown a w = Q .outgrown a w := by unfold lastQ; rfl
theorem lets_lastQ : LetsOut (lastQ P s Q) → LetsOut Q := fun ⟨a, w, h⟩ => ⟨a, w, by rwa [lastQ_out] at h⟩
theorem wp_lastQ {o : Oper} {a : Act} {w : World} {K K' : Act → World → Prop} (hK : ∀ a w, K a w → K' a w) (h : o.wp P a w K (lastQ P s Q)) : o.wp P a w K' Q := by
 unfold Oper.wp at *
 generalize (execOp a.eval o).run P w = r at *
 cases r with
 | ok n w' =>
  cases n with
  | value v => exact hK _ _ h
  | skip => exact hK _ _ h
  | defer d => exact hK _ _ h
  | enter f args =>
   refine Calls.mono h fun e w'' he => ?_
   cases e with
   | returned v => exact hK _ _ he
   | panicked c => exact (lastQ_panic (P := P) (s := s) (Q := Q) (a := a)).mp he
   | outgrown => exact lets_lastQ he
  | row row args => exact fun c cs => let ⟨v, w', r, t⟩ := h c cs; ⟨v, w', hK _ _ r, t⟩
  | _ => exact h.elim
 | halt x w' =>
  cases x with
  | panic v => exact (lastQ_panic (P := P) (s := s) (Q := Q) (a := a)).mp h
  | _ => exact h.elim
theorem ready_mono2 {ops : Array Oper} {md : Region.Mode} {listed : Array Bool} {j n : Nat} (hj : j ∈ Region.ready md ops (listed.setIfInBounds n true)) (e : j ≠ n) (hlow : ∀ (j : Nat) (o : Oper), ops[j]? = some o → ∀ e ∈ o.after, Region.binds md e = true → e.on ≠ n ∨ j = n) : j ∈ Region.ready md ops listed := by
 obtain ⟨h1, o, ho, h2⟩ := mem_ready.1 hj
 refine mem_ready.2 ⟨?_, o, ho, fun e' he hb => ?_⟩
 ·rwa [getD_set_ne true (Ne.symm e)] at h1
 ·have := h2 e' he hb
  rcases hlow j o ho e' he hb with h | h
  ·rwa [getD_set_ne false (Ne.symm h)] at this
  ·exact absurd h e
def waitsAllB (l : List Oper) (s : Oper) : Bool :=
 s.guard.isNone && s.after.all (fun e => decide (e.on < l.length)) && l.all (fun o => o.guard.isNone && o.after.all fun e => !Region.binds .any e || decide (e.on < l.length)) && (List.range l.length).all fun k => waitB .any s k
theorem snoc_any (hB : waitsAllB l s = true) (hlex : ∀ (j : Nat) (o : Oper), l[j]? = some o → ∀ e ∈ o.after, Region.binds .any e = true → e.on < j) : ∀ (fuel : Nat) (listed : Array Bool) (a : Act) (w : World), listed.size = l.length →
  wpAny P .any l.toArray (lastQ P s Q) fuel listed a w → wpAny P .any (l ++ [s]).toArray Q (fuel + 1) (listed.push false) a w := by
 unfold waitsAllB at hB
 simp only [Bool.and_eq_true] at hB
 obtain ⟨⟨⟨hs, hsa⟩, hl⟩, hall⟩ := hB
 have hsg : s.guard = none := by simpa using hs
 have hlg : ∀ (j : Nat) (o : Oper), l[j]? = some o → o.guard = none := fun j o ho => by
  rw [List.all_eq_true] at hl
  have := hl o (List.mem_of_getElem? ho)
  simp only [Bool.and_eq_true] at this
  simpa using this.1
 have hops : ∀ j, j < l.length → (l ++ [s]).toArray[j]? = l.toArray[j]? := fun j hj => by simp [List.getElem?_append_left hj]
 have hopn : (l ++ [s]).toArray[l.length]? = some s := by simp
 have hw : ∀ o : Oper, o.guard = none → ∀ y, Region.wanted o y = true := fun o ho y => by unfold Region.wanted; rw [ho]
 -- which are ready
 have rdy : ∀ (listed : Array Bool), listed.size = l.length → ∀ i, i ∈ Region.ready .any (l ++ [s]).toArray (listed.push false) → (i < l.length ∧ i ∈ Region.ready .any l.toArray listed) ∨ (i = l.length ∧ Region.ready .any l.toArray listed = []) := fun listed hsz i hi => by
  obtain ⟨h1, o, ho, h2⟩ := mem_ready.1 hi
  have hil : i < l.length + 1 := by have := (Array.getElem?_eq_some_iff.1 ho).1; simpa using this
  by_cases e : i = l.length
  ·right
   refine ⟨e, ?_⟩
   subst e
   rw [hopn] at ho; cases ho
   cases hr : Region.ready .any l.toArray listed with
   | nil => rfl
   | cons j r =>
    exfalso
    obtain ⟨hun, o', ho', _⟩ := mem_ready.1 (show j ∈ Region.ready .any l.toArray listed by rw [hr]; exact List.mem_cons_self ..)
    have hj : j < l.length := by have := (Array.getElem?_eq_some_iff.1 ho').1; simpa using this
    rw [List.all_eq_true] at hall
    obtain ⟨e, he, hb, hon⟩ := waitB_spec (hall j (List.mem_range.2 hj))
    have h3 := h2 e he hb
    rw [hon] at h3
    have hjs : j < listed.size := by omega
    have : (listed.push false).getD j false = listed.getD j true := by
     simp [Array.getD, hjs, Nat.lt_succ_of_lt hjs, Array.getElem_push_lt hjs]
    rw [this, hun] at h3; cases h3
  ·left
   have hi2 : i < l.length := by omega
   refine ⟨hi2, mem_ready.2 ⟨?_, o, by rw [← hops i hi2]; exact ho, fun e he hb => ?_⟩⟩
   ·have hjs : i < listed.size := by omega
    have : (listed.push false).getD i true = listed.getD i true := by
     simp [Array.getD, hjs, Nat.lt_succ_of_lt hjs, Array.getElem_push_lt hjs]
    rwa [this] at h1
   ·have h3 := h2 e he hb
    rw [hops i hi2] at ho
    have hei := hlex i o (by simpa using ho) e he hb
    have hjs : e.on < listed.size := by omega
    have : (listed.push false).getD e.on false = listed.getD e.on false := by
     simp [Array.getD, hjs, Nat.lt_succ_of_lt hjs, Array.getElem_push_lt hjs]
    rwa [this] at h3
 have rdyn : ∀ (listed : Array Bool), listed.size = l.length → Region.ready .any l.toArray listed = [] → l.length ∈ Region.ready .any (l ++ [s]).toArray (listed.push false) := fun listed hsz hr => by
  refine mem_ready.2 ⟨by rw [← hsz]; simp [Array.getD], s, hopn, fun e he hb => ?_⟩
  have hall2 := all_listed (md := .any) (ops := l.toArray) (fun j o ho => hlex j o (by simpa using ho)) (by simpa using hsz) hr
  have hon : e.on < l.length := by
   rw [Array.all_eq_true'] at hsa
   simpa using hsa e he
  have hjs : e.on < listed.size := by omega
  have h3 := hall2 e.on (by simpa using hon)
  have : (listed.push false).getD e.on false = listed.getD e.on false := by
   simp [Array.getD, hjs, Nat.lt_succ_of_lt hjs, Array.getElem_push_lt hjs]
  rw [this]; exact h3
 have up : ∀ (listed : Array Bool), listed.size = l.length → ∀ j, j ∈ Region.ready .any l.toArray listed → j ∈ Region.ready .any (l ++ [s]).toArray (listed.push false) := fun listed hsz j hj => by
  obtain ⟨h1, o, ho, h2⟩ := mem_ready.1 hj
  have hjl : j < l.length := by have := (Array.getElem?_eq_some_iff.1 ho).1; simpa using this
  have hjs : j < listed.size := by omega
  refine mem_ready.2 ⟨?_, o, by rw [hops j hjl]; exact ho, fun e he hb => ?_⟩
  ·have : (listed.push false).getD j true = listed.getD j true := by
    simp [Array.getD, hjs, Nat.lt_succ_of_lt hjs, Array.getElem_push_lt hjs]
   rw [this]; exact h1
  ·have hei := hlex j o (by simpa using ho) e he hb
   have hes : e.on < listed.size := by omega
   have : (listed.push false).getD e.on false = listed.getD e.on false := by
    simp [Array.getD, hes, Nat.lt_succ_of_lt hes, Array.getElem_push_lt hes]
   rw [this]; exact h2 e he hb
 have setp : ∀ (listed : Array Bool) (i : Nat), i < listed.size → (listed.push false).setIfInBounds i true = (listed.setIfInBounds i true).push false := fun listed i hi => by
  apply Array.ext'
  rw [Array.toList_setIfInBounds, Array.toList_push, Array.toList_push, Array.toList_setIfInBounds, List.set_append_left _ _ (by simpa using hi)]
 have last : ∀ (fuel : Nat) (listed : Array Bool) (a : Act) (w : World), listed.size = l.length → Region.ready .any l.toArray listed = [] → lastQ P s Q .normal a w → wpOp P (l ++ [s]).toArray Q l.length (wpAny P .any (l ++ [s]).toArray Q fuel ((listed.push false).setIfInBounds l.length true)) a w := fun fuel listed a w hsz hr hq => by
  have hr2 : Region.ready .any (l ++ [s]).toArray ((listed.push false).setIfInBounds l.length true) = [] := by
   cases hr3 : Region.ready .any (l ++ [s]).toArray ((listed.push false).setIfInBounds l.length true) with
   | nil => rfl
   | cons j r =>
    exfalso
    have hj := show j ∈ Region.ready .any (l ++ [s]).toArray ((listed.push false).setIfInBounds l.length true) by rw [hr3]; exact List.mem_cons_self ..
    by_cases e : j = l.length
    ·subst e
     obtain ⟨h1, _⟩ := mem_ready.1 hj
     rw [← hsz] at h1
     simp [Array.getD] at h1
    ·have hj2 := ready_mono2 hj e (fun j o ho e' he hb => by
      by_cases hjl : j < l.length
      ·left
       rw [hops j hjl] at ho
       have := hlex j o (by simpa using ho) e' he hb
       omega
      ·right
       have := (Array.getElem?_eq_some_iff.1 ho).1
       simp at this
       omega)
     rcases rdy listed hsz j hj2 with ⟨_, h⟩ | ⟨h, _⟩
     ·rw [hr] at h; cases h
     ·exact e h
  unfold wpOp
  rw [hopn]
  simp only [hw s hsg, if_true]
  rw [lastQ_normal] at hq
  refine .inl (Oper.wp_mono (fun a' w' hq' => ?_) hq)
  cases fuel with
  | zero => exact ⟨hr2, hq'⟩
  | succ fuel => exact ⟨fun _ => hq', by rw [hr2]; simp⟩
 intro fuel
 induction fuel with
 | zero =>
  intro listed a w hsz h
  refine ⟨fun hr => ?_, fun i hi => ?_⟩
  ·exfalso
   have := rdyn listed hsz h.1
   rw [hr] at this; cases this
  ·rcases rdy listed hsz i hi with ⟨_, hm⟩ | ⟨rfl, _⟩
   ·rw [h.1] at hm; cases hm
   ·exact last 0 listed a w hsz h.1 h.2
 | succ fuel ih =>
  intro listed a w hsz h
  refine ⟨fun hr => ?_, fun i hi => ?_⟩
  ·exfalso
   by_cases hr0 : Region.ready .any l.toArray listed = []
   ·have := rdyn listed hsz hr0
    rw [hr] at this; cases this
   ·cases hc : Region.ready .any l.toArray listed with
    | nil => exact hr0 hc
    | cons j r =>
     have hj : j ∈ Region.ready .any l.toArray listed := by rw [hc]; exact List.mem_cons_self ..
     have := up listed hsz j hj
     rw [hr] at this; cases this
  ·rcases rdy listed hsz i hi with ⟨hi2, hm⟩ | ⟨rfl, hr⟩
   ·have h2 := h.2 i hm
    obtain ⟨o, ho⟩ : ∃ o, l[i]? = some o := ⟨_, List.getElem?_eq_getElem hi2⟩
    unfold wpOp at h2 ⊢
    rw [hops i hi2]
    have ho' : l.toArray[i]? = some o := by simpa using ho
    rw [ho'] at h2 ⊢
    simp only [hw o (hlg i o ho), if_true] at h2 ⊢
    rcases h2 with h2 | h2
    ·refine .inl (wp_lastQ (fun a' w' hk => ?_) h2)
     rw [setp listed i (by omega)]
     exact ih _ a' w' (by simpa using hsz) hk
    ·exact .inr ⟨h2.1, lets_lastQ h2.2⟩
   ·exact last (fuel + 1) listed a w hsz hr (h.1 hr)
theorem every_last {L : List Oper} {a : Act} {w : World} (n : Nat) (hn : L[n]? = some s) (hlen : L.length = n + 1) (hB : waitsAllB (L.take n) s = true) (hlex : dagB (L.take n) a.tmps.size = true) (h : Every P (L.take n) (lastQ P s Q) a w) : Every P L Q a w := by
 intro w1 hw1
 have hL : L = L.take n ++ [s] := by
  have h1 : L.take (n + 1) = L := List.take_of_length_le (by omega)
  rw [← h1, List.take_add_one, hn]
  rw [List.take_append_of_le_length (by rw [List.length_take]; omega), List.take_take]
  simp
 have h2 := h w1 hw1
 obtain ⟨_, _, h3⟩ := dagB_spec hlex
 have hln : (L.take n).length = n := by rw [List.length_take]; omega
 have := snoc_any hB (fun j o ho => h3 j o (by simpa using ho)) (L.take n).toArray.size (Array.replicate (L.take n).toArray.size false) a w1 (by simp) h2
 rw [← hL] at this
 have e : Array.replicate L.toArray.size false = (Array.replicate (L.take n).toArray.size false).push false := by
  rw [List.size_toArray, List.size_toArray, hln, hlen, Array.replicate_succ]
 have e2 : L.toArray.size = (L.take n).toArray.size + 1 := by rw [List.size_toArray, List.size_toArray, hln, hlen]
 rw [e, e2]
 exact this
theorem lastQ_do {a : Act} {w w' : World} (hy : (execOp a.eval s).run P w = .ok .skip w') (h : Q .normal (a.put s.dst undef) w') : lastQ P s Q .normal a w := by
 rw [lastQ_normal]
 unfold Oper.wp
 rw [hy]; exact h
end
end Go.Rg
namespace Go.Proofs.YthbplhglfjlngaaGreat
open Go.RowKit Go.Rg Go.Wd Go.Mg
section
variable {a b c d size : Int}
end
end Go.Proofs.YthbplhglfjlngaaGreat
