/- Plain laws on numbers of any length: digits of the base 2^15, the lowest first. No program in sight. -/
import Derived.Test.YthbplhglfjlngaaGreatShelf
import Derived.Test.YthbplhglfjlngaaGreatRows
import Derived.Test.YthbplhglfjlngaaGreatGPa
import Derived.Deep.LoopGhost
import Derived.Deep.RegionHeld3
import Derived.BigQuiet
import Derived.Handy
import Derived.WalkSpells
import Derived.WalkLawsBesides
import Derived.Lib.Hide
set_option linter.unusedVariables false
set_option linter.unusedSimpArgs false
namespace Go.Proofs.YthbplhglfjlngaaGreat.Bg
def val : List Nat → Nat
 | [] => 0
 | d :: l => d + 32768 * val l
def ok (l : List Nat) : Prop := ∀ d ∈ l, d < 32768
def nz (l : List Nat) : Prop := l.getLast? ≠ some 0
theorem val_append (a b : List Nat) : val (a ++ b) = val a + 32768 ^ a.length * val b := by
 induction a with
 | nil => simp [val]
 | cons d a ih =>
  simp only [List.cons_append, val, ih, List.length_cons, Nat.pow_succ, Nat.mul_add]
  rw [← Nat.add_assoc, ← Nat.mul_assoc, Nat.mul_comm 32768 (32768 ^ a.length)]
theorem val_snoc (l : List Nat) (d : Nat) : val (l ++ [d]) = val l + 32768 ^ l.length * d := by
 rw [val_append]; simp [val]
theorem val_lt (l : List Nat) (h : ok l) : val l < 32768 ^ l.length := by
 induction l with
 | nil => simp [val]
 | cons d l ih =>
  have h1 := h d (by simp)
  have h2 := ih (fun x hx => h x (by simp [hx]))
  simp only [val, List.length_cons, Nat.pow_succ]
  omega
theorem ok_take {l : List Nat} (h : ok l) (n : Nat) : ok (l.take n) := fun d hd => h d (List.mem_of_mem_take hd)
theorem ok_snoc {l : List Nat} (h : ok l) {d : Nat} (hd : d < 32768) : ok (l ++ [d]) := by
 intro x hx
 rcases List.mem_append.1 hx with h1 | h1
 ·exact h x h1
 ·rw [List.mem_singleton] at h1; rw [h1]; exact hd
theorem take_at (l : List Nat) (k : Nat) : val (l.take (k + 1)) = val (l.take k) + 32768 ^ k * l[k]?.getD 0 := by
 rw [List.take_add_one]
 cases hh : l[k]? with
 | none => simp
 | some d =>
  have hlt : k < l.length := (List.getElem?_eq_some_iff.1 hh).1
  rw [show (some d).toList = [d] from rfl, val_snoc, List.length_take, Nat.min_eq_left (by omega)]; rfl
theorem trim_step {l : List Nat} {n : Nat} (h : val (l.take (n + 1)) = val l) (h0 : l[n]? = some 0) : val (l.take n) = val l := by
 rw [← h, take_at, h0]; simp
theorem trim_nz {l : List Nat} {n d : Nat} (h0 : l[n]? = some d) (hd : d ≠ 0) : nz (l.take (n + 1)) := by
 unfold nz
 rw [List.take_add_one, h0, show (some d).toList = [d] from rfl, List.getLast?_append]
 simpa using hd
theorem nz_ge {l : List Nat} (h : nz l) (hl : l ≠ []) : 32768 ^ (l.length - 1) ≤ val l := by
 have e := List.dropLast_concat_getLast hl
 have hd : l.getLast hl ≠ 0 := fun h0 => h (by rw [List.getLast?_eq_some_getLast hl, h0])
 have h1 : val l = val l.dropLast + 32768 ^ (l.length - 1) * l.getLast hl := by
  conv => lhs; rw [← e]
  rw [val_snoc, List.length_dropLast]
 have h2 : 32768 ^ (l.length - 1) * 1 ≤ 32768 ^ (l.length - 1) * l.getLast hl := Nat.mul_le_mul_left _ (by omega)
 omega
theorem nz_zero {l : List Nat} (h : nz l) (h0 : val l = 0) : l = [] := by
 apply Classical.byContradiction
 intro hl
 have := nz_ge h hl
 have hp : 0 < 32768 ^ (l.length - 1) := Nat.pow_pos (by decide)
 omega
theorem len_le {l : List Nat} (h : nz l) {K : Nat} (hv : val l < 32768 ^ K) : l.length ≤ K := by
 apply Classical.byContradiction
 intro hc
 have hl : l ≠ [] := by rintro rfl; simp at hc
 have h1 := nz_ge h hl
 have h2 : 32768 ^ K ≤ 32768 ^ (l.length - 1) := Nat.pow_le_pow_right (by decide) (by omega)
 omega
theorem shorter {a b : List Nat} (ha : ok a) (hb : nz b) (h : a.length < b.length) : val a < val b := by
 have h1 := val_lt a ha
 have h2 := nz_ge hb (by rintro rfl; simp at h)
 have h3 : 32768 ^ a.length ≤ 32768 ^ (b.length - 1) := Nat.pow_le_pow_right (by decide) (by omega)
 omega
theorem drop_at {l : List Nat} {i d : Nat} (h : l[i]? = some d) : l.drop i = d :: l.drop (i + 1) := by
 obtain ⟨hlt, he⟩ := List.getElem?_eq_some_iff.1 h
 rw [List.drop_eq_getElem_cons hlt, he]
theorem val_split (l : List Nat) (i : Nat) (h : i ≤ l.length) : val l = val (l.take i) + 32768 ^ i * val (l.drop i) := by
 conv => lhs; rw [← List.take_append_drop i l]
 rw [val_append, List.length_take, Nat.min_eq_left h]
theorem less_at {a b : List Nat} (ha : ok a) (hl : a.length = b.length) {i x y : Nat} (h : a.drop (i + 1) = b.drop (i + 1)) (hx : a[i]? = some x) (hy : b[i]? = some y) (hxy : x < y) : val a < val b := by
 have h1 : i < a.length := (List.getElem?_eq_some_iff.1 hx).1
 rw [val_split a i (by omega), val_split b i (by omega), drop_at hx, drop_at hy, h]
 simp only [val]
 have h2 := val_lt _ (ok_take ha i)
 rw [List.length_take, Nat.min_eq_left (by omega)] at h2
 have h3 : 32768 ^ i * (x + 32768 * val (b.drop (i + 1)) + 1) ≤ 32768 ^ i * (y + 32768 * val (b.drop (i + 1))) := Nat.mul_le_mul_left _ (by omega)
 rw [Nat.mul_add, Nat.mul_one] at h3
 omega
theorem same_at {a b : List Nat} {i x : Nat} (h : a.drop (i + 1) = b.drop (i + 1)) (hx : a[i]? = some x) (hy : b[i]? = some x) : a.drop i = b.drop i := by
 rw [drop_at hx, drop_at hy, h]
theorem more_step (la lb out : List Nat) (k c n : Nat) (hlen : out.length = k) (hn : n = c + la[k]?.getD 0 + lb[k]?.getD 0) (h : val out + 32768 ^ k * c = val (la.take k) + val (lb.take k)) :
  val (out ++ [n % 32768]) + 32768 ^ (k + 1) * (n / 32768) = val (la.take (k + 1)) + val (lb.take (k + 1)) := by
 rw [take_at, take_at, val_snoc, hlen, Nat.pow_succ, Nat.mul_assoc]
 have e := congrArg (32768 ^ k * ·) ((Nat.mod_add_div n 32768).trans hn)
 simp only [Nat.mul_add] at e
 omega
theorem less_step (la lb out : List Nat) (k c n' c' : Nat) (hlen : out.length = k) (h : val out + val (lb.take k) = val (la.take k) + 32768 ^ k * c) (hn : la[k]?.getD 0 + 32768 * c' = n' + c + lb[k]?.getD 0) :
  val (out ++ [n']) + val (lb.take (k + 1)) = val (la.take (k + 1)) + 32768 ^ (k + 1) * c' := by
 rw [take_at, take_at, val_snoc, hlen, Nat.pow_succ, Nat.mul_assoc]
 have e := congrArg (32768 ^ k * ·) hn
 simp only [Nat.mul_add] at e
 omega
theorem more_end (la lb out : List Nat) (k c : Nat) (hlen : out.length = k) (ha : la.length ≤ k) (hb : lb.length ≤ k) (h : val out + 32768 ^ k * c = val (la.take k) + val (lb.take k)) : val (out ++ [c]) = val la + val lb := by
 rw [List.take_of_length_le ha, List.take_of_length_le hb] at h
 rw [val_snoc, hlen, h]
theorem less_end (la lb out : List Nat) (c : Nat) (hlen : out.length = la.length) (ho : ok out) (hlb : lb.length ≤ la.length) (hle : val lb ≤ val la) (h : val out + val (lb.take la.length) = val (la.take la.length) + 32768 ^ la.length * c) : val out = val la - val lb := by
 rw [List.take_of_length_le (Nat.le_refl _), List.take_of_length_le hlb] at h
 have h1 := val_lt out ho
 rw [hlen] at h1
 have : c = 0 := by
  rcases Nat.eq_zero_or_pos c with h | h
  ·exact h
  ·have : 32768 ^ la.length * 1 ≤ 32768 ^ la.length * c := Nat.mul_le_mul_left _ h
   omega
 subst this
 omega
theorem val_set (l : List Nat) (j v : Nat) (h : j < l.length) : val (l.set j v) + 32768 ^ j * l[j] = val l + 32768 ^ j * v := by
 induction l generalizing j with
 | nil => simp at h
 | cons d l ih =>
  cases j with
  | zero => simp [val]; omega
  | succ j =>
   have := ih j (by simpa using h)
   simp only [List.set_cons_succ, val, List.getElem_cons_succ, Nat.pow_succ]
   have e : ∀ z, 32768 ^ j * 32768 * z = 32768 * (32768 ^ j * z) := by intro z; rw [Nat.mul_comm (32768 ^ j), Nat.mul_assoc]
   rw [e, e]
   omega
theorem ok_set {l : List Nat} (h : ok l) (j : Nat) {v : Nat} (hv : v < 32768) : ok (l.set j v) := by
 intro x hx
 rcases List.mem_or_eq_of_mem_set hx with h1 | h1
 ·exact h x h1
 ·omega
theorem set_at (l : List Nat) (j v i : Nat) (h : i ≠ j) : (l.set j v)[i]? = l[i]? := by rw [List.getElem?_set_ne (by omega)]
theorem mul_step (out la lb : List Nat) (R x i k c n : Nat) (hij : i + k < out.length) (hk : k < lb.length) (hn : n = out[i + k] + x * lb[k] + c)
  (h : val out + 32768 ^ (i + k) * c = R + 32768 ^ i * (x * val (lb.take k))) :
  val (out.set (i + k) (n % 32768)) + 32768 ^ (i + (k + 1)) * (n / 32768) = R + 32768 ^ i * (x * val (lb.take (k + 1))) := by
 have h1 := val_set out (i + k) (n % 32768) hij
 have e := congrArg (32768 ^ (i + k) * ·) ((Nat.mod_add_div n 32768).trans hn)
 simp only [Nat.mul_add] at e
 rw [take_at, List.getElem?_eq_getElem hk, Option.getD_some, ← Nat.add_assoc, Nat.pow_succ, Nat.mul_assoc, Nat.mul_add, Nat.mul_add]
 have e2 : 32768 ^ i * (x * (32768 ^ k * lb[k])) = 32768 ^ (i + k) * (x * lb[k]) := by
  rw [Nat.pow_add, Nat.mul_assoc, ← Nat.mul_assoc x, Nat.mul_comm x (32768 ^ k), Nat.mul_assoc]
 rw [e2]
 omega
theorem mul_carry (o x y c : Nat) (ho : o < 32768) (hx : x < 32768) (hy : y < 32768) (hc : c < 32768) : o + x * y + c < 1073741824 ∧ (o + x * y + c) / 32768 < 32768 := by
 have : x * y ≤ 32767 * 32767 := Nat.mul_le_mul (by omega) (by omega)
 omega
theorem mul_row (out la lb : List Nat) (i x c : Nat) (hi : i + lb.length < out.length) (hx : la[i]? = some x) (h0 : out[i + lb.length] = 0)
  (h : val out + 32768 ^ (i + lb.length) * c = val (la.take i) * val lb + 32768 ^ i * (x * val (lb.take lb.length))) :
  val (out.set (i + lb.length) c) = val (la.take (i + 1)) * val lb := by
 have h1 := val_set out (i + lb.length) c hi
 rw [h0] at h1
 rw [take_at, hx, Option.getD_some, Nat.add_mul]
 rw [List.take_of_length_le (Nat.le_refl _)] at h
 rw [Nat.mul_assoc]
 omega
theorem bit_step (u i k m V room : Nat) (hi : i = 15 * k + m) (hr : room < 2 ^ m) (h : V + 32768 ^ k * room = u % 2 ^ i) :
  V + 32768 ^ k * (room + u / 2 ^ i % 2 * 2 ^ m) = u % 2 ^ (i + 1) ∧ room + u / 2 ^ i % 2 * 2 ^ m < 2 ^ (m + 1) := by
 have hp : 32768 ^ k * 2 ^ m = 2 ^ i := by rw [show (32768 : Nat) = 2 ^ 15 from rfl, ← Nat.pow_mul, ← Nat.pow_add, hi]
 refine ⟨?_, ?_⟩
 ·rw [Nat.mod_pow_succ, ← h, Nat.mul_add, ← hp, Nat.add_assoc]
  congr 2
  rw [Nat.mul_comm (u / _ % 2), ← Nat.mul_assoc]
 ·have : u / 2 ^ i % 2 * 2 ^ m ≤ 1 * 2 ^ m := Nat.mul_le_mul_right _ (by omega)
  rw [Nat.pow_succ]; omega
theorem ok_zeros (n : Nat) : ok (List.replicate n 0) := by intro d hd; rw [List.mem_replicate] at hd; omega
theorem val_zeros (n : Nat) : val (List.replicate n 0) = 0 := by
 induction n with
 | zero => rfl
 | succ n ih => rw [List.replicate_succ, val, ih]
def sgn (neg : Bool) (n : Nat) : Int := if neg then -(n : Int) else n
def cmpN (x y : Nat) : Int := if x < y then -1 else if y < x then 1 else 0
def cmpI (x y : Int) : Int := if x < y then -1 else if y < x then 1 else 0
end Go.Proofs.YthbplhglfjlngaaGreat.Bg
namespace Go.Proofs.YthbplhglfjlngaaGreat
open Go.RowKit Go.Rg Bg
attribute [local go_sem] Oper.semAt_some
def ints (l : List Nat) : List Value := l.map fun d : Nat => .int .i64 (d : Int)
theorem ints_at {l : List Nat} {i d : Nat} (h : l[i]? = some d) : (ints l)[i]? = some (.int .i64 (d : Int)) := by unfold ints; rw [List.getElem?_map, h]; rfl
theorem ints_take (l : List Nat) (n : Nat) : ints (l.take n) = (ints l).take n := by unfold ints; rw [List.map_take]
theorem ints_snoc (l : List Nat) (d : Nat) : ints (l ++ [d]) = ints l ++ [.int .i64 (d : Int)] := by unfold ints; rw [List.map_append]; rfl
def RdN (w : World) (B : Nat) (v : Value) (n : Nat) (xs : List Value) : Prop := Reads w B v n xs ∧ RdT 3 w v n xs
theorem RdN.mono {w : World} {B B' : Nat} {v : Value} {n : Nat} {xs : List Value} (h : RdN w B v n xs) (hB : B ≤ B') : RdN w B' v n xs := ⟨h.1.mono hB, h.2⟩
theorem RdN.below {w w' : World} {B : Nat} {v : Value} {n : Nat} {xs : List Value} (h : RdN w B v n xs) (hb : Below B w w') : RdN w' B v n xs := by
 refine ⟨h.1.below hb, ?_⟩
 rcases h.1 with h1 | ⟨g, off, cap, rfl, h1, _⟩
 ·exact .inl h1
 ·rcases h.2 with ⟨e, _⟩ | ⟨g', off', cap', cs, fz, e, h2, h3⟩
  ·cases e
  ·cases e
   exact .inr ⟨_, _, _, cs, fz, rfl, (hb.block _ h1).trans h2, h3⟩
theorem RdN.of_own {w : World} {base size n : Nat} {v : Value} {xs : List Value} (h : w.ownsRow base 3 size v n xs) : RdN w w.heap.size v n xs := ⟨Reads.of_own h, RdT.of_own h⟩
theorem RdN.keep {w w' : World} {B : Nat} {v : Value} {n : Nat} {xs : List Value} (h : RdN w B v n xs) (hk : KeepT 3 w w') : RdN w' w'.heap.size v n xs := ⟨(h.2.keep hk).reads, h.2.keep hk⟩
theorem RdN.nil (w : World) (B : Nat) : RdN w B (.slice none 0 0) 0 [] := ⟨.inl ⟨rfl, rfl, rfl⟩, .inl ⟨rfl, rfl, rfl⟩⟩
def BigV (w : World) (B : Nat) (v : Value) (neg : Bool) (l : List Nat) : Prop := ∃ s, v = .agg #[.bool neg, s] ∧ RdN w B s l.length (ints l)
def Big (w : World) (v : Value) (x : Int) : Prop := ∃ neg l, BigV w w.heap.size v neg l ∧ ok l ∧ nz l ∧ (l = [] → neg = false) ∧ x = sgn neg (val l)
theorem Big.call {w w' : World} {v : Value} {x : Int} (h : Big w v x) (hb : Below w.heap.size w w') : Big w' v x := by
 obtain ⟨neg, l, ⟨s, hv, hr⟩, r⟩ := h
 exact ⟨neg, l, ⟨s, hv, (hr.below hb).mono hb.size⟩, r⟩
theorem reads_digits {w : World} {B : Nat} {s : Value} {l : List Nat} (h : RdN w B s l.length (ints l)) : ∃ a cap, s = .slice a l.length cap ∧ l.length ≤ cap ∧ cap ≤ maxLen ∧
  (l ≠ [] → ∃ g off, a = some ⟨g, off, none⟩ ∧ g < B ∧ ∀ (i d : Nat), l[i]? = some d → w.cell? ⟨g, off + i, none⟩ = some (.int .i64 (d : Int))) := by
 rcases h.1 with ⟨rfl, h1, h2⟩ | ⟨g, off, cap, rfl, h1, h2, h3, h4⟩
 ·rw [h1]
  exact ⟨none, 0, rfl, Nat.le_refl _, by unfold maxLen; omega, fun hl => absurd (List.eq_nil_of_length_eq_zero h1) hl⟩
 ·exact ⟨_, cap, rfl, h2, h3, fun _ => ⟨g, off, rfl, h1, fun i d hd => h4 _ _ (ints_at hd)⟩⟩
theorem zero_nil : nz [] ∧ ok [] := ⟨by unfold nz; simp, fun d hd => by cases hd⟩
theorem put2 {W : World} {b : Nat} {x0 y0 x y : Value} {t : TypeId} (h : Blk W b [x0, y0] t) : Blk ((W.setCell ⟨b, 0, none⟩ x).setCell ⟨b, 1, none⟩ y) b [x, y] t := (h.set 0 x).set 1 y
theorem put2_below {B b : Nat} {w W : World} {x y : Value} (h : Below B w W) (hB : B ≤ b) : Below B w ((W.setCell ⟨b, 0, none⟩ x).setCell ⟨b, 1, none⟩ y) := (h.setCell hB x).setCell hB y
theorem big_zero (w : World) : Big w (.agg #[.bool false, .slice none 0 0]) 0 := ⟨false, [], ⟨_, rfl, RdN.nil _ _⟩, zero_nil.2, zero_nil.1, fun _ => rfl, rfl⟩
theorem reads_prefix {w : World} {B n cap : Nat} {a : Option Addr} {l : List Nat} (h : RdN w B (.slice a l.length cap) l.length (ints l)) (hl : l ≠ []) (hn : n ≤ l.length) : RdN w B (.slice a n cap) (l.take n).length (ints (l.take n)) := by
 have e : (l.take n).length = n := by rw [List.length_take]; omega
 have ht : ∀ (j : Nat) x, (ints (l.take n))[j]? = some x → (ints l)[j]? = some x := by
  intro j x hj
  rw [ints_take, List.getElem?_take] at hj
  split at hj
  ·exact hj
  ·cases hj
 constructor
 ·rcases h.1 with ⟨h, h1, _⟩ | ⟨g, off, c, h, h1, h2, h3, h4⟩
  ·exact absurd (List.eq_nil_of_length_eq_zero h1) hl
  ·cases h
   exact .inr ⟨g, off, cap, by rw [e], h1, by omega, h3, fun j x hj => h4 j x (ht j x hj)⟩
 ·rcases h.2 with ⟨h, h1, _⟩ | ⟨g, off, c, cs, fz, h, h1, h2, h3, h4⟩
  ·exact absurd (List.eq_nil_of_length_eq_zero h1) hl
  ·cases h
   exact .inr ⟨g, off, cap, cs, fz, by rw [e], h1, by omega, h3, fun j x hj => h4 j x (ht j x hj)⟩
set_option maxHeartbeats 1000000 in
theorem trim_any (neg : Bool) (s : Value) (l : List Nat) (w : World) (h : RdN w w.heap.size s l.length (ints l)) (hok : ok l) (hl : l.length ≤ 100000) :
  Calls Tryz.prog 98 #[.agg #[.bool neg, s]] w fun e w' => ∃ v, e = .returned v ∧ Big w' v (sgn neg (val l)) ∧ Below w.heap.size w w' := by
 obtain ⟨a, cap, rfl, h1, h2, h3⟩ := reads_digits h
 unfold maxLen at h2
 have H3 := hH h3
 have HO := hH hok
 have HR := hH h
 clear h3 hok h
 obtain ⟨n, hn⟩ : ∃ n, n = l.length := ⟨_, rfl⟩
 rw [← hn] at h1 hl
 have Hn := hH hn
 rw [← hn]
 clear hn
 go_enter Tryz.func98, Tryz.ntmps98
 go_wp2_with fail
 obtain ⟨W, hW⟩ : ∃ W, (w.alloc (.cells #[.bool neg, .slice a n cap] 75)).alloc (.cells #[.bool false, .slice none 0 0] 75) = W := ⟨_, rfl⟩
 have hB1 : Blk W w.heap.size [.bool neg, .slice a n cap] 75 := hW ▸ (Blk.new w [.bool neg, .slice a n cap] _).alloc _
 have hB2 : Blk W (w.heap.size + 1) [.bool false, .slice none 0 0] 75 := by
  have := Blk.new (w.alloc (.cells #[.bool neg, .slice a n cap] 75)) [.bool false, .slice none 0 0] 75
  rw [World.size_alloc] at this
  exact hW ▸ this
 have hBw : Below w.heap.size w W := hW ▸ ((Below.refl _ w).alloc (Nat.le_refl _) _).alloc (by simp) _
 have hsz : W.heap.size = w.heap.size + 2 := by rw [← hW]; simp
 rw [hW]
 clear hW
 have c0 := hB1.cell (j := 0) rfl
 have c1 := hB1.cell (j := 1) rfl
 have d0 := hB2.cell (j := 0) rfl
 have d1 := hB2.cell (j := 1) rfl
 have f2 := hB2.frozen
 have HB2 := hH hB2
 have HBw := hH hBw
 clear hB1 hB2 hBw
 go_loopg [3] n (fun q s3 wx => s3 = .int .i64 (q : Int) ∧ W = wx ∧ q ≤ n ∧ Hid (val (l.take q) = val l))
 case atStart => exact ⟨rfl, rfl, Nat.le_refl _, by unfold Hid; rw [Hn.out, List.take_length]⟩
 case round =>
  obtain ⟨rfl, rfl, hq, Hv⟩ := hrel
  cases gk with
  | zero =>
   have Hz : Hid (val l = 0) := by unfold Hid; rw [← Hv.out]; rfl
   have Hend : Hid (∀ X, Below w.heap.size w X → (∃ v, Ending.returned (.agg #[.bool false, .slice none 0 0]) = .returned v ∧ Big X v (sgn neg (val l)) ∧ Below w.heap.size w X)) := by
    intro X hX
    exact ⟨_, rfl, by rw [Hz.out]; have := big_zero X; unfold sgn; cases neg <;> exact this, hX⟩
   have hP := put2 (x := .bool false) (y := .slice none 0 0) HB2.out
   have z0 := hP.cell (j := 0) rfl
   have z1 := hP.cell (j := 1) rfl
   have HP := hH (put2_below (x := .bool false) (y := .slice none 0 0) HBw.out (b := w.heap.size + 1) (by omega))
   clear hP
   go_wp2_with fail
   exact bodyPost_ret (v := .agg #[.bool false, .slice none 0 0]) (by simp [results, Tryz.results98, go_sem, *]) rfl (Hend.out _ HP.out)
  | succ q =>
   obtain ⟨d, hd⟩ : ∃ d, l[q]? = some d := ⟨_, List.getElem?_eq_getElem (by rw [← Hn.out]; omega)⟩
   obtain ⟨g, off, rfl, hg, hc⟩ := H3.out (fun e => by rw [e] at hd; cases hd)
   have e1 : W.cell? ⟨g, off + q, none⟩ = some (.int .i64 (d : Int)) := (HBw.out.cell (p := ⟨g, off + q, none⟩) hg).trans (hc _ _ hd)
   clear hc
   have hqc : ((q : Int) + 1) - 1 = (q : Int) := by omega
   by_cases hd0 : d = 0
   ·subst hd0
    have HS := hH (trim_step Hv.out hd)
    clear hd
    go_wp2_with fail
    go_roundg q
    case measure => omega
    case rel => exact ⟨by first | rfl | simp, rfl, by omega, HS⟩
   ·have hd1 : ((d : Int) == 0) = false := by rw [beq_eq_false_iff_ne]; omega
    have HS := hH (trim_nz hd hd0)
    clear hd
    have hl : l ≠ [] := fun e => by have := Hn.out; rw [e] at this; simp at this; omega
    have HRes := hH (reads_prefix HR.out hl (n := q + 1) (by rw [← Hn.out]; exact hq))
    have hq1 : (0 : Int) ≤ (q : Int) + 1 := by omega
    have hq2 : (q : Int) + 1 ≤ (n : Int) := by omega
    have hq3 : (q : Int) + 1 ≤ (cap : Int) := by omega
    have hq4 : ((q : Int) + 1).toNat = q + 1 := by omega
    clear hl
    go_wp2_with fail
    go_region_held3 (fun w' => w'.cell? ⟨w.heap.size, 0, none⟩ = some (.bool neg) ∧ w'.cell? ⟨w.heap.size, 1, none⟩ = some (.slice (some ⟨g, off, none⟩) n cap)) (first | exact ⟨c0, c1⟩ | go_keep) (fail)
    have hP := put2 (x := .bool neg) (y := .slice (some ⟨g, off, none⟩) (q + 1) cap) (show Blk W.drew (w.heap.size + 1) _ _ from HB2.out)
    have z0 := hP.cell (j := 0) rfl
    have z1 := hP.cell (j := 1) rfl
    have HP := hH (put2_below (x := .bool neg) (y := .slice (some ⟨g, off, none⟩) (q + 1) cap) (HBw.out.drew) (b := w.heap.size + 1) (by omega))
    clear hP
    go_wp2_with fail
    refine bodyPost_ret (v := .agg #[.bool neg, .slice (some ⟨g, off, none⟩) (q + 1) cap]) (by simp [results, Tryz.results98, go_sem, *]) rfl ⟨_, rfl, ?_, HP.out⟩
    refine ⟨neg, l.take (q + 1), ⟨_, rfl, (HRes.out.below HP.out).mono HP.out.size⟩, ok_take HO.out _, HS.out, fun e => ?_, by rw [Hv.out]⟩
    have h5 : (l.take (q + 1)).length = q + 1 := by rw [List.length_take]; have := Hn.out; omega
    rw [e] at h5; simp at h5
theorem Big.small {w : World} {v : Value} {x : Int} (h : Big w v x) {K : Nat} (hx : x.natAbs < 32768 ^ K) : ∃ neg l, BigV w w.heap.size v neg l ∧ ok l ∧ nz l ∧ (l = [] → neg = false) ∧ x = sgn neg (val l) ∧ l.length ≤ K := by
 obtain ⟨neg, l, h1, h2, h3, h4, h5⟩ := h
 refine ⟨neg, l, h1, h2, h3, h4, h5, len_le h3 ?_⟩
 have : x.natAbs = val l := by rw [h5]; unfold sgn; split <;> simp
 omega
theorem Big.form {w : World} {v : Value} {x : Int} (h : Big w v x) : ∃ n a k c, v = .agg #[.bool n, .slice a k c] := by
 obtain ⟨neg, l, ⟨s, rfl, hr⟩, _⟩ := h
 obtain ⟨a, c, rfl, _⟩ := reads_digits hr
 exact ⟨_, _, _, _, rfl⟩
theorem Big.keep {w w' : World} {v : Value} {x : Int} (h : Big w v x) (hk : KeepT 3 w w') : Big w' v x := by
 obtain ⟨neg, l, ⟨r, hv, hr⟩, q⟩ := h
 exact ⟨neg, l, ⟨r, hv, hr.keep hk⟩, q⟩
theorem Big.put {W : World} {b : Nat} {x0 : Bool} {a0 : Option Addr} {n0 c0 : Nat} {t : TypeId} {v : Value} {x : Int} (h : Big W v x) (hB : Blk W b [.bool x0, .slice a0 n0 c0] t) (u s : Value) : Big ((W.setCell ⟨b, 0, none⟩ u).setCell ⟨b, 1, none⟩ s) v x := by
 obtain ⟨neg, l, ⟨r, hv, hr⟩, q⟩ := h
 refine ⟨neg, l, ⟨r, hv, ?_⟩, q⟩
 rcases hr.2 with hr | ⟨g, off, cap, cs, fz, h1, h2, h3, h4, h5⟩
 ·exact ⟨.inl hr, .inl hr⟩
 ·by_cases hl : l = []
  ·subst hl
   by_cases hne : g = b
   ·subst hne
    have hP := put2 (x := u) (y := s) hB
    unfold Blk at hP hB
    refine (fun (h : RdT _ _ _ _ _) => ⟨h.reads, h⟩) (.inr ⟨g, off, cap, #[u, s], (0, 0), h1, ?_, h3, h4, fun j x hj => by cases hj⟩)
    rw [hB] at h2; cases h2; exact hP
   ·refine (fun (h : RdT _ _ _ _ _) => ⟨h.reads, h⟩) (.inr ⟨g, off, cap, cs, fz, h1, ?_, h3, h4, h5⟩)
    rw [Below.heap_setCell _ _ _ g (by simpa using hne), Below.heap_setCell _ _ _ g (by simpa using hne)]; exact h2
  ·have hne : g ≠ b := by
    rintro rfl
    obtain ⟨d, l', rfl⟩ : ∃ d l', l = d :: l' := by cases l with
     | nil => exact absurd rfl hl
     | cons d l' => exact ⟨d, l', rfl⟩
    have h6 := h5 0 (.int .i64 (d : Int)) rfl
    unfold Blk at hB
    rw [hB] at h2
    cases h2
    generalize off + 0 = k at h6
    match k, h6 with
    | 0, h6 => simp at h6
    | 1, h6 => simp at h6
    | k + 2, h6 => simp at h6
   refine (fun (h : RdT _ _ _ _ _) => ⟨h.reads, h⟩) (.inr ⟨g, off, cap, cs, fz, h1, ?_, h3, h4, h5⟩)
   rw [Below.heap_setCell _ _ _ g (by simpa using hne), Below.heap_setCell _ _ _ g (by simpa using hne)]; exact h2
theorem minus_any (v : Value) (x : Int) (w : World) (h : Big w v x) :
  Calls Tryz.prog 77 #[v] w fun e w' => ∃ v', e = .returned v' ∧ Big w' v' (-x) ∧ Below w.heap.size w w' := by
 obtain ⟨neg, l, ⟨s, rfl, hr⟩, h1, h2, h3, h4⟩ := h
 obtain ⟨a, cap, rfl, hc1, hc2, _⟩ := reads_digits hr
 unfold maxLen at hc2
 have HR := hH hr
 clear hr
 obtain ⟨n, hn⟩ : ∃ n, n = l.length := ⟨_, rfl⟩
 rw [← hn] at hc1
 have Hn := hH hn
 rw [← hn]
 have H1 := hH h1
 have H2 := hH h2
 have H3 := hH h3
 have H4 := hH h4
 clear hn h1 h2 h3 h4
 by_cases h0 : n = 0
 ·have hl : l = [] := List.eq_nil_of_length_eq_zero (by rw [← Hn.out]; exact h0)
  subst hl
  subst h0
  have hng := H3.out rfl
  subst hng
  have hres : ∀ X, Below w.heap.size w X → Big X (.agg #[.bool false, .slice a 0 cap]) (-x) := fun X hX => by
   rw [H4.out]; exact ⟨false, [], ⟨_, rfl, (HR.out.below hX).mono hX.size⟩, H1.out, H2.out, fun _ => rfl, rfl⟩
  have HRes := hH hres
  clear hres
  go_enter Tryz.func77, Tryz.ntmps77
  go_wp2_with fail
  go_returns
  exact ⟨_, rfl, HRes.out _ (by go_grown), by go_grown⟩
 ·have h0' : ((n : Int) == 0) = false := by rw [beq_eq_false_iff_ne]; omega
  have hres : ∀ X, Below w.heap.size w X → Big X (.agg #[.bool (!neg), .slice a n cap]) (-x) := fun X hX => by
   rw [H4.out, Hn.out]; refine ⟨!neg, l, ⟨_, rfl, (HR.out.below hX).mono hX.size⟩, H1.out, H2.out, fun e => ?_, by unfold sgn; cases neg <;> simp⟩
   exact absurd (Hn.out.trans (by rw [e]; rfl)) h0
  have HRes := hH hres
  clear hres h0
  go_enter Tryz.func77, Tryz.ntmps77
  go_wp2_with fail
  go_returns
  exact ⟨_, rfl, HRes.out _ (by go_grown), by go_grown⟩
end Go.Proofs.YthbplhglfjlngaaGreat
namespace Go.Proofs.YthbplhglfjlngaaGreat
open Go.RowKit Go.Rg Bg
attribute [local go_sem] Oper.semAt_some
theorem cell_at {w wx : World} {a : Option Addr} {B n cap : Nat} {l : List Nat} (h : l ≠ [] → ∃ g off, a = some ⟨g, off, none⟩ ∧ g < B ∧ ∀ (i d : Nat), l[i]? = some d → w.cell? ⟨g, off + i, none⟩ = some (.int .i64 (d : Int))) (hb : Below B w wx) (i d : Nat) (hd : l[i]? = some d) :
  ∃ g off, a = some ⟨g, off, none⟩ ∧ wx.cell? ⟨g, off + i, none⟩ = some (.int .i64 (d : Int)) := by
 obtain ⟨g, off, h1, h2, h3⟩ := h (fun e => by rw [e] at hd; cases hd)
 exact ⟨g, off, h1, (hb.cell (p := ⟨g, off + i, none⟩) h2).trans (h3 i d hd)⟩
set_option maxHeartbeats 1000000 in
theorem sizes_any (s1 s2 : Value) (l1 l2 : List Nat) (w : World) (h1 : RdN w w.heap.size s1 l1.length (ints l1)) (h2 : RdN w w.heap.size s2 l2.length (ints l2)) (ho1 : ok l1) (ho2 : ok l2) (hz1 : nz l1) (hz2 : nz l2) (hl1 : l1.length ≤ 100000) (hl2 : l2.length ≤ 100000) :
  Calls Tryz.prog 96 #[s1, s2] w fun e w' => e = .returned (.int .i64 (cmpN (val l1) (val l2))) ∧ Below w.heap.size w w' := by
 obtain ⟨a1, c1, rfl, p1, p2, p3⟩ := reads_digits h1
 obtain ⟨a2, c2, rfl, q1, q2, q3⟩ := reads_digits h2
 unfold maxLen at p2 q2
 have P3 := hH p3
 have Q3 := hH q3
 obtain ⟨n, hn⟩ : ∃ n, n = l1.length := ⟨_, rfl⟩
 obtain ⟨m, hm⟩ : ∃ m, m = l2.length := ⟨_, rfl⟩
 rw [← hn] at p1 hl1 ⊢
 rw [← hm] at q1 hl2 ⊢
 have Hn := hH hn
 have Hm := hH hm
 have O1 := hH ho1
 have O2 := hH ho2
 have Z1 := hH hz1
 have Z2 := hH hz2
 clear p3 q3 hn hm ho1 ho2 hz1 hz2 h1 h2
 have one : Hid (val l1 < val l2 → cmpN (val l1) (val l2) = -1) := fun h => by unfold cmpN; rw [if_pos h]
 have two : Hid (val l2 < val l1 → cmpN (val l1) (val l2) = 1) := fun h => by unfold cmpN; rw [if_neg (by omega), if_pos h]
 have three : Hid (val l1 = val l2 → cmpN (val l1) (val l2) = 0) := fun h => by unfold cmpN; rw [if_neg (by omega), if_neg (by omega)]
 generalize cmpN (val l1) (val l2) = R at *
 by_cases hlt : n < m
 ·have HR := hH (one.out (shorter O1.out Z2.out (by rw [← Hn.out, ← Hm.out]; exact hlt)))
  have hne : ((n : Int) == (m : Int)) = false := by rw [beq_eq_false_iff_ne]; omega
  have hne2 : ((n : Int) != (m : Int)) = true := by rw [bne, hne]; rfl
  go_enter Tryz.func96, Tryz.ntmps96
  go_wp2_with fail
  go_ret
  exact ⟨by rw [HR.out]; rfl, Below.refl _ _⟩
 by_cases hgt : m < n
 ·have HR := hH (two.out (shorter O2.out Z1.out (by rw [← Hn.out, ← Hm.out]; exact hgt)))
  have hne : ((n : Int) == (m : Int)) = false := by rw [beq_eq_false_iff_ne]; omega
  have hne2 : ((n : Int) != (m : Int)) = true := by rw [bne, hne]; rfl
  go_enter Tryz.func96, Tryz.ntmps96
  go_wp2_with fail
  go_ret
  exact ⟨by rw [HR.out]; rfl, Below.refl _ _⟩
 obtain rfl : n = m := by omega
 clear hlt hgt
 have hlen : Hid (l1.length = l2.length) := Hn.out.symm.trans Hm.out
 go_enter Tryz.func96, Tryz.ntmps96
 go_wp2_with fail
 go_loopg [5] n (fun q s5 wx => s5 = .int .i64 ((q : Int) - 1) ∧ q ≤ n ∧ Hid (l1.drop q = l2.drop q) ∧ Hid (Below w.heap.size w wx))
 case atStart => exact ⟨rfl, Nat.le_refl _, by unfold Hid; rw [List.drop_of_length_le (by rw [← Hn.out]; exact Nat.le_refl _), List.drop_of_length_le (by rw [← Hm.out]; exact Nat.le_refl _)], Below.refl _ _⟩
 case round =>
  obtain ⟨rfl, hq, Hd, Hb⟩ := hrel
  cases gk with
  | zero =>
   have HR := hH (three.out (by have := Hd.out; rw [List.drop_zero, List.drop_zero] at this; rw [this]))
   go_wp2_with fail
   go_ret
   exact ⟨by rw [HR.out]; rfl, Hb.out⟩
  | succ q =>
   obtain ⟨d1, hd1⟩ : ∃ d, l1[q]? = some d := ⟨_, List.getElem?_eq_getElem (by rw [← Hn.out]; omega)⟩
   obtain ⟨d2, hd2⟩ : ∃ d, l2[q]? = some d := ⟨_, List.getElem?_eq_getElem (by rw [← Hm.out]; omega)⟩
   obtain ⟨g1, o1, rfl, e1⟩ := cell_at (n := n) (cap := c1) P3.out Hb.out q d1 hd1
   obtain ⟨g2, o2, rfl, e2⟩ := cell_at (n := n) (cap := c2) Q3.out Hb.out q d2 hd2
   have hqi : ((q + 1 : Nat) : Int) - 1 = (q : Int) := by omega
   rw [hqi]
   have hq0 : (0 : Int) ≤ (q : Int) := by omega
   have hq1 : (q : Int) < (n : Int) := by omega
   have hqn : ((q : Int)).toNat = q := by omega
   by_cases hlt : d1 < d2
   ·have HR := hH (one.out (less_at O1.out hlen.out Hd.out hd1 hd2 hlt))
    have hlt' : (d1 : Int) < (d2 : Int) := by omega
    clear hd1 hd2 hqi
    go_wp2_with fail
    go_quiet (fail)
    go_wp2_with fail
    go_ret
    exact ⟨by rw [HR.out]; rfl, below_drewN Hb.out _⟩
   ·by_cases hgt : d2 < d1
    ·have HR := hH (two.out (less_at O2.out hlen.out.symm Hd.out.symm hd2 hd1 hgt))
     have hgt' : (d2 : Int) < (d1 : Int) := by omega
     clear hd1 hd2 hqi
     go_wp2_with fail
     go_quiet (fail)
     go_wp2_with fail
     go_quiet (fail)
     go_wp2_with fail
     go_ret
     exact ⟨by rw [HR.out]; rfl, below_drewN (below_drewN Hb.out _) _⟩
    ·obtain rfl : d1 = d2 := by omega
     have HS := hH (same_at Hd.out hd1 hd2)
     clear hd1 hd2 hqi hlt hgt
     go_wp2_with fail
     go_quiet (fail)
     go_wp2_with fail
     go_quiet (fail)
     go_wp2_with fail
     go_roundg q
     case measure => omega
     case rel => exact ⟨by first | rfl | simp, by omega, HS, below_drewN Hb.out _⟩
def lim : Nat := 32768 ^ 200
theorem sgn_pos {neg : Bool} {l : List Nat} (hz : nz l) (hn : l = [] → neg = false) (h : neg = true) : 0 < val l := by
 rcases Nat.eq_zero_or_pos (val l) with h0 | h0
 ·have := hn (nz_zero hz h0); rw [h] at this; cases this
 ·exact h0
theorem cmp_signs {n1 n2 : Bool} {l1 l2 : List Nat} (z1 : nz l1) (h1 : l1 = [] → n1 = false) (z2 : nz l2) (h2 : l2 = [] → n2 = false) :
  cmpI (sgn n1 (val l1)) (sgn n2 (val l2)) = if n1 = n2 then (if n1 then cmpN (val l2) (val l1) else cmpN (val l1) (val l2)) else if n1 then -1 else 1 := by
 have p1 := sgn_pos z1 h1
 have p2 := sgn_pos z2 h2
 unfold cmpI cmpN sgn
 cases n1 <;> cases n2 <;> simp at p1 p2 ⊢
 ·repeat' split
  all_goals first | rfl | omega
 ·repeat' split
  all_goals first | rfl | omega
set_option maxHeartbeats 1000000 in
theorem cmp_any (v1 v2 : Value) (x y : Int) (w : World) (b1 : Big w v1 x) (b2 : Big w v2 y) (hx : x.natAbs < lim) (hy : y.natAbs < lim) :
  Calls Tryz.prog 79 #[v1, v2] w fun e w' => e = .returned (.int .i64 (cmpI x y)) ∧ Below w.heap.size w w' := by
 obtain ⟨n1, l1, ⟨s1, rfl, r1⟩, o1, z1, m1, e1, k1⟩ := b1.small hx
 obtain ⟨n2, l2, ⟨s2, rfl, r2⟩, o2, z2, m2, e2, k2⟩ := b2.small hy
 have hc := cmp_signs z1 m1 z2 m2
 rw [← e1, ← e2] at hc
 have HC := hH hc
 generalize cmpI x y = R at *
 have S12 : Hid (∀ X, Below w.heap.size w X → Calls Tryz.prog 96 #[s1, s2] X fun e X' => e = .returned (.int .i64 (cmpN (val l1) (val l2))) ∧ Below X.heap.size X X') := fun X hX =>
  sizes_any s1 s2 l1 l2 X ((r1.below hX).mono hX.size) ((r2.below hX).mono hX.size) o1 o2 z1 z2 (by omega) (by omega)
 have S21 : Hid (∀ X, Below w.heap.size w X → Calls Tryz.prog 96 #[s2, s1] X fun e X' => e = .returned (.int .i64 (cmpN (val l2) (val l1))) ∧ Below X.heap.size X X') := fun X hX =>
  sizes_any s2 s1 l2 l1 X ((r2.below hX).mono hX.size) ((r1.below hX).mono hX.size) o2 o1 z2 z1 (by omega) (by omega)
 obtain ⟨a1, c1, rfl, _⟩ := reads_digits r1
 obtain ⟨a2, c2, rfl, _⟩ := reads_digits r2
 clear o1 z1 m1 e1 k1 o2 z2 m2 e2 k2 hc r1 r2 hx hy
 cases n1 <;> cases n2
 ·have hR : Hid (R = cmpN (val l1) (val l2)) := HC.out
  generalize cmpN (val l1) (val l2) = R1 at *
  go_enter Tryz.func79, Tryz.ntmps79
  go_wp2_with fail
  refine (S12.out _ (by go_grown)).mono ?_
  rintro e w5 ⟨rfl, hb5⟩
  have hb6 : Below w.heap.size w w5 := by
   refine Below.trans ?_ (hb5.mono ?_)
   ·go_grown
   ·simp; omega
  clear hb5
  go_wp2_with fail
  go_ret
  exact ⟨by rw [hR.out]; rfl, hb6⟩
 ·have hR : Hid (R = 1) := HC.out
  go_enter Tryz.func79, Tryz.ntmps79
  go_wp2_with fail
  go_ret
  exact ⟨by rw [hR.out]; rfl, by go_grown⟩
 ·have hR : Hid (R = -1) := HC.out
  go_enter Tryz.func79, Tryz.ntmps79
  go_wp2_with fail
  go_ret
  exact ⟨by rw [hR.out]; rfl, by go_grown⟩
 ·have hR : Hid (R = cmpN (val l2) (val l1)) := HC.out
  generalize cmpN (val l2) (val l1) = R1 at *
  go_enter Tryz.func79, Tryz.ntmps79
  go_wp2_with fail
  refine (S21.out _ (by go_grown)).mono ?_
  rintro e w5 ⟨rfl, hb5⟩
  have hb6 : Below w.heap.size w w5 := by
   refine Below.trans ?_ (hb5.mono ?_)
   ·go_grown
   ·simp; omega
  clear hb5
  go_wp2_with fail
  go_ret
  exact ⟨by rw [hR.out]; rfl, hb6⟩
theorem sign_any (v : Value) (x : Int) (w : World) (b : Big w v x) (hx : x.natAbs < lim) :
  Calls Tryz.prog 78 #[v] w fun e w' => e = .returned (.int .i64 (cmpI x 0)) ∧ Below w.heap.size w w' := by
 have hC : Hid (∀ X, Below w.heap.size w X → Calls Tryz.prog 79 #[v, .agg #[.bool false, .slice none 0 0]] X fun e X' => e = .returned (.int .i64 (cmpI x 0)) ∧ Below X.heap.size X X') := fun X hX =>
  cmp_any _ _ x 0 X (b.call hX) (big_zero X) hx (by unfold lim; exact Nat.pow_pos (by decide))
 obtain ⟨n1, l1, ⟨s1, rfl, r1⟩, _⟩ := b
 obtain ⟨a1, c1, rfl, _⟩ := reads_digits r1
 clear r1 hx
 generalize cmpI x 0 = R at *
 go_enter Tryz.func78, Tryz.ntmps78
 go_wp2_with fail
 refine (hC.out _ (by go_grown)).mono ?_
 rintro e w5 ⟨rfl, hb5⟩
 have hb6 : Below w.heap.size w w5 := by
  refine Below.trans ?_ (hb5.mono ?_)
  ·go_grown
  ·simp
 clear hb5
 go_wp2_with fail
 go_ret
 exact ⟨rfl, hb6⟩
end Go.Proofs.YthbplhglfjlngaaGreat
namespace Go.Proofs.YthbplhglfjlngaaGreat
open Go.RowKit Go.Rg Bg
attribute [local go_sem] Oper.semAt_some
theorem info_int : (Tryz.prog.info? 3).map (fun i => (i.zero, i.size, i.bytes)) = some (some (.int .i64 0), 1, 8) := by kernel_rfl
set_option maxHeartbeats 2000000 in
theorem words_any (b : Nat) (c : Nat) (u : Nat) (w : World) (hb : b < w.heap.size) (hc : w.cell? ⟨b, 0, none⟩ = some (.int .u64 (u : Int))) (hu : u < 18446744073709551616) :
  Calls Tryz.prog 95 #[.slice (some ⟨b, 0, none⟩) 1 c] w fun e w' => ∃ v, e = .returned v ∧ Big w' v (u : Int) ∧ Below w.heap.size w w' := by
 go_enter Tryz.func95, Tryz.ntmps95
 go_wp2_with fail
 obtain ⟨W, hW⟩ : ∃ W, w.alloc (.cells #[.bool false, .slice none 0 0] 75) = W := ⟨_, rfl⟩
 have hB2 : Blk W w.heap.size [.bool false, .slice none 0 0] 75 := hW ▸ Blk.new w _ _
 have hBw : Below w.heap.size w W := hW ▸ (Below.refl _ w).alloc (Nat.le_refl _) _
 have hsz : W.heap.size = w.heap.size + 1 := by rw [← hW]; simp
 rw [hW]
 clear hW
 have hc1 : W.cell? ⟨b, 0, none⟩ = some (.int .u64 (u : Int)) := (hBw.cell (p := ⟨b, 0, none⟩) hb).trans hc
 have hbW : b < W.heap.size := by omega
 have HB2 := hH hB2
 have HBw := hH hBw
 have HSZ := hH hsz
 clear hB2 hBw hc hsz
 go_loopg [3, 4, 5, 6] 64 (fun q s3 s4 s5 s6 wx => ∃ (i k m room : Nat) (out : List Nat), i + q = 64 ∧ i = 15 * k + m ∧ m < 15 ∧ s6 = .int .i64 (i : Int) ∧ s5 = .int .i64 (m : Int) ∧ s4 = .int .u64 (room : Int) ∧ room < 2 ^ m ∧ out.length = k ∧ Hid (ok out) ∧ Hid (val out + 32768 ^ k * room = u % 2 ^ i) ∧ wx.ownsRow W.heap.size 3 1 s3 k (ints out) ∧ Hid (Below W.heap.size W wx))
 case atStart => exact ⟨0, 0, 0, 0, [], rfl, rfl, by decide, rfl, rfl, rfl, by decide, rfl, zero_nil.2, by unfold Hid; simp [val]; omega, World.ownsRow_nil _ _ _ _, Below.refl _ _⟩
 case round =>
  obtain ⟨i, k, m, room, out, hiq, him, hm15, rfl, rfl, rfl, hroom, hlen, Hok, Hv, hown, Hb⟩ := hrel
  obtain ⟨av, capv, rfl⟩ := own_form hown
  cases gk with
  | zero =>
   have hin : i = 64 := by omega
   obtain rfl : k = 4 := by omega
   obtain rfl : m = 4 := by omega
   subst hin
   have hn16 : room < 16 := hroom
   have HV : Hid (val (out ++ [room]) = u) := by
    unfold Hid; rw [val_snoc, hlen, Hv.out]; exact Nat.mod_eq_of_lt (Nat.lt_of_lt_of_le hu (by decide))
   have HO2 : Hid (ok (out ++ [room])) := ok_snoc Hok.out (by omega)
   have Hi : Hid (ints (out ++ [room]) = ints out ++ [.int .i64 (room : Int)]) := ints_snoc _ _
   have hszq := Hb.out.size
   clear Hv hiq hroom
   go_wp2_with (at_builtin; refine wpList_append2 _ rfl _ _ 73 rfl W.heap.size 3 (.int .i64 0) 1 8 Tryz.underlying73 info_int rfl (by decide) (.slice av 4 capv) 4 _ rfl (hown.alloc _) _ _ 1 [.int .i64 (room : Int)] rfl (reads_new _ _ _ 1 1 (by decide) (by decide)) rfl ?c2 ?c3 ?c4 ?c5 ?_)
   case c2 => simp [Value.oneCell']
   case c3 => unfold maxLen; omega
   case c5 => first | omega | (simp; omega)
   intro v' w2 hown2 hgrow hmov
   obtain ⟨a2, cap2, rfl⟩ := own_form hown2
   have hb2 : Hid (Below W.heap.size W w2) := (Hb.out.alloc Hb.out.size _).grown hgrow (by simp; omega) (fun j e => (hown.lt j e).1)
   rw [← Hi.out] at hown2
   have Hown := hH hown2
   have hlen5 : (out ++ [room]).length = 5 := by simp [hlen]
   clear hown2 hgrow hmov hown
   go_wp2_with fail
   refine (trim_any false (.slice a2 5 cap2) (out ++ [room]) w2 (by rw [hlen5]; exact RdN.of_own Hown.out) HO2.out (by omega)).mono ?_
   rintro e w5 ⟨v5, rfl, H5, hb5⟩
   have hbw5 : Below w.heap.size w w5 := HBw.out.trans (((hb2.out.trans (hb5.mono hb2.out.size))).mono (by have := HSZ.out; omega))
   have H5' : Big w5 v5 (u : Int) := by have := H5; rw [HV.out] at this; exact this
   have hB5 := (HB2.out.below (hb2.out.trans (hb5.mono hb2.out.size)) (by have := HSZ.out; omega))
   obtain ⟨n5, a5, k5, c5, rfl⟩ := H5'.form
   have hP := put2 (x := .bool n5) (y := .slice a5 k5 c5) hB5
   have z0 := hP.cell (j := 0) rfl
   have z1 := hP.cell (j := 1) rfl
   have Hbp := hH (put2_below (x := .bool n5) (y := .slice a5 k5 c5) hbw5 (b := w.heap.size) (Nat.le_refl _))
   have HH := hH (H5'.put hB5 (.bool n5) (.slice a5 k5 c5))
   have b0 := hB5.cell (j := 0) rfl
   have b1 := hB5.cell (j := 1) rfl
   have bf := hB5.frozen
   clear hP hB5 hbw5 hb5 H5 H5'
   go_wp2_with fail
   exact bodyPost_ret (v := .agg #[.bool n5, .slice a5 k5 c5]) (by simp [results, Tryz.results95, go_sem, *]) rfl ⟨_, rfl, HH.out, Hbp.out⟩
  | succ q =>
   have hin : i < 64 := by omega
   have hcell : wr.cell? ⟨b, 0, none⟩ = some (.int .u64 (u : Int)) := (Hb.out.cell (p := ⟨b, 0, none⟩) hbW).trans hc1
   have hq0 : (i : Int).tdiv 64 = 0 := by
    have : (i : Int).tdiv 64 = ((i / 64 : Nat) : Int) := rfl
    rw [this]; omega
   have hq1 : (i : Int).tmod 64 = (i : Int) := by
    have : (i : Int).tmod 64 = ((i % 64 : Nat) : Int) := rfl
    rw [this]; omega
   have hw0 : IntKind.i64.wrap 0 = 0 := by decide
   have hwi : IntKind.i64.wrap (i : Int) = (i : Int) := by rw [IntKind.wrap_i64]; omega
   have HS := bit_step u i k m (val out) room him hroom Hv.out
   obtain ⟨P, hP⟩ : ∃ P : Nat, P = 2 ^ i := ⟨_, rfl⟩
   obtain ⟨M, hM⟩ : ∃ M : Nat, M = 2 ^ m := ⟨_, rfl⟩
   have hP63 : P ≤ 2 ^ 63 := by rw [hP]; exact Nat.pow_le_pow_right (by decide) (by omega)
   have hP0 : 0 < P := by rw [hP]; exact Nat.pow_pos (by decide)
   have hM14 : M ≤ 2 ^ 14 := by rw [hM]; exact Nat.pow_le_pow_right (by decide) (by omega)
   have hpow : (2 : Int) ^ i = (P : Int) := by rw [hP]; simp
   have hpowm : (2 : Int) ^ m = (M : Int) := by rw [hM]; simp
   rw [← hP, ← hM] at HS
   rw [← hM] at hroom
   obtain ⟨Q, hQ⟩ : ∃ Q : Nat, Q = u / P := ⟨_, rfl⟩
   obtain ⟨T, hT⟩ : ∃ T : Nat, T = Q % 2 := ⟨_, rfl⟩
   have hQu : Q ≤ u := by rw [hQ]; exact Nat.div_le_self _ _
   have hT1 : T ≤ 1 := by omega
   rw [← hQ, ← hT] at HS
   obtain ⟨S, hS⟩ : ∃ S : Nat, S = T * M := ⟨_, rfl⟩
   have hS14 : S ≤ 2 ^ 14 := by
    have : T * M ≤ 1 * M := Nat.mul_le_mul_right _ hT1
    omega
   rw [← hS] at HS
   have hquo : (u : Int).tdiv (P : Int) = (Q : Int) := by rw [hQ]; rfl
   have hrem : (Q : Int).tmod 2 = (T : Int) := by rw [hT]; rfl
   have hmul : (T : Int) * (M : Int) = (S : Int) := by rw [hS]; simp
   have hPz : ((P : Int) == 0) = false := by rw [beq_eq_false_iff_ne]; omega
   have hwP : IntKind.u64.wrap (P : Int) = (P : Int) := by rw [IntKind.wrap_u64]; omega
   have hwQ : IntKind.u64.wrap (Q : Int) = (Q : Int) := by rw [IntKind.wrap_u64]; omega
   have hwT : IntKind.u64.wrap (T : Int) = (T : Int) := by rw [IntKind.wrap_u64]; omega
   have hwM : IntKind.u64.wrap (M : Int) = (M : Int) := by rw [IntKind.wrap_u64]; omega
   have hwS : IntKind.u64.wrap (S : Int) = (S : Int) := by rw [IntKind.wrap_u64]; omega
   have hk4 : k ≤ 4 := by omega
   have HS1 := hH HS.1
   have HS2 := hH HS.2
   have Him := hH him
   have HPe := hH hP
   have HMe := hH hM
   clear HS hP hM hQ hT hS him Hv
   go_wp2_with fail
   go_quiet (fail)
   have Hbn : Hid (Below W.heap.size W (wr.drewN nq)) := below_drewN Hb.out _
   have hown1 := own_call hown (below_drewN (Below.refl wr.heap.size wr) nq)
   generalize wr.drewN nq = wq at *
   clear hown Hb hcell
   have hszq := Hbn.out.size
   by_cases hm14 : m = 14
   ·subst hm14
    have HN : Hid (room + S < 32768) := HS2.out
    have hN := HN.out
    have HV : Hid (val (out ++ [room + S]) = u % 2 ^ (i + 1)) := by unfold Hid; rw [val_snoc, hlen]; exact HS1.out
    have HO2 : Hid (ok (out ++ [room + S])) := ok_snoc Hok.out HN.out
    have Hi : Hid (ints (out ++ [room + S]) = ints out ++ [.int .i64 ((room : Int) + (S : Int))]) := by unfold Hid; rw [ints_snoc]; simp
    go_wp2_with (at_builtin; refine wpList_append2 _ rfl _ _ 73 rfl W.heap.size 3 (.int .i64 0) 1 8 Tryz.underlying73 info_int rfl (by decide) (.slice av k capv) k _ rfl (hown1.alloc _) _ _ 1 [.int .i64 ((room : Int) + (S : Int))] rfl (reads_new _ _ _ 1 1 (by decide) (by decide)) rfl ?e2 ?e3 ?e4 ?e5 ?_)
    case e2 => simp [Value.oneCell']
    case e3 => unfold maxLen; omega
    case e4 => omega
    case e5 => first | omega | (simp; omega)
    intro v' w2 hown2 hgrow hmov
    obtain ⟨a2, cap2, rfl⟩ := own_form hown2
    have hb2 : Hid (Below W.heap.size W w2) := (Hbn.out.alloc Hbn.out.size _).grown hgrow (by simp; omega) (fun j e => (hown1.lt j e).1)
    rw [← Hi.out] at hown2
    have Hown := hH hown2
    clear hown2 hgrow hmov hown1
    go_wp2_with fail
    go_roundg q
    case measure => omega
    case rel => exact ⟨i + 1, k + 1, 0, 0, out ++ [room + S], by omega, by have := Him.out; omega, by decide, by first | rfl | simp, rfl, rfl, by decide, by simp [hlen], HO2, by unfold Hid; rw [HV.out]; simp, Hown.out, hb2⟩
   ·have hm15' : ((m : Int) + 1 == 15) = false := by rw [beq_eq_false_iff_ne]; omega
    have hN : room + S < 2 ^ 15 := lL HS2.out (Nat.pow_le_pow_right (by decide) (by omega))
    have hown3 := hH hown1
    clear hown1
    go_wp2_with fail
    go_roundg q
    case measure => omega
    case rel => exact ⟨i + 1, k, m + 1, room + S, out, by omega, by have := Him.out; omega, by omega, by first | rfl | simp, by first | rfl | simp, by first | rfl | simp, HS2.out, hlen, Hok, HS1, hown3.out, Hbn⟩
theorem Big.ends {w W : World} {b : Nat} {x0 : Bool} {a0 : Option Addr} {n0 c0 : Nat} {t : TypeId} {v : Value} {x : Int} (h : Big W v x) (hB : Blk W b [.bool x0, .slice a0 n0 c0] t) (hb : Below w.heap.size w W) (hle : w.heap.size ≤ b) :
  ∃ n a k c, v = .agg #[.bool n, .slice a k c] ∧ W.cell? ⟨b, 0, none⟩ = some (.bool x0) ∧ W.cell? ⟨b, 1, none⟩ = some (.slice a0 n0 c0) ∧ (∀ o, W.frozen? ⟨b, o, none⟩ = false) ∧
   ((W.setCell ⟨b, 0, none⟩ (.bool n)).setCell ⟨b, 1, none⟩ (.slice a k c)).cell? ⟨b, 0, none⟩ = some (.bool n) ∧ ((W.setCell ⟨b, 0, none⟩ (.bool n)).setCell ⟨b, 1, none⟩ (.slice a k c)).cell? ⟨b, 1, none⟩ = some (.slice a k c) ∧
   Hid (Big ((W.setCell ⟨b, 0, none⟩ (.bool n)).setCell ⟨b, 1, none⟩ (.slice a k c)) v x) ∧ Hid (Below w.heap.size w ((W.setCell ⟨b, 0, none⟩ (.bool n)).setCell ⟨b, 1, none⟩ (.slice a k c))) := by
 obtain ⟨n, a, k, c, rfl⟩ := h.form
 have hP := put2 (x := .bool n) (y := .slice a k c) hB
 exact ⟨n, a, k, c, rfl, hB.cell (j := 0) rfl, hB.cell (j := 1) rfl, hB.frozen, hP.cell (j := 0) rfl, hP.cell (j := 1) rfl, h.put hB _ _, put2_below hb hle⟩
set_option maxHeartbeats 1000000 in
theorem of_any (n : Int) (w : World) (h1 : -9223372036854775808 ≤ n) (h2 : n ≤ 9223372036854775807) :
  Calls Tryz.prog 76 #[.int .i64 n] w fun e w' => ∃ v, e = .returned v ∧ Big w' v n ∧ Below w.heap.size w w' := by
 by_cases hn : 0 ≤ n
 ·obtain ⟨u, rfl⟩ : ∃ u : Nat, n = u := ⟨n.toNat, by omega⟩
  have hw : IntKind.u64.wrap (u : Int) = (u : Int) := by rw [IntKind.wrap_u64]; omega
  go_enter Tryz.func76, Tryz.ntmps76
  go_wp2_with fail
  obtain ⟨W, hW⟩ : ∃ W, (w.alloc (.cells #[.bool false, .slice none 0 0] 75)).alloc (.cells #[.int .u64 (u : Int)] 58) = W := ⟨_, rfl⟩
  have hB2 : Blk W w.heap.size [.bool false, .slice none 0 0] 75 := hW ▸ (Blk.new w _ _).alloc _
  have hB3 : Blk W (w.heap.size + 1) [.int .u64 (u : Int)] 58 := by
   have := Blk.new (w.alloc (.cells #[.bool false, .slice none 0 0] 75)) [.int .u64 (u : Int)] 58
   rw [World.size_alloc] at this
   exact hW ▸ this
  have hBw : Below w.heap.size w W := hW ▸ ((Below.refl _ w).alloc (Nat.le_refl _) _).alloc (by simp) _
  rw [hW]
  clear hW
  refine (words_any (w.heap.size + 1) 1 u W hB3.lt (hB3.cell (j := 0) rfl) (by omega)).mono ?_
  rintro e w5 ⟨v5, rfl, H5, hb5⟩
  obtain ⟨n5, a5, k5, c5, rfl, b0, b1, bf, z0, z1, HH, Hbp⟩ := H5.ends (hB2.call hb5) (hBw.trans (hb5.mono hBw.size)) (Nat.le_refl _)
  clear hB2 hB3 hBw hb5 H5
  go_wp2_with fail
  exact bodyPost_ret (v := .agg #[.bool n5, .slice a5 k5 c5]) (by simp [results, Tryz.results76, go_sem, *]) rfl ⟨_, rfl, HH.out, Hbp.out⟩
 ·obtain ⟨u, hu⟩ : ∃ u : Nat, n = -(u : Int) - 1 := ⟨(-n - 1).toNat, by omega⟩
  subst hu
  have hw : IntKind.u64.wrap (u : Int) = (u : Int) := by rw [IntKind.wrap_u64]; omega
  have hw2 : IntKind.u64.wrap ((u : Int) + 1) = (u : Int) + 1 := by rw [IntKind.wrap_u64]; omega
  have hneg : -(-(u : Int) - 1 + 1) = (u : Int) := by omega
  have hneg2 : -(u : Int) - 1 + 1 = -(u : Int) := by omega
  go_enter Tryz.func76, Tryz.ntmps76
  go_wp2_with fail
  obtain ⟨W, hW⟩ : ∃ W, (w.alloc (.cells #[.bool false, .slice none 0 0] 75)).alloc (.cells #[.int .u64 ((u : Int) + 1)] 58) = W := ⟨_, rfl⟩
  have hB2 : Blk W w.heap.size [.bool false, .slice none 0 0] 75 := hW ▸ (Blk.new w _ _).alloc _
  have hB3 : Blk W (w.heap.size + 1) [.int .u64 (((u + 1 : Nat)) : Int)] 58 := by
   have := Blk.new (w.alloc (.cells #[.bool false, .slice none 0 0] 75)) [.int .u64 ((u : Int) + 1)] 58
   rw [World.size_alloc] at this
   exact hW ▸ this
  have hBw : Below w.heap.size w W := hW ▸ ((Below.refl _ w).alloc (Nat.le_refl _) _).alloc (by simp) _
  rw [hW]
  clear hW
  refine (words_any (w.heap.size + 1) 1 (u + 1) W hB3.lt (hB3.cell (j := 0) rfl) (by omega)).mono ?_
  rintro e w4 ⟨v4, rfl, H4, hb4⟩
  have hbw4 := hBw.trans (hb4.mono hBw.size)
  have hB4 := hB2.call hb4
  clear hB2 hB3 hBw hb4
  obtain ⟨n4, a4, k4, c4, rfl⟩ := H4.form
  go_wp2_with fail
  refine (minus_any _ _ w4 H4).mono ?_
  rintro e w5 ⟨v5, rfl, H5, hb5⟩
  obtain ⟨n5, a5, k5, c5, rfl, b0, b1, bf, z0, z1, HH, Hbp⟩ := H5.ends (hB4.call hb5) (hbw4.trans (hb5.mono hbw4.size)) (Nat.le_refl _)
  have hval : -(((u + 1 : Nat)) : Int) = -(u : Int) - 1 := by omega
  rw [hval] at HH
  clear hB4 hbw4 hb5 H5 H4 hval
  go_wp2_with fail
  exact bodyPost_ret (v := .agg #[.bool n5, .slice a5 k5 c5]) (by simp [results, Tryz.results76, go_sem, *]) rfl ⟨_, rfl, HH.out, Hbp.out⟩
end Go.Proofs.YthbplhglfjlngaaGreat
