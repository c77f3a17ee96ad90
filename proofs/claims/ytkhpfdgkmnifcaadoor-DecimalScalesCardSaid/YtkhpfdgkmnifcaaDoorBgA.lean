/- Plain laws on numbers of any length: digits of the base 2^15, the lowest first. No program in sight. -/
set_option linter.unusedVariables false
set_option linter.unusedSimpArgs false
namespace Go.Proofs.YtkhpfdgkmnifcaaDoor.Bg

/-- the number of some digits -/
def val : List Nat → Nat
  | [] => 0
  | d :: l => d + 32768 * val l
def ok (l : List Nat) : Prop := ∀ d ∈ l, d < 32768
def nz (l : List Nat) : Prop := l.getLast? ≠ some 0

theorem val_append (a b : List Nat) : val (a ++ b) = val a + 32768 ^ a.length * val b := by
  induction a with
  | nil => simp [val]
  | cons d a ih =>
    simp only [List.cons_append, val, ih, List.length_cons, Nat.pow_succ, Nat.mul_add]
    rw [← Nat.add_assoc, ← Nat.mul_assoc, Nat.mul_comm 32768 (32768 ^ a.length)]
theorem val_snoc (l : List Nat) (d : Nat) : val (l ++ [d]) = val l + 32768 ^ l.length * d := by
  rw [val_append]; simp [val]
theorem val_lt (l : List Nat) (h : ok l) : val l < 32768 ^ l.length := by
  induction l with
  | nil => simp [val]
  | cons d l ih =>
    have h1 := h d (by simp)
    have h2 := ih (fun x hx => h x (by simp [hx]))
    simp only [val, List.length_cons, Nat.pow_succ]
    omega
theorem ok_take {l : List Nat} (h : ok l) (n : Nat) : ok (l.take n) := fun d hd => h d (List.mem_of_mem_take hd)
theorem ok_snoc {l : List Nat} (h : ok l) {d : Nat} (hd : d < 32768) : ok (l ++ [d]) := by
  intro x hx
  rcases List.mem_append.1 hx with h1 | h1
  · exact h x h1
  · rw [List.mem_singleton] at h1; rw [h1]; exact hd
theorem ok_at {l : List Nat} (h : ok l) (i : Nat) : l[i]?.getD 0 < 32768 := by
  cases hh : l[i]? with
  | none => simp
  | some d => exact h d (List.mem_of_getElem? hh)
theorem take_at (l : List Nat) (k : Nat) : val (l.take (k + 1)) = val (l.take k) + 32768 ^ k * l[k]?.getD 0 := by
  rw [List.take_add_one]
  cases hh : l[k]? with
  | none => simp
  | some d =>
    have hlt : k < l.length := (List.getElem?_eq_some_iff.1 hh).1
    rw [show (some d).toList = [d] from rfl, val_snoc, List.length_take, Nat.min_eq_left (by omega)]; rfl

/-! ### Noughts at the end -/
theorem trim_step {l : List Nat} {n : Nat} (h : val (l.take (n + 1)) = val l) (h0 : l[n]? = some 0) : val (l.take n) = val l := by
  rw [← h, take_at, h0]; simp
theorem trim_nz {l : List Nat} {n d : Nat} (h0 : l[n]? = some d) (hd : d ≠ 0) : nz (l.take (n + 1)) := by
  unfold nz
  rw [List.take_add_one, h0, show (some d).toList = [d] from rfl, List.getLast?_append]
  simpa using hd
theorem nz_ge {l : List Nat} (h : nz l) (hl : l ≠ []) : 32768 ^ (l.length - 1) ≤ val l := by
  have e := List.dropLast_concat_getLast hl
  have hd : l.getLast hl ≠ 0 := fun h0 => h (by rw [List.getLast?_eq_some_getLast hl, h0])
  have h1 : val l = val l.dropLast + 32768 ^ (l.length - 1) * l.getLast hl := by
    conv => lhs; rw [← e]
    rw [val_snoc, List.length_dropLast]
  have h2 : 32768 ^ (l.length - 1) * 1 ≤ 32768 ^ (l.length - 1) * l.getLast hl := Nat.mul_le_mul_left _ (by omega)
  omega
theorem nz_zero {l : List Nat} (h : nz l) (h0 : val l = 0) : l = [] := by
  apply Classical.byContradiction
  intro hl
  have := nz_ge h hl
  have hp : 0 < 32768 ^ (l.length - 1) := Nat.pow_pos (by decide)
  omega
/-- a number below so many digits has no more of them -/
theorem len_le {l : List Nat} (h : nz l) {K : Nat} (hv : val l < 32768 ^ K) : l.length ≤ K := by
  apply Classical.byContradiction
  intro hc
  have hl : l ≠ [] := by rintro rfl; simp at hc
  have h1 := nz_ge h hl
  have h2 : 32768 ^ K ≤ 32768 ^ (l.length - 1) := Nat.pow_le_pow_right (by decide) (by omega)
  omega

/-! ### Which is greater -/
theorem shorter {a b : List Nat} (ha : ok a) (hb : nz b) (h : a.length < b.length) : val a < val b := by
  have h1 := val_lt a ha
  have h2 := nz_ge hb (by rintro rfl; simp at h)
  have h3 : 32768 ^ a.length ≤ 32768 ^ (b.length - 1) := Nat.pow_le_pow_right (by decide) (by omega)
  omega
theorem drop_at {l : List Nat} {i d : Nat} (h : l[i]? = some d) : l.drop i = d :: l.drop (i + 1) := by
  obtain ⟨hlt, he⟩ := List.getElem?_eq_some_iff.1 h
  rw [List.drop_eq_getElem_cons hlt, he]
theorem val_split (l : List Nat) (i : Nat) (h : i ≤ l.length) : val l = val (l.take i) + 32768 ^ i * val (l.drop i) := by
  conv => lhs; rw [← List.take_append_drop i l]
  rw [val_append, List.length_take, Nat.min_eq_left h]
/-- above the place the digits are the same; there the one is the less -/
theorem less_at {a b : List Nat} (ha : ok a) (hl : a.length = b.length) {i x y : Nat} (h : a.drop (i + 1) = b.drop (i + 1)) (hx : a[i]? = some x) (hy : b[i]? = some y) (hxy : x < y) : val a < val b := by
  have h1 : i < a.length := (List.getElem?_eq_some_iff.1 hx).1
  rw [val_split a i (by omega), val_split b i (by omega), drop_at hx, drop_at hy, h]
  simp only [val]
  have h2 := val_lt _ (ok_take ha i)
  rw [List.length_take, Nat.min_eq_left (by omega)] at h2
  have h3 : 32768 ^ i * (x + 32768 * val (b.drop (i + 1)) + 1) ≤ 32768 ^ i * (y + 32768 * val (b.drop (i + 1))) := Nat.mul_le_mul_left _ (by omega)
  rw [Nat.mul_add, Nat.mul_one] at h3
  omega
theorem same_at {a b : List Nat} {i x : Nat} (h : a.drop (i + 1) = b.drop (i + 1)) (hx : a[i]? = some x) (hy : b[i]? = some x) : a.drop i = b.drop i := by
  rw [drop_at hx, drop_at hy, h]

/-! ### The sum, the difference -/
theorem more_step (la lb out : List Nat) (k c n : Nat) (hlen : out.length = k) (hn : n = c + la[k]?.getD 0 + lb[k]?.getD 0) (h : val out + 32768 ^ k * c = val (la.take k) + val (lb.take k)) :
    val (out ++ [n % 32768]) + 32768 ^ (k + 1) * (n / 32768) = val (la.take (k + 1)) + val (lb.take (k + 1)) := by
  rw [take_at, take_at, val_snoc, hlen, Nat.pow_succ, Nat.mul_assoc]
  have e := congrArg (32768 ^ k * ·) ((Nat.mod_add_div n 32768).trans hn)
  simp only [Nat.mul_add] at e
  omega
theorem less_step (la lb out : List Nat) (k c n' c' : Nat) (hlen : out.length = k) (h : val out + val (lb.take k) = val (la.take k) + 32768 ^ k * c) (hn : la[k]?.getD 0 + 32768 * c' = n' + c + lb[k]?.getD 0) :
    val (out ++ [n']) + val (lb.take (k + 1)) = val (la.take (k + 1)) + 32768 ^ (k + 1) * c' := by
  rw [take_at, take_at, val_snoc, hlen, Nat.pow_succ, Nat.mul_assoc]
  have e := congrArg (32768 ^ k * ·) hn
  simp only [Nat.mul_add] at e
  omega
theorem more_end (la lb out : List Nat) (k c : Nat) (hlen : out.length = k) (ha : la.length ≤ k) (hb : lb.length ≤ k) (h : val out + 32768 ^ k * c = val (la.take k) + val (lb.take k)) : val (out ++ [c]) = val la + val lb := by
  rw [List.take_of_length_le ha, List.take_of_length_le hb] at h
  rw [val_snoc, hlen, h]
theorem less_end (la lb out : List Nat) (c : Nat) (hlen : out.length = la.length) (ho : ok out) (hlb : lb.length ≤ la.length) (hle : val lb ≤ val la) (h : val out + val (lb.take la.length) = val (la.take la.length) + 32768 ^ la.length * c) : val out = val la - val lb := by
  rw [List.take_of_length_le (Nat.le_refl _), List.take_of_length_le hlb] at h
  have h1 := val_lt out ho
  rw [hlen] at h1
  have : c = 0 := by
    rcases Nat.eq_zero_or_pos c with h | h
    · exact h
    · have : 32768 ^ la.length * 1 ≤ 32768 ^ la.length * c := Nat.mul_le_mul_left _ h
      omega
  subst this
  omega

/-! ### The product -/
theorem val_set (l : List Nat) (j v : Nat) (h : j < l.length) : val (l.set j v) + 32768 ^ j * l[j] = val l + 32768 ^ j * v := by
  induction l generalizing j with
  | nil => simp at h
  | cons d l ih =>
    cases j with
    | zero => simp [val]; omega
    | succ j =>
      have := ih j (by simpa using h)
      simp only [List.set_cons_succ, val, List.getElem_cons_succ, Nat.pow_succ]
      have e : ∀ z, 32768 ^ j * 32768 * z = 32768 * (32768 ^ j * z) := by intro z; rw [Nat.mul_comm (32768 ^ j), Nat.mul_assoc]
      rw [e, e]
      omega
theorem ok_set {l : List Nat} (h : ok l) (j : Nat) {v : Nat} (hv : v < 32768) : ok (l.set j v) := by
  intro x hx
  rcases List.mem_or_eq_of_mem_set hx with h1 | h1
  · exact h x h1
  · omega
theorem set_at (l : List Nat) (j v i : Nat) (h : i ≠ j) : (l.set j v)[i]? = l[i]? := by rw [List.getElem?_set_ne (by omega)]
/-- one step of a row: out[i + k] -/
theorem mul_step (out la lb : List Nat) (R x i k c n : Nat) (hij : i + k < out.length) (hk : k < lb.length) (hn : n = out[i + k] + x * lb[k] + c)
    (h : val out + 32768 ^ (i + k) * c = R + 32768 ^ i * (x * val (lb.take k))) :
    val (out.set (i + k) (n % 32768)) + 32768 ^ (i + (k + 1)) * (n / 32768) = R + 32768 ^ i * (x * val (lb.take (k + 1))) := by
  have h1 := val_set out (i + k) (n % 32768) hij
  have e := congrArg (32768 ^ (i + k) * ·) ((Nat.mod_add_div n 32768).trans hn)
  simp only [Nat.mul_add] at e
  rw [take_at, List.getElem?_eq_getElem hk, Option.getD_some, ← Nat.add_assoc, Nat.pow_succ, Nat.mul_assoc, Nat.mul_add, Nat.mul_add]
  have e2 : 32768 ^ i * (x * (32768 ^ k * lb[k])) = 32768 ^ (i + k) * (x * lb[k]) := by
    rw [Nat.pow_add, Nat.mul_assoc, ← Nat.mul_assoc x, Nat.mul_comm x (32768 ^ k), Nat.mul_assoc]
  rw [e2]
  omega
theorem mul_carry (o x y c : Nat) (ho : o < 32768) (hx : x < 32768) (hy : y < 32768) (hc : c < 32768) : o + x * y + c < 1073741824 ∧ (o + x * y + c) / 32768 < 32768 := by
  have : x * y ≤ 32767 * 32767 := Nat.mul_le_mul (by omega) (by omega)
  omega
/-- a row's end -/
theorem mul_row (out la lb : List Nat) (i x c : Nat) (hi : i + lb.length < out.length) (hx : la[i]? = some x) (h0 : out[i + lb.length] = 0)
    (h : val out + 32768 ^ (i + lb.length) * c = val (la.take i) * val lb + 32768 ^ i * (x * val (lb.take lb.length))) :
    val (out.set (i + lb.length) c) = val (la.take (i + 1)) * val lb := by
  have h1 := val_set out (i + lb.length) c hi
  rw [h0] at h1
  rw [take_at, hx, Option.getD_some, Nat.add_mul]
  rw [List.take_of_length_le (Nat.le_refl _)] at h
  rw [Nat.mul_assoc]
  omega

/-! ### A word's digits -/
theorem bit_step (u i k m V room : Nat) (hi : i = 15 * k + m) (hr : room < 2 ^ m) (h : V + 32768 ^ k * room = u % 2 ^ i) :
    V + 32768 ^ k * (room + u / 2 ^ i % 2 * 2 ^ m) = u % 2 ^ (i + 1) ∧ room + u / 2 ^ i % 2 * 2 ^ m < 2 ^ (m + 1) := by
  have hp : 32768 ^ k * 2 ^ m = 2 ^ i := by rw [show (32768 : Nat) = 2 ^ 15 from rfl, ← Nat.pow_mul, ← Nat.pow_add, hi]
  refine ⟨?_, ?_⟩
  · rw [Nat.mod_pow_succ, ← h, Nat.mul_add, ← hp, Nat.add_assoc]
    congr 2
    rw [Nat.mul_comm (u / _ % 2), ← Nat.mul_assoc]
  · have : u / 2 ^ i % 2 * 2 ^ m ≤ 1 * 2 ^ m := Nat.mul_le_mul_right _ (by omega)
    rw [Nat.pow_succ]; omega
theorem ok_zeros (n : Nat) : ok (List.replicate n 0) := by intro d hd; rw [List.mem_replicate] at hd; omega
theorem val_zeros (n : Nat) : val (List.replicate n 0) = 0 := by
  induction n with
  | zero => rfl
  | succ n ih => rw [List.replicate_succ, val, ih]

/-! ### With a sign -/
def sgn (neg : Bool) (n : Nat) : Int := if neg then -(n : Int) else n
def cmpN (x y : Nat) : Int := if x < y then -1 else if y < x then 1 else 0
def cmpI (x y : Int) : Int := if x < y then -1 else if y < x then 1 else 0
end Go.Proofs.YtkhpfdgkmnifcaaDoor.Bg
