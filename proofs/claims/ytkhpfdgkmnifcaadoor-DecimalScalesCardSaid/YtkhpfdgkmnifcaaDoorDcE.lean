/- Plain laws on decimal numbers: how the document reads a text's digits, letter by letter. No program in sight. -/
import Derived.Test.YtkhpfdgkmnifcaaDoorDcD
set_option linter.unusedVariables false
set_option linter.unusedSimpArgs false
namespace Go.Proofs.YtkhpfdgkmnifcaaDoor.Dc
open Go Lx

/-- the number, the digits behind the point, was there a point? -/
def nst (z : Nat × Nat × Bool) (c : UInt8) : Nat × Nat × Bool := if c = 46 then (z.1, z.2.1, true) else (z.1 * 10 + (c.toNat - 48), if z.2.2 then z.2.1 + 1 else z.2.1, z.2.2)
def nfold (l : Str) : Nat × Nat × Bool := l.foldl nst (0, 0, false)
theorem nfold_snoc (l : Str) (c : UInt8) : nfold (l ++ [c]) = nst (nfold l) c := by unfold nfold; rw [List.foldl_append]; rfl
theorem digit_nodot (c : UInt8) (h : digit c = true) : c ≠ 46 := by rintro rfl; cases h
theorem nfold_digits (l b : Str) (h : b.all digit = true) : nfold (l ++ b) = ((nfold l).1 * 10 ^ b.length + dval b, if (nfold l).2.2 then (nfold l).2.1 + b.length else (nfold l).2.1, (nfold l).2.2) := by
  induction b using snoc_ind with
  | h0 => simp [dval]
  | h1 b c ih =>
    rw [List.all_append, Bool.and_eq_true] at h
    have hc : digit c = true := by simpa using h.2
    rw [← List.append_assoc, nfold_snoc, ih h.1, nst, if_neg (digit_nodot c hc), dval_snoc]
    have e : (nfold l).1 * 10 ^ b.length * 10 = (nfold l).1 * 10 ^ (b.length + 1) := by rw [Nat.pow_succ, Nat.mul_assoc]
    simp only [List.length_append, List.length_cons, List.length_nil, Nat.zero_add]
    rw [← e]
    cases (nfold l).2.2
    · simp; omega
    · simp; omega
theorem nfold_parts {a dt b : Str} (ha : a.all digit = true) (hb : b.all digit = true) (hd : (dt = [] ∧ b = []) ∨ dt = [46]) : (nfold (a ++ (dt ++ b))).1 = dval (a ++ b) ∧ (nfold (a ++ (dt ++ b))).2.1 = b.length := by
  have h1 : nfold a = (dval a, 0, false) := by
    have := nfold_digits [] a ha
    simpa [nfold] using this
  rcases hd with ⟨rfl, rfl⟩ | rfl
  · simp [h1]
  · have h2 : nfold (a ++ [46]) = (dval a, 0, true) := by rw [nfold_snoc, h1]; rfl
    rw [← List.append_assoc, nfold_digits _ b hb, h2, dval_append]
    simp
/-- of the digits and the point -/
def mant (l : Str) : Prop := ∀ c ∈ l, digit c = true ∨ c = 46
theorem nfold_lt (l : Str) (h : mant l) : (nfold l).1 < 10 ^ l.length ∧ (nfold l).2.1 ≤ l.length := by
  induction l using snoc_ind with
  | h0 => exact ⟨by decide, by decide⟩
  | h1 l c ih =>
    obtain ⟨h1, h2⟩ := ih (fun x hx => h x (by simp [hx]))
    rw [nfold_snoc, nst, List.length_append, List.length_singleton, Nat.pow_succ]
    rcases h c (by simp) with hc | hc
    · rw [if_neg (digit_nodot c hc)]
      have := digit_le c hc
      refine ⟨?_, ?_⟩
      · simp only; omega
      · simp only; split <;> omega
    · rw [if_pos hc]
      exact ⟨by simp only; omega, by simp only; omega⟩
theorem mant_take {l : Str} (h : mant l) (k : Nat) : mant (l.take k) := fun c hc => h c (List.mem_of_mem_take hc)
theorem Parts.mant {l sg a dt b ex sp q : Str} (h : Parts l sg a dt b ex sp q) : mant (a ++ (dt ++ b)) := by
  have ha := h.ha
  have hb := h.hb
  rw [List.all_eq_true] at ha hb
  intro c hc
  rcases List.mem_append.1 hc with h1 | h1
  · exact .inl (ha c h1)
  · rcases List.mem_append.1 h1 with h2 | h2
    · rcases h.hd with ⟨e, _⟩ | e
      · rw [e] at h2; cases h2
      · rw [e, List.mem_singleton] at h2; exact .inr h2
    · exact .inl (hb c h2)
/-- the sign of a text's number; its power -/
def numV (sg a b : Str) : Int := if sg = [45] then -(dval (a ++ b) : Int) else (dval (a ++ b) : Int)
def numE (b sp q : Str) : Int := -(b.length : Int) + (if sp = [45] then -(dval q : Int) else (dval q : Int))
end Go.Proofs.YtkhpfdgkmnifcaaDoor.Dc
