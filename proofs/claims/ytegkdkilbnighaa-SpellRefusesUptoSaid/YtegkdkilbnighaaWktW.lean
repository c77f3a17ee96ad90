/- How many pairs a text that is read can have: no more than it has tokens. No program in sight. -/
import Derived.Test.YtegkdkilbnighaaWktK
set_option linter.unusedVariables false
set_option linter.unusedSimpArgs false
namespace Go.Proofs.Ytegkdkilbnighaa
/-- the pairs of all geometries, in order -/
def allP (gs : List Wk.Geo) : List Wk.Pr := gs.flatMap fun g => g.lists.flatten
namespace Wk
open Go Lx

/-- each unit of the result costs a token -/
def Cost {A : Type} (f : St → St × A) (m : A → Nat) : Prop := ∀ z, (f z).1.bad = false → z.bad = false ∧ m (f z).2 + (f z).1.l.length ≤ z.l.length

theorem cost_take (s : Str) (z : St) (k : Nat) (h : (take s z k).1.bad = false) : z.bad = false ∧ (take s z k).1.l.length + 1 ≤ z.l.length := ⟨take_notbad s z k h, take_lt s z k h⟩
theorem cost_none (s : Str) (z : St) (h : (none s z).1.bad = false) : z.bad = false ∧ (none s z).1.l.length ≤ z.l.length := by
  unfold none at h ⊢
  split at h
  · rename_i hw
    rw [if_pos hw]
    have := cost_take s z 1 h
    exact ⟨this.1, by show (take s z 1).1.l.length ≤ _; omega⟩
  · rename_i hw
    rw [if_neg hw]
    exact ⟨h, Nat.le_refl _⟩
theorem cost_pair (s : Str) : Cost (pair s) (fun _ => 1) := by
  intro z h
  unfold pair at h ⊢
  have h1 := cost_take s _ 2 h
  have h2 := cost_take s z 2 h1.1
  refine ⟨h2.1, ?_⟩
  show 1 + (take s (take s z 2).1 2).1.l.length ≤ _
  omega
theorem cost_one (s : Str) : Cost (one s) List.length := by
  intro z h
  unfold one at h ⊢
  split at h
  · rename_i hn
    rw [if_pos hn]
    have := cost_none s z h
    exact ⟨this.1, by show 0 + (none s z).1.l.length ≤ _; omega⟩
  · rename_i hn
    rw [if_neg hn]
    have h1 := cost_take s _ 4 h
    have h2 := cost_pair s _ h1.1
    have h3 := cost_take s _ 3 h2.1
    have h4 := cost_none s z h3.1
    dsimp only at h2
    refine ⟨h4.1, ?_⟩
    show 1 + (take s (pair s (take s (none s z).1 3).1).1 4).1.l.length ≤ _
    omega
theorem cost_eachF {A : Type} (s : Str) (f : St → St × A) (m : A → Nat) (hf : Cost f m) : ∀ n z, (eachF s f n z).1.bad = false → z.bad = false ∧ ((eachF s f n z).2.map m).sum + (eachF s f n z).1.l.length ≤ z.l.length := by
  intro n
  induction n with
  | zero => intro z h; exact ⟨h, by show 0 + z.l.length ≤ _; omega⟩
  | succ n ih =>
    intro z h
    unfold eachF at h ⊢
    split at h
    · rename_i hb
      rw [if_pos hb]
      exact ⟨h, by show 0 + z.l.length ≤ _; omega⟩
    · rename_i hb
      rw [if_neg hb]
      split at h
      · rename_i hp
        rw [if_pos hp]
        have h1 := ih _ h
        have h2 := cost_take s _ 5 h1.1
        have h3 := hf z h2.1
        refine ⟨h3.1, ?_⟩
        simp only [List.map_cons, List.sum_cons]
        omega
      · rename_i hp
        rw [if_neg hp]
        have h2 := cost_take s _ 4 h
        have h3 := hf z h2.1
        refine ⟨h3.1, ?_⟩
        simp only [List.map_cons, List.map_nil, List.sum_cons, List.sum_nil]
        omega
theorem cost_each {A : Type} (s : Str) (f : St → St × A) (m : A → Nat) (hf : Cost f m) : Cost (each s f) (fun l => (l.map m).sum) := by
  intro z h
  unfold each at h ⊢
  have h1 := cost_eachF s f m hf _ _ h
  have h2 := cost_take s z 3 h1.1
  exact ⟨h2.1, by have := h1.2; dsimp only; omega⟩
theorem sum_one {A : Type} (l : List A) : (l.map fun _ => 1).sum = l.length := by
  induction l with
  | nil => rfl
  | cons a l ih => simp only [List.map_cons, List.sum_cons, ih, List.length_cons]; omega
theorem cost_list (s : Str) : Cost (list s) List.length := by
  intro z h
  unfold list at h ⊢
  split at h
  · rename_i hn
    rw [if_pos hn]
    have := cost_none s z h
    exact ⟨this.1, by show 0 + (none s z).1.l.length ≤ _; omega⟩
  · rename_i hn
    rw [if_neg hn]
    have h1 := cost_each s _ _ (cost_pair s) _ h
    dsimp only at h1
    rw [sum_one] at h1
    have h2 := cost_none s z h1.1
    exact ⟨h2.1, by omega⟩
theorem cost_lists (s : Str) (f : St → St × List Pr) (hf : Cost f List.length) : Cost (lists s f) (fun l => l.flatten.length) := by
  intro z h
  have := cost_each s f _ hf z h
  dsimp only at this
  rw [← List.length_flatten] at this
  exact this
theorem cost_poly (s : Str) : Cost (poly s) (fun l => l.flatten.length) := by
  intro z h
  unfold poly at h ⊢
  split at h
  · rename_i hn
    rw [if_pos hn]
    have := cost_none s z h
    exact ⟨this.1, by show 0 + (none s z).1.l.length ≤ _; omega⟩
  · rename_i hn
    rw [if_neg hn]
    have h1 := cost_lists s _ (cost_list s) _ h
    have h2 := cost_none s z h1.1
    exact ⟨h2.1, by omega⟩
theorem sum_flat (l : List (List (List Pr))) : (l.map fun x => x.flatten.length).sum = l.flatten.flatten.length := by
  induction l with
  | nil => rfl
  | cons a l ih => simp only [List.map_cons, List.sum_cons, ih, List.flatten_cons, List.flatten_append, List.length_append]
theorem cost_body (s : Str) (k : Nat) : Cost (body s k) (fun b => b.1.flatten.length) := by
  intro z h
  unfold body at h ⊢
  split at h
  · rename_i h1
    rw [if_pos h1]
    have := cost_one s z h
    exact ⟨this.1, by simpa using this.2⟩
  rename_i h1
  rw [if_neg h1]
  split at h
  · rename_i h2
    rw [if_pos h2]
    have := cost_list s z h
    exact ⟨this.1, by simpa using this.2⟩
  rename_i h2
  rw [if_neg h2]
  split at h
  · rename_i h3
    rw [if_pos h3]
    exact cost_lists s _ (cost_list s) z h
  rename_i h3
  rw [if_neg h3]
  split at h
  · rename_i h4
    rw [if_pos h4]
    exact cost_lists s _ (cost_one s) z h
  · rename_i h4
    rw [if_neg h4]
    have := cost_each s _ _ (cost_poly s) z h
    dsimp only at this
    rw [sum_flat] at this
    exact this
theorem cost_closing (s : Str) : ∀ n z, (closing s n z).1.bad = false → z.bad = false ∧ (closing s n z).1.l.length ≤ z.l.length := by
  intro n
  induction n with
  | zero => intro z h; exact ⟨h, Nat.le_refl _⟩
  | succ n ih =>
    intro z h
    unfold closing at h ⊢
    split at h
    · rename_i hb
      rw [if_pos hb]
      exact ⟨h, Nat.le_refl _⟩
    rename_i hb
    rw [if_neg hb]
    split at h
    · rename_i hp
      rw [if_pos hp]
      have := cost_take s z 5 h
      exact ⟨this.1, by show (take s z 5).1.l.length ≤ _; omega⟩
    · rename_i hp
      rw [if_neg hp]
      have h1 := ih _ h
      have h2 := cost_take s z 4 h1.1
      exact ⟨h2.1, by omega⟩
theorem cost_geosF (s : Str) : ∀ n z lev, (geosF s n z lev).1.bad = false → z.bad = false ∧ (allP (geosF s n z lev).2).length + (geosF s n z lev).1.l.length ≤ z.l.length := by
  intro n
  induction n with
  | zero => intro z lev h; exact ⟨h, by show 0 + z.l.length ≤ _; omega⟩
  | succ n ih =>
    intro z lev h
    unfold geosF at h ⊢
    split at h
    · rename_i hb
      rw [if_pos hb]
      exact ⟨h, by show 0 + z.l.length ≤ _; omega⟩
    rename_i hb
    rw [if_neg hb]
    dsimp only at h ⊢
    split at h
    · exact absurd h (by simp [fail])
    rename_i hk
    rw [if_neg hk]
    split at h
    · rename_i h7
      rw [if_pos h7]
      dsimp only at h ⊢
      have h1 := ih _ _ h
      have h2 := cost_take s _ 3 h1.1
      have h3 := cost_none s _ h2.1
      have h4 := cost_take s z 1 h3.1
      refine ⟨h4.1, ?_⟩
      simp only [allP, List.flatMap_cons, List.flatten_nil, List.nil_append] at h1 ⊢
      omega
    · rename_i h7
      rw [if_neg h7]
      have hbody : ∀ b, b = (if (none s (take s z 1).1).2 = true then ((none s (take s z 1).1).1, ([], [])) else body s (kind (word s z)) (none s (take s z 1).1).1) → b.1.bad = false → z.bad = false ∧ b.2.1.flatten.length + b.1.l.length ≤ z.l.length := by
        intro b hb2 hbb
        subst hb2
        split at hbb
        · rename_i hn
          rw [if_pos hn]
          have h1 := cost_none s _ hbb
          have h2 := cost_take s z 1 h1.1
          exact ⟨h2.1, by show 0 + (none s (take s z 1).1).1.l.length ≤ _; omega⟩
        · rename_i hn
          rw [if_neg hn]
          have h0 := cost_body s _ _ hbb
          have h1 := cost_none s _ h0.1
          have h2 := cost_take s z 1 h1.1
          dsimp only at h0
          exact ⟨h2.1, by omega⟩
      have hbody := hbody _ rfl
      generalize (if (none s (take s z 1).1).2 = true then ((none s (take s z 1).1).1, (([] : List (List Pr)), ([] : List Nat))) else body s (kind (word s z)) (none s (take s z 1).1).1) = b at h hbody ⊢
      split at h
      · rename_i hc
        rw [if_pos hc]
        dsimp only at h ⊢
        have h1 := ih _ _ h
        have h2 := cost_closing s _ _ h1.1
        have h3 := hbody h2.1
        refine ⟨h3.1, ?_⟩
        simp only [allP, List.flatMap_cons, List.length_append] at h1 ⊢
        omega
      · rename_i hc
        rw [if_neg hc]
        have h2 := cost_closing s _ _ h
        have h3 := hbody h2.1
        refine ⟨h3.1, ?_⟩
        simp only [allP, List.flatMap_cons, List.flatMap_nil, List.append_nil]
        omega
theorem parse_pairs (s : ByteArray) (gs : List Geo) (h : parse s.data.toList = .ok gs) : (allP gs).length ≤ s.size := by
  have ht := Go.Proofs.Ytegkdkilbnighaa.toks_len s
  unfold parse at h
  split at h
  · cases h
  · split at h
    · cases h
    · split at h
      · cases h
      · rename_i hb
        cases h
        have := (cost_geosF s.data.toList _ _ _ (by simpa [geos] using hb)).2
        unfold geos
        dsimp only at this ⊢
        omega
end Wk
end Go.Proofs.Ytegkdkilbnighaa
