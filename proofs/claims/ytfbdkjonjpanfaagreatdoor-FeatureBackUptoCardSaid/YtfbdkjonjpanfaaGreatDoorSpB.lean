/- Whatever a text is read as is right, and no longer than so much. No program in sight. -/
import Derived.Test.YtfbdkjonjpanfaaGreatDoorSpA

set_option linter.unusedVariables false
set_option linter.unusedSimpArgs false
namespace Go.Proofs.YtfbdkjonjpanfaaGreatDoor.Wk
open Go Lx

def prOk (p : Pr) : Prop := right p.1 = true ∧ right p.2 = true
def lsOk (l : List Pr) : Prop := ∀ p ∈ l, prOk p
/-- a geometry is right, but for where it stands -/
def OneG (g : Geo) : Prop :=
  1 ≤ g.kind ∧ g.kind ≤ 7 ∧ (∀ l ∈ g.lists, lsOk l) ∧
  (g.kind = 1 → g.lists = [] ∨ ∃ p, g.lists = [[p]]) ∧
  (g.kind = 2 → g.lists = [] ∨ ∃ l, g.lists = [l] ∧ l ≠ []) ∧
  (g.kind = 4 → ∀ l ∈ g.lists, l.length ≤ 1) ∧
  (g.kind = 6 → g.sizes.sum = g.lists.length) ∧
  (g.kind ≠ 6 → g.sizes = []) ∧
  (g.kind = 7 → g.lists = [] ∧ g.level < 32)
/-- it is what a text is read as -/
def RightG (gs : List Geo) : Prop := (∀ g ∈ gs, OneG g) ∧ Lev gs ∧ Top gs

def mP (p : Pr) : Nat := p.1.length + p.2.length + 2
def mL (l : List Pr) : Nat := 1 + (l.map mP).sum
def mLs (l : List (List Pr)) : Nat := (l.map mL).sum
def mG (g : Geo) : Nat := 6 + mLs g.lists + g.sizes.length
def wt (s : Str) (l : List Tok) : Nat := (l.map fun t => (txt s t).length + 1).sum
def Gd (s : Str) (l : List Tok) : Prop := ∀ t ∈ l, t.kind = 2 → right (txt s t) = true

/-- what is read costs tokens, and is so -/
def Kq {A : Type} (s : Str) (f : St → St × A) (Q : A → Prop) (m : A → Nat) : Prop :=
  ∀ z, Gd s z.l → (f z).1.bad = false → z.bad = false ∧ Gd s (f z).1.l ∧ Q (f z).2 ∧ m (f z).2 + wt s (f z).1.l ≤ wt s z.l

section
variable {s : Str}
theorem kq_take (z : St) (k : Nat) (hg : Gd s z.l) (h : (take s z k).1.bad = false) :
    z.bad = false ∧ Gd s (take s z k).1.l ∧ (k = 2 → right (take s z k).2 = true) ∧ (take s z k).2.length + 1 + wt s (take s z k).1.l ≤ wt s z.l ∧ (stop z k = false) := by
  by_cases hs : stop z k = true
  · unfold take at h; rw [if_pos hs] at h; simp [fail] at h
  · obtain ⟨t, r, hl, hk, hb, he⟩ := take_yes s z k (by simpa using hs)
    rw [he, hl]
    rw [hl] at hg
    refine ⟨hb, fun u hu => hg u (List.mem_cons_of_mem _ hu), fun e => hg t (List.mem_cons_self ..) (hk.trans e), ?_, by simpa using hs⟩
    show (txt s t).length + 1 + wt s r ≤ wt s (t :: r)
    unfold wt; simp
theorem kq_none (z : St) (hg : Gd s z.l) (h : (none s z).1.bad = false) :
    z.bad = false ∧ Gd s (none s z).1.l ∧ (none s z).1.l.length ≤ z.l.length ∧ wt s (none s z).1.l ≤ wt s z.l ∧ ((none s z).2 = true → 1 + wt s (none s z).1.l ≤ wt s z.l) := by
  have hlen := none_len s z
  unfold none at h hlen ⊢
  split at h
  · rename_i hw
    rw [if_pos hw] at hlen ⊢
    have := kq_take z 1 hg h
    exact ⟨this.1, this.2.1, hlen, by have := this.2.2.2.1; show wt s (take s z 1).1.l ≤ _; omega, fun _ => by have := this.2.2.2.1; show 1 + wt s (take s z 1).1.l ≤ _; omega⟩
  · rename_i hw
    rw [if_neg hw]
    exact ⟨h, hg, Nat.le_refl _, Nat.le_refl _, fun e => by cases e⟩
theorem kq_pair : Kq s (pair s) prOk mP := by
  intro z hg h
  unfold pair at h ⊢
  have hb := take_notbad s _ 2 h
  have h2 := kq_take z 2 hg hb
  have h1 := kq_take (take s z 2).1 2 h2.2.1 h
  refine ⟨h2.1, h1.2.1, ⟨h2.2.2.1 rfl, h1.2.2.1 rfl⟩, ?_⟩
  have a := h1.2.2.2.1
  have b := h2.2.2.2.1
  show (take s z 2).2.length + (take s (take s z 2).1 2).2.length + 2 + wt s (take s (take s z 2).1 2).1.l ≤ _
  omega
theorem kq_one : Kq s (one s) (fun l => lsOk l ∧ l.length ≤ 1) mL ∧ ∀ z, Gd s z.l → (one s z).1.bad = false → (none s z).2 = false → ∃ p, (one s z).2 = [p] := by
  refine ⟨?_, ?_⟩
  · intro z hg h
    unfold one at h ⊢
    split at h
    · rename_i hn
      rw [if_pos hn]
      have := kq_none z hg h
      exact ⟨this.1, this.2.1, ⟨(fun p hp => by cases hp), by simp⟩, this.2.2.2.2 hn⟩
    · rename_i hn
      rw [if_neg hn]
      have b4 := take_notbad s _ 4 h
      have b3 : (take s (none s z).1 3).1.bad = false := by
        have := take_notbad s _ 2 b4; exact take_notbad s _ 2 this
      have b2 := take_notbad s _ 3 b3
      have c1 := kq_none z hg b2
      have c2 := kq_take (none s z).1 3 c1.2.1 b3
      have c3 := kq_pair (take s (none s z).1 3).1 c2.2.1 b4
      have c4 := kq_take _ 4 c3.2.1 h
      refine ⟨c1.1, c4.2.1, ⟨?_, by simp⟩, ?_⟩
      · intro p hp
        rw [List.mem_singleton] at hp; subst hp
        exact c3.2.2.1
      · have x1 := c1.2.2.2.1
        have x2 := c2.2.2.2.1
        have x3 := c3.2.2.2
        have x4 := c4.2.2.2.1
        show 1 + (mP (pair s (take s (none s z).1 3).1).2 + 0) + _ ≤ _
        dsimp only
        omega
  · intro z hg h hn
    unfold one
    rw [if_neg (by rw [hn]; simp)]
    exact ⟨_, rfl⟩
theorem kq_eachF {A : Type} {f : St → St × A} {Q : A → Prop} {m : A → Nat} (hf : Kq s f Q m) : ∀ n z, Gd s z.l → (eachF s f n z).1.bad = false →
    z.bad = false ∧ Gd s (eachF s f n z).1.l ∧ (∀ x ∈ (eachF s f n z).2, Q x) ∧ ((eachF s f n z).2.map m).sum + wt s (eachF s f n z).1.l ≤ wt s z.l ∧ (1 ≤ n → (eachF s f n z).2 ≠ []) := by
  intro n
  induction n with
  | zero => intro z hg h; exact ⟨h, hg, (fun x hx => by cases hx), by show 0 + wt s z.l ≤ _; omega, fun e => by omega⟩
  | succ n ih =>
    intro z hg h
    unfold eachF at h ⊢
    split at h
    · rename_i hb
      rw [hb] at h; cases h
    · rename_i hb
      rw [if_neg hb]
      split at h
      · rename_i hp
        rw [if_pos hp]
        dsimp only at h ⊢
        have b1 : (take s (f z).1 5).1.bad = false := by
          cases hbb : (take s (f z).1 5).1.bad with
          | false => rfl
          | true =>
            have e : ∀ m, (eachF s f m (take s (f z).1 5).1).1.bad = true := by
              intro m; cases m with
              | zero => exact hbb
              | succ m => unfold eachF; rw [if_pos hbb]; exact hbb
            rw [e] at h; cases h
        have b0 := take_notbad s _ 5 b1
        have c0 := hf z hg b0
        have c1 := kq_take _ 5 c0.2.1 b1
        have c2 := ih _ c1.2.1 h
        refine ⟨c0.1, c2.2.1, ?_, ?_, fun _ => by simp⟩
        · intro x hx
          rcases List.mem_cons.1 hx with rfl | hx
          · exact c0.2.2.1
          · exact c2.2.2.1 x hx
        · have x0 := c0.2.2.2
          have x1 := c1.2.2.2.1
          have x2 := c2.2.2.2.1
          simp only [List.map_cons, List.sum_cons]
          omega
      · rename_i hp
        rw [if_neg hp]
        dsimp only at h ⊢
        have b0 := take_notbad s _ 4 h
        have c0 := hf z hg b0
        have c1 := kq_take _ 4 c0.2.1 h
        refine ⟨c0.1, c1.2.1, ?_, ?_, fun _ => by simp⟩
        · intro x hx
          rw [List.mem_singleton] at hx; subst hx
          exact c0.2.2.1
        · have x0 := c0.2.2.2
          have x1 := c1.2.2.2.1
          simp only [List.map_cons, List.sum_cons, List.map_nil, List.sum_nil]
          omega
theorem kq_each {A : Type} {f : St → St × A} {Q : A → Prop} {m : A → Nat} (hf : Kq s f Q m) : Kq s (each s f) (fun l => (∀ x ∈ l, Q x) ∧ l ≠ []) (fun l => 1 + (l.map m).sum) := by
  intro z hg h
  unfold each at h ⊢
  have b0 : (take s z 3).1.bad = false := by
    cases hbb : (take s z 3).1.bad with
    | false => rfl
    | true => unfold eachF at h; rw [if_pos hbb] at h; rw [hbb] at h; cases h
  have c0 := kq_take z 3 hg b0
  have c1 := kq_eachF hf _ _ c0.2.1 h
  refine ⟨c0.1, c1.2.1, ⟨c1.2.2.1, c1.2.2.2.2 (by omega)⟩, ?_⟩
  have x0 := c0.2.2.2.1
  have x1 := c1.2.2.2.1
  dsimp only
  omega
theorem kq_list : Kq s (list s) lsOk mL ∧ ∀ z, Gd s z.l → (list s z).1.bad = false → (none s z).2 = false → (list s z).2 ≠ [] := by
  refine ⟨?_, ?_⟩
  · intro z hg h
    unfold list at h ⊢
    split at h
    · rename_i hn
      rw [if_pos hn]
      have := kq_none z hg h
      exact ⟨this.1, this.2.1, (fun p hp => by cases hp), this.2.2.2.2 hn⟩
    · rename_i hn
      rw [if_neg hn]
      have hb : (none s z).1.bad = false := by
        unfold none
        split
        · rename_i hw
          unfold none at hn
          rw [if_pos hw] at hn; exact absurd rfl hn
        · rename_i hw
          unfold none at h
          rw [if_neg hw] at h
          cases hz : z.bad with
          | false => rfl
          | true =>
            have e1 : (take s z 3).1.bad = true := by rw [take_bad s z 3 hz]; exact hz
            unfold each eachF at h; rw [if_pos e1, e1] at h; cases h
      have c1 := kq_none z hg hb
      have c2 := kq_each kq_pair _ c1.2.1 h
      exact ⟨c1.1, c2.2.1, c2.2.2.1.1, by have x := c2.2.2.2; have := c1.2.2.2.1; dsimp only at x; unfold mL; (try dsimp only); omega⟩
  · intro z hg h hn
    have hn' : ¬ (none s z).2 = true := by rw [hn]; simp
    unfold list at h ⊢
    rw [if_neg hn'] at h ⊢
    have e : (none s z).1 = z := by
      unfold none at hn ⊢
      split at hn
      · cases hn
      · rename_i hw; rw [if_neg hw]
    rw [e] at h ⊢
    exact (kq_each kq_pair z hg h).2.2.1.2
theorem kq_poly : Kq s (poly s) (fun l => ∀ x ∈ l, lsOk x) (fun l => 1 + mLs l) := by
  intro z hg h
  unfold poly at h ⊢
  split at h
  · rename_i hn
    rw [if_pos hn]
    have := kq_none z hg h
    exact ⟨this.1, this.2.1, (fun p hp => by cases hp), this.2.2.2.2 hn⟩
  · rename_i hn
    rw [if_neg hn]
    have e : (none s z).1 = z := by
      unfold none at hn ⊢
      split at hn
      · exact absurd rfl hn
      · rename_i hw; rw [if_neg hw]
    unfold lists at h ⊢
    rw [e] at h ⊢
    have c2 := kq_each kq_list.1 z hg h
    exact ⟨c2.1, c2.2.1, c2.2.2.1.1, c2.2.2.2⟩
theorem cost_closing' (s : Str) : ∀ n z, (closing s n z).1.bad = false → z.bad = false := by
  intro n
  induction n with
  | zero => intro z h; exact h
  | succ n ih =>
    intro z h
    unfold closing at h
    split at h
    · exact h
    · split at h
      · exact take_notbad s z 5 h
      · exact take_notbad s z 4 (ih _ h)
theorem sum_append (a b : List Nat) : (a ++ b).sum = a.sum + b.sum := by simp
theorem flat_sum (l : List (List (List Pr))) : mLs l.flatten = (l.map mLs).sum := by
  induction l with
  | nil => rfl
  | cons x l ih => unfold mLs at ih ⊢; rw [List.flatten_cons, List.map_append, sum_append, ih]; rfl
theorem sum_lens {A : Type} (l : List (List A)) : (l.map List.length).sum = l.flatten.length := by
  induction l with
  | nil => rfl
  | cons x l ih => simp
theorem sum_succ {A : Type} (f : A → Nat) (l : List A) : (l.map fun x => 1 + f x).sum = l.length + (l.map f).sum := by
  induction l with
  | nil => rfl
  | cons x l ih => simp only [List.map_cons, List.sum_cons, List.length_cons, ih]; omega
/-- what a body holds, by its kind -/
def BdOk (k : Nat) (b : List (List Pr) × List Nat) : Prop :=
  (∀ l ∈ b.1, lsOk l) ∧ (k = 1 → b.1 = [] ∨ ∃ p, b.1 = [[p]]) ∧ (k = 2 → b.1 = [] ∨ ∃ l, b.1 = [l] ∧ l ≠ []) ∧ (k = 4 → ∀ l ∈ b.1, l.length ≤ 1) ∧ (k = 6 → b.2.sum = b.1.length) ∧ (k ≠ 6 → b.2 = [])
theorem kq_body (k : Nat) (hk : 1 ≤ k ∧ k ≤ 6) (z : St) (hg : Gd s z.l) (hn : (none s z).2 = false) (h : (body s k z).1.bad = false) :
    z.bad = false ∧ Gd s (body s k z).1.l ∧ BdOk k (body s k z).2 ∧ mLs (body s k z).2.1 + (body s k z).2.2.length + wt s (body s k z).1.l ≤ wt s z.l := by
  unfold body at h ⊢
  split at h
  · rename_i h1
    rw [if_pos h1]
    have c := kq_one.1 z hg h
    obtain ⟨p, hp⟩ := kq_one.2 z hg h hn
    refine ⟨c.1, c.2.1, ⟨?_, fun _ => .inr ⟨p, ?_⟩, fun e => by omega, fun e => by omega, fun e => by omega, fun _ => rfl⟩, ?_⟩
    · intro l hl; rw [List.mem_singleton] at hl; subst hl; exact c.2.2.1.1
    · show [(one s z).2] = _; rw [hp]
    · have := c.2.2.2; show (mL _ + 0) + 0 + _ ≤ _; dsimp only; omega
  rename_i h1
  rw [if_neg h1]
  split at h
  · rename_i h2
    rw [if_pos h2]
    have c := kq_list.1 z hg h
    have hne := kq_list.2 z hg h hn
    refine ⟨c.1, c.2.1, ⟨?_, fun e => absurd e h1, fun _ => .inr ⟨_, rfl, hne⟩, fun e => by omega, fun e => by omega, fun _ => rfl⟩, ?_⟩
    · intro l hl; rw [List.mem_singleton] at hl; subst hl; exact c.2.2.1
    · have := c.2.2.2; show (mL _ + 0) + 0 + _ ≤ _; dsimp only; omega
  rename_i h2
  rw [if_neg h2]
  split at h
  · rename_i h3
    rw [if_pos h3]
    have c := kq_each kq_list.1 z hg h
    refine ⟨c.1, c.2.1, ⟨c.2.2.1.1, fun e => absurd e h1, fun e => absurd e h2, fun e => by omega, fun e => by omega, fun _ => rfl⟩, ?_⟩
    have := c.2.2.2; dsimp only at this; show mLs (each s (list s) z).2 + 0 + _ ≤ _; unfold mLs lists; dsimp only; omega
  rename_i h3
  rw [if_neg h3]
  split at h
  · rename_i h4
    rw [if_pos h4]
    have c := kq_each kq_one.1 z hg h
    refine ⟨c.1, c.2.1, ⟨fun l hl => (c.2.2.1.1 l hl).1, fun e => absurd e h1, fun e => absurd e h2, fun _ l hl => (c.2.2.1.1 l hl).2, fun e => by omega, fun _ => rfl⟩, ?_⟩
    have := c.2.2.2; dsimp only at this; show mLs (each s (one s) z).2 + 0 + _ ≤ _; unfold mLs lists; dsimp only; omega
  · rename_i h4
    rw [if_neg h4]
    have c := kq_each kq_poly z hg h
    refine ⟨c.1, c.2.1, ⟨?_, fun e => absurd e h1, fun e => absurd e h2, fun e => absurd e h4, fun _ => ?_, fun e => by omega⟩, ?_⟩
    · intro l hl
      obtain ⟨x, hx, hl⟩ := List.mem_flatten.1 hl
      exact c.2.2.1.1 x hx l hl
    · exact sum_lens _
    · have x := c.2.2.2
      dsimp only at x
      rw [sum_succ] at x
      show mLs (each s (poly s) z).2.flatten + ((each s (poly s) z).2.map List.length).length + _ ≤ _
      rw [flat_sum, List.length_map]
      dsimp only
      omega
theorem kq_closing : ∀ n z, Gd s z.l → (closing s n z).1.bad = false → z.bad = false ∧ Gd s (closing s n z).1.l ∧ wt s (closing s n z).1.l ≤ wt s z.l ∧ (closing s n z).1.l.length ≤ z.l.length ∧ (closing s n z).2.1 ≤ n ∧ ((closing s n z).2.2 = true → 1 ≤ (closing s n z).2.1 ∧ (closing s n z).1.l.length < z.l.length) := by
  intro n
  induction n with
  | zero => intro z hg h; exact ⟨h, hg, Nat.le_refl _, Nat.le_refl _, Nat.le_refl _, fun e => by cases e⟩
  | succ n ih =>
    intro z hg h
    unfold closing at h ⊢
    split at h
    · rename_i hb
      rw [hb] at h; cases h
    rename_i hb
    rw [if_neg hb]
    split at h
    · rename_i hp
      rw [if_pos hp]
      have c := kq_take z 5 hg h
      have := take_lt s z 5 h
      exact ⟨c.1, c.2.1, by have := c.2.2.2.1; show wt s (take s z 5).1.l ≤ _; omega, Nat.le_of_lt this, Nat.le_refl _, fun _ => ⟨by show 1 ≤ n + 1; omega, this⟩⟩
    · rename_i hp
      rw [if_neg hp]
      have b : (take s z 4).1.bad = false := (cost_closing' s n _ h)
      have c := kq_take z 4 hg b
      have d := ih _ c.2.1 h
      have hlt := take_lt s z 4 b
      exact ⟨c.1, d.2.1, by have := d.2.2.1; have := c.2.2.2.1; omega, by have := d.2.2.2.1; omega, by have := d.2.2.2.2.1; omega, fun e => by have := d.2.2.2.2.2 e; exact ⟨this.1, by omega⟩⟩
end
end Go.Proofs.YtfbdkjonjpanfaaGreatDoor.Wk
