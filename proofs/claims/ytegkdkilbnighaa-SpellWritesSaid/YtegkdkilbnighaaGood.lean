/- What always holds of the document's machine: its states fit their geometry, and grow by one thing a step. No program in sight. -/
import Derived.Test.YtegkdkilbnighaaMachB
set_option linter.unusedVariables false
set_option linter.unusedSimpArgs false
namespace Go.Proofs.Ytegkdkilbnighaa.Wk
open Go Lx

/-- a state fits the geometry under way -/
def Fit (a : Nat) (g : RGeo) : Prop :=
  1 ≤ g.kind ∧ ((a = 2 ∧ g.kind ≤ 7) ∨ (g.kind ≤ 6 ∧
    (((a = 3 ∨ a = 4 ∨ a = 5 ∨ a = 12) ∧ g.counts ≠ [] ∧ (deeper g.kind = 5 → g.size ≠ [])) ∨
     ((a = 6 ∨ a = 11 ∨ a = 7) ∧ (deeper g.kind = 3 ∨ deeper g.kind = 4 ∨ deeper g.kind = 5) ∧ (deeper g.kind = 5 → g.size ≠ [])) ∨
     ((a = 8 ∨ a = 9) ∧ deeper g.kind = 5))))
def Good (z : MS) : Prop := z.at_ = 1 ∨ z.at_ = 10 ∨ ∃ o g, z.out = o ++ [g] ∧ Fit z.at_ g
def LimG (n : Nat) (g : RGeo) : Prop := g.pairs.length ≤ n ∧ g.counts.length ≤ n ∧ g.size.length ≤ n ∧ (∀ c ∈ g.counts, c ≤ n) ∧ ∀ c ∈ g.size, c ≤ n
def Lim (n : Nat) (z : MS) : Prop := z.level ≤ n ∧ z.out.length ≤ n ∧ ∀ g ∈ z.out, LimG n g

theorem deeper_cases (k : Nat) (h1 : 1 ≤ k) (h6 : k ≤ 6) : deeper k = 1 ∨ deeper k = 2 ∨ deeper k = 3 ∨ deeper k = 4 ∨ deeper k = 5 := by
  have : k = 1 ∨ k = 2 ∨ k = 3 ∨ k = 4 ∨ k = 5 ∨ k = 6 := by omega
  rcases this with rfl | rfl | rfl | rfl | rfl | rfl <;> decide
theorem bump_ne (l : List Nat) : bump l ≠ [] := by unfold bump; simp
theorem bump_len (l : List Nat) (h : l ≠ []) : (bump l).length = l.length := by
  unfold bump
  have : 0 < l.length := List.length_pos_iff.2 h
  simp; omega
theorem bump_le (l : List Nat) (n : Nat) (h : ∀ c ∈ l, c ≤ n) : ∀ c ∈ bump l, c ≤ n + 1 := by
  intro c hc
  unfold bump at hc
  rcases List.mem_append.1 hc with h1 | h1
  · exact Nat.le_succ_of_le (h c (List.dropLast_subset _ h1))
  · simp only [List.mem_cons, List.not_mem_nil, or_false] at h1
    rw [h1]
    cases hl : l with
    | nil => simp
    | cons a r =>
      have : (a :: r).getLastD 0 ∈ l := by
        rw [hl, List.getLastD_eq_getLast?, List.getLast?_eq_some_getLast (by simp)]
        simp
      have := h _ this
      omega
theorem LimG.up {n : Nat} {g : RGeo} (h : LimG n g) : LimG (n + 1) g := ⟨Nat.le_succ_of_le h.1, Nat.le_succ_of_le h.2.1, Nat.le_succ_of_le h.2.2.1, fun c hc => Nat.le_succ_of_le (h.2.2.2.1 c hc), fun c hc => Nat.le_succ_of_le (h.2.2.2.2 c hc)⟩
theorem lim_set {n : Nat} {a b lev : Nat} {o : List RGeo} {g g' : RGeo} (h : Lim n ⟨a, lev, o ++ [g]⟩) (hg : LimG (n + 1) g') : Lim (n + 1) ⟨b, lev, o ++ [g']⟩ := by
  obtain ⟨h1, h2, h3⟩ := h
  refine ⟨Nat.le_succ_of_le h1, by simp at h2 ⊢; omega, fun x hx => ?_⟩
  rcases List.mem_append.1 hx with hx | hx
  · exact (h3 x (by simp [hx])).up
  · simp at hx; rw [hx]; exact hg
theorem lim_same {n : Nat} {a b lev : Nat} {out : List RGeo} (h : Lim n ⟨a, lev, out⟩) (lev' : Nat) (hl : lev' ≤ lev + 1) : Lim (n + 1) ⟨b, lev', out⟩ :=
  ⟨by have := h.1; simp only at this ⊢; omega, Nat.le_succ_of_le h.2.1, fun x hx => (h.2.2 x hx).up⟩

theorem last_of (a lev : Nat) (o : List RGeo) (g : RGeo) : last ⟨a, lev, o ++ [g]⟩ = g := by unfold last; simp
theorem set_of (a lev : Nat) (o : List RGeo) (g g' : RGeo) (b : Nat) : setLast ⟨a, lev, o ++ [g]⟩ g' b = ⟨b, lev, o ++ [g']⟩ := by unfold setLast; simp

theorem step_good (n : Nat) (z z' : MS) (kd : Nat) (t : Str) (hz : Good z) (hl : Lim n z) (h : step z kd t = some z') : Good z' ∧ Lim (n + 1) z' := by
  obtain ⟨a, lev, out⟩ := z
  rcases hz with h1 | h10 | ⟨o, g, rfl, hk1, hf⟩
  · simp only at h1
    subst h1
    rw [step1] at h
    split at h
    · cases h
    · rename_i hc
      cases h
      refine ⟨.inr (.inr ⟨out, _, rfl, ?_, .inl ⟨rfl, ?_⟩⟩), by have := hl.1; simp only [gz] at this ⊢; omega, by have := hl.2.1; simp only [gz, List.length_append, List.length_cons, List.length_nil] at this ⊢; omega, fun x hx => ?_⟩
      · show 1 ≤ Wk.kind t; omega
      · exact kind_le t
      · simp only [gz] at hx
        rcases List.mem_append.1 hx with hx | hx
        · exact (hl.2.2 x hx).up
        · simp at hx; rw [hx]; exact ⟨Nat.zero_le _, Nat.zero_le _, Nat.zero_le _, by simp, by simp⟩
  · simp only at h10
    subst h10
    have hb : step ⟨10, lev, out⟩ kd t = behind ⟨10, lev, out⟩ kd := rfl
    rw [hb] at h
    unfold behind at h
    simp only [if_true] at h
    split at h
    · cases h
    · split at h
      · cases h; exact ⟨.inl rfl, lim_same hl _ (by omega)⟩
      · split at h
        · cases h; exact ⟨.inr (.inl rfl), lim_same hl _ (by omega)⟩
        · cases h
  · simp only at hf
    have hg := hl.2.2 g (by simp)
    have kp : ∀ b, Lim (n + 1) ⟨b, lev, o ++ [g]⟩ := fun b => lim_same hl _ (by omega)
    have mk : ∀ b g', Fit b g' → LimG (n + 1) g' → Good ⟨b, lev, o ++ [g']⟩ ∧ Lim (n + 1) ⟨b, lev, o ++ [g']⟩ := fun b g' h1 h2 => ⟨.inr (.inr ⟨o, g', rfl, h1⟩), lim_set hl h2⟩
    have sm : ∀ b, Fit b g → Good ⟨b, lev, o ++ [g]⟩ ∧ Lim (n + 1) ⟨b, lev, o ++ [g]⟩ := fun b h1 => ⟨.inr (.inr ⟨o, g, rfl, h1⟩), kp b⟩
    have s10 : Good ⟨10, lev, o ++ [g]⟩ ∧ Lim (n + 1) ⟨10, lev, o ++ [g]⟩ := ⟨.inr (.inl rfl), kp 10⟩
    have hmore : LimG (n + 1) (more g) := ⟨Nat.le_succ_of_le hg.1, by have := hg.2.1; simp [more]; omega, Nat.le_succ_of_le hg.2.2.1, fun c hc => by
      simp only [more] at hc
      rcases List.mem_append.1 hc with hc | hc
      · exact Nat.le_succ_of_le (hg.2.2.2.1 c hc)
      · simp at hc; omega, fun c hc => Nat.le_succ_of_le (hg.2.2.2.2 c hc)⟩
    rcases hf with ⟨rfl, hk7⟩ | ⟨hk6, hf⟩
    · have hb : step ⟨2, lev, o ++ [g]⟩ kd t = mbody ⟨2, lev, o ++ [g]⟩ kd t := rfl
      rw [hb] at h
      unfold mbody at h
      rw [last_of] at h
      split at h
      · cases h; exact s10
      · split at h
        · cases h
        · split at h
          · cases h; exact ⟨.inl rfl, lim_same hl (lev + 1) (Nat.le_refl _)⟩
          · rename_i hn7
            cases h
            rw [set_of]
            have hd := deeper_cases g.kind hk1 (by omega)
            by_cases h2 : deeper g.kind ≤ 2
            · rw [if_pos h2]
              refine mk _ _ ⟨hk1, .inr ⟨by show g.kind ≤ 6; omega, .inl ⟨.inl (by unfold mnext; rw [if_pos (by omega)]), by simp [more], fun h => ?_⟩⟩⟩ hmore
              have : deeper g.kind = 5 := h
              omega
            · rw [if_neg h2]
              rcases hd with hd | hd | hd | hd | hd
              · omega
              · omega
              · exact sm _ ⟨hk1, .inr ⟨by omega, .inr (.inl ⟨.inl (by rw [hd]; rfl), .inl hd, fun h => by omega⟩)⟩⟩
              · exact sm _ ⟨hk1, .inr ⟨by omega, .inr (.inl ⟨.inr (.inl (by rw [hd]; rfl)), .inr (.inl hd), fun h => by omega⟩)⟩⟩
              · exact sm _ ⟨hk1, .inr ⟨by omega, .inr (.inr ⟨.inl (by rw [hd]; rfl), hd⟩)⟩⟩
    · have hclose : Fit 3 g ∨ deeper g.kind = 1 ∨ deeper g.kind = 2 ∨ (deeper g.kind = 3 ∨ deeper g.kind = 4 ∨ deeper g.kind = 5) := by
        have := deeper_cases g.kind hk1 hk6; omega
      rcases hf with ⟨ha, hc, hs⟩ | ⟨ha, hd, hs⟩ | ⟨ha, hd⟩
      · have hcl : Good ⟨closedAt g, lev, o ++ [g]⟩ ∧ Lim (n + 1) ⟨closedAt g, lev, o ++ [g]⟩ := by
          unfold closedAt
          by_cases hd : deeper g.kind = 1 ∨ deeper g.kind = 2
          · rw [if_pos hd]; exact s10
          · rw [if_neg hd]
            have := deeper_cases g.kind hk1 hk6
            exact sm 7 ⟨hk1, .inr ⟨hk6, .inr (.inl ⟨.inr (.inr rfl), by omega, hs⟩)⟩⟩
        rcases ha with rfl | rfl | rfl | rfl
        · unfold step at h
          simp only [last_of, set_of] at h
          simp at h
          obtain ⟨_, rfl⟩ := h
          refine mk _ _ ⟨hk1, .inr ⟨hk6, .inl ⟨.inr (.inl rfl), hc, hs⟩⟩⟩ ⟨by have := hg.1; simp; omega, Nat.le_succ_of_le hg.2.1, Nat.le_succ_of_le hg.2.2.1, hg.up.2.2.2.1, hg.up.2.2.2.2⟩
        · unfold step at h
          simp only [last_of, set_of] at h
          simp at h
          obtain ⟨_, rfl⟩ := h
          refine mk _ _ ⟨hk1, .inr ⟨hk6, .inl ⟨?_, bump_ne _, hs⟩⟩⟩ ⟨by have := hg.1; simp; omega, by show (bump g.counts).length ≤ n + 1; rw [bump_len _ hc]; exact Nat.le_succ_of_le hg.2.1, Nat.le_succ_of_le hg.2.2.1, bump_le _ _ hg.2.2.2.1, hg.up.2.2.2.2⟩
          split
          · exact .inr (.inr (.inr rfl))
          · exact .inr (.inr (.inl rfl))
        · unfold step at h
          simp only [last_of] at h
          simp at h
          split at h
          · cases h; exact sm 3 ⟨hk1, .inr ⟨hk6, .inl ⟨.inl rfl, hc, hs⟩⟩⟩
          · simp at h
            obtain ⟨_, rfl⟩ := h
            exact hcl
        · unfold step at h
          simp only [last_of] at h
          simp at h
          obtain ⟨_, rfl⟩ := h
          exact hcl
      · have hcm : LimG (n + 1) (counted (more g)) := by
          unfold counted
          by_cases h5 : deeper g.kind = 5
          · rw [if_pos (by exact h5)]
            exact ⟨hmore.1, hmore.2.1, by show (bump g.size).length ≤ n + 1; rw [bump_len _ (hs h5)]; exact Nat.le_succ_of_le hg.2.2.1, hmore.2.2.2.1, bump_le _ _ hg.2.2.2.2⟩
          · rw [if_neg (by exact h5)]; exact hmore
        have hck : (counted (more g)).kind = g.kind := by unfold counted; split <;> rfl
        have hcc : (counted (more g)).counts ≠ [] := by unfold counted; split <;> simp [more]
        have hcs : deeper (counted (more g)).kind = 5 → (counted (more g)).size ≠ [] := by
          rw [hck]; intro h5
          unfold counted
          rw [if_pos (by exact h5)]
          exact bump_ne _
        have f3 : Fit 3 (counted (more g)) := ⟨by rw [hck]; exact hk1, .inr ⟨by rw [hck]; exact hk6, .inl ⟨.inl rfl, hcc, hcs⟩⟩⟩
        have f7 : Fit 7 (counted (more g)) := ⟨by rw [hck]; exact hk1, .inr ⟨by rw [hck]; exact hk6, .inr (.inl ⟨.inr (.inr rfl), by rw [hck]; exact hd, hcs⟩)⟩⟩
        have h611 : ∀ a, (a = 6 ∨ a = 11) → step ⟨a, lev, o ++ [g]⟩ kd t = some z' → Good z' ∧ Lim (n + 1) z' := by
          intro a ha h
          unfold step at h
          simp only [last_of, set_of] at h
          rw [if_neg (by omega), if_neg (by omega), if_neg (by omega), if_neg (by omega), if_neg (by omega), if_neg (by omega), if_pos ha] at h
          split at h
          · cases h; exact mk 7 _ f7 hcm
          · split at h
            · cases h; exact mk 3 _ f3 hcm
            · cases h
        rcases ha with rfl | rfl | rfl
        · exact h611 6 (.inl rfl) h
        · exact h611 11 (.inr rfl) h
        · have hb : step ⟨7, lev, o ++ [g]⟩ kd t = behind ⟨7, lev, o ++ [g]⟩ kd := rfl
          rw [hb] at h
          unfold behind at h
          simp only [last_of] at h
          rw [if_neg (by omega)] at h
          split at h
          · cases h
            refine sm _ ⟨hk1, .inr ⟨hk6, .inr (.inl ⟨?_, hd, hs⟩)⟩⟩
            rw [if_neg (by omega)]
            unfold again
            rcases hd with hd | hd | hd <;> rw [hd] <;> simp
          · split at h
            · cases h
              by_cases h5 : deeper g.kind = 5
              · rw [if_pos (by simp [h5])]; exact sm 9 ⟨hk1, .inr ⟨hk6, .inr (.inr ⟨.inr rfl, h5⟩)⟩⟩
              · rw [if_neg (by simp [h5])]; exact s10
            · cases h
      · have hsz : LimG (n + 1) { g with size := g.size ++ [0] } := ⟨Nat.le_succ_of_le hg.1, Nat.le_succ_of_le hg.2.1, by have := hg.2.2.1; simp; omega, hg.up.2.2.2.1, fun c hc => by
          rcases List.mem_append.1 hc with hc | hc
          · exact Nat.le_succ_of_le (hg.2.2.2.2 c hc)
          · simp at hc; omega⟩
        rcases ha with rfl | rfl
        · unfold step at h
          simp only [last_of, set_of] at h
          simp at h
          split at h
          · cases h
            exact mk 9 _ ⟨hk1, .inr ⟨hk6, .inr (.inr ⟨.inr rfl, hd⟩)⟩⟩ hsz
          · simp at h
            obtain ⟨_, rfl⟩ := h
            exact mk 6 _ ⟨hk1, .inr ⟨hk6, .inr (.inl ⟨.inl rfl, .inr (.inr hd), fun _ => by simp⟩)⟩⟩ hsz
        · have hb : step ⟨9, lev, o ++ [g]⟩ kd t = behind ⟨9, lev, o ++ [g]⟩ kd := rfl
          rw [hb] at h
          unfold behind at h
          simp only [last_of] at h
          rw [if_neg (by omega)] at h
          split at h
          · cases h
            exact sm _ ⟨hk1, .inr ⟨hk6, .inr (.inr ⟨.inl (by simp), hd⟩)⟩⟩
          · split at h
            · cases h; rw [if_neg (by omega)]; exact s10
            · cases h
end Go.Proofs.Ytegkdkilbnighaa.Wk
