import Derived.Test.YtfbdkjonjpanfaaGreatDoorWktQ
set_option linter.unusedVariables false
set_option linter.unusedSimpArgs false
namespace Go.Proofs.YtfbdkjonjpanfaaGreatDoor
open Go.RowKit Go.Rg

theorem rdsL_at2 {R : Nat} {w : World} : ∀ {vs : List Value} {ls : List (List Wk.Pr)} {k : Nat} {l : List Wk.Pr}, rdsL R w vs ls → ls[k]? = some l → ∃ v, vs[k]? = some v ∧ RdP R w v l
  | [], [], k, l, _, h => by cases h
  | v :: vs, m :: ls, 0, l, ⟨a, _⟩, h => by cases h; exact ⟨v, rfl, a⟩
  | v :: vs, m :: ls, k + 1, l, ⟨_, b⟩, h => by
    obtain ⟨v', h1, h2⟩ := rdsL_at2 (k := k) b h
    exact ⟨v', h1, h2⟩

/-- the address at which a slice that reads begins -/
theorem rdT_base2 {T : TypeId} {w : World} {v : Value} {n : Nat} {xs : List Value} (h : RdT T w v n xs) : ∃ a c, v = .slice a n c ∧ n ≤ maxLen ∧ (xs ≠ [] → ∃ g off, a = some ⟨g, off, none⟩ ∧ n ≤ c ∧ c ≤ maxLen ∧ g < w.heap.size ∧ ∀ j x, xs[j]? = some x → w.cell? ⟨g, off + j, none⟩ = some x) := by
  by_cases hx : xs = []
  · obtain ⟨a, c, e⟩ := pair_form (R := 0) h
    exact ⟨a, c, e, h.lt, fun h => absurd hx h⟩
  · obtain ⟨g, off, cap, e, h1, h2, h3, h4⟩ := rdT_opens h hx
    exact ⟨_, cap, e, h.lt, fun _ => ⟨g, off, rfl, h2, h3, h1, h4⟩⟩

theorem flatP_at2 (P : List Wk.Pr) (m : Nat) (p : Wk.Pr) (h : P[m]? = some p) : (flatP P)[m * 2]? = some (.string ⟨p.1.toArray⟩) ∧ (flatP P)[m * 2 + 1]? = some (.string ⟨p.2.toArray⟩) := by
  induction P generalizing m with
  | nil => cases h
  | cons q P ih =>
    cases m with
    | zero => cases h; exact ⟨rfl, rfl⟩
    | succ m =>
      obtain ⟨a, b⟩ := ih m h
      have e : (m + 1) * 2 = m * 2 + 1 + 1 := by omega
      rw [e]
      exact ⟨a, b⟩
def gV2 (g : Wk.Geo) (lv sv : Value) : Value := .agg #[.int .i64 (g.kind : Int), .int .i64 (g.level : Int), lv, sv]
end Go.Proofs.YtfbdkjonjpanfaaGreatDoor
