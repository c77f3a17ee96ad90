import Derived.Test.YtfbdkjonjpanfaaGreatDoorWktK
set_option linter.unusedVariables false
namespace Go.Proofs.YtfbdkjonjpanfaaGreatDoor
open Go.RowKit Go.Rg

theorem rdT_opens {T : TypeId} {w : World} {v : Value} {n : Nat} {xs : List Value} (h : RdT T w v n xs) (hx : xs ≠ []) :
    ∃ g off cap, v = .slice (some ⟨g, off, none⟩) n cap ∧ g < w.heap.size ∧ n ≤ cap ∧ cap ≤ maxLen ∧ ∀ j x, xs[j]? = some x → w.cell? ⟨g, off + j, none⟩ = some x := by
  rcases h.reads with ⟨_, _, h⟩ | ⟨g, off, cap, h1, h2, h3, h4, h5⟩
  · exact absurd h hx
  · exact ⟨g, off, cap, h1, h2, h3, h4, h5⟩

end Go.Proofs.YtfbdkjonjpanfaaGreatDoor
