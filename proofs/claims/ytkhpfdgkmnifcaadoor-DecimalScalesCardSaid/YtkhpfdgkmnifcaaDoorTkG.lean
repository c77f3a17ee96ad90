/- Taking an operation of a drawn region that is written out, where late operations may break the condition. No condition of its own. -/
import Derived.Test.YtkhpfdgkmnifcaaDoorTk
import Derived.Test.YtkhpfdgkmnifcaaDoorHeld
import Derived.BigQuiet
set_option linter.unusedVariables false
namespace Go.Rg
open Go Go.RowKit
theorem heldG_go {P : Program} {id : Nat} {Q : Exit → Act → World → Prop} {a : Act} {w : World} {l : List Oper} (S : World → Prop) (late : Nat → Bool) (hm : P.follows .mixedOrders = true) (hS : S w.drew)
    (h : S w.drew → wpAnyG P .any l.toArray Q S late l.toArray.size (Array.replicate l.toArray.size false) a w.drew) : (Code.region id l.toArray true).wp P Q a w :=
  wp_region_any hm (wpAny_of_G _ _ _ _ (h hS))
theorem takeG {P : Program} {l : List Oper} {Q : Exit → Act → World → Prop} {md : Region.Mode} {S : World → Prop} {late : Nat → Bool} (i : Nat) {oi : Oper} {v : Value} {fuel : Nat} {listed : Array Bool} {a : Act} {w : World} (D : List Nat) (hi : nthO l i = some oi)
    (hs : Region.noSelect l.toArray = true) (hf : Region.free md l.toArray listed i = true) (hr : (Region.ready md l.toArray listed).contains i = true)
    (hD : waitsD md l.toArray late D i listed = true) (hDs : D.all (fun j => decide (j < l.toArray.size)) = true)
    (hQ : ∀ c a w, Q (.panic c) (a.put oi.dst v) w → Q (.panic c) a w) (hw : Region.wanted oi (yielded l.toArray a.tmps) = true) (hS : S w) (hy : ∀ w, S w → (execOp a.eval oi).run P w = .ok (.value v) w)
    (h : wpAnyG P md l.toArray Q S late fuel (listed.setIfInBounds i true) (a.put oi.dst v) w) : wpAnyG P md l.toArray Q S late (fuel + 1) listed a w :=
  wpAnyG_takeD D (nthO_eq l i ▸ hi) hs hf hr hD hDs hQ (Or.inl ⟨hw, hy⟩) hS h
theorem skipG {P : Program} {l : List Oper} {Q : Exit → Act → World → Prop} {md : Region.Mode} {S : World → Prop} {late : Nat → Bool} (i : Nat) {oi : Oper} {fuel : Nat} {listed : Array Bool} {a : Act} {w : World} (D : List Nat) (hi : nthO l i = some oi)
    (hs : Region.noSelect l.toArray = true) (hf : Region.free md l.toArray listed i = true) (hr : (Region.ready md l.toArray listed).contains i = true)
    (hD : waitsD md l.toArray late D i listed = true) (hDs : D.all (fun j => decide (j < l.toArray.size)) = true)
    (hQ : ∀ c a w, Q (.panic c) (a.put oi.dst undef) w → Q (.panic c) a w) (hw : Region.wanted oi (yielded l.toArray a.tmps) = false) (hS : S w)
    (h : wpAnyG P md l.toArray Q S late fuel (listed.setIfInBounds i true) (a.put oi.dst undef) w) : wpAnyG P md l.toArray Q S late (fuel + 1) listed a w :=
  wpAnyG_takeD D (nthO_eq l i ▸ hi) hs hf hr hD hDs hQ (Or.inr ⟨hw, rfl⟩) hS h
theorem consG {P : Program} {l : List Oper} {Q : Exit → Act → World → Prop} {md : Region.Mode} {S : World → Prop} {late : Nat → Bool} {fuel : Nat} {listed : Array Bool} {a : Act} {w : World} (i : Nat) {o : Oper} (hn : Region.ready md l.toArray listed = [i]) (ho : nthO l i = some o)
    (hw : Region.wanted o (yielded l.toArray a.tmps) = true)
    (h : ∀ K' : Act → World → Prop, Shut (∀ a w, (late i = false → S w) → ((late i = false → S w) → wpAnyG P md l.toArray Q S late fuel (listed.setIfInBounds i true) a w) → K' a w) → Oper.wp P o a w K' Q) : wpAnyG P md l.toArray Q S late (fuel + 1) listed a w :=
  wpAnyG_ready hn (by simp) (AllReadyG.cons (nthO_eq l i ▸ ho) (fun K hK => by rw [if_pos hw]; exact h K (fun a w hS hW => hK.out a w hS (hW hS))) AllReadyG.nil)
end Go.Rg
namespace Go.Rg
open Go Go.RowKit
theorem consL2 {P : Program} {l : List Oper} {Q : Exit → Act → World → Prop} {md : Region.Mode} {S : World → Prop} {fuel : Nat} {listed : Array Bool} {a : Act} {w : World} (i j : Nat) {o p : Oper} (hn : Region.ready md l.toArray listed = [i, j]) (ho : nthO l i = some o) (hp : nthO l j = some p)
    (hw : Region.wanted o (yielded l.toArray a.tmps) = true) (hv : Region.wanted p (yielded l.toArray a.tmps) = true)
    (h : ∀ K' : Act → World → Prop, Shut (∀ a w, S w → (S w → wpAnyH P md l.toArray Q S fuel (listed.setIfInBounds i true) a w) → K' a w) → Oper.wp P o a w K' Q)
    (h2 : ∀ K' : Act → World → Prop, Shut (∀ a w, S w → (S w → wpAnyH P md l.toArray Q S fuel (listed.setIfInBounds j true) a w) → K' a w) → Oper.wp P p a w K' Q) : wpAnyH P md l.toArray Q S (fuel + 1) listed a w :=
  wpAnyH_ready hn (by simp) (AllReadyH.cons (nthO_eq l i ▸ ho) (fun K hK => by rw [if_pos hw]; exact h K hK) (AllReadyH.cons (nthO_eq l j ▸ hp) (fun K hK => by rw [if_pos hv]; exact h2 K hK) AllReadyH.nil))
end Go.Rg
