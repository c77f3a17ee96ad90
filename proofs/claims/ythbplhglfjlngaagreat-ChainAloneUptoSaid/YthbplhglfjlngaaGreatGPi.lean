/- A range over a function whose iterator hands out things that are not told in full. No program in sight. -/
import Derived.Test.YthbplhglfjlngaaGreatGPa
import GoSem.ClaimData
import Derived.Test.YthbplhglfjlngaaGreatGPh
import Derived.Lib.MinMax
import Derived.Test.YthbplhglfjlngaaGreatGPg
import Derived.Sort.CutIn
set_option linter.unusedVariables false
set_option linter.unusedSimpArgs false
set_option maxRecDepth 100000
namespace Go.Rg
open Go Go.RowKit
def SeqE (P : Program) (gf : Nat) (lb : Array Value) (n : Nat) (E : Nat → Array Value → World → Prop) (S : Nat → Prop) (w : World) : Prop :=
 ∀ (l : Nat) (J : Nat → (Nat → Prop) → World → Prop) (Jx : Nat → World → Prop) (W : World), Kept S w W →
  (∀ k O O' X Y, J k O X → Ext W.heap.size X Y → (∀ j, O' j → grow O X Y j) → J k O' Y) → (∀ k X Y, Jx k X → Ext W.heap.size X Y → Jx k Y) →
  (∀ k x O X, k < n → E k x X → Kept S W X → (∀ j, O j → W.heap.size ≤ j ∧ j < X.heap.size) → J k O X → YieldAt (WF none) 0 P l x X fun e X' =>
   (e = .returned (.bool true) ∧ J (k + 1) O X' ∧ Eff W.heap.size (both S O) X X') ∨ (e = .returned (.bool false) ∧ Jx (k + 1) X' ∧ Eff W.heap.size (both S O) X X')) →
  J 0 (fun _ => False) W →
  CallsIn (WF none) 0 P gf (#[.func (.yield l) #[] #[]] ++ lb) W fun e W' => (∃ v, e = .returned v) ∧ Kept S W W' ∧ ((∃ O, (∀ j, O j → W.heap.size ≤ j ∧ j < W'.heap.size) ∧ J n O W') ∨ ∃ k, 0 < k ∧ k ≤ n ∧ Jx k W')
section
variable {P : Program}
theorem wp_rangeE {g : Operand} {ps : Array Tmp} {assign body : Code} {Q : Exit → Act → World → Prop} {a : Act} {w : World} {gf : Nat} {lb : Array Value}
  (hg : a.eval g = .func (.func gf) #[] lb) (eg : ∀ args w, (callFunc gf args).run P w = .ok (.enter gf args) w)
  {n : Nat} {E : Nat → Array Value → World → Prop} {S : Nat → Prop} {w0 : World} (hseq : SeqE P gf lb n E S w0) (hw0 : Kept S w0 w) (hS : ∀ k, S k → k < w.heap.size) (hps : ∀ k x X, E k x X → x.size = ps.size)
  (I : Nat → (Nat → Prop) → World → Prop) (Ix : Code → Nat → World → Prop) (hI : ∀ k O O' X Y, I k O X → Ext w.heap.size X Y → (∀ j, O' j → grow O X Y j) → I k O' Y) (hIx : ∀ c k X Y, Ix c k X → Ext w.heap.size X Y → Ix c k Y) (h0 : I 0 (fun _ => False) w)
  (hround : ∀ (l k : Nat) (x : Array Value) (O : Nat → Prop) (W : World), w.heap.size < l → l < W.heap.size → k < n → E k x W → Kept S w W → (∀ j, O j → l < j ∧ j < W.heap.size) → I k O W →
   assign.wpIn (WF (some l)) 0 P (Exit.then (fun a' Wa => Eff w.heap.size (both S O) W Wa ∧ ∀ Wb, Ext w.heap.size Wa Wb → Kept (both S O) Wa Wb → Wb.heap.size = Wa.heap.size → (∃ r, Wb.heap[l]? = some (.loop r)) → body.wpIn (WF (some l)) 0 P (roundEnd w.heap.size (both S O) (I (k + 1) O) (fun c => Ix c (k + 1)) Wb) a' Wb) (fun _ _ _ => False))
    { tmps := (ps.zip x).foldl (fun t (p, v) => t.setIfInBounds p v) a.tmps, defers := [] } W)
  (hdone : ∀ (O : Nat → Prop) (W : World), Kept S w W → w.heap.size < W.heap.size → I n O W → W.heap[w.heap.size]? = some (.deferred (some [])) → Q .normal { a with defers := { target := .collected w.heap.size, args := #[] } :: a.defers } W)
  (hstop : ∀ (c : Code) (k : Nat) (W : World), Kept S w W → w.heap.size < W.heap.size → 0 < k → k ≤ n → Ix c k W → W.heap[w.heap.size]? = some (.deferred (some [])) → c.wpIn (WF none) 0 P Q { a with defers := { target := .collected w.heap.size, args := #[] } :: a.defers } W) :
  (Code.rangeFunc g ps assign body).wpIn (WF none) 0 P Q a w := by
 refine wpIn_rangeFunc ?_
 intro fn hfn
 obtain ⟨rec, hrec⟩ : ∃ rec : Loop, rec = { state := .ready, pending := none, fn, tmps := a.tmps, params := ps, assign, body, defers := w.heap.size } := ⟨_, rfl⟩
 obtain ⟨W1, hW1⟩ : ∃ W1, (w.alloc (.deferred (some []))).alloc (.loop rec) = W1 := ⟨_, rfl⟩
 have hsz : W1.heap.size = w.heap.size + 2 := by rw [← hW1]; simp
 have hL1 : W1.heap[w.heap.size + 1]? = some (.loop rec) := by
  rw [← hW1]; have := World.alloc_heap_new (w.alloc (.deferred (some []))) (.loop rec); rwa [World.size_alloc] at this
 have hK1 : W1.heap[w.heap.size]? = some (.deferred (some [])) := by
  rw [← hW1]; exact (Below.heap_alloc _ _ _ (by simp)).trans (World.alloc_heap_new w _)
 have hb1 : Below w.heap.size w W1 := by rw [← hW1]; exact ((Below.refl _ w).alloc (Nat.le_refl _) _).alloc (by simp) _
 have hk1 : Kept S w W1 := (Kept.of_below hb1).mono hS
 have hI1 : I 0 (fun _ => False) W1 := hI _ _ _ _ _ h0 (Ext.of_below hb1) (fun _ h => h.elim)
 have hput : ∀ (W : World) (o : Obj), Kept S W (W.putObj (w.heap.size + 1) o) := fun W o => ⟨rfl, rfl, rfl, by simp, fun k hk => World.putObj_heap_other (by have := hS k hk; omega)⟩
 refine ⟨w.heap.size + 1, [{ target := .collected w.heap.size, args := #[] }], W1, { target := .fn (.func gf) lb, args := #[.func (.yield (w.heap.size + 1)) #[] #[]] }, W1, gf,
  #[.func (.yield (w.heap.size + 1)) #[] #[]] ++ lb, W1, ?_, ?_, ?_, ?_, (fun h => absurd h (by simp)), ?_⟩
 ·rw [← hW1, hrec]; exact run_enterLoop_outer _ _ _ _ _
 ·simp only [resolve, hg]
  simp [go_sem]
 ·intro f' _; trivial
 ·simp [invoke, go_sem, eg]
 ·refine (hseq (w.heap.size + 1)
   (fun k O W => I k O W ∧ Kept S w W ∧ W.heap[w.heap.size + 1]? = some (.loop rec) ∧ W.heap[w.heap.size]? = some (.deferred (some [])))
   (fun k W => Kept S w W ∧ (∃ c, Ix c k W ∧ W.heap[w.heap.size + 1]? = some (.loop { rec with state := .done, pending := some c })) ∧ W.heap[w.heap.size]? = some (.deferred (some [])))
   W1 (hw0.trans hk1) ?_ ?_ ?_ ⟨hI1, hk1, hL1, hK1⟩).mono ?_
  ·rintro k O O' X Y ⟨h1, h2, h3, h4⟩ hx hO
   exact ⟨hI _ _ _ _ _ h1 (hx.mono (by omega)) hO, h2.trans ((Kept.of_below hx.below).mono (fun i hi => by have := hS i hi; omega)), (hx.below.block _ (by omega)).trans h3, (hx.below.block _ (by omega)).trans h4⟩
  ·rintro k X Y ⟨h2, ⟨c, h1, h3⟩, h4⟩ hx
   exact ⟨h2.trans ((Kept.of_below hx.below).mono (fun i hi => by have := hS i hi; omega)), ⟨c, hIx _ _ _ _ h1 (hx.mono (by omega)), (hx.below.block _ (by omega)).trans h3⟩, (hx.below.block _ (by omega)).trans h4⟩
  ·rintro k x O X hkn hx hk hOb ⟨h1, h2, h3, h4⟩
   have hps' := hps k x X hx
   have hOl : ¬ both S O (w.heap.size + 1) := by
    rintro (h | h)
    ·have := hS _ h; omega
    ·have := (hOb _ h).1; omega
   have := round_law (P := P) (r0 := none) (fn := fn) (l := w.heap.size + 1) (m := 0) (rec := rec) (S := both S O) (x := x) (W := X) (I := I (k + 1) O) (Ix := fun c => Ix c (k + 1)) (B := w.heap.size) h3 (by rw [hrec]) (by rw [hrec]) (by rw [hrec]; exact hps') hOl (by omega) (fun X Y h hx => hI _ _ _ _ _ h hx (fun j hj => .inl hj)) (fun c => hIx c _)
    (by
     rw [hrec]
     exact hround _ k x O X (by omega) (Array.getElem?_eq_some_iff.1 h3).1 hkn hx h2 (fun j hj => ⟨by have := (hOb j hj).1; omega, (hOb j hj).2⟩) h1)
   obtain ⟨f1, t1, a1, b1, hy, hR⟩ := this
   refine ⟨f1, t1, a1, b1, hy, hR.mono ?_⟩
   have hSm : ∀ X', Kept (both S O) X X' → Kept S X X' := fun X' h => h.mono (fun j hj => .inl hj)
   rintro e X' (⟨rfl, hi, hl, hkk, ho⟩ | ⟨rfl, hc, hkk, ho⟩)
   ·exact .inl ⟨rfl, ⟨hi, h2.trans (hSm _ hkk), hl, ho _ _ (by omega) (Nat.le_refl _) h4 rfl⟩, hkk, fun j o hj => ho j o (by omega) (by omega)⟩
   ·exact .inr ⟨rfl, ⟨h2.trans (hSm _ hkk), hc, ho _ _ (by omega) (Nat.le_refl _) h4 rfl⟩, hkk, fun j o hj => ho j o (by omega) (by omega)⟩
  ·rintro e W2 ⟨⟨v, rfl⟩, hkk, (⟨O, hO, hi, h2, hl, hk⟩ | ⟨k, hk0, hkl, h2, ⟨c, hi, hl⟩, hk⟩)⟩
   ·have hlt := (Array.getElem?_eq_some_iff.1 hl).1
    have hend := run_endLoop (P := P) hl (by rw [hrec]; simp)
    have hpe : rec.pending = none := by rw [hrec]
    rw [hpe] at hend
    exact ⟨none, W2.putObj (w.heap.size + 1) (.loop { rec with state := .exhausted, pending := none }), hend, hdone O _ (h2.trans (hput _ _)) (by simp; omega) (hI _ _ _ _ _ hi (Ext.putObj (by omega) hl rfl _) (fun j hj => .inl hj)) ((World.putObj_heap_other (by omega)).trans hk)⟩
   ·have hlt := (Array.getElem?_eq_some_iff.1 hl).1
    have hend := run_endLoop (P := P) hl (by simp)
    exact ⟨some c, W2.putObj (w.heap.size + 1) (.loop { { rec with state := .done, pending := some c } with state := .exhausted }), hend, hstop c k _ (h2.trans (hput _ _)) (by simp; omega) hk0 hkl (hIx _ _ _ _ hi (Ext.putObj (by omega) hl rfl _)) ((World.putObj_heap_other (by omega)).trans hk)⟩
end
end Go.Rg
namespace Go.Mg
variable {α : Type}
def grpA (sm : α → α → Bool) : List α → α → List α → List (List α)
 | cur, _, [] => [cur]
 | cur, x, y :: t => if sm x y then grpA sm (cur ++ [y]) y t else cur :: grpA sm [y] y t
def grpB (sm : α → α → Bool) : List α → List (List α)
 | [] => []
 | x :: t => grpA sm [x] x t
def rsT (sm : α → α → Bool) (ps : List α) (f i : Nat) : List (List α) :=
 if i ≤ ps.length then (match ps[i-1]? with | some x => grpA sm ((ps.take i).drop f) x (ps.drop i) | none => []) else []
theorem rsT_start (sm : α → α → Bool) (ps : List α) : rsT sm ps 0 1 = grpB sm ps := by
 cases ps with
 | nil => unfold rsT; simp [grpB]
 | cons x t => unfold rsT; simp [grpB]
theorem rsT_done (sm : α → α → Bool) (ps : List α) (f i : Nat) (h : ps.length < i) : rsT sm ps f i = [] := by unfold rsT; rw [if_neg (by omega)]
theorem rsT_last (sm : α → α → Bool) (ps : List α) (f : Nat) (h : 0 < ps.length) : rsT sm ps f ps.length = [(ps.take ps.length).drop f] := by
 unfold rsT
 rw [if_pos (Nat.le_refl _), List.getElem?_eq_getElem (show ps.length - 1 < ps.length by omega), List.drop_length]
 rfl
theorem drop_cons_at {ps : List α} {i : Nat} {y : α} (h : ps[i]? = some y) : ps.drop i = y :: ps.drop (i + 1) := by
 have hl := (List.getElem?_eq_some_iff.1 h).1
 rw [List.drop_eq_getElem_cons hl]; congr 1; exact (List.getElem?_eq_some_iff.1 h).2
theorem take_snoc_at {ps : List α} {i : Nat} {y : α} (h : ps[i]? = some y) : ps.take (i + 1) = ps.take i ++ [y] := by rw [List.take_add_one, h]; rfl
theorem rsT_same {sm : α → α → Bool} {ps : List α} {f i : Nat} {x y : α} (h1 : 1 ≤ i) (hx : ps[i-1]? = some x) (hy : ps[i]? = some y) (hs : sm x y = true) (hf : f ≤ i) : rsT sm ps f i = rsT sm ps f (i + 1) := by
 have hl := (List.getElem?_eq_some_iff.1 hy).1
 unfold rsT
 rw [if_pos (by omega), if_pos (by omega), hx, Nat.add_sub_cancel, hy, drop_cons_at hy]
 simp only [grpA, hs, if_true]
 rw [take_snoc_at hy, List.drop_append_of_le_length (by rw [List.length_take]; omega)]
theorem rsT_cut {sm : α → α → Bool} {ps : List α} {f i : Nat} {x y : α} (h1 : 1 ≤ i) (hx : ps[i-1]? = some x) (hy : ps[i]? = some y) (hs : sm x y = false) : rsT sm ps f i = (ps.take i).drop f :: rsT sm ps i (i + 1) := by
 have hl := (List.getElem?_eq_some_iff.1 hy).1
 unfold rsT
 rw [if_pos (by omega), if_pos (by omega), hx, Nat.add_sub_cancel, hy, drop_cons_at hy]
 have e : (ps.take (i + 1)).drop i = [y] := by
  rw [take_snoc_at hy, List.drop_append, List.drop_of_length_le (by rw [List.length_take]; omega), List.length_take, show i - min i ps.length = 0 by omega]; rfl
 simp only [grpA, hs]
 rw [e]
 rfl
theorem grpA_flat (sm : α → α → Bool) : ∀ (cur : List α) (x : α) (t : List α), (grpA sm cur x t).flatten = cur ++ t
 | cur, x, [] => by simp [grpA]
 | cur, x, y :: t => by
  rw [grpA]
  split
  ·rw [grpA_flat sm]; simp
  ·rw [List.flatten_cons, grpA_flat sm]; simp
theorem grpB_flat (sm : α → α → Bool) (ps : List α) : (grpB sm ps).flatten = ps := by
 cases ps with
 | nil => rfl
 | cons x t => rw [grpB, grpA_flat]; rfl
theorem grpA_ne (sm : α → α → Bool) : ∀ (cur : List α) (x : α) (t : List α), cur ≠ [] → ∀ g ∈ grpA sm cur x t, g ≠ []
 | cur, x, [], hc, g, hg => by simp [grpA] at hg; subst hg; exact hc
 | cur, x, y :: t, hc, g, hg => by
  rw [grpA] at hg
  split at hg
  ·exact grpA_ne sm _ y t (by simp) g hg
  ·rcases List.mem_cons.1 hg with rfl | h
   ·exact hc
   ·exact grpA_ne sm _ y t (by simp) g h
theorem grpB_ne (sm : α → α → Bool) (ps : List α) : ∀ g ∈ grpB sm ps, g ≠ [] := by
 cases ps with
 | nil => intro g hg; cases hg
 | cons x t => exact grpA_ne sm [x] x t (by simp)
theorem grpA_len (sm : α → α → Bool) : ∀ (cur : List α) (x : α) (t : List α), (grpA sm cur x t).length ≤ t.length + 1
 | cur, x, [] => by simp [grpA]
 | cur, x, y :: t => by
  rw [grpA]
  split
  ·have := grpA_len sm (cur ++ [y]) y t; simp only [List.length_cons]; omega
  ·have := grpA_len sm [y] y t; simp only [List.length_cons]; omega
theorem grpB_len (sm : α → α → Bool) (ps : List α) : (grpB sm ps).length ≤ ps.length := by
 cases ps with
 | nil => simp [grpB]
 | cons x t => exact grpA_len sm [x] x t
end Go.Mg
namespace Go.Mg
variable {α : Type}
def mgX (le : α → α → Bool) (x : α) (rest : List α → List α) (xa : List α) : List α → List α
 | [] => xa
 | y :: b => if le x y then x :: rest (y :: b) else y :: mgX le x rest xa b
def mgB (le : α → α → Bool) : List α → List α → List α
 | [], b => b
 | x :: a, b => mgX le x (mgB le a) (x :: a) b
theorem mgB_nil (le : α → α → Bool) (b : List α) : mgB le [] b = b := rfl
theorem mgB_nil_right (le : α → α → Bool) (a : List α) : mgB le a [] = a := by cases a <;> rfl
theorem mgB_cons (le : α → α → Bool) (x y : α) (a b : List α) : mgB le (x :: a) (y :: b) = if le x y then x :: mgB le a (y :: b) else y :: mgB le (x :: a) b := rfl
theorem mgB_perm (le : α → α → Bool) : ∀ a b : List α, List.Perm (mgB le a b) (a ++ b)
 | [], b => by rw [mgB_nil]; exact List.Perm.refl _
 | x :: a, [] => by rw [mgB_nil_right, List.append_nil]
 | x :: a, y :: b => by
  rw [mgB_cons]
  split
  ·exact (mgB_perm le a (y :: b)).cons x
  ·exact ((mgB_perm le (x :: a) b).cons y).trans List.perm_middle.symm
theorem mgB_len (le : α → α → Bool) (a b : List α) : (mgB le a b).length = a.length + b.length := by rw [(mgB_perm le a b).length_eq, List.length_append]
theorem mgB_mem {le : α → α → Bool} {a b : List α} {x : α} : x ∈ mgB le a b ↔ x ∈ a ∨ x ∈ b := by rw [(mgB_perm le a b).mem_iff, List.mem_append]
def passB (le : α → α → Bool) (k : Nat) : Nat → List α → List α
 | 0, _ => []
 | f + 1, l => if l.isEmpty then [] else mgB le (l.take k) ((l.drop k).take k) ++ passB le k f (l.drop (2 * k))
theorem passB_nil (le : α → α → Bool) (k f : Nat) : passB le k f [] = [] := by cases f <;> rfl
theorem passB_step (le : α → α → Bool) (k f : Nat) {l : List α} (h : l ≠ []) : passB le k (f + 1) l = mgB le (l.take k) ((l.drop k).take k) ++ passB le k f (l.drop (2 * k)) := by
 rw [passB, if_neg (by simpa using h)]
theorem passB_perm (le : α → α → Bool) (k : Nat) (hk : 0 < k) : ∀ (f : Nat) (l : List α), l.length ≤ f → List.Perm (passB le k f l) l
 | 0, l, h => by rw [List.eq_nil_of_length_eq_zero (Nat.le_zero.1 h)]; exact List.Perm.refl _
 | f + 1, l, h => by
  by_cases hl : l = []
  ·subst hl; rw [passB_nil]
  ·have hp := List.length_pos_iff.2 hl
   rw [passB_step le k f hl]
   have h1 := mgB_perm le (l.take k) ((l.drop k).take k)
   have h2 := passB_perm le k hk f (l.drop (2 * k)) (by rw [List.length_drop]; omega)
   refine (h1.append h2).trans ?_
   rw [show l.drop (2 * k) = (l.drop k).drop k by rw [List.drop_drop]; congr 1; omega, List.append_assoc, List.take_append_drop, List.take_append_drop]
def sortG (le : α → α → Bool) : Nat → Nat → List α → List α
 | 0, _, l => l
 | f + 1, k, l => if k < l.length then sortG le f (2 * k) (passB le k l.length l) else l
def sortB (le : α → α → Bool) (l : List α) : List α := sortG le l.length 1 l
theorem sortG_perm (le : α → α → Bool) : ∀ (f k : Nat) (l : List α), 0 < k → List.Perm (sortG le f k l) l
 | 0, k, l, hk => List.Perm.refl _
 | f + 1, k, l, hk => by
  rw [sortG]
  split
  ·exact (sortG_perm le f (2 * k) _ (by omega)).trans (passB_perm le k hk _ l (Nat.le_refl _))
  ·exact List.Perm.refl _
theorem sortB_perm (le : α → α → Bool) (l : List α) : List.Perm (sortB le l) l := sortG_perm le _ _ _ (by omega)
theorem sortB_len (le : α → α → Bool) (l : List α) : (sortB le l).length = l.length := (sortB_perm le l).length_eq
end Go.Mg
namespace Go.Proofs.YthbplhglfjlngaaGreat
open Go.RowKit Go.Rg Go.Wd Go.Mg
attribute [local go_sem] Oper.semAt_some
set_option maxHeartbeats 4000000 in
theorem mergePt_any {α : Type} (enc : α → List Value) (he : ∀ x, (enc x).length = 2) (h1c : ∀ x, ∀ u ∈ enc x, u.oneCell' = true) (fv : FuncId) (hfn : ∀ args w, (callFunc fv args).run Tryz.prog w = .ok (.enter fv args) w) (ord : α → α → Int) (D : α → Prop)
  (hord : ∀ y x, D y → D x → ∀ w : World, Calls Tryz.prog fv #[.agg (enc y).toArray, .agg (enc x).toArray] w fun e w' => e = .returned (.int .i64 (ord y x)) ∧ Below w.heap.size w w')
  (la lb : List α) (v u : Value) (w : World) (hv : SlC w v 2 (la.map enc)) (hu : SlC w u 2 (lb.map enc)) (hDa : ∀ x ∈ la, D x) (hDb : ∀ x ∈ lb, D x) (hb : (la.length + lb.length) * 16 ≤ 140737488355328) :
  Calls Tryz.prog 68 #[v, u, .func (.func fv) #[] #[]] w fun e w' => ∃ v', e = .returned v' ∧ SlC w' v' 2 ((mgB (fun x y => !decide (ord y x < 0)) la lb).map enc) ∧ Below w.heap.size w w' := by
 obtain ⟨a, c, e, hn, hcm⟩ := hv.form
 obtain ⟨a2, c2, e2, hn2, hcm2⟩ := hu.form
 subst e e2
 rw [List.length_map] at hn hn2
 have hll : (lb.map enc).length = lb.length := List.length_map _
 have hlla : (la.map enc).length = la.length := List.length_map _
 rw [hlla] at hv ⊢
 rw [hll] at hu ⊢
 unfold maxLen at hcm hcm2
 have HT : Hid (∀ (x' : α) (y' : α) (ta tb : List α), mgB (fun x y => !decide (ord y x < 0)) (x' :: ta) (y' :: tb) = if ord y' x' < 0 then y' :: mgB (fun x y => !decide (ord y x < 0)) (x' :: ta) tb else x' :: mgB (fun x y => !decide (ord y x < 0)) ta (y' :: tb)) := hH fun x' y' ta tb => by rw [mgB_cons]; by_cases h : ord y' x' < 0 <;> simp [h]
 obtain ⟨mg, Hmg⟩ : ∃ m, Hid (m = mgB (fun x y => !decide (ord y x < 0))) := ⟨_, hH rfl⟩
 rw [← Hmg.out] at HT ⊢
 have HLen : Hid (∀ a b, (mg a b).length = a.length + b.length) := hH fun a b => by rw [Hmg.out]; exact mgB_len _ a b
 obtain ⟨n, Hn⟩ : ∃ n, Hid (n = la.length + lb.length) := ⟨_, hH rfl⟩
 have hnn : ((la.length : Int) + (lb.length : Int)) = (n : Int) := by rw [Hn.out]; omega
 have hnb : n * 16 ≤ 140737488355328 := by rw [Hn.out]; exact hb
 obtain ⟨w1, hm, ho, hg⟩ : ∃ w', (Instr.makeSlice 26 (.int .i64 0) (.int .i64 (n : Int))).run Tryz.prog w = .ok (.slice (some ⟨w.heap.size, 0, none⟩) 0 n) w' ∧
   w'.ownsRow w.heap.size 23 2 (.slice (some ⟨w.heap.size, 0, none⟩) 0 n) 0 [] ∧ w.grownBy w' none := by
  obtain ⟨i, hi, hz, hsz, hby⟩ := info_parts info_clonePt
  exact run_make_own w w.heap.size _ _ i _ 2 Tryz.underlying26 hi hz hsz .i64 .i64 n (by rw [hby, Hn.out]; omega) (by rw [Hn.out]; unfold maxLen; omega) (Nat.le_refl _)
 go_enter Tryz.func68, Tryz.ntmps68
 go_wp2_with fail
 have hbw : Below w.heap.size w w1 := (Below.refl _ w).grown hg (Nat.le_refl _) (by simp)
 go_loopg [0, 1, 7] n (fun q s0 s1 s7 wx => ∃ (xa xb out : List α) (aa ab av : Option Addr) (na ca nb cb no capv : Nat), Hid (mg la lb = out ++ mg xa xb) ∧ no + na + nb = n ∧ Hid (no = out.length) ∧ Hid (na = xa.length) ∧ Hid (nb = xb.length) ∧ na + nb ≤ q ∧ s0 = .slice aa na ca ∧ s1 = .slice ab nb cb ∧ s7 = .slice av no capv ∧ Hid (SlC w (.slice aa na ca) 2 (xa.map enc)) ∧ Hid (SlC w (.slice ab nb cb) 2 (xb.map enc)) ∧ Hid ((∀ x ∈ xa, D x) ∧ ∀ x ∈ xb, D x) ∧ Hid (wx.ownsRow w.heap.size 23 2 (.slice av no capv) no (out.map enc).flatten) ∧ Hid (Below w.heap.size w wx))
 case atStart => exact ⟨la, lb, [], a, a2, _, _, c, _, c2, 0, n, hH rfl, by rw [Hn.out]; simp, hH rfl, hH rfl, hH rfl, by rw [Hn.out]; omega, rfl, rfl, rfl, hH hv, hH hu, hH ⟨hDa, hDb⟩, hH (by simpa using ho), hH hbw⟩
 case round =>
  clear hv hu ho hg hm hbw hDa hDb hll hlla
  obtain ⟨xa, xb, out, aa, ab, av, na, ca, nb, cb, no, capv, HM, hlen, Hno, Hna, Hnb, hq, rfl, rfl, rfl, HA, HBs, HD, HO, HB⟩ := hrel
  by_cases hgo : 0 < na ∧ 0 < nb
  ·obtain ⟨hgo1, hgo2⟩ := hgo
   cases gk with
   | zero => omega
   | succ q =>
   cases xa with
   | nil => have := Hna.out; simp at this; omega
   | cons x ta =>
   cases xb with
   | nil => have := Hnb.out; simp at this; omega
   | cons y tb =>
   rw [List.map_cons] at HA HBs
   obtain ⟨gx, ox, rfl, hlx, hrx, _⟩ := HA.out.head
   obtain ⟨gy, oy, rfl, hly, hry, _⟩ := HBs.out.head
   have HBx := HB.out
   have hszx := HBx.size
   have HB := HBx
   obtain ⟨adx, HAx⟩ : ∃ q : Option Addr, Hid (q = if ca = 1 then some ⟨gx, ox, none⟩ else (some ⟨gx, ox, none⟩ : Option Addr).map (·.add (1 * 2))) := ⟨_, hH rfl⟩
   obtain ⟨ady, HAy⟩ : ∃ q : Option Addr, Hid (q = if cb = 1 then some ⟨gy, oy, none⟩ else (some ⟨gy, oy, none⟩ : Option Addr).map (·.add (1 * 2))) := ⟨_, hH rfl⟩
   have HRx : ∀ W : World, Below w.heap.size w W → W.rangeAt gx ox (enc x) := fun W h => rangeAt_below hrx h hlx
   have HRy : ∀ W : World, Below w.heap.size w W → W.rangeAt gy oy (enc y) := fun W h => rangeAt_below hry h hly
   by_cases hc : ord y x < 0
   ·have d0 : decide (ord y x < 0) = true := by simpa using hc
    have hmm := HT.out x y ta tb
    rw [if_pos hc] at hmm
    have HM2 := hH hmm
    clear hmm hc
    go_upto_region 3 with (fail)
    refine cG ?_
    refine cN ?_
    refine cW ?_ ?_ ?_
    refine cW ?_ ?_ ?_
    refine cX (.pointer (some ⟨gy, oy, none⟩)) ?_ (by intro wz hSw; exact x_index (i := 0) (E := 23) (sz := 2) rfl (by rfl) (by rfl) (by omega) Tryz.underlying26 size_clonePt) ?_
    refine cX (.agg (enc y).toArray) ?_ (by intro wz hSw; exact x_row rfl (by rfl) (HRy _ (grow_stay HBx hSw.1 (by simp) hszx)) Tryz.underlying23 rfl ((he y).symm ▸ size_clonePt)) ?_
    refine cW ?_ ?_ ?_
    refine cX (.pointer (some ⟨gx, ox, none⟩)) ?_ (by intro wz hSw; exact x_index (i := 0) (E := 23) (sz := 2) rfl (by rfl) (by rfl) (by omega) Tryz.underlying26 size_clonePt) ?_
    refine cX (.agg (enc x).toArray) ?_ (by intro wz hSw; exact x_row rfl (by rfl) (HRx _ (grow_stay HBx hSw.1 (by simp) hszx)) Tryz.underlying23 rfl ((he x).symm ▸ size_clonePt)) ?_
    refine calm_call (f := ?_) (args := ?_) (v := ?_) (by rfl) (by rfl) ?hy1_7 ?hc1_7 ?_
    case hy1_7 => (intro wz hSw; go_simp; all_goals (first | with_reducible rfl | (constructor <;> with_reducible rfl) | exact hfn _ _))
    case hc1_7 => (intro w hSw; exact hord y x (HD.out.2 y (List.mem_cons_self ..)) (HD.out.1 x (List.mem_cons_self ..)) w)
    (try simp only [td])
    refine cW ?_ ?_ ?_
    refine calm_end ?_
    intro w1 hS
    have hS := sO hS
    have hz1 : wr.heap.size ≤ w1.heap.size := hS.size
    have HB := gS HB hS
    have HO1 := own_call HO.out hS.all
    clear hS
    go_upto_region 4 with (fail)
    refine wp_region_held_drew (S := fun w' => Below w.heap.size w w') (by kernel_rfl) HB.drew (fun hHeld => ?_)
    refine takeL 0 (v := ?_) rfl (by kernel_rfl) (by kernel_rfl) (by kernel_rfl) (fun _ _ _ h => h) (by rfl) (by assumption) ?hy0 ?_
    case hy0 => (intro w hSw; (try dsimp only at hSw); go_simp; all_goals with_reducible rfl)
    (try simp only [td])
    refine takeL 1 (v := ?_) rfl (by kernel_rfl) (by kernel_rfl) (by kernel_rfl) (fun _ _ _ h => h) (by rfl) (by assumption) ?hy1 ?_
    case hy1 => (intro w hSw; (try dsimp only at hSw); go_simp; all_goals with_reducible rfl)
    (try simp only [td])
    refine takeL 2 (v := .pointer (some ⟨gy, oy, none⟩)) rfl (by kernel_rfl) (by kernel_rfl) (by kernel_rfl) (fun _ _ _ h => h) (by rfl) (by assumption) ?hy2 ?_
    case hy2 => (intro w hSw; exact x_index (i := 0) (E := 23) (sz := 2) rfl (by rfl) (by rfl) (by omega) Tryz.underlying26 size_clonePt)
    (try simp only [td])
    refine takeL 3 (v := .agg (enc y).toArray) rfl (by kernel_rfl) (by kernel_rfl) (by kernel_rfl) (fun _ _ _ h => h) (by rfl) (by assumption) ?hy3 ?_
    case hy3 => (intro w hSw; exact x_row rfl (by rfl) (HRy _ hSw) Tryz.underlying23 rfl ((he y).symm ▸ size_clonePt))
    (try simp only [td])
    refine takeL 6 (v := ?_) rfl (by kernel_rfl) (by kernel_rfl) (by kernel_rfl) (fun _ _ _ h => h) (by rfl) (by assumption) ?hy6 ?_
    case hy6 => (intro w hSw; (try dsimp only at hSw); go_simp; all_goals with_reducible rfl)
    (try simp only [td])
    refine takeL 7 (v := .slice ady (nb - 1) (cb - 1)) rfl (by kernel_rfl) (by kernel_rfl) (by kernel_rfl) (fun _ _ _ h => h) (by rfl) (by assumption) ?hy7 ?_
    case hy7 => (intro w hSw; exact by rw [HAy.out]; exact x_tail (k := 1) (E := 23) (sz := 2) rfl (by rfl) (by rfl) (by omega) Tryz.underlying26 size_clonePt)
    (try simp only [td])
    refine consL 4 (by kernel_rfl) rfl (by rfl) (fun K hK => ?_)
    --nosimp
    refine wp_buildOne _ 26 23 _ (.agg (enc y).toArray) (.agg #[.int .i64 0, .int .i64 0]) (enc y) rfl Tryz.underlying26 (by rw [he]; exact info_small info_clonePt) (by rfl) rfl (by rw [he]; decide) (by rw [he]; decide) ?_
    obtain ⟨wa, hwa⟩ : ∃ wa, w1.drew.alloc (.cells (enc y).toArray 23) = wa := ⟨_, rfl⟩
    have hRN : ReadsE wa wa.heap.size (.slice (some ⟨w1.heap.size, 0, none⟩) 1 1) 1 (enc y) := hwa ▸ reads_one w1.drew 23 (enc y)
    have hal : Below w1.heap.size w1 wa := hwa ▸ ((Below.refl _ w1).drew).alloc (Nat.le_refl _) _
    rw [hwa]
    have hown := own_call HO1 hal
    have HBa := HB.trans (hal.mono HB.size)
    have hza := HBa.size
    clear hwa
    clear hHeld
    refine hK.out _ _ ?hS4 (fun hHeld => ?_)
    case hS4 => ((try dsimp only); exact HBa)
    clear hK K
    (try simp only [td])
    refine consL 5 (by kernel_rfl) rfl (by rfl) (fun K hK => ?_)
    refine wp_append2E _ _ _ 26 rfl w.heap.size 23 (.agg #[.int .i64 0, .int .i64 0]) 2 16 Tryz.underlying26 info_clonePt rfl (by decide) (.slice av no capv) no _ rfl hown _ _ 1 (enc y) rfl hRN (by rw [he]) (h1c y) (by unfold maxLen; omega) (by omega) (by omega) ?_
    intro v' wb hown2 hgrow hmov
    obtain ⟨a2, cap2, rfl⟩ := own_form hown2
    have HBb := HBa.grown hgrow (by omega) (fun k e => (hown.lt k e).1)
    clear hHeld
    refine hK.out _ _ ?hS5 (fun hHeld => ?_)
    case hS5 => ((try dsimp only); exact HBb)
    clear hK K
    (try simp only [td])
    refine takeL 8 (v := ?_) rfl (by kernel_rfl) (by kernel_rfl) (by kernel_rfl) (fun _ _ _ h => h) (by rfl) (by assumption) ?hy8 ?_
    case hy8 => (intro w hSw; (try dsimp only at hSw); go_simp; all_goals with_reducible rfl)
    (try simp only [td])
    refine takeL 9 (v := ?_) rfl (by kernel_rfl) (by kernel_rfl) (by kernel_rfl) (fun _ _ _ h => h) (by rfl) (by assumption) ?hy9 ?_
    case hy9 => (intro w hSw; (try dsimp only at hSw); go_simp; all_goals with_reducible rfl)
    (try simp only [td])
    refine wpAnyH_done (by kernel_rfl) ?_ _
    go_wp2_with fail
    go_roundg q
    case measure => omega
    case rel => exact ⟨x :: ta, tb, out ++ [y], some ⟨gx, ox, none⟩, ady, a2, na, ca, (nb - 1), (cb - 1), no + 1, cap2, hH (by rw [HM.out, HM2.out]; simp), by omega, hH (by rw [Hno.out]; simp), hH (by have := Hna.out; simp at this ⊢; omega), hH (by have := Hnb.out; simp at this ⊢; omega), by omega, rfl, rfl, rfl, hH (HA.out), hH (HAy.out ▸ HBs.out.tail), hH ⟨HD.out.1, fun z hz => HD.out.2 z (List.mem_cons_of_mem _ hz)⟩, hH (by simpa using hown2), hH HBb⟩
   ·have d0 : decide (ord y x < 0) = false := by simpa using hc
    have hmm := HT.out x y ta tb
    rw [if_neg hc] at hmm
    have HM2 := hH hmm
    clear hmm hc
    go_upto_region 3 with (fail)
    refine cG ?_
    refine cN ?_
    refine cW ?_ ?_ ?_
    refine cW ?_ ?_ ?_
    refine cX (.pointer (some ⟨gy, oy, none⟩)) ?_ (by intro wz hSw; exact x_index (i := 0) (E := 23) (sz := 2) rfl (by rfl) (by rfl) (by omega) Tryz.underlying26 size_clonePt) ?_
    refine cX (.agg (enc y).toArray) ?_ (by intro wz hSw; exact x_row rfl (by rfl) (HRy _ (grow_stay HBx hSw.1 (by simp) hszx)) Tryz.underlying23 rfl ((he y).symm ▸ size_clonePt)) ?_
    refine cW ?_ ?_ ?_
    refine cX (.pointer (some ⟨gx, ox, none⟩)) ?_ (by intro wz hSw; exact x_index (i := 0) (E := 23) (sz := 2) rfl (by rfl) (by rfl) (by omega) Tryz.underlying26 size_clonePt) ?_
    refine cX (.agg (enc x).toArray) ?_ (by intro wz hSw; exact x_row rfl (by rfl) (HRx _ (grow_stay HBx hSw.1 (by simp) hszx)) Tryz.underlying23 rfl ((he x).symm ▸ size_clonePt)) ?_
    refine calm_call (f := ?_) (args := ?_) (v := ?_) (by rfl) (by rfl) ?hy1_7 ?hc1_7 ?_
    case hy1_7 => (intro wz hSw; go_simp; all_goals (first | with_reducible rfl | (constructor <;> with_reducible rfl) | exact hfn _ _))
    case hc1_7 => (intro w hSw; exact hord y x (HD.out.2 y (List.mem_cons_self ..)) (HD.out.1 x (List.mem_cons_self ..)) w)
    (try simp only [td])
    refine cW ?_ ?_ ?_
    refine calm_end ?_
    intro w1 hS
    have hS := sO hS
    have hz1 : wr.heap.size ≤ w1.heap.size := hS.size
    have HB := gS HB hS
    have HO1 := own_call HO.out hS.all
    clear hS
    go_upto_region 5 with (fail)
    refine wp_region_held_drew (S := fun w' => Below w.heap.size w w') (by kernel_rfl) HB.drew (fun hHeld => ?_)
    refine takeL 0 (v := ?_) rfl (by kernel_rfl) (by kernel_rfl) (by kernel_rfl) (fun _ _ _ h => h) (by rfl) (by assumption) ?hy0 ?_
    case hy0 => (intro w hSw; (try dsimp only at hSw); go_simp; all_goals with_reducible rfl)
    (try simp only [td])
    refine takeL 1 (v := ?_) rfl (by kernel_rfl) (by kernel_rfl) (by kernel_rfl) (fun _ _ _ h => h) (by rfl) (by assumption) ?hy1 ?_
    case hy1 => (intro w hSw; (try dsimp only at hSw); go_simp; all_goals with_reducible rfl)
    (try simp only [td])
    refine takeL 2 (v := .pointer (some ⟨gx, ox, none⟩)) rfl (by kernel_rfl) (by kernel_rfl) (by kernel_rfl) (fun _ _ _ h => h) (by rfl) (by assumption) ?hy2 ?_
    case hy2 => (intro w hSw; exact x_index (i := 0) (E := 23) (sz := 2) rfl (by rfl) (by rfl) (by omega) Tryz.underlying26 size_clonePt)
    (try simp only [td])
    refine takeL 3 (v := .agg (enc x).toArray) rfl (by kernel_rfl) (by kernel_rfl) (by kernel_rfl) (fun _ _ _ h => h) (by rfl) (by assumption) ?hy3 ?_
    case hy3 => (intro w hSw; exact x_row rfl (by rfl) (HRx _ hSw) Tryz.underlying23 rfl ((he x).symm ▸ size_clonePt))
    (try simp only [td])
    refine takeL 6 (v := ?_) rfl (by kernel_rfl) (by kernel_rfl) (by kernel_rfl) (fun _ _ _ h => h) (by rfl) (by assumption) ?hy6 ?_
    case hy6 => (intro w hSw; (try dsimp only at hSw); go_simp; all_goals with_reducible rfl)
    (try simp only [td])
    refine takeL 7 (v := .slice adx (na - 1) (ca - 1)) rfl (by kernel_rfl) (by kernel_rfl) (by kernel_rfl) (fun _ _ _ h => h) (by rfl) (by assumption) ?hy7 ?_
    case hy7 => (intro w hSw; exact by rw [HAx.out]; exact x_tail (k := 1) (E := 23) (sz := 2) rfl (by rfl) (by rfl) (by omega) Tryz.underlying26 size_clonePt)
    (try simp only [td])
    refine consL 4 (by kernel_rfl) rfl (by rfl) (fun K hK => ?_)
    --nosimp
    refine wp_buildOne _ 26 23 _ (.agg (enc x).toArray) (.agg #[.int .i64 0, .int .i64 0]) (enc x) rfl Tryz.underlying26 (by rw [he]; exact info_small info_clonePt) (by rfl) rfl (by rw [he]; decide) (by rw [he]; decide) ?_
    obtain ⟨wa, hwa⟩ : ∃ wa, w1.drew.alloc (.cells (enc x).toArray 23) = wa := ⟨_, rfl⟩
    have hRN : ReadsE wa wa.heap.size (.slice (some ⟨w1.heap.size, 0, none⟩) 1 1) 1 (enc x) := hwa ▸ reads_one w1.drew 23 (enc x)
    have hal : Below w1.heap.size w1 wa := hwa ▸ ((Below.refl _ w1).drew).alloc (Nat.le_refl _) _
    rw [hwa]
    have hown := own_call HO1 hal
    have HBa := HB.trans (hal.mono HB.size)
    have hza := HBa.size
    clear hwa
    clear hHeld
    refine hK.out _ _ ?hS4 (fun hHeld => ?_)
    case hS4 => ((try dsimp only); exact HBa)
    clear hK K
    (try simp only [td])
    refine consL 5 (by kernel_rfl) rfl (by rfl) (fun K hK => ?_)
    refine wp_append2E _ _ _ 26 rfl w.heap.size 23 (.agg #[.int .i64 0, .int .i64 0]) 2 16 Tryz.underlying26 info_clonePt rfl (by decide) (.slice av no capv) no _ rfl hown _ _ 1 (enc x) rfl hRN (by rw [he]) (h1c x) (by unfold maxLen; omega) (by omega) (by omega) ?_
    intro v' wb hown2 hgrow hmov
    obtain ⟨a2, cap2, rfl⟩ := own_form hown2
    have HBb := HBa.grown hgrow (by omega) (fun k e => (hown.lt k e).1)
    clear hHeld
    refine hK.out _ _ ?hS5 (fun hHeld => ?_)
    case hS5 => ((try dsimp only); exact HBb)
    clear hK K
    (try simp only [td])
    refine takeL 8 (v := ?_) rfl (by kernel_rfl) (by kernel_rfl) (by kernel_rfl) (fun _ _ _ h => h) (by rfl) (by assumption) ?hy8 ?_
    case hy8 => (intro w hSw; (try dsimp only at hSw); go_simp; all_goals with_reducible rfl)
    (try simp only [td])
    refine takeL 9 (v := ?_) rfl (by kernel_rfl) (by kernel_rfl) (by kernel_rfl) (fun _ _ _ h => h) (by rfl) (by assumption) ?hy9 ?_
    case hy9 => (intro w hSw; (try dsimp only at hSw); go_simp; all_goals with_reducible rfl)
    (try simp only [td])
    refine wpAnyH_done (by kernel_rfl) ?_ _
    go_wp2_with fail
    go_roundg q
    case measure => omega
    case rel => exact ⟨ta, y :: tb, out ++ [x], adx, some ⟨gy, oy, none⟩, a2, (na - 1), (ca - 1), nb, cb, no + 1, cap2, hH (by rw [HM.out, HM2.out]; simp), by omega, hH (by rw [Hno.out]; simp), hH (by have := Hna.out; simp at this ⊢; omega), hH (by have := Hnb.out; simp at this ⊢; omega), by omega, rfl, rfl, rfl, hH (HAx.out ▸ HA.out.tail), hH (HBs.out), hH ⟨fun z hz => HD.out.1 z (List.mem_cons_of_mem _ hz), HD.out.2⟩, hH (by simpa using hown2), hH HBb⟩
  ·have HE : Hid ((out.map enc).flatten ++ ((xa.map enc).flatten ++ (xb.map enc).flatten) = ((mg la lb).map enc).flatten) := hH (by
    rw [HM.out, Hmg.out]
    rcases Nat.eq_zero_or_pos na with h | h
    ·have : xa = [] := List.eq_nil_of_length_eq_zero (by have := Hna.out; omega)
     subst this; rw [mgB_nil]; simp
    ·have : xb = [] := List.eq_nil_of_length_eq_zero (by have := Hnb.out; omega)
     subst this; rw [mgB_nil_right]; simp)
   have hfa : (xa.map enc).length = na := by rw [List.length_map, Hna.out]
   have hfb : (xb.map enc).length = nb := by rw [List.length_map, Hnb.out]
   have HC : Hid (∀ l : List α, ∀ u ∈ (l.map enc).flatten, u.oneCell' = true) := hH (fun l u hu => by
    obtain ⟨cs, h1, h2⟩ := List.mem_flatten.1 hu
    obtain ⟨x, _, rfl⟩ := List.mem_map.1 h1
    exact h1c x u h2)
   have hszx := HB.out.size
   by_cases hz : 0 < na
   ·have hz2 : ¬ 0 < nb := fun h => hgo ⟨hz, h⟩
    clear hgo
    go_upto_region 6 with (fail)
    refine pl_start ?_
    refine pl_val (v := ?_) (by rfl) ?hy1 ?_
    case hy1 => (go_simp; all_goals with_reducible rfl)
    (try simp only [td])
    refine pl_val (v := ?_) (by rfl) ?hy2 ?_
    case hy2 => (go_simp; all_goals with_reducible rfl)
    (try simp only [td])
    refine pl_appendS _ rfl _ _ 26 rfl w.heap.size 23 (.agg #[.int .i64 0, .int .i64 0]) 2 16 Tryz.underlying26 info_clonePt rfl (by decide) (.slice av no capv) no _ rfl HO.out _ (xa.map enc) rfl (HA.out.call HB.out) (HC.out _) (by rw [hfa]; unfold maxLen; omega) (by rw [hfa]; omega) hszx ?_
    intro v1 y1 r1 g1
    rw [hfa] at r1
    obtain ⟨a3, cap3, rfl⟩ := own_form r1
    have HB1 := HB.out.grown g1 hszx (fun k e => (HO.out.lt k e).1)
    have hszy := HB1.size
    (try simp only [td])
    refine pl_val (v := ?_) (by rfl) ?hy4 ?_
    case hy4 => (go_simp; all_goals with_reducible rfl)
    (try simp only [td])
    refine pl_appendS _ rfl _ _ 26 rfl w.heap.size 23 (.agg #[.int .i64 0, .int .i64 0]) 2 16 Tryz.underlying26 info_clonePt rfl (by decide) (.slice a3 (no + na) cap3) _ _ rfl r1 _ (xb.map enc) rfl (HBs.out.call HB1) (HC.out _) (by rw [hfb]; unfold maxLen; omega) (by rw [hfb]; omega) hszy ?_
    intro v2 y2 r2 g2
    rw [hfb] at r2
    obtain ⟨a4, cap4, rfl⟩ := own_form r2
    have HB2 := HB1.grown g2 hszy (fun k e => (r1.lt k e).1)
    (try simp only [td])
    refine pl_val (v := ?_) (by rfl) ?hy6 ?_
    case hy6 => (go_simp; all_goals with_reducible rfl)
    (try simp only [td])
    refine pl_end ?_
    go_wp2_with fail
    go_ret
    refine ⟨_, rfl, SlC.of_own (base := w.heap.size) (t := 23) ?_ (by intro e h; obtain ⟨x, _, rfl⟩ := List.mem_map.1 h; exact he x), HB2⟩
    have hl : ((mg la lb).map enc).length = n := by rw [List.length_map, HM.out, List.length_append, HLen.out]; have := Hna.out; have := Hnb.out; have := Hno.out; omega
    rw [hl, ← HE.out]
    rw [List.append_assoc, hlen] at r2
    exact r2
   ·clear hgo
    go_upto_region 6 with (fail)
    refine pl_start ?_
    refine pl_val (v := ?_) (by rfl) ?hy1 ?_
    case hy1 => (go_simp; all_goals with_reducible rfl)
    (try simp only [td])
    refine pl_val (v := ?_) (by rfl) ?hy2 ?_
    case hy2 => (go_simp; all_goals with_reducible rfl)
    (try simp only [td])
    refine pl_appendS _ rfl _ _ 26 rfl w.heap.size 23 (.agg #[.int .i64 0, .int .i64 0]) 2 16 Tryz.underlying26 info_clonePt rfl (by decide) (.slice av no capv) no _ rfl HO.out _ (xa.map enc) rfl (HA.out.call HB.out) (HC.out _) (by rw [hfa]; unfold maxLen; omega) (by rw [hfa]; omega) hszx ?_
    intro v1 y1 r1 g1
    rw [hfa] at r1
    obtain ⟨a3, cap3, rfl⟩ := own_form r1
    have HB1 := HB.out.grown g1 hszx (fun k e => (HO.out.lt k e).1)
    have hszy := HB1.size
    (try simp only [td])
    refine pl_val (v := ?_) (by rfl) ?hy4 ?_
    case hy4 => (go_simp; all_goals with_reducible rfl)
    (try simp only [td])
    refine pl_appendS _ rfl _ _ 26 rfl w.heap.size 23 (.agg #[.int .i64 0, .int .i64 0]) 2 16 Tryz.underlying26 info_clonePt rfl (by decide) (.slice a3 (no + na) cap3) _ _ rfl r1 _ (xb.map enc) rfl (HBs.out.call HB1) (HC.out _) (by rw [hfb]; unfold maxLen; omega) (by rw [hfb]; omega) hszy ?_
    intro v2 y2 r2 g2
    rw [hfb] at r2
    obtain ⟨a4, cap4, rfl⟩ := own_form r2
    have HB2 := HB1.grown g2 hszy (fun k e => (r1.lt k e).1)
    (try simp only [td])
    refine pl_val (v := ?_) (by rfl) ?hy6 ?_
    case hy6 => (go_simp; all_goals with_reducible rfl)
    (try simp only [td])
    refine pl_end ?_
    go_wp2_with fail
    go_ret
    refine ⟨_, rfl, SlC.of_own (base := w.heap.size) (t := 23) ?_ (by intro e h; obtain ⟨x, _, rfl⟩ := List.mem_map.1 h; exact he x), HB2⟩
    have hl : ((mg la lb).map enc).length = n := by rw [List.length_map, HM.out, List.length_append, HLen.out]; have := Hna.out; have := Hnb.out; have := Hno.out; omega
    rw [hl, ← HE.out]
    rw [List.append_assoc, hlen] at r2
    exact r2
end Go.Proofs.YthbplhglfjlngaaGreat
namespace Go.Proofs.YthbplhglfjlngaaGreat
open Go.RowKit Go.Rg Go.Wd Go.Mg
attribute [local go_sem] Oper.semAt_some
set_option maxHeartbeats 4000000 in
theorem sortPt_any {α : Type} (enc : α → List Value) (he : ∀ x, (enc x).length = 2) (h1c : ∀ x, ∀ u ∈ enc x, u.oneCell' = true) (fv : FuncId) (hfn : ∀ args w, (callFunc fv args).run Tryz.prog w = .ok (.enter fv args) w) (ord : α → α → Int) (D : α → Prop)
  (hord : ∀ y x, D y → D x → ∀ w : World, Calls Tryz.prog fv #[.agg (enc y).toArray, .agg (enc x).toArray] w fun e w' => e = .returned (.int .i64 (ord y x)) ∧ Below w.heap.size w w')
  (l : List α) (v : Value) (w : World) (hv : SlC w v 2 (l.map enc)) (hD : ∀ x ∈ l, D x) (hb : l.length * 16 ≤ 140737488355328) :
  Calls Tryz.prog 38 #[v, .func (.func fv) #[] #[]] w fun e w' => ∃ v', e = .returned v' ∧ SlC w' v' 2 ((sortB (fun x y => !decide (ord y x < 0)) l).map enc) ∧ Below w.heap.size w w' := by
 have HC : Hid (∀ l : List α, ∀ u ∈ (l.map enc).flatten, u.oneCell' = true) := hH (fun l u hu => by
  obtain ⟨cs, h1, h2⟩ := List.mem_flatten.1 hu
  obtain ⟨x, _, rfl⟩ := List.mem_map.1 h1
  exact h1c x u h2)
 obtain ⟨le, Hle⟩ : ∃ m : α → α → Bool, Hid (m = fun x y => !decide (ord y x < 0)) := ⟨_, hH rfl⟩
 rw [← Hle.out]
 obtain ⟨n, Hn⟩ : ∃ n, Hid (n = l.length) := ⟨_, hH rfl⟩
 have hnb : n * 16 ≤ 140737488355328 := by rw [Hn.out]; exact hb
 have HD0 := hH hD
 go_enter Tryz.func38, Tryz.ntmps38
 go_wp2_with fail
 refine (clonePt_any v (l.map enc) w hv (HC.out l) (by rw [List.length_map]; exact hb)).mono ?_
 rintro e w1 ⟨v1, rfl, hs1, hb1⟩
 obtain ⟨a1, c1, rfl, hn1, hc1⟩ := hs1.form
 rw [List.length_map, ← Hn.out] at hs1 hn1 ⊢
 unfold maxLen at hc1
 go_wp2_with fail
 go_loopg [5, 6] n (fun q s5 s6 wx => ∃ (cur : List α) (ac : Option Addr) (k cc : Nat), Hid (sortB le l = sortG le q k cur) ∧ Hid (cur.length = n) ∧ 1 ≤ k ∧ k ≤ 2 * n + 1 ∧ n < k + q ∧ n ≤ cc ∧ cc ≤ 9223372036854775807 ∧ s5 = .slice ac n cc ∧ s6 = .int .i64 (k : Int) ∧ Hid (SlC wx (.slice ac n cc) 2 (cur.map enc)) ∧ Hid (∀ x ∈ cur, D x) ∧ Hid (Below w.heap.size w wx))
 case atStart => exact ⟨l, a1, 1, c1, hH (by rw [Hn.out]; rfl), hH Hn.out.symm, by omega, by omega, by omega, hn1, hc1, rfl, rfl, hH hs1, HD0, hH hb1⟩
 case round =>
  clear hv hs1 hb1 hD HD0 hb hn1 hc1
  rename World => W
  obtain ⟨cur, ac, k, cc, HS, Hcl, hk1, hk2, hq, hcc, hcm, rfl, rfl, HC1, HD, HB⟩ := hrel
  obtain ⟨k2, Hk2⟩ : ∃ m, Hid (m = 2 * k) := ⟨_, hH rfl⟩
  have hk2b : k2 ≤ 70368744177664 := by rw [Hk2.out]; omega
  have t1 : (k : Int) * 2 = (k2 : Int) := by rw [Hk2.out]; omega
  have t2 : 2 * (k : Int) = (k2 : Int) := by rw [Hk2.out]; omega
  by_cases hkn : k < n
  ·have t0 : (k : Int) < (n : Int) := by omega
   cases gk with
   | zero => omega
   | succ q =>
   have Hkn := hH hkn
   have hwr := HB.out.size
   go_wp2_with fail
   go_loopg [7, 8] n (fun q2 s7 s8 wx => ∃ (P : List α) (av : Option Addr) (at' no capv : Nat), Hid (passB le k n cur = P ++ passB le k q2 (cur.drop at')) ∧ n ≤ at' + q2 ∧ no + (n - at') = n ∧ at' ≤ 2 * n + k2 ∧ Hid (no = P.length) ∧ s7 = .slice av no capv ∧ s8 = .int .i64 (at' : Int) ∧ Hid (wx.ownsRow W.heap.size 23 2 (.slice av no capv) no (P.map enc).flatten) ∧ Hid (Below W.heap.size W wx) ∧ Hid (∀ x ∈ P, D x))
   case atStart => exact ⟨[], none, 0, 0, 0, hH (by simp), by omega, by omega, by omega, hH rfl, rfl, by first | rfl | simp, hH ⟨by simp, .inl ⟨rfl, rfl⟩⟩, hH (Below.refl _ _), hH (by simp)⟩
   case round =>
    clear hcm t1
    obtain ⟨P, av, at', no, capv, HP, hq2, hno, hat, Hno, rfl, rfl, HO, HBq, HDP⟩ := hrel
    have hwq := HBq.out.size
    by_cases han : at' < n
    ·have t3 : (at' : Int) < (n : Int) := by omega
     cases gk with
     | zero => omega
     | succ q2 =>
     obtain ⟨p1, Hp1⟩ : ∃ m, Hid (m = at' + k) := ⟨_, hH rfl⟩
     obtain ⟨p2, Hp2⟩ : ∃ m, Hid (m = at' + k2) := ⟨_, hH rfl⟩
     obtain ⟨m1, Hm1⟩ : ∃ m, Hid (m = min p1 n) := ⟨_, hH rfl⟩
     obtain ⟨m2, Hm2⟩ : ∃ m, Hid (m = min p2 n) := ⟨_, hH rfl⟩
     have t4 : (at' : Int) + (k : Int) = (p1 : Int) := by rw [Hp1.out]; omega
     have t5 : (at' : Int) + (k2 : Int) = (p2 : Int) := by rw [Hp2.out]; omega
     have t6 : min (p1 : Int) (n : Int) = (m1 : Int) := by rw [Hm1.out]; omega
     have t7 : min (p2 : Int) (n : Int) = (m2 : Int) := by rw [Hm2.out]; omega
     have b1 : p1 ≤ 140737488355328 := by rw [Hp1.out]; omega
     have b2 : p2 ≤ 140737488355328 := by rw [Hp2.out]; omega
     have b3 : at' ≤ m1 := by rw [Hm1.out, Hp1.out]; omega
     have b4 : m1 ≤ m2 := by rw [Hm1.out, Hm2.out, Hp1.out, Hp2.out, Hk2.out]; omega
     have b5 : m2 ≤ n := by rw [Hm2.out]; omega
     obtain ⟨ad1, HA1⟩ : ∃ q : Option Addr, Hid (q = if cc = at' then ac else ac.map (·.add (at' * 2))) := ⟨_, hH rfl⟩
     obtain ⟨ad2, HA2⟩ : ∃ q : Option Addr, Hid (q = if cc = m1 then ac else ac.map (·.add (m1 * 2))) := ⟨_, hH rfl⟩
     have hcl : (cur.map enc).length = n := by rw [List.length_map, Hcl.out]
     obtain ⟨L1, HL1e⟩ : ∃ l, Hid (l = (cur.drop at').take k) := ⟨_, hH rfl⟩
     obtain ⟨L2, HL2e⟩ : ∃ l, Hid (l = ((cur.drop at').drop k).take k) := ⟨_, hH rfl⟩
     obtain ⟨mm, Hmm⟩ : ∃ m, Hid (m = m2 - at') := ⟨_, hH rfl⟩
     have HS1 : Hid (SlC W (.slice ad1 (m1 - at') (cc - at')) 2 (L1.map enc)) := hH (by
      rw [HL1e.out]
      have := HC1.out.sub at' m1 b3 (by omega)
      rw [← HA1.out] at this
      rw [← take_drop_map enc cur at' k n Hcl.out (by omega), ← Hp1.out, ← Hm1.out]
      exact this)
     have HS2 : Hid (SlC W (.slice ad2 (m2 - m1) (cc - m1)) 2 (L2.map enc)) := hH (by
      rw [HL2e.out]
      have := HC1.out.sub m1 m2 b4 (by omega)
      rw [← HA2.out] at this
      rw [← take_drop_map2 enc cur at' k n Hcl.out (by omega), ← Hp1.out, ← Hk2.out, ← Hp2.out, ← Hm1.out, ← Hm2.out]
      exact this)
     have HL1 : Hid (L1.length = m1 - at') := hH (by rw [HL1e.out, List.length_take, List.length_drop, Hcl.out, Hm1.out, Hp1.out]; omega)
     have HL2 : Hid (L2.length = m2 - m1) := hH (by rw [HL2e.out, List.length_take, List.length_drop, List.length_drop, Hcl.out, Hm2.out, Hm1.out, Hp1.out, Hp2.out, Hk2.out]; omega)
     have HStep : Hid (passB le k (q2 + 1) (cur.drop at') = mgB le L1 L2 ++ passB le k q2 (cur.drop p2)) := hH (by
      rw [HL1e.out, HL2e.out]
      have e : cur.drop p2 = (cur.drop at').drop (2 * k) := by rw [List.drop_drop, Hp2.out, Hk2.out]
      rw [e, passB_step le k q2 (fun h => by have := congrArg List.length h; rw [List.length_drop, Hcl.out] at this; simp at this; omega)])
     clear hcl
     go_upto_region 10 with (fail)
     refine wp_region_held_drew (S := fun w' => Below W.heap.size W w') (by kernel_rfl) HBq.out.drew (fun hHeld => ?_)
     refine takeL 0 (v := ?_) rfl (by kernel_rfl) (by kernel_rfl) (by kernel_rfl) (fun _ _ _ h => h) (by rfl) (by assumption) ?hy0 ?_
     case hy0 => (intro w hSw; (try dsimp only at hSw); go_simp; all_goals with_reducible rfl)
     (try simp only [td])
     refine takeL 1 (v := ?_) rfl (by kernel_rfl) (by kernel_rfl) (by kernel_rfl) (fun _ _ _ h => h) (by rfl) (by assumption) ?hy1 ?_
     case hy1 => (intro w hSw; (try dsimp only at hSw); go_simp; all_goals with_reducible rfl)
     (try simp only [td])
     refine takeL 2 (v := ?_) rfl (by kernel_rfl) (by kernel_rfl) (by kernel_rfl) (fun _ _ _ h => h) (by rfl) (by assumption) ?hy2 ?_
     case hy2 => (intro w hSw; (try dsimp only at hSw); go_simp; all_goals with_reducible rfl)
     (try simp only [td])
     refine takeL 3 (v := ?_) rfl (by kernel_rfl) (by kernel_rfl) (by kernel_rfl) (fun _ _ _ h => h) (by rfl) (by assumption) ?hy3 ?_
     case hy3 => (intro w hSw; (try dsimp only at hSw); go_simp; all_goals with_reducible rfl)
     (try simp only [td])
     refine takeL 4 (v := .slice ad1 (m1 - at') (cc - at')) rfl (by kernel_rfl) (by kernel_rfl) (by kernel_rfl) (fun _ _ _ h => h) (by rfl) (by assumption) ?hy4 ?_
     case hy4 => (intro w hSw; exact by rw [HA1.out]; exact x_sub (k := at') (m := m1) (E := 23) (sz := 2) rfl (by rfl) (by rfl) (by rfl) (by omega) (by omega) Tryz.underlying26 size_clonePt)
     (try simp only [td])
     refine takeL 5 (v := ?_) rfl (by kernel_rfl) (by kernel_rfl) (by kernel_rfl) (fun _ _ _ h => h) (by rfl) (by assumption) ?hy5 ?_
     case hy5 => (intro w hSw; (try dsimp only at hSw); go_simp; all_goals with_reducible rfl)
     (try simp only [td])
     refine takeL 6 (v := ?_) rfl (by kernel_rfl) (by kernel_rfl) (by kernel_rfl) (fun _ _ _ h => h) (by rfl) (by assumption) ?hy6 ?_
     case hy6 => (intro w hSw; (try dsimp only at hSw); go_simp; all_goals with_reducible rfl)
     (try simp only [td])
     refine takeL 7 (v := ?_) rfl (by kernel_rfl) (by kernel_rfl) (by kernel_rfl) (fun _ _ _ h => h) (by rfl) (by assumption) ?hy7 ?_
     case hy7 => (intro w hSw; (try dsimp only at hSw); go_simp; all_goals with_reducible rfl)
     (try simp only [td])
     refine takeL 8 (v := .slice ad2 (m2 - m1) (cc - m1)) rfl (by kernel_rfl) (by kernel_rfl) (by kernel_rfl) (fun _ _ _ h => h) (by rfl) (by assumption) ?hy8 ?_
     case hy8 => (intro w hSw; exact by rw [HA2.out]; exact x_sub (k := m1) (m := m2) (E := 23) (sz := 2) rfl (by rfl) (by rfl) (by rfl) (by omega) (by omega) Tryz.underlying26 size_clonePt)
     (try simp only [td])
     refine takeL 9 (v := ?_) rfl (by kernel_rfl) (by kernel_rfl) (by kernel_rfl) (fun _ _ _ h => h) (by rfl) (by assumption) ?hy9 ?_
     case hy9 => (intro w hSw; (try dsimp only at hSw); go_simp; all_goals with_reducible rfl)
     (try simp only [td])
     refine consL 10 (by kernel_rfl) rfl (by rfl) (fun K hK => ?_)
     go_simp
     go_at_call 68
     refine (mergePt_any enc he h1c fv hfn ord D hord L1 L2 _ _ _ (HS1.out.call HBq.out.drew) (HS2.out.call HBq.out.drew) (fun x hx => HD.out x (by rw [HL1e.out] at hx; exact List.mem_of_mem_drop (List.mem_of_mem_take hx))) (fun x hx => HD.out x (by rw [HL2e.out] at hx; exact List.mem_of_mem_drop (List.mem_of_mem_drop (List.mem_of_mem_take hx)))) (by have := HL1.out; have := HL2.out; omega)).mono ?_
     rintro e wm ⟨vm, rfl, hsm, hbm⟩
     rw [← Hle.out] at hsm
     obtain ⟨es, Hes⟩ : ∃ es, Hid (es = (mgB le L1 L2).map enc) := ⟨_, hH rfl⟩
     have hle : es.length = mm := by rw [Hes.out, List.length_map, mgB_len, HL1.out, HL2.out, Hmm.out]; omega
     rw [← Hes.out] at hsm
     obtain ⟨am, cm, e, hnm, hcm⟩ := hsm.form
     rw [hle] at e hnm
     subst e
     have HSm := hH hsm
     replace hbm : Below wr.heap.size wr wm := (Below.refl _ wr).drew.trans hbm
     have hown := own_call HO.out hbm
     have hbw : Below W.heap.size W wm := HBq.out.trans (hbm.mono HBq.out.size)
     have HBm := hH hbw
     have hmm := hbw.size
     have Hle2 := hH hle
     clear hle hnm hcm
     clear hsm hbm hbw
     clear hHeld
     refine hK.out _ _ ?hS10 (fun hHeld => ?_)
     case hS10 => ((try dsimp only); exact HBm.out)
     clear hK K
     (try simp only [td])
     refine consL 11 (by kernel_rfl) rfl (by rfl) (fun K hK => ?_)
     refine wp_appendS _ _ _ 26 rfl W.heap.size 23 (.agg #[.int .i64 0, .int .i64 0]) 2 16 Tryz.underlying26 info_clonePt rfl (by decide) (.slice av no capv) no _ rfl hown _ _ rfl HSm.out (by rw [Hes.out]; exact HC.out _) (by rw [Hle2.out]; have := Hmm.out; unfold maxLen; omega) (by rw [Hle2.out]; have := Hmm.out; omega) hmm ?_
     intro v' wb hown2 hgrow
     rw [Hle2.out] at hown2
     obtain ⟨a2, cap2, rfl⟩ := own_form hown2
     have HBb := hH (HBm.out.grown hgrow hmm (fun k e => (hown.lt k e).1))
     clear hHeld
     refine hK.out _ _ ?hS11 (fun hHeld => ?_)
     case hS11 => ((try dsimp only); exact HBb.out)
     clear hK K
     (try simp only [td])
     refine takeL 12 (v := ?_) rfl (by kernel_rfl) (by kernel_rfl) (by kernel_rfl) (fun _ _ _ h => h) (by rfl) (by assumption) ?hy12 ?_
     case hy12 => (intro w hSw; (try dsimp only at hSw); go_simp; all_goals with_reducible rfl)
     (try simp only [td])
     refine wpAnyH_done (by kernel_rfl) ?_ _
     have b6 : no + mm + (n - p2) = n := by have := Hmm.out; rw [Hm2.out] at this; omega
     have HO2 := hH hown2
     clear hown hown2 hgrow hmm
     go_wp2_with fail
     go_roundg q2
     case measure => omega
     case rel => exact ⟨P ++ mgB le L1 L2, a2, p2, no + mm, cap2, hH (by rw [HP.out, HStep.out, List.append_assoc]), by rw [Hp2.out, Hk2.out]; omega, b6, by rw [Hp2.out]; omega, hH (by rw [List.length_append, mgB_len, HL1.out, HL2.out, Hno.out, Hmm.out]; omega), rfl, rfl, hH (by rw [List.map_append, List.flatten_append, ← Hes.out]; exact HO2.out), HBb, hH (fun x hx => by
      rcases List.mem_append.1 hx with h | h
      ·exact HDP.out x h
      ·rcases mgB_mem.1 h with h | h
       ·rw [HL1e.out] at h; exact HD.out x (List.mem_of_mem_drop (List.mem_of_mem_take h))
       ·rw [HL2e.out] at h; exact HD.out x (List.mem_of_mem_drop (List.mem_of_mem_drop (List.mem_of_mem_take h))))⟩
    ·have t3 : ¬ (at' : Int) < (n : Int) := by omega
     have hnn : no = n := by omega
     subst hnn
     have t1 : (k : Int) * 2 = (k2 : Int) := by rw [Hk2.out]; omega
     go_wp2_with fail
     go_roundg q
     case measure => omega
     case rel =>
      have hl : (P.map enc).length = no := by rw [List.length_map, Hno.out]
      have hpp : passB le k no cur = P := by rw [HP.out, List.drop_of_length_le (by rw [Hcl.out]; omega), passB_nil, List.append_nil]
      obtain ⟨_, _, e9, h8, h9⟩ := (SlC.of_own (es := P.map enc) (by rw [hl]; exact HO.out) (by intro e h; obtain ⟨x, _, rfl⟩ := List.mem_map.1 h; exact he x)).form
      rw [hl] at e9 h8
      injection e9 with e91 e92 e93
      refine ⟨P, av, k2, capv, hH ?_, hH Hno.out.symm, by rw [Hk2.out]; omega, by rw [Hk2.out]; omega, by rw [Hk2.out]; omega, by omega, by unfold maxLen at h9; omega, rfl, rfl, hH ?_, hH HDP.out, hH (HB.out.trans (HBq.out.mono HB.out.size))⟩
      ·rw [HS.out, sortG, if_pos (by rw [Hcl.out]; exact Hkn.out), Hcl.out, hpp, Hk2.out]
      ·have := SlC.of_own (es := P.map enc) (by rw [hl]; exact HO.out) (by intro e h; obtain ⟨x, _, rfl⟩ := List.mem_map.1 h; exact he x)
       exact this
  ·have t0 : ¬ (k : Int) < (n : Int) := by omega
   go_wp2_with fail
   go_ret
   refine ⟨_, rfl, ?_, HB.out⟩
   have : sortB le l = cur := by
    rw [HS.out]
    cases gk with
    | zero => rfl
    | succ q => rw [sortG, if_neg (by rw [Hcl.out]; exact hkn)]
   rw [this]
   exact HC1.out
end Go.Proofs.YthbplhglfjlngaaGreat
namespace Go.Proofs.YthbplhglfjlngaaGreat
open Go.RowKit Go.Rg Go.Wd Go.Mg
attribute [local go_sem] Oper.semAt_some
theorem ptE_one (ps : List (Int × Int)) : ∀ u ∈ (ptE ps).flatten, u.oneCell' = true := by
 intro u hu
 obtain ⟨cs, h1, h2⟩ := List.mem_flatten.1 hu
 obtain ⟨p, _, rfl⟩ := List.mem_map.1 h1
 simp at h2
 rcases h2 with rfl | rfl <;> rfl
set_option maxHeartbeats 4000000 in
theorem runs_seq (b1 b2 : Nat) (v : Value) (ps : List (Int × Int)) (sm : (Int × Int) → (Int × Int) → Bool) (fv : FuncId) (hfn : ∀ args w, (callFunc fv args).run Tryz.prog w = .ok (.enter fv args) w) (lbS : Array Value) (S : Nat → Prop) (w : World)
  (hb1 : Blk w b1 [v] 26) (hS1 : S b1) (hb2 : Blk w b2 [.func (.func fv) #[] lbS] 101) (hS2 : S b2) (hS : ∀ k, S k → k < w.heap.size) (hv : ∀ W, Kept S w W → SlC W v 2 (ptE ps))
  (hsame : ∀ p q, ∀ X, Kept S w X → Calls Tryz.prog fv (#[pV p.1 p.2, pV q.1 q.2] ++ lbS) X fun e X' => e = .returned (.bool (sm p q)) ∧ Below X.heap.size X X') (hb : ps.length * 16 ≤ 140737488355328) :
  SeqE Tryz.prog 66 #[.pointer (some ⟨b1, 0, none⟩), .pointer (some ⟨b2, 0, none⟩)] (grpB sm ps).length (fun k x X => ∃ u gr, (grpB sm ps)[k]? = some gr ∧ x = #[u] ∧ SlC X u 2 (ptE gr)) S w := by
 intro l J Jx W hW hJ hJx hY h0
 obtain ⟨a, c, rfl, hn, hcm⟩ := (hv w (Kept.refl _ _)).form
 have hlen : (ptE ps).length = ps.length := by unfold ptE; simp
 rw [hlen] at hn hb1 hv
 unfold maxLen at hcm
 obtain ⟨n, Hn⟩ : ∃ n, Hid (n = ps.length) := ⟨_, hH rfl⟩
 rw [← Hn.out] at hn hb1 hv hb
 have HV := hH hv
 have HY := hH hY
 have HJ := hH hJ
 have HJx := hH hJx
 have H0 := hH h0
 have HW := hH hW
 have HSame := hH hsame
 have HS := hH hS
 have HB1 := hH hb1
 have HB2 := hH hb2
 clear hv hY hJ hJx h0 hW hsame hS hb1 hb2 hlen
 refine callsIn_of_wp Tryz.func66 rfl trivial ?_ rfl
 (simp only [Tryz.ntmps66, List.size_toArray, List.length_cons, List.length_nil, Nat.reduceAdd, Nat.reduceSub, Array.replicate_succ, Array.replicate_zero, List.push_toArray, List.append_toArray, List.nil_append, List.cons_append])
 gi_wp2_with fail
 gi_loopw [4, 5] (fun s4 s5 wr => ∃ (f i k : Nat) (dn : List (List (Int × Int))), s4 = .int .i64 (f : Int) ∧ s5 = .int .i64 (i : Int) ∧ 1 ≤ i ∧ i ≤ n + 1 ∧ f < i ∧ Hid (grpB sm ps = dn ++ rsT sm ps f i) ∧ Hid (k = dn.length) ∧ Hid (J k (fun _ => False) wr) ∧ Hid (Kept S W wr))
  (fun s4 s5 _ => n + 1 - (intOf s5).toNat)
 case atStart => exact ⟨0, 1, 0, [], rfl, rfl, by omega, by omega, by omega, hH (by rw [rsT_start]; rfl), hH rfl, H0, hH (Kept.refl _ _)⟩
 case round =>
  obtain ⟨f, i, k, dn, rfl, rfl, hi1, hi2, hfi, HD, Hk, Hj, HkW⟩ := hrel
  have HK : Hid (Kept S w wr) := hH (HW.out.trans HkW.out)
  have HSl : Hid (∀ j, S j → j < wr.heap.size) := hH (fun j hj => by have := HS.out j hj; have := HK.out.size; omega)
  have B1 := HB1.out.of_same (HK.out.same b1 hS1)
  have B2 := HB2.out.of_same (HK.out.same b2 hS2)
  have x1 : wr.cell? ⟨b1, 0, none⟩ = some (.slice a n c) := B1.cell rfl
  by_cases hin : i ≤ n
  ·have t0 : (i : Int) ≤ (n : Int) := by omega
   have hne : ps ≠ [] := fun h => by have := Hn.out; rw [h] at this; simp at this; omega
   obtain ⟨g, off, rfl⟩ : ∃ g off, a = some ⟨g, off, none⟩ := by
    obtain ⟨p0, hp0⟩ : ∃ p, ps[0]? = some p := ⟨_, List.getElem?_eq_getElem (by have := Hn.out; omega)⟩
    obtain ⟨g, off, e, _⟩ := (HV.out wr HK.out).elem (ptE_at hp0)
    exact ⟨g, off, e⟩
   obtain ⟨i1, Hi1⟩ : ∃ m, Hid (m = i - 1) := ⟨_, hH rfl⟩
   have ti1 : IntKind.i64.wrap ((i : Int) - 1) = (i1 : Int) := by rw [IntKind.wrap_i64]; have := Hi1.out; omega
   have ti2 : IntKind.i64.wrap (i1 : Int) = (i1 : Int) := by rw [IntKind.wrap_i64]; have := Hi1.out; omega
   have tia : (i : Int) - 1 = (i1 : Int) := by have := Hi1.out; omega
   obtain ⟨px, hpx⟩ : ∃ p, ps[i1]? = some p := ⟨_, List.getElem?_eq_getElem (by have := Hn.out; have := Hi1.out; omega)⟩
   have HRx : ∀ X, Below wr.heap.size wr X → X.rangeAt g (off + i1 * 2) [.int .i64 px.1, .int .i64 px.2] := fun X hX => by
    obtain ⟨g', o', e, h1, h2, _⟩ := (HV.out X (HK.out.trans ((Kept.of_below hX).mono (fun j hj => HSl.out j hj)))).elem (ptE_at hpx)
    cases e; exact h2
   have hi1n : i1 < n := by have := Hi1.out; omega
   by_cases hlt : i < n
   ·have t1 : (i : Int) < (n : Int) := by omega
    have d1 : decide ((i : Int) < (n : Int)) = true := by simpa using t1
    obtain ⟨py, hpy⟩ : ∃ p, ps[i]? = some p := ⟨_, List.getElem?_eq_getElem (by have := Hn.out; omega)⟩
    have HRy : ∀ X, Below wr.heap.size wr X → X.rangeAt g (off + i * 2) [.int .i64 py.1, .int .i64 py.2] := fun X hX => by
     obtain ⟨g', o', e, h1, h2, _⟩ := (HV.out X (HK.out.trans ((Kept.of_below hX).mono (fun j hj => HSl.out j hj)))).elem (ptE_at hpy)
     cases e; exact h2
    have Hpx := hH hpx
    have Hpy := hH hpy
    have HB := Below.refl wr.heap.size wr
    clear hpx hpy
    gi_upto_region 4 with (fail)
    refine calm_in (by kernel_rfl) (by rintro ⟨_, _, h⟩; obtain ⟨⟨v, e⟩, _⟩ := h; cases e) (by kernel_rfl) ?_
    refine cN ?_
    refine cW ?_ ?_ ?_
    refine cX ?_ ?_ (by intro wz hSw; have q0 := c1 (B1.y hSw.1); go_simp; all_goals with_reducible rfl) ?_
    refine cW ?_ ?_ ?_
    refine cW ?_ ?_ ?_
    refine cW ?_ ?_ ?_
    refine cX ?_ ?_ (by intro wz hSw; have q0 := c1 (B2.y hSw.1); go_simp; all_goals with_reducible rfl) ?_
    refine cX ?_ ?_ (by intro wz hSw; have q0 := c1 (B1.y hSw.1); go_simp; all_goals with_reducible rfl) ?_
    refine cW ?_ ?_ ?_
    refine cX ?_ ?_ (by intro wz hSw; have nn := ti2; go_simp; all_goals with_reducible rfl) ?_
    refine cX (.pointer (some ⟨g, off + i1 * 2, none⟩)) ?_ (by intro wz hSw; exact x_index (i := i1) (E := 23) (sz := 2) rfl (by rfl) (by rfl) (by omega) Tryz.underlying26 size_clonePt) ?_
    refine cX (pV px.1 px.2) ?_ (by intro wz hSw; exact x_row (cs := [.int .i64 px.1, .int .i64 px.2]) rfl (by rfl) (HRx _ (Stay.all hSw.1)) Tryz.underlying23 rfl size_clonePt) ?_
    refine cX ?_ ?_ (by intro wz hSw; have q0 := c1 (B1.y hSw.1); go_simp; all_goals with_reducible rfl) ?_
    refine cW ?_ ?_ ?_
    refine cX (.pointer (some ⟨g, off + i * 2, none⟩)) ?_ (by intro wz hSw; exact x_index (i := i) (E := 23) (sz := 2) rfl (by rfl) (by rfl) (by omega) Tryz.underlying26 size_clonePt) ?_
    refine cX (pV py.1 py.2) ?_ (by intro wz hSw; exact x_row (cs := [.int .i64 py.1, .int .i64 py.2]) rfl (by rfl) (HRy _ (Stay.all hSw.1)) Tryz.underlying23 rfl size_clonePt) ?_
    refine calm_call (f := ?_) (args := ?_) (v := ?_) (by rfl) (by rfl) ?hy1_15 ?hc1_15 ?_
    case hy1_15 => (intro wz hSw; go_simp; all_goals (first | with_reducible rfl | (constructor <;> with_reducible rfl) | exact hfn _ _))
    case hc1_15 => (intro w hSw; exact HSame.out px py w (HK.out.trans ((Kept.of_below (Stay.all hSw.1)).mono (fun j hj => HSl.out j hj))))
    (try simp only [td])
    refine cW ?_ ?_ ?_
    refine calm_end ?_
    intro w1 hS
    have hS := sO hS
    have B1 := B1.y hS
    have B2 := B2.y hS
    have hz1 : wr.heap.size ≤ w1.heap.size := hS.size
    have HB := gS HB hS
    have HE := hH hS.all
    clear hS
    by_cases hs : sm px py = true
    ·have HC : Hid (rsT sm ps f i = rsT sm ps f (i + 1)) := hH (rsT_same hi1 (by rw [← Hi1.out]; exact Hpx.out) Hpy.out hs (by omega))
     have HkW1 : Hid (Kept S W w1) := hH (HkW.out.trans ((Kept.of_below HE.out).mono (fun j hj => HSl.out j hj)))
     have Hj1 : Hid (J k (fun _ => False) w1) := hH (HJ.out _ _ _ _ _ Hj.out (Ext.of_below' HE.out HkW.out.size) (fun _ h => h.elim))
     simp only [hs]
     gi_wp2_with fail
     go_roundw
     case rel => exact ⟨f, i + 1, k, dn, rfl, by first | rfl | simp, by omega, by omega, by omega, hH (by rw [HD.out, HC.out]), Hk, Hj1, HkW1⟩
     case measure => simp [intOf]; omega
    ·have hs : sm px py = false := by simpa using hs
     have HC : Hid (rsT sm ps f i = (ps.take i).drop f :: rsT sm ps i (i + 1)) := hH (rsT_cut hi1 (by rw [← Hi1.out]; exact Hpx.out) Hpy.out hs)
     simp only [hs]
     have HK1 : Hid (Kept S w w1) := hH (HK.out.trans ((Kept.of_below HE.out).mono (fun j hj => HSl.out j hj)))
     have HkW1 : Hid (Kept S W w1) := hH (HkW.out.trans ((Kept.of_below HE.out).mono (fun j hj => HSl.out j hj)))
     have Hj1 : Hid (J k (fun _ => False) w1) := hH (HJ.out _ _ _ _ _ Hj.out (Ext.of_below' HE.out HkW.out.size) (fun _ h => h.elim))
     have x2 : w1.cell? ⟨b1, 0, none⟩ = some (.slice (some ⟨g, off, none⟩) n c) := (HB1.out.of_same (HK1.out.same b1 hS1)).cell rfl
     have hcf : ¬ c = f := by omega
     have hfi2 : (f : Int) ≤ (i : Int) := by omega
     have hic : (i : Int) ≤ (c : Int) := by omega
     clear B1 B2 x1
     have hsub : SlC w1 (.slice (some ⟨g, off + f * 2, none⟩) (i - f) (c - f)) 2 (ptE ((ps.take i).drop f)) := by
      have := (HV.out w1 HK1.out).sub f i (by omega) (by unfold ptE; rw [List.length_map, ← Hn.out]; exact hin)
      rw [if_neg hcf, Option.map_some, addr_add] at this
      unfold ptE at this ⊢
      rw [List.map_drop, List.map_take]; exact this
     have hgl : (ptE ((ps.take i).drop f)).length = i - f := by unfold ptE; rw [List.length_map, List.length_drop, List.length_take, ← Hn.out]; omega
     have Hsub := hH hsub
     have Hgl := hH hgl
     obtain ⟨gr, Hgr⟩ : ∃ gr, Hid (gr = (ps.take i).drop f) := ⟨_, hH rfl⟩
     rw [← Hgr.out] at Hsub Hgl HC
     have Hat : Hid ((grpB sm ps)[k]? = some gr) := hH (by rw [HD.out, HC.out, Hk.out, List.getElem?_append_right (Nat.le_refl _), Nat.sub_self]; rfl)
     have hkl : k < (grpB sm ps).length := (List.getElem?_eq_some_iff.1 Hat.out).1
     clear hsub hgl
     gi_wp2_with fail
     refine (calls_iff.2 (clonePt_any _ (ptE gr) w1 Hsub.out (ptE_one gr) (by rw [Hgl.out]; omega))).mono ?_
     rintro e w2 ⟨u, rfl, hsu, hb2⟩
     have Hb2 : Below wr.heap.size wr w2 := HE.out.trans (hb2.mono HE.out.size)
     have HkW2 : Hid (Kept S W w2) := hH (HkW.out.trans ((Kept.of_below Hb2).mono (fun j hj => HSl.out j hj)))
     have Hj2 : Hid (J k (fun _ => False) w2) := hH (HJ.out _ _ _ _ _ Hj.out (Ext.of_below' Hb2 HkW.out.size) (fun _ h => h.elim))
     have HYk := hH (HY.out k #[u] (fun _ => False) w2 hkl ⟨u, gr, Hat.out, rfl, hsu⟩ HkW2.out (fun j h => h.elim) Hj2.out)
     obtain ⟨ua, uc, rfl, _, _⟩ := hsu.form
     obtain ⟨fn, tmps, assign, body, hy, hR⟩ := HYk.out
     have HR := hH hR
     clear hsu hb2 Hb2 x2 hR hcf hfi2 hic
     gi_wp2_with fail
     refine HR.out.mono ?_
     clear HR hy HYk
     rintro e X' (⟨rfl, hj3, hk3⟩ | ⟨rfl, hj3, hk3⟩)
     ·have Hj3 := hH hj3
      have Hk3 : Hid (Kept S W X') := hH (HkW2.out.trans (hk3.kept.mono (fun j hj => .inl hj)))
      clear hj3 hk3
      gi_wp2_with fail
      go_roundw
      case rel => exact ⟨i, i + 1, k + 1, dn ++ [gr], rfl, by first | rfl | simp, by omega, by omega, by omega, hH (by rw [HD.out, HC.out]; simp), hH (by rw [Hk.out]; simp), Hj3, Hk3⟩
      case measure => simp [intOf]; omega
     ·have Hj3 := hH hj3
      have Hk3 : Hid (Kept S W X') := hH (HkW2.out.trans (hk3.kept.mono (fun j hj => .inl hj)))
      clear hj3 hk3
      gi_wp2_with fail
      refine bodyPost_ret (results_none rfl _ _ _) rfl ?_
      exact ⟨⟨_, rfl⟩, Hk3.out, .inr ⟨k + 1, by omega, by omega, Hj3.out⟩⟩
   ·have t1 : ¬ (i : Int) < (n : Int) := by omega
    have d1 : decide ((i : Int) < (n : Int)) = false := by simpa using t1
    have HC : Hid (rsT sm ps f i = (ps.take i).drop f :: rsT sm ps i (i + 1)) := hH (by
     have h1 := Hn.out
     obtain rfl : i = ps.length := by omega
     rw [rsT_last sm ps f (by omega), rsT_done sm ps _ _ (by omega)])
    have HB := Below.refl wr.heap.size wr
    gi_upto_region 4 with (fail)
    refine calm_in (by kernel_rfl) (by rintro ⟨_, _, h⟩; obtain ⟨⟨v, e⟩, _⟩ := h; cases e) (by kernel_rfl) ?_
    refine cN ?_
    refine cW ?_ ?_ ?_
    refine cX ?_ ?_ (by intro wz hSw; have q0 := c1 (B1.y hSw.1); go_simp; all_goals with_reducible rfl) ?_
    refine cW ?_ ?_ ?_
    refine cW ?_ ?_ ?_
    refine cW ?_ ?_ ?_
    refine cS ?_ ?_
    refine cS ?_ ?_
    refine cS ?_ ?_
    refine cS ?_ ?_
    refine cS ?_ ?_
    refine cS ?_ ?_
    refine cS ?_ ?_
    refine cS ?_ ?_
    refine cS ?_ ?_
    refine cS ?_ ?_
    refine cS ?_ ?_
    refine cW ?_ ?_ ?_
    refine calm_end ?_
    intro w1 hS
    have hS := sO hS
    have B1 := B1.y hS
    have B2 := B2.y hS
    have hz1 : wr.heap.size ≤ w1.heap.size := hS.size
    have HB := gS HB hS
    have HE := hH hS.all
    clear hS
    have HK1 : Hid (Kept S w w1) := hH (HK.out.trans ((Kept.of_below HE.out).mono (fun j hj => HSl.out j hj)))
    have HkW1 : Hid (Kept S W w1) := hH (HkW.out.trans ((Kept.of_below HE.out).mono (fun j hj => HSl.out j hj)))
    have Hj1 : Hid (J k (fun _ => False) w1) := hH (HJ.out _ _ _ _ _ Hj.out (Ext.of_below' HE.out HkW.out.size) (fun _ h => h.elim))
    have x2 : w1.cell? ⟨b1, 0, none⟩ = some (.slice (some ⟨g, off, none⟩) n c) := (HB1.out.of_same (HK1.out.same b1 hS1)).cell rfl
    have hcf : ¬ c = f := by omega
    have hfi2 : (f : Int) ≤ (i : Int) := by omega
    have hic : (i : Int) ≤ (c : Int) := by omega
    clear B1 B2 x1
    have hsub : SlC w1 (.slice (some ⟨g, off + f * 2, none⟩) (i - f) (c - f)) 2 (ptE ((ps.take i).drop f)) := by
     have := (HV.out w1 HK1.out).sub f i (by omega) (by unfold ptE; rw [List.length_map, ← Hn.out]; exact hin)
     rw [if_neg hcf, Option.map_some, addr_add] at this
     unfold ptE at this ⊢
     rw [List.map_drop, List.map_take]; exact this
    have hgl : (ptE ((ps.take i).drop f)).length = i - f := by unfold ptE; rw [List.length_map, List.length_drop, List.length_take, ← Hn.out]; omega
    have Hsub := hH hsub
    have Hgl := hH hgl
    obtain ⟨gr, Hgr⟩ : ∃ gr, Hid (gr = (ps.take i).drop f) := ⟨_, hH rfl⟩
    rw [← Hgr.out] at Hsub Hgl HC
    have Hat : Hid ((grpB sm ps)[k]? = some gr) := hH (by rw [HD.out, HC.out, Hk.out, List.getElem?_append_right (Nat.le_refl _), Nat.sub_self]; rfl)
    have hkl : k < (grpB sm ps).length := (List.getElem?_eq_some_iff.1 Hat.out).1
    clear hsub hgl
    gi_wp2_with fail
    refine (calls_iff.2 (clonePt_any _ (ptE gr) w1 Hsub.out (ptE_one gr) (by rw [Hgl.out]; omega))).mono ?_
    rintro e w2 ⟨u, rfl, hsu, hb2⟩
    have Hb2 : Below wr.heap.size wr w2 := HE.out.trans (hb2.mono HE.out.size)
    have HkW2 : Hid (Kept S W w2) := hH (HkW.out.trans ((Kept.of_below Hb2).mono (fun j hj => HSl.out j hj)))
    have Hj2 : Hid (J k (fun _ => False) w2) := hH (HJ.out _ _ _ _ _ Hj.out (Ext.of_below' Hb2 HkW.out.size) (fun _ h => h.elim))
    have HYk := hH (HY.out k #[u] (fun _ => False) w2 hkl ⟨u, gr, Hat.out, rfl, hsu⟩ HkW2.out (fun j h => h.elim) Hj2.out)
    obtain ⟨ua, uc, rfl, _, _⟩ := hsu.form
    obtain ⟨fn, tmps, assign, body, hy, hR⟩ := HYk.out
    have HR := hH hR
    clear hsu hb2 Hb2 x2 hR hcf hfi2 hic
    gi_wp2_with fail
    refine HR.out.mono ?_
    clear HR hy HYk
    rintro e X' (⟨rfl, hj3, hk3⟩ | ⟨rfl, hj3, hk3⟩)
    ·have Hj3 := hH hj3
     have Hk3 : Hid (Kept S W X') := hH (HkW2.out.trans (hk3.kept.mono (fun j hj => .inl hj)))
     clear hj3 hk3
     gi_wp2_with fail
     go_roundw
     case rel => exact ⟨i, i + 1, k + 1, dn ++ [gr], rfl, by first | rfl | simp, by omega, by omega, by omega, hH (by rw [HD.out, HC.out]; simp), hH (by rw [Hk.out]; simp), Hj3, Hk3⟩
     case measure => simp [intOf]; omega
    ·have Hj3 := hH hj3
     have Hk3 : Hid (Kept S W X') := hH (HkW2.out.trans (hk3.kept.mono (fun j hj => .inl hj)))
     clear hj3 hk3
     gi_wp2_with fail
     refine bodyPost_ret (results_none rfl _ _ _) rfl ?_
     exact ⟨⟨_, rfl⟩, Hk3.out, .inr ⟨k + 1, by omega, by omega, Hj3.out⟩⟩
  ·have t0 : ¬ (i : Int) ≤ (n : Int) := by omega
   have HE : Hid (grpB sm ps = dn) := hH (by rw [HD.out, rsT_done sm ps f i (by rw [← Hn.out]; omega), List.append_nil])
   clear B1 B2
   gi_wp2_with fail
   refine bodyPost_end (results_none rfl _ _ _) rfl ?_
   exact ⟨⟨_, rfl⟩, HkW.out, .inl ⟨fun _ => False, fun _ h => h.elim, by rw [HE.out, ← Hk.out]; exact Hj.out⟩⟩
end Go.Proofs.YthbplhglfjlngaaGreat
namespace Go.Rg
open Go Go.RowKit
structure Grw (X : World) (B bO : Nat) (T e : TypeId) (sz : Nat) (O : Nat → Prop) (cs : Value → List Value) (es : List (List Value)) (v : Value) : Prop where
 blk : Blk X bO (cs v) T
 lt : bO < B
 own : X.ownsRow B e sz v es.length es.flatten
 all : ∀ x ∈ es, x.length = sz
 free : ∀ g, v.ownBlock = some g → ¬ O g
variable {X Y : World} {B B' bO sz : Nat} {T e : TypeId} {O O' : Nat → Prop} {cs : Value → List Value} {es : List (List Value)} {v v' : Value} {x : List Value}
theorem Grw.ext (h : Grw X B bO T e sz O cs es v) (hx : Ext B' X Y) (hO : ∀ j, O' j → grow O X Y j) : Grw Y B bO T e sz O' cs es v :=
 ⟨h.blk.ext hx, h.lt, own_ext h.own hx, h.all, fun g hg ho => by
  rcases hO g ho with h1 | h1
  ·exact h.free g hg h1
  ·have := (h.own.lt g hg).2; omega⟩
theorem Grw.call (h : Grw X B bO T e sz O cs es v) (hb : Below X.heap.size X Y) : Grw Y B bO T e sz O cs es v := h.ext (Ext.of_below hb) (fun j hj => .inl hj)
theorem Grw.put (o : Nat) (hset : (cs v).set o v' = cs v') (h : Grw X B bO T e sz O cs es v) (ho : Y.ownsRow B e sz v' (es.length + 1) (es.flatten ++ x)) (hg : X.grownBy Y v.ownBlock) (hm : Moves X v v') (hx : x.length = sz) (hO : ∀ j, O j → j < X.heap.size) :
  Grw (Y.setCell ⟨bO, o, none⟩ v') B bO T e sz O cs (es ++ [x]) v' := by
 refine ⟨hset ▸ (h.blk.appended h.own h.lt hg).set o v', h.lt, ?_, fun y hy => ?_, fun g hg2 hOg => ?_⟩
 ·rw [List.length_append, List.flatten_append]
  have : ([x] : List (List Value)).flatten = x := by simp
  rw [this]
  exact own_other ho ⟨bO, o, none⟩ h.lt v'
 ·rcases List.mem_append.1 hy with h1 | h1
  ·exact h.all y h1
  ·rw [List.mem_singleton.1 h1]; exact hx
 ·rcases hm with h1 | ⟨g', h1, h2⟩
  ·rw [h1] at hg2; exact h.free g hg2 hOg
  ·rw [h1] at hg2; cases hg2; have := hO g hOg; omega
theorem Grw.eff (o : Nat) {C : Nat} {S : Nat → Prop} {A : World} (h : Grw X B bO T e sz O cs es v) (he : Eff C S A X) (hg : X.grownBy Y v.ownBlock) (hS : ∀ k, S k → k < X.heap.size) (hS1 : ¬ S bO) (hS2 : ∀ g, v.ownBlock = some g → ¬ S g) (u : Value) : Eff C S A (Y.setCell ⟨bO, o, none⟩ u) :=
 (he.grown hg hS hS2 (fun k o hk ho => by
  rcases h.own.2 with ⟨rfl, _⟩ | ⟨g, cap, cur, rfl, _, hc, _⟩
  ·cases hk
  ·cases hk; rw [hc] at ho; cases ho; rfl)).setCell _ hS1 u
theorem Grw.slc (h : Grw X B bO T e sz O cs es v) : SlC X v sz es := SlC.of_own h.own h.all
theorem Grw.keepT (o : Nat) {U : TypeId} (h : Grw X B bO T e sz O cs es v) (hg : X.grownBy Y v.ownBlock) (h1 : e ≠ U) (h2 : T ≠ U) (u : Value) : KeepT U X (Y.setCell ⟨bO, o, none⟩ u) :=
 (KeepT.grown h.own h1 hg).trans (KeepT.set ⟨bO, o, none⟩ (h.blk.appended h.own h.lt hg) h2 u)
theorem SlC.kept_if {w W : World} {v : Value} {sz : Nat} {es : List (List Value)} {b : Nat} {cs : List Value} {T : TypeId} (h : SlC w v sz es) (hB : Blk w b cs T) (hne : ∀ e ∈ es, ∃ u ∈ e, u ∉ cs) (hk : Kept (fun j => j < w.heap.size ∧ j ≠ b) w W) : SlC W v sz es := by
 obtain ⟨a, c, e, h1, h2, h3, ho⟩ := h
 refine ⟨a, c, e, h1, h2, h3, fun hx => ?_⟩
 obtain ⟨g, off, e1, e2, e3⟩ := ho hx
 have hgb : g ≠ b := fun hgb => by
  subst hgb
  cases es with
  | nil => exact hx rfl
  | cons y es =>
   obtain ⟨u, hu, hnu⟩ := hne y (List.mem_cons_self ..)
   obtain ⟨j, hj⟩ := List.getElem?_of_mem hu
   have := e3 0 _ rfl j u hj
   unfold Blk at hB
   simp [World.cell?, hB] at this
   exact hnu (List.mem_of_getElem? this)
 exact ⟨g, off, e1, Nat.lt_of_lt_of_le e2 hk.size, fun i x hi j u hj => (World.cell?_of_block (a := ⟨g, off + i * sz + j, none⟩) (hk.same g ⟨e2, hgb⟩)).trans (e3 i x hi j u hj)⟩
theorem SlC.ext {w w' : World} {v : Value} {sz : Nat} {es : List (List Value)} {B : Nat} (h : SlC w v sz es) (hb : Ext B w w') : SlC w' v sz es := by
 obtain ⟨a, c, e, h1, h2, h3, ho⟩ := h
 refine ⟨a, c, e, h1, h2, h3, fun hx => ?_⟩
 obtain ⟨g, off, e1, e2, e3⟩ := ho hx
 exact ⟨g, off, e1, Nat.lt_of_lt_of_le e2 hb.size, fun i x hi j u hj => hb.cell (e3 i x hi j u hj)⟩
theorem SlC.same {w w' : World} {v : Value} {sz : Nat} {es : List (List Value)} (h : SlC w v sz es) {S : Nat → Prop} (hk : Kept S w w') (hS : ∀ k, k < w.heap.size → S k) : SlC w' v sz es :=
 h.call (Kept.below (hk.mono hS))
theorem SlC.kept_but {w W : World} {v x : Value} {es : List (List Value)} {b : Nat} {T : TypeId} (h : SlC w v 2 es) (hB : Blk w b [x] T) (hk : Kept (fun j => j < w.heap.size ∧ j ≠ b) w W) : SlC W v 2 es := by
 obtain ⟨a, c, e, h1, h2, h3, ho⟩ := h
 refine ⟨a, c, e, h1, h2, h3, fun hx => ?_⟩
 obtain ⟨g, off, e1, e2, e3⟩ := ho hx
 have hgb : g ≠ b := fun hgb => by
  subst hgb
  cases es with
  | nil => exact hx rfl
  | cons y es =>
   have hy := h3 y (List.mem_cons_self ..)
   match y, hy with
   | [u0, u1], _ =>
    have := e3 0 _ rfl 1 u1 rfl
    unfold Blk at hB
    simp [World.cell?, hB] at this
 exact ⟨g, off, e1, Nat.lt_of_lt_of_le e2 hk.size, fun i x hi j u hj => (World.cell?_of_block (a := ⟨g, off + i * 2 + j, none⟩) (hk.same g ⟨e2, hgb⟩)).trans (e3 i x hi j u hj)⟩
theorem reads_newP (W : World) (cs : List Value) (t : TypeId) (n c b : Nat) (hb : b = W.heap.size) (hn : n ≤ c) (hc : c ≤ maxLen) : Reads (W.alloc (.cells cs.toArray t)) (W.heap.size + 1) (.slice (some ⟨b, 0, none⟩) n c) n cs := hb ▸ reads_new W cs t n c hn hc
def onlyN (Q : Exit → Act → World → Prop) (e : Exit) (a : Act) (w : World) : Prop := match e with | .normal => Q .normal a w | _ => False
theorem onlyN_mono {F : Fence} {n : Nat} {P : Program} {c : Code} {Q : Exit → Act → World → Prop} {a : Act} {w : World} (h : c.wpIn F n P (onlyN Q) a w) : c.wpIn F n P Q a w :=
 wpIn_mono h (fun e a w h => by cases e <;> first | exact h | exact h.elim)
end Go.Rg
namespace Go.Proofs.YthbplhglfjlngaaGreat
open Go.RowKit Go.Rg Go.Wd Go.Mg
attribute [local go_sem] Oper.semAt_some
theorem once1_any (b : Nat) (fv : FuncId) (hfn : ∀ args w, (callFunc fv args).run Tryz.prog w = .ok (.enter fv args) w) (ord : (Int × Int) → (Int × Int) → Int)
  (hord : ∀ p q, ∀ w : World, Calls Tryz.prog fv #[pV p.1 p.2, pV q.1 q.2] w fun e w' => e = .returned (.int .i64 (ord p q)) ∧ Below w.heap.size w w') (p q : Int × Int) (w : World) (hb : Blk w b [.func (.func fv) #[] #[]] 93) :
  Calls Tryz.prog 64 #[pV p.1 p.2, pV q.1 q.2, .pointer (some ⟨b, 0, none⟩)] w fun e w' => e = .returned (.bool (ord p q == 0)) ∧ Below w.heap.size w w' := by
 obtain ⟨W0, hW0⟩ : ∃ W0, [.cells #[.int .i64 p.1, .int .i64 p.2] 23, .cells #[.int .i64 q.1, .int .i64 q.2] 23].foldl World.alloc w = W0 := ⟨_, rfl⟩
 have B0 : Blk W0 (w.heap.size) ([.int .i64 p.1, .int .i64 p.2]) 23 := Blk.allocs _ hW0 0 rfl
 have B1 : Blk W0 (w.heap.size + 1) ([.int .i64 q.1, .int .i64 q.2]) 23 := Blk.allocs _ hW0 1 rfl
 have HB := aB hW0
 have hsz : w.heap.size + 2 ≤ W0.heap.size := aZ hW0
 simp only [List.foldl_cons, List.foldl_nil] at hW0
 have B2 : Blk W0 b [.func (.func fv) #[] #[]] 93 := hb.call HB
 go_enter Tryz.func64, Tryz.ntmps64
 go_upto_region 1 with (fail)
 clear hW0
 refine cP ?_
 refine cN ?_
 refine cX ?_ ?_ (by intro wz hSw; have q0 := c1 (B2.y hSw.1); go_simp; all_goals with_reducible rfl) ?_
 refine cX ?_ ?_ (by intro wz hSw; obtain ⟨q0, q1⟩ := c2 (B0.y hSw.1); go_simp; all_goals with_reducible rfl) ?_
 refine cX ?_ ?_ (by intro wz hSw; obtain ⟨q0, q1⟩ := c2 (B1.y hSw.1); go_simp; all_goals with_reducible rfl) ?_
 refine calm_call (f := ?_) (args := ?_) (v := ?_) (by rfl) (by rfl) ?hy1_3 ?hc1_3 ?_
 case hy1_3 => (intro wz hSw; go_simp; all_goals (first | with_reducible rfl | (constructor <;> with_reducible rfl) | exact hfn _ _))
 case hc1_3 => (intro w hSw; exact hord p q w)
 (try simp only [td])
 refine cW ?_ ?_ ?_
 refine cW ?_ ?_ ?_
 refine calm_end ?_
 intro w1 hS
 have hS := sO hS
 have B0 := B0.y hS
 have B1 := B1.y hS
 have B2 := B2.y hS
 have hz1 : W0.heap.size ≤ w1.heap.size := hS.size
 have HB := gS HB hS
 clear hS
 go_wp2_with fail
 go_ret
 exact ⟨rfl, HB⟩
theorem runsF_any (a : Option Addr) (n c : Nat) (fv : FuncId) (lbS : Array Value) (w : World) : Calls Tryz.prog 37 #[.slice a n c, .func (.func fv) #[] lbS] w fun e w' => e = .returned (.func (.func 66) #[] #[.pointer (some ⟨w.heap.size, 0, none⟩), .pointer (some ⟨w.heap.size + 1, 0, none⟩)]) ∧ [.cells #[.slice a n c] 26, .cells #[.func (.func fv) #[] lbS] 101].foldl World.alloc w = w' := by
 go_enter Tryz.func37, Tryz.ntmps37
 go_wp2_with fail
 go_ret
 first | exact ⟨rfl, rfl⟩ | (refine ⟨?_, rfl⟩; simp) | trace_state
theorem enter_runs (args : Array Value) (w : World) : (callFunc 66 args).run Tryz.prog w = .ok (.enter 66 args) w := enters_of Tryz.func66 (by kernel_rfl) rfl args w
theorem enter_once1 (args : Array Value) (w : World) : (callFunc 64 args).run Tryz.prog w = .ok (.enter 64 args) w := enters_of Tryz.func64 (by kernel_rfl) rfl args w
def onceB (ord : (Int × Int) → (Int × Int) → Int) (ps : List (Int × Int)) : List (Int × Int) := (grpB (fun p q => ord p q == 0) (sortB (fun x y => !decide (ord y x < 0)) ps)).map (fun g => g.headD (0, 0))
set_option maxHeartbeats 4000000 in
theorem once_any (fv : FuncId) (hfn : ∀ args w, (callFunc fv args).run Tryz.prog w = .ok (.enter fv args) w) (ord : (Int × Int) → (Int × Int) → Int)
  (hord : ∀ p q, ∀ w : World, Calls Tryz.prog fv #[pV p.1 p.2, pV q.1 q.2] w fun e w' => e = .returned (.int .i64 (ord p q)) ∧ Below w.heap.size w w')
  (v : Value) (ps : List (Int × Int)) (w : World) (hv : SlC w v 2 (ptE ps)) (hb : ps.length * 16 ≤ 140737488355328) :
  Calls Tryz.prog 35 #[v, .func (.func fv) #[] #[]] w fun e w' => ∃ v', e = .returned v' ∧ SlC w' v' 2 (ptE (onceB ord ps)) ∧ Below w.heap.size w w' := by
 have HV := hH hv
 have HOrd := hH hord
 obtain ⟨W0, hW0⟩ : ∃ W0, [.cells #[.func (.func fv) #[] #[]] 93, .cells #[.slice none 0 0] 26].foldl World.alloc w = W0 := ⟨_, rfl⟩
 have B0 : Blk W0 (w.heap.size) [.func (.func fv) #[] #[]] 93 := Blk.allocs _ hW0 0 rfl
 have B1 : Blk W0 (w.heap.size + 1) [.slice none 0 0] 26 := Blk.allocs _ hW0 1 rfl
 have hb0 : Below w.heap.size w W0 := hW0 ▸ allocs_below _ w
 have hsz0 : W0.heap.size = w.heap.size + 2 := hW0 ▸ allocs_size _ w
 have hsz0 : w.heap.size + 2 ≤ W0.heap.size := Nat.le_of_eq hsz0.symm
 clear hv hord
 simp only [List.foldl_cons, List.foldl_nil] at hW0
 have c0 := B0.cell (j := 0) rfl
 obtain ⟨a, c, rfl, hn, hcm⟩ := HV.out.form
 refine (calls_iff (r := none) (m := 0)).1 (callsIn_of_wp_marks Tryz.func35 rfl trivial ?_ rfl)
 simp only [Tryz.ntmps35, List.size_toArray, List.length_cons, List.length_nil, Nat.reduceAdd, Nat.reduceSub, Array.replicate_succ, Array.replicate_zero, List.push_toArray, List.append_toArray, List.nil_append, List.cons_append]
 gi_wp2_with fail
 have hen : ∀ l : List (Int × Int), l.map (fun p : Int × Int => [Value.int .i64 p.1, .int .i64 p.2]) = ptE l := fun l => rfl
 refine (calls_iff.2 (sortPt_any (fun p : Int × Int => [.int .i64 p.1, .int .i64 p.2]) (fun _ => rfl) (by intro x u hu; simp at hu; rcases hu with rfl | rfl <;> rfl) fv hfn ord (fun _ => True) (fun y x _ _ w => HOrd.out y x w) ps _ W0 (HV.out.call hb0) (fun _ _ => trivial) hb)).mono ?_
 rintro e w1 ⟨v1, rfl, hs1, hb1⟩
 rw [hen] at hs1
 obtain ⟨srt, Hsrt⟩ : ∃ l, Hid (l = sortB (fun x y => !decide (ord y x < 0)) ps) := ⟨_, hH rfl⟩
 have Hsl : Hid (srt.length = ps.length) := hH (by rw [Hsrt.out, sortB_len])
 rw [← Hsrt.out] at hs1
 obtain ⟨a1, c1, e1, hn1, hcm1⟩ := hs1.form
 subst e1
 have Hs1 := hH hs1
 obtain ⟨n1, Hn1⟩ : ∃ n, Hid (n = (ptE srt).length) := ⟨_, hH rfl⟩
 rw [← Hn1.out] at Hs1 hn1 ⊢
 have HB1 : Hid (Below w.heap.size w w1) := hH (hb0.trans (hb1.mono hb0.size))
 have B0 := B0.call hb1
 have B1 := B1.call hb1
 have hz1 := hb1.size
 clear hs1 hb1 hb0 hW0 c0 hen
 gi_wp2_with fail
 refine (calls_iff.2 (runsF_any a1 n1 c1 64 #[.pointer (some ⟨w.heap.size, 0, none⟩)] w1)).mono ?_
 rintro e ws ⟨rfl, hws⟩
 have B2 : Blk ws w1.heap.size [.slice a1 n1 c1] 26 := Blk.allocs _ hws 0 rfl
 have B3 : Blk ws (w1.heap.size + 1) [.func (.func 64) #[] #[.pointer (some ⟨w.heap.size, 0, none⟩)]] 101 := Blk.allocs _ hws 1 rfl
 have hbs : Below w1.heap.size w1 ws := hws ▸ allocs_below _ w1
 have hszs : ws.heap.size = w1.heap.size + 2 := hws ▸ allocs_size _ w1
 replace hszs : w1.heap.size + 2 ≤ ws.heap.size := Nat.le_of_eq hszs.symm
 have B0 := B0.call hbs
 have B1 := B1.call hbs
 have HBs : Hid (Below w.heap.size w ws) := hH (HB1.out.trans (hbs.mono HB1.out.size))
 have Hs2 : Hid (SlC ws (.slice a1 n1 c1) 2 (ptE srt)) := hH (Hs1.out.call hbs)
 clear hws hbs Hs1
 obtain ⟨bO, hbO⟩ : ∃ b, b = w.heap.size + 1 := ⟨_, rfl⟩
 rw [← hbO] at B1 ⊢
 have hbO1 : w.heap.size < bO := by omega
 have hbO2 : bO < w1.heap.size := by omega
 obtain ⟨Sn, hSn⟩ : ∃ S : Nat → Prop, S = fun j => j < ws.heap.size ∧ j ≠ bO := ⟨_, rfl⟩
 have HSn : Hid (∀ j, Sn j → j < ws.heap.size) := hH (fun j hj => by rw [hSn] at hj; exact hj.1)
 have HSo : Hid (¬ Sn bO) := hH (by rw [hSn]; exact fun h => h.2 rfl)
 have HSi : Hid (∀ j, j < ws.heap.size → j ≠ bO → Sn j) := hH (fun j h1 h2 => by rw [hSn]; exact ⟨h1, h2⟩)
 clear hSn hbO
 obtain ⟨gs, Hgs⟩ : ∃ l, Hid (l = grpB (fun p q => ord p q == 0) srt) := ⟨_, hH rfl⟩
 have hSeq := runs_seq w1.heap.size (w1.heap.size + 1) (.slice a1 n1 c1) srt (fun p q => ord p q == 0) 64 enter_once1 #[.pointer (some ⟨w.heap.size, 0, none⟩)] Sn ws B2 (HSi.out _ (by omega) (by omega)) B3 (HSi.out _ (by omega) (by omega)) HSn.out
  (fun W hW => Hs2.out.kept_but B1 (hW.mono (fun j hj => HSi.out j hj.1 hj.2))) (fun p q X hX => once1_any w.heap.size fv hfn ord HOrd.out p q X (B0.of_same (hX.same _ (HSi.out _ (by omega) (by omega))))) (by rw [Hsl.out]; exact hb)
 rw [← Hgs.out] at hSeq
 have HSeq := hH hSeq
 have Hgl : Hid (gs.length ≤ ps.length) := hH (by rw [Hgs.out, ← Hsl.out]; exact grpB_len _ _)
 have Hne : Hid (∀ g ∈ gs, g ≠ []) := hH (by rw [Hgs.out]; exact grpB_ne _ _)
 clear hSeq B0 B2 B3
 have HB1s := hH B1
 clear B1
 gi_wp2_with fail
 refine wp_rangeE (P := Tryz.prog) (gf := 66) (lb := #[.pointer (some ⟨w1.heap.size, 0, none⟩), .pointer (some ⟨w1.heap.size + 1, 0, none⟩)]) (S := Sn) (ps := #[12]) rfl enter_runs
  HSeq.out (Kept.refl _ _) HSn.out (fun k x X ⟨u, gr, _, hx, _⟩ => by rw [hx]; rfl)
  (fun k O X => (∃ va vc, Grw X ws.heap.size bO 26 23 2 O (fun v => [v]) (ptE ((gs.take k).map (fun g => g.headD (0, 0)))) (.slice va k vc)) ∧ Below w.heap.size w X) (fun _ _ _ => False)
  (fun k O O' X Y h hx hO => ⟨by obtain ⟨va, vc, h1⟩ := h.1; exact ⟨va, vc, h1.ext hx hO⟩, h.2.trans (hx.below.mono (by have := HBs.out.size; omega))⟩) (fun c k X Y h hx => h)
  ⟨⟨none, 0, HB1s.out, by omega, ⟨by simp [ptE], .inl ⟨rfl, by simp [ptE]⟩⟩, (by simp [ptE]), (fun g hg => by cases hg)⟩, HBs.out⟩ ?round ?done ?stop
 case round =>
  intro l k x O Wr hl1 hl2 hkn hE hk hO hi
  obtain ⟨u, gr, hgr, rfl, hu⟩ := hE
  obtain ⟨⟨va, vc, hG⟩, hBr⟩ := hi
  have HO := hH hO
  have hgne := Hne.out gr (List.mem_of_getElem? hgr)
  obtain ⟨hd, tl, rfl⟩ : ∃ hd tl, gr = hd :: tl := by
   cases gr with
   | nil => exact absurd rfl hgne
   | cons x y => exact ⟨x, y, rfl⟩
  obtain ⟨ga, gc, e, hgn, hgc⟩ := hu.form
  subst e
  obtain ⟨gn, Hgn⟩ : ∃ n, Hid (n = (ptE (hd :: tl)).length) := ⟨_, hH rfl⟩
  rw [← Hgn.out] at hu hgn ⊢
  have hgn1 : 0 < gn := by rw [Hgn.out]; simp [ptE]
  obtain ⟨gh, oh, rfl, _, _⟩ := SlC.head (e := [.int .i64 hd.1, .int .i64 hd.2]) (es := ptE tl) hu
  gi_wp2_with fail
  refine ⟨Eff.refl _ _ _, ?_⟩
  intro Wb hx hkb hszb hlb
  have HG0 := hG.ext hx (fun j hj => .inl hj)
  obtain ⟨_, _, e, hgl, hrd, _⟩ := SlC.head (e := [.int .i64 hd.1, .int .i64 hd.2]) (es := ptE tl) (hu.ext hx)
  cases e
  have HRd := hH hrd
  obtain ⟨dn, Hdn⟩ : ∃ d, Hid (d = ptE ((gs.take k).map (fun g => g.headD (0, 0)))) := ⟨_, hH rfl⟩
  rw [← Hdn.out] at HG0
  have HDl : Hid (dn.length = k) := hH (by rw [Hdn.out]; unfold ptE; rw [List.length_map, List.length_map, List.length_take]; omega)
  rw [← HDl.out] at HG0
  have HG := hH HG0
  have Hkb2 : Hid (dn.length * 16 ≤ 140737488355328 - 16) := hH (by rw [HDl.out]; have := Hgl.out; omega)
  have hz0 := HG0.blk.cell (j := 0) rfl
  have HBw : Hid (Below w.heap.size w Wb) := hH (hBr.trans (hx.below.mono (by have := HBs.out.size; omega)))
  have HszB : Hid (ws.heap.size ≤ Wb.heap.size) := hH (Nat.le_trans hk.size hx.below.size)
  have HSO : Hid (∀ j, both Sn O j → j < Wb.heap.size) := hH (fun j hj => by
   rcases hj with h | h
   ·have := HSn.out j h; omega
   ·have := (HO.out j h).2; omega)
  have HbO : Hid (¬ both Sn O bO) := hH (by
   rintro (h | h)
   ·exact HSo.out h
   ·have := (HO.out bO h).1; omega)
  have Hst : Hid (ptE ((gs.take (k + 1)).map (fun g => g.headD (0, 0))) = dn ++ [[.int .i64 hd.1, .int .i64 hd.2]]) := hH (by
   rw [Hdn.out, List.take_add_one, hgr]; unfold ptE; simp)
  have HDl2 := HDl.out
  subst HDl2
  clear hx hkb hszb hlb HG0 hrd hu hG hO hgr hBr hgne
  gi_wp2_with fail
  refine onlyN_mono ?_
  refine heldG_round (fun w' => w'.cell? ⟨bO, 0, none⟩ = some (.slice va dn.length vc) ∧ World.rangeAt w' gh oh [.int .i64 hd.1, .int .i64 hd.2]) (fun j => j == 5 || j == 6) (by kernel_rfl) ?_ (by kernel_rfl) ?_
  ·exact fun ⟨_, _, h⟩ => h
  have hHeld : (fun w' => w'.cell? ⟨bO, 0, none⟩ = some (.slice va dn.length vc) ∧ World.rangeAt w' gh oh [.int .i64 hd.1, .int .i64 hd.2]) Wb.drew := ⟨hz0, HRd.out⟩
  refine takeG 0 (v := ?_) [0, 5, 6] rfl (by kernel_rfl) (by kernel_rfl) (by kernel_rfl) (by kernel_rfl) (by kernel_rfl) (fun _ _ _ h => h) (by rfl) (by assumption) ?hy0 ?_
  case hy0 => (intro w hSw; (try dsimp only at hSw); obtain ⟨z0, z1⟩ := hSw; go_simp; all_goals with_reducible rfl)
  (try simp only [td])
  refine takeG 1 (v := ?_) [1, 2, 3, 4, 5, 6] rfl (by kernel_rfl) (by kernel_rfl) (by kernel_rfl) (by kernel_rfl) (by kernel_rfl) (fun _ _ _ h => h) (by rfl) (by assumption) ?hy1 ?_
  case hy1 => (intro w hSw; (try dsimp only at hSw); obtain ⟨z0, z1⟩ := hSw; go_simp; all_goals with_reducible rfl)
  (try simp only [td])
  refine takeG 2 (v := .pointer (some ⟨gh, oh, none⟩)) [2, 3, 4, 5, 6] rfl (by kernel_rfl) (by kernel_rfl) (by kernel_rfl) (by kernel_rfl) (by kernel_rfl) (fun _ _ _ h => h) (by rfl) (by assumption) ?hy2 ?_
  case hy2 => (intro w hSw; exact x_index (i := 0) (E := 23) (sz := 2) rfl (by rfl) (by rfl) (by omega) Tryz.underlying26 size_clonePt)
  (try simp only [td])
  refine takeG 3 (v := pV hd.1 hd.2) [3, 4, 5, 6] rfl (by kernel_rfl) (by kernel_rfl) (by kernel_rfl) (by kernel_rfl) (by kernel_rfl) (fun _ _ _ h => h) (by rfl) (by assumption) ?hy3 ?_
  case hy3 => (intro w hSw; exact x_row (cs := [.int .i64 hd.1, .int .i64 hd.2]) rfl (by rfl) hSw.2 Tryz.underlying23 rfl size_clonePt)
  (try simp only [td])
  refine consG 4 (by kernel_rfl) rfl (by rfl) (fun K hK => ?_)
  --nosimp
  refine wp_buildOne _ 26 23 _ (pV hd.1 hd.2) (.agg #[.int .i64 0, .int .i64 0]) [.int .i64 hd.1, .int .i64 hd.2] rfl Tryz.underlying26 (info_small info_clonePt) (by rfl) rfl (by simp) (by simp) ?_
  obtain ⟨wa, hwa⟩ : ∃ wa, Wb.drew.alloc (.cells [.int .i64 hd.1, .int .i64 hd.2].toArray 23) = wa := ⟨_, rfl⟩
  have hRN : ReadsE wa wa.heap.size (.slice (some ⟨Wb.heap.size, 0, none⟩) 1 1) 1 [.int .i64 hd.1, .int .i64 hd.2] := hwa ▸ reads_one Wb.drew 23 [.int .i64 hd.1, .int .i64 hd.2]
  have hal : Below Wb.heap.size Wb wa := hwa ▸ ((Below.refl _ Wb).drew).alloc (Nat.le_refl _) _
  have HEa : Hid (Eff ws.heap.size (both Sn O) Wb wa) := hH (hwa ▸ ((Eff.refl _ _ Wb).drew).alloc (fun j hj => HSO.out j hj) _)
  have HGa := HG.out.call hal
  have hsa := hal.size
  have z0 := HGa.blk.cell (j := 0) rfl
  have z1 := rangeAt_below HRd.out hal hgl
  have HBa : Hid (Below w.heap.size w wa) := hH (HBw.out.trans (hal.mono HBw.out.size))
  (try rw [hwa])
  clear hwa hal
  clear hHeld
  refine hK.out _ _ ?hS4 (fun hHeld => ?_)
  case hS4 => (intro _; (try dsimp only); exact ⟨z0, z1⟩)
  have hHeld := hHeld rfl
  clear hK K
  (try simp only [td])
  refine consG 5 (by kernel_rfl) rfl (by rfl) (fun K hK => ?_)
  refine wp_append2E _ _ _ 26 rfl ws.heap.size 23 (.agg #[.int .i64 0, .int .i64 0]) 2 16 Tryz.underlying26 info_clonePt rfl (by decide) (.slice va dn.length vc) dn.length _ rfl HGa.own _ _ 1 [.int .i64 hd.1, .int .i64 hd.2] rfl hRN rfl (by simp [Value.oneCell']) (by have := Hkb2.out; unfold maxLen; omega) (by have := Hkb2.out; omega) (by have := HszB.out; omega) ?_
  intro v' wb own' hgrow hmov
  obtain ⟨va2, vc2, rfl⟩ := own_form own'
  have HGb := hH (HGa.put 0 rfl (x := [.int .i64 hd.1, .int .i64 hd.2]) own' hgrow hmov rfl (fun j hj => by have := HSO.out j (.inr hj); omega))
  have HEb := hH (HGa.eff 0 HEa.out hgrow (fun j hj => by have := HSO.out j hj; omega) HbO.out (fun g hg => by
   rintro (h | h)
   ·have := HSn.out g h; have := (HGa.own.lt g hg).1; omega
   ·exact HGa.free g hg h) (.slice va2 (dn.length + 1) vc2))
  have HBb : Hid (Below w.heap.size w (wb.setCell ⟨bO, 0, none⟩ (.slice va2 (dn.length + 1) vc2))) := hH ((HBa.out.grown hgrow HBa.out.size (fun k e => by have := (HGa.own.lt k e).1; omega)).setCell (p := ⟨bO, 0, none⟩) (by show _ ≤ bO; omega) _)
  have z0 := (HGa.blk.appended HGa.own HGa.lt hgrow).cell (j := 0) rfl
  have zf := (HGa.blk.appended HGa.own HGa.lt hgrow).frozen 0
  clear own' hgrow hmov
  clear hHeld
  refine hK.out _ _ (fun h => by cases h) (fun hHeld => ?_)
  clear hK K
  (try simp only [td])
  refine consG 6 (by kernel_rfl) rfl (by rfl) (fun K hK => ?_)
  go_simp
  clear hHeld
  refine hK.out _ _ (fun h => by cases h) (fun hHeld => ?_)
  clear hK K
  (try simp only [td])
  refine wpAnyG_done (by kernel_rfl) ?_ _
  exact ⟨HEb.out, ⟨va2, vc2, by rw [Hst.out]; exact HGb.out⟩, HBb.out⟩
 case done =>
  intro O Wd hk hlt hi hD
  obtain ⟨⟨va, vc, hG⟩, hBd⟩ := hi
  rw [List.take_length] at hG
  have d1 := hG.blk.cell (j := 0) rfl
  have HG := hH hG
  have HD := hH hD
  have HBd := hH hBd
  clear hG hD hBd
  gi_wp2_with fail
  refine ⟨by simp, .inl ⟨_, _, rfl, run_takeDeferred HD.out, ?_⟩⟩
  exact ⟨_, results_tmp rfl _ _ _, _, rfl, by unfold onceB; rw [← Hsrt.out, ← Hgs.out]; exact HG.out.slc.ext (Ext.putObj (Nat.le_refl _) HD.out rfl _), put_below HBd.out (by have := HBs.out.size; omega) HD.out rfl⟩
 case stop => exact fun c k W _ _ _ _ h => h.elim
end Go.Proofs.YthbplhglfjlngaaGreat
