/- Regions that draw their order, whatever their operations do: each operation is looked at once, by what it waits for. No program in sight. -/
import Derived.Test.YthbplhglfjlngaaGreatGPb
import Derived.Test.YthbplhglfjlngaaGreatGPf
import Derived.Laws.MakeOwn
import Derived.Great.BuildSlice
import Derived.Test.YthbplhglfjlngaaGreatGPc
set_option linter.unusedVariables false
set_option linter.unusedSimpArgs false
set_option maxRecDepth 100000
namespace Go.Rg
open Go Go.RowKit
section
variable {P : Program} {ops : Array Oper} {md : Region.Mode} {a0 : Act} {S : Nat → Value → World → Prop} {R : World → World → Prop} {C : World → Prop}
def dagUpon (P : Program) (R : World → World → Prop) (V : Value → World → Prop) (w : World) : Result Next → Prop
 | .ok (.value u) w' => R w w' ∧ V u w'
 | .ok .skip w' => R w w' ∧ V undef w'
 | .ok (.enter f args) w' => w' = w ∧ Calls P f args w fun e w'' => ∃ u, e = .returned u ∧ R w w'' ∧ V u w''
 | _ => False
structure Pre (md : Region.Mode) (ops : Array Oper) (a0 : Act) (S : Nat → Value → World → Prop) (C : World → Prop) (j : Nat) (o : Oper) (a : Act) (w : World) : Prop where
 base : C w
 size : a.tmps.size = a0.tmps.size
 had : ∀ (k : Nat) (ok : Oper) (d : Tmp), ops[k]? = some ok → ok.dst = some d → waitB md o k = true → ∃ v, a.tmps[d]? = some v ∧ S k v w
 yet : ∀ t : Tmp, (∀ (k : Nat) (ok : Oper), ops[k]? = some ok → ok.dst = some t → k = j ∨ waitB md ok j = true) → a.tmps[t]? = a0.tmps[t]?
def Step (P : Program) (md : Region.Mode) (ops : Array Oper) (a0 : Act) (S : Nat → Value → World → Prop) (R : World → World → Prop) (C : World → Prop) (j : Nat) (o : Oper) : Prop :=
 ∀ a w, Pre md ops a0 S C j o a w →
  (Region.wanted o (yielded ops a.tmps) = true ∧ dagUpon P R (S j) w ((execOp a.eval o).run P w)) ∨ (Region.wanted o (yielded ops a.tmps) = false ∧ S j undef w)
structure DInv (md : Region.Mode) (ops : Array Oper) (a0 : Act) (S : Nat → Value → World → Prop) (C : World → Prop) (listed : Array Bool) (a : Act) (w : World) : Prop where
 base : C w
 len : listed.size = ops.size
 size : a.tmps.size = a0.tmps.size
 defers : a.defers = a0.defers
 had : ∀ (k : Nat) (ok : Oper) (d : Tmp), ops[k]? = some ok → ok.dst = some d → listed.getD k false = true → ∃ v, a.tmps[d]? = some v ∧ S k v w
 yet : ∀ t : Tmp, (∀ (k : Nat) (ok : Oper), ops[k]? = some ok → ok.dst = some t → listed.getD k false = false) → a.tmps[t]? = a0.tmps[t]?
 close : ∀ (k : Nat) (ok : Oper), ops[k]? = some ok → listed.getD k false = true → ∀ j, waitB md ok j = true → listed.getD j false = true
structure DStat (ops : Array Oper) (a0 : Act) : Prop where
 one : ∀ (k k' : Nat) (o o' : Oper) (d : Tmp), ops[k]? = some o → ops[k']? = some o' → o.dst = some d → o'.dst = some d → k = k'
 room : ∀ (k : Nat) (o : Oper) (d : Tmp), ops[k]? = some o → o.dst = some d → d < a0.tmps.size
theorem put_at (a : Act) (dst : Option Tmp) (v : Value) (t : Tmp) (h : dst ≠ some t) : (a.put dst v).tmps[t]? = a.tmps[t]? := by
 cases dst with
 | none => rfl
 | some d =>
  rw [put_tmps, if_neg (fun e => h (by rw [e]))]
theorem count_set : ∀ (l : List Bool) (j : Nat) (h : j < l.length), l[j] = false → (l.set j true).countP (fun b => !b) + 1 = l.countP (fun b => !b)
 | x :: l, 0, h, hx => by
  simp only [List.getElem_cons_zero] at hx
  subst hx
  simp [List.countP_cons]
 | x :: l, j + 1, h, hx => by
  have ih := count_set l j (by simpa using h) (by simpa using hx)
  rw [List.set_cons_succ, List.countP_cons, List.countP_cons]
  omega
theorem DInv.next (T : DStat ops a0) {listed : Array Bool} {a : Act} {w w' : World} {j : Nat} {o : Oper} {v : Value} (hS : ∀ k v w w', S k v w → R w w' → S k v w') (hC : ∀ w w', C w → R w w' → C w') (h : DInv md ops a0 S C listed a w) (hj : ops[j]? = some o)
  (hall : ∀ k, waitB md o k = true → listed.getD k false = true) (hun : listed.getD j false = false) (hr : R w w') (hv : S j v w') : DInv md ops a0 S C (listed.setIfInBounds j true) (a.put o.dst v) w' := by
 have hjl : j < listed.size := by rw [h.len]; exact (Array.getElem?_eq_some_iff.1 hj).1
 refine ⟨hC _ _ h.base hr, by simpa using h.len, by rw [put_size]; exact h.size, by unfold Act.put; split <;> exact h.defers, fun k ok d hk hd hl => ?_, fun t ht => ?_, fun k ok hk hl i hi => ?_⟩
 ·by_cases e : j = k
  ·subst e
   rw [hj] at hk; cases hk
   refine ⟨v, ?_, hv⟩
   rw [hd, put_tmps, if_pos rfl, if_pos (by rw [h.size]; exact T.room j o d hj hd)]
  ·rw [getD_set_ne false e] at hl
   obtain ⟨u, hu, hs⟩ := h.had k ok d hk hd hl
   refine ⟨u, ?_, hS _ _ _ _ hs hr⟩
   rw [put_at _ _ _ _ (fun e2 => e (T.one j k o ok d hj hk e2 hd))]; exact hu
 ·have hd : o.dst ≠ some t := fun e => by
   have := ht j o hj e
   rw [getD_set_eq hjl] at this; cases this
  rw [put_at _ _ _ _ hd]
  exact h.yet t fun k ok hk hkd => by
   have := ht k ok hk hkd
   by_cases e : j = k
   ·subst e; rw [getD_set_eq hjl] at this; cases this
   ·rwa [getD_set_ne false e] at this
 ·rw [getD_set_iff hjl]
  by_cases e : j = k
  ·subst e; rw [hj] at hk; cases hk
   rw [hall i hi]; simp
  ·rw [getD_set_ne false e] at hl
   rw [h.close k ok hk hl i hi]; simp
theorem dag (T : DStat ops a0) {Q : Exit → Act → World → Prop} (hS : ∀ k v w w', S k v w → R w w' → S k v w') (hC : ∀ w w', C w → R w w' → C w') (hR : ∀ w, R w w)
  (hstep : ∀ (j : Nat) (o : Oper), ops[j]? = some o → Step P md ops a0 S R C j o)
  (hQ : ∀ listed a w, DInv md ops a0 S C listed a w → Region.ready md ops listed = [] → Q .normal a w) :
  ∀ (fuel : Nat) (listed : Array Bool) (a : Act) (w : World), listed.toList.countP (fun b => !b) ≤ fuel → DInv md ops a0 S C listed a w → wpAny P md ops Q fuel listed a w
 | 0, listed, a, w, hf, h => by
  have hr : Region.ready md ops listed = [] := by
   cases hr : Region.ready md ops listed with
   | nil => rfl
   | cons j r =>
    exfalso
    obtain ⟨hun, o, ho, _⟩ := mem_ready.1 (show j ∈ Region.ready md ops listed by rw [hr]; exact List.mem_cons_self ..)
    have hj : j < listed.size := by rw [h.len]; exact (Array.getElem?_eq_some_iff.1 ho).1
    have hmem : false ∈ listed.toList := by
     have : listed[j] = false := by simpa [hj] using hun
     rw [← this]; simp
    have : 0 < listed.toList.countP (fun b => !b) := List.countP_pos_iff.2 ⟨false, hmem, rfl⟩
    omega
  exact ⟨hr, hQ _ _ _ h hr⟩
 | fuel + 1, listed, a, w, hf, h => by
  refine ⟨fun hr => hQ _ _ _ h hr, fun j hj => ?_⟩
  obtain ⟨hun, o, ho, hall⟩ := mem_ready.1 hj
  have hjl : j < listed.size := by rw [h.len]; exact (Array.getElem?_eq_some_iff.1 ho).1
  have hunf : listed.getD j false = false := by simp [hjl] at hun ⊢; exact hun
  have hdeps : ∀ k, waitB md o k = true → listed.getD k false = true := fun k hk => by
   obtain ⟨e, he, hb, hon⟩ := waitB_spec hk
   rw [← hon]; exact hall e he hb
  have hpre : Pre md ops a0 S C j o a w := ⟨h.base, h.size, fun k ok d hk hd hw => h.had k ok d hk hd (hdeps k hw), fun t ht => h.yet t fun k ok hk hd => by
   rcases ht k ok hk hd with e | e
   ·rw [e]; exact hunf
   ·cases hl : listed.getD k false with
    | false => rfl
    | true => rw [h.close k ok hk hl j e] at hunf; cases hunf⟩
  have hcount : (listed.setIfInBounds j true).toList.countP (fun b => !b) ≤ fuel := by
   have hlj : listed[j] = false := by simpa [hjl] using hun
   have h2 := count_set listed.toList j (by simpa using hjl) (by simpa using hlj)
   rw [Array.toList_setIfInBounds]
   omega
  unfold wpOp
  simp only [ho]
  rcases hstep j o ho a w hpre with ⟨hw, hc⟩ | ⟨hw, hs⟩
  ·rw [if_pos hw]
   refine .inl ?_
   unfold Oper.wp
   generalize (execOp a.eval o).run P w = r at *
   cases r with
   | ok n w' =>
    cases n <;> simp only [dagUpon] at hc <;> simp only [Oper.upon]
    case value u => exact dag T hS hC hR hstep hQ fuel _ _ _ hcount (h.next T hS hC ho hdeps hunf hc.1 hc.2)
    case skip => exact dag T hS hC hR hstep hQ fuel _ _ _ hcount (h.next T hS hC ho hdeps hunf hc.1 hc.2)
    case enter f args =>
     obtain ⟨rfl, hcall⟩ := hc
     refine hcall.mono fun e w'' ⟨u, he, hr, hv⟩ => ?_
     subst he
     exact dag T hS hC hR hstep hQ fuel _ _ _ hcount (h.next T hS hC ho hdeps hunf hr hv)
   | halt x w' => simp only [dagUpon] at hc
  ·rw [if_neg (by rw [hw]; simp)]
   exact dag T hS hC hR hstep hQ fuel _ _ _ hcount (h.next T hS hC ho hdeps hunf (hR w) hs)
def putAll : List Oper → (Nat → Value) → Nat → Act → Act
 | [], _, _, a => a
 | o :: r, g, k, a => putAll r g (k + 1) (a.put o.dst (g k))
theorem putAll_defers : ∀ (l : List Oper) (g : Nat → Value) (k : Nat) (a : Act), (putAll l g k a).defers = a.defers
 | [], _, _, _ => rfl
 | o :: r, g, k, a => by rw [putAll, putAll_defers]; unfold Act.put; split <;> rfl
theorem putAll_other : ∀ (l : List Oper) (g : Nat → Value) (k : Nat) (a : Act) (t : Tmp), (∀ o ∈ l, o.dst ≠ some t) → (putAll l g k a).tmps[t]? = a.tmps[t]?
 | [], _, _, _, _, _ => rfl
 | o :: r, g, k, a, t, h => by
  rw [putAll, putAll_other r g (k + 1) _ t (fun o' ho => h o' (List.mem_cons_of_mem _ ho)), put_at _ _ _ _ (h o (List.mem_cons_self ..))]
theorem putAll_at : ∀ (l : List Oper) (g : Nat → Value) (k : Nat) (a : Act) (i : Nat) (o : Oper) (d : Tmp), l[i]? = some o → o.dst = some d → (∀ (i' : Nat) (o' : Oper), l[i']? = some o' → o'.dst = some d → i' = i) → d < a.tmps.size → (putAll l g k a).tmps[d]? = some (g (k + i))
 | [], _, _, _, _, _, _, h, _, _, _ => by simp at h
 | o :: r, g, k, a, 0, o2, d, h, hd, hu, hl => by
  simp only [List.getElem?_cons_zero, Option.some.injEq] at h
  subst h
  rw [putAll, putAll_other r g (k + 1) _ d (fun o' ho' e => by
   obtain ⟨i', hi'⟩ := List.getElem?_of_mem ho'
   have := hu (i' + 1) o' (by simpa using hi') e
   omega), hd, put_tmps, if_pos rfl, if_pos hl]
  rfl
 | o :: r, g, k, a, i + 1, o2, d, h, hd, hu, hl => by
  rw [putAll, putAll_at r g (k + 1) _ i o2 d (by simpa using h) hd (fun i' o' hi' hd' => by have := hu (i' + 1) o' (by simpa using hi') hd'; omega) (by rw [put_size]; exact hl)]
  congr 2; omega
def AllSteps (P : Program) (md : Region.Mode) (ops : Array Oper) (a0 : Act) (S : Nat → Value → World → Prop) (R : World → World → Prop) (C : World → Prop) : Nat → List Oper → Prop
 | _, [] => True
 | k, o :: r => Step P md ops a0 S R C k o ∧ AllSteps P md ops a0 S R C (k + 1) r
theorem allSteps_at : ∀ (l : List Oper) (k i : Nat) (o : Oper), AllSteps P md ops a0 S R C k l → l[i]? = some o → Step P md ops a0 S R C (k + i) o
 | [], _, _, _, _, h => by simp at h
 | x :: r, k, 0, o, h, ho => by
  simp only [List.getElem?_cons_zero, Option.some.injEq] at ho
  subst ho; exact h.1
 | x :: r, k, i + 1, o, h, ho => by
  have := allSteps_at r (k + 1) i o h.2 (by simpa using ho)
  rwa [show k + 1 + i = k + (i + 1) by omega] at this
def dagB (l : List Oper) (n : Nat) : Bool :=
 (List.range l.length).all fun k => match l.toArray[k]? with
  | some o => (o.after.all fun e => !Region.binds .any e || decide (e.on < k)) && (match o.dst with
    | some d => decide (d < n) && (List.range l.length).all fun k' => k' == k || (match l.toArray[k']? with | some o' => o'.dst != some d | none => true)
    | none => true)
  | none => true
theorem dagB_spec {l : List Oper} {n : Nat} (h : dagB l n = true) : (∀ (k k' : Nat) (o o' : Oper) (d : Tmp), l.toArray[k]? = some o → l.toArray[k']? = some o' → o.dst = some d → o'.dst = some d → k = k') ∧
  (∀ (k : Nat) (o : Oper) (d : Tmp), l.toArray[k]? = some o → o.dst = some d → d < n) ∧ (∀ (j : Nat) (o : Oper), l.toArray[j]? = some o → ∀ e ∈ o.after, Region.binds .any e = true → e.on < j) := by
 unfold dagB at h
 rw [List.all_eq_true] at h
 have key : ∀ (k : Nat) (o : Oper), l.toArray[k]? = some o → (o.after.all fun e => !Region.binds .any e || decide (e.on < k)) = true ∧ (match o.dst with
    | some d => decide (d < n) && (List.range l.length).all fun k' => k' == k || (match l.toArray[k']? with | some o' => o'.dst != some d | none => true)
    | none => true) = true := fun k o ho => by
  have := h k (List.mem_range.2 (by have := (Array.getElem?_eq_some_iff.1 ho).1; simpa using this))
  rw [ho] at this
  simpa only [Bool.and_eq_true] using this
 refine ⟨fun k k' o o' d ho ho' hd hd' => ?_, fun k o d ho hd => ?_, fun j o ho e he hb => ?_⟩
 ·have := (key k o ho).2
  rw [hd] at this
  simp only [Bool.and_eq_true, List.all_eq_true] at this
  have := this.2 k' (List.mem_range.2 (by have := (Array.getElem?_eq_some_iff.1 ho').1; simpa using this))
  rw [ho'] at this
  simp only [Bool.or_eq_true, beq_iff_eq] at this
  rcases this with e | e
  ·exact e.symm
  ·rw [hd'] at e; simp at e
 ·have := (key k o ho).2
  rw [hd] at this
  simp only [Bool.and_eq_true] at this
  simpa using this.1
 ·have := (key j o ho).1
  rw [Array.all_eq_true'] at this
  have := this e he
  simpa [hb] using this
theorem dag_every {l : List Oper} {Q : Exit → Act → World → Prop} {w : World} (hok : dagB l a0.tmps.size = true) (hS : ∀ k v w w', S k v w → R w w' → S k v w') (hC : ∀ w w', C w → R w w' → C w') (hR : ∀ w, R w w) (hC0 : C w) (hC1 : C w.drew)
  (hstep : AllSteps P .any l.toArray a0 S R C 0 l)
  (hQ : ∀ g w', C w' → (∀ (k : Nat) (o : Oper) (d : Tmp), l[k]? = some o → o.dst = some d → S k (g k) w') → Q .normal (putAll l g 0 a0) w') : Every P l Q a0 w := by
 intro w1 hw1
 obtain ⟨h1, h2, h3⟩ := dagB_spec hok
 have T : DStat l.toArray a0 := ⟨h1, h2⟩
 have none_listed : ∀ j, (Array.replicate l.toArray.size false).getD j false = false := fun j => by
  rcases Nat.lt_or_ge j l.length with h | h
  ·simp [h]
  ·simp [h]
 refine dag T hS hC hR (fun j o ho => by
  have := allSteps_at l 0 j o hstep (by simpa using ho)
  rwa [Nat.zero_add] at this) (fun listed a w2 hI hr => ?_) l.toArray.size _ _ _ ?_ ⟨(by rcases hw1 with rfl | rfl; exact hC0; exact hC1), (by simp), rfl, rfl, (fun k ok d _ _ hl => by rw [none_listed] at hl; cases hl), (fun t _ => rfl), (fun k ok _ hl => by rw [none_listed] at hl; cases hl)⟩
 ·have hall := all_listed h3 hI.len hr
  have hg : ∀ k : Nat, ∃ v, ∀ (o : Oper) (d : Tmp), l.toArray[k]? = some o → o.dst = some d → a.tmps[d]? = some v ∧ S k v w2 := fun k => by
   cases ho : l.toArray[k]? with
   | none => exact ⟨undef, fun o d h => by cases h⟩
   | some o =>
    cases hd : o.dst with
    | none => exact ⟨undef, fun o' d h h' => by cases h; rw [hd] at h'; cases h'⟩
    | some d =>
     obtain ⟨v, hv⟩ := hI.had k o d ho hd (hall k (Array.getElem?_eq_some_iff.1 ho).1)
     exact ⟨v, fun o' d' h h' => by cases h; rw [hd] at h'; cases h'; exact hv⟩
  let g : Nat → Value := fun k => Classical.choose (hg k)
  have hgs : ∀ (k : Nat) (o : Oper) (d : Tmp), l.toArray[k]? = some o → o.dst = some d → a.tmps[d]? = some (g k) ∧ S k (g k) w2 := fun k => Classical.choose_spec (hg k)
  have e : a = putAll l g 0 a0 := by
   refine act_ext (by rw [putAll_defers]; exact hI.defers) fun t => ?_
   by_cases hx : ∃ (k : Nat) (o : Oper), l.toArray[k]? = some o ∧ o.dst = some t
   ·obtain ⟨k, o, ho, hd⟩ := hx
    rw [(hgs k o t ho hd).1, putAll_at l g 0 a0 k o t (by simpa using ho) hd (fun i' o' hi' hd' => h1 i' k o' o t (by simpa using hi') ho hd' hd) (h2 k o t ho hd), Nat.zero_add]
   ·rw [hI.yet t (fun k ok hk hd => absurd ⟨k, ok, hk, hd⟩ hx), putAll_other l g 0 a0 t (fun o ho hd => by
     obtain ⟨k, hk⟩ := List.getElem?_of_mem ho
     exact hx ⟨k, o, by simpa using hk, hd⟩)]
  rw [e]
  exact hQ g w2 hI.base fun k o d hk hd => (hgs k o d (by simpa using hk) hd).2
 ·have := List.countP_le_length (p := fun b => !b) (l := (Array.replicate l.toArray.size false).toList)
  simpa using this
def nthS (l : List (Value → World → Prop)) (k : Nat) (v : Value) (w : World) : Prop := match l[k]? with | some p => p v w | none => True
def StableL (R : World → World → Prop) : List (Value → World → Prop) → Prop
 | [] => True
 | p :: r => (∀ v w w', p v w → R w w' → p v w') ∧ StableL R r
theorem stableL : ∀ (l : List (Value → World → Prop)), StableL R l → ∀ k v w w', nthS l k v w → R w w' → nthS l k v w'
 | [], _, k, v, w, w', _, _ => by unfold nthS; simp
 | p :: r, h, 0, v, w, w', hs, hr => h.1 v w w' hs hr
 | p :: r, h, k + 1, v, w, w', hs, hr => stableL r h.2 k v w w' (by simpa [nthS] using hs) hr |> fun x => by simpa [nthS] using x
theorem stable_eq {X : Value} : ∀ v (w w' : World), v = X → R w w' → v = X := fun _ _ _ h _ => h
theorem dagUpon_val {V : Value → World → Prop} {w : World} {r : Result Next} {u : Value} (h : r = .ok (.value u) w) (hR : R w w) (hV : V u w) : dagUpon P R V w r := by subst h; exact ⟨hR, hV⟩
theorem dagUpon_call {V : Value → World → Prop} {w : World} {r : Result Next} {f : FuncId} {args : Array Value} (h : r = .ok (.enter f args) w) (hc : Calls P f args w fun e w'' => ∃ u, e = .returned u ∧ R w w'' ∧ V u w'') : dagUpon P R V w r := by subst h; exact ⟨rfl, hc⟩
theorem dagUpon_new {V : Value → World → Prop} {w w' : World} {r : Result Next} {u : Value} (h : r = .ok (.value u) w') (hR : R w w') (hV : V u w') : dagUpon P R V w r := by subst h; exact ⟨hR, hV⟩
theorem Pre.ev {j : Nat} {o : Oper} {a : Act} {w : World} (h : Pre md ops a0 S C j o a w) (k : Nat) (ok : Oper) (d : Tmp) (hk : ops[k]? = some ok) (hd : ok.dst = some d) (hw : waitB md o k = true) : ∃ v, a.tmps[d]?.getD undef = v ∧ S k v w := by
 obtain ⟨v, h1, h2⟩ := h.had k ok d hk hd hw
 exact ⟨v, by simp [h1], h2⟩
def yetB (md : Region.Mode) (ops : Array Oper) (j : Nat) (t : Tmp) : Bool := (List.range ops.size).all fun k => match ops[k]? with | some ok => ok.dst != some t || k == j || waitB md ok j | none => true
theorem Pre.old {j : Nat} {o : Oper} {a : Act} {w : World} (h : Pre md ops a0 S C j o a w) (t : Tmp) (hy : yetB md ops j t = true) : a.tmps[t]?.getD undef = a0.tmps[t]?.getD undef := by
 have := h.yet t fun k ok hk hd => by
  unfold yetB at hy
  rw [List.all_eq_true] at hy
  have h2 := hy k (List.mem_range.2 (Array.getElem?_eq_some_iff.1 hk).1)
  rw [hk] at h2
  simp only [hd, Bool.or_eq_true, beq_iff_eq] at h2
  rcases h2 with (h2 | h2) | h2
  ·simp at h2
  ·exact .inl h2
  ·exact .inr h2
 rw [this]
theorem sE {X : Value} : ∀ v (w w' : World), v = X → R w w' → v = X := fun _ _ _ h _ => h
theorem dB {P : Program} {l : List Oper} {Q : Exit → Act → World → Prop} {w : World} {a0 : Act} (ls : List (Value → World → Prop)) (hl : StableL (fun u v => Below u.heap.size u v) ls)
  (hstep : AllSteps P .any l.toArray a0 (nthS ls) (fun u v => Below u.heap.size u v) (fun w' => Below w.heap.size w w') 0 l)
  (hQ : ∀ g w', Below w.heap.size w w' → (∀ (k : Nat) (o : Oper) (d : Tmp), l[k]? = some o → o.dst = some d → nthS ls k (g k) w') → Q .normal (putAll l g 0 a0) w') (hok : dagB l a0.tmps.size = true := by kernel_rfl) : Every P l Q a0 w :=
 dag_every hok (stableL _ hl) (fun w1 w2 h1 h2 => h1.trans (h2.mono h1.size)) (fun w => Below.refl _ _) (Below.refl _ _) (Below.refl _ _).drew hstep hQ
end
end Go.Rg
namespace Go.Wd
open Go
def orZ (x y : Int) : Int := if x = 0 then y else x
end Go.Wd
namespace Go.Proofs.YthbplhglfjlngaaGreat
open Go.RowKit Go.Rg Go.Wd
attribute [local go_sem] Oper.semAt_some
theorem cmpOr_any (b : Nat) (x y : Int) (w : World) (h0 : w.cell? ⟨b, 0, none⟩ = some (.int .i64 x)) (h1 : w.cell? ⟨b, 1, none⟩ = some (.int .i64 y)) :
  Calls Tryz.prog 65 #[.slice (some ⟨b, 0, none⟩) 2 2] w fun e w' => e = .returned (.int .i64 (orZ x y)) ∧ Below w.heap.size w w' := by
 unfold orZ
 by_cases hx : x = 0
 ·subst hx
  rw [if_pos rfl]
  by_cases hy : y = 0
  ·subst hy
   go_enter Tryz.func65, Tryz.ntmps65
   go_wp2_with fail
   go_rounds 3
   go_ret
   exact ⟨rfl, Below.refl _ _⟩
  ·have e1 : (y != 0) = true := by simpa using hy
   have e2 : (y == 0) = false := by simpa using hy
   go_enter Tryz.func65, Tryz.ntmps65
   go_wp2_with fail
   go_rounds 2
   go_ret
   exact ⟨rfl, Below.refl _ _⟩
 ·rw [if_neg hx]
  have e1 : (x != 0) = true := by simpa using hx
  have e2 : (x == 0) = false := by simpa using hx
  go_enter Tryz.func65, Tryz.ntmps65
  go_wp2_with fail
  go_rounds 1
  go_ret
  exact ⟨rfl, Below.refl _ _⟩
end Go.Proofs.YthbplhglfjlngaaGreat
namespace Go.Proofs.YthbplhglfjlngaaGreat
open Go.RowKit Go.Rg Go.Wd
attribute [local go_sem] Oper.semAt_some
theorem compareI (x y : Int) (w : World) : Calls Tryz.prog 47 #[.int .i64 x, .int .i64 y] w fun e w' => e = .returned (.int .i64 (cmpI x y)) ∧ Below w.heap.size w w' :=
 compare_b x y _ (by unfold Lib.compareInt cmpI; split <;> (try split) <;> (try split) <;> omega) w
theorem ptCmp_any (a b c d : Int) (w : World) :
  Calls Tryz.prog 36 #[pV a b, pV c d] w fun e w' => e = .returned (.int .i64 (orZ (cmpI a c) (cmpI b d))) ∧ Below w.heap.size w w' := by
 obtain ⟨W0, hW0⟩ : ∃ W0, [.cells #[.int .i64 a, .int .i64 b] 23, .cells #[.int .i64 c, .int .i64 d] 23].foldl World.alloc w = W0 := ⟨_, rfl⟩
 have B0 : Blk W0 (w.heap.size) ([.int .i64 a, .int .i64 b]) 23 := Blk.allocs _ hW0 0 rfl
 have B1 : Blk W0 (w.heap.size + 1) ([.int .i64 c, .int .i64 d]) 23 := Blk.allocs _ hW0 1 rfl
 have HB := aB hW0
 have hsz : w.heap.size + 2 ≤ W0.heap.size := aZ hW0
 simp only [List.foldl_cons, List.foldl_nil] at hW0
 go_enter Tryz.func36, Tryz.ntmps36
 go_upto_region 1 with (fail)
 clear hW0
 refine cG ?_
 refine dag_every (S := nthS [(fun v _ => v = .pointer (some ⟨w.heap.size, 0, none⟩)), (fun v _ => v = .int .i64 a), (fun v _ => v = .pointer (some ⟨w.heap.size + 1, 0, none⟩)), (fun v _ => v = .int .i64 c), (fun v _ => v = .int .i64 (cmpI a c)), (fun v _ => v = .pointer (some ⟨w.heap.size, 1, none⟩)), (fun v _ => v = .int .i64 b), (fun v _ => v = .pointer (some ⟨w.heap.size + 1, 1, none⟩)), (fun v _ => v = .int .i64 d), (fun v _ => v = .int .i64 (cmpI b d)), (fun v w' => ∃ q, v = .slice (some ⟨q, 0, none⟩) 2 2 ∧ Blk w' q [.int .i64 (cmpI a c), .int .i64 (cmpI b d)] 3), (fun v _ => v = .int .i64 (orZ (cmpI a c) (cmpI b d))), (fun v _ => v = .int .i64 (orZ (cmpI a c) (cmpI b d)))]) (R := (fun u v => Below u.heap.size u v)) (C := (fun w' => Below W0.heap.size W0 w')) (by kernel_rfl) (stableL _ ⟨stable_eq, stable_eq, stable_eq, stable_eq, stable_eq, stable_eq, stable_eq, stable_eq, stable_eq, stable_eq, (fun v w w' ⟨q, e, h⟩ hr => ⟨q, e, h.call hr⟩), stable_eq, stable_eq, trivial⟩) ?hC ?hR ?hC0 ?hC1 ⟨?st0, ?st1, ?st2, ?st3, ?st4, ?st5, ?st6, ?st7, ?st8, ?st9, ?st10, ?st11, ?st12, trivial⟩ ?_
 case st0 =>
  intro fa wz hp
  refine .inl ⟨by rfl, ?_⟩
  have e2 : fa.tmps[2]?.getD undef = .pointer (some ⟨w.heap.size, 0, none⟩) := hp.old 2 (by kernel_rfl)
  have hb := hp.base
  exact dagUpon_val (by go_simp) (Below.refl _ _) rfl
 case st1 =>
  intro fa wz hp
  refine .inl ⟨by rfl, ?_⟩
  obtain ⟨v5, e5, hv5⟩ := hp.ev 0 _ 5 rfl rfl (by kernel_rfl)
  replace e5 : fa.tmps[5]?.getD undef = .pointer (some ⟨w.heap.size, 0, none⟩) := e5.trans hv5
  clear hv5
  have hb := hp.base
  obtain ⟨q0, q1⟩ := c2 (B0.below hb B0.lt)
  exact dagUpon_val (by go_simp) (Below.refl _ _) rfl
 case st2 =>
  intro fa wz hp
  refine .inl ⟨by rfl, ?_⟩
  have e3 : fa.tmps[3]?.getD undef = .pointer (some ⟨w.heap.size + 1, 0, none⟩) := hp.old 3 (by kernel_rfl)
  have hb := hp.base
  exact dagUpon_val (by go_simp) (Below.refl _ _) rfl
 case st3 =>
  intro fa wz hp
  refine .inl ⟨by rfl, ?_⟩
  obtain ⟨v7, e7, hv7⟩ := hp.ev 2 _ 7 rfl rfl (by kernel_rfl)
  replace e7 : fa.tmps[7]?.getD undef = .pointer (some ⟨w.heap.size + 1, 0, none⟩) := e7.trans hv7
  clear hv7
  have hb := hp.base
  obtain ⟨q0, q1⟩ := c2 (B1.below hb B1.lt)
  exact dagUpon_val (by go_simp) (Below.refl _ _) rfl
 case st4 =>
  intro fa wz hp
  refine .inl ⟨by rfl, ?_⟩
  obtain ⟨v6, e6, hv6⟩ := hp.ev 1 _ 6 rfl rfl (by kernel_rfl)
  replace e6 : fa.tmps[6]?.getD undef = .int .i64 a := e6.trans hv6
  clear hv6
  obtain ⟨v8, e8, hv8⟩ := hp.ev 3 _ 8 rfl rfl (by kernel_rfl)
  replace e8 : fa.tmps[8]?.getD undef = .int .i64 c := e8.trans hv8
  clear hv8
  have hb := hp.base
  exact dagUpon_call (by go_simp) ((compareI (a) (c) wz).mono fun e w'' ⟨he, hbb⟩ => ⟨_, he, hbb, rfl⟩)
 case st5 =>
  intro fa wz hp
  refine .inl ⟨by rfl, ?_⟩
  have e2 : fa.tmps[2]?.getD undef = .pointer (some ⟨w.heap.size, 0, none⟩) := hp.old 2 (by kernel_rfl)
  have hb := hp.base
  exact dagUpon_val (by go_simp) (Below.refl _ _) rfl
 case st6 =>
  intro fa wz hp
  refine .inl ⟨by rfl, ?_⟩
  obtain ⟨v10, e10, hv10⟩ := hp.ev 5 _ 10 rfl rfl (by kernel_rfl)
  replace e10 : fa.tmps[10]?.getD undef = .pointer (some ⟨w.heap.size, 1, none⟩) := e10.trans hv10
  clear hv10
  have hb := hp.base
  obtain ⟨q0, q1⟩ := c2 (B0.below hb B0.lt)
  exact dagUpon_val (by go_simp) (Below.refl _ _) rfl
 case st7 =>
  intro fa wz hp
  refine .inl ⟨by rfl, ?_⟩
  have e3 : fa.tmps[3]?.getD undef = .pointer (some ⟨w.heap.size + 1, 0, none⟩) := hp.old 3 (by kernel_rfl)
  have hb := hp.base
  exact dagUpon_val (by go_simp) (Below.refl _ _) rfl
 case st8 =>
  intro fa wz hp
  refine .inl ⟨by rfl, ?_⟩
  obtain ⟨v12, e12, hv12⟩ := hp.ev 7 _ 12 rfl rfl (by kernel_rfl)
  replace e12 : fa.tmps[12]?.getD undef = .pointer (some ⟨w.heap.size + 1, 1, none⟩) := e12.trans hv12
  clear hv12
  have hb := hp.base
  obtain ⟨q0, q1⟩ := c2 (B1.below hb B1.lt)
  exact dagUpon_val (by go_simp) (Below.refl _ _) rfl
 case st9 =>
  intro fa wz hp
  refine .inl ⟨by rfl, ?_⟩
  obtain ⟨v11, e11, hv11⟩ := hp.ev 6 _ 11 rfl rfl (by kernel_rfl)
  replace e11 : fa.tmps[11]?.getD undef = .int .i64 b := e11.trans hv11
  clear hv11
  obtain ⟨v13, e13, hv13⟩ := hp.ev 8 _ 13 rfl rfl (by kernel_rfl)
  replace e13 : fa.tmps[13]?.getD undef = .int .i64 d := e13.trans hv13
  clear hv13
  have hb := hp.base
  exact dagUpon_call (by go_simp) ((compareI (b) (d) wz).mono fun e w'' ⟨he, hbb⟩ => ⟨_, he, hbb, rfl⟩)
 case st10 =>
  intro fa wz hp
  refine .inl ⟨by rfl, ?_⟩
  obtain ⟨v9, e9, hv9⟩ := hp.ev 4 _ 9 rfl rfl (by kernel_rfl)
  replace e9 : fa.tmps[9]?.getD undef = .int .i64 (cmpI a c) := e9.trans hv9
  clear hv9
  obtain ⟨v14, e14, hv14⟩ := hp.ev 9 _ 14 rfl rfl (by kernel_rfl)
  replace e14 : fa.tmps[14]?.getD undef = .int .i64 (cmpI b d) := e14.trans hv14
  clear hv14
  have hb := hp.base
  exact dagUpon_new (w' := wz.alloc (.cells #[.int .i64 (cmpI a c), .int .i64 (cmpI b d)] 3)) (u := .slice (some ⟨wz.heap.size, 0, none⟩) 2 2) (by go_simp) ((Below.refl _ wz).alloc (Nat.le_refl _) _) ⟨_, rfl, Blk.new _ _ _⟩
 case st11 =>
  intro fa wz hp
  refine .inl ⟨by rfl, ?_⟩
  obtain ⟨v15, e15, hv15⟩ := hp.ev 10 _ 15 rfl rfl (by kernel_rfl)
  have hv15 := show (fun v w' => ∃ q, v = .slice (some ⟨q, 0, none⟩) 2 2 ∧ Blk w' q [.int .i64 (cmpI a c), .int .i64 (cmpI b d)] 3) v15 wz from hv15
  replace e15 : fa.tmps[15]?.getD undef = v15 := e15
  have hb := hp.base
  obtain ⟨q, rfl, hq⟩ := hv15
  exact dagUpon_call (by go_simp) ((cmpOr_any q (cmpI a c) (cmpI b d) wz (hq.cell (j := 0) rfl) (hq.cell (j := 1) rfl)).mono fun e w'' ⟨he, hbb⟩ => ⟨_, he, hbb, rfl⟩)
 case st12 =>
  intro fa wz hp
  refine .inl ⟨by rfl, ?_⟩
  obtain ⟨v16, e16, hv16⟩ := hp.ev 11 _ 16 rfl rfl (by kernel_rfl)
  replace e16 : fa.tmps[16]?.getD undef = .int .i64 (orZ (cmpI a c) (cmpI b d)) := e16.trans hv16
  clear hv16
  have hb := hp.base
  exact dagUpon_val (by go_simp) (Below.refl _ _) rfl
 case hC => exact fun w1 w2 h1 h2 => h1.trans (h2.mono h1.size)
 case hR => exact fun w => Below.refl _ _
 case hC0 => exact Below.refl _ _
 case hC1 => exact (Below.refl _ _).drew
 intro g w1 hb hg
 simp only [putAll, td]
 have h12 : g 12 = _ := hg 12 _ _ rfl rfl
 rw [h12]
 have HB := HB.trans (hb.mono HB.size)
 go_wp2_with fail
 go_ret
 exact ⟨rfl, HB⟩
theorem byRow_any (a b c d : Int) (w : World) :
  Calls Tryz.prog 39 #[pV a b, pV c d] w fun e w' => e = .returned (.int .i64 (orZ (cmpI b d) (cmpI a c))) ∧ Below w.heap.size w w' := by
 obtain ⟨W0, hW0⟩ : ∃ W0, [.cells #[.int .i64 a, .int .i64 b] 23, .cells #[.int .i64 c, .int .i64 d] 23].foldl World.alloc w = W0 := ⟨_, rfl⟩
 have B0 : Blk W0 (w.heap.size) ([.int .i64 a, .int .i64 b]) 23 := Blk.allocs _ hW0 0 rfl
 have B1 : Blk W0 (w.heap.size + 1) ([.int .i64 c, .int .i64 d]) 23 := Blk.allocs _ hW0 1 rfl
 have HB := aB hW0
 have hsz : w.heap.size + 2 ≤ W0.heap.size := aZ hW0
 simp only [List.foldl_cons, List.foldl_nil] at hW0
 go_enter Tryz.func39, Tryz.ntmps39
 go_upto_region 1 with (fail)
 clear hW0
 refine cG ?_
 refine dag_every (S := nthS [(fun v _ => v = .pointer (some ⟨w.heap.size, 1, none⟩)), (fun v _ => v = .int .i64 b), (fun v _ => v = .pointer (some ⟨w.heap.size + 1, 1, none⟩)), (fun v _ => v = .int .i64 d), (fun v _ => v = .int .i64 (cmpI b d)), (fun v _ => v = .pointer (some ⟨w.heap.size, 0, none⟩)), (fun v _ => v = .int .i64 a), (fun v _ => v = .pointer (some ⟨w.heap.size + 1, 0, none⟩)), (fun v _ => v = .int .i64 c), (fun v _ => v = .int .i64 (cmpI a c)), (fun v w' => ∃ q, v = .slice (some ⟨q, 0, none⟩) 2 2 ∧ Blk w' q [.int .i64 (cmpI b d), .int .i64 (cmpI a c)] 3), (fun v _ => v = .int .i64 (orZ (cmpI b d) (cmpI a c))), (fun v _ => v = .int .i64 (orZ (cmpI b d) (cmpI a c)))]) (R := (fun u v => Below u.heap.size u v)) (C := (fun w' => Below W0.heap.size W0 w')) (by kernel_rfl) (stableL _ ⟨stable_eq, stable_eq, stable_eq, stable_eq, stable_eq, stable_eq, stable_eq, stable_eq, stable_eq, stable_eq, (fun v w w' ⟨q, e, h⟩ hr => ⟨q, e, h.call hr⟩), stable_eq, stable_eq, trivial⟩) ?hC ?hR ?hC0 ?hC1 ⟨?st0, ?st1, ?st2, ?st3, ?st4, ?st5, ?st6, ?st7, ?st8, ?st9, ?st10, ?st11, ?st12, trivial⟩ ?_
 case st0 =>
  intro fa wz hp
  refine .inl ⟨by rfl, ?_⟩
  have e2 : fa.tmps[2]?.getD undef = .pointer (some ⟨w.heap.size, 0, none⟩) := hp.old 2 (by kernel_rfl)
  have hb := hp.base
  exact dagUpon_val (by go_simp) (Below.refl _ _) rfl
 case st1 =>
  intro fa wz hp
  refine .inl ⟨by rfl, ?_⟩
  obtain ⟨v5, e5, hv5⟩ := hp.ev 0 _ 5 rfl rfl (by kernel_rfl)
  replace e5 : fa.tmps[5]?.getD undef = .pointer (some ⟨w.heap.size, 1, none⟩) := e5.trans hv5
  clear hv5
  have hb := hp.base
  obtain ⟨q0, q1⟩ := c2 (B0.below hb B0.lt)
  exact dagUpon_val (by go_simp) (Below.refl _ _) rfl
 case st2 =>
  intro fa wz hp
  refine .inl ⟨by rfl, ?_⟩
  have e3 : fa.tmps[3]?.getD undef = .pointer (some ⟨w.heap.size + 1, 0, none⟩) := hp.old 3 (by kernel_rfl)
  have hb := hp.base
  exact dagUpon_val (by go_simp) (Below.refl _ _) rfl
 case st3 =>
  intro fa wz hp
  refine .inl ⟨by rfl, ?_⟩
  obtain ⟨v7, e7, hv7⟩ := hp.ev 2 _ 7 rfl rfl (by kernel_rfl)
  replace e7 : fa.tmps[7]?.getD undef = .pointer (some ⟨w.heap.size + 1, 1, none⟩) := e7.trans hv7
  clear hv7
  have hb := hp.base
  obtain ⟨q0, q1⟩ := c2 (B1.below hb B1.lt)
  exact dagUpon_val (by go_simp) (Below.refl _ _) rfl
 case st4 =>
  intro fa wz hp
  refine .inl ⟨by rfl, ?_⟩
  obtain ⟨v6, e6, hv6⟩ := hp.ev 1 _ 6 rfl rfl (by kernel_rfl)
  replace e6 : fa.tmps[6]?.getD undef = .int .i64 b := e6.trans hv6
  clear hv6
  obtain ⟨v8, e8, hv8⟩ := hp.ev 3 _ 8 rfl rfl (by kernel_rfl)
  replace e8 : fa.tmps[8]?.getD undef = .int .i64 d := e8.trans hv8
  clear hv8
  have hb := hp.base
  exact dagUpon_call (by go_simp) ((compareI (b) (d) wz).mono fun e w'' ⟨he, hbb⟩ => ⟨_, he, hbb, rfl⟩)
 case st5 =>
  intro fa wz hp
  refine .inl ⟨by rfl, ?_⟩
  have e2 : fa.tmps[2]?.getD undef = .pointer (some ⟨w.heap.size, 0, none⟩) := hp.old 2 (by kernel_rfl)
  have hb := hp.base
  exact dagUpon_val (by go_simp) (Below.refl _ _) rfl
 case st6 =>
  intro fa wz hp
  refine .inl ⟨by rfl, ?_⟩
  obtain ⟨v10, e10, hv10⟩ := hp.ev 5 _ 10 rfl rfl (by kernel_rfl)
  replace e10 : fa.tmps[10]?.getD undef = .pointer (some ⟨w.heap.size, 0, none⟩) := e10.trans hv10
  clear hv10
  have hb := hp.base
  obtain ⟨q0, q1⟩ := c2 (B0.below hb B0.lt)
  exact dagUpon_val (by go_simp) (Below.refl _ _) rfl
 case st7 =>
  intro fa wz hp
  refine .inl ⟨by rfl, ?_⟩
  have e3 : fa.tmps[3]?.getD undef = .pointer (some ⟨w.heap.size + 1, 0, none⟩) := hp.old 3 (by kernel_rfl)
  have hb := hp.base
  exact dagUpon_val (by go_simp) (Below.refl _ _) rfl
 case st8 =>
  intro fa wz hp
  refine .inl ⟨by rfl, ?_⟩
  obtain ⟨v12, e12, hv12⟩ := hp.ev 7 _ 12 rfl rfl (by kernel_rfl)
  replace e12 : fa.tmps[12]?.getD undef = .pointer (some ⟨w.heap.size + 1, 0, none⟩) := e12.trans hv12
  clear hv12
  have hb := hp.base
  obtain ⟨q0, q1⟩ := c2 (B1.below hb B1.lt)
  exact dagUpon_val (by go_simp) (Below.refl _ _) rfl
 case st9 =>
  intro fa wz hp
  refine .inl ⟨by rfl, ?_⟩
  obtain ⟨v11, e11, hv11⟩ := hp.ev 6 _ 11 rfl rfl (by kernel_rfl)
  replace e11 : fa.tmps[11]?.getD undef = .int .i64 a := e11.trans hv11
  clear hv11
  obtain ⟨v13, e13, hv13⟩ := hp.ev 8 _ 13 rfl rfl (by kernel_rfl)
  replace e13 : fa.tmps[13]?.getD undef = .int .i64 c := e13.trans hv13
  clear hv13
  have hb := hp.base
  exact dagUpon_call (by go_simp) ((compareI (a) (c) wz).mono fun e w'' ⟨he, hbb⟩ => ⟨_, he, hbb, rfl⟩)
 case st10 =>
  intro fa wz hp
  refine .inl ⟨by rfl, ?_⟩
  obtain ⟨v9, e9, hv9⟩ := hp.ev 4 _ 9 rfl rfl (by kernel_rfl)
  replace e9 : fa.tmps[9]?.getD undef = .int .i64 (cmpI b d) := e9.trans hv9
  clear hv9
  obtain ⟨v14, e14, hv14⟩ := hp.ev 9 _ 14 rfl rfl (by kernel_rfl)
  replace e14 : fa.tmps[14]?.getD undef = .int .i64 (cmpI a c) := e14.trans hv14
  clear hv14
  have hb := hp.base
  exact dagUpon_new (w' := wz.alloc (.cells #[.int .i64 (cmpI b d), .int .i64 (cmpI a c)] 3)) (u := .slice (some ⟨wz.heap.size, 0, none⟩) 2 2) (by go_simp) ((Below.refl _ wz).alloc (Nat.le_refl _) _) ⟨_, rfl, Blk.new _ _ _⟩
 case st11 =>
  intro fa wz hp
  refine .inl ⟨by rfl, ?_⟩
  obtain ⟨v15, e15, hv15⟩ := hp.ev 10 _ 15 rfl rfl (by kernel_rfl)
  have hv15 := show (fun v w' => ∃ q, v = .slice (some ⟨q, 0, none⟩) 2 2 ∧ Blk w' q [.int .i64 (cmpI b d), .int .i64 (cmpI a c)] 3) v15 wz from hv15
  replace e15 : fa.tmps[15]?.getD undef = v15 := e15
  have hb := hp.base
  obtain ⟨q, rfl, hq⟩ := hv15
  exact dagUpon_call (by go_simp) ((cmpOr_any q (cmpI b d) (cmpI a c) wz (hq.cell (j := 0) rfl) (hq.cell (j := 1) rfl)).mono fun e w'' ⟨he, hbb⟩ => ⟨_, he, hbb, rfl⟩)
 case st12 =>
  intro fa wz hp
  refine .inl ⟨by rfl, ?_⟩
  obtain ⟨v16, e16, hv16⟩ := hp.ev 11 _ 16 rfl rfl (by kernel_rfl)
  replace e16 : fa.tmps[16]?.getD undef = .int .i64 (orZ (cmpI b d) (cmpI a c)) := e16.trans hv16
  clear hv16
  have hb := hp.base
  exact dagUpon_val (by go_simp) (Below.refl _ _) rfl
 case hC => exact fun w1 w2 h1 h2 => h1.trans (h2.mono h1.size)
 case hR => exact fun w => Below.refl _ _
 case hC0 => exact Below.refl _ _
 case hC1 => exact (Below.refl _ _).drew
 intro g w1 hb hg
 simp only [putAll, td]
 have h12 : g 12 = _ := hg 12 _ _ rfl rfl
 rw [h12]
 have HB := HB.trans (hb.mono HB.size)
 go_wp2_with fail
 go_ret
 exact ⟨rfl, HB⟩
end Go.Proofs.YthbplhglfjlngaaGreat
namespace Go.Rg
open Go Go.RowKit
def SlC (w : World) (v : Value) (sz : Nat) (es : List (List Value)) : Prop :=
 ∃ a c, v = .slice a es.length c ∧ es.length ≤ c ∧ c ≤ maxLen ∧ (∀ e ∈ es, e.length = sz) ∧
  (es ≠ [] → ∃ g off, a = some ⟨g, off, none⟩ ∧ g < w.heap.size ∧ ∀ i e, es[i]? = some e → w.rangeAt g (off + i * sz) e)
theorem rangeAt_below {w w' : World} {b o : Nat} {cs : List Value} (h : w.rangeAt b o cs) (hb : Below w.heap.size w w') (hlt : b < w.heap.size) : w'.rangeAt b o cs :=
 fun j v hj => (hb.cell (p := ⟨b, o + j, none⟩) hlt).trans (h j v hj)
theorem SlC.call {w w' : World} {v : Value} {sz : Nat} {es : List (List Value)} (h : SlC w v sz es) (hb : Below w.heap.size w w') : SlC w' v sz es := by
 obtain ⟨a, c, e, h1, h2, h3, ho⟩ := h
 refine ⟨a, c, e, h1, h2, h3, fun hx => ?_⟩
 obtain ⟨g, off, e1, e2, e3⟩ := ho hx
 exact ⟨g, off, e1, Nat.lt_of_lt_of_le e2 hb.size, fun i x hi => rangeAt_below (e3 i x hi) hb e2⟩
theorem SlC.stay {w w' : World} {v : Value} {sz : Nat} {es : List (List Value)} (h : SlC w v sz es) (hb : Stay [] w w') : SlC w' v sz es := h.call hb.all
theorem SlC.nil (w : World) (sz : Nat) : SlC w (.slice none 0 0) sz [] := ⟨none, 0, rfl, Nat.le_refl _, Nat.zero_le _, by simp, fun h => absurd rfl h⟩
theorem SlC.len {w : World} {v : Value} {sz : Nat} {es : List (List Value)} (h : SlC w v sz es) : es.length ≤ maxLen := by
 obtain ⟨a, c, e, h1, h2, h3, ho⟩ := h
 exact Nat.le_trans h1 h2
theorem SlC.sub {w : World} {a : Option Addr} {n c sz : Nat} {es : List (List Value)} (h : SlC w (.slice a n c) sz es) (k m : Nat) (hkm : k ≤ m) (hm : m ≤ es.length) :
  SlC w (.slice (if c = k then a else a.map (·.add (k * sz))) (m - k) (c - k)) sz ((es.take m).drop k) := by
 obtain ⟨a', c', e, h1, h2, h3, ho⟩ := h
 injection e with e1 e2 e3
 subst e1 e3
 have hl : ((es.take m).drop k).length = m - k := by simp; omega
 refine ⟨_, c - k, by rw [hl], by rw [hl]; omega, by omega, fun x hx => h3 x (List.mem_of_mem_take (List.mem_of_mem_drop hx)), fun hx => ?_⟩
 have hpos : 0 < ((es.take m).drop k).length := List.length_pos_iff.2 hx
 rw [hl] at hpos
 have hne : es ≠ [] := fun h => by rw [h] at hm; simp at hm; omega
 obtain ⟨g, off, e1, e2, e3⟩ := ho hne
 subst e1
 have hck : ¬ c = k := by omega
 rw [if_neg hck]
 have hadd : (⟨g, off, none⟩ : Addr).add (k * sz) = ⟨g, off + k * sz, none⟩ := by unfold Addr.add; split <;> simp_all
 refine ⟨g, off + k * sz, by simp [hadd], e2, fun i x hi => ?_⟩
 have : es[k + i]? = some x := by
  rw [List.getElem?_drop, List.getElem?_take] at hi
  split at hi
  ·exact hi
  ·cases hi
 have := e3 (k + i) x this
 rwa [Nat.add_mul, ← Nat.add_assoc] at this
theorem SlC.elem {w : World} {a : Option Addr} {n c sz : Nat} {es : List (List Value)} (h : SlC w (.slice a n c) sz es) {i : Nat} {e : List Value} (hi : es[i]? = some e) :
  ∃ g off, a = some ⟨g, off, none⟩ ∧ g < w.heap.size ∧ w.rangeAt g (off + i * sz) e ∧ e.length = sz := by
 obtain ⟨a', c', e', h1, h2, h3, ho⟩ := h
 injection e' with e1 e2 e3
 subst e1
 have hne : es ≠ [] := fun h => by rw [h] at hi; cases hi
 obtain ⟨g, off, f1, f2, f3⟩ := ho hne
 exact ⟨g, off, f1, f2, f3 i e hi, h3 e (List.mem_of_getElem? hi)⟩
theorem SlC.form {w : World} {v : Value} {sz : Nat} {es : List (List Value)} (h : SlC w v sz es) : ∃ a c, v = .slice a es.length c ∧ es.length ≤ c ∧ c ≤ maxLen := by
 obtain ⟨a, c, e, h1, h2, _⟩ := h
 exact ⟨a, c, e, h1, h2⟩
theorem flat_at (es : List (List Value)) (sz : Nat) (h : ∀ e ∈ es, e.length = sz) {i : Nat} {e : List Value} (hi : es[i]? = some e) {j : Nat} {v : Value} (hj : e[j]? = some v) : es.flatten[i * sz + j]? = some v := by
 induction es generalizing i with
 | nil => cases hi
 | cons x es ih =>
  have hx := h x (List.mem_cons_self ..)
  rw [List.flatten_cons]
  cases i with
  | zero =>
   simp only [List.getElem?_cons_zero, Option.some.injEq] at hi
   subst hi
   have := (List.getElem?_eq_some_iff.1 hj).1
   rw [Nat.zero_mul, Nat.zero_add, List.getElem?_append_left this]; exact hj
  | succ i =>
   have := ih (fun y hy => h y (List.mem_cons_of_mem _ hy)) (i := i) (by simpa using hi)
   rw [List.getElem?_append_right (by rw [Nat.add_mul]; omega), show (i + 1) * sz + j - x.length = i * sz + j by rw [Nat.add_mul, hx]; omega]
   exact this
theorem flat_len (es : List (List Value)) (sz : Nat) (h : ∀ e ∈ es, e.length = sz) : es.flatten.length = es.length * sz := by
 induction es with
 | nil => simp
 | cons x es ih =>
  rw [List.flatten_cons, List.length_append, ih (fun y hy => h y (List.mem_cons_of_mem _ hy)), h x (List.mem_cons_self ..), List.length_cons, Nat.add_mul]; omega
theorem SlC.of_own {w : World} {base t sz : Nat} {v : Value} {es : List (List Value)} (h : w.ownsRow base t sz v es.length es.flatten) (hs : ∀ e ∈ es, e.length = sz) : SlC w v sz es := by
 have hr := Reads.of_own h
 rcases hr with ⟨e, h0, _⟩ | ⟨g, off, cap, e, hlt, hn, hc, hcell⟩
 ·have : es = [] := List.eq_nil_of_length_eq_zero h0
  subst this
  rw [e]; exact SlC.nil w sz
 ·exact ⟨_, cap, e, hn, hc, hs, fun _ => ⟨g, off, rfl, hlt, fun i x hi j u hj => by
   have := hcell _ u (flat_at es sz hs hi hj)
   rwa [← Nat.add_assoc] at this⟩⟩
theorem SlC.reads {w : World} {v : Value} {sz : Nat} {es : List (List Value)} (h : SlC w v sz es) (hne : es ≠ []) : Reads w w.heap.size v es.length es.flatten := by
 obtain ⟨a, c, e, h1, h2, h3, ho⟩ := h
 obtain ⟨g, off, e1, e2, e3⟩ := ho hne
 subst e1
 refine .inr ⟨g, off, c, e, e2, h1, h2, fun j x hj => ?_⟩
 have hlen := flat_len es sz h3
 have hj2 := (List.getElem?_eq_some_iff.1 hj).1
 rw [hlen] at hj2
 have hsz : 0 < sz := Nat.pos_of_ne_zero fun h0 => by rw [h0] at hj2; omega
 have hi : j / sz < es.length := (Nat.div_lt_iff_lt_mul hsz).2 hj2
 have hx := List.getElem?_eq_getElem hi
 have hxl : (es[j / sz]).length = sz := h3 _ (List.getElem_mem hi)
 have hm : j % sz < (es[j / sz]).length := by rw [hxl]; exact Nat.mod_lt _ hsz
 have hv := List.getElem?_eq_getElem hm
 have hf := flat_at es sz h3 hx hv
 have hdm : j / sz * sz + j % sz = j := by rw [Nat.mul_comm]; exact Nat.div_add_mod j sz
 rw [hdm, hj] at hf
 have := e3 _ _ hx _ _ hv
 rw [show off + j / sz * sz + j % sz = off + j by omega] at this
 cases hf
 exact this
end Go.Rg
namespace Go.Rg
open Go Go.RowKit
section
variable {P : Program} {o : Oper} {a : Act} {w : World} {T E : TypeId}
theorem addr_add (g off n : Nat) : (⟨g, off, none⟩ : Addr).add n = ⟨g, off + n, none⟩ := by unfold Addr.add; split <;> simp_all
theorem x_index {x ix : Operand} {g off n c i sz : Nat} {k : IntKind} (ho : o.op = .indexAddr T x ix) (hx : a.eval x = .slice (some ⟨g, off, none⟩) n c) (hi : a.eval ix = .int k (i : Int)) (hlt : i < n) (hu : P.underlying T = some (.slice E)) (hs : (P.info? E).map (·.size) = some sz) :
  (execOp a.eval o).run P w = .ok (.value (.pointer (some ⟨g, off + i * sz, none⟩))) w := by
 cases hq : P.info? E with
 | none => simp [hq] at hs
 | some ie =>
  simp [hq] at hs
  have hb : (0 : Int) ≤ (i : Int) ∧ (i : Int) < (n : Int) := by omega
  unfold execOp
  simp only [ho, hx, hi]
  simp [Instr.indexAt, asIntOf, run_underlying hu, hb, sizeOf, typeInfo, hq, hs, addr_add, hlt]
theorem x_row {x : Operand} {g off : Nat} {cs : List Value} {d : TypeDesc} (ho : o.op = .load T x) (hx : a.eval x = .pointer (some ⟨g, off, none⟩)) (hc : w.rangeAt g off cs) (hu : P.underlying T = some d) (hd : d.isRow = true) (hi : (P.info? T).map (·.size) = some cs.length) :
  (execOp a.eval o).run P w = .ok (.value (.agg cs.toArray)) w := by
 unfold execOp
 simp only [ho, hx, Instr.loadAt, Instr.sureAddr, Sem.run_bind, Sem.run_pure, Result.andThen_ok, run_loadVar_mid w g off T cs d hc hu hd hi]
theorem x_cell {x : Operand} {g off : Nat} {v : Value} (ho : o.op = .load T x) (hx : a.eval x = .pointer (some ⟨g, off, none⟩)) (hc : w.cell? ⟨g, off, none⟩ = some v) (hu : (isAgg T).run P w = .ok false w) :
  (execOp a.eval o).run P w = .ok (.value v) w := by
 have hl : (load ⟨g, off, none⟩).run P w = .ok v w := by simp [hc]
 unfold execOp
 simp only [ho, hx, Instr.loadAt, Instr.sureAddr, Sem.run_bind, Sem.run_pure, Result.andThen_ok, loadVar, hu]
 simp [hl]
theorem x_tail {x lo : Operand} {ad : Option Addr} {n c k sz : Nat} {kl : IntKind} (ho : o.op = .slice T x (some lo) none none) (hx : a.eval x = .slice ad n c) (hlo : a.eval lo = .int kl (k : Int)) (hk : k ≤ n) (hu : P.underlying T = some (.slice E)) (hs : (P.info? E).map (·.size) = some sz) :
  (execOp a.eval o).run P w = .ok (.value (.slice (if c = k then ad else ad.map (·.add (k * sz))) (n - k) (c - k))) w := by
 cases hq : P.info? E with
 | none => simp [hq] at hs
 | some ie =>
  simp [hq] at hs
  have hb : (0 : Int) ≤ (k : Int) ∧ (k : Int) ≤ (n : Int) := by omega
  unfold execOp
  simp only [ho, hx, hlo]
  have r1 := fun w => run_sliceBound (P := P) (w := w) kl (k : Int) n .sliceB hb.1 (by omega)
  simp [Instr.sliceAt, Instr.slice, Instr.sliceBounds, run_underlying hu, sizeOf, typeInfo, hq, hs, hlo, r1]
theorem x_sub {x lo hi : Operand} {ad : Option Addr} {n c k m sz : Nat} {kl kh : IntKind} (ho : o.op = .slice T x (some lo) (some hi) none) (hx : a.eval x = .slice ad n c) (hlo : a.eval lo = .int kl (k : Int)) (hhi : a.eval hi = .int kh (m : Int)) (hk : k ≤ m) (hm : m ≤ c) (hu : P.underlying T = some (.slice E)) (hs : (P.info? E).map (·.size) = some sz) :
  (execOp a.eval o).run P w = .ok (.value (.slice (if c = k then ad else ad.map (·.add (k * sz))) (m - k) (c - k))) w := by
 cases hq : P.info? E with
 | none => simp [hq] at hs
 | some ie =>
  simp [hq] at hs
  have hb : (0 : Int) ≤ (k : Int) ∧ (k : Int) ≤ (m : Int) := by omega
  have hb2 : (0 : Int) ≤ (m : Int) ∧ (m : Int) ≤ (c : Int) := by omega
  unfold execOp
  simp only [ho, hx, hlo, hhi]
  have r1 := fun w => run_sliceBound (P := P) (w := w) kl (k : Int) m .sliceB hb.1 (by omega)
  have r2 := fun w => run_sliceBound (P := P) (w := w) kh (m : Int) c .sliceAcap hb2.1 (by omega)
  simp [Instr.sliceAt, Instr.slice, Instr.sliceBounds, run_underlying hu, sizeOf, typeInfo, hq, hs, hlo, hhi, r1, r2]
end
end Go.Rg
namespace Go.Proofs.YthbplhglfjlngaaGreat
open Go.RowKit Go.Rg Go.Wd
attribute [local go_sem] Oper.semAt_some
def intE (ks : List Int) : List (List Value) := ks.map fun x => [.int .i64 x]
theorem intE_at {ks : List Int} {i : Nat} {x : Int} (h : ks[i]? = some x) : (intE ks)[i]? = some [.int .i64 x] := by unfold intE; rw [List.getElem?_map, h]; rfl
theorem cell_of_range {w : World} {g o : Nat} {v : Value} (h : w.rangeAt g o [v]) : w.cell? ⟨g, o, none⟩ = some v := by have := h 0 v rfl; simpa using this
theorem agg_int (w : World) : (isAgg 3).run Tryz.prog w = .ok false w := Tryz.isAgg3 w
theorem size_int : (Tryz.prog.info? 3).map (·.size) = some 1 := by kernel_rfl
theorem cmpI_lt' {x y : Int} : cmpI x y < 0 ↔ x < y := by unfold cmpI; split <;> (try split) <;> omega
def foundB (ks : List Int) (k : Int) : Bool := match ks[lowB ks k]? with | some y => decide (y = k) | none => false
set_option maxHeartbeats 1000000 in
theorem findInt_any (v : Value) (ks : List Int) (k : Int) (w : World) (hv : SlC w v 1 (intE ks)) (hr : Rising ks) :
  Calls Tryz.prog 46 #[v, .int .i64 k, .func (.func 47) #[] #[]] w fun e w' => e = .returned (.tuple #[.int .i64 (lowB ks k : Int), .bool (foundB ks k)]) ∧ Below w.heap.size w w' := by
 obtain ⟨a, c, e, hn, hcm⟩ := hv.form
 have hlen : (intE ks).length = ks.length := by unfold intE; simp
 rw [hlen] at e hn
 subst e
 unfold maxLen at hcm
 obtain ⟨n, Hn⟩ : ∃ n, Hid (n = ks.length) := ⟨_, hH rfl⟩
 rw [← Hn.out] at hv hn ⊢
 have HV := hH hv
 have HR := hH hr
 obtain ⟨Lw, HL⟩ : ∃ l, Hid (l = lowB ks k) := ⟨_, hH rfl⟩
 have hL : Lw ≤ n := by rw [HL.out, Hn.out]; exact lowB_le ks k
 obtain ⟨fb, HFB⟩ : ∃ f, Hid (f = foundB ks k) := ⟨_, hH rfl⟩
 rw [← HL.out, ← HFB.out]
 clear hv hr hlen
 go_enter Tryz.func46, Tryz.ntmps46
 go_wp2_with fail
 go_loopg [8, 9] n (fun q s8 s9 wx => ∃ lo hi : Nat, lo ≤ Lw ∧ Lw ≤ hi ∧ hi ≤ n ∧ hi ≤ q + lo ∧ s8 = .int .i64 (lo : Int) ∧ s9 = .int .i64 (hi : Int) ∧ Hid (Below w.heap.size w wx))
 case atStart => exact ⟨0, n, by omega, hL, Nat.le_refl _, by omega, rfl, rfl, Below.refl _ _⟩
 case round =>
  obtain ⟨lo, hi, h1, h2, h3, h4, rfl, rfl, HBh⟩ := hrel
  have HB := HBh.out
  have hsz := HB.size
  have HV2 := hH (HV.out.call HB)
  clear HBh
  by_cases hlt : lo < hi
  ·cases gk with
   | zero => omega
   | succ q =>
    obtain ⟨hf, Hf⟩ : ∃ h, Hid (h = (hi - lo) / 2) := ⟨_, hH rfl⟩
    have hf2 : hf < hi - lo := by rw [Hf.out]; omega
    obtain ⟨mid, Hmid⟩ : ∃ m, Hid (m = lo + hf) := ⟨_, hH rfl⟩
    have t0 : (lo : Int) < (hi : Int) := by omega
    have t1 : ((hi : Int) - (lo : Int)) / 2 = (hf : Int) := by rw [Hf.out]; omega
    have t2 : ((hi : Int) - (lo : Int)).tdiv 2 = (hf : Int) := by rw [Int.tdiv_eq_ediv_of_nonneg (by omega)]; exact t1
    have t3 : (lo : Int) + (hf : Int) = (mid : Int) := by rw [Hmid.out]; omega
    have hm1 : mid < hi := by rw [Hmid.out]; omega
    have hm2 : lo ≤ mid := by rw [Hmid.out]; omega
    obtain ⟨x, hx⟩ : ∃ x, ks[mid]? = some x := ⟨_, List.getElem?_eq_getElem (by rw [← Hn.out]; omega)⟩
    obtain ⟨g, off, rfl, hgl, hrg, _⟩ := HV2.out.elem (intE_at hx)
    have hcm2 := lowB_lt ks k HR.out mid x hx
    rw [← HL.out] at hcm2
    by_cases hxk : x < k
    ·have HC := hH (hcm2.1 hxk)
     have i0 : cmpI x k < 0 := cmpI_lt'.2 hxk
     have d0 : decide (cmpI x k < 0) = true := by simpa using i0
     clear hcm2 hx hxk
     go_upto_region 4 with (fail)
     refine cP ?_
     refine cN ?_
     refine cW ?_ ?_ ?_
     refine cW ?_ ?_ ?_
     refine cW ?_ ?_ ?_
     refine cX (.pointer (some ⟨g, off + mid * 1, none⟩)) ?_ (by intro wz hSw; exact x_index (E := 3) (sz := 1) rfl (by rfl) (by rfl) (by omega) Tryz.underlying73 size_int) ?_
     refine cX (.int .i64 x) ?_ (by intro wz hSw; exact x_cell rfl (by rfl) (cell_of_range (rangeAt_below hrg (Stay.all hSw.1) hgl)) (agg_int _)) ?_
     refine cW ?_ ?_ ?_
     refine cC ?_ ?_ ?_ ?_ ?hc1_6 ?_
     case hc1_6 => (intro w hSw; exact compareI x k w)
     refine cW ?_ ?_ ?_
     refine calm_end ?_
     intro w1 hS
     have hS := sO hS
     have hz1 : wr.heap.size ≤ w1.heap.size := hS.size
     have HB := gS HB hS
     clear hS
     go_wp2_with fail
     go_roundg q
     case measure => omega
     case rel => exact ⟨mid + 1, hi, by have := HC.out; omega, h2, h3, by omega, by go_num, rfl, HB⟩
    ·have HC := hH (show Lw ≤ mid from Nat.le_of_not_lt fun h => hxk (hcm2.2 h))
     have i0 : ¬ cmpI x k < 0 := fun h => hxk (cmpI_lt'.1 h)
     have d0 : decide (cmpI x k < 0) = false := by simpa using i0
     clear hcm2 hx hxk
     go_upto_region 4 with (fail)
     refine cP ?_
     refine cN ?_
     refine cW ?_ ?_ ?_
     refine cW ?_ ?_ ?_
     refine cW ?_ ?_ ?_
     refine cX (.pointer (some ⟨g, off + mid * 1, none⟩)) ?_ (by intro wz hSw; exact x_index (E := 3) (sz := 1) rfl (by rfl) (by rfl) (by omega) Tryz.underlying73 size_int) ?_
     refine cX (.int .i64 x) ?_ (by intro wz hSw; exact x_cell rfl (by rfl) (cell_of_range (rangeAt_below hrg (Stay.all hSw.1) hgl)) (agg_int _)) ?_
     refine cW ?_ ?_ ?_
     refine cC ?_ ?_ ?_ ?_ ?hc4_6 ?_
     case hc4_6 => (intro w hSw; exact compareI x k w)
     refine cW ?_ ?_ ?_
     refine calm_end ?_
     intro w1 hS
     have hS := sO hS
     have hz1 : wr.heap.size ≤ w1.heap.size := hS.size
     have HB := gS HB hS
     clear hS
     go_wp2_with fail
     go_roundg q
     case measure => omega
     case rel => exact ⟨lo, mid, h1, by have := HC.out; omega, by omega, by omega, rfl, rfl, HB⟩
  ·have hlo : lo = Lw := by omega
   have t0 : ¬ (lo : Int) < (hi : Int) := by omega
   by_cases hln : lo < n
   ·have t5 : decide ((lo : Int) < (n : Int)) = true := by simp; omega
    obtain ⟨x, hx⟩ : ∃ x, ks[lo]? = some x := ⟨_, List.getElem?_eq_getElem (by rw [← Hn.out]; omega)⟩
    obtain ⟨g, off, rfl, hgl, hrg, _⟩ := HV2.out.elem (intE_at hx)
    have HF : Hid (foundB ks k = (cmpI x k == 0)) := hH (by
     unfold foundB; rw [← HL.out, ← hlo, hx]
     unfold cmpI
     by_cases e1 : x < k
     ·simp [e1]; omega
     ·by_cases e2 : x = k
      ·simp [e2]
      ·simp [e1, e2])
    have Hlo := hH hlo
    clear hx hlo
    go_upto_region 7 with (fail)
    refine cP ?_
    refine cN ?_
    refine cW ?_ ?_ ?_
    refine cW ?_ ?_ ?_
    refine cW ?_ ?_ ?_
    refine cW ?_ ?_ ?_
    refine cW ?_ ?_ ?_
    refine cW ?_ ?_ ?_
    refine cW ?_ ?_ ?_
    refine cW ?_ ?_ ?_
    refine cW ?_ ?_ ?_
    refine cX (.pointer (some ⟨g, off + lo * 1, none⟩)) ?_ (by intro wz hSw; exact x_index (E := 3) (sz := 1) rfl (by rfl) (by rfl) (by omega) Tryz.underlying73 size_int) ?_
    refine cX (.int .i64 x) ?_ (by intro wz hSw; exact x_cell rfl (by rfl) (cell_of_range (rangeAt_below hrg (Stay.all hSw.1) hgl)) (agg_int _)) ?_
    refine cW ?_ ?_ ?_
    refine cC ?_ ?_ ?_ ?_ ?hc2_12 ?_
    case hc2_12 => (intro w hSw; exact compareI x k w)
    refine cW ?_ ?_ ?_
    refine cW ?_ ?_ ?_
    refine cW ?_ ?_ ?_
    refine cW ?_ ?_ ?_
    refine calm_end ?_
    intro w1 hS
    have hS := sO hS
    have hz1 : wr.heap.size ≤ w1.heap.size := hS.size
    have HB := gS HB hS
    clear hS
    go_wp2_with fail
    go_ret2
    exact ⟨by rw [HFB.out, HF.out, ← Hlo.out]; rfl, HB⟩
   ·have t5 : decide ((lo : Int) < (n : Int)) = false := by simp; omega
    have HF : Hid (foundB ks k = false) := hH (by
     unfold foundB; rw [← HL.out, ← hlo, List.getElem?_eq_none (by rw [← Hn.out]; omega)])
    have Hlo := hH hlo
    clear hlo
    go_upto_region 7 with (fail)
    refine cP ?_
    refine cN ?_
    refine cW ?_ ?_ ?_
    refine cW ?_ ?_ ?_
    refine cW ?_ ?_ ?_
    refine cW ?_ ?_ ?_
    refine cW ?_ ?_ ?_
    refine cW ?_ ?_ ?_
    refine cS ?_ ?_
    refine cS ?_ ?_
    refine cS ?_ ?_
    refine cS ?_ ?_
    refine cS ?_ ?_
    refine cS ?_ ?_
    refine cS ?_ ?_
    refine cS ?_ ?_
    refine cW ?_ ?_ ?_
    refine cW ?_ ?_ ?_
    refine cW ?_ ?_ ?_
    refine calm_end ?_
    intro w1 hS
    have hS := sO hS
    have hz1 : wr.heap.size ≤ w1.heap.size := hS.size
    have HB := gS HB hS
    clear hS
    go_wp2_with fail
    go_ret2
    exact ⟨by rw [HFB.out, HF.out, ← Hlo.out]; rfl, HB⟩
end Go.Proofs.YthbplhglfjlngaaGreat
namespace Go.Wd
open Go
def badAt : List (Int × Int) → Nat → Int
 | [], _ => -1
 | p :: r, i => if ptB p.1 p.2 then badAt r (i + 1) else (i : Int)
theorem badAt_drop {ps : List (Int × Int)} {i : Nat} {p : Int × Int} (h : ps[i]? = some p) : badAt (ps.drop i) i = if ptB p.1 p.2 then badAt (ps.drop (i + 1)) (i + 1) else (i : Int) := by
 have hl := (List.getElem?_eq_some_iff.1 h).1
 have : ps.drop i = p :: ps.drop (i + 1) := by
  rw [List.drop_eq_getElem_cons hl]; congr 1; exact (List.getElem?_eq_some_iff.1 h).2
 rw [this]; rfl
theorem badAt_iff (ps : List (Int × Int)) : ∀ i, (0 ≤ badAt ps i) ↔ ∃ p ∈ ps, ptB p.1 p.2 = false := by
 induction ps with
 | nil => intro i; unfold badAt; simp
 | cons p r ih =>
  intro i; unfold badAt
  cases h : ptB p.1 p.2 with
  | true => rw [if_pos rfl, ih]; simp [h]
  | false => simp [h] <;> omega
end Go.Wd
namespace Go.Proofs.YthbplhglfjlngaaGreat
open Go.RowKit Go.Rg Go.Wd
attribute [local go_sem] Oper.semAt_some
def ptE (ps : List (Int × Int)) : List (List Value) := ps.map fun p => [.int .i64 p.1, .int .i64 p.2]
theorem ptE_at {ps : List (Int × Int)} {i : Nat} {p : Int × Int} (h : ps[i]? = some p) : (ptE ps)[i]? = some [.int .i64 p.1, .int .i64 p.2] := by unfold ptE; rw [List.getElem?_map, h]; rfl
theorem new1_any (x y : Int) (r : Bool) (h : ptB x y = r) (w : World) :
  Calls Tryz.prog 34 #[pV x y] w fun e w' => e = .returned (.bool (!r)) ∧ Below w.heap.size w w' := by
 have H := hH h
 clear h
 obtain ⟨W0, hW0⟩ : ∃ W0, [.cells #[.int .i64 x, .int .i64 y] 23].foldl World.alloc w = W0 := ⟨_, rfl⟩
 have B0 : Blk W0 (w.heap.size) ([.int .i64 x, .int .i64 y]) 23 := Blk.allocs _ hW0 0 rfl
 have HB := aB hW0
 have hsz : w.heap.size + 1 ≤ W0.heap.size := aZ hW0
 simp only [List.foldl_cons, List.foldl_nil] at hW0
 go_enter Tryz.func34, Tryz.ntmps34
 go_upto_region 1 with (fail)
 clear hW0
 refine cP ?_
 refine cN ?_
 refine cX ?_ ?_ (by intro wz hSw; obtain ⟨q0, q1⟩ := c2 (B0.y hSw.1); go_simp; all_goals with_reducible rfl) ?_
 refine cC ?_ ?_ ?_ ?_ ?hc1_1 ?_
 case hc1_1 => (intro w hSw; exact ptRight_any x y r H.out w)
 refine cW ?_ ?_ ?_
 refine cW ?_ ?_ ?_
 refine calm_end ?_
 intro w1 hS
 have hS := sO hS
 have B0 := B0.y hS
 have hz1 : W0.heap.size ≤ w1.heap.size := hS.size
 have HB := gS HB hS
 clear hS
 go_wp2_with fail
 go_ret
 exact ⟨rfl, HB⟩
theorem new2_any (x y x2 y2 : Int) (w : World) :
  Calls Tryz.prog 40 #[pV x y, pV x2 y2] w fun e w' => e = .returned (.bool (y == y2)) ∧ Below w.heap.size w w' := by
 obtain ⟨W0, hW0⟩ : ∃ W0, [.cells #[.int .i64 x, .int .i64 y] 23, .cells #[.int .i64 x2, .int .i64 y2] 23].foldl World.alloc w = W0 := ⟨_, rfl⟩
 have B0 : Blk W0 (w.heap.size) ([.int .i64 x, .int .i64 y]) 23 := Blk.allocs _ hW0 0 rfl
 have B1 : Blk W0 (w.heap.size + 1) ([.int .i64 x2, .int .i64 y2]) 23 := Blk.allocs _ hW0 1 rfl
 have HB := aB hW0
 have hsz : w.heap.size + 2 ≤ W0.heap.size := aZ hW0
 simp only [List.foldl_cons, List.foldl_nil] at hW0
 go_enter Tryz.func40, Tryz.ntmps40
 go_upto_region 1 with (fail)
 clear hW0
 refine cP ?_
 refine cN ?_
 refine cW ?_ ?_ ?_
 refine cX ?_ ?_ (by intro wz hSw; obtain ⟨q0, q1⟩ := c2 (B0.y hSw.1); go_simp; all_goals with_reducible rfl) ?_
 refine cW ?_ ?_ ?_
 refine cX ?_ ?_ (by intro wz hSw; obtain ⟨q0, q1⟩ := c2 (B1.y hSw.1); go_simp; all_goals with_reducible rfl) ?_
 refine cW ?_ ?_ ?_
 refine cW ?_ ?_ ?_
 refine calm_end ?_
 intro w1 hS
 have hS := sO hS
 have B0 := B0.y hS
 have B1 := B1.y hS
 have hz1 : W0.heap.size ≤ w1.heap.size := hS.size
 have HB := gS HB hS
 clear hS
 go_wp2_with fail
 go_ret
 exact ⟨rfl, HB⟩
theorem indexFunc_any (v : Value) (ps : List (Int × Int)) (w : World) (hv : SlC w v 2 (ptE ps)) :
  Calls Tryz.prog 63 #[v, .func (.func 34) #[] #[]] w fun e w' => e = .returned (.int .i64 (badAt ps 0)) ∧ Below w.heap.size w w' := by
 obtain ⟨ad, c, e, hn, hcm⟩ := hv.form
 have hlen : (ptE ps).length = ps.length := by unfold ptE; simp
 rw [hlen] at e hn
 subst e
 unfold maxLen at hcm
 obtain ⟨n, Hn⟩ : ∃ n, Hid (n = ps.length) := ⟨_, hH rfl⟩
 rw [← Hn.out] at hv hn ⊢
 have HV := hH hv
 obtain ⟨R, HR⟩ : ∃ r, Hid (r = badAt ps 0) := ⟨_, hH rfl⟩
 rw [← HR.out]
 clear hv hlen
 go_enter Tryz.func63, Tryz.ntmps63
 go_wp2_with fail
 go_loopg [8] n (fun q s8 wx => ∃ i : Nat, i + q = n ∧ s8 = .int .i64 (i : Int) ∧ Hid (R = badAt (ps.drop i) i) ∧ Hid (Below w.heap.size w wx))
 case atStart => exact ⟨0, by omega, rfl, HR, Below.refl _ _⟩
 case round =>
  obtain ⟨i, hiq, rfl, HD, HBh⟩ := hrel
  have HB := HBh.out
  have hsz := HB.size
  have HV2 := hH (HV.out.call HB)
  clear HBh
  cases gk with
  | zero =>
   have hin : i = n := by omega
   subst hin
   have HE : Hid (R = -1) := hH (by rw [HD.out, List.drop_of_length_le (by rw [← Hn.out]; exact Nat.le_refl _)]; rfl)
   go_wp2_with fail
   go_ret
   exact ⟨by rw [HE.out]; rfl, HB⟩
  | succ q =>
   have hin : i < n := by omega
   have t1 : (i : Int) < (n : Int) := by omega
   obtain ⟨⟨px, py⟩, hp⟩ : ∃ p, ps[i]? = some p := ⟨_, List.getElem?_eq_getElem (by rw [← Hn.out]; exact hin)⟩
   obtain ⟨g, off, rfl, hgl, hrg, _⟩ := HV2.out.elem (ptE_at hp)
   have hd := badAt_drop hp
   rw [← HD.out] at hd
   cases hpb : ptB px py with
   | true =>
    rw [hpb, if_pos rfl] at hd
    have HPB := hH hpb
    clear HD
    have HD := hH hd
    clear hd hpb hp
    go_upto_region 4 with (fail)
    refine cP ?_
    refine cN ?_
    refine cW ?_ ?_ ?_
    refine cW ?_ ?_ ?_
    refine cW ?_ ?_ ?_
    refine cX (.pointer (some ⟨g, off + i * 2, none⟩)) ?_ (by intro wz hSw; exact x_index (E := 23) (sz := 2) rfl (by rfl) (by rfl) (by omega) Tryz.underlying26 size_pt) ?_
    refine cX (.agg [.int .i64 px, .int .i64 py].toArray) ?_ (by intro wz hSw; exact x_row rfl (by rfl) (rangeAt_below hrg (Stay.all hSw.1) hgl) Tryz.underlying23 rfl size_pt) ?_
    refine cC ?_ ?_ ?_ ?_ ?hc3_5 ?_
    case hc3_5 => (intro w hSw; exact new1_any px py true HPB.out w)
    refine calm_end ?_
    intro w1 hS
    have hS := sO hS
    have hz1 : wr.heap.size ≤ w1.heap.size := hS.size
    have HB := gS HB hS
    clear hS
    go_wp2_with fail
    go_roundg q
    case measure => omega
    case rel => exact ⟨i + 1, by omega, by first | rfl | go_num, HD, HB⟩
   | false =>
    rw [hpb, if_neg (by simp)] at hd
    have HPB := hH hpb
    clear HD
    have HD := hH hd
    clear hd hpb hp
    go_upto_region 4 with (fail)
    refine cP ?_
    refine cN ?_
    refine cW ?_ ?_ ?_
    refine cW ?_ ?_ ?_
    refine cW ?_ ?_ ?_
    refine cX (.pointer (some ⟨g, off + i * 2, none⟩)) ?_ (by intro wz hSw; exact x_index (E := 23) (sz := 2) rfl (by rfl) (by rfl) (by omega) Tryz.underlying26 size_pt) ?_
    refine cX (.agg [.int .i64 px, .int .i64 py].toArray) ?_ (by intro wz hSw; exact x_row rfl (by rfl) (rangeAt_below hrg (Stay.all hSw.1) hgl) Tryz.underlying23 rfl size_pt) ?_
    refine cC ?_ ?_ ?_ ?_ ?hc4_5 ?_
    case hc4_5 => (intro w hSw; exact new1_any px py false HPB.out w)
    refine calm_end ?_
    intro w1 hS
    have hS := sO hS
    have hz1 : wr.heap.size ≤ w1.heap.size := hS.size
    have HB := gS HB hS
    clear hS
    go_wp2_with fail
    go_ret
    exact ⟨by rw [HD.out]; rfl, HB⟩
theorem contains_any (v : Value) (ps : List (Int × Int)) (w : World) (hv : SlC w v 2 (ptE ps)) :
  Calls Tryz.prog 33 #[v, .func (.func 34) #[] #[]] w fun e w' => e = .returned (.bool (decide (0 ≤ badAt ps 0))) ∧ Below w.heap.size w w' := by
 have HV := hH hv
 clear hv
 have HB : Below w.heap.size w w := Below.refl _ _
 go_enter Tryz.func33, Tryz.ntmps33
 go_wp2_with fail
 go_at_call 63
 refine (indexFunc_any v ps _ HV.out).mono ?_
 rintro e w1 ⟨rfl, hb⟩
 go_wp2_with fail
 go_ret
 exact ⟨rfl, hb⟩
end Go.Proofs.YthbplhglfjlngaaGreat
