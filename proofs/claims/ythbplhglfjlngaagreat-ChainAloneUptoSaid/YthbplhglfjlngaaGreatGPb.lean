/- Regions that draw their order, whose operations compute, read, or call what only makes new memory, beside new boxes and the stores into them: one walk in the order of the text serves every order. No program in sight. -/
import Derived.Test.YthbplhglfjlngaaGreatGPa
import Derived.Still
import Derived.Deep.WholeRow
import Derived.Deep.MidRow
import Derived.Lib.Hide
import Derived.Test.YthbplhglfjlngaaGreatShelf
import Derived.Deep.LoopGhost
import Derived.BigQuiet
import Derived.BigFrame
import Derived.Handy
import Derived.Deep.RegionHeld3
import Derived.Laws.Externs
import Derived.Laws.Bits64
set_option linter.unusedVariables false
set_option linter.unusedSimpArgs false
set_option maxRecDepth 100000
namespace Go.Rg
open Go Go.RowKit
structure Slot where
 al : Option (Nat × Tmp)
 ad : Addr
 st : Nat
 ado : Operand
 x : Operand
 u : Value
 z : Obj
 n : Obj
def Slot.isAl (s : Slot) (j : Nat) : Bool := match s.al with | some (k, _) => k == j | none => false
def Slot.to (s : Slot) (b : Nat) : Addr := match s.al with | some _ => ⟨b, 0, none⟩ | none => s.ad
def spB (sl : List Slot) (j : Nat) : Bool := sl.any fun s => s.st == j || s.isAl j
def mdst (sl : List Slot) (j : Nat) (o : Oper) : Option Tmp := if spB sl j then none else o.dst
def mlooks (sl : List Slot) (ops : Array Oper) (j : Nat) (o : Oper) : List Tmp := if spB sl j then [] else o.looksAt ops
section
variable {P : Program} {ops : Array Oper} {md : Region.Mode} {sl : List Slot} {D : List Nat} {W : World}
structure Stay (D : List Nat) (W W' : World) : Prop where
 os : W'.os = W.os
 tape : W'.tape = W.tape
 output : W'.output = W.output
 size : W.heap.size ≤ W'.heap.size
 same : ∀ k, k ∉ D → k < W.heap.size → W'.heap[k]? = W.heap[k]?
theorem Stay.refl (D : List Nat) (W : World) : Stay D W W := ⟨rfl, rfl, rfl, Nat.le_refl _, fun _ _ _ => rfl⟩
theorem Stay.call {D : List Nat} {A B C : World} (h : Stay D A B) (k : Below B.heap.size B C) : Stay D A C :=
 ⟨k.os.trans h.os, k.tape.trans h.tape, k.output.trans h.output, Nat.le_trans h.size k.size, fun i hi hl => (k.block i (Nat.lt_of_lt_of_le hl h.size)).trans (h.same i hi hl)⟩
theorem Stay.alloc {D : List Nat} {A B : World} (h : Stay D A B) (o : Obj) : Stay D A (B.alloc o) := h.call ((Below.refl _ B).alloc (Nat.le_refl _) o)
theorem Stay.drew {D : List Nat} {A B : World} (h : Stay D A B) : Stay D A B.drew := ⟨h.os, h.tape, h.output, h.size, h.same⟩
theorem Stay.below {D : List Nat} {A B : World} (h : Stay D A B) {n : Nat} (hn : n ≤ A.heap.size) (hD : ∀ d ∈ D, n ≤ d) : Below n A B :=
 ⟨h.os, h.tape, h.output, h.size, fun k hk => h.same k (fun hd => by have := hD k hd; omega) (by omega)⟩
theorem Stay.all {A B : World} (h : Stay [] A B) : Below A.heap.size A B := h.below (Nat.le_refl _) (fun d hd => by cases hd)
theorem Blk.stay {D : List Nat} {w w' : World} {b : Nat} {cs : List Value} {t : TypeId} (h : Blk w b cs t) (hs : Stay D w w') (hb : b ∉ D) : Blk w' b cs t := h.of_same (hs.same b hb h.lt)
theorem Blk.y {D : List Nat} {w w' : World} {b : Nat} {cs : List Value} {t : TypeId} (h : Blk w b cs t) (hs : Stay D w w') (hb : b ∉ D := by simp <;> omega) : Blk w' b cs t := h.stay hs hb
def calmUpon (P : Program) (w : World) (v : Value) : Result Next → Prop
 | .ok (.value u) w' => w' = w ∧ u = v
 | .ok .skip w' => w' = w ∧ v = undef
 | .ok (.enter f args) w' => w' = w ∧ Calls P f args w (fun e w'' => e = .returned v ∧ Below w.heap.size w w'')
 | _ => False
def waitB (md : Region.Mode) (o : Oper) (k : Nat) : Bool := o.after.any fun e => Region.binds md e && e.on == k
theorem waitB_spec {md : Region.Mode} {o : Oper} {k : Nat} (h : waitB md o k = true) : ∃ e ∈ o.after, Region.binds md e = true ∧ e.on = k := by
 unfold waitB at h
 obtain ⟨e, he, hb⟩ := Array.any_eq_true'.1 h
 simp only [Bool.and_eq_true, beq_iff_eq] at hb
 exact ⟨e, he, hb⟩
def Cls (md : Region.Mode) (ops : Array Oper) (sl : List Slot) (D : List Nat) (W : World) (j : Nat) (w : World) : Prop :=
 Stay D W w ∧ ∀ s ∈ sl, s.al = none → (∃ o, ops[s.st]? = some o ∧ waitB md o j = true) → w.heap[s.ad.block]? = some s.z
def Calm (P : Program) (md : Region.Mode) (ops : Array Oper) (sl : List Slot) (D : List Nat) (W : World) (j : Nat) (o : Oper) (v : Value) (a : Act) : Prop :=
 (spB sl j = true ∧ v = undef) ∨
 (spB sl j = false ∧ Region.wanted o (yielded ops a.tmps) = true ∧ ∀ w, Cls md ops sl D W j w → calmUpon P w v ((execOp a.eval o).run P w)) ∨
 (spB sl j = false ∧ Region.wanted o (yielded ops a.tmps) = false ∧ v = undef)
def wpAnyM (P : Program) (md : Region.Mode) (ops : Array Oper) (sl : List Slot) (D : List Nat) (W : World) (Q : Act → Prop) : Nat → Array Bool → Act → Prop
 | 0, listed, a => Region.ready md ops listed = [] ∧ Q a
 | fuel + 1, listed, a => (Region.ready md ops listed = [] → Q a) ∧
  ∀ i ∈ Region.ready md ops listed, ∀ o, ops[i]? = some o → ∃ v, Calm P md ops sl D W i o v a ∧ wpAnyM P md ops sl D W Q fuel (listed.setIfInBounds i true) (a.put (mdst sl i o) v)
def apartM (ops : Array Oper) (sl : List Slot) (i : Nat) (x : Oper) (j : Nat) (y : Oper) : Bool :=
 (match mdst sl i x with
  | some d => !(mlooks sl ops j y).contains d && mdst sl j y != some d
  | none => true) &&
 (match mdst sl j y with
  | some d => !(mlooks sl ops i x).contains d
  | none => true)
theorem apartM_spec {i j : Nat} {x y : Oper} (h : apartM ops sl i x j y = true) :
  (∀ d, mdst sl i x = some d → d ∉ mlooks sl ops j y) ∧ (∀ d, mdst sl i x = some d → mdst sl j y ≠ some d) ∧ (∀ d, mdst sl j y = some d → d ∉ mlooks sl ops i x) := by
 unfold apartM at h
 rw [Bool.and_eq_true] at h
 obtain ⟨h1, h2⟩ := h
 refine ⟨fun d hd => ?_, fun d hd => ?_, fun d hd => ?_⟩
 ·rw [hd] at h1; simp at h1; exact h1.1
 ·rw [hd] at h1; simp at h1; exact h1.2
 ·rw [hd] at h2; simp at h2; exact h2
theorem Calm.put {j : Nat} {o : Oper} {v : Value} {a : Act} (hsel : ∀ cs b, o.op ≠ .select cs b) (dst : Option Tmp) (u : Value) (h : ∀ d, dst = some d → d ∉ mlooks sl ops j o) :
  Calm P md ops sl D W j o v (a.put dst u) ↔ Calm P md ops sl D W j o v a := by
 unfold Calm
 cases hs : spB sl j with
 | true => simp
 | false =>
  have h' : ∀ d, dst = some d → d ∉ o.looksAt ops := fun d hd => by have := h d hd; unfold mlooks at this; rw [hs] at this; exact this
  rw [execOp_put o hsel a dst u h', wanted_put o a dst u h']
theorem wpAnyM_first {Q : Act → Prop} {i : Nat} {oi : Oper} {v : Value} (hi : ops[i]? = some oi) (hsel : ∀ (j : Nat) (o : Oper) cs b, ops[j]? = some o → o.op ≠ .select cs b) :
  ∀ (fuel : Nat) (listed : Array Bool) (a : Act),
   (∀ j oj, ops[j]? = some oj → j ≠ i → listed.getD j true = false → (∀ e ∈ oj.after, Region.binds md e = true → e.on ≠ i) → apartM ops sl i oi j oj = true) →
   i ∈ Region.ready md ops listed → Calm P md ops sl D W i oi v a →
   wpAnyM P md ops sl D W Q fuel (listed.setIfInBounds i true) (a.put (mdst sl i oi) v) → wpAnyM P md ops sl D W Q (fuel + 1) listed a := by
 intro fuel
 induction fuel with
 | zero =>
  intro listed a _ hr hy H
  refine ⟨fun h => (by rw [h] at hr; cases hr), fun j hj o ho => ?_⟩
  by_cases hji : j = i
  ·subst hji; rw [hi] at ho; cases ho; exact ⟨v, hy, H⟩
  ·have := ready_mono hj hji
   rw [H.1] at this; cases this
 | succ fuel ih =>
  intro listed a hfree hr hy H
  refine ⟨fun h => (by rw [h] at hr; cases hr), fun j hj o ho => ?_⟩
  by_cases hji : j = i
  ·subst hji; rw [hi] at ho; cases ho; exact ⟨v, hy, H⟩
  ·obtain ⟨u, hu, hn⟩ := H.2 j (ready_mono hj hji) o ho
   obtain ⟨hun, oj, hoj, hall⟩ := mem_ready.1 hj
   obtain rfl : o = oj := Option.some.inj (ho.symm.trans hoj)
   have hno : ∀ e ∈ o.after, Region.binds md e = true → e.on ≠ i := fun e he hb heq => by
    have h1 := hall e he hb
    have h0 := (mem_ready.1 hr).1
    rw [heq] at h1
    rcases Nat.lt_or_ge i listed.size with h' | h'
    ·simp [h'] at h0 h1; rw [h0] at h1; cases h1
    ·simp [Array.getElem?_eq_none h'] at h1
   obtain ⟨p1, p2, p3⟩ := apartM_spec (hfree j o hoj hji hun hno)
   refine ⟨u, (Calm.put (fun cs b => hsel j o cs b hoj) _ _ p1).1 hu, ih _ _ (fun k ok hk hki hk2 hk3 => ?_) (ready_mono hr (Ne.symm hji)) ((Calm.put (fun cs b => hsel i oi cs b hi) _ _ p3).2 hy) ?_⟩
   ·refine hfree k ok hk hki ?_ hk3
    by_cases hjk : j = k
    ·rw [← hjk]; exact hun
    ·rwa [getD_set_ne true hjk] at hk2
   ·rw [Array.setIfInBounds_comm _ _ hji, ← Act.put_comm a v u p2]
    exact hn
def freeM (md : Region.Mode) (ops : Array Oper) (sl : List Slot) (listed : Array Bool) (i : Nat) : Bool :=
 match ops[i]? with
 | none => false
 | some oi => (List.range ops.size).all fun j => j == i || listed.getD j true || match ops[j]? with
   | some oj => oj.after.any (fun e => Region.binds md e && e.on == i) || apartM ops sl i oi j oj
   | none => true
theorem freeM_spec {i : Nat} {oi : Oper} {listed : Array Bool} (hi : ops[i]? = some oi) (h : freeM md ops sl listed i = true) (j : Nat) (oj : Oper)
  (hj : ops[j]? = some oj) (hne : j ≠ i) (hun : listed.getD j true = false) (hno : ∀ e ∈ oj.after, Region.binds md e = true → e.on ≠ i) : apartM ops sl i oi j oj = true := by
 unfold freeM at h
 rw [hi] at h
 simp only [List.all_eq_true, List.mem_range] at h
 have h1 := h j (Array.getElem?_eq_some_iff.1 hj).1
 simp only [hj, Bool.or_eq_true, beq_iff_eq, hne, false_or, hun, Bool.false_eq_true] at h1
 rcases h1 with h1 | h1
 ·obtain ⟨e, he, hb⟩ := Array.any_eq_true'.1 h1
  simp only [Bool.and_eq_true, beq_iff_eq] at hb
  exact absurd hb.2 (hno e he hb.1)
 ·exact h1
def wpCalm (P : Program) (md : Region.Mode) (ops : Array Oper) (sl : List Slot) (D : List Nat) (W : World) (Q : Act → Prop) : Nat → List Oper → Act → Prop
 | _, [], a => Q a
 | k, o :: rest, a => ∃ v, Calm P md ops sl D W k o v a ∧ wpCalm P md ops sl D W Q (k + 1) rest (a.put (mdst sl k o) v)
theorem wpCalm_mono {Q Q' : Act → Prop} (hq : ∀ a, Q a → Q' a) : ∀ {l : List Oper} {k : Nat} {a : Act}, wpCalm P md ops sl D W Q k l a → wpCalm P md ops sl D W Q' k l a
 | [], _, _, h => hq _ h
 | _ :: _, _, _, ⟨v, h1, h2⟩ => ⟨v, h1, wpCalm_mono hq h2⟩
def lexM (md : Region.Mode) (ops : Array Oper) (sl : List Slot) : Nat → Nat → Array Bool → Bool
 | 0, _, listed => (Region.ready md ops listed).isEmpty
 | fuel + 1, k, listed => (Region.ready md ops listed).contains k && freeM md ops sl listed k && lexM md ops sl fuel (k + 1) (listed.setIfInBounds k true)
theorem wpAnyM_lex {Q : Act → Prop} (hs : Region.noSelect ops = true) : ∀ (l : List Oper) (k : Nat) (listed : Array Bool) (a : Act), (∀ j, l[j]? = ops[k + j]?) →
  lexM md ops sl l.length k listed = true → wpCalm P md ops sl D W Q k l a → wpAnyM P md ops sl D W Q l.length listed a
 | [], _, _, _, _, hB, h => ⟨by simpa [lexM] using hB, h⟩
 | o :: l, k, listed, a, hl, hB, h => by
  have h0 : ops[k]? = some o := by simpa using (hl 0).symm
  simp only [List.length_cons, lexM, Bool.and_eq_true] at hB
  obtain ⟨⟨hr, hf⟩, hB'⟩ := hB
  obtain ⟨v, hy, hK⟩ := h
  exact wpAnyM_first h0 (Region.noSelect_spec hs) l.length listed a (freeM_spec h0 hf) (by simpa using hr) hy
   (wpAnyM_lex hs l (k + 1) _ _ (fun j => by have := hl (j + 1); simpa [Nat.add_assoc, Nat.add_comm 1 j] using this) hB' hK)
theorem cert {Q : Act → Prop} {x : Operand} {u : Value} (hQ : ∀ a, Q a → a.eval x = u) : ∀ (fuel : Nat) (listed : Array Bool) (a : Act),
  (∀ j o d, ops[j]? = some o → listed.getD j true = false → o.dst = some d → x ≠ .tmp d) → wpAnyM P md ops sl D W Q fuel listed a → a.eval x = u
 | 0, listed, a, _, h => hQ a h.2
 | fuel + 1, listed, a, hd, h => by
  cases hr : Region.ready md ops listed with
  | nil => exact hQ a (h.1 hr)
  | cons j r =>
   have hj : j ∈ Region.ready md ops listed := by rw [hr]; exact List.mem_cons_self ..
   obtain ⟨hun, o, ho, _⟩ := mem_ready.1 hj
   obtain ⟨v, _, hn⟩ := h.2 j hj o ho
   have := cert hQ fuel _ _ (fun k ok d hk hk2 hkd => by
    refine hd k ok d hk ?_ hkd
    by_cases hjk : j = k
    ·rw [← hjk]; exact hun
    ·rwa [getD_set_ne true hjk] at hk2) hn
   rw [← this]
   refine (Act.eval_put fun d hdd => ?_).symm
   unfold mdst at hdd
   split at hdd
   ·cases hdd
   ·exact hd j o d ho hun hdd
def over (ov : Tmp → Option Value) (a : Act) : Act := { a with tmps := a.tmps.mapIdx fun t v => (ov t).getD v }
theorem over_none (a : Act) : over (fun _ => none) a = a := by
 unfold over
 have : a.tmps.mapIdx (fun t v => ((fun _ => none : Tmp → Option Value) t).getD v) = a.tmps := by apply Array.ext <;> simp
 rw [this]
theorem over_tmps (ov : Tmp → Option Value) (a : Act) (i : Nat) : (over ov a).tmps[i]? = (a.tmps[i]?).map fun v => (ov i).getD v := by
 unfold over
 simp
theorem act_ext {a b : Act} (hd : a.defers = b.defers) (h : ∀ i : Nat, a.tmps[i]? = b.tmps[i]?) : a = b := by
 obtain ⟨t, d⟩ := a
 obtain ⟨t', d'⟩ := b
 simp only at hd h
 subst hd
 congr 1
 exact Array.ext_getElem? h
theorem put_tmps (a : Act) (d : Tmp) (v : Value) (i : Nat) : (a.put (some d) v).tmps[i]? = if d = i then (if i < a.tmps.size then some v else none) else a.tmps[i]? := by
 unfold Act.put
 simp only
 rw [Array.getElem?_setIfInBounds]
 by_cases e : d = i
 ·subst e; rfl
 ·rw [if_neg e, if_neg e]
theorem over_put {ov : Tmp → Option Value} {a : Act} (dst : Option Tmp) (v : Value) (h : ∀ d, dst = some d → ov d = none) : over ov (a.put dst v) = (over ov a).put dst v := by
 cases dst with
 | none => rfl
 | some d =>
  refine act_ext rfl fun i => ?_
  rw [over_tmps, put_tmps, put_tmps, over_tmps]
  by_cases e : d = i
  ·subst e
   rw [if_pos rfl, if_pos rfl, h d rfl]
   have : (over ov a).tmps.size = a.tmps.size := by unfold over; simp
   rw [this]
   split <;> simp
  ·rw [if_neg e, if_neg e]
theorem over_set {ov : Tmp → Option Value} {a : Act} (d : Tmp) (p : Value) : over (fun t => if t = d then some p else ov t) a = (over ov a).put (some d) p := by
 refine act_ext rfl fun i => ?_
 rw [over_tmps, put_tmps, over_tmps]
 have : (over ov a).tmps.size = a.tmps.size := by unfold over; simp
 rw [this]
 by_cases e : d = i
 ·subst e
  rw [if_pos rfl, if_pos rfl]
  by_cases hi : d < a.tmps.size
  ·rw [if_pos hi, Array.getElem?_eq_getElem hi]; rfl
  ·rw [if_neg hi, Array.getElem?_eq_none (Nat.le_of_not_lt hi)]; rfl
 ·rw [if_neg (fun h => e h.symm), if_neg e]
theorem over_eval {ov : Tmp → Option Value} {a : Act} {x : Operand} (h : ∀ d, x = .tmp d → ov d = none) : (over ov a).eval x = a.eval x := by
 cases x with
 | tmp t =>
  have ht := h t rfl
  unfold over Act.eval
  simp [ht]
 | _ => rfl
theorem over_eval_at {ov : Tmp → Option Value} {a : Act} {d : Tmp} {p : Value} (h : ov d = some p) (hd : d < a.tmps.size) : (over ov a).eval (.tmp d) = p := by
 unfold over Act.eval
 simp [h, hd]
structure Only (b : Nat) (n : Obj) (w w' : World) : Prop where
 os : w'.os = w.os
 tape : w'.tape = w.tape
 output : w'.output = w.output
 size : w'.heap.size = w.heap.size
 new : w'.heap[b]? = some n
 same : ∀ k, k ≠ b → w'.heap[k]? = w.heap[k]?
structure SlotOk (P : Program) (md : Region.Mode) (ops : Array Oper) (sl : List Slot) (s : Slot) : Prop where
 st : ∃ o t, ops[s.st]? = some o ∧ o.op = .store t s.ado s.x ∧ o.dst = none ∧ o.guard = none ∧
  (∀ k d, s.al = some (k, d) → s.ado = .tmp d ∧ ∃ e ∈ o.after, Region.binds md e = true ∧ e.on = k) ∧
  (∀ j oj d, ops[j]? = some oj → oj.dst = some d → (s.x = .tmp d ∨ (s.al = none ∧ s.ado = .tmp d)) → ∃ e ∈ o.after, Region.binds md e = true ∧ e.on = j) ∧
  (∀ w b, (s.al = none → b = s.ad.block) → w.heap[b]? = some s.z → ∃ w', (Instr.storeAt t (.pointer (some (s.to b))) s.u).run P w = .ok () w' ∧ Only b s.n w w')
 al : ∀ k d, s.al = some (k, d) → ∃ o T, ops[k]? = some o ∧ o.op = .alloc T ∧ o.dst = some d ∧ o.guard = none ∧
  ∀ w, (Instr.alloc T true (.tuple #[])).run P w = .ok (.pointer (some ⟨w.heap.size, 0, none⟩)) (w.alloc s.z)
 xs : ∀ d, (s.x = .tmp d ∨ (s.al = none ∧ s.ado = .tmp d)) → ∀ s' ∈ sl, ∀ k, s'.al ≠ some (k, d)
structure Stat (P : Program) (md : Region.Mode) (ops : Array Oper) (sl : List Slot) : Prop where
 low : ∀ (j : Nat) (o : Oper), ops[j]? = some o → ∀ e ∈ o.after, Region.binds md e = true → e.on < j
 sep : ∀ (j : Nat) (o : Oper), ops[j]? = some o → spB sl j = false → ∀ s ∈ sl, ∀ k d, s.al = some (k, d) → d ∉ o.looksAt ops ∧ o.dst ≠ some d
 sel : ∀ (j : Nat) (o : Oper) cs b, ops[j]? = some o → o.op ≠ .select cs b
 slots : ∀ s ∈ sl, SlotOk P md ops sl s
 own : ∀ s ∈ sl, ∀ k d, s.al = some (k, d) → k ≠ s.st
 two : ∀ (i i' : Nat) (s s' : Slot), sl[i]? = some s → sl[i']? = some s' → i ≠ i' → s.st ≠ s'.st ∧ (∀ k d, s.al = some (k, d) → s'.st ≠ k ∧ ∀ k' d', s'.al = some (k', d') → k ≠ k' ∧ d ≠ d') ∧ (s.al = none → s'.al = none → s.ad.block ≠ s'.ad.block)
def Live (listed : Array Bool) (s : Slot) : Prop := ∀ k d, s.al = some (k, d) → listed.getD k false = true
structure Inv (waits : Nat → Slot → Prop) (sl : List Slot) (D : List Nat) (W : World) (listed : Array Bool) (n : Nat) (g : Nat → Nat) (ov : Tmp → Option Value) (w : World) : Prop where
 below : Stay D W w
 size : listed.size = n
 live : ∀ (i : Nat) (s : Slot), sl[i]? = some s → Live listed s → (g i ∈ D ∨ W.heap.size ≤ g i) ∧ (s.al = none → g i = s.ad.block) ∧ w.heap[g i]? = some (if listed.getD s.st false then s.n else s.z)
 apart : ∀ (i i' : Nat) (s s' : Slot), sl[i]? = some s → sl[i']? = some s' → i ≠ i' → Live listed s → Live listed s' → g i ≠ g i'
 ov1 : ∀ (i : Nat) (s : Slot) (k : Nat) (d : Tmp), sl[i]? = some s → s.al = some (k, d) → ov d = if listed.getD k false then some (.pointer (some ⟨g i, 0, none⟩)) else none
 ov2 : ∀ t, (∀ s ∈ sl, ∀ k, s.al ≠ some (k, t)) → ov t = none
 late : ∀ s ∈ sl, listed.getD s.st false = true → Live listed s
 early : ∀ s ∈ sl, listed.getD s.st false = true → ∀ j, waits j s → listed.getD j false = true
theorem getD_set_eq {listed : Array Bool} {i : Nat} (h : i < listed.size) (d : Bool) : (listed.setIfInBounds i true).getD i d = true := by simp [h]
theorem getD_set_iff {listed : Array Bool} {i j : Nat} (h : i < listed.size) : (listed.setIfInBounds i true).getD j false = (decide (i = j) || listed.getD j false) := by
 by_cases e : i = j
 ·subst e; rw [getD_set_eq h]; simp
 ·rw [getD_set_ne false e]; simp [e]
theorem live_set {listed : Array Bool} {i : Nat} {s : Slot} (hi : i < listed.size) (hn : s.isAl i = false) : Live (listed.setIfInBounds i true) s ↔ Live listed s := by
 unfold Live
 constructor
 ·intro h k d hk
  have := h k d hk
  rw [getD_set_iff hi] at this
  have hne : i ≠ k := fun e => by unfold Slot.isAl at hn; rw [hk] at hn; simp at hn; exact hn e.symm
  simpa [hne] using this
 ·intro h k d hk
  rw [getD_set_iff hi, h k d hk]; simp
theorem Inv.plain {waits : Nat → Slot → Prop} {listed : Array Bool} {n j : Nat} {g : Nat → Nat} {ov : Tmp → Option Value} {w w' : World} (h : Inv waits sl D W listed n g ov w) (hj : j < n) (hs : spB sl j = false)
  (hb : Below w.heap.size w w') : Inv waits sl D W (listed.setIfInBounds j true) n g ov w' := by
 have hjl : j < listed.size := by rw [h.size]; exact hj
 have no : ∀ s ∈ sl, s.st ≠ j ∧ s.isAl j = false := fun s hs' => by
  unfold spB at hs
  rw [List.any_eq_false] at hs
  have := hs s hs'
  simp at this
  exact ⟨this.1, by simpa using this.2⟩
 have hst : ∀ s ∈ sl, (listed.setIfInBounds j true).getD s.st false = listed.getD s.st false := fun s hs' => by
  rw [getD_set_ne false (Ne.symm (no s hs').1)]
 refine ⟨h.below.call hb, by simpa using h.size, fun i s hi hl => ?_, fun i i' s s' hi hi' hne hl hl' => ?_, fun i s k d hi hk => ?_, h.ov2, fun s hs' hd => ?_, fun s hs' hd k hk => ?_⟩
 ·have hm := List.mem_of_getElem? hi
  obtain ⟨h1, h2, h3⟩ := h.live i s hi ((live_set hjl (no s hm).2).1 hl)
  refine ⟨h1, h2, ?_⟩
  rw [hst s hm, hb.block _ (Array.getElem?_eq_some_iff.1 h3).1, h3]
 ·exact h.apart i i' s s' hi hi' hne ((live_set hjl (no s (List.mem_of_getElem? hi)).2).1 hl) ((live_set hjl (no s' (List.mem_of_getElem? hi')).2).1 hl')
 ·rw [h.ov1 i s k d hi hk]
  have hne : j ≠ k := fun e => by have := (no s (List.mem_of_getElem? hi)).2; unfold Slot.isAl at this; rw [hk] at this; simp at this; exact this e.symm
  rw [getD_set_ne false hne]
 ·rw [hst s hs'] at hd
  exact (live_set hjl (no s hs').2).2 (h.late s hs' hd)
 ·rw [hst s hs'] at hd
  rw [getD_set_iff hjl, h.early s hs' hd k hk]; simp
theorem Inv.alloc (T : Stat P md ops sl) {waits : Nat → Slot → Prop} {listed : Array Bool} {n k : Nat} {d : Tmp} {i : Nat} {s : Slot} {g : Nat → Nat} {ov : Tmp → Option Value} {w : World} (h : Inv waits sl D W listed n g ov w) (hk : k < n) (hun : listed.getD k false = false)
  (hi : sl[i]? = some s) (hal : s.al = some (k, d)) :
  Inv waits sl D W (listed.setIfInBounds k true) n (fun j => if j = i then w.heap.size else g j) (fun t => if t = d then some (.pointer (some ⟨w.heap.size, 0, none⟩)) else ov t) (w.alloc s.z) := by
 have hkl : k < listed.size := by rw [h.size]; exact hk
 have hm := List.mem_of_getElem? hi
 have other : ∀ (i' : Nat) (s' : Slot), sl[i']? = some s' → i' ≠ i → s'.isAl k = false := fun i' s' hi' hne => by
  unfold Slot.isAl
  cases ha : s'.al with
  | none => rfl
  | some kd =>
   obtain ⟨k', d'⟩ := kd
   have := (T.two i i' s s' hi hi' (Ne.symm hne)).2.1 k d hal
   have h2 := (this.2 k' d' ha).1
   simp [Ne.symm h2]
 have stn : ∀ s' ∈ sl, s'.st ≠ k := fun s' hs' => by
  obtain ⟨i', hi'⟩ := List.getElem?_of_mem hs'
  by_cases e : i' = i
  ·subst e; rw [hi] at hi'; cases hi'; exact (T.own s hm k d hal).symm
  ·exact ((T.two i i' s s' hi hi' (Ne.symm e)).2.1 k d hal).1
 have notlive : ¬ Live listed s := fun hl => by rw [hl k d hal] at hun; cases hun
 have hst : listed.getD s.st false = false := by
  cases hd : listed.getD s.st false with
  | false => rfl
  | true => exact absurd (h.late s hm hd) notlive
 refine ⟨h.below.alloc _, by simpa using h.size, fun i' s' hi' hl => ?_, fun i1 i2 s1 s2 h1 h2 hne hl1 hl2 => ?_, fun i' s' k' d' hi' hk' => ?_, fun t ht => ?_, fun s' hs' hd => ?_, fun s' hs' hd j hj => ?_⟩
 ·rw [getD_set_ne false (stn s' (List.mem_of_getElem? hi')).symm]
  by_cases e : i' = i
  ·subst e
   rw [hi] at hi'; cases hi'
   rw [if_pos rfl, hst]
   exact ⟨.inr h.below.size, (fun hn => by rw [hal] at hn; cases hn), World.alloc_heap_new w _⟩
  ·rw [if_neg e]
   obtain ⟨a1, a2, a3⟩ := h.live i' s' hi' ((live_set hkl (other i' s' hi' e)).1 hl)
   exact ⟨a1, a2, (Below.heap_alloc w _ _ (Array.getElem?_eq_some_iff.1 a3).1).trans a3⟩
 ·have lt : ∀ (i' : Nat) (s' : Slot), sl[i']? = some s' → i' ≠ i → Live (listed.setIfInBounds k true) s' → g i' < w.heap.size := fun i' s' hi' e hl =>
   (Array.getElem?_eq_some_iff.1 (h.live i' s' hi' ((live_set hkl (other i' s' hi' e)).1 hl)).2.2).1
  by_cases e1 : i1 = i
  ·have e2 : i2 ≠ i := fun e => hne (e1.trans e.symm)
   have := lt i2 s2 h2 e2 hl2
   simp only [e1, e2, if_true, if_false]; omega
  ·by_cases e2 : i2 = i
   ·have := lt i1 s1 h1 e1 hl1
    simp only [e1, e2, if_true, if_false]; omega
   ·simp only [e1, e2, if_false]
    exact h.apart i1 i2 s1 s2 h1 h2 hne ((live_set hkl (other i1 s1 h1 e1)).1 hl1) ((live_set hkl (other i2 s2 h2 e2)).1 hl2)
 ·by_cases e : i' = i
  ·subst e
   rw [hi] at hi'; cases hi'
   rw [hal] at hk'; cases hk'
   rw [getD_set_eq hkl]; simp
  ·have := ((T.two i i' s s' hi hi' (Ne.symm e)).2.1 k d hal).2 k' d' hk'
   simp only [e, this.2.symm, if_false]
   rw [getD_set_ne false this.1]
   exact h.ov1 i' s' k' d' hi' hk'
 ·have : t ≠ d := fun e => ht s hm k (by rw [hal, e])
  simp only [this, if_false]
  exact h.ov2 t ht
 ·rw [getD_set_ne false (stn s' hs').symm] at hd
  have := h.late s' hs' hd
  intro k' d' hk'
  rw [getD_set_iff hkl, this k' d' hk']; simp
 ·rw [getD_set_ne false (stn s' hs').symm] at hd
  rw [getD_set_iff hkl, h.early s' hs' hd j hj]; simp
theorem Inv.store (T : Stat P md ops sl) {waits : Nat → Slot → Prop} {listed : Array Bool} {n : Nat} {i : Nat} {s : Slot} {g : Nat → Nat} {ov : Tmp → Option Value} {w w' : World} (h : Inv waits sl D W listed n g ov w) (hk : s.st < n)
  (hi : sl[i]? = some s) (hl : Live listed s) (hdeps : ∀ j, waits j s → listed.getD j false = true) (ho : Only (g i) s.n w w') : Inv waits sl D W (listed.setIfInBounds s.st true) n g ov w' := by
 have hkl : s.st < listed.size := by rw [h.size]; exact hk
 have hm := List.mem_of_getElem? hi
 have nal : ∀ s' ∈ sl, s'.isAl s.st = false := fun s' hs' => by
  unfold Slot.isAl
  cases ha : s'.al with
  | none => rfl
  | some kd =>
   obtain ⟨k', d'⟩ := kd
   obtain ⟨i', hi'⟩ := List.getElem?_of_mem hs'
   by_cases e : i' = i
   ·subst e; rw [hi] at hi'; cases hi'; simp [T.own s hm k' d' ha]
   ·have := ((T.two i' i s' s hi' hi e).2.1 k' d' ha).1
    simp [Ne.symm this]
 refine ⟨⟨ho.os.trans h.below.os, ho.tape.trans h.below.tape, ho.output.trans h.below.output, by rw [ho.size]; exact h.below.size, fun k hk hkl => ?_⟩, by simpa using h.size, fun i' s' hi' hl' => ?_, fun i1 i2 s1 s2 h1 h2 hne hl1 hl2 => ?_, fun i' s' k' d' hi' hk' => ?_, h.ov2, fun s' hs' hd => ?_, fun s' hs' hd j hj => ?_⟩
 ·rw [ho.same k (fun e => by rcases (h.live i s hi hl).1 with h1 | h1; exact hk (e ▸ h1); omega)]; exact h.below.same k hk hkl
 ·have hl2 := (live_set hkl (nal s' (List.mem_of_getElem? hi'))).1 hl'
  obtain ⟨a1, a2, a3⟩ := h.live i' s' hi' hl2
  refine ⟨a1, a2, ?_⟩
  by_cases e : i' = i
  ·subst e
   rw [hi] at hi'; cases hi'
   rw [getD_set_eq hkl]
   exact ho.new
  ·have := (T.two i i' s s' hi hi' (Ne.symm e)).1
   rw [getD_set_ne false this, ho.same _ (h.apart i' i s' s hi' hi e hl2 hl)]
   exact a3
 ·exact h.apart i1 i2 s1 s2 h1 h2 hne ((live_set hkl (nal s1 (List.mem_of_getElem? h1))).1 hl1) ((live_set hkl (nal s2 (List.mem_of_getElem? h2))).1 hl2)
 ·rw [h.ov1 i' s' k' d' hi' hk']
  have : s.st ≠ k' := fun e => by have := nal s' (List.mem_of_getElem? hi'); unfold Slot.isAl at this; rw [hk'] at this; simp at this; exact this e.symm
  rw [getD_set_ne false this]
 ·refine (live_set hkl (nal s' hs')).2 ?_
  by_cases e : s'.st = s.st
  ·obtain ⟨i', hi'⟩ := List.getElem?_of_mem hs'
   by_cases e2 : i' = i
   ·subst e2; rw [hi] at hi'; cases hi'; exact hl
   ·exact absurd e.symm (T.two i i' s s' hi hi' (Ne.symm e2)).1
  ·rw [getD_set_ne false (Ne.symm e)] at hd
   exact h.late s' hs' hd
 ·rw [getD_set_iff hkl]
  by_cases e : s'.st = s.st
  ·obtain ⟨i', hi'⟩ := List.getElem?_of_mem hs'
   by_cases e2 : i' = i
   ·subst e2; rw [hi] at hi'; cases hi'; rw [hdeps j hj]; simp
   ·exact absurd e.symm (T.two i i' s s' hi hi' (Ne.symm e2)).1
  ·rw [getD_set_ne false (Ne.symm e)] at hd
   rw [h.early s' hs' hd j hj]; simp
theorem over_exec {ov : Tmp → Option Value} {a : Act} {o : Oper} (hs : ∀ cs b, o.op ≠ .select cs b) (h : ∀ d, d ∈ o.looksAt ops → ov d = none) : execOp (over ov a).eval o = execOp a.eval o :=
 execOp_congr o hs fun x hx => over_eval fun d hd => h d (by
  subst hd
  exact List.mem_append_left _ (List.mem_filterMap.2 ⟨.tmp d, by simpa using hx, rfl⟩))
theorem over_wanted {ov : Tmp → Option Value} {a : Act} {o : Oper} (h : ∀ d, d ∈ o.looksAt ops → ov d = none) : Region.wanted o (yielded ops (over ov a).tmps) = Region.wanted o (yielded ops a.tmps) := by
 unfold Region.wanted
 cases hg : o.guard with
 | none => rfl
 | some gw =>
  obtain ⟨g, want⟩ := gw
  have hy : yielded ops (over ov a).tmps g = yielded ops a.tmps g := by
   unfold yielded
   cases ht : (ops[g]?).bind (·.dst) with
   | none => rfl
   | some t =>
    have := h t (by simp [Oper.looksAt, hg, ht])
    simp only [Option.bind_some, over_tmps, this]
    simp
  simp only [hy]
theorem all_listed {listed : Array Bool} (hlow : ∀ (j : Nat) (o : Oper), ops[j]? = some o → ∀ e ∈ o.after, Region.binds md e = true → e.on < j) (hsz : listed.size = ops.size) (hr : Region.ready md ops listed = []) :
  ∀ j, j < ops.size → listed.getD j false = true := by
 intro j
 induction j using Nat.strongRecOn with
 | _ j ih =>
  intro hj
  cases hd : listed.getD j false with
  | true => rfl
  | false =>
   exfalso
   have : j ∈ Region.ready md ops listed := by
    refine mem_ready.2 ⟨?_, ops[j], Array.getElem?_eq_getElem hj, fun e he hb => ?_⟩
    ·have : j < listed.size := by omega
     simp [this] at hd ⊢; exact hd
    ·have := hlow j ops[j] (Array.getElem?_eq_getElem hj) e he hb
     exact ih _ this (by omega)
   rw [hr] at this; cases this
structure Fin (sl : List Slot) (D : List Nat) (W : World) (g : Nat → Nat) (ov : Tmp → Option Value) (w : World) : Prop where
 below : Stay D W w
 live : ∀ (i : Nat) (s : Slot), sl[i]? = some s → (g i ∈ D ∨ W.heap.size ≤ g i) ∧ (s.al = none → g i = s.ad.block) ∧ w.heap[g i]? = some s.n
 apart : ∀ (i i' : Nat) (s s' : Slot), sl[i]? = some s → sl[i']? = some s' → i ≠ i' → g i ≠ g i'
 ov1 : ∀ (i : Nat) (s : Slot) (k : Nat) (d : Tmp), sl[i]? = some s → s.al = some (k, d) → ov d = some (.pointer (some ⟨g i, 0, none⟩))
 ov2 : ∀ t, (∀ s ∈ sl, ∀ k, s.al ≠ some (k, t)) → ov t = none
theorem Inv.fin (T : Stat P md ops sl) {waits : Nat → Slot → Prop} {listed : Array Bool} {g : Nat → Nat} {ov : Tmp → Option Value} {w : World} (h : Inv waits sl D W listed ops.size g ov w) (hr : Region.ready md ops listed = []) : Fin sl D W g ov w := by
 have hall := all_listed T.low h.size hr
 have hal : ∀ s ∈ sl, Live listed s := fun s hs k d hk => by
  obtain ⟨o, _, ho, _⟩ := (T.slots s hs).al k d hk
  exact hall k (Array.getElem?_eq_some_iff.1 ho).1
 have hst : ∀ s ∈ sl, listed.getD s.st false = true := fun s hs => by
  obtain ⟨o, _, ho, _⟩ := (T.slots s hs).st
  exact hall _ (Array.getElem?_eq_some_iff.1 ho).1
 refine ⟨h.below, fun i s hi => ?_, fun i i' s s' hi hi' hne => h.apart i i' s s' hi hi' hne (hal s (List.mem_of_getElem? hi)) (hal s' (List.mem_of_getElem? hi')), fun i s k d hi hk => ?_, h.ov2⟩
 ·have := h.live i s hi (hal s (List.mem_of_getElem? hi))
  rw [hst s (List.mem_of_getElem? hi)] at this
  exact this
 ·rw [h.ov1 i s k d hi hk, hal s (List.mem_of_getElem? hi) k d hk]; rfl
theorem sim (T : Stat P md ops sl) {N : Nat} {Qf : Act → Prop} {Q' : Exit → Act → World → Prop} (hQ : ∀ a g ov w, Qf a → Fin sl D W g ov w → Q' .normal (over ov a) w)
  (hx : ∀ a, Qf a → ∀ s ∈ sl, a.eval s.x = s.u ∧ (s.al = none → a.eval s.ado = .pointer (some s.ad))) (hsz : ∀ s ∈ sl, ∀ k d, s.al = some (k, d) → d < N) :
  ∀ (fuel : Nat) (listed : Array Bool) (a : Act) (g : Nat → Nat) (ov : Tmp → Option Value) (w : World), N ≤ a.tmps.size → Inv (fun j s => ∃ o, ops[s.st]? = some o ∧ waitB md o j = true) sl D W listed ops.size g ov w →
   wpAnyM P md ops sl D W Qf fuel listed a → wpAny P md ops Q' fuel listed (over ov a) w
 | 0, listed, a, g, ov, w, hN, hI, h => ⟨h.1, hQ _ _ _ _ h.2 (hI.fin T h.1)⟩
 | fuel + 1, listed, a, g, ov, w, hN, hI, h => by
  refine ⟨fun hr => hQ _ _ _ _ (h.1 hr) (hI.fin T hr), fun j hj => ?_⟩
  obtain ⟨hun, o, ho, hall⟩ := mem_ready.1 hj
  have hjn : j < ops.size := (Array.getElem?_eq_some_iff.1 ho).1
  have hjl : j < listed.size := by rw [hI.size]; exact hjn
  have hunf : listed.getD j false = false := by simp [hjl] at hun ⊢; exact hun
  obtain ⟨v, hc, hn⟩ := h.2 j hj o ho
  unfold wpOp
  simp only [ho]
  cases hs : spB sl j with
  | false =>
   have hov : ∀ d, (d ∈ o.looksAt ops ∨ o.dst = some d) → ov d = none := fun d hd => hI.ov2 d fun s hs' k hk => by
    have := T.sep j o ho hs s hs' k d hk
    rcases hd with hd | hd
    ·exact this.1 hd
    ·exact this.2 hd
   have hmd : mdst sl j o = o.dst := by unfold mdst; rw [hs]; rfl
   rw [hmd] at hn
   rw [over_wanted fun d hd => hov d (.inl hd)]
   have hN' : ∀ u, N ≤ (a.put o.dst u).tmps.size := fun u => by unfold Act.put; split <;> simpa using hN
   rcases hc with ⟨hc, _⟩ | ⟨_, hw, hc⟩ | ⟨_, hw, rfl⟩
   ·rw [hs] at hc; cases hc
   ·rw [if_pos hw]
    refine .inl ?_
    unfold Oper.wp
    rw [over_exec (T.sel j o · · ho) fun d hd => hov d (.inl hd)]
    have h3 := hc w ⟨hI.below, fun s hs' hn hwt => by
     obtain ⟨i, hi⟩ := List.getElem?_of_mem hs'
     have hst : listed.getD s.st false = false := by
      cases hd : listed.getD s.st false with
      | false => rfl
      | true => rw [hI.early s hs' hd j hwt] at hunf; cases hunf
     obtain ⟨_, e, h4⟩ := hI.live i s hi (fun k d hk => by rw [hn] at hk; cases hk)
     rw [hst, e hn] at h4
     exact h4⟩
    generalize (execOp a.eval o).run P w = r at *
    cases r with
    | ok n w' =>
     cases n <;> simp only [calmUpon] at h3 <;> simp only [Oper.upon]
     case value u =>
      obtain ⟨rfl, rfl⟩ := h3
      rw [← over_put _ _ fun d hd => hov d (.inr hd)]
      exact sim T hQ hx hsz fuel _ _ g ov _ (hN' _) (hI.plain hjn hs (Below.refl _ _)) hn
     case skip =>
      obtain ⟨rfl, rfl⟩ := h3
      rw [← over_put _ _ fun d hd => hov d (.inr hd)]
      exact sim T hQ hx hsz fuel _ _ g ov _ (hN' _) (hI.plain hjn hs (Below.refl _ _)) hn
     case enter f args =>
      obtain ⟨rfl, hcall⟩ := h3
      refine hcall.mono fun e w'' ⟨he, hb⟩ => ?_
      subst he
      show wpAny P md ops Q' fuel _ ((over ov a).put o.dst v) w''
      rw [← over_put _ _ fun d hd => hov d (.inr hd)]
      exact sim T hQ hx hsz fuel _ _ g ov _ (hN' _) (hI.plain hjn hs hb) hn
    | halt x w' => simp only [calmUpon] at h3
   ·rw [if_neg (by rw [hw]; simp)]
    rw [← over_put _ _ fun d hd => hov d (.inr hd)]
    exact sim T hQ hx hsz fuel _ _ g ov _ (hN' _) (hI.plain hjn hs (Below.refl _ _)) hn
  | true =>
   have hmd : mdst sl j o = none := by unfold mdst; rw [hs]; rfl
   rw [hmd] at hn
   have hn : wpAnyM P md ops sl D W Qf fuel (listed.setIfInBounds j true) a := hn
   unfold spB at hs
   rw [List.any_eq_true] at hs
   obtain ⟨s, hm, hsj⟩ := hs
   obtain ⟨i, hi⟩ := List.getElem?_of_mem hm
   have S := T.slots s hm
   rw [Bool.or_eq_true] at hsj
   rcases hsj with hsj | hsj
   ·have hsj : s.st = j := by simpa using hsj
    subst hsj
    obtain ⟨o', t, ho', hop, hdst, hg, hal, hxs, hrun⟩ := S.st
    rw [ho] at ho'; cases ho'
    have hw : Region.wanted o (yielded ops (over ov a).tmps) = true := by unfold Region.wanted; rw [hg]
    rw [if_pos hw]
    refine .inl ?_
    have hlive : Live listed s := fun k d hk => by
     obtain ⟨_, e, he, hb, hon⟩ := hal k d hk
     have := hall e he hb
     rw [hon] at this; exact this
    have hcert : a.eval s.x = s.u ∧ (s.al = none → a.eval s.ado = .pointer (some s.ad)) := by
     have dn : ∀ (x : Operand), (∀ d, x = .tmp d → (s.x = .tmp d ∨ (s.al = none ∧ s.ado = .tmp d))) → ∀ (k : Nat) ok d, ops[k]? = some ok → listed.getD k true = false → ok.dst = some d → x ≠ .tmp d := fun x hx' k ok d hk hk2 hkd e => by
      obtain ⟨e', he, hb, hon⟩ := hxs k ok d hk hkd (hx' d e)
      have h1 := hall e' he hb
      rw [hon] at h1
      have : k < listed.size := by rw [hI.size]; exact (Array.getElem?_eq_some_iff.1 hk).1
      simp [this] at h1 hk2
      rw [h1] at hk2; cases hk2
     have dset : ∀ (x : Operand), (∀ d, x = .tmp d → (s.x = .tmp d ∨ (s.al = none ∧ s.ado = .tmp d))) → ∀ (k : Nat) ok d, ops[k]? = some ok → (listed.setIfInBounds s.st true).getD k true = false → ok.dst = some d → x ≠ .tmp d := fun x hx' k ok d hk hk2 hkd => by
      by_cases e : s.st = k
      ·subst e; rw [getD_set_eq hjl] at hk2; cases hk2
      ·rw [getD_set_ne true e] at hk2; exact dn x hx' k ok d hk hk2 hkd
     refine ⟨cert (fun a ha => (hx a ha s hm).1) fuel _ a (dset s.x fun d hd => .inl hd) hn, fun hnone => ?_⟩
     exact cert (fun a ha => (hx a ha s hm).2 hnone) fuel _ a (dset s.ado fun d hd => .inr ⟨hnone, hd⟩) hn
    have hex : (over ov a).eval s.x = s.u := by
     rw [over_eval fun d hd => hI.ov2 d (S.xs d (.inl hd)), hcert.1]
    obtain ⟨a1, a2, a3⟩ := hI.live i s hi hlive
    have hea : (over ov a).eval s.ado = .pointer (some (s.to (g i))) := by
     cases hsal : s.al with
     | none =>
      rw [over_eval fun d hd => hI.ov2 d (S.xs d (.inr ⟨hsal, hd⟩)), hcert.2 hsal]
      unfold Slot.to; rw [hsal]
     | some kd =>
      obtain ⟨k, d⟩ := kd
      rw [(hal k d hsal).1]
      have := hI.ov1 i s k d hi hsal
      rw [hlive k d hsal] at this
      rw [over_eval_at this (Nat.lt_of_lt_of_le (hsz s hm k d hsal) hN)]
      unfold Slot.to; rw [hsal]
    rw [hunf] at a3
    obtain ⟨w', hr, honly⟩ := hrun w (g i) a2 a3
    have hex2 : (execOp (over ov a).eval o).run P w = .ok .skip w' := by
     unfold execOp
     simp only [hop, hea, hex, Sem.run_bind, hr, Result.andThen_ok, Sem.run_pure]
    unfold Oper.wp
    rw [hex2]
    show wpAny P md ops Q' fuel _ ((over ov a).put o.dst _) _
    rw [hdst]
    exact sim T hQ hx hsz fuel _ _ g ov _ hN (hI.store T hjn hi hlive (fun j' hj' => by
     obtain ⟨o2, ho2, hw2⟩ := hj'
     rw [ho] at ho2; cases ho2
     obtain ⟨e, he, hb, hon⟩ := waitB_spec hw2
     rw [← hon]; exact hall e he hb) honly) hn
   ·unfold Slot.isAl at hsj
    split at hsj
    ·rename_i k d hal
     have hsj : k = j := by simpa using hsj
     subst hsj
     obtain ⟨o', T', ho', hop, hdst, hg, hrun⟩ := S.al k d hal
     rw [ho] at ho'; cases ho'
     have hw : Region.wanted o (yielded ops (over ov a).tmps) = true := by unfold Region.wanted; rw [hg]
     rw [if_pos hw]
     refine .inl ?_
     have hex2 : (execOp (over ov a).eval o).run P w = .ok (.value (.pointer (some ⟨w.heap.size, 0, none⟩))) (w.alloc s.z) := by
      unfold execOp
      simp only [hop, Sem.run_bind, hrun w, Result.andThen_ok, Sem.run_pure]
     unfold Oper.wp
     rw [hex2]
     show wpAny P md ops Q' fuel _ ((over ov a).put o.dst _) _
     rw [hdst, ← over_set]
     exact sim T hQ hx hsz fuel _ _ _ _ _ hN (hI.alloc T hjn hunf hi hal) hn
    ·cases hsj
end
end Go.Rg
namespace Go.Rg
open Go Go.RowKit
def isTmp : Operand → Nat → Bool
 | .tmp t, d => t == d
 | _, _ => false
theorem isTmp_iff {x : Operand} {d : Nat} : isTmp x d = true ↔ x = .tmp d := by
 unfold isTmp
 cases x <;> simp
def slotB (md : Region.Mode) (ops : Array Oper) (sl : List Slot) (s : Slot) : Bool :=
 (match ops[s.st]? with
  | some o => o.dst.isNone && o.guard.isNone &&
   (match s.al with | some (k, d) => isTmp s.ado d && waitB md o k && !(k == s.st) | none => true) &&
   (List.range ops.size).all fun j => match ops[j]? with
    | some oj => (match oj.dst with | some d => !(isTmp s.x d || (s.al.isNone && isTmp s.ado d)) || waitB md o j | none => true)
    | none => true
  | none => false) &&
 (match s.al with
  | some (k, d) => (match ops[k]? with | some o => o.dst == some d && o.guard.isNone | none => false)
  | none => true) &&
 sl.all fun s' => match s'.al with | some (_, d) => !(isTmp s.x d || (s.al.isNone && isTmp s.ado d)) | none => true
def twoB (s s' : Slot) : Bool :=
 !(s.st == s'.st) && (match s.al with | some (k, d) => !(s'.st == k) && (match s'.al with | some (k', d') => !(k == k') && !(d == d') | none => true) | none => true)
def pairsB : List Slot → Bool
 | [] => true
 | s :: r => (r.all fun s' => twoB s s' && twoB s' s) && pairsB r
def statB (md : Region.Mode) (ops : Array Oper) (sl : List Slot) : Bool :=
 ((List.range ops.size).all fun j => match ops[j]? with
  | some o => (o.after.all fun e => !Region.binds md e || decide (e.on < j)) &&
    (spB sl j || sl.all fun s => match s.al with | some (_, d) => !(o.looksAt ops).contains d && o.dst != some d | none => true)
  | none => true) && Region.noSelect ops && sl.all (slotB md ops sl) && pairsB sl
theorem pairsB_spec : ∀ (sl : List Slot), pairsB sl = true → ∀ (i i' : Nat) (s s' : Slot), sl[i]? = some s → sl[i']? = some s' → i ≠ i' → twoB s s' = true
 | [], _, i, i', s, s', h, _, _ => by simp at h
 | x :: r, h, i, i', s, s', h1, h2, hne => by
  unfold pairsB at h
  rw [Bool.and_eq_true, List.all_eq_true] at h
  obtain ⟨ha, hr⟩ := h
  cases i with
  | zero =>
   cases i' with
   | zero => exact absurd rfl hne
   | succ i' =>
    simp only [List.getElem?_cons_zero, Option.some.injEq] at h1
    simp only [List.getElem?_cons_succ] at h2
    subst h1
    have := ha s' (List.mem_of_getElem? h2)
    rw [Bool.and_eq_true] at this
    exact this.1
  | succ i =>
   cases i' with
   | zero =>
    simp only [List.getElem?_cons_zero, Option.some.injEq] at h2
    simp only [List.getElem?_cons_succ] at h1
    subst h2
    have := ha s (List.mem_of_getElem? h1)
    rw [Bool.and_eq_true] at this
    exact this.2
   | succ i' =>
    simp only [List.getElem?_cons_succ] at h1 h2
    exact pairsB_spec r hr i i' s s' h1 h2 (by omega)
structure SlotRun (P : Program) (ops : Array Oper) (s : Slot) : Prop where
 st : ∃ t, (ops[s.st]?).map (fun o => o.op) = some (.store t s.ado s.x) ∧ ∀ w b, (s.al = none → b = s.ad.block) → w.heap[b]? = some s.z → ∃ w', (Instr.storeAt t (.pointer (some (s.to b))) s.u).run P w = .ok () w' ∧ Only b s.n w w'
 al : ∀ k d, s.al = some (k, d) → ∃ T, (ops[k]?).map (fun o => o.op) = some (.alloc T) ∧ ∀ w, (Instr.alloc T true (.tuple #[])).run P w = .ok (.pointer (some ⟨w.heap.size, 0, none⟩)) (w.alloc s.z)
theorem stat_of {P : Program} {md : Region.Mode} {ops : Array Oper} {sl : List Slot} (h : statB md ops sl = true) (hr : ∀ s ∈ sl, SlotRun P ops s)
  (hk : ∀ (i i' : Nat) (s s' : Slot), sl[i]? = some s → sl[i']? = some s' → i ≠ i' → s.al = none → s'.al = none → s.ad.block ≠ s'.ad.block) : Stat P md ops sl := by
 unfold statB at h
 simp only [Bool.and_eq_true] at h
 obtain ⟨⟨⟨h1, h2⟩, h3⟩, h4⟩ := h
 rw [List.all_eq_true] at h1 h3
 have key : ∀ (j : Nat) (o : Oper), ops[j]? = some o → (o.after.all fun e => !Region.binds md e || decide (e.on < j)) = true ∧ (spB sl j || sl.all fun s => match s.al with | some (_, d) => !(o.looksAt ops).contains d && o.dst != some d | none => true) = true := fun j o ho => by
  have := h1 j (List.mem_range.2 (Array.getElem?_eq_some_iff.1 ho).1)
  rw [ho] at this
  simpa only [Bool.and_eq_true] using this
 have slot : ∀ s ∈ sl, ∃ o, ops[s.st]? = some o ∧ o.dst = none ∧ o.guard = none ∧ (∀ k d, s.al = some (k, d) → s.ado = .tmp d ∧ waitB md o k = true ∧ k ≠ s.st) ∧
   (∀ (j : Nat) (oj : Oper) d, ops[j]? = some oj → oj.dst = some d → (s.x = .tmp d ∨ (s.al = none ∧ s.ado = .tmp d)) → waitB md o j = true) ∧
   (∀ k d, s.al = some (k, d) → ∃ o, ops[k]? = some o ∧ o.dst = some d ∧ o.guard = none) ∧
   (∀ d, (s.x = .tmp d ∨ (s.al = none ∧ s.ado = .tmp d)) → ∀ s' ∈ sl, ∀ k, s'.al ≠ some (k, d)) := fun s hs => by
  have := h3 s hs
  unfold slotB at this
  simp only [Bool.and_eq_true] at this
  obtain ⟨⟨a1, a2⟩, a3⟩ := this
  cases ho : ops[s.st]? with
  | none => rw [ho] at a1; cases a1
  | some o =>
   rw [ho] at a1
   simp only [Bool.and_eq_true, Option.isNone_iff_eq_none] at a1
   obtain ⟨⟨⟨b1, b2⟩, b3⟩, b4⟩ := a1
   refine ⟨o, rfl, b1, b2, fun k d hk => ?_, fun j oj d hj hd hx => ?_, fun k d hk => ?_, fun d hx s' hs' k hk => ?_⟩
   ·rw [hk] at b3
    simp only [Bool.and_eq_true, isTmp_iff] at b3
    exact ⟨b3.1.1, b3.1.2, by simpa using b3.2⟩
   ·rw [List.all_eq_true] at b4
    have := b4 j (List.mem_range.2 (Array.getElem?_eq_some_iff.1 hj).1)
    rw [hj] at this
    simp only [hd] at this
    rw [Bool.or_eq_true] at this
    rcases this with this | this
    ·exfalso
     simp only [Bool.not_eq_true', Bool.or_eq_false_iff, Bool.and_eq_false_iff] at this
     rcases hx with hx | ⟨hn, hx⟩
     ·rw [isTmp_iff.2 hx] at this; cases this.1
     ·rcases this.2 with h | h
      ·rw [hn] at h; cases h
      ·rw [isTmp_iff.2 hx] at h; cases h
    ·exact this
   ·rw [hk] at a2
    simp only at a2
    cases hok : ops[k]? with
    | none => rw [hok] at a2; cases a2
    | some ok =>
     rw [hok] at a2
     simp only [Bool.and_eq_true, beq_iff_eq, Option.isNone_iff_eq_none] at a2
     exact ⟨ok, rfl, a2⟩
   ·rw [List.all_eq_true] at a3
    have := a3 s' hs'
    rw [hk] at this
    simp only [Bool.not_eq_true', Bool.or_eq_false_iff, Bool.and_eq_false_iff] at this
    rcases hx with hx | ⟨hn, hx⟩
    ·rw [isTmp_iff.2 hx] at this; cases this.1
    ·rcases this.2 with h | h
     ·rw [hn] at h; cases h
     ·rw [isTmp_iff.2 hx] at h; cases h
 refine ⟨fun j o ho e he hb => ?_, fun j o ho hs s hm k d hk => ?_, Region.noSelect_spec h2, fun s hs => ⟨?_, fun k d hk => ?_, ?_⟩, fun s hs k d hk => ?_, fun i i' s s' hi hi' hne => ⟨?_, fun k d hk' => ⟨?_, fun k' d' hk2 => ?_⟩, hk i i' s s' hi hi' hne⟩⟩
 ·have := (key j o ho).1
  rw [Array.all_eq_true'] at this
  have := this e he
  simpa [hb] using this
 ·have := (key j o ho).2
  rw [hs, Bool.false_or, List.all_eq_true] at this
  have := this s hm
  rw [hk] at this
  simpa using this
 ·obtain ⟨o, ho, hd, hg, b1, b2, b3, b4⟩ := slot s hs
  obtain ⟨t, hop, hrun⟩ := (hr s hs).st
  rw [ho] at hop
  simp only [Option.map_some, Option.some.injEq] at hop
  exact ⟨o, t, ho, hop, hd, hg, fun k d hk => ⟨(b1 k d hk).1, waitB_spec (b1 k d hk).2.1⟩, fun j oj d hj hjd hx => waitB_spec (b2 j oj d hj hjd hx), hrun⟩
 ·obtain ⟨o, ho, hd, hg, b1, b2, b3, b4⟩ := slot s hs
  obtain ⟨ok, hok, hokd, hokg⟩ := b3 k d hk
  obtain ⟨T, hop, hrun⟩ := (hr s hs).al k d hk
  rw [hok] at hop
  simp only [Option.map_some, Option.some.injEq] at hop
  exact ⟨ok, T, hok, hop, hokd, hokg, hrun⟩
 ·obtain ⟨o, ho, hd, hg, b1, b2, b3, b4⟩ := slot s hs
  exact b4
 ·obtain ⟨o, ho, hd, hg, b1, b2, b3, b4⟩ := slot s hs
  exact (b1 k d hk).2.2
 all_goals
  have := pairsB_spec sl h4 i i' s s' hi hi' hne
  unfold twoB at this
  simp only [Bool.and_eq_true] at this
 ·simpa using this.1
 ·have h := this.2; rw [hk'] at h; simp only [Bool.and_eq_true] at h; simpa using h.1
 ·have h := this.2; rw [hk'] at h; simp only [Bool.and_eq_true] at h
  have h2 := h.2
  rw [hk2] at h2
  simpa using h2
def putL : List Value → Nat → List Value → List Value
 | cs, _, [] => cs
 | cs, o, v :: r => putL (cs.set o v) (o + 1) r
theorem setCells_only (b : Nat) (t : TypeId) : ∀ (vs : List Value) (o : Nat) (cs : List Value) (w : World), Blk w b cs t → Only b (.cells (putL cs o vs).toArray t (0, 0)) w (w.setCells b o vs)
 | [], o, cs, w, h => ⟨rfl, rfl, rfl, rfl, h, fun _ _ => rfl⟩
 | v :: r, o, cs, w, h => by
  have ih := setCells_only b t r (o + 1) _ _ (h.set o v)
  exact ⟨ih.os, ih.tape, ih.output, by rw [World.setCells, ih.size]; simp [World.setCell], ih.new, fun k hk => (ih.same k hk).trans (Below.heap_setCell w ⟨b, o, none⟩ v k hk)⟩
theorem store_only {P : Program} {t T : TypeId} {b o : Nat} {cs : List Value} {u : Value} (hi : (P.info? t).map (·.size) = some u.cells.size) (h1 : u.cells.all (·.oneCell') = true) (hl : o + u.cells.size ≤ cs.length) (w : World)
  (h : w.heap[b]? = some (.cells cs.toArray T (0, 0))) : ∃ w', (Instr.storeAt t (.pointer (some ⟨b, o, none⟩)) u).run P w = .ok () w' ∧ Only b (.cells (putL cs o u.cells.toList).toArray T (0, 0)) w w' := by
 have hb : Blk w b cs T := h
 refine ⟨w.setCells b o u.cells.toList, ?_, setCells_only b T _ o cs w hb⟩
 have := run_storeCells_cells (P := P) b o u.cells.toList 0 w (fun j hj => by
   have hj' : o + j < cs.length := by simp at hj; omega
   rw [hb.cell (j := o + 0 + j) (v := cs[o + j]) (by rw [show o + 0 + j = o + j by omega]; exact List.getElem?_eq_getElem hj')]; rfl) (fun j hj => hb.frozen _) (fun v hv => (Array.all_eq_true_iff_forall_mem.1 h1) v (by simpa using hv))
 cases hq : P.info? t with
 | none => simp [hq] at hi
 | some i =>
  have hs : u.cells.size = i.size := by simp [hq] at hi; omega
  simp only [Nat.add_zero] at this
  simp [Instr.storeAt, Instr.sureAddr, storeVar, sizeOf, typeInfo, hq, hs, this]
theorem alloc_run {P : Program} {T : TypeId} {z : Value} {n : Nat} (h : (P.info? T).map (fun i => (i.zero, i.size)) = some (some z, n)) (w : World) :
  (Instr.alloc T true (.tuple #[])).run P w = .ok (.pointer (some ⟨w.heap.size, 0, none⟩)) (w.alloc (.cells z.cells T (0, 0))) := by
 have h1 := (zero_of_info h).1 w
 simp only [Instr.alloc, Sem.run_bind, h1, Result.andThen_ok, newVar, newRow, run_newObj_alloc, Sem.run_pure]
def aslot (k : Nat) (d : Tmp) (st : Nat) (x : Operand) (u z : Value) (T : TypeId) : Slot :=
 { al := some (k, d), ad := ⟨0, 0, none⟩, st := st, ado := .tmp d, x := x, u := u, z := .cells z.cells T (0, 0), n := .cells u.cells T (0, 0) }
def kslot (b o st : Nat) (ado x : Operand) (u : Value) (cs : List Value) (T : TypeId) : Slot :=
 { al := none, ad := ⟨b, o, none⟩, st := st, ado := ado, x := x, u := u, z := .cells cs.toArray T (0, 0), n := .cells (putL cs o u.cells.toList).toArray T (0, 0) }
theorem putL_all : ∀ (vs pre cs : List Value), cs.length = vs.length → putL (pre ++ cs) pre.length vs = pre ++ vs
 | [], pre, cs, h => by
  have : cs = [] := List.eq_nil_of_length_eq_zero h
  subst this; rfl
 | v :: r, pre, cs, h => by
  cases cs with
  | nil => simp at h
  | cons c cs =>
   have e : (pre ++ c :: cs).set pre.length v = (pre ++ [v]) ++ cs := by
    rw [List.set_append_right _ _ (Nat.le_refl _)]; simp
   rw [putL, e]
   have := putL_all r (pre ++ [v]) cs (by simpa using h)
   rw [List.length_append] at this
   simpa using this
theorem arun {P : Program} {ops : Array Oper} {k : Nat} {d : Tmp} {st : Nat} {x : Operand} {u z : Value} {T : TypeId} {n : Nat}
  (h1 : (ops[st]?).map (fun o => o.op) = some (.store T (.tmp d) x)) (h2 : (ops[k]?).map (fun o => o.op) = some (.alloc T)) (hi : (P.info? T).map (fun i => (i.zero, i.size)) = some (some z, n))
  (hz : z.cells.size = n) (hu : u.cells.size = n) (ho : u.cells.all (·.oneCell') = true) : SlotRun P ops (aslot k d st x u z T) := by
 refine ⟨⟨T, h1, fun w b _ hb => ?_⟩, fun k' d' hk => ?_⟩
 ·obtain ⟨w', e1, e2⟩ := store_only (P := P) (t := T) (T := T) (b := b) (o := 0) (cs := z.cells.toList) (u := u) (by rw [(zero_of_info hi).2, hu]) ho (by simp; omega) w (by simpa [aslot] using hb)
  refine ⟨w', e1, ?_⟩
  have := putL_all u.cells.toList [] z.cells.toList (by simp; omega)
  simp only [List.nil_append, List.length_nil] at this
  rw [this] at e2
  simpa [aslot] using e2
 ·simp only [aslot, Option.some.injEq, Prod.mk.injEq] at hk
  obtain ⟨rfl, rfl⟩ := hk
  exact ⟨T, h2, fun w => alloc_run hi w⟩
theorem krun {P : Program} {ops : Array Oper} {b o st : Nat} {ado x : Operand} {u : Value} {cs : List Value} {t T : TypeId}
  (h1 : (ops[st]?).map (fun o => o.op) = some (.store t ado x)) (hi : (P.info? t).map (·.size) = some u.cells.size) (ho : u.cells.all (·.oneCell') = true) (hl : o + u.cells.size ≤ cs.length) : SlotRun P ops (kslot b o st ado x u cs T) := by
 refine ⟨⟨t, h1, fun w b' hb' hb => ?_⟩, fun k' d' hk => by simp [kslot] at hk⟩
 have : b' = b := hb' rfl
 subst this
 exact store_only hi ho hl w hb
section
variable {P : Program} {l : List Oper} {sl : List Slot} {D : List Nat} {W : World} {Qf : Act → Prop} {a : Act} {k : Nat} {o : Oper} {rest : List Oper} {v : Value}
theorem mdst_of (h : spB sl k = false) : mdst sl k o = o.dst := by unfold mdst; rw [h]; rfl
theorem calm_val (hs : spB sl k = false) (hw : Region.wanted o (yielded l.toArray a.tmps) = true) (hy : ∀ w, Cls .any l.toArray sl D W k w → (execOp a.eval o).run P w = .ok (.value v) w)
  (h : wpCalm P .any l.toArray sl D W Qf (k + 1) rest (a.put o.dst v)) : wpCalm P .any l.toArray sl D W Qf k (o :: rest) a :=
 ⟨v, .inr (.inl ⟨hs, hw, fun w hb => by rw [hy w hb]; exact ⟨rfl, rfl⟩⟩), by rw [mdst_of hs]; exact h⟩
theorem cX (v : Value) (a' : Act) (hy : ∀ w, Cls .any l.toArray sl D W k w → (execOp a.eval o).run P w = .ok (.value v) w)
  (h : wpCalm P .any l.toArray sl D W Qf (k + 1) rest a') (hs : spB sl k = false := by rfl) (hw : Region.wanted o (yielded l.toArray a.tmps) = true := by rfl)
  (he : a.put o.dst v = a' := by (try simp only [td]); exact rfl) : wpCalm P .any l.toArray sl D W Qf k (o :: rest) a := calm_val hs hw hy (he ▸ h)
theorem cW (v : Value) (a' : Act) (h : wpCalm P .any l.toArray sl D W Qf (k + 1) rest a')
  (hy : ∀ w, Cls .any l.toArray sl D W k w → (execOp a.eval o).run P w = .ok (.value v) w := by intro wz hSw; go_simp; all_goals with_reducible rfl)
  (hs : spB sl k = false := by rfl) (hw : Region.wanted o (yielded l.toArray a.tmps) = true := by rfl)
  (he : a.put o.dst v = a' := by (try simp only [td]); exact rfl) : wpCalm P .any l.toArray sl D W Qf k (o :: rest) a := calm_val hs hw hy (he ▸ h)
theorem calm_skip (hs : spB sl k = false) (hw : Region.wanted o (yielded l.toArray a.tmps) = false)
  (h : wpCalm P .any l.toArray sl D W Qf (k + 1) rest (a.put o.dst undef)) : wpCalm P .any l.toArray sl D W Qf k (o :: rest) a :=
 ⟨undef, .inr (.inr ⟨hs, hw, rfl⟩), by rw [mdst_of hs]; exact h⟩
theorem calm_call {f : FuncId} {args : Array Value} (hs : spB sl k = false) (hw : Region.wanted o (yielded l.toArray a.tmps) = true) (hy : ∀ w, Cls .any l.toArray sl D W k w → (execOp a.eval o).run P w = .ok (.enter f args) w)
  (hc : ∀ w, Cls .any l.toArray sl D W k w → Calls P f args w fun e w' => e = .returned v ∧ Below w.heap.size w w')
  (h : wpCalm P .any l.toArray sl D W Qf (k + 1) rest (a.put o.dst v)) : wpCalm P .any l.toArray sl D W Qf k (o :: rest) a :=
 ⟨v, .inr (.inl ⟨hs, hw, fun w hb => by rw [hy w hb]; exact ⟨rfl, hc w hb⟩⟩), by rw [mdst_of hs]; exact h⟩
theorem cS (a' : Act) (h : wpCalm P .any l.toArray sl D W Qf (k + 1) rest a') (hs : spB sl k = false := by rfl) (hw : Region.wanted o (yielded l.toArray a.tmps) = false := by rfl)
  (he : a.put o.dst undef = a' := by (try simp only [td]); exact rfl) : wpCalm P .any l.toArray sl D W Qf k (o :: rest) a := calm_skip hs hw (he ▸ h)
theorem cC (f : FuncId) (args : Array Value) (v : Value) (a' : Act) (hc : ∀ w, Cls .any l.toArray sl D W k w → Calls P f args w fun e w' => e = .returned v ∧ Below w.heap.size w w')
  (h : wpCalm P .any l.toArray sl D W Qf (k + 1) rest a')
  (hy : ∀ w, Cls .any l.toArray sl D W k w → (execOp a.eval o).run P w = .ok (.enter f args) w := by intro wz hSw; go_simp; all_goals (first | with_reducible rfl | (constructor <;> with_reducible rfl)))
  (hs : spB sl k = false := by rfl) (hw : Region.wanted o (yielded l.toArray a.tmps) = true := by rfl)
  (he : a.put o.dst v = a' := by (try simp only [td]); exact rfl) : wpCalm P .any l.toArray sl D W Qf k (o :: rest) a := calm_call hs hw hy hc (he ▸ h)
theorem calm_end (h : Qf a) : wpCalm P .any l.toArray sl D W Qf k [] a := h
theorem calm_sp (hs : spB sl k = true) (h : wpCalm P .any l.toArray sl D W Qf (k + 1) rest a) : wpCalm P .any l.toArray sl D W Qf k (o :: rest) a :=
 ⟨undef, .inl ⟨hs, rfl⟩, by
  have : mdst sl k o = none := by unfold mdst; rw [hs]; rfl
  rw [this]; exact h⟩
theorem cB (h : wpCalm P .any l.toArray sl D W Qf (k + 1) rest a) (hs : spB sl k = true := by rfl) : wpCalm P .any l.toArray sl D W Qf k (o :: rest) a := calm_sp hs h
end
section
variable {P : Program} {l : List Oper} {sl : List Slot} {Q : Exit → Act → World → Prop} {a : Act} {w : World}
theorem put_size (a : Act) (d : Option Tmp) (v : Value) : (a.put d v).tmps.size = a.tmps.size := by unfold Act.put; split <;> simp
def Every (P : Program) (l : List Oper) (Q : Exit → Act → World → Prop) (a : Act) (w : World) : Prop := ∀ w1, (w1 = w ∨ w1 = w.drew) → wpAny P .any l.toArray Q l.toArray.size (Array.replicate l.toArray.size false) a w1
theorem calm_any (hs : Region.noSelect l.toArray = true) (T : Stat P .any l.toArray sl) (N : Nat) (hN : N ≤ a.tmps.size) (hdN : ∀ s ∈ sl, ∀ k d, s.al = some (k, d) → d < N) (hlex : lexM .any l.toArray sl l.length 0 (Array.replicate l.length false) = true)
  (D : List Nat) (hk : ∀ s ∈ sl, s.al = none → s.ad.block ∈ D ∧ w.heap[s.ad.block]? = some s.z)
  (h : wpCalm P .any l.toArray sl D w (fun a' => (∀ s ∈ sl, a'.eval s.x = s.u ∧ (s.al = none → a'.eval s.ado = .pointer (some s.ad))) ∧ ∀ g ov w', Fin sl D w g ov w' → Q .normal (over ov a') w') 0 l a) :
  Every P l Q a w := by
 intro w1 hw1
 have hw2 : w1.heap = w.heap ∧ Stay D w w1 := by rcases hw1 with rfl | rfl; exact ⟨rfl, Stay.refl _ _⟩; exact ⟨rfl, (Stay.refl _ _).drew⟩
 have hM := wpAnyM_lex (md := .any) hs l 0 (Array.replicate l.length false) a (by simp) hlex h
 have e := over_none a
 rw [← e]
 have hsz : l.toArray.size = l.length := by simp
 rw [hsz]
 have none_listed : ∀ j, (Array.replicate l.length false).getD j false = false := fun j => by
  rcases Nat.lt_or_ge j l.length with h | h
  ·simp [h]
  ·simp [h]
 have nolive : ∀ s ∈ sl, Live (Array.replicate l.length false) s → s.al = none := fun s _ hl => by
  cases hal : s.al with
  | none => rfl
  | some kd =>
   obtain ⟨k, d⟩ := kd
   have := hl k d hal
   rw [none_listed] at this; cases this
 refine sim T (N := N) (Qf := _) (fun a' g ov w' hq hf => hq.2 g ov w' hf) (fun a' hq => hq.1) hdN l.length _ a (fun i => match sl[i]? with | some s => s.ad.block | none => 0) (fun _ => none) w1 hN ⟨hw2.2, by simp, fun i s hi hl => ?_, fun i i' s s' hi hi' hne hl hl' => ?_, fun i s k d hi hal => ?_, fun _ _ => rfl, fun s hs hd => ?_, fun s hs hd => ?_⟩ hM
 ·have hm := List.mem_of_getElem? hi
  have hn := nolive s hm hl
  obtain ⟨h1, h2⟩ := hk s hm hn
  simp only [hi, none_listed]
  rw [hw2.1]
  exact ⟨.inl h1, fun _ => trivial, h2⟩
 ·simp only [hi, hi']
  exact (T.two i i' s s' hi hi' hne).2.2 (nolive s (List.mem_of_getElem? hi) hl) (nolive s' (List.mem_of_getElem? hi') hl')
 ·rw [none_listed]; rfl
 ·rw [none_listed] at hd; cases hd
 ·rw [none_listed] at hd; cases hd
theorem ov_none {g : Nat → Nat} {ov : Tmp → Option Value} {D : List Nat} {w' : World} (hf : Fin sl D w g ov w') (h : ∀ s ∈ sl, s.al = none) : ov = fun _ => none :=
 funext fun t => hf.ov2 t fun s hs k e => by rw [h s hs] at e; cases e
def okB (l : List Oper) (sl : List Slot) (N : Nat) : Bool :=
 statB .any l.toArray sl && Region.noSelect l.toArray && lexM .any l.toArray sl l.length 0 (Array.replicate l.length false) && sl.all fun s => match s.al with | some (_, d) => decide (d < N) | none => true
theorem okB_spec {N : Nat} (h : okB l sl N = true) : statB .any l.toArray sl = true ∧ Region.noSelect l.toArray = true ∧ lexM .any l.toArray sl l.length 0 (Array.replicate l.length false) = true ∧ ∀ s ∈ sl, ∀ k d, s.al = some (k, d) → d < N := by
 unfold okB at h
 simp only [Bool.and_eq_true] at h
 obtain ⟨⟨⟨h1, h2⟩, h3⟩, h4⟩ := h
 refine ⟨h1, h2, h3, fun s hs k d hk => ?_⟩
 rw [List.all_eq_true] at h4
 have := h4 s hs
 rw [hk] at this
 simpa using this
theorem calm_none (hok : okB l [] 0 = true)
  (h : wpCalm P .any l.toArray [] [] w (fun a' => ∀ w', Below w.heap.size w w' → Q .normal a' w') 0 l a) : Every P l Q a w := by
 obtain ⟨h1, h2, h3, h4⟩ := okB_spec hok
 refine calm_any h2 (stat_of h1 (fun s hs => by cases hs) (fun i i' s s' hi => by simp at hi)) 0 (Nat.zero_le _) h4 h3 [] (fun s hs => by cases hs) ?_
 refine wpCalm_mono ?_ h
 intro a' hq
 refine ⟨(fun s hs => by cases hs), fun g ov w' hf => ?_⟩
 rw [ov_none hf (fun s hs => by cases hs), over_none]
 exact hq w' hf.below.all
theorem calm_k {b o st : Nat} {ado x : Operand} {u : Value} {cs : List Value} {t T : TypeId} (hok : okB l [kslot b o st ado x u cs T] 0 = true) (hblk : Blk w b cs T)
  (h1 : (l.toArray[st]?).map (fun o => o.op) = some (.store t ado x)) (hi : (P.info? t).map (·.size) = some u.cells.size) (ho : u.cells.all (·.oneCell') = true) (hl : o + u.cells.size ≤ cs.length)
  (h : wpCalm P .any l.toArray [kslot b o st ado x u cs T] [b] w (fun a' => a'.eval x = u ∧ a'.eval ado = .pointer (some ⟨b, o, none⟩) ∧ ∀ w', Stay [b] w w' → Blk w' b (putL cs o u.cells.toList) T → Q .normal a' w') 0 l a) :
  Every P l Q a w := by
 obtain ⟨h1', h2, h3, h4⟩ := okB_spec hok
 refine calm_any h2 (stat_of h1' (fun s hs => ?_) (fun i i' s s' hi hi' hne => ?_)) 0 (Nat.zero_le _) h4 h3 _ (fun s hs _ => ?_) (wpCalm_mono (fun a' hq => ⟨fun s hs => ?_, fun g ov w' hf => ?_⟩) h)
 ·rw [List.mem_singleton] at hs; subst hs; exact krun h1 hi ho hl
 ·have : i = 0 ∧ i' = 0 := by
   have a1 := (List.getElem?_eq_some_iff.1 hi).1
   have a2 := (List.getElem?_eq_some_iff.1 hi').1
   simp at a1 a2; exact ⟨a1, a2⟩
  omega
 ·rw [List.mem_singleton] at hs; subst hs; exact ⟨List.mem_singleton.2 rfl, hblk⟩
 ·rw [List.mem_singleton] at hs; subst hs; exact ⟨hq.1, fun _ => hq.2.1⟩
 ·rw [ov_none hf (fun s hs => by rw [List.mem_singleton] at hs; subst hs; rfl), over_none]
  obtain ⟨_, e, hh⟩ := hf.live 0 _ rfl
  rw [e rfl] at hh
  exact hq.2.2 w' hf.below hh
theorem calm_a {k : Nat} {d : Tmp} {st : Nat} {x : Operand} {u z : Value} {T : TypeId} {n : Nat} (hok : okB l [aslot k d st x u z T] a.tmps.size = true)
  (h1 : (l.toArray[st]?).map (fun o => o.op) = some (.store T (.tmp d) x)) (h2 : (l.toArray[k]?).map (fun o => o.op) = some (.alloc T)) (hi : (P.info? T).map (fun i => (i.zero, i.size)) = some (some z, n))
  (hz : z.cells.size = n) (hu : u.cells.size = n) (ho : u.cells.all (·.oneCell') = true)
  (h : wpCalm P .any l.toArray [aslot k d st x u z T] [] w (fun a' => a'.eval x = u ∧ ∀ b w', w.heap.size ≤ b → Below w.heap.size w w' → Blk w' b u.cells.toList T → Q .normal (a'.put (some d) (.pointer (some ⟨b, 0, none⟩))) w') 0 l a) :
  Every P l Q a w := by
 obtain ⟨h1', h2', h3, h4⟩ := okB_spec hok
 refine calm_any h2' (stat_of h1' (fun s hs => ?_) (fun i i' s s' hi hi' hne => ?_)) a.tmps.size (Nat.le_refl _) h4 h3 [] (fun s hs hn => ?_) (wpCalm_mono (fun a' hq => ⟨fun s hs => ?_, fun g ov w' hf => ?_⟩) h)
 ·rw [List.mem_singleton] at hs; subst hs; exact arun h1 h2 hi hz hu ho
 ·have : i = 0 ∧ i' = 0 := by
   have a1 := (List.getElem?_eq_some_iff.1 hi).1
   have a2 := (List.getElem?_eq_some_iff.1 hi').1
   simp at a1 a2; exact ⟨a1, a2⟩
  omega
 ·rw [List.mem_singleton] at hs; subst hs; cases hn
 ·rw [List.mem_singleton] at hs; subst hs; exact ⟨hq.1, fun hn => by cases hn⟩
 ·have e : ov = fun t => if t = d then some (.pointer (some ⟨g 0, 0, none⟩)) else none := funext fun t => by
   by_cases e : t = d
   ·subst e; rw [if_pos rfl]; exact hf.ov1 0 _ k t rfl rfl
   ·rw [if_neg e]; exact hf.ov2 t fun s hs k' e2 => by
     rw [List.mem_singleton] at hs; subst hs
     simp only [aslot, Option.some.injEq, Prod.mk.injEq] at e2
     exact e e2.2.symm
  rw [e, over_set, over_none]
  obtain ⟨e1, _, hh⟩ := hf.live 0 _ rfl
  exact hq.2 _ w' (by rcases e1 with e1 | e1; cases e1; exact e1) hf.below.all (by simpa [Blk, aslot] using hh)
theorem calm_aa {k k' : Nat} {d d' : Tmp} {st st' : Nat} {x x' : Operand} {u z u' z' : Value} {T T' : TypeId} {n n' : Nat} (hok : okB l [aslot k d st x u z T, aslot k' d' st' x' u' z' T'] a.tmps.size = true)
  (h1 : (l.toArray[st]?).map (fun o => o.op) = some (.store T (.tmp d) x)) (h2 : (l.toArray[k]?).map (fun o => o.op) = some (.alloc T)) (hi : (P.info? T).map (fun i => (i.zero, i.size)) = some (some z, n))
  (hz : z.cells.size = n) (hu : u.cells.size = n) (ho : u.cells.all (·.oneCell') = true)
  (g1 : (l.toArray[st']?).map (fun o => o.op) = some (.store T' (.tmp d') x')) (g2 : (l.toArray[k']?).map (fun o => o.op) = some (.alloc T')) (gi : (P.info? T').map (fun i => (i.zero, i.size)) = some (some z', n'))
  (gz : z'.cells.size = n') (gu : u'.cells.size = n') (go : u'.cells.all (·.oneCell') = true)
  (h : wpCalm P .any l.toArray [aslot k d st x u z T, aslot k' d' st' x' u' z' T'] [] w (fun a' => (a'.eval x = u ∧ a'.eval x' = u') ∧ ∀ b b' w', w.heap.size ≤ b → w.heap.size ≤ b' → b ≠ b' → Below w.heap.size w w' → Blk w' b u.cells.toList T → Blk w' b' u'.cells.toList T' →
   Q .normal ((a'.put (some d') (.pointer (some ⟨b', 0, none⟩))).put (some d) (.pointer (some ⟨b, 0, none⟩))) w') 0 l a) :
  Every P l Q a w := by
 obtain ⟨h1', h2', h3, h4⟩ := okB_spec hok
 have cases2 : ∀ s ∈ [aslot k d st x u z T, aslot k' d' st' x' u' z' T'], s = aslot k d st x u z T ∨ s = aslot k' d' st' x' u' z' T' := fun s hs => by simpa using hs
 refine calm_any h2' (stat_of h1' (fun s hs => ?_) (fun i i' s s' hi hi' hne hn => ?_)) a.tmps.size (Nat.le_refl _) h4 h3 [] (fun s hs hn => ?_) (wpCalm_mono (fun a' hq => ⟨fun s hs => ?_, fun g ov w' hf => ?_⟩) h)
 ·rcases cases2 s hs with rfl | rfl
  ·exact arun h1 h2 hi hz hu ho
  ·exact arun g1 g2 gi gz gu go
 ·rcases cases2 s (List.mem_of_getElem? hi) with rfl | rfl <;> cases hn
 ·rcases cases2 s hs with rfl | rfl <;> cases hn
 ·rcases cases2 s hs with rfl | rfl
  ·exact ⟨hq.1.1, fun hn => by cases hn⟩
  ·exact ⟨hq.1.2, fun hn => by cases hn⟩
 ·have e : ov = fun t => if t = d then some (.pointer (some ⟨g 0, 0, none⟩)) else (fun t => if t = d' then some (.pointer (some ⟨g 1, 0, none⟩)) else none) t := funext fun t => by
   by_cases e : t = d
   ·subst e; rw [if_pos rfl]; exact hf.ov1 0 _ k t rfl rfl
   ·rw [if_neg e]
    by_cases e' : t = d'
    ·subst e'; simp only [if_true]; exact hf.ov1 1 _ k' t rfl rfl
    ·simp only [e', if_false]
     exact hf.ov2 t fun s hs k2 e2 => by
      rcases cases2 s hs with rfl | rfl
      ·simp only [aslot, Option.some.injEq, Prod.mk.injEq] at e2
       exact e e2.2.symm
      ·simp only [aslot, Option.some.injEq, Prod.mk.injEq] at e2
       exact e' e2.2.symm
  rw [e, over_set, over_set, over_none]
  obtain ⟨e1, _, hh⟩ := hf.live 0 _ rfl
  obtain ⟨e2, _, hh2⟩ := hf.live 1 _ rfl
  exact hq.2 _ _ w' (by rcases e1 with e1 | e1; cases e1; exact e1) (by rcases e2 with e2 | e2; cases e2; exact e2) (hf.apart 0 1 _ _ rfl rfl (by omega)) hf.below.all (by simpa [Blk, aslot] using hh) (by simpa [Blk, aslot] using hh2)
theorem calm_kk {b o st b' o' st' : Nat} {ado x ado' x' : Operand} {u u' : Value} {cs cs' : List Value} {t T t' T' : TypeId} (hok : okB l [kslot b o st ado x u cs T, kslot b' o' st' ado' x' u' cs' T'] 0 = true)
  (hblk : Blk w b cs T) (hblk' : Blk w b' cs' T') (hne : b ≠ b')
  (h1 : (l.toArray[st]?).map (fun o => o.op) = some (.store t ado x)) (hi : (P.info? t).map (·.size) = some u.cells.size) (ho : u.cells.all (·.oneCell') = true) (hl : o + u.cells.size ≤ cs.length)
  (g1 : (l.toArray[st']?).map (fun o => o.op) = some (.store t' ado' x')) (gi : (P.info? t').map (·.size) = some u'.cells.size) (go : u'.cells.all (·.oneCell') = true) (gl : o' + u'.cells.size ≤ cs'.length)
  (h : wpCalm P .any l.toArray [kslot b o st ado x u cs T, kslot b' o' st' ado' x' u' cs' T'] [b, b'] w (fun a' => ((a'.eval x = u ∧ a'.eval ado = .pointer (some ⟨b, o, none⟩)) ∧ (a'.eval x' = u' ∧ a'.eval ado' = .pointer (some ⟨b', o', none⟩))) ∧
   ∀ w', Stay [b, b'] w w' → Blk w' b (putL cs o u.cells.toList) T → Blk w' b' (putL cs' o' u'.cells.toList) T' → Q .normal a' w') 0 l a) :
  Every P l Q a w := by
 obtain ⟨h1', h2, h3, h4⟩ := okB_spec hok
 have cases2 : ∀ s ∈ [kslot b o st ado x u cs T, kslot b' o' st' ado' x' u' cs' T'], s = kslot b o st ado x u cs T ∨ s = kslot b' o' st' ado' x' u' cs' T' := fun s hs => by simpa using hs
 refine calm_any h2 (stat_of h1' (fun s hs => ?_) (fun i i' s s' hi hi' hne2 _ _ => ?_)) 0 (Nat.zero_le _) h4 h3 _ (fun s hs _ => ?_) (wpCalm_mono (fun a' hq => ⟨fun s hs => ?_, fun g ov w' hf => ?_⟩) h)
 ·rcases cases2 s hs with rfl | rfl
  ·exact krun h1 hi ho hl
  ·exact krun g1 gi go gl
 ·have a1 := (List.getElem?_eq_some_iff.1 hi).1
  have a2 := (List.getElem?_eq_some_iff.1 hi').1
  simp at a1 a2
  have : (i = 0 ∧ i' = 1) ∨ (i = 1 ∧ i' = 0) := by omega
  rcases this with ⟨rfl, rfl⟩ | ⟨rfl, rfl⟩
  ·simp at hi hi'; subst hi hi'; exact hne
  ·simp at hi hi'; subst hi hi'; exact Ne.symm hne
 ·rcases cases2 s hs with rfl | rfl
  ·exact ⟨List.mem_cons_self .., hblk⟩
  ·exact ⟨List.mem_cons_of_mem _ (List.mem_singleton.2 rfl), hblk'⟩
 ·rcases cases2 s hs with rfl | rfl
  ·exact ⟨hq.1.1.1, fun _ => hq.1.1.2⟩
  ·exact ⟨hq.1.2.1, fun _ => hq.1.2.2⟩
 ·rw [ov_none hf (fun s hs => by rcases cases2 s hs with rfl | rfl <;> rfl), over_none]
  obtain ⟨_, e, hh⟩ := hf.live 0 _ rfl
  obtain ⟨_, e', hh'⟩ := hf.live 1 _ rfl
  rw [e rfl] at hh
  rw [e' rfl] at hh'
  exact hq.2 w' hf.below hh hh'
theorem calm_go {id : Nat} (hm : P.follows .mixedOrders = true) (h : Every P l Q a w) : (Code.region id l.toArray true).wp P Q a w := wp_region_any hm (h w.drew (.inr rfl))
theorem calm_in {id n : Nat} {r0 : Option Nat} (hm : P.follows .mixedOrders = true) (hL : ¬ LetsOut Q) (hp : l.all plainOp = true) (h : Every P l Q a w) : (Code.region id l.toArray true).wpIn (WF r0) n P Q a w := by
 have h1 := wpAnyIn_of_wpAny (n := n) hL _ _ _ _ (h w.drew (.inr rfl))
 refine wpIn_region_any hm ?_
 cases r0 with
 | none => exact h1
 | some l0 =>
  refine wpAny_round l0 (fun i o ho => ?_) _ _ _ _ h1
  rw [List.all_eq_true] at hp
  exact hp o (by simpa using List.mem_of_getElem? (by simpa using ho))
def seqB (ops : Array Oper) : Nat → Nat → Array Bool → Bool
 | 0, _, _ => true
 | fuel + 1, k, listed => (Region.ready .any ops listed).contains k && seqB ops fuel (k + 1) (listed.setIfInBounds k true)
theorem wpOps_of_any {ops : Array Oper} : ∀ (n k : Nat) (listed : Array Bool) (a : Act) (w : World), seqB ops n k listed = true → wpAny P .any ops Q n listed a w → wpOps P ops Q (List.range' k n) a w
 | 0, _, _, _, _, _, h => h.2
 | n + 1, k, listed, a, w, hB, h => by
  unfold seqB at hB
  rw [Bool.and_eq_true] at hB
  rw [List.range'_succ, wpOps_cons]
  exact wpOp_mono (fun a' w' h' => wpOps_of_any n (k + 1) _ a' w' hB.2 h') (h.2 k (by simpa using hB.1))
theorem calm_plain {id : Nat} (hq : seqB l.toArray l.length 0 (Array.replicate l.length false) = true) (h : Every P l Q a w) : (Code.region id l.toArray false).wp P Q a w := by
 refine wp_region ?_
 have h1 := h w (.inl rfl)
 have e : l.toArray.size = l.length := by simp
 rw [e] at h1 ⊢
 rw [List.range_eq_range']
 exact wpOps_of_any _ _ _ _ _ hq h1
theorem cP {id : Nat} (h : Every P l Q a w) (hq : seqB l.toArray l.length 0 (Array.replicate l.length false) = true := by kernel_rfl) : (Code.region id l.toArray false).wp P Q a w := calm_plain hq h
theorem cG {id : Nat} (h : Every P l Q a w) (hm : P.follows .mixedOrders = true := by kernel_rfl) : (Code.region id l.toArray true).wp P Q a w := calm_go hm h
theorem cN (h : wpCalm P .any l.toArray [] [] w (fun a' => ∀ w', Below w.heap.size w w' → Q .normal a' w') 0 l a) (hok : okB l [] 0 = true := by kernel_rfl) : Every P l Q a w := calm_none hok h
end
end Go.Rg
namespace Go.Rg
open Go Go.RowKit Go.Wd
theorem ks {X : World} {q i : Nat} {v : Value} (a : Addr) (u : Value) (hne : q ≠ a.block) (hc : X.cell? ⟨q, i, none⟩ = some v) : (X.setCell a u).cell? ⟨q, i, none⟩ = some v :=
 (World.cell?_of_block (a := ⟨q, i, none⟩) (Below.heap_setCell _ _ _ _ hne)).trans hc
theorem c4 {w : World} {b : Nat} {a0 a1 a2 a3 : Value} {t : TypeId} (h : Blk w b [a0, a1, a2, a3] t) :
  w.cell? ⟨b, 0, none⟩ = some a0 ∧ w.cell? ⟨b, 1, none⟩ = some a1 ∧ w.cell? ⟨b, 2, none⟩ = some a2 ∧ w.cell? ⟨b, 3, none⟩ = some a3 := ⟨h.cell rfl, h.cell rfl, h.cell rfl, h.cell rfl⟩
theorem f4 {w : World} {b : Nat} {cs : List Value} {t : TypeId} (h : Blk w b cs t) :
  w.frozen? ⟨b, 0, none⟩ = false ∧ w.frozen? ⟨b, 1, none⟩ = false ∧ w.frozen? ⟨b, 2, none⟩ = false ∧ w.frozen? ⟨b, 3, none⟩ = false := ⟨h.frozen _, h.frozen _, h.frozen _, h.frozen _⟩
theorem s4 {T' : TypeId} {X : World} {b : Nat} {cs : List Value} (h : Blk X b cs T') (v0 v1 v2 v3 : Value) :
  (∀ B, B ≤ b → ∀ {w : World}, Below B w X → Below B w ((((X.setCell ⟨b, 0, none⟩ v0).setCell ⟨b, 1, none⟩ v1).setCell ⟨b, 2, none⟩ v2).setCell ⟨b, 3, none⟩ v3)) ∧
  Blk ((((X.setCell ⟨b, 0, none⟩ v0).setCell ⟨b, 1, none⟩ v1).setCell ⟨b, 2, none⟩ v2).setCell ⟨b, 3, none⟩ v3) b ((((cs.set 0 v0).set 1 v1).set 2 v2).set 3 v3) T' :=
 ⟨fun B hB w hw => (((hw.setCell (p := ⟨b, 0, none⟩) hB v0).setCell (p := ⟨b, 1, none⟩) hB v1).setCell (p := ⟨b, 2, none⟩) hB v2).setCell (p := ⟨b, 3, none⟩) hB v3, (((h.set 0 v0).set 1 v1).set 2 v2).set 3 v3⟩
end Go.Rg
namespace Go.Wd
open Go
def Fit (z : Int) : Prop := -(H4 : Int) ≤ z ∧ z < (H4 : Int)
theorem tc_add (x y : Int) (c : Nat) : U (tc x + tc y + c) = wI (x + y + c) := by
 unfold wI
 apply U_eq
 have h1 := tc_cast x
 have h2 := tc_cast y
 have h3 := tc_cast (x + y + c)
 simp only [B4] at h1 h2 h3 ⊢
 omega
theorem tc_not (x : Int) : B4 - 1 - tc x = tc (-x - 1) := by
 have h1 := tc_cast x
 have h2 := tc_cast (-x - 1)
 have h3 := tc_lt x
 simp only [B4] at h1 h2 h3 ⊢
 omega
theorem lb_not (n i : Nat) (h : n < B4) (hi : i < 4) : lb (B4 - 1 - n) i = B - 1 - lb n i := by
 have h3 := h
 have : i = 0 ∨ i = 1 ∨ i = 2 ∨ i = 3 := by omega
 unfold lb
 rcases this with rfl | rfl | rfl | rfl <;> simp only [B, B4, Nat.reducePow, Nat.div_one] at h3 ⊢ <;> omega
theorem tc_neg (z : Int) (hz : Fit z) : decide (z < 0) = decide (9223372036854775808 ≤ lb (tc z) 3) := by
 have h1 := tc_cast z
 have h2 := tc_lt z
 unfold Fit at hz
 unfold lb
 simp only [B, B4, H4, Nat.reducePow] at h1 h2 hz ⊢
 rw [decide_eq_decide]
 omega
end Go.Wd
namespace Go.Rg
open Go Go.RowKit
end Go.Rg
namespace Go.Proofs.YthbplhglfjlngaaGreat
open Go.RowKit Go.Rg Go.Wd
attribute [local go_sem] Oper.semAt_some
theorem wideOf_any (n : Int) (h1 : -9223372036854775808 ≤ n) (h2 : n ≤ 9223372036854775807) (w : World) :
  Calls Tryz.prog 58 #[.int .i64 n] w fun e w' => e = .returned (wI n) ∧ Below w.heap.size w w' := by
 go_enter Tryz.func58, Tryz.ntmps58
 by_cases hn : n < 0
 ·go_wp2_with fail
  go_rounds 4
  go_returns
  have e : IntKind.u64.wrap n = n + 18446744073709551616 := by rw [IntKind.wrap_u64]; omega
  refine ⟨by rw [wI_neg h1 hn, e], by go_grown⟩
 ·go_wp2_with fail
  go_returns
  exact ⟨by rw [wI_nonneg (by omega) h2], by go_grown⟩
theorem add64_any (x y c : Nat) (hc : c ≤ 1) (w : World) :
  (callFunc 103 #[.int .u64 (x : Int), .int .u64 (y : Int), .int .u64 (c : Int)]).run Tryz.prog w =
   .ok (.value (.tuple #[u64 ((x + y + c) % 18446744073709551616), u64 ((x + y + c) / 18446744073709551616)])) w := by
 rw [run_callFunc_extern Tryz.func103 (by kernel_rfl) (by kernel_rfl) (by kernel_rfl) (e := add64Entry) (by kernel_rfl), run_add64 x y c (by omega) (by omega) (by omega) (by omega)]
 simp only [Result.andThen]
 unfold u64
 congr 5 <;> omega
theorem four {T' : TypeId} {X : World} {b : Nat} {cs : List Value} (h : Blk X b cs T') (v0 v1 v2 v3 : Value) :
  (∀ B, B ≤ b → ∀ {w : World}, Below B w X → Below B w ((((X.setCell ⟨b, 0, none⟩ v0).setCell ⟨b, 1, none⟩ v1).setCell ⟨b, 2, none⟩ v2).setCell ⟨b, 3, none⟩ v3)) ∧
  Blk ((((X.setCell ⟨b, 0, none⟩ v0).setCell ⟨b, 1, none⟩ v1).setCell ⟨b, 2, none⟩ v2).setCell ⟨b, 3, none⟩ v3) b ((((cs.set 0 v0).set 1 v1).set 2 v2).set 3 v3) T' :=
 ⟨fun B hB w hw => (((hw.setCell (p := ⟨b, 0, none⟩) hB v0).setCell (p := ⟨b, 1, none⟩) hB v1).setCell (p := ⟨b, 2, none⟩) hB v2).setCell (p := ⟨b, 3, none⟩) hB v3, (((h.set 0 v0).set 1 v1).set 2 v2).set 3 v3⟩
theorem widePlus_any (a b c : Nat) (hc : c ≤ 1) (w : World) :
  Calls Tryz.prog 108 #[U a, U b, u64 c] w fun e w' => e = .returned (U (a + b + c)) ∧ Below w.heap.size w w' := by
 obtain ⟨W0, hW0⟩ : ∃ W0, [.cells #[u64 (lb a 0), u64 (lb a 1), u64 (lb a 2), u64 (lb a 3)] 60, .cells #[u64 (lb b 0), u64 (lb b 1), u64 (lb b 2), u64 (lb b 3)] 60, .cells #[.int .u64 0, .int .u64 0, .int .u64 0, .int .u64 0] 60, .cells #[.int .u64 0, .int .u64 0, .int .u64 0, .int .u64 0] 60].foldl World.alloc w = W0 := ⟨_, rfl⟩
 have B0 : Blk W0 w.heap.size (uL a) 60 := Blk.allocs _ hW0 0 rfl
 have B1 : Blk W0 (w.heap.size + 1) (uL b) 60 := Blk.allocs _ hW0 1 rfl
 have B2 : Blk W0 (w.heap.size + 2) (sumL (a + b + c) 0) 60 := Blk.allocs _ hW0 2 rfl
 have B3 : Blk W0 (w.heap.size + 3) (sumL (a + b + c) 0) 60 := Blk.allocs _ hW0 3 rfl
 have hBel : Below w.heap.size w W0 := hW0 ▸ allocs_below _ w
 have Hc := hH hc
 unfold U
 simp only [List.foldl_cons, List.foldl_nil] at hW0
 clear hc
 go_enter Tryz.func108, Tryz.ntmps108
 go_wp2_with fail
 go_loopg [2, 9] 4 (fun q s2 s9 wx => ∃ i : Nat, i + q = 4 ∧ s9 = .int .i64 (i : Int) ∧ s2 = u64 (car a b c i) ∧ Hid (Blk wx w.heap.size (uL a) 60) ∧ Hid (Blk wx (w.heap.size + 1) (uL b) 60) ∧ Hid (Blk wx (w.heap.size + 2) (sumL (a + b + c) 0) 60) ∧ Hid (Blk wx (w.heap.size + 3) (sumL (a + b + c) i) 60) ∧ Hid (Below w.heap.size w wx))
 case atStart => exact ⟨0, by omega, rfl, by rw [car_zero], B0, B1, B2, B3, hBel⟩
 case round =>
  clear B0 B1 B2 B3 hBel hW0
  obtain ⟨i, hiq, rfl, rfl, H0, H1, H2, H3, HB⟩ := hrel
  cases gk with
  | zero =>
   have hin : i = 4 := by omega
   subst hin
   have q0 : wr.cell? ⟨w.heap.size + 1 + 1 + 1, 0, none⟩ = some (u64 (lb (a + b + c) 0)) := H3.out.cell (j := 0) rfl
   have q1 : wr.cell? ⟨w.heap.size + 1 + 1 + 1, 1, none⟩ = some (u64 (lb (a + b + c) 1)) := H3.out.cell (j := 1) rfl
   have q2 : wr.cell? ⟨w.heap.size + 1 + 1 + 1, 2, none⟩ = some (u64 (lb (a + b + c) 2)) := H3.out.cell (j := 2) rfl
   have q3 : wr.cell? ⟨w.heap.size + 1 + 1 + 1, 3, none⟩ = some (u64 (lb (a + b + c) 3)) := H3.out.cell (j := 3) rfl
   have r0 : wr.cell? ⟨w.heap.size + 1 + 1, 0, none⟩ = some (.int .u64 0) := H2.out.cell (j := 0) rfl
   have r1 : wr.cell? ⟨w.heap.size + 1 + 1, 1, none⟩ = some (.int .u64 0) := H2.out.cell (j := 1) rfl
   have r2 : wr.cell? ⟨w.heap.size + 1 + 1, 2, none⟩ = some (.int .u64 0) := H2.out.cell (j := 2) rfl
   have r3 : wr.cell? ⟨w.heap.size + 1 + 1, 3, none⟩ = some (.int .u64 0) := H2.out.cell (j := 3) rfl
   have f0 : ∀ k, wr.frozen? ⟨w.heap.size + 1 + 1, k, none⟩ = false := fun k => H2.out.frozen k
   go_wp2_with fail
   have hF := four H2.out (u64 (lb (a + b + c) 0)) (u64 (lb (a + b + c) 1)) (u64 (lb (a + b + c) 2)) (u64 (lb (a + b + c) 3))
   have s0 := hF.2.cell (j := 0) rfl
   have s1 := hF.2.cell (j := 1) rfl
   have s2 := hF.2.cell (j := 2) rfl
   have s3 := hF.2.cell (j := 3) rfl
   refine bodyPost_ret (v := .agg #[u64 (lb (a + b + c) 0), u64 (lb (a + b + c) 1), u64 (lb (a + b + c) 2), u64 (lb (a + b + c) 3)]) (by simp [results, Tryz.results108, go_sem, s0, s1, s2, s3]) rfl ⟨rfl, ?_⟩
   exact hF.1 _ (by show _ ≤ w.heap.size + 2; omega) HB.out
  | succ q =>
   have hin : i < 4 := by omega
   have a0 : wr.cell? ⟨w.heap.size, i, none⟩ = some (u64 (lb a i)) := H0.out.cell (uL_at a i hin)
   have b0 : wr.cell? ⟨w.heap.size + 1, i, none⟩ = some (u64 (lb b i)) := H1.out.cell (uL_at b i hin)
   have q0 : wr.cell? ⟨w.heap.size + 1 + 1 + 1, i, none⟩ = some (.int .u64 0) := by
    have := H3.out.cell (sumL_at (a + b + c) i i hin)
    rw [if_neg (Nat.lt_irrefl _)] at this
    exact this
   have f0 : ∀ k, wr.frozen? ⟨w.heap.size + 1 + 1 + 1, k, none⟩ = false := fun k => H3.out.frozen k
   have hadd : ∀ wx : World, (callFunc 103 #[u64 (lb a i), u64 (lb b i), u64 (car a b c i)]).run Tryz.prog wx = .ok (.value (.tuple #[u64 (lb (a + b + c) i), u64 (car a b c (i + 1))])) wx := fun wx => by
    rw [add64_any _ _ _ (car_le _ _ _ _ Hc.out), lb_add, car_succ]
   go_wp2_with fail
   go_region_held3 (fun w' => w'.cell? ⟨w.heap.size, i, none⟩ = some (u64 (lb a i)) ∧ w'.cell? ⟨w.heap.size + 1, i, none⟩ = some (u64 (lb b i))) (first | exact ⟨(H0.out.other ⟨w.heap.size + 1 + 1 + 1, i, none⟩ (by show w.heap.size ≠ w.heap.size + 1 + 1 + 1; omega) _).drew.cell (uL_at a i hin), (H1.out.other ⟨w.heap.size + 1 + 1 + 1, i, none⟩ (by show w.heap.size + 1 ≠ w.heap.size + 1 + 1 + 1; omega) _).drew.cell (uL_at b i hin)⟩ | go_keep) (fail)
   have K0 : Hid (Blk _ w.heap.size (uL a) 60) := (H0.out.other ⟨w.heap.size + 1 + 1 + 1, i, none⟩ (by show w.heap.size ≠ w.heap.size + 1 + 1 + 1; omega) (u64 (lb (a + b + c) i))).drew
   have K1 : Hid (Blk _ (w.heap.size + 1) (uL b) 60) := (H1.out.other ⟨w.heap.size + 1 + 1 + 1, i, none⟩ (by show w.heap.size + 1 ≠ w.heap.size + 1 + 1 + 1; omega) (u64 (lb (a + b + c) i))).drew
   have K2 : Hid (Blk _ (w.heap.size + 2) (sumL (a + b + c) 0) 60) := (H2.out.other ⟨w.heap.size + 1 + 1 + 1, i, none⟩ (by show w.heap.size + 2 ≠ w.heap.size + 1 + 1 + 1; omega) (u64 (lb (a + b + c) i))).drew
   have K3 : Hid (Blk (wr.setCell ⟨w.heap.size + 1 + 1 + 1, i, none⟩ (u64 (lb (a + b + c) i))).drew (w.heap.size + 3) (sumL (a + b + c) (i + 1)) 60) := by
    have := (H3.out.set i (u64 (lb (a + b + c) i))).drew
    rw [sumL_set _ _ hin] at this
    exact this
   have KB : Hid (Below w.heap.size w _) := (HB.out.setCell (p := ⟨w.heap.size + 1 + 1 + 1, i, none⟩) (by show _ ≤ w.heap.size + 1 + 1 + 1; omega) (u64 (lb (a + b + c) i))).drew
   clear H0 H1 H2 H3 HB a0 b0 q0 f0
   go_wp2_with fail
   go_roundg q
   case measure => omega
   case rel => exact ⟨i + 1, by omega, by first | rfl | simp, rfl, K0, K1, K2, K3, KB⟩
end Go.Proofs.YthbplhglfjlngaaGreat
namespace Go.Proofs.YthbplhglfjlngaaGreat
open Go.RowKit Go.Rg Go.Wd
attribute [local go_sem] Oper.semAt_some
theorem xor_top (n : Nat) (h : n < 18446744073709551616) : bits .xor .u64 IntKind.u64.max (n : Int) = ((18446744073709551615 - n : Nat) : Int) := by
 have e : IntKind.u64.max = ((18446744073709551615 : Nat) : Int) := by decide
 rw [e, bits_xor_u64_nat _ _ (by decide) h]
 congr 1
 apply Nat.eq_of_testBit_eq
 intro i
 have e1 : 18446744073709551615 - n = 2 ^ 64 - (n + 1) := by omega
 have e2 : (18446744073709551615 : Nat) = 2 ^ 64 - 1 := by decide
 rw [e1, Nat.testBit_xor, e2, Nat.testBit_two_pow_sub_one, Nat.testBit_two_pow_sub_succ h]
 by_cases hi : i < 64
 ·simp [hi]
 ·have : n.testBit i = false := Nat.testBit_lt_two_pow (Nat.lt_of_lt_of_le h (by have : 2 ^ 64 ≤ 2 ^ i := Nat.pow_le_pow_right (by decide) (by omega); exact this))
  simp [hi, this]
theorem wideNeg_any (z : Int) (hz : Fit z) (w : World) :
  Calls Tryz.prog 86 #[wI z] w fun e w' => e = .returned (.bool (decide (z < 0))) ∧ Below w.heap.size w w' := by
 have h := tc_neg z hz
 have hl := lb_lt (tc z) 3
 unfold wI U
 go_enter Tryz.func86, Tryz.ntmps86
 go_wp2_with fail
 go_ret
 refine ⟨?_, by go_grown⟩
 rw [h]
 have e : ((lb (tc z) 3 : Int) / 9223372036854775808 != 0) = decide (9223372036854775808 ≤ lb (tc z) 3) := by
  rw [Bool.eq_iff_iff]
  simp only [bne_iff_ne, ne_eq, decide_eq_true_eq]
  omega
 rw [← e]
 rfl
theorem wideTurned_any (z : Int) (w : World) :
  Calls Tryz.prog 109 #[wI z] w fun e w' => e = .returned (wI (-z - 1)) ∧ Below w.heap.size w w' := by
 unfold wI
 rw [← tc_not]
 have h0 := lb_not (tc z) 0 (tc_lt z) (by omega)
 have h1 := lb_not (tc z) 1 (tc_lt z) (by omega)
 have h2 := lb_not (tc z) 2 (tc_lt z) (by omega)
 have h3 := lb_not (tc z) 3 (tc_lt z) (by omega)
 have l0 := lb_lt (tc z) 0
 have l1 := lb_lt (tc z) 1
 have l2 := lb_lt (tc z) 2
 have l3 := lb_lt (tc z) 3
 unfold U
 rw [h0, h1, h2, h3]
 go_enter Tryz.func109, Tryz.ntmps109
 go_wp2_with fail
 go_rounds 5
 go_returns
 rw [xor_top _ l0, xor_top _ l1, xor_top _ l2, xor_top _ l3]
 exact ⟨rfl, by go_grown⟩
theorem wideKept_any (z : Int) (b : Bool) (w : World) :
  Calls Tryz.prog 110 #[wI z, .bool b] w fun e w' => e = .returned (.tuple #[if b then wI z else wI 0, .bool b]) ∧ Below w.heap.size w w' := by
 unfold wI U
 go_enter Tryz.func110, Tryz.ntmps110
 cases b with
 | false =>
  go_wp2_with fail
  go_returns
  exact ⟨rfl, by go_grown⟩
 | true =>
  go_wp2_with fail
  go_returns
  exact ⟨rfl, by go_grown⟩
end Go.Proofs.YthbplhglfjlngaaGreat
namespace Go.Rg
open Go Go.RowKit Go.Wd
theorem grow_stay {D : List Nat} {A B C : World} {n : Nat} (h : Below n A B) (k : Stay D B C) (hD : ∀ d ∈ D, n ≤ d) (hn : n ≤ B.heap.size) : Below n A C := h.trans (k.below hn hD)
theorem gS {D : List Nat} {A B C : World} {n : Nat} (h : Below n A B) (k : Stay D B C) (hD : ∀ d ∈ D, n ≤ d := by simp <;> omega) (hn : n ≤ B.heap.size := by omega) : Below n A C := grow_stay h k hD hn
theorem Stay.of_below {A B : World} (h : Below A.heap.size A B) : Stay [] A B := ⟨h.os, h.tape, h.output, h.size, fun k _ hk => h.block k hk⟩
theorem sO {A B : World} (h : Below A.heap.size A B) : Stay [] A B := Stay.of_below h
theorem c1 {w : World} {b : Nat} {a0 : Value} {t : TypeId} (h : Blk w b [a0] t) : w.cell? ⟨b, 0, none⟩ = some a0 := h.cell rfl
theorem c2 {w : World} {b : Nat} {a0 a1 : Value} {t : TypeId} (h : Blk w b [a0, a1] t) : w.cell? ⟨b, 0, none⟩ = some a0 ∧ w.cell? ⟨b, 1, none⟩ = some a1 := ⟨h.cell rfl, h.cell rfl⟩
theorem c6 {w : World} {b : Nat} {a0 a1 a2 a3 a4 a5 : Value} {t : TypeId} (h : Blk w b [a0, a1, a2, a3, a4, a5] t) :
  w.cell? ⟨b, 0, none⟩ = some a0 ∧ w.cell? ⟨b, 1, none⟩ = some a1 ∧ w.cell? ⟨b, 2, none⟩ = some a2 ∧ w.cell? ⟨b, 3, none⟩ = some a3 ∧ w.cell? ⟨b, 4, none⟩ = some a4 ∧ w.cell? ⟨b, 5, none⟩ = some a5 :=
 ⟨h.cell rfl, h.cell rfl, h.cell rfl, h.cell rfl, h.cell rfl, h.cell rfl⟩
theorem c8 {w : World} {b : Nat} {a0 a1 a2 a3 a4 a5 a6 a7 : Value} {t : TypeId} (h : Blk w b [a0, a1, a2, a3, a4, a5, a6, a7] t) :
  w.cell? ⟨b, 0, none⟩ = some a0 ∧ w.cell? ⟨b, 1, none⟩ = some a1 ∧ w.cell? ⟨b, 2, none⟩ = some a2 ∧ w.cell? ⟨b, 3, none⟩ = some a3 ∧ w.cell? ⟨b, 4, none⟩ = some a4 ∧ w.cell? ⟨b, 5, none⟩ = some a5 ∧ w.cell? ⟨b, 6, none⟩ = some a6 ∧ w.cell? ⟨b, 7, none⟩ = some a7 :=
 ⟨h.cell rfl, h.cell rfl, h.cell rfl, h.cell rfl, h.cell rfl, h.cell rfl, h.cell rfl, h.cell rfl⟩
theorem c12 {w : World} {b : Nat} {a0 a1 a2 a3 a4 a5 a6 a7 a8 a9 a10 a11 : Value} {t : TypeId} (h : Blk w b [a0, a1, a2, a3, a4, a5, a6, a7, a8, a9, a10, a11] t) :
  w.cell? ⟨b, 0, none⟩ = some a0 ∧ w.cell? ⟨b, 1, none⟩ = some a1 ∧ w.cell? ⟨b, 2, none⟩ = some a2 ∧ w.cell? ⟨b, 3, none⟩ = some a3 ∧ w.cell? ⟨b, 4, none⟩ = some a4 ∧ w.cell? ⟨b, 5, none⟩ = some a5 ∧ w.cell? ⟨b, 6, none⟩ = some a6 ∧ w.cell? ⟨b, 7, none⟩ = some a7 ∧
  w.cell? ⟨b, 8, none⟩ = some a8 ∧ w.cell? ⟨b, 9, none⟩ = some a9 ∧ w.cell? ⟨b, 10, none⟩ = some a10 ∧ w.cell? ⟨b, 11, none⟩ = some a11 :=
 ⟨h.cell rfl, h.cell rfl, h.cell rfl, h.cell rfl, h.cell rfl, h.cell rfl, h.cell rfl, h.cell rfl, h.cell rfl, h.cell rfl, h.cell rfl, h.cell rfl⟩
theorem row_load {P : Program} {w : World} {b : Nat} {cs : List Value} {T : TypeId} {d : TypeDesc} (h : Blk w b cs T) (hu : P.underlying T = some d) (hd : (match d with | .struct _ | .array _ _ => true | _ => false) = true) (hi : (P.info? T).map (·.size) = some cs.length) :
  (loadVar T ⟨b, 0, none⟩).run P w = .ok (.agg cs.toArray) w := run_loadVar_row w b T T cs.toArray (0, 0) d h hu hd (by simpa using hi)
theorem load_row {P : Program} {o : Oper} {a : Act} {x : Operand} {w : World} {b : Nat} {cs : List Value} {T : TypeId} {d : TypeDesc} (ho : o.op = .load T x) (hx : a.eval x = .pointer (some ⟨b, 0, none⟩)) (h : Blk w b cs T) (hu : P.underlying T = some d)
  (hd : (match d with | .struct _ | .array _ _ => true | _ => false) = true) (hi : (P.info? T).map (·.size) = some cs.length) : (execOp a.eval o).run P w = .ok (.value (.agg cs.toArray)) w := by
 unfold execOp
 simp only [ho, hx, Instr.loadAt, Instr.sureAddr, Sem.run_bind, Sem.run_pure, Result.andThen_ok, row_load h hu hd hi]
theorem res_ct {P : Program} {fn : Func} {tmps : Array Value} {w : World} {k j b : Nat} {T : TypeId} {v : Value} (hr : fn.results = #[.cell k T, .tmp j]) (hk : tmps.getD k undef = .pointer (some ⟨b, 0, none⟩)) (hl : (loadVar T ⟨b, 0, none⟩).run P w = .ok v w) :
  (results fn tmps).run P w = .ok (.tuple #[v, tmps.getD j undef]) w := by
 have hk' : tmps[k]?.getD undef = .pointer (some ⟨b, 0, none⟩) := by simpa using hk
 simp [results, hr, hk', asAddr, hl]
theorem res_c {P : Program} {fn : Func} {tmps : Array Value} {w : World} {k b : Nat} {T : TypeId} {v : Value} (hr : fn.results = #[.cell k T]) (hk : tmps.getD k undef = .pointer (some ⟨b, 0, none⟩)) (hl : (loadVar T ⟨b, 0, none⟩).run P w = .ok v w) :
  (results fn tmps).run P w = .ok v w := by
 have hk' : tmps[k]?.getD undef = .pointer (some ⟨b, 0, none⟩) := by simpa using hk
 simp [results, hr, hk', asAddr, hl]
theorem putL_whole (cs vs : List Value) (h : cs.length = vs.length) : putL cs 0 vs = vs := by
 have := putL_all vs [] cs h
 simpa using this
theorem blk_whole {w : World} {b : Nat} {cs vs : List Value} {t : TypeId} (h : Blk w b (putL cs 0 vs) t) (hl : cs.length = vs.length) : Blk w b vs t := by rwa [putL_whole cs vs hl] at h
section
variable {P : Program} {l rest : List Oper} {Q : Exit → Act → World → Prop} {a : Act} {w : World} {o : Oper} {v : Value}
@[irreducible] def plW (P : Program) (l : List Oper) (Q : Exit → Act → World → Prop) (rest : List Oper) (a : Act) (w : World) : Prop := wpList P l.toArray Q rest a w
theorem pl_start {id : Nat} (h : plW P l Q l a w) : (Code.region id l.toArray false).wp P Q a w := by unfold plW at h; exact wp_region_lit h
theorem pl_end (h : Q .normal a w) : plW P l Q [] a w := by unfold plW; exact h
theorem pl_val (hw : Region.wanted o (yielded l.toArray a.tmps) = true) (hy : (execOp a.eval o).run P w = .ok (.value v) w) (h : plW P l Q rest (a.put o.dst v) w) : plW P l Q (o :: rest) a w := by
 unfold plW at *
 refine wpList_step fun K hK => ?_
 rw [if_pos hw]; unfold Oper.wp; rw [hy]; exact hK _ _ h
theorem pl_skip (hw : Region.wanted o (yielded l.toArray a.tmps) = false) (h : plW P l Q rest (a.put o.dst undef) w) : plW P l Q (o :: rest) a w := by
 unfold plW at *
 refine wpList_step fun K hK => ?_
 rw [if_neg (by rw [hw]; simp)]; exact hK _ _ h
theorem pl_do {w' : World} (hw : Region.wanted o (yielded l.toArray a.tmps) = true) (hy : (execOp a.eval o).run P w = .ok .skip w') (h : plW P l Q rest (a.put o.dst undef) w') : plW P l Q (o :: rest) a w := by
 unfold plW at *
 refine wpList_step fun K hK => ?_
 rw [if_pos hw]; unfold Oper.wp; rw [hy]; exact hK _ _ h
theorem pl_call {f : FuncId} {args : Array Value} {R : World → Prop} (hw : Region.wanted o (yielded l.toArray a.tmps) = true) (hy : (execOp a.eval o).run P w = .ok (.enter f args) w)
  (hc : Calls P f args w fun e w' => e = .returned v ∧ R w') (h : ∀ w', R w' → plW P l Q rest (a.put o.dst v) w') : plW P l Q (o :: rest) a w := by
 unfold plW at *
 refine wpList_step fun K hK => ?_
 rw [if_pos hw]; unfold Oper.wp; rw [hy]
 exact hc.mono fun e w' ⟨he, hr⟩ => by subst he; exact hK _ _ (h w' hr)
end
end Go.Rg
