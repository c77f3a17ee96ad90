/- Regions that draw their order, whose operations compute, read, or call what only makes new memory, beside new boxes and the stores into them: one walk in the order of the text serves every order. No program in sight. -/
import Derived.Test.YtlkhneiccjhgdaaGreatGRa
import Derived.Still
import Derived.Deep.WholeRow
import Derived.Deep.MidRow
import Derived.Great.BuildSlice
set_option linter.unusedVariables false
set_option linter.unusedSimpArgs false
namespace Go.Rg
open Go Go.RowKit
structure Slot where
 al : Option (Nat × Tmp)
 ad : Addr
 st : Nat
 ado : Operand
 x : Operand
 u : Value
 z : Obj
 n : Obj
def Slot.isAl (s : Slot) (j : Nat) : Bool := match s.al with | some (k, _) => k == j | none => false
def Slot.to (s : Slot) (b : Nat) : Addr := match s.al with | some _ => ⟨b, 0, none⟩ | none => s.ad
def spB (sl : List Slot) (j : Nat) : Bool := sl.any fun s => s.st == j || s.isAl j
def mdst (sl : List Slot) (j : Nat) (o : Oper) : Option Tmp := if spB sl j then none else o.dst
def mlooks (sl : List Slot) (ops : Array Oper) (j : Nat) (o : Oper) : List Tmp := if spB sl j then [] else o.looksAt ops
section
variable {P : Program} {ops : Array Oper} {md : Region.Mode} {sl : List Slot} {D : List Nat} {W : World}
def calmUpon (P : Program) (w : World) (v : Value) : Result Next → Prop
 | .ok (.value u) w' => w' = w ∧ u = v
 | .ok .skip w' => w' = w ∧ v = undef
 | .ok (.enter f args) w' => w' = w ∧ Calls P f args w (fun e w'' => e = .returned v ∧ Below w.heap.size w w'')
 | _ => False
def waitB (md : Region.Mode) (o : Oper) (k : Nat) : Bool := o.after.any fun e => Region.binds md e && e.on == k
theorem waitB_spec {md : Region.Mode} {o : Oper} {k : Nat} (h : waitB md o k = true) : ∃ e ∈ o.after, Region.binds md e = true ∧ e.on = k := by
 unfold waitB at h
 obtain ⟨e, he, hb⟩ := Array.any_eq_true'.1 h
 simp only [Bool.and_eq_true, beq_iff_eq] at hb
 exact ⟨e, he, hb⟩
def Cls (md : Region.Mode) (ops : Array Oper) (sl : List Slot) (D : List Nat) (W : World) (j : Nat) (w : World) : Prop :=
 Stay D W w ∧ ∀ s ∈ sl, s.al = none → (∃ o, ops[s.st]? = some o ∧ waitB md o j = true) → w.heap[s.ad.block]? = some s.z
def Calm (P : Program) (md : Region.Mode) (ops : Array Oper) (sl : List Slot) (D : List Nat) (W : World) (j : Nat) (o : Oper) (v : Value) (a : Act) : Prop :=
 (spB sl j = true ∧ v = undef) ∨
 (spB sl j = false ∧ Region.wanted o (yielded ops a.tmps) = true ∧ ∀ w, Cls md ops sl D W j w → calmUpon P w v ((execOp a.eval o).run P w)) ∨
 (spB sl j = false ∧ Region.wanted o (yielded ops a.tmps) = false ∧ v = undef)
def wpAnyM (P : Program) (md : Region.Mode) (ops : Array Oper) (sl : List Slot) (D : List Nat) (W : World) (Q : Act → Prop) : Nat → Array Bool → Act → Prop
 | 0, listed, a => Region.ready md ops listed = [] ∧ Q a
 | fuel + 1, listed, a => (Region.ready md ops listed = [] → Q a) ∧
  ∀ i ∈ Region.ready md ops listed, ∀ o, ops[i]? = some o → ∃ v, Calm P md ops sl D W i o v a ∧ wpAnyM P md ops sl D W Q fuel (listed.setIfInBounds i true) (a.put (mdst sl i o) v)
def apartM (ops : Array Oper) (sl : List Slot) (i : Nat) (x : Oper) (j : Nat) (y : Oper) : Bool :=
 (match mdst sl i x with
  | some d => !(mlooks sl ops j y).contains d && mdst sl j y != some d
  | none => true) &&
 (match mdst sl j y with
  | some d => !(mlooks sl ops i x).contains d
  | none => true)
theorem apartM_spec {i j : Nat} {x y : Oper} (h : apartM ops sl i x j y = true) :
  (∀ d, mdst sl i x = some d → d ∉ mlooks sl ops j y) ∧ (∀ d, mdst sl i x = some d → mdst sl j y ≠ some d) ∧ (∀ d, mdst sl j y = some d → d ∉ mlooks sl ops i x) := by
 unfold apartM at h
 rw [Bool.and_eq_true] at h
 obtain ⟨h1, h2⟩ := h
 refine ⟨fun d hd => ?_, fun d hd => ?_, fun d hd => ?_⟩
 ·rw [hd] at h1; simp at h1; exact h1.1
 ·rw [hd] at h1; simp at h1; exact h1.2
 ·rw [hd] at h2; simp at h2; exact h2
theorem Calm.put {j : Nat} {o : Oper} {v : Value} {a : Act} (hsel : ∀ cs b, o.op ≠ .select cs b) (dst : Option Tmp) (u : Value) (h : ∀ d, dst = some d → d ∉ mlooks sl ops j o) :
  Calm P md ops sl D W j o v (a.put dst u) ↔ Calm P md ops sl D W j o v a := by
 unfold Calm
 cases hs : spB sl j with
 | true => simp
 | false =>
  have h' : ∀ d, dst = some d → d ∉ o.looksAt ops := fun d hd => by have := h d hd; unfold mlooks at this; rw [hs] at this; exact this
  rw [execOp_put o hsel a dst u h', wanted_put o a dst u h']
theorem wpAnyM_first {Q : Act → Prop} {i : Nat} {oi : Oper} {v : Value} (hi : ops[i]? = some oi) (hsel : ∀ (j : Nat) (o : Oper) cs b, ops[j]? = some o → o.op ≠ .select cs b) :
  ∀ (fuel : Nat) (listed : Array Bool) (a : Act),
   (∀ j oj, ops[j]? = some oj → j ≠ i → listed.getD j true = false → (∀ e ∈ oj.after, Region.binds md e = true → e.on ≠ i) → apartM ops sl i oi j oj = true) →
   i ∈ Region.ready md ops listed → Calm P md ops sl D W i oi v a →
   wpAnyM P md ops sl D W Q fuel (listed.setIfInBounds i true) (a.put (mdst sl i oi) v) → wpAnyM P md ops sl D W Q (fuel + 1) listed a := by
 intro fuel
 induction fuel with
 | zero =>
  intro listed a _ hr hy H
  refine ⟨fun h => (by rw [h] at hr; cases hr), fun j hj o ho => ?_⟩
  by_cases hji : j = i
  ·subst hji; rw [hi] at ho; cases ho; exact ⟨v, hy, H⟩
  ·have := ready_mono hj hji
   rw [H.1] at this; cases this
 | succ fuel ih =>
  intro listed a hfree hr hy H
  refine ⟨fun h => (by rw [h] at hr; cases hr), fun j hj o ho => ?_⟩
  by_cases hji : j = i
  ·subst hji; rw [hi] at ho; cases ho; exact ⟨v, hy, H⟩
  ·obtain ⟨u, hu, hn⟩ := H.2 j (ready_mono hj hji) o ho
   obtain ⟨hun, oj, hoj, hall⟩ := mem_ready.1 hj
   obtain rfl : o = oj := Option.some.inj (ho.symm.trans hoj)
   have hno : ∀ e ∈ o.after, Region.binds md e = true → e.on ≠ i := fun e he hb heq => by
    have h1 := hall e he hb
    have h0 := (mem_ready.1 hr).1
    rw [heq] at h1
    rcases Nat.lt_or_ge i listed.size with h' | h'
    ·simp [h'] at h0 h1; rw [h0] at h1; cases h1
    ·simp [Array.getElem?_eq_none h'] at h1
   obtain ⟨p1, p2, p3⟩ := apartM_spec (hfree j o hoj hji hun hno)
   refine ⟨u, (Calm.put (fun cs b => hsel j o cs b hoj) _ _ p1).1 hu, ih _ _ (fun k ok hk hki hk2 hk3 => ?_) (ready_mono hr (Ne.symm hji)) ((Calm.put (fun cs b => hsel i oi cs b hi) _ _ p3).2 hy) ?_⟩
   ·refine hfree k ok hk hki ?_ hk3
    by_cases hjk : j = k
    ·rw [← hjk]; exact hun
    ·rwa [getD_set_ne true hjk] at hk2
   ·rw [Array.setIfInBounds_comm _ _ hji, ← Act.put_comm a v u p2]
    exact hn
def freeM (md : Region.Mode) (ops : Array Oper) (sl : List Slot) (listed : Array Bool) (i : Nat) : Bool :=
 match ops[i]? with
 | none => false
 | some oi => (List.range ops.size).all fun j => j == i || listed.getD j true || match ops[j]? with
   | some oj => oj.after.any (fun e => Region.binds md e && e.on == i) || apartM ops sl i oi j oj
   | none => true
theorem freeM_spec {i : Nat} {oi : Oper} {listed : Array Bool} (hi : ops[i]? = some oi) (h : freeM md ops sl listed i = true) (j : Nat) (oj : Oper)
  (hj : ops[j]? = some oj) (hne : j ≠ i) (hun : listed.getD j true = false) (hno : ∀ e ∈ oj.after, Region.binds md e = true → e.on ≠ i) : apartM ops sl i oi j oj = true := by
 unfold freeM at h
 rw [hi] at h
 simp only [List.all_eq_true, List.mem_range] at h
 have h1 := h j (Array.getElem?_eq_some_iff.1 hj).1
 simp only [hj, Bool.or_eq_true, beq_iff_eq, hne, false_or, hun, Bool.false_eq_true] at h1
 rcases h1 with h1 | h1
 ·obtain ⟨e, he, hb⟩ := Array.any_eq_true'.1 h1
  simp only [Bool.and_eq_true, beq_iff_eq] at hb
  exact absurd hb.2 (hno e he hb.1)
 ·exact h1
def wpCalm (P : Program) (md : Region.Mode) (ops : Array Oper) (sl : List Slot) (D : List Nat) (W : World) (Q : Act → Prop) : Nat → List Oper → Act → Prop
 | _, [], a => Q a
 | k, o :: rest, a => ∃ v, Calm P md ops sl D W k o v a ∧ wpCalm P md ops sl D W Q (k + 1) rest (a.put (mdst sl k o) v)
theorem wpCalm_mono {Q Q' : Act → Prop} (hq : ∀ a, Q a → Q' a) : ∀ {l : List Oper} {k : Nat} {a : Act}, wpCalm P md ops sl D W Q k l a → wpCalm P md ops sl D W Q' k l a
 | [], _, _, h => hq _ h
 | _ :: _, _, _, ⟨v, h1, h2⟩ => ⟨v, h1, wpCalm_mono hq h2⟩
def lexM (md : Region.Mode) (ops : Array Oper) (sl : List Slot) : Nat → Nat → Array Bool → Bool
 | 0, _, listed => (Region.ready md ops listed).isEmpty
 | fuel + 1, k, listed => (Region.ready md ops listed).contains k && freeM md ops sl listed k && lexM md ops sl fuel (k + 1) (listed.setIfInBounds k true)
theorem wpAnyM_lex {Q : Act → Prop} (hs : Region.noSelect ops = true) : ∀ (l : List Oper) (k : Nat) (listed : Array Bool) (a : Act), (∀ j, l[j]? = ops[k + j]?) →
  lexM md ops sl l.length k listed = true → wpCalm P md ops sl D W Q k l a → wpAnyM P md ops sl D W Q l.length listed a
 | [], _, _, _, _, hB, h => ⟨by simpa [lexM] using hB, h⟩
 | o :: l, k, listed, a, hl, hB, h => by
  have h0 : ops[k]? = some o := by simpa using (hl 0).symm
  simp only [List.length_cons, lexM, Bool.and_eq_true] at hB
  obtain ⟨⟨hr, hf⟩, hB'⟩ := hB
  obtain ⟨v, hy, hK⟩ := h
  exact wpAnyM_first h0 (Region.noSelect_spec hs) l.length listed a (freeM_spec h0 hf) (by simpa using hr) hy
   (wpAnyM_lex hs l (k + 1) _ _ (fun j => by have := hl (j + 1); simpa [Nat.add_assoc, Nat.add_comm 1 j] using this) hB' hK)
theorem cert {Q : Act → Prop} {x : Operand} {u : Value} (hQ : ∀ a, Q a → a.eval x = u) : ∀ (fuel : Nat) (listed : Array Bool) (a : Act),
  (∀ j o d, ops[j]? = some o → listed.getD j true = false → o.dst = some d → x ≠ .tmp d) → wpAnyM P md ops sl D W Q fuel listed a → a.eval x = u
 | 0, listed, a, _, h => hQ a h.2
 | fuel + 1, listed, a, hd, h => by
  cases hr : Region.ready md ops listed with
  | nil => exact hQ a (h.1 hr)
  | cons j r =>
   have hj : j ∈ Region.ready md ops listed := by rw [hr]; exact List.mem_cons_self ..
   obtain ⟨hun, o, ho, _⟩ := mem_ready.1 hj
   obtain ⟨v, _, hn⟩ := h.2 j hj o ho
   have := cert hQ fuel _ _ (fun k ok d hk hk2 hkd => by
    refine hd k ok d hk ?_ hkd
    by_cases hjk : j = k
    ·rw [← hjk]; exact hun
    ·rwa [getD_set_ne true hjk] at hk2) hn
   rw [← this]
   refine (Act.eval_put fun d hdd => ?_).symm
   unfold mdst at hdd
   split at hdd
   ·cases hdd
   ·exact hd j o d ho hun hdd
def over (ov : Tmp → Option Value) (a : Act) : Act := { a with tmps := a.tmps.mapIdx fun t v => (ov t).getD v }
theorem over_none (a : Act) : over (fun _ => none) a = a := by
 unfold over
 have : a.tmps.mapIdx (fun t v => ((fun _ => none : Tmp → Option Value) t).getD v) = a.tmps := by apply Array.ext <;> simp
 rw [this]
theorem over_tmps (ov : Tmp → Option Value) (a : Act) (i : Nat) : (over ov a).tmps[i]? = (a.tmps[i]?).map fun v => (ov i).getD v := by
 unfold over
 simp
theorem act_ext {a b : Act} (hd : a.defers = b.defers) (h : ∀ i : Nat, a.tmps[i]? = b.tmps[i]?) : a = b := by
 obtain ⟨t, d⟩ := a
 obtain ⟨t', d'⟩ := b
 simp only at hd h
 subst hd
 congr 1
 exact Array.ext_getElem? h
theorem put_tmps (a : Act) (d : Tmp) (v : Value) (i : Nat) : (a.put (some d) v).tmps[i]? = if d = i then (if i < a.tmps.size then some v else none) else a.tmps[i]? := by
 unfold Act.put
 simp only
 rw [Array.getElem?_setIfInBounds]
 by_cases e : d = i
 ·subst e; rfl
 ·rw [if_neg e, if_neg e]
theorem over_put {ov : Tmp → Option Value} {a : Act} (dst : Option Tmp) (v : Value) (h : ∀ d, dst = some d → ov d = none) : over ov (a.put dst v) = (over ov a).put dst v := by
 cases dst with
 | none => rfl
 | some d =>
  refine act_ext rfl fun i => ?_
  rw [over_tmps, put_tmps, put_tmps, over_tmps]
  by_cases e : d = i
  ·subst e
   rw [if_pos rfl, if_pos rfl, h d rfl]
   have : (over ov a).tmps.size = a.tmps.size := by unfold over; simp
   rw [this]
   split <;> simp
  ·rw [if_neg e, if_neg e]
theorem over_set {ov : Tmp → Option Value} {a : Act} (d : Tmp) (p : Value) : over (fun t => if t = d then some p else ov t) a = (over ov a).put (some d) p := by
 refine act_ext rfl fun i => ?_
 rw [over_tmps, put_tmps, over_tmps]
 have : (over ov a).tmps.size = a.tmps.size := by unfold over; simp
 rw [this]
 by_cases e : d = i
 ·subst e
  rw [if_pos rfl, if_pos rfl]
  by_cases hi : d < a.tmps.size
  ·rw [if_pos hi, Array.getElem?_eq_getElem hi]; rfl
  ·rw [if_neg hi, Array.getElem?_eq_none (Nat.le_of_not_lt hi)]; rfl
 ·rw [if_neg (fun h => e h.symm), if_neg e]
theorem over_eval {ov : Tmp → Option Value} {a : Act} {x : Operand} (h : ∀ d, x = .tmp d → ov d = none) : (over ov a).eval x = a.eval x := by
 cases x with
 | tmp t =>
  have ht := h t rfl
  unfold over Act.eval
  simp [ht]
 | _ => rfl
theorem over_eval_at {ov : Tmp → Option Value} {a : Act} {d : Tmp} {p : Value} (h : ov d = some p) (hd : d < a.tmps.size) : (over ov a).eval (.tmp d) = p := by
 unfold over Act.eval
 simp [h, hd]
structure SlotOk (P : Program) (md : Region.Mode) (ops : Array Oper) (sl : List Slot) (s : Slot) : Prop where
 st : ∃ o t, ops[s.st]? = some o ∧ o.op = .store t s.ado s.x ∧ o.dst = none ∧ o.guard = none ∧
  (∀ k d, s.al = some (k, d) → s.ado = .tmp d ∧ ∃ e ∈ o.after, Region.binds md e = true ∧ e.on = k) ∧
  (∀ j oj d, ops[j]? = some oj → oj.dst = some d → (s.x = .tmp d ∨ (s.al = none ∧ s.ado = .tmp d)) → ∃ e ∈ o.after, Region.binds md e = true ∧ e.on = j) ∧
  (∀ w b, (s.al = none → b = s.ad.block) → w.heap[b]? = some s.z → ∃ w', (Instr.storeAt t (.pointer (some (s.to b))) s.u).run P w = .ok () w' ∧ Only b s.n w w')
 al : ∀ k d, s.al = some (k, d) → ∃ o T, ops[k]? = some o ∧ o.op = .alloc T ∧ o.dst = some d ∧ o.guard = none ∧
  ∀ w, (Instr.alloc T true (.tuple #[])).run P w = .ok (.pointer (some ⟨w.heap.size, 0, none⟩)) (w.alloc s.z)
 xs : ∀ d, (s.x = .tmp d ∨ (s.al = none ∧ s.ado = .tmp d)) → ∀ s' ∈ sl, ∀ k, s'.al ≠ some (k, d)
structure Stat (P : Program) (md : Region.Mode) (ops : Array Oper) (sl : List Slot) : Prop where
 low : ∀ (j : Nat) (o : Oper), ops[j]? = some o → ∀ e ∈ o.after, Region.binds md e = true → e.on < j
 sep : ∀ (j : Nat) (o : Oper), ops[j]? = some o → spB sl j = false → ∀ s ∈ sl, ∀ k d, s.al = some (k, d) → d ∉ o.looksAt ops ∧ o.dst ≠ some d
 sel : ∀ (j : Nat) (o : Oper) cs b, ops[j]? = some o → o.op ≠ .select cs b
 slots : ∀ s ∈ sl, SlotOk P md ops sl s
 own : ∀ s ∈ sl, ∀ k d, s.al = some (k, d) → k ≠ s.st
 two : ∀ (i i' : Nat) (s s' : Slot), sl[i]? = some s → sl[i']? = some s' → i ≠ i' → s.st ≠ s'.st ∧ (∀ k d, s.al = some (k, d) → s'.st ≠ k ∧ ∀ k' d', s'.al = some (k', d') → k ≠ k' ∧ d ≠ d') ∧ (s.al = none → s'.al = none → s.ad.block ≠ s'.ad.block)
def Live (listed : Array Bool) (s : Slot) : Prop := ∀ k d, s.al = some (k, d) → listed.getD k false = true
structure Inv (waits : Nat → Slot → Prop) (sl : List Slot) (D : List Nat) (W : World) (listed : Array Bool) (n : Nat) (g : Nat → Nat) (ov : Tmp → Option Value) (w : World) : Prop where
 below : Stay D W w
 size : listed.size = n
 live : ∀ (i : Nat) (s : Slot), sl[i]? = some s → Live listed s → (g i ∈ D ∨ W.heap.size ≤ g i) ∧ (s.al = none → g i = s.ad.block) ∧ w.heap[g i]? = some (if listed.getD s.st false then s.n else s.z)
 apart : ∀ (i i' : Nat) (s s' : Slot), sl[i]? = some s → sl[i']? = some s' → i ≠ i' → Live listed s → Live listed s' → g i ≠ g i'
 ov1 : ∀ (i : Nat) (s : Slot) (k : Nat) (d : Tmp), sl[i]? = some s → s.al = some (k, d) → ov d = if listed.getD k false then some (.pointer (some ⟨g i, 0, none⟩)) else none
 ov2 : ∀ t, (∀ s ∈ sl, ∀ k, s.al ≠ some (k, t)) → ov t = none
 late : ∀ s ∈ sl, listed.getD s.st false = true → Live listed s
 early : ∀ s ∈ sl, listed.getD s.st false = true → ∀ j, waits j s → listed.getD j false = true
theorem getD_set_eq {listed : Array Bool} {i : Nat} (h : i < listed.size) (d : Bool) : (listed.setIfInBounds i true).getD i d = true := by simp [h]
theorem getD_set_iff {listed : Array Bool} {i j : Nat} (h : i < listed.size) : (listed.setIfInBounds i true).getD j false = (decide (i = j) || listed.getD j false) := by
 by_cases e : i = j
 ·subst e; rw [getD_set_eq h]; simp
 ·rw [getD_set_ne false e]; simp [e]
theorem live_set {listed : Array Bool} {i : Nat} {s : Slot} (hi : i < listed.size) (hn : s.isAl i = false) : Live (listed.setIfInBounds i true) s ↔ Live listed s := by
 unfold Live
 constructor
 ·intro h k d hk
  have := h k d hk
  rw [getD_set_iff hi] at this
  have hne : i ≠ k := fun e => by unfold Slot.isAl at hn; rw [hk] at hn; simp at hn; exact hn e.symm
  simpa [hne] using this
 ·intro h k d hk
  rw [getD_set_iff hi, h k d hk]; simp
theorem Inv.plain {waits : Nat → Slot → Prop} {listed : Array Bool} {n j : Nat} {g : Nat → Nat} {ov : Tmp → Option Value} {w w' : World} (h : Inv waits sl D W listed n g ov w) (hj : j < n) (hs : spB sl j = false)
  (hb : Below w.heap.size w w') : Inv waits sl D W (listed.setIfInBounds j true) n g ov w' := by
 have hjl : j < listed.size := by rw [h.size]; exact hj
 have no : ∀ s ∈ sl, s.st ≠ j ∧ s.isAl j = false := fun s hs' => by
  unfold spB at hs
  rw [List.any_eq_false] at hs
  have := hs s hs'
  simp at this
  exact ⟨this.1, by simpa using this.2⟩
 have hst : ∀ s ∈ sl, (listed.setIfInBounds j true).getD s.st false = listed.getD s.st false := fun s hs' => by
  rw [getD_set_ne false (Ne.symm (no s hs').1)]
 refine ⟨h.below.call hb, by simpa using h.size, fun i s hi hl => ?_, fun i i' s s' hi hi' hne hl hl' => ?_, fun i s k d hi hk => ?_, h.ov2, fun s hs' hd => ?_, fun s hs' hd k hk => ?_⟩
 ·have hm := List.mem_of_getElem? hi
  obtain ⟨h1, h2, h3⟩ := h.live i s hi ((live_set hjl (no s hm).2).1 hl)
  refine ⟨h1, h2, ?_⟩
  rw [hst s hm, hb.block _ (Array.getElem?_eq_some_iff.1 h3).1, h3]
 ·exact h.apart i i' s s' hi hi' hne ((live_set hjl (no s (List.mem_of_getElem? hi)).2).1 hl) ((live_set hjl (no s' (List.mem_of_getElem? hi')).2).1 hl')
 ·rw [h.ov1 i s k d hi hk]
  have hne : j ≠ k := fun e => by have := (no s (List.mem_of_getElem? hi)).2; unfold Slot.isAl at this; rw [hk] at this; simp at this; exact this e.symm
  rw [getD_set_ne false hne]
 ·rw [hst s hs'] at hd
  exact (live_set hjl (no s hs').2).2 (h.late s hs' hd)
 ·rw [hst s hs'] at hd
  rw [getD_set_iff hjl, h.early s hs' hd k hk]; simp
theorem Inv.alloc (T : Stat P md ops sl) {waits : Nat → Slot → Prop} {listed : Array Bool} {n k : Nat} {d : Tmp} {i : Nat} {s : Slot} {g : Nat → Nat} {ov : Tmp → Option Value} {w : World} (h : Inv waits sl D W listed n g ov w) (hk : k < n) (hun : listed.getD k false = false)
  (hi : sl[i]? = some s) (hal : s.al = some (k, d)) :
  Inv waits sl D W (listed.setIfInBounds k true) n (fun j => if j = i then w.heap.size else g j) (fun t => if t = d then some (.pointer (some ⟨w.heap.size, 0, none⟩)) else ov t) (w.alloc s.z) := by
 have hkl : k < listed.size := by rw [h.size]; exact hk
 have hm := List.mem_of_getElem? hi
 have other : ∀ (i' : Nat) (s' : Slot), sl[i']? = some s' → i' ≠ i → s'.isAl k = false := fun i' s' hi' hne => by
  unfold Slot.isAl
  cases ha : s'.al with
  | none => rfl
  | some kd =>
   obtain ⟨k', d'⟩ := kd
   have := (T.two i i' s s' hi hi' (Ne.symm hne)).2.1 k d hal
   have h2 := (this.2 k' d' ha).1
   simp [Ne.symm h2]
 have stn : ∀ s' ∈ sl, s'.st ≠ k := fun s' hs' => by
  obtain ⟨i', hi'⟩ := List.getElem?_of_mem hs'
  by_cases e : i' = i
  ·subst e; rw [hi] at hi'; cases hi'; exact (T.own s hm k d hal).symm
  ·exact ((T.two i i' s s' hi hi' (Ne.symm e)).2.1 k d hal).1
 have notlive : ¬ Live listed s := fun hl => by rw [hl k d hal] at hun; cases hun
 have hst : listed.getD s.st false = false := by
  cases hd : listed.getD s.st false with
  | false => rfl
  | true => exact absurd (h.late s hm hd) notlive
 refine ⟨h.below.alloc _, by simpa using h.size, fun i' s' hi' hl => ?_, fun i1 i2 s1 s2 h1 h2 hne hl1 hl2 => ?_, fun i' s' k' d' hi' hk' => ?_, fun t ht => ?_, fun s' hs' hd => ?_, fun s' hs' hd j hj => ?_⟩
 ·rw [getD_set_ne false (stn s' (List.mem_of_getElem? hi')).symm]
  by_cases e : i' = i
  ·subst e
   rw [hi] at hi'; cases hi'
   rw [if_pos rfl, hst]
   exact ⟨.inr h.below.size, (fun hn => by rw [hal] at hn; cases hn), World.alloc_heap_new w _⟩
  ·rw [if_neg e]
   obtain ⟨a1, a2, a3⟩ := h.live i' s' hi' ((live_set hkl (other i' s' hi' e)).1 hl)
   exact ⟨a1, a2, (Below.heap_alloc w _ _ (Array.getElem?_eq_some_iff.1 a3).1).trans a3⟩
 ·have lt : ∀ (i' : Nat) (s' : Slot), sl[i']? = some s' → i' ≠ i → Live (listed.setIfInBounds k true) s' → g i' < w.heap.size := fun i' s' hi' e hl =>
   (Array.getElem?_eq_some_iff.1 (h.live i' s' hi' ((live_set hkl (other i' s' hi' e)).1 hl)).2.2).1
  by_cases e1 : i1 = i
  ·have e2 : i2 ≠ i := fun e => hne (e1.trans e.symm)
   have := lt i2 s2 h2 e2 hl2
   simp only [e1, e2, if_true, if_false]; omega
  ·by_cases e2 : i2 = i
   ·have := lt i1 s1 h1 e1 hl1
    simp only [e1, e2, if_true, if_false]; omega
   ·simp only [e1, e2, if_false]
    exact h.apart i1 i2 s1 s2 h1 h2 hne ((live_set hkl (other i1 s1 h1 e1)).1 hl1) ((live_set hkl (other i2 s2 h2 e2)).1 hl2)
 ·by_cases e : i' = i
  ·subst e
   rw [hi] at hi'; cases hi'
   rw [hal] at hk'; cases hk'
   rw [getD_set_eq hkl]; simp
  ·have := ((T.two i i' s s' hi hi' (Ne.symm e)).2.1 k d hal).2 k' d' hk'
   simp only [e, this.2.symm, if_false]
   rw [getD_set_ne false this.1]
   exact h.ov1 i' s' k' d' hi' hk'
 ·have : t ≠ d := fun e => ht s hm k (by rw [hal, e])
  simp only [this, if_false]
  exact h.ov2 t ht
 ·rw [getD_set_ne false (stn s' hs').symm] at hd
  have := h.late s' hs' hd
  intro k' d' hk'
  rw [getD_set_iff hkl, this k' d' hk']; simp
 ·rw [getD_set_ne false (stn s' hs').symm] at hd
  rw [getD_set_iff hkl, h.early s' hs' hd j hj]; simp
theorem Inv.store (T : Stat P md ops sl) {waits : Nat → Slot → Prop} {listed : Array Bool} {n : Nat} {i : Nat} {s : Slot} {g : Nat → Nat} {ov : Tmp → Option Value} {w w' : World} (h : Inv waits sl D W listed n g ov w) (hk : s.st < n)
  (hi : sl[i]? = some s) (hl : Live listed s) (hdeps : ∀ j, waits j s → listed.getD j false = true) (ho : Only (g i) s.n w w') : Inv waits sl D W (listed.setIfInBounds s.st true) n g ov w' := by
 have hkl : s.st < listed.size := by rw [h.size]; exact hk
 have hm := List.mem_of_getElem? hi
 have nal : ∀ s' ∈ sl, s'.isAl s.st = false := fun s' hs' => by
  unfold Slot.isAl
  cases ha : s'.al with
  | none => rfl
  | some kd =>
   obtain ⟨k', d'⟩ := kd
   obtain ⟨i', hi'⟩ := List.getElem?_of_mem hs'
   by_cases e : i' = i
   ·subst e; rw [hi] at hi'; cases hi'; simp [T.own s hm k' d' ha]
   ·have := ((T.two i' i s' s hi' hi e).2.1 k' d' ha).1
    simp [Ne.symm this]
 refine ⟨⟨ho.os.trans h.below.os, ho.tape.trans h.below.tape, ho.output.trans h.below.output, by rw [ho.size]; exact h.below.size, fun k hk hkl => ?_⟩, by simpa using h.size, fun i' s' hi' hl' => ?_, fun i1 i2 s1 s2 h1 h2 hne hl1 hl2 => ?_, fun i' s' k' d' hi' hk' => ?_, h.ov2, fun s' hs' hd => ?_, fun s' hs' hd j hj => ?_⟩
 ·rw [ho.same k (fun e => by rcases (h.live i s hi hl).1 with h1 | h1; exact hk (e ▸ h1); omega)]; exact h.below.same k hk hkl
 ·have hl2 := (live_set hkl (nal s' (List.mem_of_getElem? hi'))).1 hl'
  obtain ⟨a1, a2, a3⟩ := h.live i' s' hi' hl2
  refine ⟨a1, a2, ?_⟩
  by_cases e : i' = i
  ·subst e
   rw [hi] at hi'; cases hi'
   rw [getD_set_eq hkl]
   exact ho.new
  ·have := (T.two i i' s s' hi hi' (Ne.symm e)).1
   rw [getD_set_ne false this, ho.same _ (h.apart i' i s' s hi' hi e hl2 hl)]
   exact a3
 ·exact h.apart i1 i2 s1 s2 h1 h2 hne ((live_set hkl (nal s1 (List.mem_of_getElem? h1))).1 hl1) ((live_set hkl (nal s2 (List.mem_of_getElem? h2))).1 hl2)
 ·rw [h.ov1 i' s' k' d' hi' hk']
  have : s.st ≠ k' := fun e => by have := nal s' (List.mem_of_getElem? hi'); unfold Slot.isAl at this; rw [hk'] at this; simp at this; exact this e.symm
  rw [getD_set_ne false this]
 ·refine (live_set hkl (nal s' hs')).2 ?_
  by_cases e : s'.st = s.st
  ·obtain ⟨i', hi'⟩ := List.getElem?_of_mem hs'
   by_cases e2 : i' = i
   ·subst e2; rw [hi] at hi'; cases hi'; exact hl
   ·exact absurd e.symm (T.two i i' s s' hi hi' (Ne.symm e2)).1
  ·rw [getD_set_ne false (Ne.symm e)] at hd
   exact h.late s' hs' hd
 ·rw [getD_set_iff hkl]
  by_cases e : s'.st = s.st
  ·obtain ⟨i', hi'⟩ := List.getElem?_of_mem hs'
   by_cases e2 : i' = i
   ·subst e2; rw [hi] at hi'; cases hi'; rw [hdeps j hj]; simp
   ·exact absurd e.symm (T.two i i' s s' hi hi' (Ne.symm e2)).1
  ·rw [getD_set_ne false (Ne.symm e)] at hd
   rw [h.early s' hs' hd j hj]; simp
theorem over_exec {ov : Tmp → Option Value} {a : Act} {o : Oper} (hs : ∀ cs b, o.op ≠ .select cs b) (h : ∀ d, d ∈ o.looksAt ops → ov d = none) : execOp (over ov a).eval o = execOp a.eval o :=
 execOp_congr o hs fun x hx => over_eval fun d hd => h d (by
  subst hd
  exact List.mem_append_left _ (List.mem_filterMap.2 ⟨.tmp d, by simpa using hx, rfl⟩))
theorem over_wanted {ov : Tmp → Option Value} {a : Act} {o : Oper} (h : ∀ d, d ∈ o.looksAt ops → ov d = none) : Region.wanted o (yielded ops (over ov a).tmps) = Region.wanted o (yielded ops a.tmps) := by
 unfold Region.wanted
 cases hg : o.guard with
 | none => rfl
 | some gw =>
  obtain ⟨g, want⟩ := gw
  have hy : yielded ops (over ov a).tmps g = yielded ops a.tmps g := by
   unfold yielded
   cases ht : (ops[g]?).bind (·.dst) with
   | none => rfl
   | some t =>
    have := h t (by simp [Oper.looksAt, hg, ht])
    simp only [Option.bind_some, over_tmps, this]
    simp
  simp only [hy]
theorem all_listed {listed : Array Bool} (hlow : ∀ (j : Nat) (o : Oper), ops[j]? = some o → ∀ e ∈ o.after, Region.binds md e = true → e.on < j) (hsz : listed.size = ops.size) (hr : Region.ready md ops listed = []) :
  ∀ j, j < ops.size → listed.getD j false = true := by
 intro j
 induction j using Nat.strongRecOn with
 | _ j ih =>
  intro hj
  cases hd : listed.getD j false with
  | true => rfl
  | false =>
   exfalso
   have : j ∈ Region.ready md ops listed := by
    refine mem_ready.2 ⟨?_, ops[j], Array.getElem?_eq_getElem hj, fun e he hb => ?_⟩
    ·have : j < listed.size := by omega
     simp [this] at hd ⊢; exact hd
    ·have := hlow j ops[j] (Array.getElem?_eq_getElem hj) e he hb
     exact ih _ this (by omega)
   rw [hr] at this; cases this
structure Fin (sl : List Slot) (D : List Nat) (W : World) (g : Nat → Nat) (ov : Tmp → Option Value) (w : World) : Prop where
 below : Stay D W w
 live : ∀ (i : Nat) (s : Slot), sl[i]? = some s → (g i ∈ D ∨ W.heap.size ≤ g i) ∧ (s.al = none → g i = s.ad.block) ∧ w.heap[g i]? = some s.n
 apart : ∀ (i i' : Nat) (s s' : Slot), sl[i]? = some s → sl[i']? = some s' → i ≠ i' → g i ≠ g i'
 ov1 : ∀ (i : Nat) (s : Slot) (k : Nat) (d : Tmp), sl[i]? = some s → s.al = some (k, d) → ov d = some (.pointer (some ⟨g i, 0, none⟩))
 ov2 : ∀ t, (∀ s ∈ sl, ∀ k, s.al ≠ some (k, t)) → ov t = none
theorem Inv.fin (T : Stat P md ops sl) {waits : Nat → Slot → Prop} {listed : Array Bool} {g : Nat → Nat} {ov : Tmp → Option Value} {w : World} (h : Inv waits sl D W listed ops.size g ov w) (hr : Region.ready md ops listed = []) : Fin sl D W g ov w := by
 have hall := all_listed T.low h.size hr
 have hal : ∀ s ∈ sl, Live listed s := fun s hs k d hk => by
  obtain ⟨o, _, ho, _⟩ := (T.slots s hs).al k d hk
  exact hall k (Array.getElem?_eq_some_iff.1 ho).1
 have hst : ∀ s ∈ sl, listed.getD s.st false = true := fun s hs => by
  obtain ⟨o, _, ho, _⟩ := (T.slots s hs).st
  exact hall _ (Array.getElem?_eq_some_iff.1 ho).1
 refine ⟨h.below, fun i s hi => ?_, fun i i' s s' hi hi' hne => h.apart i i' s s' hi hi' hne (hal s (List.mem_of_getElem? hi)) (hal s' (List.mem_of_getElem? hi')), fun i s k d hi hk => ?_, h.ov2⟩
 ·have := h.live i s hi (hal s (List.mem_of_getElem? hi))
  rw [hst s (List.mem_of_getElem? hi)] at this
  exact this
 ·rw [h.ov1 i s k d hi hk, hal s (List.mem_of_getElem? hi) k d hk]; rfl
theorem sim (T : Stat P md ops sl) {N : Nat} {Qf : Act → Prop} {Q' : Exit → Act → World → Prop} (hQ : ∀ a g ov w, Qf a → Fin sl D W g ov w → Q' .normal (over ov a) w)
  (hx : ∀ a, Qf a → ∀ s ∈ sl, a.eval s.x = s.u ∧ (s.al = none → a.eval s.ado = .pointer (some s.ad))) (hsz : ∀ s ∈ sl, ∀ k d, s.al = some (k, d) → d < N) :
  ∀ (fuel : Nat) (listed : Array Bool) (a : Act) (g : Nat → Nat) (ov : Tmp → Option Value) (w : World), N ≤ a.tmps.size → Inv (fun j s => ∃ o, ops[s.st]? = some o ∧ waitB md o j = true) sl D W listed ops.size g ov w →
   wpAnyM P md ops sl D W Qf fuel listed a → wpAny P md ops Q' fuel listed (over ov a) w
 | 0, listed, a, g, ov, w, hN, hI, h => ⟨h.1, hQ _ _ _ _ h.2 (hI.fin T h.1)⟩
 | fuel + 1, listed, a, g, ov, w, hN, hI, h => by
  refine ⟨fun hr => hQ _ _ _ _ (h.1 hr) (hI.fin T hr), fun j hj => ?_⟩
  obtain ⟨hun, o, ho, hall⟩ := mem_ready.1 hj
  have hjn : j < ops.size := (Array.getElem?_eq_some_iff.1 ho).1
  have hjl : j < listed.size := by rw [hI.size]; exact hjn
  have hunf : listed.getD j false = false := by simp [hjl] at hun ⊢; exact hun
  obtain ⟨v, hc, hn⟩ := h.2 j hj o ho
  unfold wpOp
  simp only [ho]
  cases hs : spB sl j with
  | false =>
   have hov : ∀ d, (d ∈ o.looksAt ops ∨ o.dst = some d) → ov d = none := fun d hd => hI.ov2 d fun s hs' k hk => by
    have := T.sep j o ho hs s hs' k d hk
    rcases hd with hd | hd
    ·exact this.1 hd
    ·exact this.2 hd
   have hmd : mdst sl j o = o.dst := by unfold mdst; rw [hs]; rfl
   rw [hmd] at hn
   rw [over_wanted fun d hd => hov d (.inl hd)]
   have hN' : ∀ u, N ≤ (a.put o.dst u).tmps.size := fun u => by unfold Act.put; split <;> simpa using hN
   rcases hc with ⟨hc, _⟩ | ⟨_, hw, hc⟩ | ⟨_, hw, rfl⟩
   ·rw [hs] at hc; cases hc
   ·rw [if_pos hw]
    refine .inl ?_
    unfold Oper.wp
    rw [over_exec (T.sel j o · · ho) fun d hd => hov d (.inl hd)]
    have h3 := hc w ⟨hI.below, fun s hs' hn hwt => by
     obtain ⟨i, hi⟩ := List.getElem?_of_mem hs'
     have hst : listed.getD s.st false = false := by
      cases hd : listed.getD s.st false with
      | false => rfl
      | true => rw [hI.early s hs' hd j hwt] at hunf; cases hunf
     obtain ⟨_, e, h4⟩ := hI.live i s hi (fun k d hk => by rw [hn] at hk; cases hk)
     rw [hst, e hn] at h4
     exact h4⟩
    generalize (execOp a.eval o).run P w = r at *
    cases r with
    | ok n w' =>
     cases n <;> simp only [calmUpon] at h3 <;> simp only [Oper.upon]
     case value u =>
      obtain ⟨rfl, rfl⟩ := h3
      rw [← over_put _ _ fun d hd => hov d (.inr hd)]
      exact sim T hQ hx hsz fuel _ _ g ov _ (hN' _) (hI.plain hjn hs (Below.refl _ _)) hn
     case skip =>
      obtain ⟨rfl, rfl⟩ := h3
      rw [← over_put _ _ fun d hd => hov d (.inr hd)]
      exact sim T hQ hx hsz fuel _ _ g ov _ (hN' _) (hI.plain hjn hs (Below.refl _ _)) hn
     case enter f args =>
      obtain ⟨rfl, hcall⟩ := h3
      refine hcall.mono fun e w'' ⟨he, hb⟩ => ?_
      subst he
      show wpAny P md ops Q' fuel _ ((over ov a).put o.dst v) w''
      rw [← over_put _ _ fun d hd => hov d (.inr hd)]
      exact sim T hQ hx hsz fuel _ _ g ov _ (hN' _) (hI.plain hjn hs hb) hn
    | halt x w' => simp only [calmUpon] at h3
   ·rw [if_neg (by rw [hw]; simp)]
    rw [← over_put _ _ fun d hd => hov d (.inr hd)]
    exact sim T hQ hx hsz fuel _ _ g ov _ (hN' _) (hI.plain hjn hs (Below.refl _ _)) hn
  | true =>
   have hmd : mdst sl j o = none := by unfold mdst; rw [hs]; rfl
   rw [hmd] at hn
   have hn : wpAnyM P md ops sl D W Qf fuel (listed.setIfInBounds j true) a := hn
   unfold spB at hs
   rw [List.any_eq_true] at hs
   obtain ⟨s, hm, hsj⟩ := hs
   obtain ⟨i, hi⟩ := List.getElem?_of_mem hm
   have S := T.slots s hm
   rw [Bool.or_eq_true] at hsj
   rcases hsj with hsj | hsj
   ·have hsj : s.st = j := by simpa using hsj
    subst hsj
    obtain ⟨o', t, ho', hop, hdst, hg, hal, hxs, hrun⟩ := S.st
    rw [ho] at ho'; cases ho'
    have hw : Region.wanted o (yielded ops (over ov a).tmps) = true := by unfold Region.wanted; rw [hg]
    rw [if_pos hw]
    refine .inl ?_
    have hlive : Live listed s := fun k d hk => by
     obtain ⟨_, e, he, hb, hon⟩ := hal k d hk
     have := hall e he hb
     rw [hon] at this; exact this
    have hcert : a.eval s.x = s.u ∧ (s.al = none → a.eval s.ado = .pointer (some s.ad)) := by
     have dn : ∀ (x : Operand), (∀ d, x = .tmp d → (s.x = .tmp d ∨ (s.al = none ∧ s.ado = .tmp d))) → ∀ (k : Nat) ok d, ops[k]? = some ok → listed.getD k true = false → ok.dst = some d → x ≠ .tmp d := fun x hx' k ok d hk hk2 hkd e => by
      obtain ⟨e', he, hb, hon⟩ := hxs k ok d hk hkd (hx' d e)
      have h1 := hall e' he hb
      rw [hon] at h1
      have : k < listed.size := by rw [hI.size]; exact (Array.getElem?_eq_some_iff.1 hk).1
      simp [this] at h1 hk2
      rw [h1] at hk2; cases hk2
     have dset : ∀ (x : Operand), (∀ d, x = .tmp d → (s.x = .tmp d ∨ (s.al = none ∧ s.ado = .tmp d))) → ∀ (k : Nat) ok d, ops[k]? = some ok → (listed.setIfInBounds s.st true).getD k true = false → ok.dst = some d → x ≠ .tmp d := fun x hx' k ok d hk hk2 hkd => by
      by_cases e : s.st = k
      ·subst e; rw [getD_set_eq hjl] at hk2; cases hk2
      ·rw [getD_set_ne true e] at hk2; exact dn x hx' k ok d hk hk2 hkd
     refine ⟨cert (fun a ha => (hx a ha s hm).1) fuel _ a (dset s.x fun d hd => .inl hd) hn, fun hnone => ?_⟩
     exact cert (fun a ha => (hx a ha s hm).2 hnone) fuel _ a (dset s.ado fun d hd => .inr ⟨hnone, hd⟩) hn
    have hex : (over ov a).eval s.x = s.u := by
     rw [over_eval fun d hd => hI.ov2 d (S.xs d (.inl hd)), hcert.1]
    obtain ⟨a1, a2, a3⟩ := hI.live i s hi hlive
    have hea : (over ov a).eval s.ado = .pointer (some (s.to (g i))) := by
     cases hsal : s.al with
     | none =>
      rw [over_eval fun d hd => hI.ov2 d (S.xs d (.inr ⟨hsal, hd⟩)), hcert.2 hsal]
      unfold Slot.to; rw [hsal]
     | some kd =>
      obtain ⟨k, d⟩ := kd
      rw [(hal k d hsal).1]
      have := hI.ov1 i s k d hi hsal
      rw [hlive k d hsal] at this
      rw [over_eval_at this (Nat.lt_of_lt_of_le (hsz s hm k d hsal) hN)]
      unfold Slot.to; rw [hsal]
    rw [hunf] at a3
    obtain ⟨w', hr, honly⟩ := hrun w (g i) a2 a3
    have hex2 : (execOp (over ov a).eval o).run P w = .ok .skip w' := by
     unfold execOp
     simp only [hop, hea, hex, Sem.run_bind, hr, Result.andThen_ok, Sem.run_pure]
    unfold Oper.wp
    rw [hex2]
    show wpAny P md ops Q' fuel _ ((over ov a).put o.dst _) _
    rw [hdst]
    exact sim T hQ hx hsz fuel _ _ g ov _ hN (hI.store T hjn hi hlive (fun j' hj' => by
     obtain ⟨o2, ho2, hw2⟩ := hj'
     rw [ho] at ho2; cases ho2
     obtain ⟨e, he, hb, hon⟩ := waitB_spec hw2
     rw [← hon]; exact hall e he hb) honly) hn
   ·unfold Slot.isAl at hsj
    split at hsj
    ·rename_i k d hal
     have hsj : k = j := by simpa using hsj
     subst hsj
     obtain ⟨o', T', ho', hop, hdst, hg, hrun⟩ := S.al k d hal
     rw [ho] at ho'; cases ho'
     have hw : Region.wanted o (yielded ops (over ov a).tmps) = true := by unfold Region.wanted; rw [hg]
     rw [if_pos hw]
     refine .inl ?_
     have hex2 : (execOp (over ov a).eval o).run P w = .ok (.value (.pointer (some ⟨w.heap.size, 0, none⟩))) (w.alloc s.z) := by
      unfold execOp
      simp only [hop, Sem.run_bind, hrun w, Result.andThen_ok, Sem.run_pure]
     unfold Oper.wp
     rw [hex2]
     show wpAny P md ops Q' fuel _ ((over ov a).put o.dst _) _
     rw [hdst, ← over_set]
     exact sim T hQ hx hsz fuel _ _ _ _ _ hN (hI.alloc T hjn hunf hi hal) hn
    ·cases hsj
end
end Go.Rg
namespace Go.Rg
open Go Go.RowKit
def isTmp : Operand → Nat → Bool
 | .tmp t, d => t == d
 | _, _ => false
theorem isTmp_iff {x : Operand} {d : Nat} : isTmp x d = true ↔ x = .tmp d := by
 unfold isTmp
 cases x <;> simp
def slotB (md : Region.Mode) (ops : Array Oper) (sl : List Slot) (s : Slot) : Bool :=
 (match ops[s.st]? with
  | some o => o.dst.isNone && o.guard.isNone &&
   (match s.al with | some (k, d) => isTmp s.ado d && waitB md o k && !(k == s.st) | none => true) &&
   (List.range ops.size).all fun j => match ops[j]? with
    | some oj => (match oj.dst with | some d => !(isTmp s.x d || (s.al.isNone && isTmp s.ado d)) || waitB md o j | none => true)
    | none => true
  | none => false) &&
 (match s.al with
  | some (k, d) => (match ops[k]? with | some o => o.dst == some d && o.guard.isNone | none => false)
  | none => true) &&
 sl.all fun s' => match s'.al with | some (_, d) => !(isTmp s.x d || (s.al.isNone && isTmp s.ado d)) | none => true
def twoB (s s' : Slot) : Bool :=
 !(s.st == s'.st) && (match s.al with | some (k, d) => !(s'.st == k) && (match s'.al with | some (k', d') => !(k == k') && !(d == d') | none => true) | none => true)
def pairsB : List Slot → Bool
 | [] => true
 | s :: r => (r.all fun s' => twoB s s' && twoB s' s) && pairsB r
def statB (md : Region.Mode) (ops : Array Oper) (sl : List Slot) : Bool :=
 ((List.range ops.size).all fun j => match ops[j]? with
  | some o => (o.after.all fun e => !Region.binds md e || decide (e.on < j)) &&
    (spB sl j || sl.all fun s => match s.al with | some (_, d) => !(o.looksAt ops).contains d && o.dst != some d | none => true)
  | none => true) && Region.noSelect ops && sl.all (slotB md ops sl) && pairsB sl
theorem pairsB_spec : ∀ (sl : List Slot), pairsB sl = true → ∀ (i i' : Nat) (s s' : Slot), sl[i]? = some s → sl[i']? = some s' → i ≠ i' → twoB s s' = true
 | [], _, i, i', s, s', h, _, _ => by simp at h
 | x :: r, h, i, i', s, s', h1, h2, hne => by
  unfold pairsB at h
  rw [Bool.and_eq_true, List.all_eq_true] at h
  obtain ⟨ha, hr⟩ := h
  cases i with
  | zero =>
   cases i' with
   | zero => exact absurd rfl hne
   | succ i' =>
    simp only [List.getElem?_cons_zero, Option.some.injEq] at h1
    simp only [List.getElem?_cons_succ] at h2
    subst h1
    have := ha s' (List.mem_of_getElem? h2)
    rw [Bool.and_eq_true] at this
    exact this.1
  | succ i =>
   cases i' with
   | zero =>
    simp only [List.getElem?_cons_zero, Option.some.injEq] at h2
    simp only [List.getElem?_cons_succ] at h1
    subst h2
    have := ha s (List.mem_of_getElem? h1)
    rw [Bool.and_eq_true] at this
    exact this.2
   | succ i' =>
    simp only [List.getElem?_cons_succ] at h1 h2
    exact pairsB_spec r hr i i' s s' h1 h2 (by omega)
structure SlotRun (P : Program) (ops : Array Oper) (s : Slot) : Prop where
 st : ∃ t, (ops[s.st]?).map (fun o => o.op) = some (.store t s.ado s.x) ∧ ∀ w b, (s.al = none → b = s.ad.block) → w.heap[b]? = some s.z → ∃ w', (Instr.storeAt t (.pointer (some (s.to b))) s.u).run P w = .ok () w' ∧ Only b s.n w w'
 al : ∀ k d, s.al = some (k, d) → ∃ T, (ops[k]?).map (fun o => o.op) = some (.alloc T) ∧ ∀ w, (Instr.alloc T true (.tuple #[])).run P w = .ok (.pointer (some ⟨w.heap.size, 0, none⟩)) (w.alloc s.z)
theorem stat_of {P : Program} {md : Region.Mode} {ops : Array Oper} {sl : List Slot} (h : statB md ops sl = true) (hr : ∀ s ∈ sl, SlotRun P ops s)
  (hk : ∀ (i i' : Nat) (s s' : Slot), sl[i]? = some s → sl[i']? = some s' → i ≠ i' → s.al = none → s'.al = none → s.ad.block ≠ s'.ad.block) : Stat P md ops sl := by
 unfold statB at h
 simp only [Bool.and_eq_true] at h
 obtain ⟨⟨⟨h1, h2⟩, h3⟩, h4⟩ := h
 rw [List.all_eq_true] at h1 h3
 have key : ∀ (j : Nat) (o : Oper), ops[j]? = some o → (o.after.all fun e => !Region.binds md e || decide (e.on < j)) = true ∧ (spB sl j || sl.all fun s => match s.al with | some (_, d) => !(o.looksAt ops).contains d && o.dst != some d | none => true) = true := fun j o ho => by
  have := h1 j (List.mem_range.2 (Array.getElem?_eq_some_iff.1 ho).1)
  rw [ho] at this
  simpa only [Bool.and_eq_true] using this
 have slot : ∀ s ∈ sl, ∃ o, ops[s.st]? = some o ∧ o.dst = none ∧ o.guard = none ∧ (∀ k d, s.al = some (k, d) → s.ado = .tmp d ∧ waitB md o k = true ∧ k ≠ s.st) ∧
   (∀ (j : Nat) (oj : Oper) d, ops[j]? = some oj → oj.dst = some d → (s.x = .tmp d ∨ (s.al = none ∧ s.ado = .tmp d)) → waitB md o j = true) ∧
   (∀ k d, s.al = some (k, d) → ∃ o, ops[k]? = some o ∧ o.dst = some d ∧ o.guard = none) ∧
   (∀ d, (s.x = .tmp d ∨ (s.al = none ∧ s.ado = .tmp d)) → ∀ s' ∈ sl, ∀ k, s'.al ≠ some (k, d)) := fun s hs => by
  have := h3 s hs
  unfold slotB at this
  simp only [Bool.and_eq_true] at this
  obtain ⟨⟨a1, a2⟩, a3⟩ := this
  cases ho : ops[s.st]? with
  | none => rw [ho] at a1; cases a1
  | some o =>
   rw [ho] at a1
   simp only [Bool.and_eq_true, Option.isNone_iff_eq_none] at a1
   obtain ⟨⟨⟨b1, b2⟩, b3⟩, b4⟩ := a1
   refine ⟨o, rfl, b1, b2, fun k d hk => ?_, fun j oj d hj hd hx => ?_, fun k d hk => ?_, fun d hx s' hs' k hk => ?_⟩
   ·rw [hk] at b3
    simp only [Bool.and_eq_true, isTmp_iff] at b3
    exact ⟨b3.1.1, b3.1.2, by simpa using b3.2⟩
   ·rw [List.all_eq_true] at b4
    have := b4 j (List.mem_range.2 (Array.getElem?_eq_some_iff.1 hj).1)
    rw [hj] at this
    simp only [hd] at this
    rw [Bool.or_eq_true] at this
    rcases this with this | this
    ·exfalso
     simp only [Bool.not_eq_true', Bool.or_eq_false_iff, Bool.and_eq_false_iff] at this
     rcases hx with hx | ⟨hn, hx⟩
     ·rw [isTmp_iff.2 hx] at this; cases this.1
     ·rcases this.2 with h | h
      ·rw [hn] at h; cases h
      ·rw [isTmp_iff.2 hx] at h; cases h
    ·exact this
   ·rw [hk] at a2
    simp only at a2
    cases hok : ops[k]? with
    | none => rw [hok] at a2; cases a2
    | some ok =>
     rw [hok] at a2
     simp only [Bool.and_eq_true, beq_iff_eq, Option.isNone_iff_eq_none] at a2
     exact ⟨ok, rfl, a2⟩
   ·rw [List.all_eq_true] at a3
    have := a3 s' hs'
    rw [hk] at this
    simp only [Bool.not_eq_true', Bool.or_eq_false_iff, Bool.and_eq_false_iff] at this
    rcases hx with hx | ⟨hn, hx⟩
    ·rw [isTmp_iff.2 hx] at this; cases this.1
    ·rcases this.2 with h | h
     ·rw [hn] at h; cases h
     ·rw [isTmp_iff.2 hx] at h; cases h
 refine ⟨fun j o ho e he hb => ?_, fun j o ho hs s hm k d hk => ?_, Region.noSelect_spec h2, fun s hs => ⟨?_, fun k d hk => ?_, ?_⟩, fun s hs k d hk => ?_, fun i i' s s' hi hi' hne => ⟨?_, fun k d hk' => ⟨?_, fun k' d' hk2 => ?_⟩, hk i i' s s' hi hi' hne⟩⟩
 ·have := (key j o ho).1
  rw [Array.all_eq_true'] at this
  have := this e he
  simpa [hb] using this
 ·have := (key j o ho).2
  rw [hs, Bool.false_or, List.all_eq_true] at this
  have := this s hm
  rw [hk] at this
  simpa using this
 ·obtain ⟨o, ho, hd, hg, b1, b2, b3, b4⟩ := slot s hs
  obtain ⟨t, hop, hrun⟩ := (hr s hs).st
  rw [ho] at hop
  simp only [Option.map_some, Option.some.injEq] at hop
  exact ⟨o, t, ho, hop, hd, hg, fun k d hk => ⟨(b1 k d hk).1, waitB_spec (b1 k d hk).2.1⟩, fun j oj d hj hjd hx => waitB_spec (b2 j oj d hj hjd hx), hrun⟩
 ·obtain ⟨o, ho, hd, hg, b1, b2, b3, b4⟩ := slot s hs
  obtain ⟨ok, hok, hokd, hokg⟩ := b3 k d hk
  obtain ⟨T, hop, hrun⟩ := (hr s hs).al k d hk
  rw [hok] at hop
  simp only [Option.map_some, Option.some.injEq] at hop
  exact ⟨ok, T, hok, hop, hokd, hokg, hrun⟩
 ·obtain ⟨o, ho, hd, hg, b1, b2, b3, b4⟩ := slot s hs
  exact b4
 ·obtain ⟨o, ho, hd, hg, b1, b2, b3, b4⟩ := slot s hs
  exact (b1 k d hk).2.2
 all_goals
  have := pairsB_spec sl h4 i i' s s' hi hi' hne
  unfold twoB at this
  simp only [Bool.and_eq_true] at this
 ·simpa using this.1
 ·have h := this.2; rw [hk'] at h; simp only [Bool.and_eq_true] at h; simpa using h.1
 ·have h := this.2; rw [hk'] at h; simp only [Bool.and_eq_true] at h
  have h2 := h.2
  rw [hk2] at h2
  simpa using h2
def aslot (k : Nat) (d : Tmp) (st : Nat) (x : Operand) (u z : Value) (T : TypeId) : Slot :=
 { al := some (k, d), ad := ⟨0, 0, none⟩, st := st, ado := .tmp d, x := x, u := u, z := .cells z.cells T (0, 0), n := .cells u.cells T (0, 0) }
def kslot (b o st : Nat) (ado x : Operand) (u : Value) (cs : List Value) (T : TypeId) : Slot :=
 { al := none, ad := ⟨b, o, none⟩, st := st, ado := ado, x := x, u := u, z := .cells cs.toArray T (0, 0), n := .cells (putL cs o u.cells.toList).toArray T (0, 0) }
theorem putL_all : ∀ (vs pre cs : List Value), cs.length = vs.length → putL (pre ++ cs) pre.length vs = pre ++ vs
 | [], pre, cs, h => by
  have : cs = [] := List.eq_nil_of_length_eq_zero h
  subst this; rfl
 | v :: r, pre, cs, h => by
  cases cs with
  | nil => simp at h
  | cons c cs =>
   have e : (pre ++ c :: cs).set pre.length v = (pre ++ [v]) ++ cs := by
    rw [List.set_append_right _ _ (Nat.le_refl _)]; simp
   rw [putL, e]
   have := putL_all r (pre ++ [v]) cs (by simpa using h)
   rw [List.length_append] at this
   simpa using this
theorem arun {P : Program} {ops : Array Oper} {k : Nat} {d : Tmp} {st : Nat} {x : Operand} {u z : Value} {T : TypeId} {n : Nat}
  (h1 : (ops[st]?).map (fun o => o.op) = some (.store T (.tmp d) x)) (h2 : (ops[k]?).map (fun o => o.op) = some (.alloc T)) (hi : (P.info? T).map (fun i => (i.zero, i.size)) = some (some z, n))
  (hz : z.cells.size = n) (hu : u.cells.size = n) (ho : u.cells.all (·.oneCell') = true) : SlotRun P ops (aslot k d st x u z T) := by
 refine ⟨⟨T, h1, fun w b _ hb => ?_⟩, fun k' d' hk => ?_⟩
 ·obtain ⟨w', e1, e2⟩ := store_only (P := P) (t := T) (T := T) (b := b) (o := 0) (cs := z.cells.toList) (u := u) (by rw [(zero_of_info hi).2, hu]) ho (by simp; omega) w (by simpa [aslot] using hb)
  refine ⟨w', e1, ?_⟩
  have := putL_all u.cells.toList [] z.cells.toList (by simp; omega)
  simp only [List.nil_append, List.length_nil] at this
  rw [this] at e2
  simpa [aslot] using e2
 ·simp only [aslot, Option.some.injEq, Prod.mk.injEq] at hk
  obtain ⟨rfl, rfl⟩ := hk
  exact ⟨T, h2, fun w => alloc_run hi w⟩
theorem krun {P : Program} {ops : Array Oper} {b o st : Nat} {ado x : Operand} {u : Value} {cs : List Value} {t T : TypeId}
  (h1 : (ops[st]?).map (fun o => o.op) = some (.store t ado x)) (hi : (P.info? t).map (·.size) = some u.cells.size) (ho : u.cells.all (·.oneCell') = true) (hl : o + u.cells.size ≤ cs.length) : SlotRun P ops (kslot b o st ado x u cs T) := by
 refine ⟨⟨t, h1, fun w b' hb' hb => ?_⟩, fun k' d' hk => by simp [kslot] at hk⟩
 have : b' = b := hb' rfl
 subst this
 exact store_only hi ho hl w hb
section
variable {P : Program} {l : List Oper} {sl : List Slot} {D : List Nat} {W : World} {Qf : Act → Prop} {a : Act} {k : Nat} {o : Oper} {rest : List Oper} {v : Value}
theorem mdst_of (h : spB sl k = false) : mdst sl k o = o.dst := by unfold mdst; rw [h]; rfl
theorem calm_val (hs : spB sl k = false) (hw : Region.wanted o (yielded l.toArray a.tmps) = true) (hy : ∀ w, Cls .any l.toArray sl D W k w → (execOp a.eval o).run P w = .ok (.value v) w)
  (h : wpCalm P .any l.toArray sl D W Qf (k + 1) rest (a.put o.dst v)) : wpCalm P .any l.toArray sl D W Qf k (o :: rest) a :=
 ⟨v, .inr (.inl ⟨hs, hw, fun w hb => by rw [hy w hb]; exact ⟨rfl, rfl⟩⟩), by rw [mdst_of hs]; exact h⟩
theorem cX (v : Value) (a' : Act) (hy : ∀ w, Cls .any l.toArray sl D W k w → (execOp a.eval o).run P w = .ok (.value v) w)
  (h : wpCalm P .any l.toArray sl D W Qf (k + 1) rest a') (hs : spB sl k = false := by rfl) (hw : Region.wanted o (yielded l.toArray a.tmps) = true := by rfl)
  (he : a.put o.dst v = a' := by (try simp only [td]); exact rfl) : wpCalm P .any l.toArray sl D W Qf k (o :: rest) a := calm_val hs hw hy (he ▸ h)
theorem cW (v : Value) (a' : Act) (h : wpCalm P .any l.toArray sl D W Qf (k + 1) rest a')
  (hy : ∀ w, Cls .any l.toArray sl D W k w → (execOp a.eval o).run P w = .ok (.value v) w := by intro wz hSw; go_simp; all_goals with_reducible rfl)
  (hs : spB sl k = false := by rfl) (hw : Region.wanted o (yielded l.toArray a.tmps) = true := by rfl)
  (he : a.put o.dst v = a' := by (try simp only [td]); exact rfl) : wpCalm P .any l.toArray sl D W Qf k (o :: rest) a := calm_val hs hw hy (he ▸ h)
theorem calm_skip (hs : spB sl k = false) (hw : Region.wanted o (yielded l.toArray a.tmps) = false)
  (h : wpCalm P .any l.toArray sl D W Qf (k + 1) rest (a.put o.dst undef)) : wpCalm P .any l.toArray sl D W Qf k (o :: rest) a :=
 ⟨undef, .inr (.inr ⟨hs, hw, rfl⟩), by rw [mdst_of hs]; exact h⟩
theorem calm_call {f : FuncId} {args : Array Value} (hs : spB sl k = false) (hw : Region.wanted o (yielded l.toArray a.tmps) = true) (hy : ∀ w, Cls .any l.toArray sl D W k w → (execOp a.eval o).run P w = .ok (.enter f args) w)
  (hc : ∀ w, Cls .any l.toArray sl D W k w → Calls P f args w fun e w' => e = .returned v ∧ Below w.heap.size w w')
  (h : wpCalm P .any l.toArray sl D W Qf (k + 1) rest (a.put o.dst v)) : wpCalm P .any l.toArray sl D W Qf k (o :: rest) a :=
 ⟨v, .inr (.inl ⟨hs, hw, fun w hb => by rw [hy w hb]; exact ⟨rfl, hc w hb⟩⟩), by rw [mdst_of hs]; exact h⟩
theorem cS (a' : Act) (h : wpCalm P .any l.toArray sl D W Qf (k + 1) rest a') (hs : spB sl k = false := by rfl) (hw : Region.wanted o (yielded l.toArray a.tmps) = false := by rfl)
  (he : a.put o.dst undef = a' := by (try simp only [td]); exact rfl) : wpCalm P .any l.toArray sl D W Qf k (o :: rest) a := calm_skip hs hw (he ▸ h)
theorem cC (f : FuncId) (args : Array Value) (v : Value) (a' : Act) (hc : ∀ w, Cls .any l.toArray sl D W k w → Calls P f args w fun e w' => e = .returned v ∧ Below w.heap.size w w')
  (h : wpCalm P .any l.toArray sl D W Qf (k + 1) rest a')
  (hy : ∀ w, Cls .any l.toArray sl D W k w → (execOp a.eval o).run P w = .ok (.enter f args) w := by intro wz hSw; go_simp; all_goals (first | with_reducible rfl | (constructor <;> with_reducible rfl)))
  (hs : spB sl k = false := by rfl) (hw : Region.wanted o (yielded l.toArray a.tmps) = true := by rfl)
  (he : a.put o.dst v = a' := by (try simp only [td]); exact rfl) : wpCalm P .any l.toArray sl D W Qf k (o :: rest) a := calm_call hs hw hy hc (he ▸ h)
theorem calm_end (h : Qf a) : wpCalm P .any l.toArray sl D W Qf k [] a := h
theorem calm_sp (hs : spB sl k = true) (h : wpCalm P .any l.toArray sl D W Qf (k + 1) rest a) : wpCalm P .any l.toArray sl D W Qf k (o :: rest) a :=
 ⟨undef, .inl ⟨hs, rfl⟩, by
  have : mdst sl k o = none := by unfold mdst; rw [hs]; rfl
  rw [this]; exact h⟩
theorem cB (h : wpCalm P .any l.toArray sl D W Qf (k + 1) rest a) (hs : spB sl k = true := by rfl) : wpCalm P .any l.toArray sl D W Qf k (o :: rest) a := calm_sp hs h
end
section
variable {P : Program} {l : List Oper} {sl : List Slot} {Q : Exit → Act → World → Prop} {a : Act} {w : World}
theorem put_size (a : Act) (d : Option Tmp) (v : Value) : (a.put d v).tmps.size = a.tmps.size := by unfold Act.put; split <;> simp
def Every (P : Program) (l : List Oper) (Q : Exit → Act → World → Prop) (a : Act) (w : World) : Prop := ∀ w1, (w1 = w ∨ w1 = w.drew) → wpAny P .any l.toArray Q l.toArray.size (Array.replicate l.toArray.size false) a w1
theorem calm_any (hs : Region.noSelect l.toArray = true) (T : Stat P .any l.toArray sl) (N : Nat) (hN : N ≤ a.tmps.size) (hdN : ∀ s ∈ sl, ∀ k d, s.al = some (k, d) → d < N) (hlex : lexM .any l.toArray sl l.length 0 (Array.replicate l.length false) = true)
  (D : List Nat) (hk : ∀ s ∈ sl, s.al = none → s.ad.block ∈ D ∧ w.heap[s.ad.block]? = some s.z)
  (h : wpCalm P .any l.toArray sl D w (fun a' => (∀ s ∈ sl, a'.eval s.x = s.u ∧ (s.al = none → a'.eval s.ado = .pointer (some s.ad))) ∧ ∀ g ov w', Fin sl D w g ov w' → Q .normal (over ov a') w') 0 l a) :
  Every P l Q a w := by
 intro w1 hw1
 have hw2 : w1.heap = w.heap ∧ Stay D w w1 := by rcases hw1 with rfl | rfl; exact ⟨rfl, Stay.refl _ _⟩; exact ⟨rfl, (Stay.refl _ _).drew⟩
 have hM := wpAnyM_lex (md := .any) hs l 0 (Array.replicate l.length false) a (by simp) hlex h
 have e := over_none a
 rw [← e]
 have hsz : l.toArray.size = l.length := by simp
 rw [hsz]
 have none_listed : ∀ j, (Array.replicate l.length false).getD j false = false := fun j => by
  rcases Nat.lt_or_ge j l.length with h | h
  ·simp [h]
  ·simp [h]
 have nolive : ∀ s ∈ sl, Live (Array.replicate l.length false) s → s.al = none := fun s _ hl => by
  cases hal : s.al with
  | none => rfl
  | some kd =>
   obtain ⟨k, d⟩ := kd
   have := hl k d hal
   rw [none_listed] at this; cases this
 refine sim T (N := N) (Qf := _) (fun a' g ov w' hq hf => hq.2 g ov w' hf) (fun a' hq => hq.1) hdN l.length _ a (fun i => match sl[i]? with | some s => s.ad.block | none => 0) (fun _ => none) w1 hN ⟨hw2.2, by simp, fun i s hi hl => ?_, fun i i' s s' hi hi' hne hl hl' => ?_, fun i s k d hi hal => ?_, fun _ _ => rfl, fun s hs hd => ?_, fun s hs hd => ?_⟩ hM
 ·have hm := List.mem_of_getElem? hi
  have hn := nolive s hm hl
  obtain ⟨h1, h2⟩ := hk s hm hn
  simp only [hi, none_listed]
  rw [hw2.1]
  exact ⟨.inl h1, fun _ => trivial, h2⟩
 ·simp only [hi, hi']
  exact (T.two i i' s s' hi hi' hne).2.2 (nolive s (List.mem_of_getElem? hi) hl) (nolive s' (List.mem_of_getElem? hi') hl')
 ·rw [none_listed]; rfl
 ·rw [none_listed] at hd; cases hd
 ·rw [none_listed] at hd; cases hd
theorem ov_none {g : Nat → Nat} {ov : Tmp → Option Value} {D : List Nat} {w' : World} (hf : Fin sl D w g ov w') (h : ∀ s ∈ sl, s.al = none) : ov = fun _ => none :=
 funext fun t => hf.ov2 t fun s hs k e => by rw [h s hs] at e; cases e
def okB (l : List Oper) (sl : List Slot) (N : Nat) : Bool :=
 statB .any l.toArray sl && Region.noSelect l.toArray && lexM .any l.toArray sl l.length 0 (Array.replicate l.length false) && sl.all fun s => match s.al with | some (_, d) => decide (d < N) | none => true
theorem okB_spec {N : Nat} (h : okB l sl N = true) : statB .any l.toArray sl = true ∧ Region.noSelect l.toArray = true ∧ lexM .any l.toArray sl l.length 0 (Array.replicate l.length false) = true ∧ ∀ s ∈ sl, ∀ k d, s.al = some (k, d) → d < N := by
 unfold okB at h
 simp only [Bool.and_eq_true] at h
 obtain ⟨⟨⟨h1, h2⟩, h3⟩, h4⟩ := h
 refine ⟨h1, h2, h3, fun s hs k d hk => ?_⟩
 rw [List.all_eq_true] at h4
 have := h4 s hs
 rw [hk] at this
 simpa using this
theorem calm_none (hok : okB l [] 0 = true)
  (h : wpCalm P .any l.toArray [] [] w (fun a' => ∀ w', Below w.heap.size w w' → Q .normal a' w') 0 l a) : Every P l Q a w := by
 obtain ⟨h1, h2, h3, h4⟩ := okB_spec hok
 refine calm_any h2 (stat_of h1 (fun s hs => by cases hs) (fun i i' s s' hi => by simp at hi)) 0 (Nat.zero_le _) h4 h3 [] (fun s hs => by cases hs) ?_
 refine wpCalm_mono ?_ h
 intro a' hq
 refine ⟨(fun s hs => by cases hs), fun g ov w' hf => ?_⟩
 rw [ov_none hf (fun s hs => by cases hs), over_none]
 exact hq w' hf.below.all
theorem calm_k {b o st : Nat} {ado x : Operand} {u : Value} {cs : List Value} {t T : TypeId} (hok : okB l [kslot b o st ado x u cs T] 0 = true) (hblk : Blk w b cs T)
  (h1 : (l.toArray[st]?).map (fun o => o.op) = some (.store t ado x)) (hi : (P.info? t).map (·.size) = some u.cells.size) (ho : u.cells.all (·.oneCell') = true) (hl : o + u.cells.size ≤ cs.length)
  (h : wpCalm P .any l.toArray [kslot b o st ado x u cs T] [b] w (fun a' => a'.eval x = u ∧ a'.eval ado = .pointer (some ⟨b, o, none⟩) ∧ ∀ w', Stay [b] w w' → Blk w' b (putL cs o u.cells.toList) T → Q .normal a' w') 0 l a) :
  Every P l Q a w := by
 obtain ⟨h1', h2, h3, h4⟩ := okB_spec hok
 refine calm_any h2 (stat_of h1' (fun s hs => ?_) (fun i i' s s' hi hi' hne => ?_)) 0 (Nat.zero_le _) h4 h3 _ (fun s hs _ => ?_) (wpCalm_mono (fun a' hq => ⟨fun s hs => ?_, fun g ov w' hf => ?_⟩) h)
 ·rw [List.mem_singleton] at hs; subst hs; exact krun h1 hi ho hl
 ·have : i = 0 ∧ i' = 0 := by
   have a1 := (List.getElem?_eq_some_iff.1 hi).1
   have a2 := (List.getElem?_eq_some_iff.1 hi').1
   simp at a1 a2; exact ⟨a1, a2⟩
  omega
 ·rw [List.mem_singleton] at hs; subst hs; exact ⟨List.mem_singleton.2 rfl, hblk⟩
 ·rw [List.mem_singleton] at hs; subst hs; exact ⟨hq.1, fun _ => hq.2.1⟩
 ·rw [ov_none hf (fun s hs => by rw [List.mem_singleton] at hs; subst hs; rfl), over_none]
  obtain ⟨_, e, hh⟩ := hf.live 0 _ rfl
  rw [e rfl] at hh
  exact hq.2.2 w' hf.below hh
theorem calm_a {k : Nat} {d : Tmp} {st : Nat} {x : Operand} {u z : Value} {T : TypeId} {n : Nat} (hok : okB l [aslot k d st x u z T] a.tmps.size = true)
  (h1 : (l.toArray[st]?).map (fun o => o.op) = some (.store T (.tmp d) x)) (h2 : (l.toArray[k]?).map (fun o => o.op) = some (.alloc T)) (hi : (P.info? T).map (fun i => (i.zero, i.size)) = some (some z, n))
  (hz : z.cells.size = n) (hu : u.cells.size = n) (ho : u.cells.all (·.oneCell') = true)
  (h : wpCalm P .any l.toArray [aslot k d st x u z T] [] w (fun a' => a'.eval x = u ∧ ∀ b w', w.heap.size ≤ b → Below w.heap.size w w' → Blk w' b u.cells.toList T → Q .normal (a'.put (some d) (.pointer (some ⟨b, 0, none⟩))) w') 0 l a) :
  Every P l Q a w := by
 obtain ⟨h1', h2', h3, h4⟩ := okB_spec hok
 refine calm_any h2' (stat_of h1' (fun s hs => ?_) (fun i i' s s' hi hi' hne => ?_)) a.tmps.size (Nat.le_refl _) h4 h3 [] (fun s hs hn => ?_) (wpCalm_mono (fun a' hq => ⟨fun s hs => ?_, fun g ov w' hf => ?_⟩) h)
 ·rw [List.mem_singleton] at hs; subst hs; exact arun h1 h2 hi hz hu ho
 ·have : i = 0 ∧ i' = 0 := by
   have a1 := (List.getElem?_eq_some_iff.1 hi).1
   have a2 := (List.getElem?_eq_some_iff.1 hi').1
   simp at a1 a2; exact ⟨a1, a2⟩
  omega
 ·rw [List.mem_singleton] at hs; subst hs; cases hn
 ·rw [List.mem_singleton] at hs; subst hs; exact ⟨hq.1, fun hn => by cases hn⟩
 ·have e : ov = fun t => if t = d then some (.pointer (some ⟨g 0, 0, none⟩)) else none := funext fun t => by
   by_cases e : t = d
   ·subst e; rw [if_pos rfl]; exact hf.ov1 0 _ k t rfl rfl
   ·rw [if_neg e]; exact hf.ov2 t fun s hs k' e2 => by
     rw [List.mem_singleton] at hs; subst hs
     simp only [aslot, Option.some.injEq, Prod.mk.injEq] at e2
     exact e e2.2.symm
  rw [e, over_set, over_none]
  obtain ⟨e1, _, hh⟩ := hf.live 0 _ rfl
  exact hq.2 _ w' (by rcases e1 with e1 | e1; cases e1; exact e1) hf.below.all (by simpa [Blk, aslot] using hh)
theorem calm_aa {k k' : Nat} {d d' : Tmp} {st st' : Nat} {x x' : Operand} {u z u' z' : Value} {T T' : TypeId} {n n' : Nat} (hok : okB l [aslot k d st x u z T, aslot k' d' st' x' u' z' T'] a.tmps.size = true)
  (h1 : (l.toArray[st]?).map (fun o => o.op) = some (.store T (.tmp d) x)) (h2 : (l.toArray[k]?).map (fun o => o.op) = some (.alloc T)) (hi : (P.info? T).map (fun i => (i.zero, i.size)) = some (some z, n))
  (hz : z.cells.size = n) (hu : u.cells.size = n) (ho : u.cells.all (·.oneCell') = true)
  (g1 : (l.toArray[st']?).map (fun o => o.op) = some (.store T' (.tmp d') x')) (g2 : (l.toArray[k']?).map (fun o => o.op) = some (.alloc T')) (gi : (P.info? T').map (fun i => (i.zero, i.size)) = some (some z', n'))
  (gz : z'.cells.size = n') (gu : u'.cells.size = n') (go : u'.cells.all (·.oneCell') = true)
  (h : wpCalm P .any l.toArray [aslot k d st x u z T, aslot k' d' st' x' u' z' T'] [] w (fun a' => (a'.eval x = u ∧ a'.eval x' = u') ∧ ∀ b b' w', w.heap.size ≤ b → w.heap.size ≤ b' → b ≠ b' → Below w.heap.size w w' → Blk w' b u.cells.toList T → Blk w' b' u'.cells.toList T' →
   Q .normal ((a'.put (some d') (.pointer (some ⟨b', 0, none⟩))).put (some d) (.pointer (some ⟨b, 0, none⟩))) w') 0 l a) :
  Every P l Q a w := by
 obtain ⟨h1', h2', h3, h4⟩ := okB_spec hok
 have cases2 : ∀ s ∈ [aslot k d st x u z T, aslot k' d' st' x' u' z' T'], s = aslot k d st x u z T ∨ s = aslot k' d' st' x' u' z' T' := fun s hs => by simpa using hs
 refine calm_any h2' (stat_of h1' (fun s hs => ?_) (fun i i' s s' hi hi' hne hn => ?_)) a.tmps.size (Nat.le_refl _) h4 h3 [] (fun s hs hn => ?_) (wpCalm_mono (fun a' hq => ⟨fun s hs => ?_, fun g ov w' hf => ?_⟩) h)
 ·rcases cases2 s hs with rfl | rfl
  ·exact arun h1 h2 hi hz hu ho
  ·exact arun g1 g2 gi gz gu go
 ·rcases cases2 s (List.mem_of_getElem? hi) with rfl | rfl <;> cases hn
 ·rcases cases2 s hs with rfl | rfl <;> cases hn
 ·rcases cases2 s hs with rfl | rfl
  ·exact ⟨hq.1.1, fun hn => by cases hn⟩
  ·exact ⟨hq.1.2, fun hn => by cases hn⟩
 ·have e : ov = fun t => if t = d then some (.pointer (some ⟨g 0, 0, none⟩)) else (fun t => if t = d' then some (.pointer (some ⟨g 1, 0, none⟩)) else none) t := funext fun t => by
   by_cases e : t = d
   ·subst e; rw [if_pos rfl]; exact hf.ov1 0 _ k t rfl rfl
   ·rw [if_neg e]
    by_cases e' : t = d'
    ·subst e'; simp only [if_true]; exact hf.ov1 1 _ k' t rfl rfl
    ·simp only [e', if_false]
     exact hf.ov2 t fun s hs k2 e2 => by
      rcases cases2 s hs with rfl | rfl
      ·simp only [aslot, Option.some.injEq, Prod.mk.injEq] at e2
       exact e e2.2.symm
      ·simp only [aslot, Option.some.injEq, Prod.mk.injEq] at e2
       exact e' e2.2.symm
  rw [e, over_set, over_set, over_none]
  obtain ⟨e1, _, hh⟩ := hf.live 0 _ rfl
  obtain ⟨e2, _, hh2⟩ := hf.live 1 _ rfl
  exact hq.2 _ _ w' (by rcases e1 with e1 | e1; cases e1; exact e1) (by rcases e2 with e2 | e2; cases e2; exact e2) (hf.apart 0 1 _ _ rfl rfl (by omega)) hf.below.all (by simpa [Blk, aslot] using hh) (by simpa [Blk, aslot] using hh2)
theorem calm_kk {b o st b' o' st' : Nat} {ado x ado' x' : Operand} {u u' : Value} {cs cs' : List Value} {t T t' T' : TypeId} (hok : okB l [kslot b o st ado x u cs T, kslot b' o' st' ado' x' u' cs' T'] 0 = true)
  (hblk : Blk w b cs T) (hblk' : Blk w b' cs' T') (hne : b ≠ b')
  (h1 : (l.toArray[st]?).map (fun o => o.op) = some (.store t ado x)) (hi : (P.info? t).map (·.size) = some u.cells.size) (ho : u.cells.all (·.oneCell') = true) (hl : o + u.cells.size ≤ cs.length)
  (g1 : (l.toArray[st']?).map (fun o => o.op) = some (.store t' ado' x')) (gi : (P.info? t').map (·.size) = some u'.cells.size) (go : u'.cells.all (·.oneCell') = true) (gl : o' + u'.cells.size ≤ cs'.length)
  (h : wpCalm P .any l.toArray [kslot b o st ado x u cs T, kslot b' o' st' ado' x' u' cs' T'] [b, b'] w (fun a' => ((a'.eval x = u ∧ a'.eval ado = .pointer (some ⟨b, o, none⟩)) ∧ (a'.eval x' = u' ∧ a'.eval ado' = .pointer (some ⟨b', o', none⟩))) ∧
   ∀ w', Stay [b, b'] w w' → Blk w' b (putL cs o u.cells.toList) T → Blk w' b' (putL cs' o' u'.cells.toList) T' → Q .normal a' w') 0 l a) :
  Every P l Q a w := by
 obtain ⟨h1', h2, h3, h4⟩ := okB_spec hok
 have cases2 : ∀ s ∈ [kslot b o st ado x u cs T, kslot b' o' st' ado' x' u' cs' T'], s = kslot b o st ado x u cs T ∨ s = kslot b' o' st' ado' x' u' cs' T' := fun s hs => by simpa using hs
 refine calm_any h2 (stat_of h1' (fun s hs => ?_) (fun i i' s s' hi hi' hne2 _ _ => ?_)) 0 (Nat.zero_le _) h4 h3 _ (fun s hs _ => ?_) (wpCalm_mono (fun a' hq => ⟨fun s hs => ?_, fun g ov w' hf => ?_⟩) h)
 ·rcases cases2 s hs with rfl | rfl
  ·exact krun h1 hi ho hl
  ·exact krun g1 gi go gl
 ·have a1 := (List.getElem?_eq_some_iff.1 hi).1
  have a2 := (List.getElem?_eq_some_iff.1 hi').1
  simp at a1 a2
  have : (i = 0 ∧ i' = 1) ∨ (i = 1 ∧ i' = 0) := by omega
  rcases this with ⟨rfl, rfl⟩ | ⟨rfl, rfl⟩
  ·simp at hi hi'; subst hi hi'; exact hne
  ·simp at hi hi'; subst hi hi'; exact Ne.symm hne
 ·rcases cases2 s hs with rfl | rfl
  ·exact ⟨List.mem_cons_self .., hblk⟩
  ·exact ⟨List.mem_cons_of_mem _ (List.mem_singleton.2 rfl), hblk'⟩
 ·rcases cases2 s hs with rfl | rfl
  ·exact ⟨hq.1.1.1, fun _ => hq.1.1.2⟩
  ·exact ⟨hq.1.2.1, fun _ => hq.1.2.2⟩
 ·rw [ov_none hf (fun s hs => by rcases cases2 s hs with rfl | rfl <;> rfl), over_none]
  obtain ⟨_, e, hh⟩ := hf.live 0 _ rfl
  obtain ⟨_, e', hh'⟩ := hf.live 1 _ rfl
  rw [e rfl] at hh
  rw [e' rfl] at hh'
  exact hq.2 w' hf.below hh hh'
theorem calm_go {id : Nat} (hm : P.follows .mixedOrders = true) (h : Every P l Q a w) : (Code.region id l.toArray true).wp P Q a w := wp_region_any hm (h w.drew (.inr rfl))
def seqB (ops : Array Oper) : Nat → Nat → Array Bool → Bool
 | 0, _, _ => true
 | fuel + 1, k, listed => (Region.ready .any ops listed).contains k && seqB ops fuel (k + 1) (listed.setIfInBounds k true)
theorem wpOps_of_any {ops : Array Oper} : ∀ (n k : Nat) (listed : Array Bool) (a : Act) (w : World), seqB ops n k listed = true → wpAny P .any ops Q n listed a w → wpOps P ops Q (List.range' k n) a w
 | 0, _, _, _, _, _, h => h.2
 | n + 1, k, listed, a, w, hB, h => by
  unfold seqB at hB
  rw [Bool.and_eq_true] at hB
  rw [List.range'_succ, wpOps_cons]
  exact wpOp_mono (fun a' w' h' => wpOps_of_any n (k + 1) _ a' w' hB.2 h') (h.2 k (by simpa using hB.1))
theorem calm_plain {id : Nat} (hq : seqB l.toArray l.length 0 (Array.replicate l.length false) = true) (h : Every P l Q a w) : (Code.region id l.toArray false).wp P Q a w := by
 refine wp_region ?_
 have h1 := h w (.inl rfl)
 have e : l.toArray.size = l.length := by simp
 rw [e] at h1 ⊢
 rw [List.range_eq_range']
 exact wpOps_of_any _ _ _ _ _ hq h1
theorem cP {id : Nat} (h : Every P l Q a w) (hq : seqB l.toArray l.length 0 (Array.replicate l.length false) = true := by kernel_rfl) : (Code.region id l.toArray false).wp P Q a w := calm_plain hq h
theorem cG {id : Nat} (h : Every P l Q a w) (hm : P.follows .mixedOrders = true := by kernel_rfl) : (Code.region id l.toArray true).wp P Q a w := calm_go hm h
theorem cN (h : wpCalm P .any l.toArray [] [] w (fun a' => ∀ w', Below w.heap.size w w' → Q .normal a' w') 0 l a) (hok : okB l [] 0 = true := by kernel_rfl) : Every P l Q a w := calm_none hok h
end
end Go.Rg
namespace Go.Rg
open Go Go.RowKit Go.Wd
theorem grow_stay {D : List Nat} {A B C : World} {n : Nat} (h : Below n A B) (k : Stay D B C) (hD : ∀ d ∈ D, n ≤ d) (hn : n ≤ B.heap.size) : Below n A C := h.trans (k.below hn hD)
theorem gS {D : List Nat} {A B C : World} {n : Nat} (h : Below n A B) (k : Stay D B C) (hD : ∀ d ∈ D, n ≤ d := by simp <;> omega) (hn : n ≤ B.heap.size := by omega) : Below n A C := grow_stay h k hD hn
theorem Stay.of_below {A B : World} (h : Below A.heap.size A B) : Stay [] A B := ⟨h.os, h.tape, h.output, h.size, fun k _ hk => h.block k hk⟩
theorem sO {A B : World} (h : Below A.heap.size A B) : Stay [] A B := Stay.of_below h
theorem c1 {w : World} {b : Nat} {a0 : Value} {t : TypeId} (h : Blk w b [a0] t) : w.cell? ⟨b, 0, none⟩ = some a0 := h.cell rfl
theorem c2 {w : World} {b : Nat} {a0 a1 : Value} {t : TypeId} (h : Blk w b [a0, a1] t) : w.cell? ⟨b, 0, none⟩ = some a0 ∧ w.cell? ⟨b, 1, none⟩ = some a1 := ⟨h.cell rfl, h.cell rfl⟩
theorem c8 {w : World} {b : Nat} {a0 a1 a2 a3 a4 a5 a6 a7 : Value} {t : TypeId} (h : Blk w b [a0, a1, a2, a3, a4, a5, a6, a7] t) :
  w.cell? ⟨b, 0, none⟩ = some a0 ∧ w.cell? ⟨b, 1, none⟩ = some a1 ∧ w.cell? ⟨b, 2, none⟩ = some a2 ∧ w.cell? ⟨b, 3, none⟩ = some a3 ∧ w.cell? ⟨b, 4, none⟩ = some a4 ∧ w.cell? ⟨b, 5, none⟩ = some a5 ∧ w.cell? ⟨b, 6, none⟩ = some a6 ∧ w.cell? ⟨b, 7, none⟩ = some a7 :=
 ⟨h.cell rfl, h.cell rfl, h.cell rfl, h.cell rfl, h.cell rfl, h.cell rfl, h.cell rfl, h.cell rfl⟩
theorem putL_whole (cs vs : List Value) (h : cs.length = vs.length) : putL cs 0 vs = vs := by
 have := putL_all vs [] cs h
 simpa using this
theorem blk_whole {w : World} {b : Nat} {cs vs : List Value} {t : TypeId} (h : Blk w b (putL cs 0 vs) t) (hl : cs.length = vs.length) : Blk w b vs t := by rwa [putL_whole cs vs hl] at h
section
variable {P : Program} {l rest : List Oper} {Q : Exit → Act → World → Prop} {a : Act} {w : World} {o : Oper} {v : Value}
@[irreducible] def plW (P : Program) (l : List Oper) (Q : Exit → Act → World → Prop) (rest : List Oper) (a : Act) (w : World) : Prop := wpList P l.toArray Q rest a w
end
end Go.Rg
namespace Go.Eo
open Go Go.RowKit Go.Rg
def pr {α : Type} (P : Program) : Sem α → Option α
 | .pure a => some a
 | .program k => pr P (k P)
 | .mark _ k => pr P k
 | _ => none
theorem pr_run {α : Type} {P : Program} : ∀ {s : Sem α} {a : α}, pr P s = some a → ∀ w, s.run P w = .ok a w
 | .pure a, b, h, w => by cases h; rfl
 | .program k, b, h, w => by exact pr_run (s := k P) h w
 | .mark _ k, b, h, w => by exact pr_run (s := k) h w
inductive AC where
 | v (x : Value)
 | p (j o : Nat)
 | s (j o n c : Nat)
 | w (j : Nat)
 | e (j z i o : Nat)
 | f (fn : Fn) (j o : Nat)
def blk : Value → Nat
 | .pointer (some a) => a.block
 | .slice (some a) _ _ => a.block
 | _ => 0
def offV : Value → Nat
 | .slice (some a) _ _ => a.off
 | _ => 0
def ptrAt (v : Value) (o : Nat) : Value := .pointer (some ⟨blk v, o, none⟩)
def slcAt (v : Value) (o n c : Nat) : Value := .slice (some ⟨blk v, o, none⟩) n c
def slV (v : Value) : Value := match v with
 | .slice a n c => .slice a n c
 | _ => .slice none 0 0
def elmAt (v : Value) (q : Nat) : Value := .pointer (some ⟨blk v, offV v + q, none⟩)
def AC.c (η : Nat → Value) : AC → Value
 | .v x => x
 | .p j o => ptrAt (η j) o
 | .s j o n c => slcAt (η j) o n c
 | .w j => slV (η j)
 | .e j z i o => elmAt (η j) (i * z + o)
 | .f fn j o => .func fn #[] #[ptrAt (η j) o]
def AC.j : AC → Option Nat
 | .v _ => none
 | .p j _ => some j
 | .s j _ _ _ => some j
 | .w j => some j
 | .e j _ _ _ => some j
 | .f _ j _ => some j
inductive AG where
 | a (x : AC)
 | g (l : List AC)
def AG.c (η : Nat → Value) : AG → Value
 | .a x => x.c η
 | .g l => .agg (l.map (·.c η)).toArray
def AG.js : AG → List Nat
 | .a x => x.j.toList
 | .g l => l.filterMap (·.j)
inductive AV where
 | a (x : AC)
 | g (l : List AC)
 | t (l : List AG)
 | f (fn : Fn) (fs cs : List AC)
def AV.c (η : Nat → Value) : AV → Value
 | .a x => x.c η
 | .g l => .agg (l.map (·.c η)).toArray
 | .t l => .tuple (l.map (·.c η)).toArray
 | .f fn fs cs => .func fn (fs.map (·.c η)).toArray (cs.map (·.c η)).toArray
def AV.js : AV → List Nat
 | .a x => x.j.toList
 | .g l => l.filterMap (·.j)
 | .t l => l.flatMap (·.js)
 | .f _ fs cs => fs.filterMap (·.j) ++ cs.filterMap (·.j)
inductive Dt where
 | v (x : Value)
 | s (z : Nat) (es : List (List Dt))
inductive Ob where
 | box (c : List AC) (T : TypeId)
 | row (T : TypeId) (z : Nat) (es : List (List Dt))
 | sl (z : Nat) (es : List (List Dt))
 | dead
 | ro (c : List AC) (T : TypeId)
def Ob.js : Ob → List Nat
 | .box c _ => c.filterMap (·.j)
 | .ro c _ => c.filterMap (·.j)
 | _ => []
structure Bx where
 k : Option Value
 o : Ob
structure St where
 d : Nat → Value
 u : List (Nat × AV)
 x : List Bx
def lk (d : Nat → Value) : List (Nat × AV) → Nat → AV
 | [], t => .a (.v (d t))
 | (k, v) :: r, t => bif Nat.beq k t then v else lk d r t
def St.at (s : St) (t : Nat) : AV := lk s.d s.u t
def St.ov (s : St) : Operand → AV
 | .tmp t => s.at t
 | .const v => .a (.v v)
 | .global g => .a (.v (.pointer (some ⟨g, 0, none⟩)))
 | .func f => .a (.v (.func (.func f) #[] #[]))
def St.put (s : St) (d : Nat) (v : AV) : St := { s with u := (d, v) :: s.u }
def St.ob (s : St) (j : Nat) : Option Ob := match s.x[j]? with
 | some B => some B.o
 | none => none
def St.bx (s : St) (j : Nat) : Option (List AC) := match s.ob j with
 | some (.box c _) => some c
 | some (.ro c _) => some c
 | _ => none
def St.ra (s : St) (x : AC) : Option Value := match x with
 | .v y => some y
 | .p j o => match s.x[j]? with
  | some B => match B.k with
   | some v => some (ptrAt v o)
   | none => none
  | none => none
 | .s j o n c => match s.x[j]? with
  | some B => match B.k with
   | some v => some (slcAt v o n c)
   | none => none
  | none => none
 | .w j => match s.x[j]? with
  | some B => match B.k with
   | some v => some (slV v)
   | none => none
  | none => none
 | .e j z i o => match s.x[j]? with
  | some B => match B.k with
   | some v => some (elmAt v (i * z + o))
   | none => none
  | none => none
 | .f fn j o => match s.x[j]? with
  | some B => match B.k with
   | some v => some (.func fn #[] #[ptrAt v o])
   | none => none
  | none => none
def St.ral (s : St) : List AC → Option (List Value)
 | [] => some []
 | x :: l => match s.ra x with
  | some v => match s.ral l with
   | some vs => some (v :: vs)
   | none => none
  | none => none
def St.rg (s : St) : AG → Option Value
 | .a x => s.ra x
 | .g l => match s.ral l with
  | some vs => some (.agg vs.toArray)
  | none => none
def St.rgl (s : St) : List AG → Option (List Value)
 | [] => some []
 | x :: l => match s.rg x with
  | some v => match s.rgl l with
   | some vs => some (v :: vs)
   | none => none
  | none => none
def St.rv (s : St) : AV → Option Value
 | .a x => s.ra x
 | .g l => match s.ral l with
  | some vs => some (.agg vs.toArray)
  | none => none
 | .t l => match s.rgl l with
  | some vs => some (.tuple vs.toArray)
  | none => none
 | .f fn fs cs => match s.ral fs with
  | some xs => match s.ral cs with
   | some ys => some (.func fn xs.toArray ys.toArray)
   | none => none
  | none => none
def St.ev (s : St) (x : Operand) : Value := match s.rv (s.ov x) with
 | some v => v
 | none => undef
def St.ok1 (s : St) (x : Operand) : Bool := (s.rv (s.ov x)).isSome
def St.fine (s : St) (o : Oper) : Bool := o.op.operands.toList.all s.ok1
def St.eh (s : St) (η : Nat → Value) (x : Operand) : Value := (s.ov x).c η
def AV.cells : AV → Option (List AC)
 | .a (.v x) => some (x.cells.toList.map .v)
 | .a x => some [x]
 | .g l => some l
 | .f fn [] [.p j o] => some [.f fn j o]
 | _ => none
def unF : AC → AV
 | .f fn j o => .f fn [] [.p j o]
 | x => .a x
def okC : AC → Bool
 | .v x => x.oneCell'
 | _ => true
def vOf : List AC → Option (List Value)
 | [] => some []
 | .v x :: l => match vOf l with
  | some r => some (x :: r)
  | none => none
 | _ :: _ => none
def mkG (l : List AC) : AV := match vOf l with
 | some vs => .a (.v (.agg vs.toArray))
 | none => .g l
def dts (n : Nat) : List Dt → List AC × List Bx
 | [] => ([], [])
 | .v x :: l => let r := dts n l; (.v x :: r.1, r.2)
 | .s z es :: l => let r := dts (n + 1) l; (.w n :: r.1, ⟨none, .sl z es⟩ :: r.2)
def St.dt (s : St) : AC → Option Dt
 | .v x => some (.v x)
 | .w j => match s.ob j with
  | some (.sl z es) => some (.s z es)
  | _ => none
 | .p j o => match s.ra (.p j o) with
  | some v => some (.v v)
  | none => none
 | _ => none
def St.dtl (s : St) : List AC → Option (List Dt)
 | [] => some []
 | x :: l => match s.dt x with
  | some d => match s.dtl l with
   | some r => some (d :: r)
   | none => none
  | none => none
def ptL {α : Type} : List α → Nat → List α → List α
 | cs, _, [] => cs
 | cs, o, v :: r => ptL (cs.set o v) (o + 1) r
def AC.rn (σ : Nat → Nat) : AC → AC
 | .v x => .v x
 | .p j o => .p (σ j) o
 | .s j o n c => .s (σ j) o n c
 | .w j => .w (σ j)
 | .e j z i o => .e (σ j) z i o
 | .f fn j o => .f fn (σ j) o
def AG.rn (σ : Nat → Nat) : AG → AG
 | .a x => .a (x.rn σ)
 | .g l => .g (l.map (·.rn σ))
def AV.rn (σ : Nat → Nat) : AV → AV
 | .a x => .a (x.rn σ)
 | .g l => .g (l.map (·.rn σ))
 | .t l => .t (l.map (·.rn σ))
 | .f fn fs cs => .f fn (fs.map (·.rn σ)) (cs.map (·.rn σ))
def Ob.rn (σ : Nat → Nat) : Ob → Ob
 | .box c T => .box (c.map (·.rn σ)) T
 | .ro c T => .ro (c.map (·.rn σ)) T
 | o => o
def sg (js : List Nat) (m : Nat) (i : Nat) : Nat := match js[i]? with
 | some j => j
 | none => m + (i - js.length)
inductive It where
 | v (t : Nat) (x y : Value)
 | c (t : Nat) (f : FuncId) (args : Array Value) (r : Value)
 | m (t : Nat) (q : Sem Next) (r : Value)
 | i (t : Nat) (z : Int) (n len : Nat)
 | l (t : Nat) (es : List (List Dt)) (n : Nat) (e : List Dt)
 | b (t : Nat) (own : Bool) (lo hi : Int) (l h len : Nat)
 | a (t : Nat) (n bytes : Nat)
 | k (t l : Nat) (z : Int) (n bytes : Nat)
 | z (t : Nat) (j : Nat)
 | n (t u T z : Nat)
 | q (t j c T z : Nat)
 | o (t : Nat) (j : Nat) (x y : Ob)
 | f (t : Nat) (fid : FuncId) (js ks : List Nat) (obs : List Ob) (args : List AV) (obs' ns : List Ob) (r : AV)
def It.tag : It → Nat
 | .v t .. => t
 | .c t .. => t
 | .m t .. => t
 | .i t .. => t
 | .l t .. => t
 | .b t .. => t
 | .a t .. => t
 | .k t .. => t
 | .z t .. => t
 | .n t .. => t
 | .q t .. => t
 | .o t .. => t
 | .f t .. => t
inductive Cl where
 | v (x : Value)
 | c (f : FuncId) (args : Array Value)
 | m (q : Sem Next)
 | n (z : Int) (n : Nat)
 | l (es : List (List Dt))
 | o (x : Ob)
 | f (fid : FuncId) (obs : List Ob) (args : List AV)
 | s (n : Nat)
def entered : Option Next → Option (FuncId × Array Value)
 | some (.enter f avs) => some (f, avs)
 | _ => none
def tdRow : TypeDesc → Bool
 | .struct _ => true
 | .array _ _ => true
 | _ => false
def ldv (P : Program) (t : TypeId) (cs : List AC) (o : Nat) : Option AV :=
 match P.underlying t with
 | none => none
 | some d => match tdRow d with
  | true => match P.info? t with
   | none => none
   | some i => bif Nat.ble (o + i.size) cs.length then some (mkG ((cs.drop o).take i.size)) else none
  | false => match cs[o]? with
   | some x => some (unF x)
   | none => none
def fldo (P : Program) (t : TypeId) (f : Nat) : Option Nat :=
 match P.underlying t with
 | some (.struct fs) => match fs[f]? with
  | some fd => match P.info? fd.type with
   | some i => bif Nat.beq i.size 0 then none else some fd.offset
   | none => none
  | none => none
 | _ => none
def elmo (P : Program) (t : TypeId) (x : Value) : Option Nat :=
 match P.underlying t with
 | some (.array n e) => match P.info? e with
  | some i => match x with
   | .int _ z => bif decide (0 ≤ z) && decide (z < n) then some (z.toNat * i.size) else none
   | _ => none
  | none => none
 | _ => none
def elms (P : Program) (t : TypeId) (n : Nat) (x : Value) : Option Nat :=
 match P.underlying t with
 | some (.slice e) => match P.info? e with
  | some i => match x with
   | .int _ z => bif decide (0 ≤ z) && decide (z < n) then some (z.toNat * i.size) else none
   | _ => none
  | none => none
 | _ => none
def slo (P : Program) (s : St) (t : TypeId) (lo hi mx : Option Operand) : Option (Nat × Nat × Nat × Nat) :=
 match P.underlying t with
 | some (.array n e) => match P.info? e with
  | some i => match (lo.toList ++ (hi.toList ++ mx.toList)).all s.ok1 with
   | true => match pr P (Instr.sliceBounds false n n (lo.map s.ev) (hi.map s.ev) (mx.map s.ev)) with
    | some (l, h, m) => some (l, h, m, i.size)
    | none => none
   | false => none
  | none => none
 | _ => none
def arn (P : Program) (t : TypeId) : Option Nat :=
 match P.underlying t with
 | some (.array n _) => some n
 | _ => none
def eli (P : Program) (t : TypeId) : Option (TypeId × TypeInfo) :=
 match P.underlying t with
 | some (.slice e) => match P.info? e with
  | some i => some (e, i)
  | none => none
 | _ => none
def fldc (P : Program) (t : TypeId) (f : Nat) (cs : List AC) : Option AV :=
 match P.underlying t with
 | some (.struct fs) => match fs[f]? with
  | some fd => ldv P fd.type cs fd.offset
  | none => none
 | _ => none
def fillA (place : Nat → Option (Nat × Nat)) : List AC → List (Nat × List AC) → Option (List AC)
 | cs, [] => some cs
 | cs, (i, v) :: r => match place i with
  | none => none
  | some (o, z) => bif Nat.beq v.length z && Nat.ble (o + v.length) cs.length then fillA place (ptL cs o v) r else none
def cellsL (s : St) : List (Nat × Operand) → Option (List (Nat × List AC))
 | [] => some []
 | (i, x) :: l => match (s.ov x).cells with
  | some c => match cellsL s l with
   | some r => some ((i, c) :: r)
   | none => none
  | none => none
def zrc (P : Program) (t : TypeId) : Option (List Value) :=
 match P.info? t with
 | some i => match i.zero with
  | some z => some z.cells.toList
  | none => none
 | none => none
def plcs (P : Program) : List Field → Option (List (Nat × Nat))
 | [] => some []
 | f :: l => match P.info? f.type with
  | some i => match plcs P l with
   | some r => some ((f.offset, i.size) :: r)
   | none => none
  | none => none
def bldA (P : Program) (s : St) (t : TypeId) (parts : Array (Nat × Operand)) : Option AV :=
 match P.underlying t with
 | some (.struct fs) => match plcs P fs.toList with
  | some pl => match zrc P t with
   | some z => match cellsL s parts.toList with
    | some ps => match fillA (fun i => pl[i]?) (z.map .v) ps with
     | some c => some (mkG c)
     | none => none
    | none => none
   | none => none
  | none => none
 | _ => none
def acL : List AV → Option (List AC)
 | [] => some []
 | .a x :: l => match acL l with
  | some r => some (x :: r)
  | none => none
 | _ :: _ => none
def gen (P : Program) (s : St) (o : Oper) : Option AV :=
 match s.fine o with
 | true => match pr P (execOp s.ev o) with
  | some (.value v) => some (.a (.v v))
  | _ => none
 | false => none
def AG.av : AG → AV
 | .a x => .a x
 | .g l => .g l
def nilC (P : Program) (t : TypeId) (v : AV) (y : Operand) : Bool :=
 match v, y with
 | .a (.p _ _), .const (.pointer none) => match P.underlying t with
  | some (.pointer _) => true
  | _ => false
 | .f _ _ _, .const .nilFunc => match P.underlying t with
  | some (.func _ _ _) => true
  | _ => false
 | _, _ => false
def St.ln (s : St) (j : Nat) : Option Nat := match s.ob j with
 | some (.row _ _ es) => some es.length
 | some (.sl _ es) => some es.length
 | _ => none
def vop (P : Program) (s : St) (o : Oper) : Option (AV × List Nat) :=
 let g : Option (AV × List Nat) := match gen P s o with
  | some v => some (v, [])
  | none => none
 match o.op with
 | .move x => some (s.ov x, [])
 | .assign x => some (s.ov x, [])
 | .nilCheck x => match s.ov x with
  | .a (.p k f) => some (.a (.p k f), [])
  | .a (.e j z i q) => some (.a (.e j z i q), [])
  | _ => g
 | .fieldAddr t x f => match s.ov x with
  | .a (.p k off) => match fldo P t f with
   | some n => some (.a (.p k (off + n)), [])
   | none => none
  | .a (.e j z i q) => match fldo P t f with
   | some n => some (.a (.e j z i (q + n)), [])
   | none => none
  | _ => g
 | .indexAddr t x i => match s.ov x with
  | .a (.p k off) => match s.ov i with
   | .a (.v y) => match elmo P t y with
    | some n => some (.a (.p k (off + n)), [])
    | none => none
   | _ => none
  | .a (.e j z k off) => match s.ov i with
   | .a (.v y) => match elmo P t y with
    | some n => some (.a (.e j z k (off + n)), [])
    | none => none
   | _ => none
  | .a (.s k off n _) => match s.ov i with
   | .a (.v y) => match elms P t n y with
    | some j => some (.a (.p k (off + j)), [])
    | none => none
   | _ => none
  | _ => g
 | .slice t x lo hi mx => match s.ov x with
  | .a (.p k off) => match slo P s t lo hi mx with
   | some (l, h, m, z) => some (.a (.s k (bif Nat.beq m l then off else off + l * z) (h - l) (m - l)), [])
   | none => none
  | _ => g
 | .sliceToArrayPointer t x => match s.ov x with
  | .a (.s k off n _) => match arn P t with
   | some j => bif Nat.ble j n then some (.a (.p k off), []) else none
   | none => none
  | _ => g
 | .field t x f => match s.ov x with
  | .g l => match fldc P t f l with
   | some v => some (v, [])
   | none => none
  | _ => g
 | .extract x i => match s.ov x with
  | .t l => match l[i]? with
   | some v => some (v.av, [])
   | none => none
  | _ => g
 | .build t ps => match s.fine o with
  | true => g
  | false => match bldA P s t ps with
   | some v => some (v, [])
   | none => none
 | .makeFunc fn fs cs => match s.fine o with
  | true => g
  | false => match acL (fs.toList.map s.ov) with
   | some xs => match acL (cs.toList.map s.ov) with
    | some ys => some (.f fn xs ys, [])
    | none => none
   | none => none
 | .call { callee := .builtin .len, args, argTypes } => match args.toList, argTypes.toList with
  | [x], [T] => match P.underlying T with
   | some (.slice _) => match s.ov x with
    | .a (.w j) => match s.ln j with
     | some n => some (.a (.v (.int .i64 n)), [j])
     | none => none
    | .a (.s _ _ n _) => some (.a (.v (.int .i64 n)), [])
    | _ => g
   | _ => g
  | _, _ => g
 | .binOp .eql t x y _ => bif nilC P t (s.ov x) y then some (.a (.v (.bool false)), []) else g
 | .binOp .neq t x y _ => bif nilC P t (s.ov x) y then some (.a (.v (.bool true)), []) else g
 | _ => g
structure R1 where
 s : St
 it : List It
 q : List (Cl × Cl)
 r : List Nat
 w : List Nat
def fin (s : St) (d : Nat) (v : AV) (it : List It) (q : List (Cl × Cl)) (r w : List Nat) : R1 :=
 match it with
 | .v t x y :: it' => bif Nat.beq t d then (match v with
   | .a (.v z) => ⟨s.put d (.a (.v y)), it', (.v z, .v x) :: q, r, w⟩
   | _ => ⟨s.put d v, it, q, r, w⟩) else ⟨s.put d v, it, q, r, w⟩
 | _ => ⟨s.put d v, it, q, r, w⟩
def pre (t : Nat) : St → List It → St × List It × List (Cl × Cl)
 | s, .z t' j :: r => bif Nat.beq t' t then (match s.x[j]? with
   | some ⟨k, .row T z es⟩ => pre t { s with x := s.x.set j ⟨k, .sl z es⟩ } r
   | some ⟨k, .box c T⟩ => pre t { s with x := s.x.set j ⟨k, .ro c T⟩ } r
   | _ => (s, .z t' j :: r, [])) else (s, .z t' j :: r, [])
 | s, .o t' j x y :: r => bif Nat.beq t' t then (match s.x[j]? with
   | some ⟨k, ob⟩ => let R := pre t { s with x := s.x.set j ⟨k, y⟩ } r
    (R.1, R.2.1, (.o ob, .o x) :: R.2.2)
   | _ => (s, .o t' j x y :: r, [])) else (s, .o t' j x y :: r, [])
 | s, .n t' u T z :: r => bif Nat.beq t' t then (match s.at u with
   | .a (.v (.slice none 0 0)) => pre t { s with u := (u, .a (.w s.x.length)) :: s.u, x := s.x ++ [⟨none, .row T z []⟩] } r
   | _ => (s, .n t' u T z :: r, [])) else (s, .n t' u T z :: r, [])
 | s, .q t' j c T z :: r => bif Nat.beq t' t then (match s.x[j]? with
   | some ⟨k, .box cs T'⟩ => match cs[c]? with
    | some (.v (.slice none 0 0)) => pre t { s with x := s.x.set j ⟨k, .box (cs.set c (.w s.x.length)) T'⟩ ++ [⟨none, .row T z []⟩] } r
    | _ => (s, .q t' j c T z :: r, [])
   | _ => (s, .q t' j c T z :: r, [])) else (s, .q t' j c T z :: r, [])
 | s, it => (s, it, [])
def isB : It → Bool
 | .v .. => false
 | .z .. => false
 | .n .. => false
 | .q .. => false
 | .o .. => false
 | _ => true
def tk (t : Nat) (it : List It) : Option (It × List It) :=
 match it with
 | i :: r => bif Nat.beq i.tag t && isB i then some (i, r) else none
 | [] => none
def intV : AV → Option Int
 | .a (.v (.int _ z)) => some z
 | _ => none
def intO (s : St) (z : Int) : Option Operand → Option Int
 | none => some z
 | some x => intV (s.ov x)
def St.rows (s : St) (j : Nat) : Option (Nat × List (List Dt)) := match s.ob j with
 | some (.row _ z es) => some (z, es)
 | some (.sl z es) => some (z, es)
 | _ => none
def St.all (s : St) (js : List Nat) : Option (List Ob) := match js with
 | [] => some []
 | j :: l => match s.ob j with
  | some o => match s.all l with
   | some r => some (o :: r)
   | none => none
  | none => none
def set1 (x : List Bx) (j : Nat) (o : Ob) : List Bx := match x[j]? with
 | some B => x.set j { B with o := o }
 | none => x
def setL (x : List Bx) : List Nat → List Ob → List Bx
 | j :: js, o :: os => setL (set1 x j o) js os
 | _, _ => x
def bodied (P : Program) (f : FuncId) : Bool := match P.funcs[f]? with
 | some fn => fn.body.isSome && !(fn.name == "runtime.NumGoroutine")
 | none => false
def callee (s : St) (c : Call) : Option (FuncId × List AV) :=
 match c.callee with
 | .value f => match s.ov f with
  | .a (.v (.func (.func k) fs cs)) => some (k, fs.toList.map (fun x => .a (.v x)) ++ (c.args.toList.map s.ov ++ cs.toList.map (fun x => .a (.v x))))
  | .f (.func k) fs cs => some (k, fs.map .a ++ (c.args.toList.map s.ov ++ cs.map .a))
  | _ => none
 | _ => none
def nodupN : List Nat → Bool
 | [] => true
 | x :: l => l.all (fun y => !Nat.beq x y) && nodupN l
def rgF (m : Nat) : Nat → List Nat
 | 0 => []
 | n + 1 => m :: rgF (m + 1) n
def chg {α : Type} (k : List Nat) : Nat → List α → List α
 | _, [] => []
 | i, x :: l => bif k.any (Nat.beq i) then chg k (i + 1) l else x :: chg k (i + 1) l
def rowsZ (n : Nat) (cs : List Value) : List (List Dt) := List.replicate n (cs.map .v)
def partsD (s : St) : List (Nat × Operand) → Nat → Option (List (List Dt))
 | [], _ => some []
 | (i, x) :: l, k => bif Nat.beq i k then (match (s.ov x).cells with
   | some c => bif c.all okC then (match s.dtl c with
    | some d => match partsD s l (k + 1) with
     | some r => some (d :: r)
     | none => none
    | none => none) else none
   | none => none) else none
def jsO (s : St) (l : List (Nat × Operand)) : List Nat := l.flatMap (fun p => (s.ov p.2).js)
def beh (P : Program) (N : Nat) (s : St) (o : Oper) (d : Nat) (i : It) (it : List It) : Option R1 :=
 match i with
 | .c t f args r => match s.fine o with
  | true => match entered (pr P (execOp s.ev o)) with
   | some (f', avs) => some (fin s d (.a (.v r)) it [(.c f' avs, .c f args)] [] [])
   | none => none
  | false => none
 | .m t q r => match s.fine o with
  | true => some (fin s d (.a (.v r)) it [(.m (execOp s.ev o), .m q)] [] [])
  | false => none
 | .i t z n len => match o.op with
  | .indexAddr T x ix => match s.ov x with
   | .a (.w j) => match s.rows j with
    | some (zz, es) => match intV (s.ov ix) with
     | some zc => match eli P T with
      | some (_, inf) => bif Nat.beq inf.size zz then some (fin s d (.a (.e j zz n 0)) it [(.n zc es.length, .n z len)] [j] []) else none
      | none => none
     | none => none
    | none => none
   | _ => none
  | _ => none
 | .l t es n e => match o.op with
  | .load T ad => match s.ov ad with
   | .a (.e j z n' off) => match s.rows j with
    | some (zz, es') => bif Nat.beq z zz then
      (let D := dts s.x.length e
       match ldv P T D.1 off with
       | some v => some (fin { s with x := s.x ++ D.2 } d v it [(.l es', .l es), (.s n', .s n)] [j] (rgF s.x.length D.2.length))
       | none => none) else none
    | none => none
   | _ => none
  | _ => none
 | .b t own lo hi l h len => match o.op with
  | .slice T x lo' hi' mx => match s.ov x with
   | .a (.w j) => match s.x[j]? with
    | some B => match eli P T with
     | some (_, inf) => match intO s 0 lo' with
      | some loC => match own, B.o with
       | false, .sl z es => match intO s es.length hi' with
        | some hiC => match intO s hiC mx with
         | some mC => bif Nat.beq inf.size z && (hi'.isSome || mx.isNone) then some (fin { s with x := s.x ++ [⟨none, .sl z ((es.take h).drop l)⟩] } d (.a (.w s.x.length)) it [(.n loC es.length, .n lo len), (.n hiC es.length, .n hi len), (.n mC 0, .n hi 0)] [j] [s.x.length]) else none
         | none => none
        | none => none
       | true, .row R z es => match intO s es.length hi' with
        | some hiC => match mx with
         | none => bif Nat.beq inf.size z && Nat.beq l 0 then some (fin { s with x := s.x.set j { B with o := .dead } ++ [⟨none, .row R z (es.take h)⟩] } d (.a (.w s.x.length)) it [(.n loC es.length, .n lo len), (.n hiC es.length, .n hi len)] [] [j, s.x.length]) else none
         | some _ => none
        | none => none
       | _, _ => none
      | none => none
     | none => none
    | none => none
   | _ => none
  | _ => none
 | .a t n by_ => match o.op with
  | .call { callee := .builtin .append, args, argTypes } => match args.toList with
   | [x, y] => match argTypes.toList with
    | [T, T'] => bif Nat.beq T T' then (match eli P T with
     | some (e, inf) => match inf.zero with
      | some zv => bif Nat.beq zv.cells.size inf.size && !Nat.beq inf.size 0 then (match s.ov y with
       | .a (.w j2) => match s.rows j2 with
        | some (z2, es2) => bif Nat.beq z2 inf.size then (match s.ov x with
         | .a (.v (.slice none 0 0)) => some (fin { s with x := s.x ++ [⟨none, .row e inf.size es2⟩] } d (.a (.w s.x.length)) it [(.n es2.length inf.bytes, .n n by_)] [j2] [s.x.length])
         | .a (.w j1) => match s.x[j1]? with
          | some ⟨k1, .row e1 z1 es1⟩ => bif Nat.beq z1 inf.size && (Nat.beq e1 e && !Nat.beq j1 j2) then
            some (fin { s with x := s.x.set j1 ⟨k1, .dead⟩ ++ [⟨none, .row e z1 (es1 ++ es2)⟩] } d (.a (.w s.x.length)) it [(.n ((es1.length + es2.length : Nat) : Int) inf.bytes, .n n by_)] [j2] [j1, s.x.length]) else none
          | _ => none
         | _ => none) else none
        | none => none
       | _ => none) else none
      | none => none
     | none => none) else none
    | _ => none
   | _ => none
  | _ => none
 | .k t len z n by_ => match o.op with
  | .makeSlice T l c => match eli P T with
   | some (e, inf) => match inf.zero with
    | some zv => match s.ov l with
     | .a (.v (.int _ lz)) => match intV (s.ov c) with
      | some cz => bif Nat.beq zv.cells.size inf.size && (!Nat.beq inf.size 0 && zv.cells.toList.all (·.oneCell')) then
        some (fin { s with x := s.x ++ [⟨none, .row e inf.size (rowsZ len zv.cells.toList)⟩] } d (.a (.w s.x.length)) it [(.n cz inf.bytes, .n z by_), (.n lz 0, .n len 0)] [] [s.x.length]) else none
      | none => none
     | _ => none
    | none => none
   | none => none
  | _ => none
 | .f t fid js ks obs args obs' ns r => match o.op with
  | .call c => match callee s c with
   | some (f', avs) => match s.all js with
    | some os => bif nodupN js && (Nat.beq obs.length js.length && (Nat.beq obs'.length js.length && bodied P f')) then
      some (fin { s with x := setL s.x (chg ks 0 js) (chg ks 0 (obs'.map (·.rn (sg js s.x.length)))) ++ ns.map (fun o => ⟨none, o.rn (sg js s.x.length)⟩) } d (r.rn (sg js s.x.length)) it
       ((.f f' os avs, .f fid (obs.map (·.rn (sg js s.x.length))) (args.map (·.rn (sg js s.x.length)))) :: ks.map (fun i => (.o (obs.getD i .dead), .o (obs'.getD i .dead)))) js (chg ks 0 js ++ rgF s.x.length ns.length)) else none
    | none => none
   | none => none
  | _ => none
 | _ => none
def own1 (P : Program) (N : Nat) (s : St) (o : Oper) (d : Nat) (it : List It) : Option R1 :=
 match o.op with
 | .alloc t => match zrc P t with
  | some cs => some ⟨{ s with u := (d, .a (.p s.x.length 0)) :: s.u, x := s.x ++ [⟨none, .box (cs.map .v) t⟩] }, it, [], [], [s.x.length]⟩
  | none => none
 | .box t x => match (s.ov x).cells with
  | some cs => some ⟨{ s with u := (d, .a (.p s.x.length 0)) :: s.u, x := s.x ++ [⟨none, .box cs t⟩] }, it, [], [], [s.x.length]⟩
  | none => none
 | .buildSlice t len parts => match eli P t with
  | some (e, inf) => match inf.zero with
   | some z => match partsD s parts.toList 0 with
    | some ds => bif Nat.beq ds.length len && (ds.all (fun d => Nat.beq d.length inf.size) && (!Nat.beq inf.size 0 && Nat.ble (len * inf.size) 16777216)) then
      some ⟨{ s with u := (d, .a (.w s.x.length)) :: s.u, x := s.x ++ [⟨none, .row e inf.size ds⟩] }, it, [], jsO s parts.toList, [s.x.length]⟩ else none
    | none => none
   | none => none
  | none => none
 | .load t a => match s.ov a with
  | .a (.p k off) => match s.bx k with
   | some c => match ldv P t c off with
    | some v => some (fin s d v it [] [k] [])
    | none => none
   | none => none
  | _ => none
 | _ => match vop P s o with
  | some (v, r) => some (fin s d v it [] r [])
  | none => none
def sto (P : Program) (s : St) (o : Oper) (it : List It) : Option R1 :=
 match o.op with
 | .store t a x => match (s.ov x).cells with
  | some cs => match P.info? t with
   | some i => bif Nat.beq cs.length i.size && cs.all okC then (match s.ov a with
    | .a (.p k off) => match s.x[k]? with
     | some ⟨kk, .box c T⟩ => bif Nat.ble (off + i.size) c.length then some ⟨{ s with x := s.x.set k ⟨kk, .box (ptL c off cs) T⟩ }, it, [], [], [k]⟩ else none
     | _ => none
    | .a (.e j z n off) => match it with
     | .l t' es n' e :: it' => match s.x[j]? with
      | some ⟨kk, .row T z' es'⟩ => match s.dtl cs with
       | some ds => bif Nat.beq z z' && Nat.ble (off + i.size) e.length then
         some ⟨{ s with x := s.x.set j ⟨kk, .row T z (es'.set n (ptL e off ds))⟩ }, it', [(.l es', .l es), (.s n', .s n)], (s.ov x).js, [j]⟩ else none
       | none => none
      | _ => none
     | _ => none
    | _ => none) else none
   | none => none
  | none => none
 | _ => none
def stp (P : Program) (N : Nat) (s : St) (o : Oper) (it : List It) : Option R1 :=
 match o.dst with
 | none => sto P s o it
 | some d => bif Nat.ble N d then none else
  match tk d it with
  | some (i, it') => beh P N s o d i it'
  | none => own1 P N s o d it
def wt (s : St) (ops : Array Oper) (o : Oper) : Bool :=
 match o.guard with
 | none => true
 | some (j, b) => match (ops[j]?).bind (·.dst) with
  | none => false
  | some d => match s.at d with
   | .a (.v (.bool c)) => c == b
   | _ => false
structure Fp where
 r : List Nat
 w : List Nat
structure RL where
 l : List (St × Fp)
 s : St
 it : List It
 q : List (Cl × Cl)
def rl (P : Program) (N : Nat) (ops : Array Oper) : List Oper → St → List It → Option RL
 | [], s, it => some ⟨[], s, it, []⟩
 | o :: r, s, it => match wt s ops o with
  | true => match stp P N s o it with
   | some R => match rl P N ops r R.s R.it with
    | some T => some ⟨(s, ⟨R.r, R.w⟩) :: T.l, T.s, T.it, R.q ++ T.q⟩
    | none => none
   | none => none
  | false => match o.dst with
   | some d => bif Nat.ble N d then none else match rl P N ops r (s.put d (.a (.v undef))) it with
    | some T => some ⟨(s, ⟨[], []⟩) :: T.l, T.s, T.it, T.q⟩
    | none => none
   | none => match rl P N ops r s it with
    | some T => some ⟨(s, ⟨[], []⟩) :: T.l, T.s, T.it, T.q⟩
    | none => none
def eb (acc : List Nat) : List Edge → Nat
 | [] => 0
 | e :: l => bif Region.binds .any e then (1 <<< e.on) ||| (acc.getD e.on 0 ||| eb acc l) else eb acc l
def bs : List Oper → List Nat → List Nat
 | [], acc => acc
 | o :: r, acc => bs r (acc ++ [eb acc o.after.toList])
def lowE (k : Nat) : List Edge → Bool
 | [] => true
 | e :: l => (!Region.binds .any e || Nat.ble (e.on + 1) k) && lowE k l
def lowB : Nat → List Oper → Bool
 | _, [] => true
 | k, o :: r => lowE k o.after.toList && lowB (k + 1) r
def dj (a b : List Nat) : Bool := a.all fun x => b.all fun y => !Nat.beq x y
def fpo (f g : Fp) : Bool := dj f.w g.w && (dj f.w g.r && dj f.r g.w)
def prI (ops : Array Oper) (B : Nat) (o : Oper) (f : Fp) : Nat → List (Oper × Fp) → Bool
 | _, [] => true
 | i, (o', f') :: r => (B.testBit i || (Oper.apart ops o' o && fpo f' f)) && prI ops B o f (i + 1) r
def prJ (ops : Array Oper) : List (Oper × Fp) → List (Oper × Fp) → List Nat → Bool
 | _, [], _ => true
 | pre, (o, f) :: r, B :: Bs => prI ops B o f 0 pre && prJ ops (pre ++ [(o, f)]) r Bs
 | _, _ :: _, [] => false
def okR (ops : Array Oper) (fs : List Fp) : Bool :=
 lowB 0 ops.toList && (Region.noSelect ops && (ops.toList.all plainOp && prJ ops [] (ops.toList.zip fs) (bs ops.toList [])))
inductive Ex where
 | n
 | e (id : Nat)
 | r
inductive Kt where
 | c (c : Code)
 | b (id : Nat)
 | g
 | a (K : Act → World → Prop)
def unw (id : Nat) : List Kt → Option (List Kt)
 | [] => none
 | .b j :: k => bif Nat.beq j id then some k else unw id k
 | .g :: k => unw id k
 | _ :: k => unw id k
def regId : Code → Option Nat
 | .region id _ _ => some id
 | .seq a b => match regId a with
  | some i => some i
  | none => regId b
 | .cond _ a b => match regId a with
  | some i => some i
  | none => regId b
 | .block _ b => regId b
 | .loop b => regId b
 | .scope b => regId b
 | _ => none
def isReg (id : Nat) (c : Code) : Bool := match regId c with
 | some i => Nat.beq i id
 | none => false
structure RK where
 e : Ex
 k : List Kt
 s : St
 it : List It
 q : List (Cl × Cl)
def addK (q : List (Cl × Cl)) : Option RK → Option RK
 | some R => some { R with q := q ++ R.q }
 | none => none
def stopK (e : Ex) (ks : List Kt) (t : Nat) (s : St) (it : List It) : Option RK :=
 let p := pre t s it
 some ⟨e, ks, p.1, p.2.1, p.2.2⟩
def rk (P : Program) (N : Nat) (tg : List Nat) : Nat → List Kt → St → List It → Option RK
 | 0, _, _, _ => none
 | n + 1, ks, s, it => match ks with
  | [] => stopK .n [] 1000 s it
  | .b _ :: k => rk P N tg n k s it
  | .g :: k => rk P N tg n k s it
  | .a K :: k => stopK .n (.a K :: k) 1000 s it
  | .c c :: k => match c with
   | .skip => rk P N tg n k s it
   | .ret => stopK .r [] 1000 s it
   | .exit id => match unw id k with
    | some k' => rk P N tg n k' s it
    | none => stopK (.e id) [] 1000 s it
   | .seq a b => rk P N tg n (.c a :: .c b :: k) s it
   | .cond x a b => match s.ov x with
    | .a (.v (.bool true)) => rk P N tg n (.c a :: k) s it
    | .a (.v (.bool false)) => rk P N tg n (.c b :: k) s it
    | _ => none
   | .block id b => rk P N tg n (.c b :: .b id :: k) s it
   | .scope b => rk P N tg n (.c b :: .g :: k) s it
   | .label _ => rk P N tg n k s it
   | .loop b => bif tg.any (isReg · b) then stopK .n (.c (.loop b) :: k) 1000 s it else none
   | .rangeFunc f ps a b => bif tg.any (isReg · a) then stopK .n (.c (.rangeFunc f ps a b) :: k) 1000 s it else none
   | .region id ops dr => bif tg.any (Nat.beq · id) then stopK .n (.c (.region id ops dr) :: k) 1000 s it else
    let p := pre id s it
    match rl P N ops ops.toList p.1 p.2.1 with
    | some R => bif okR ops (R.l.map (·.2)) then addK (p.2.2 ++ R.q) (rk P N tg n k R.s R.it) else none
    | none => none
   | _ => none
def resOf (P : Program) (s : St) : ResultVar → Option AV
 | .tmp t => some (s.at t)
 | .cell t T => match s.at t with
  | .a (.p k o) => match s.ob k with
   | some (.box c _) => ldv P T c o
   | _ => none
  | _ => none
def resL (P : Program) (s : St) : List ResultVar → Option (List AV)
 | [] => some []
 | r :: l => match resOf P s r with
  | some v => match resL P s l with
   | some vs => some (v :: vs)
   | none => none
  | none => none
def agL : List AV → Option (List AG)
 | [] => some []
 | .a x :: l => match agL l with
  | some r => some (.a x :: r)
  | none => none
 | .g x :: l => match agL l with
  | some r => some (.g x :: r)
  | none => none
 | _ :: _ => none
def vvL : List AV → Option (List Value)
 | [] => some []
 | .a (.v x) :: l => match vvL l with
  | some r => some (x :: r)
  | none => none
 | _ :: _ => none
def resV (P : Program) (s : St) (l : List ResultVar) : Option AV :=
 match resL P s l with
 | some [v] => some v
 | some vs => match vvL vs with
  | some xs => some (.a (.v (.tuple xs.toArray)))
  | none => match agL vs with
   | some r => some (.t r)
   | none => none
 | none => none
end Go.Eo
