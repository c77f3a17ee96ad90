/- The engine with objects: a region with a call that writes what others of its operations read, in whatever order. No program in sight. -/
import Derived.Test.YtlkhneiccjhgdaaGreatGRg
import Derived.Test.YtlkhneiccjhgdaaGreatGRf
import Derived.Test.YtlkhneiccjhgdaaGreatGRa
import Derived.Test.YtlkhneiccjhgdaaGreatGRb
import Derived.Deep.Cut
import Derived.Laws.StructEq
import Derived.Laws.Tables
import Derived.Laws.Cover2
set_option linter.unusedVariables false
set_option linter.unusedSimpArgs false
set_option maxRecDepth 100000
namespace Go.Eo
open Go Go.RowKit Go.Rg
def maskX (js : List Nat) (x : List Bx) : List Bx := match js with
 | [] => x
 | j :: js => maskX js (x.set j ⟨none, .dead⟩)
def frs (T : RL) : List ((Nat → Value) × List (Nat × AV)) := T.l.map fun x => (x.1.d, x.1.u)
def mks (js : List Nat) (T : RL) : List (List Bx) := T.l.map fun x => maskX js x.1.x
def offB (js : List Nat) (s : St) : Bool := s.u.all (fun p => dj p.2.js js) && s.x.all fun B => dj B.o.js js
theorem dj_not {a b : List Nat} (h : dj a b = true) {k : Nat} (ha : k ∈ a) : k ∉ b := fun hb => by
 unfold dj at h
 rw [List.all_eq_true] at h
 have := h k ha
 rw [List.all_eq_true] at this
 have := this k hb
 simp at this
theorem maskX_get : ∀ (js : List Nat) (x : List Bx) (k : Nat), k ∉ js → (maskX js x)[k]? = x[k]?
 | [], x, k, _ => rfl
 | j :: js, x, k, h => by
  rw [maskX, maskX_get js _ k (fun hk => h (List.mem_cons_of_mem _ hk)), List.getElem?_set_ne (fun e : j = k => h (by rw [e]; exact List.mem_cons_self ..))]
section
variable {P : Program} {N : Nat} {W : World} {D ι0 : Nat → Prop}
structure Qh (P : Program) (N : Nat) (ops : Array Oper) (TA TB : RL) (an : Nat → Nat → Prop) (q n0 : Nat) (o : Oper) (js : List Nat) (fid : FuncId) (obs : List Ob) (args : List AV) (obs' ns : List Ob) (r : AV) : Prop where
 ho : ops[q]? = some o
 f : ∃ c avs, o.op = .call c ∧ callee (TA.st q) c = some (fid, avs) ∧ avs = args.map (·.rn (sg js n0))
 bd : bodied P fid = true
 d : ∃ d, o.dst = some d ∧ d < N ∧ (∀ t, (TB.st (q + 1)).at t = if d = t then r.rn (sg js n0) else (TB.st q).at t)
 fpA : TA.fp q = ⟨[], []⟩
 fpB : (TB.fp q).w = []
 eq : ∀ i, i ≤ q → (∀ t, (TA.st i).at t = (TB.st i).at t) ∧ ∀ k, k ∉ js ++ rgF n0 ns.length → (TA.st i).x[k]? = (TB.st i).x[k]?
 fp : ∀ i, i < q → TA.fp i = TB.fp i
 wA : ∀ i, ∀ k ∈ (TA.fp i).w, k ∉ js ++ rgF n0 ns.length
 wB : ∀ i, ∀ k ∈ (TB.fp i).w, k ∉ js ++ rgF n0 ns.length
 off : ∀ i, i ≤ q → (∀ t, ∀ k ∈ ((TA.st i).at t).js, k ∉ rgF n0 ns.length) ∧ ∀ (k : Nat) (B : Bx), (TA.st i).x[k]? = some B → ∀ j ∈ B.o.js, j ∉ rgF n0 ns.length
 w : wt (TA.st q) ops o = true
 nd : nodupN js = true
 l1 : obs.length = js.length
 l2 : obs'.length = js.length
 oA : ∀ (i : Nat) (ob : Ob), obs[i]? = some ob → ∃ j, js[i]? = some j ∧ j < n0 ∧ (TA.st 0).ob j = some (ob.rn (sg js n0))
 oB : ∀ (i : Nat) (ob : Ob), (obs' ++ ns)[i]? = some ob → (TB.st 0).ob (sg js n0 i) = some (ob.rn (sg js n0))
 lenA : (TA.st 0).x.length = n0 + ns.length
 lenB : (TB.st 0).x.length = n0 + ns.length
 kn : ∀ (k : Nat) (B : Bx) (v : Value), (TB.st 0).x[k]? = some B → B.k = some v → k < n0 ∧ ∃ B0 : Bx, (TA.st 0).x[k]? = some B0 ∧ B0.k = some v
 ds : ∀ i, q < i → i < ops.size → an i q
variable {ops : Array Oper} {TA TB : RL} {an : Nat → Nat → Prop} {γ0 : Nat → Value} {q n0 : Nat} {o : Oper} {js : List Nat} {fid : FuncId} {obs : List Ob} {args : List AV} {obs' ns : List Ob} {r : AV}
theorem q_step (H : Hy P N W D ops TA an γ0) (HB : ∀ γ, Kn (TB.st 0) γ → Hy P N W D ops TB an γ) (Y : Qh P N ops TA TB an q n0 o js fid obs args obs' ns r) (hf : FnP P fid obs args obs' ns r)
  {l l' : Nat → Bool} (hc : Cls ops l) (hun : l q = false) (hall : ∀ e ∈ o.after, Region.binds .any e = true → l e.on = true) (hl' : ∀ i, l' i = (decide (i = q) || l i)) (hpre : ∀ i, q < i → l i = false)
  {η : Nat → Value} {ι : Nat → Prop} {a : Act} {w : World} (hη : ∀ j, j < (TA.st 0).x.length → η j = γ0 j) (hC : Cn N W D ι0 (cur TA ops l) (curx TA ops l) η ι a w)
  {m : Nat} {r0 : Option Nat} {Q : Exit → Act → World → Prop} (hL : ¬ LetsOut Q) (hp : plainOp o = true) {K : Act → World → Prop}
  (hK : ∀ η' ι' a' w', a'.defers = a.defers → (∀ j, j < n0 → η' j = η j) → Kn (TB.st 0) η' → Cn N W D ι0 (cur TB ops l') (curx TB ops l') η' ι' a' w' → K a' w') : wpOpIn (WF r0) m P ops Q q K a w := by
 obtain ⟨c, avs, hop, hcal, has⟩ := Y.f
 obtain ⟨d, hd, hdN, hat⟩ := Y.d
 obtain ⟨hin, hlen, hfn⟩ := hf
 obtain ⟨hr1, hr2⟩ := inN_r hin
 have hq := (Array.getElem?_eq_some_iff.1 Y.ho).1
 have c1 : ∀ {t : Nat}, t ∈ o.looksAt ops → a.tmps.getD t undef = ((TA.st q).at t).c η := fun {t} ht => by rw [hC.tm t, H.curT hc Y.ho hun hall (.inl ht)]
 have hsees : Sees (TA.st q) η a o.op.operands.toList := fun t ht => c1 (List.mem_append_left _ (List.mem_filterMap.2 ⟨.tmp t, ht, rfl⟩))
 have hlw : ∀ (wr : Nat → Bool), lw l wr ops.size = lw l wr q := fun wr => lw_up (lst := l) (wr := wr) (i := q) ops.size (by omega) (fun i h1 h2 _ => by
  by_cases e : i = q
  ·subst e; exact hun
  ·exact hpre i (by omega))
 let σ := sg js n0
 let rv := rgF n0 ns.length
 have hσ : ∀ i j, js[i]? = some j → σ i = j := fun i j h => by simp only [σ, sg, h]
 have hσn : ∀ i, js.length ≤ i → σ i = n0 + (i - js.length) := fun i h => by simp only [σ, sg, List.getElem?_eq_none h]
 have mrv : ∀ k, k ∈ rv ↔ n0 ≤ k ∧ k < n0 + ns.length := fun k => mem_rgF
 -- places
 have hcT : ∀ t, cur TB ops l t = cur TA ops l t := fun t => by
  unfold cur
  rw [hlw, ((Y.eq _ (lw_le _ _ _)).1 t)]
 have hcX : ∀ k, k ∉ js ++ rv → curx TB ops l k = curx TA ops l k := fun k hk => by
  have hw : ∀ n, n ≤ q → lw l (wrX TB k) n = lw l (wrX TA k) n := fun n => by
   induction n with
   | zero => intro _; rfl
   | succ n ih =>
    intro hn
    have : wrX TB k n = wrX TA k n := by unfold wrX; rw [Y.fp n (by omega)]
    unfold lw
    rw [this, ih (by omega)]
  unfold curx
  rw [hlw, hlw, hw q (Nat.le_refl _), (Y.eq _ (lw_le _ _ _)).2 k hk]
 have lw0 : ∀ (T : RL) (k : Nat), (∀ i, k ∉ (T.fp i).w) → ∀ (l : Nat → Bool) n, lw l (wrX T k) n = 0 := fun T k h l n => by
  induction n with
  | zero => rfl
  | succ n ih =>
   unfold lw
   have : wrX T k n = false := by unfold wrX; simp [h n]
   rw [this, ih]; simp
 have xA : ∀ k, k ∈ js ++ rv → curx TA ops l k = (TA.st 0).x[k]? := fun k hk => by
  unfold curx; rw [lw0 TA k (fun i hi => Y.wA i k hi hk)]
 have xB : ∀ k, k ∈ js ++ rv → curx TB ops l' k = (TB.st 0).x[k]? := fun k hk => by
  unfold curx; rw [lw0 TB k (fun i hi => Y.wB i k hi hk)]
 have lw' : ∀ (T : RL) (k : Nat), k ∉ (T.fp q).w → lw l' (wrX T k) ops.size = lw l (wrX T k) ops.size := fun T k h => by
  have : ∀ n, lw l' (wrX T k) n = lw l (wrX T k) n := fun n => by
   induction n with
   | zero => rfl
   | succ n ih =>
    unfold lw
    rw [ih, hl' n]
    by_cases e : n = q
    ·subst e
     have : wrX T k n = false := by unfold wrX; simp [h]
     rw [this]; simp
    ·simp [e]
  exact this _
 have xO : ∀ k, k ∉ js ++ rv → curx TB ops l' k = curx TA ops l k := fun k hk => by
  rw [← hcX k hk]
  unfold curx
  rw [lw' TB k (by rw [Y.fpB]; simp)]
 have offT : ∀ t, ∀ k ∈ (cur TA ops l t).js, k ∉ rv := fun t k hk => by
  unfold cur at hk; rw [hlw] at hk
  exact (Y.off _ (lw_le _ _ _)).1 t k hk
 have offX : ∀ k B, curx TA ops l k = some B → ∀ j ∈ B.o.js, j ∉ rv := fun k B hB => by
  unfold curx at hB; rw [hlw] at hB
  exact (Y.off _ (lw_le _ _ _)).2 k B hB
 -- the call's objects
 have hjo : ∀ (i : Nat) (ob : Ob), obs[i]? = some ob → ∃ j B, js[i]? = some j ∧ σ i = j ∧ j < n0 ∧ curx TA ops l j = some B ∧ B.o = ob.rn σ := fun i ob h => by
  obtain ⟨j, h1, h2, h3⟩ := Y.oA i ob h
  obtain ⟨B, h4, h5⟩ := ob_x h3
  exact ⟨j, B, h1, hσ i j h1, h2, by rw [xA j (List.mem_append_left _ (List.mem_of_getElem? h1))]; exact h4, h5⟩
 have hmem : Mem (fun i => η (σ i)) ι w obs := by
  refine ⟨fun i ob h => ?_, fun i i' ob ob' g h h' hm hm' => ?_, fun i ob g h hm => ?_, hC.il⟩
  ·obtain ⟨j, B, h1, h2, h3, h4, h5⟩ := hjo i ob h
   have := hC.ok j B h4
   rw [h5] at this
   rw [h2]; exact ook_rn.1 this
  ·obtain ⟨j, B, h1, h2, h3, h4, h5⟩ := hjo i ob h
   obtain ⟨j', B', h1', h2', h3', h4', h5'⟩ := hjo i' ob' h'
   rw [h2] at hm; rw [h2'] at hm'
   have := hC.ne j j' B B' g h4 h4' (by rw [h5, mb_rn]; exact hm) (by rw [h5', mb_rn]; exact hm')
   subst this
   exact nodupN_inj Y.nd i' i j' h1' h1
  ·obtain ⟨j, B, h1, h2, h3, h4, h5⟩ := hjo i ob h
   rw [h2] at hm
   exact (hC.ni j B g h4 (by rw [h5, mb_rn]; exact hm)).1
 let Mu := Muts (fun i => η (σ i)) obs
 have muC : ∀ g, Mu g → ∃ j B, j ∈ js ∧ curx TA ops l j = some B ∧ mb (η j) B.o = some g := fun g ⟨i, ob, ho, hm⟩ => by
  obtain ⟨j, B, h1, h2, h3, h4, h5⟩ := hjo i ob ho
  exact ⟨j, B, List.mem_of_getElem? h1, h4, by rw [h5, mb_rn, ← h2]; exact hm⟩
 have muD : ∀ g, Mu g → ¬ ι g ∧ (D g ∨ W.heap.size ≤ g) := fun g hg => by
  obtain ⟨j, B, _, h1, h2⟩ := muC g hg
  exact hC.ni j B g h1 h2
 have hrun := callee_run (P := P) (w := w) hop hcal Y.bd hsees
 have hargs : avs.map (·.c η) = args.map (·.c fun i => η (σ i)) := by
  rw [has, List.map_map]; exact List.map_congr_left fun x _ => av_rn σ η x
 rw [hargs] at hrun
 unfold wpOpIn
 simp only [Y.ho]
 rw [yield_wt (s := TA.st q) (η := η) (fun t ht => c1 ht), Y.w]
 simp only [if_true]
 refine owes_in hL hp (wp_enter (R := fun v w' => ∃ η' ι', v = r.c η' ∧ (∀ j, j < obs.length → η' j = η (σ j)) ∧ Mem η' ι' w' (obs' ++ ns) ∧ Keep Mu w w' ∧ (∀ g, ι g → ι' g) ∧ (∀ g, ι' g → ι g ∨ Mu g ∨ w.heap.size ≤ g) ∧ ∀ g, Muts η' (obs' ++ ns) g → Mu g ∨ w.heap.size ≤ g)
  hrun ((hfn _ ι w hmem).mono fun e w' ⟨η', ι', h1, h2⟩ => ⟨_, h1, η', ι', rfl, h2⟩) ?_)
 rintro v w' ⟨η', ι', rfl, k1, k2, k3, k4, k5, k6⟩
 let η2 : Nat → Value := fun k => if n0 ≤ k ∧ k < n0 + ns.length then η' (js.length + (k - n0)) else η k
 have hold : ∀ k, k ∉ rv → η2 k = η k := fun k hk => by simp only [η2]; rw [if_neg (fun h => hk ((mrv k).2 h))]
 have hη2 : ∀ i, i < obs.length + ns.length → η2 (σ i) = η' i := fun i hi => by
  rcases Nat.lt_or_ge i js.length with h | h
  ·have hj : js[i]? = some js[i] := List.getElem?_eq_getElem h
   obtain ⟨ob, ho⟩ : ∃ ob, obs[i]? = some ob := ⟨_, List.getElem?_eq_getElem (by rw [Y.l1]; exact h)⟩
   obtain ⟨j, B, h1, h2, h3, _⟩ := hjo i ob ho
   rw [h2, hold j (fun hk => by have := (mrv j).1 hk; omega), k1 i (by rw [Y.l1]; exact h), h2]
  ·rw [hσn i h]
   have h1 := Y.l1
   have hyes : n0 ≤ n0 + (i - js.length) ∧ n0 + (i - js.length) < n0 + ns.length := by omega
   simp only [η2]
   rw [if_pos hyes]
   congr 1; omega
 -- special objects
 have spec : ∀ k B, k ∈ js ++ rv → curx TB ops l' k = some B → ∃ i ob, k = σ i ∧ i < obs.length + ns.length ∧ (obs' ++ ns)[i]? = some ob ∧ B.o = ob.rn σ := fun k B hk hB => by
  rw [xB k hk] at hB
  have h1 := Y.l1
  have h2 := Y.l2
  obtain ⟨i, hi, hik⟩ : ∃ i, i < obs.length + ns.length ∧ k = σ i := by
   rcases List.mem_append.1 hk with hk | hk
   ·obtain ⟨i, hi⟩ := List.getElem?_of_mem hk
    have := (List.getElem?_eq_some_iff.1 hi).1
    exact ⟨i, by omega, (hσ i k hi).symm⟩
   ·have := (mrv k).1 hk
    exact ⟨js.length + (k - n0), by omega, by rw [hσn _ (by omega)]; omega⟩
  obtain ⟨ob, ho⟩ : ∃ ob, (obs' ++ ns)[i]? = some ob := ⟨_, List.getElem?_eq_getElem (by rw [List.length_append]; omega)⟩
  have : (TB.st 0).ob (σ i) = some (ob.rn σ) := Y.oB i ob ho
  rw [← hik, ob_of hB] at this
  simp only [Option.some.injEq] at this
  exact ⟨i, ob, hik, hi, ho, this⟩
 have exB : ∀ k, k < n0 + ns.length → k ∈ js ++ rv → ∃ B, curx TB ops l' k = some B := fun k hk hm => by
  rw [xB k hm]; exact ⟨_, List.getElem?_eq_getElem (by rw [Y.lenB]; exact hk)⟩
 have jlt : ∀ k, k ∈ js ++ rv → k < n0 + ns.length := fun k hk => by
  rcases List.mem_append.1 hk with hk | hk
  ·obtain ⟨i, hi⟩ := List.getElem?_of_mem hk
   obtain ⟨ob, ho⟩ : ∃ ob, obs[i]? = some ob := ⟨_, List.getElem?_eq_getElem (by rw [Y.l1]; exact (List.getElem?_eq_some_iff.1 hi).1)⟩
   obtain ⟨j, B, h1, h2, h3, _⟩ := hjo i ob ho
   rw [hi] at h1; cases h1; omega
  ·have := (mrv k).1 hk; omega
 have alive : ∀ k B, curx TA ops l k = some B → ∃ B', curx TB ops l' k = some B' := fun k B hB => by
  by_cases hk : k ∈ js ++ rv
  ·exact exB k (jlt k hk) hk
  ·exact ⟨B, by rw [xO k hk]; exact hB⟩
 have σmem : ∀ i, i < obs.length + ns.length → σ i ∈ js ++ rv := fun i hi => by
  have h1 := Y.l1
  rcases Nat.lt_or_ge i js.length with h | h
  ·have hj : js[i]? = some js[i] := List.getElem?_eq_getElem h
   rw [hσ i _ hj]; exact List.mem_append_left _ (List.getElem_mem _)
  ·rw [hσn i h]; exact List.mem_append_right _ ((mrv _).2 (by omega))
 have notMu : ∀ k B g, k ∉ js ++ rv → curx TA ops l k = some B → mb (η k) B.o = some g → ¬ Mu g := fun k B g hk hB hm hg => by
  obtain ⟨j, B', hj, h1, h2⟩ := muC g hg
  have := hC.ne j k B' B g h1 hB h2 hm
  subst this; exact hk (List.mem_append_left _ hj)
 have ηO : ∀ k, k ∉ js ++ rv → η2 k = η k := fun k hk => hold k fun h => hk (List.mem_append_right _ h)
 have mbS : ∀ k B g, k ∈ js ++ rv → curx TB ops l' k = some B → mb (η2 k) B.o = some g → (Mu g ∨ w.heap.size ≤ g) ∧ ¬ ι' g := fun k B g hk hB hm => by
  obtain ⟨i, ob, rfl, hi, ho, he⟩ := spec k B hk hB
  rw [he, mb_rn, hη2 i hi] at hm
  exact ⟨k6 g ⟨i, ob, ho, hm⟩, k2.ni i ob g ho hm⟩
 have hkn2 : Kn (TB.st 0) η2 := fun k B v hB hv => by
  obtain ⟨h1, B0, h2, h3⟩ := Y.kn k B v hB hv
  rw [hold k (fun h => by have := (mrv k).1 h; omega), hη k (by rw [Y.lenA]; omega)]
  exact H.kn k B0 v h2 h3
 have hT' : ∀ t, cur TB ops l' t = if o.dst = some t then r.rn σ else cur TA ops l t := fun t => by
  rw [(HB η2 hkn2).curT' hc Y.ho hun hall hl', hcT t, hat]
  by_cases e : d = t
  ·subst e; simp [hd, σ]
  ·have : ¬ o.dst = some t := fun h => e (by rw [hd] at h; cases h; rfl)
   rw [if_neg this, if_neg this]
 refine hK η2 ι' _ w' (by unfold Act.put; split <;> rfl) (fun j hj => hold j fun h => by have := (mrv j).1 h; omega) hkn2 ⟨fun t => ?_, fun t k hk => ?_, fun k B hB => ?_, fun k B hB j hj => ?_, fun k k' B B' g hB hB' hm hm' => ?_, fun k B g hB hm => ?_, k2.il, fun g hg => ?_, fun g hg => k4 g (hC.iu g hg), ⟨k3.os.trans hC.st.os, k3.tape.trans hC.st.tape, k3.output.trans hC.st.output, Nat.le_trans hC.st.size k3.size, fun b hb hlt => ?_⟩, ?_⟩
 ·rw [put_getD (H := H) a o.dst (r.c η') (fun t e => by rw [hC.sz]; rw [hd] at e; cases e; exact hdN), hT']
  by_cases h : o.dst = some t
  ·rw [if_pos h, if_pos h, av_rn]
   exact (AV.c_congr fun k hk => hη2 k (by have := hr1 k hk; omega)).symm
  ·rw [if_neg h, if_neg h, hC.tm t]
   exact (AV.c_congr fun k hk => hold k (offT t k hk)).symm
 ·rw [hT'] at hk
  by_cases h : o.dst = some t
  ·rw [if_pos h, av_rn_js] at hk
   obtain ⟨i, hi, rfl⟩ := List.mem_map.1 hk
   have hi' := hr1 i hi
   have := σmem i (by omega)
   exact exB _ (jlt _ this) this
  ·rw [if_neg h] at hk
   obtain ⟨B, hB⟩ := hC.sc t k hk
   exact alive k B hB
 ·by_cases hk : k ∈ js ++ rv
  ·obtain ⟨i, ob, rfl, hi, ho, he⟩ := spec k B hk hB
   rw [he, hη2 i hi]
   refine ook_rn.2 ((ook_congr fun j hj => ?_).1 (k2.ok i ob ho))
   exact (hη2 j (by have := hr2 ob (List.mem_of_getElem? ho) j hj; omega)).symm
  ·rw [xO k hk] at hB
   rw [ηO k hk]
   refine (hC.ok k B hB).seg k4 (fun g o' hg ho' _ => (k3.same g (fun hm => (muD g hm).1 hg) (hC.il g hg)).trans ho') (fun g o' hm ho' _ => (k3.same g (notMu k B g hk hB hm) (mb_lt (hC.ok k B hB) hm)).trans ho') (fun j hj => hold j (offX k B hB j hj))
 ·by_cases hk : k ∈ js ++ rv
  ·obtain ⟨i, ob, rfl, hi, ho, he⟩ := spec k B hk hB
   rw [he, ob_rn_js] at hj
   obtain ⟨i', hi', rfl⟩ := List.mem_map.1 hj
   have := hr2 ob (List.mem_of_getElem? ho) i' hi'
   have h1 := σmem i' (by omega)
   exact exB _ (jlt _ h1) h1
  ·rw [xO k hk] at hB
   obtain ⟨B', hB'⟩ := hC.ob k B hB j hj
   exact alive j B' hB'
 ·have cross : ∀ k k' B B' g, k ∈ js ++ rv → k' ∉ js ++ rv → curx TB ops l' k = some B → curx TB ops l' k' = some B' → mb (η2 k) B.o = some g → mb (η2 k') B'.o = some g → False := fun k k' B B' g hk hk' hB hB' hm hm' => by
   rw [xO k' hk'] at hB'
   rw [ηO k' hk'] at hm'
   rcases (mbS k B g hk hB hm).1 with h | h
   ·exact notMu k' B' g hk' hB' hm' h
   ·have := mb_lt (hC.ok k' B' hB') hm'; omega
  by_cases hk : k ∈ js ++ rv <;> by_cases hk' : k' ∈ js ++ rv
  ·obtain ⟨i, ob, rfl, hi, ho, he⟩ := spec k B hk hB
   obtain ⟨i', ob', rfl, hi', ho', he'⟩ := spec k' B' hk' hB'
   rw [he, mb_rn, hη2 i hi] at hm
   rw [he', mb_rn, hη2 i' hi'] at hm'
   rw [k2.ne i i' ob ob' g ho ho' hm hm']
  ·exact (cross k k' B B' g hk hk' hB hB' hm hm').elim
  ·exact (cross k' k B' B g hk' hk hB' hB hm' hm).elim
  ·rw [xO k hk] at hB
   rw [xO k' hk'] at hB'
   rw [ηO k hk] at hm
   rw [ηO k' hk'] at hm'
   exact hC.ne k k' B B' g hB hB' hm hm'
 ·by_cases hk : k ∈ js ++ rv
  ·obtain ⟨h1, h2⟩ := mbS k B g hk hB hm
   refine ⟨h2, ?_⟩
   rcases h1 with h | h
   ·exact (muD g h).2
   ·exact .inr (Nat.le_trans hC.st.size h)
  ·rw [xO k hk] at hB
   rw [ηO k hk] at hm
   obtain ⟨h1, h2⟩ := hC.ni k B g hB hm
   refine ⟨fun hg => ?_, h2⟩
   rcases k5 g hg with h | h | h
   ·exact h1 h
   ·exact notMu k B g hk hB hm h
   ·have := mb_lt (hC.ok k B hB) hm; omega
 ·rcases k5 g hg with h | h | h
  ·exact hC.ig g h
  ·exact .inr (muD g h).2
  ·exact .inr (.inr (Nat.le_trans hC.st.size h))
 ·rw [k3.same b (fun hm => (muD b hm).2.elim hb (fun h => by omega)) (Nat.lt_of_lt_of_le hlt hC.st.size)]
  exact hC.st.same b hb hlt
 ·unfold Act.put
  split
  ·simp [hC.sz]
  ·exact hC.sz
section
variable (H : Hy P N W D ops TA an γ0) (HB : ∀ γ, Kn (TB.st 0) γ → Hy P N W D ops TB an γ) (Y : Qh P N ops TA TB an q n0 o js fid obs args obs' ns r) (hf : FnP P fid obs args obs' ns r)
 (hSA : ∀ (i : Nat) (oi : Oper), ops[i]? = some oi → i < q → Sp P N W D ops oi (TA.st i) (TA.fp i) (TA.st (i + 1)) TA.q) (hSB : ∀ (i : Nat) (oi : Oper), ops[i]? = some oi → i ≠ q → Sp P N W D ops oi (TB.st i) (TB.fp i) (TB.st (i + 1)) TB.q)
include H HB Y hf hSA hSB
theorem q_any {m : Nat} {r0 : Option Nat} {Q : Exit → Act → World → Prop} {dfs : List Deferred} (hL : ¬ LetsOut Q) (hQ : ∀ γ' ι' a' w', a'.defers = dfs → (∀ k, k < n0 → γ' k = γ0 k) → Cn N W D ι0 (TB.st ops.size).at (fun k => (TB.st ops.size).x[k]?) γ' ι' a' w' → Kn (TB.st ops.size) γ' → Q .normal a' w') :
  ∀ (fuel : Nat) (listed : Array Bool) (a : Act) (w : World) (γ : Nat → Value) (ι : Nat → Prop), listed.size = ops.size → Cls ops (fun k => listed.getD k false) → a.defers = dfs →
  (∀ k, k < (TA.st 0).x.length → γ k = γ0 k) → Cn N W D ι0 (cur TA ops fun k => listed.getD k false) (curx TA ops fun k => listed.getD k false) γ ι a w →
  ops.size ≤ fuel + (List.range ops.size).countP (fun k => listed.getD k false) → listed.getD q false = false → wpAnyIn (WF r0) m P .any ops Q fuel listed a w := by
 have hq := (Array.getElem?_eq_some_iff.1 Y.ho).1
 intro fuel
 induction fuel with
 | zero =>
  intro listed a w γ ι hsz hc hdf hγ hC hcnt hlq
  exfalso
  have h1 := List.countP_le_length (p := fun k => listed.getD k false) (l := List.range ops.size)
  have h2 : (List.range ops.size).countP (fun k => listed.getD k false) = (List.range ops.size).length := by rw [List.length_range] at *; omega
  have := List.countP_eq_length.1 h2 q (List.mem_range.2 hq)
  rw [hlq] at this; cases this
 | succ fuel ih =>
  intro listed a w γ ι hsz hc hdf hγ hC hcnt hlq
  refine ⟨fun hr => ?_, fun i hi => ?_⟩
  ·have := rd_all H hsz hr q hq
   rw [hlq] at this; cases this
  obtain ⟨hun, o', ho', hall⟩ := mem_ready.1 hi
  have hin := (Array.getElem?_eq_some_iff.1 ho').1
  have hil : i < listed.size := by omega
  have hun' : listed.getD i false = false := by simp [hil] at hun ⊢; exact hun
  have hl' : ∀ k, (listed.setIfInBounds i true).getD k false = (decide (k = i) || listed.getD k false) := fun k => getD_set listed i k hil
  have hcnt' := cnt_set hil hin hun' hcnt
  have hpre : ∀ j, q < j → listed.getD j false = false := fun j hj => by
   cases hlj : listed.getD j false with
   | false => rfl
   | true =>
    exfalso
    have hjs : j < ops.size := by
     rcases Nat.lt_or_ge j listed.size with h | h
     ·omega
     ·rw [Array.getD_eq_getD_getElem?, Array.getElem?_eq_none h] at hlj; cases hlj
    obtain ⟨oj, hoj⟩ := H.get hjs
    have := H.ok.up hc j oj hoj (hc j oj hoj hlj) q (Y.ds j hj hjs)
    rw [hlq] at this; cases this
  by_cases e : i = q
  ·subst e
   have hoo : o' = o := by have := Y.ho; rw [ho'] at this; cases this; rfl
   subst hoo
   refine q_step H HB Y hf hc hun' hall hl' hpre hγ hC hL (H.pl i o' ho') fun η' ι' a' w' h1 h2 hkn h3 => ?_
   refine any_all (HB η' hkn) (Z := fun j => j ≠ i) (dfs := dfs) (fun j oj hj hne => hSB j oj hj hne) hL (fun γ' ι2 a2 w2 h4 h5 h6 => ?_) fuel _ a' w' η' ι' (by simpa using hsz) (Cls.set H hc ho' hall hl') (h1.trans hdf) (fun _ _ => rfl) h3 hcnt' (fun j hj e => by subst e; rw [hl'] at hj; simp at hj)
   exact hQ γ' ι2 a2 w2 h4 (fun k hk => by rw [h5 k (by rw [Y.lenB]; omega), h2 k hk, hγ k (by rw [Y.lenA]; omega)]) h6 (told_kn (HB η' hkn) h5)
  ·have hiq : i < q := by
    rcases Nat.lt_trichotomy i q with h | h | h
    ·exact h
    ·exact absurd h e
    ·exfalso
     have := H.ok.up hc i o' ho' hall q (Y.ds i h hin)
     rw [hlq] at this; cases this
   refine any_step H hc ho' (hSA i o' ho' hiq) hun' hall hl' hγ hC hL fun γ' ι' a' w' h1 h2 h3 => ?_
   refine ih _ a' w' γ' ι' (by simpa using hsz) (Cls.set H hc ho' hall hl') (h1.trans hdf) h2 h3 hcnt' ?_
   rw [hl', hlq]
   have : ¬ q = i := fun h => e h.symm
   simp [this]
end
end
def padX (m : Nat) (s : St) : St := { s with x := s.x ++ List.replicate m ⟨none, .dead⟩ }
def effX (js : List Nat) (obs' ns : List Ob) (s : St) : St := { s with x := setL s.x js (obs'.map (·.rn (sg js s.x.length))) ++ ns.map fun o => ⟨none, o.rn (sg js s.x.length)⟩ }
def idle : List Oper → St → List (St × Fp)
 | [], _ => []
 | o :: r, s => (s, ⟨[], []⟩) :: idle r (match o.dst with
  | some d => s.put d (.a (.v undef))
  | none => s)
def idleS : List Oper → St → St
 | [], s => s
 | o :: r, s => idleS r (match o.dst with
  | some d => s.put d (.a (.v undef))
  | none => s)
structure R2 where
 A : RL
 B : RL
 f : Option (FuncId × List AV)
 d : Nat
 s : St
 w : Bool
def rq (P : Program) (N : Nat) (ops : Array Oper) (q : Nat) (js : List Nat) (obs' ns : List Ob) (r : AV) (s : St) (it : List It) : Option R2 :=
 match rl P N ops (ops.toList.take q) (padX ns.length s) it with
 | some A => match rl P N ops (ops.toList.take q) (effX js obs' ns s) it with
  | some B => match ops.toList[q]? with
   | some o => match o.op, o.dst with
    | .call c, some d => match rl P N ops (ops.toList.drop (q + 1)) (B.s.put d (r.rn (sg js s.x.length))) B.it with
     | some C => some ⟨⟨A.l ++ idle (ops.toList.drop q) A.s, idleS (ops.toList.drop q) A.s, [], A.q⟩, ⟨B.l ++ (B.s, ⟨js ++ rgF s.x.length ns.length, []⟩) :: C.l, C.s, C.it, B.q ++ C.q⟩, callee A.s c, d, A.s, wt A.s ops o⟩
     | none => none
    | _, _ => none
   | none => none
  | none => none
 | none => none
section
variable {P : Program} {N : Nat} {W : World} {D ι0 : Nat → Prop}
theorem app_get {X Y : RL} {q : Nat} (hx : X.l.length = q) (h0 : Y.st 0 = X.s) (it : List It) (qq : List (Cl × Cl)) :
  let T : RL := ⟨X.l ++ Y.l, Y.s, it, qq⟩
  (∀ i, i ≤ q → T.st i = X.st i) ∧ (∀ i, i < q → T.fp i = X.fp i) ∧ ∀ j, T.st (q + j) = Y.st j ∧ T.fp (q + j) = Y.fp j := by
 have hj : ∀ j, (⟨X.l ++ Y.l, Y.s, it, qq⟩ : RL).st (q + j) = Y.st j ∧ (⟨X.l ++ Y.l, Y.s, it, qq⟩ : RL).fp (q + j) = Y.fp j := fun j => by
  have : (X.l ++ Y.l)[q + j]? = Y.l[j]? := by rw [List.getElem?_append_right (by omega), hx]; congr 1; omega
  unfold RL.st RL.fp
  simp only [this]
  constructor <;> first | rfl | trivial
 have hlt : ∀ i, i < q → (X.l ++ Y.l)[i]? = X.l[i]? := fun i hi => List.getElem?_append_left (by omega)
 refine ⟨fun i hi => ?_, fun i hi => ?_, hj⟩
 ·rcases Nat.lt_or_ge i q with h | h
  ·unfold RL.st
   have hl : i < X.l.length := by omega
   simp only [hlt i h, List.getElem?_eq_getElem hl]
  ·have : i = q := by omega
   subst this
   have := (hj 0).1
   rw [Nat.add_zero] at this
   rw [this, h0]
   unfold RL.st; rw [List.getElem?_eq_none (by omega)]
 ·unfold RL.fp
  have hl : i < X.l.length := by omega
  simp only [hlt i hi, List.getElem?_eq_getElem hl]
def idT (L : List Oper) (s : St) : RL := ⟨idle L s, idleS L s, [], []⟩
theorem idle_len : ∀ (L : List Oper) (s : St), (idle L s).length = L.length
 | [], s => rfl
 | o :: r, s => by rw [idle, List.length_cons, idle_len r]; rfl
theorem idT_0 (L : List Oper) (s : St) : (idT L s).st 0 = s := by cases L <;> rfl
theorem idT_fp : ∀ (L : List Oper) (s : St) (j : Nat), (idT L s).fp j = ⟨[], []⟩
 | [], s, j => by unfold idT idle RL.fp; rfl
 | o :: r, s, 0 => rfl
 | o :: r, s, j + 1 => by
  have := idT_fp r (match o.dst with
   | some d => s.put d (.a (.v undef))
   | none => s) j
  unfold idT RL.fp at this ⊢
  simpa [idle] using this
theorem idle_shape : ∀ (L : List Oper) (s : St) (j : Nat) (o : Oper), L[j]? = some o → (∀ d, o.dst = some d → d < N) → SpS N ((idT L s).st j) ((idT L s).st (j + 1)) o ⟨[], []⟩
 | [], s, j, o, h, _ => by cases h
 | o' :: r, s, 0, o, h, hd => by
  cases h
  have e0 : (idT (o' :: r) s).st 0 = s := idT_0 _ _
  have e1 : (idT (o' :: r) s).st (0 + 1) = (match o'.dst with
   | some d => s.put d (.a (.v undef))
   | none => s) := by
   have := idT_0 r (match o'.dst with
    | some d => s.put d (.a (.v undef))
    | none => s)
   unfold idT RL.st at this ⊢
   simpa [idle, idleS] using this
  rw [e0, e1]
  cases ho : o'.dst with
  | none => exact ⟨fun _ _ => rfl, fun d e => (by rw [ho] at e; cases e), fun d e => (by rw [ho] at e; cases e), xs_id⟩
  | some d =>
   refine ⟨fun t ht => ?_, fun d' e => hd d' e, fun d' e k hk => ?_, xs_id⟩
   ·rw [put_at, if_neg (fun e => ht (by rw [ho, e]))]
   ·rw [ho] at e; cases e
    rw [put_at, if_pos rfl] at hk; simp [AV.js, AC.j] at hk
 | o' :: r, s, j + 1, o, h, hd => by
  have := idle_shape r (match o'.dst with
   | some d => s.put d (.a (.v undef))
   | none => s) j o (by simpa using h) hd
  unfold idT RL.st at this ⊢
  simpa [idle, idleS] using this
def lhsQ (N : Nat) (ops : Array Oper) (q n0 m : Nat) (js : List Nat) (o : Option R2) : List Cl × List Cl × Option (FuncId × List AV) × List ((Nat → Value) × List (Nat × AV)) × List (List Bx) × List Fp × Bool := match o with
 | some R => (R.A.q.map (·.1), R.B.q.map (·.1), R.f, (frs R.A).take q ++ [(R.s.d, R.s.u)], (mks (js ++ rgF n0 m) R.A).take q ++ [maskX (js ++ rgF n0 m) R.s.x], (R.A.l.map (·.2)).take q,
   okR ops (R.A.l.map (·.2)) && (okR ops (R.B.l.map (·.2)) && (dscB ops q && (R.w && (!Nat.ble N R.d && ((R.A.l.all fun x => dj x.2.w (js ++ rgF n0 m)) && ((R.B.l.all fun x => dj x.2.w (js ++ rgF n0 m)) && (((R.A.l.take q).all fun x => offB (rgF n0 m) x.1) && (offB (rgF n0 m) R.s && (ops.toList.drop q).all fun o => match o.dst with
    | some d => !Nat.ble N d
    | none => true)))))))))
 | none => ([], [], none, [], [], [], true)
def rhsQ (q n0 m : Nat) (js : List Nat) (fa : FuncId × List AV) (o : Option R2) : List Cl × List Cl × Option (FuncId × List AV) × List ((Nat → Value) × List (Nat × AV)) × List (List Bx) × List Fp × Bool := match o with
 | some R => (R.A.q.map (·.2), R.B.q.map (·.2), some fa, (frs R.B).take (q + 1), (mks (js ++ rgF n0 m) R.B).take (q + 1), (R.B.l.map (·.2)).take q, true)
 | none => ([], [], none, [], [], [], false)
def rqB (P : Program) (js : List Nat) (fid : FuncId) (obs obs' : List Ob) : Bool := bodied P fid && (nodupN js && (Nat.beq obs.length js.length && Nat.beq obs'.length js.length))
def rqS (P : Program) (N : Nat) (ops : Array Oper) (q : Nat) (js : List Nat) (obs' ns : List Ob) (r : AV) (s : St) (it : List It) : St := match rq P N ops q js obs' ns r s it with
 | some R => R.B.s
 | none => s
theorem setL_k : ∀ (js : List Nat) (os : List Ob) (x : List Bx) (k : Nat) (B : Bx), (setL x js os)[k]? = some B → ∃ B0 : Bx, x[k]? = some B0 ∧ B0.k = B.k
 | [], os, x, k, B, h => ⟨B, by cases os <;> exact h, rfl⟩
 | j :: js, [], x, k, B, h => ⟨B, h, rfl⟩
 | j :: js, o :: os, x, k, B, h => by
  obtain ⟨B0, h1, h2⟩ := setL_k js os (set1 x j o) k B h
  unfold set1 at h1
  split at h1
  ·rename_i B1 hB1
   rw [List.getElem?_set] at h1
   by_cases e : j = k
   ·subst e
    rw [if_pos rfl] at h1
    split at h1
    ·cases h1; exact ⟨B1, hB1, h2⟩
    ·cases h1
   ·rw [if_neg e] at h1; exact ⟨B0, h1, h2⟩
  ·exact ⟨B0, h1, h2⟩
theorem spc {n1 : Nat} {F : Fx} {C : Cx} {ks : List Kt} {s : St} (hm : P.follows .mixedOrders = true) (q : Nat) (js : List Nat) {fid : FuncId} {obs : List Ob} {args : List AV} {obs' ns : List Ob} {r : AV} (hf : FnP P fid obs args obs' ns r) {it : List It} (hits : Its P C.W C.D it) {id : Nat} {ops : Array Oper} (hl : Nat.ble n1 s.x.length = true)
  (hB : rqB P js fid obs obs' = true) (ho : s.all js = some (obs.map (·.rn (sg js s.x.length)))) (h : lhsQ N ops q s.x.length ns.length js (rq P N ops q js obs' ns r s it) = rhsQ q s.x.length ns.length js (fid, args.map (·.rn (sg js s.x.length))) (rq P N ops q js obs' ns r s it))
  (hG : Good P N n1 F C ks (rqS P N ops q js obs' ns r s it)) : Good P N n1 F C (.c (.region id ops true) :: ks) s := by
 intro η ι a w hd hη hI
 have hl := Nat.le_of_ble_eq_true hl
 unfold rqB at hB
 simp only [Bool.and_eq_true] at hB
 obtain ⟨b1, b2, b3, b4⟩ := hB
 have b3 := Nat.eq_of_beq_eq_true b3
 have b4 := Nat.eq_of_beq_eq_true b4
 have hf0 := hf
 obtain ⟨hin, _, _⟩ := hf
 obtain ⟨hr1, hr2⟩ := inN_r hin
 cases hrq : rq P N ops q js obs' ns r s it with
 | none => rw [hrq] at h; simp [lhsQ, rhsQ] at h
 | some R =>
  have hrS : rqS P N ops q js obs' ns r s it = R.B.s := by unfold rqS; rw [hrq]
  rw [hrS] at hG
  rw [hrq] at h
  simp only [lhsQ, rhsQ, Prod.mk.injEq, Bool.and_eq_true, Bool.not_eq_true'] at h
  obtain ⟨g1, g2, g3, g4, g5, g6, g7, g8, g9, g10, g11, g12, g13, g14, g15, g16⟩ := h
  unfold rq at hrq
  split at hrq
  ·rename_i A hA
   split at hrq
   ·rename_i B hBr
    split at hrq
    ·rename_i o hoq
     split at hrq
     ·rename_i c d hop hdst
      split at hrq
      ·rename_i C0 hC0
       cases hrq
       simp only at *
       let n0 := s.x.length
       let m := ns.length
       let rv := rgF n0 m
       let J := js ++ rv
       let σ := sg js n0
       have hq : q < ops.size := by
        have := (List.getElem?_eq_some_iff.1 hoq).1
        simpa using this
       have hoq' : ops[q]? = some o := by simpa using hoq
       have spA := rl_spec (P := P) (N := N) (W := C.W) (D := C.D) (ops := ops) _ _ _ _ hits.all hA
       have spB := rl_spec (P := P) (N := N) (W := C.W) (D := C.D) (ops := ops) _ _ _ _ hits.all hBr
       have spC := rl_spec (P := P) (N := N) (W := C.W) (D := C.D) (ops := ops) _ _ _ _ (fun i hi => hits.all i (spB.2.2.2 i hi)) hC0
       have lA : A.l.length = q := by rw [spA.1, List.length_take]; simp; omega
       have lB : B.l.length = q := by rw [spB.1, List.length_take]; simp; omega
       let TA : RL := ⟨A.l ++ idle (ops.toList.drop q) A.s, idleS (ops.toList.drop q) A.s, [], A.q⟩
       let YB : RL := ⟨(B.s, ⟨js ++ rgF s.x.length ns.length, []⟩) :: C0.l, C0.s, C0.it, C0.q⟩
       let TB : RL := ⟨B.l ++ (B.s, ⟨js ++ rgF s.x.length ns.length, []⟩) :: C0.l, C0.s, C0.it, B.q ++ C0.q⟩
       obtain ⟨a1, a2, a3⟩ : (∀ i, i ≤ q → TA.st i = A.st i) ∧ (∀ i, i < q → TA.fp i = A.fp i) ∧ ∀ j, TA.st (q + j) = (idT (ops.toList.drop q) A.s).st j ∧ TA.fp (q + j) = (idT (ops.toList.drop q) A.s).fp j := app_get (X := A) (Y := idT (ops.toList.drop q) A.s) lA (idT_0 _ _) [] A.q
       obtain ⟨e1, e2, e3⟩ : (∀ i, i ≤ q → TB.st i = B.st i) ∧ (∀ i, i < q → TB.fp i = B.fp i) ∧ ∀ j, TB.st (q + j) = YB.st j ∧ TB.fp (q + j) = YB.fp j := app_get (X := B) (Y := YB) lB rfl C0.it (B.q ++ C0.q)
       have aq : TA.st q = A.s := by have := (a3 0).1; rw [Nat.add_zero] at this; rw [this]; exact idT_0 _ _
       have bq : TB.st q = B.s := by have := (e3 0).1; rw [Nat.add_zero] at this; rw [this]; rfl
       have yj : ∀ j, YB.st (1 + j) = C0.st j ∧ YB.fp (1 + j) = C0.fp j := fun j => by
        rw [Nat.add_comm]; unfold RL.st RL.fp; constructor <;> rfl
       have bn : ∀ j, TB.st (q + 1 + j) = C0.st j ∧ TB.fp (q + 1 + j) = C0.fp j := fun j => by
        have := e3 (1 + j)
        rw [← Nat.add_assoc] at this
        rw [this.1, this.2]; exact yj j
       have bq1 : TB.st (q + 1) = B.s.put d (r.rn (sg js s.x.length)) := by have := (bn 0).1; rw [Nat.add_zero] at this; rw [this]; exact spC.2.1
       have ta0 : TA.st 0 = padX ns.length s := by rw [a1 0 (Nat.zero_le _)]; exact spA.2.1
       have tb0 : TB.st 0 = effX js obs' ns s := by rw [e1 0 (Nat.zero_le _)]; exact spB.2.1
       have lTA : TA.l.length = ops.size := by simp [TA, idle_len, lA]; omega
       have lTB : TB.l.length = ops.size := by simp [TB, lB, spC.1]; omega
       have hSA : ∀ (i : Nat) (oi : Oper), ops[i]? = some oi → i < q → Sp P N C.W C.D ops oi (TA.st i) (TA.fp i) (TA.st (i + 1)) TA.q := fun i oi hi hlt => by
        have := spA.2.2.1 i oi (by rw [List.getElem?_take, if_pos hlt]; simpa using hi)
        rw [a1 i (by omega), a2 i hlt, a1 (i + 1) (by omega)]; exact this
       have hSB : ∀ (i : Nat) (oi : Oper), ops[i]? = some oi → i ≠ q → Sp P N C.W C.D ops oi (TB.st i) (TB.fp i) (TB.st (i + 1)) TB.q := fun i oi hi hne => by
        rcases Nat.lt_or_ge i q with hlt | hge
        ·have := spB.2.2.1 i oi (by rw [List.getElem?_take, if_pos hlt]; simpa using hi)
         rw [e1 i (by omega), e2 i hlt, e1 (i + 1) (by omega)]
         rcases this with h1 | ⟨h1, it', R, h2, h3, h4, h5, h6⟩
         ·exact .inl h1
         ·exact .inr ⟨h1, it', R, h2, h3, h4, fun p hp => List.mem_append_left _ (h5 p hp), h6⟩
        ·obtain ⟨j, rfl⟩ : ∃ j, i = q + 1 + j := ⟨i - (q + 1), by omega⟩
         have := spC.2.2.1 j oi (by rw [List.getElem?_drop]; simpa using hi)
         rw [(bn j).1, (bn j).2, show q + 1 + j + 1 = q + 1 + (j + 1) by omega, (bn (j + 1)).1]
         rcases this with h1 | ⟨h1, it', R, h2, h3, h4, h5, h6⟩
         ·exact .inl h1
         ·exact .inr ⟨h1, it', R, h2, h3, h4, fun p hp => List.mem_append_right _ (h5 p hp), h6⟩
       have hdN : ∀ i oi, ops[i]? = some oi → q ≤ i → ∀ d, oi.dst = some d → d < N := fun i oi hi hge d hd' => by
        rw [List.all_eq_true] at g16
        have := g16 oi (by
         have : (ops.toList.drop q)[i - q]? = some oi := by rw [List.getElem?_drop, show q + (i - q) = i by omega]; simpa using hi
         exact List.mem_of_getElem? this)
        rw [hd'] at this
        exact ble_lt (by simpa using this)
       have hpl : ∀ (i : Nat) (o : Oper), ops[i]? = some o → plainOp o = true := fun i o ho => by
        unfold okR at g7
        simp only [Bool.and_eq_true, List.all_eq_true] at g7
        exact g7.2.2.1 o (by simpa using Array.mem_of_getElem? ho)
       -- objects at the start
       obtain ⟨s1, s2⟩ := all_spec ho
       have hjs : ∀ (i j : Nat), js[i]? = some j → ∃ ob : Ob, obs[i]? = some ob ∧ s.ob j = some (ob.rn σ) ∧ j < n0 := fun i j hi => by
        obtain ⟨x, h1, h2⟩ := s2 i j hi
        rw [List.getElem?_map] at h1
        cases hob : obs[i]? with
        | none => rw [hob] at h1; cases h1
        | some ob =>
         rw [hob] at h1
         simp only [Option.map_some, Option.some.injEq] at h1
         subst h1
         exact ⟨ob, rfl, h2, (ob_lt h2).choose_spec.2.2⟩
       obtain ⟨l1, l2, l3⟩ := setL_spec js (obs'.map (·.rn σ)) s.x b2 (by simp [b4])
       have padob : ∀ j ob, s.ob j = some ob → (padX ns.length s).ob j = some ob := fun j ob hj => by
        obtain ⟨B0, h1, h2, h3⟩ := ob_lt hj
        unfold padX St.ob
        simp only
        rw [List.getElem?_append_left h3, h1]
        show some B0.o = some ob
        rw [h2]
       have hσ : ∀ i j, js[i]? = some j → σ i = j := fun i j h => by simp only [σ, sg, h]
       have hσn : ∀ i, js.length ≤ i → σ i = n0 + (i - js.length) := fun i h => by simp only [σ, sg, List.getElem?_eq_none h]
       have sc0 := hI.sc
       have hoB : ∀ (i : Nat) (ob : Ob), (obs' ++ ns)[i]? = some ob → (effX js obs' ns s).ob (σ i) = some (ob.rn σ) := fun i ob hi => by
        unfold effX St.ob
        simp only
        rcases Nat.lt_or_ge i js.length with hlt | hge
        ·have hj : js[i]? = some js[i] := List.getElem?_eq_getElem hlt
         obtain ⟨ob0, h1, h2, h3⟩ := hjs i _ hj
         obtain ⟨B0, h4, _, h5⟩ := ob_lt h2
         rw [List.getElem?_append_left (by omega)] at hi
         rw [hσ i _ hj, List.getElem?_append_left (by rw [l1]; exact h5), l3 i _ _ hj (by rw [List.getElem?_map, hi]; rfl) B0 h4]
        ·rw [List.getElem?_append_right (by omega)] at hi
         rw [hσn i hge, List.getElem?_append_right (by rw [l1]; exact Nat.le_add_right _ _), l1, show n0 + (i - js.length) - s.x.length = i - obs'.length by simp only [n0]; omega, List.getElem?_map, hi]
         rfl
       have jsn : ∀ k ∈ js, k < n0 := fun k hk => by
        obtain ⟨i, hi⟩ := List.getElem?_of_mem hk
        obtain ⟨ob, _, _, h3⟩ := hjs i k hi
        exact h3
       have σlt : ∀ i, i < obs.length + ns.length → σ i < n0 + m := fun i hi => by
        rcases Nat.lt_or_ge i js.length with h | h
        ·have hj : js[i]? = some js[i] := List.getElem?_eq_getElem h
         rw [hσ i _ hj]
         have := jsn _ (List.getElem_mem h); omega
        ·rw [hσn i h]; simp only [m]; omega
       have lenE : (effX js obs' ns s).x.length = n0 + m := by
        unfold effX; simp only [List.length_append, List.length_map]; rw [l1]
       have lenP : (padX ns.length s).x.length = n0 + m := by unfold padX; simp [n0, m]
       have gE : ∀ k ob, (effX js obs' ns s).ob k = some ob → (∃ i ob', (obs' ++ ns)[i]? = some ob' ∧ i < obs.length + ns.length ∧ ob = ob'.rn σ) ∨ s.ob k = some ob := fun k ob hk => by
        by_cases hkj : k ∈ J
        ·left
         obtain ⟨i, hi, hik⟩ : ∃ i, i < obs.length + ns.length ∧ k = σ i := by
          rcases List.mem_append.1 hkj with hk' | hk'
          ·obtain ⟨i, hi⟩ := List.getElem?_of_mem hk'
           have := (List.getElem?_eq_some_iff.1 hi).1
           exact ⟨i, by omega, (hσ i k hi).symm⟩
          ·have := mem_rgF.1 hk'
           exact ⟨js.length + (k - n0), by simp only [m] at this; omega, by rw [hσn _ (by omega)]; omega⟩
         obtain ⟨ob', ho'⟩ : ∃ ob', (obs' ++ ns)[i]? = some ob' := ⟨_, List.getElem?_eq_getElem (by rw [List.length_append]; omega)⟩
         have := hoB i ob' ho'
         rw [← hik, hk] at this
         exact ⟨i, ob', ho', hi, by simpa using this⟩
        ·right
         have hkn : k < n0 := by
          obtain ⟨_, _, _, h5⟩ := ob_lt hk
          rw [lenE] at h5
          rcases Nat.lt_or_ge k n0 with h | h
          ·exact h
          ·exact absurd (List.mem_append_right _ (mem_rgF.2 ⟨h, h5⟩)) hkj
         unfold effX St.ob at hk
         simp only at hk
         rw [List.getElem?_append_left (by rw [l1]; exact hkn), l2 k (fun h => hkj (List.mem_append_left _ h))] at hk
         unfold St.ob; exact hk
       have scA : Sc (padX ns.length s) := by
        refine ⟨fun t k hk => by rw [lenP]; exact Nat.lt_of_lt_of_le (sc0.t t k hk) (Nat.le_add_right _ _), fun j ob hj k hk => ?_⟩
        rw [lenP]
        obtain ⟨B0, h1, h2, h3⟩ := ob_lt hj
        unfold padX at h1
        simp only at h1
        rcases Nat.lt_or_ge j n0 with hlt | hge
        ·rw [List.getElem?_append_left hlt] at h1
         have := sc0.o j B0.o (ob_of h1) k (by rw [h2]; exact hk); omega
        ·rw [List.getElem?_append_right hge, List.getElem?_replicate] at h1
         split at h1
         ·cases h1; rw [← h2] at hk; cases hk
         ·cases h1
       have scB : Sc (effX js obs' ns s) := by
        refine ⟨fun t k hk => by rw [lenE]; exact Nat.lt_of_lt_of_le (sc0.t t k hk) (Nat.le_add_right _ _), fun j ob hj k hk => ?_⟩
        rw [lenE]
        rcases gE j ob hj with ⟨i, ob', h1, h2, h3⟩ | h1
        ·rw [h3, ob_rn_js] at hk
         obtain ⟨i', hi', rfl⟩ := List.mem_map.1 hk
         exact σlt i' (hr2 ob' (List.mem_of_getElem? h1) i' hi')
        ·have := sc0.o j ob h1 k hk; omega
       have H : Hy P N C.W C.D ops TA (fun j i => ((bs ops.toList []).getD j 0).testBit i = true) η := by
        refine ⟨fun i oi hi => ?_, okR_spec lTA g7, eqs_of g1, ?_, by rw [ta0]; exact scA, hpl⟩
        ·rcases Nat.lt_or_ge i q with hlt | hge
         ·exact (hSA i oi hi hlt).shape
         ·obtain ⟨j, rfl⟩ : ∃ j, i = q + j := ⟨i - q, by omega⟩
          have := idle_shape (N := N) (ops.toList.drop q) A.s j oi (by rw [List.getElem?_drop]; simpa using hi) (hdN _ oi hi hge)
          rw [(a3 j).1, (a3 j).2, idT_fp, Nat.add_assoc, (a3 (j + 1)).1]
          exact this
        ·rw [ta0]
         intro k B0 v hB0 hv
         unfold padX at hB0
         simp only at hB0
         rcases Nat.lt_or_ge k n0 with hlt | hge
         ·rw [List.getElem?_append_left hlt] at hB0; exact hI.2 k B0 v hB0 hv
         ·rw [List.getElem?_append_right hge, List.getElem?_replicate] at hB0
          split at hB0
          ·cases hB0; cases hv
          ·cases hB0
       have HB : ∀ γ, Kn (TB.st 0) γ → Hy P N C.W C.D ops TB (fun j i => ((bs ops.toList []).getD j 0).testBit i = true) γ := fun γ hγ => by
        refine ⟨fun i oi hi => ?_, okR_spec lTB g8, eqs_of g2, hγ, by rw [tb0]; exact scB, hpl⟩
        by_cases hiq : i = q
        ·subst hiq
         rw [hoq'] at hi; cases hi
         have fq : TB.fp i = ⟨js ++ rgF s.x.length ns.length, []⟩ := by have := (e3 0).2; rw [Nat.add_zero] at this; rw [this]; rfl
         rw [bq, bq1, fq]
         refine ⟨fun t ht => ?_, fun d' e => by rw [hdst] at e; cases e; exact ble_lt g11, fun d' e k hk => ?_, xs_id⟩
         ·rw [put_at, if_neg (fun e => ht (by rw [hdst, e]))]
         ·rw [hdst] at e; cases e
          rw [put_at, if_pos rfl, av_rn_js] at hk
          obtain ⟨i', hi', rfl⟩ := List.mem_map.1 hk
          have hlt := hr1 i' hi'
          have hln : (effX js obs' ns s).x.length ≤ B.s.x.length := by
           rw [← tb0, ← bq]
           have : ∀ j, j ≤ i → (TB.st 0).x.length ≤ (TB.st j).x.length := fun j => by
            induction j with
            | zero => intro _; exact Nat.le_refl _
            | succ j ih =>
             intro hj
             obtain ⟨oj, hoj⟩ : ∃ oj, ops[j]? = some oj := ⟨_, Array.getElem?_eq_getElem (by omega)⟩
             exact Nat.le_trans (ih (by omega)) ((hSB j oj hoj (by omega)).shape.xs.len)
           exact this i (Nat.le_refl _)
          have hσl := σlt i' hlt
          obtain ⟨B1, hB1⟩ : ∃ B1, B.s.x[σ i']? = some B1 := ⟨_, List.getElem?_eq_getElem (by rw [lenE] at hln; omega)⟩
          refine .inr (.inr ⟨σ i', ?_, _, ob_of hB1, .inl rfl⟩)
          rw [List.append_nil]
          rcases Nat.lt_or_ge i' js.length with h | h
          ·have hj : js[i']? = some js[i'] := List.getElem?_eq_getElem h
           rw [hσ i' _ hj]; exact List.mem_append_left _ (List.getElem_mem _)
          ·rw [hσn i' h]; exact List.mem_append_right _ (mem_rgF.2 (by simp only [n0]; omega))
        ·exact (hSB i oi hi hiq).shape
       have hfr : ∀ i, i ≤ q → (TA.st i).d = (TB.st i).d ∧ (TA.st i).u = (TB.st i).u := fun i hi => by
        have hA1 : ((frs TA).take q ++ [(A.s.d, A.s.u)])[i]? = some ((TA.st i).d, (TA.st i).u) := by
         rcases Nat.lt_or_ge i q with hlt | hge
         ·rw [List.getElem?_append_left (by simp [frs, lTA]; omega), List.getElem?_take, if_pos hlt]
          unfold frs; rw [List.getElem?_map]
          have hl' : i < TA.l.length := by omega
          rw [List.getElem?_eq_getElem hl']
          unfold RL.st; rw [List.getElem?_eq_getElem hl']; rfl
         ·have : i = q := by omega
          subst this
          rw [List.getElem?_append_right (by simp [frs, lTA]; omega)]
          simp only [frs, List.length_take, List.length_map, lTA, Nat.min_eq_left (Nat.le_of_lt hq), Nat.sub_self, List.getElem?_cons_zero]
          rw [aq]
        have hB1 : ((frs TB).take (q + 1))[i]? = some ((TB.st i).d, (TB.st i).u) := by
         rw [List.getElem?_take, if_pos (by omega)]
         unfold frs; rw [List.getElem?_map]
         have hl' : i < TB.l.length := by omega
         rw [List.getElem?_eq_getElem hl']
         unfold RL.st; rw [List.getElem?_eq_getElem hl']; rfl
        have g4' : (frs TA).take q ++ [(A.s.d, A.s.u)] = (frs TB).take (q + 1) := g4
        rw [g4', hB1] at hA1
        simp only [Option.some.injEq, Prod.mk.injEq] at hA1
        exact ⟨hA1.1.symm, hA1.2.symm⟩
       have hmx : ∀ i, i ≤ q → maskX J (TA.st i).x = maskX J (TB.st i).x := fun i hi => by
        have hA1 : ((mks J TA).take q ++ [maskX J A.s.x])[i]? = some (maskX J (TA.st i).x) := by
         rcases Nat.lt_or_ge i q with hlt | hge
         ·rw [List.getElem?_append_left (by simp [mks, lTA]; omega), List.getElem?_take, if_pos hlt]
          unfold mks; rw [List.getElem?_map]
          have hl' : i < TA.l.length := by omega
          rw [List.getElem?_eq_getElem hl']
          unfold RL.st; rw [List.getElem?_eq_getElem hl']; rfl
         ·have : i = q := by omega
          subst this
          rw [List.getElem?_append_right (by simp [mks, lTA]; omega)]
          simp only [mks, List.length_take, List.length_map, lTA, Nat.min_eq_left (Nat.le_of_lt hq), Nat.sub_self, List.getElem?_cons_zero]
          rw [aq]
        have hB1 : ((mks J TB).take (q + 1))[i]? = some (maskX J (TB.st i).x) := by
         rw [List.getElem?_take, if_pos (by omega)]
         unfold mks; rw [List.getElem?_map]
         have hl' : i < TB.l.length := by omega
         rw [List.getElem?_eq_getElem hl']
         unfold RL.st; rw [List.getElem?_eq_getElem hl']; rfl
        have g5' : (mks J TA).take q ++ [maskX J A.s.x] = (mks J TB).take (q + 1) := g5
        rw [g5', hB1] at hA1
        exact (Option.some.inj hA1).symm
       have hfp : ∀ i, i < q → TA.fp i = TB.fp i := fun i hi => by
        have g6' : (TA.l.map (·.2)).take q = (TB.l.map (·.2)).take q := g6
        have := congrArg (fun l => l[i]?) g6'
        simp only [List.getElem?_take, if_pos hi, List.getElem?_map] at this
        have h1 : i < TA.l.length := by omega
        have h2 : i < TB.l.length := by omega
        rw [List.getElem?_eq_getElem h1, List.getElem?_eq_getElem h2] at this
        unfold RL.fp
        rw [List.getElem?_eq_getElem h1, List.getElem?_eq_getElem h2]
        exact Option.some.inj this
       have hw0 : ∀ (T : RL), (T.l.all fun x => dj x.2.w J) = true → ∀ i, ∀ k ∈ (T.fp i).w, k ∉ J := fun T hT i k hk => by
        rw [List.all_eq_true] at hT
        unfold RL.fp at hk
        split at hk
        ·rename_i x hx
         exact dj_not (hT x (List.mem_of_getElem? hx)) hk
        ·cases hk
       have hoff : ∀ s' : St, offB rv s' = true → (∀ t, ∀ k ∈ (s'.at t).js, k ∉ rv) ∧ ∀ (k : Nat) (B : Bx), s'.x[k]? = some B → ∀ j ∈ B.o.js, j ∉ rv := fun s' hs' => by
        unfold offB at hs'
        simp only [Bool.and_eq_true, List.all_eq_true] at hs'
        refine ⟨fun t k hk => ?_, fun k B hB j hj => dj_not (hs'.2 B (List.mem_of_getElem? hB)) hj⟩
        have hk : k ∈ (lk s'.d s'.u t).js := hk
        rcases lk_in (d := s'.d) (t := t) s'.u with ⟨v, hv, he⟩ | he
        ·rw [he] at hk; exact dj_not (hs'.1 _ hv) hk
        ·rw [he] at hk; simp [AV.js, AC.j] at hk
       have hoffA : ∀ i, i ≤ q → (∀ t, ∀ k ∈ ((TA.st i).at t).js, k ∉ rv) ∧ ∀ (k : Nat) (B : Bx), (TA.st i).x[k]? = some B → ∀ j ∈ B.o.js, j ∉ rv := fun i hi => by
        rcases Nat.lt_or_ge i q with hlt | hge
        ·refine hoff _ ?_
         rw [List.all_eq_true] at g14
         have hl' : i < TA.l.length := by omega
         have : (TA.l.take q)[i]? = some TA.l[i] := by rw [List.getElem?_take, if_pos hlt, List.getElem?_eq_getElem hl']
         have := g14 _ (List.mem_of_getElem? this)
         unfold RL.st; rw [List.getElem?_eq_getElem hl']; exact this
        ·have : i = q := by omega
         subst this
         rw [aq]; exact hoff _ g15
       have Y : Qh P N ops TA TB (fun j i => ((bs ops.toList []).getD j 0).testBit i = true) q n0 o js fid obs args obs' ns r := by
        refine ⟨hoq', ⟨c, _, hop, by rw [aq]; exact g3, rfl⟩, b1, ⟨d, hdst, ble_lt g11, fun t => ?_⟩, ?_, ?_, fun i hi => ⟨fun t => ?_, fun k hk => ?_⟩, hfp, hw0 TA g12, hw0 TB g13, hoffA, by rw [aq]; exact g10, b2, b3, b4, fun i ob hi => ?_, fun i ob hi => ?_, by rw [ta0]; exact lenP, by rw [tb0]; exact lenE, fun k B0 v hB0 hv => ?_, fun i hi hs' => ?_⟩
        ·rw [bq1, bq, put_at]
        ·have := (a3 0).2; rw [Nat.add_zero] at this; rw [this]; exact idT_fp _ _ _
        ·have := (e3 0).2; rw [Nat.add_zero] at this; rw [this]; rfl
        ·unfold St.at; rw [(hfr i hi).1, (hfr i hi).2]
        ·rw [← maskX_get J _ k hk, hmx i hi, maskX_get J _ k hk]
        ·have hlt := (List.getElem?_eq_some_iff.1 hi).1
         have hj : js[i]? = some js[i] := List.getElem?_eq_getElem (by omega)
         obtain ⟨ob0, h1, h2, h3⟩ := hjs i _ hj
         rw [hi] at h1; cases h1
         exact ⟨_, hj, h3, by rw [ta0]; exact padob _ _ h2⟩
        ·rw [tb0]; exact hoB i ob hi
        ·rw [tb0] at hB0
         rw [ta0]
         unfold effX at hB0
         simp only at hB0
         rcases Nat.lt_or_ge k n0 with hlt | hge
         ·rw [List.getElem?_append_left (by rw [l1]; exact hlt)] at hB0
          obtain ⟨B1, h1, h2⟩ := setL_k js _ s.x k B0 hB0
          refine ⟨hlt, B1, ?_, by rw [h2]; exact hv⟩
          unfold padX; simp only
          rw [List.getElem?_append_left hlt]; exact h1
         ·rw [List.getElem?_append_right (by rw [l1]; exact hge), List.getElem?_map] at hB0
          cases hns : ns[k - (setL s.x js (obs'.map (·.rn (sg js s.x.length)))).length]? with
          | none => rw [hns] at hB0; cases hB0
          | some ob => rw [hns] at hB0; cases hB0; cases hv
        ·have := g9
         unfold dscB at this
         rw [List.all_eq_true] at this
         have := this i (mem_rgF.2 ⟨Nat.zero_le _, by omega⟩)
         rcases Bool.or_eq_true_iff.1 this with h | h
         ·have := Nat.le_of_ble_eq_true h; omega
         ·exact h
       have hend : TB.st ops.size = TB.s := by unfold RL.st; rw [List.getElem?_eq_none (by omega)]
       show (Code.region id ops true).wpIn (WF C.r0) C.m P (Post P C.m C.r0 (F.Q C) ks) a w
       refine wpIn_region_any hm ?_
       have hl0 := none_lst H ops.size
       have q1 : (cur TA ops fun k => (Array.replicate ops.size false).getD k false) = (TA.st 0).at := funext fun t => H.curT0 hl0 t
       have q2 : (curx TA ops fun k => (Array.replicate ops.size false).getD k false) = fun k => (TA.st 0).x[k]? := funext fun k => H.curX0 hl0 k
       have hCp : Cn N C.W C.D C.ι0 (padX ns.length s).at (fun k => (padX ns.length s).x[k]?) η ι a w := by
        have hC := hI.1
        have gx : ∀ (k : Nat) (B : Bx), (padX ns.length s).x[k]? = some B → s.x[k]? = some B ∨ B = ⟨none, .dead⟩ := fun k B hB => by
         unfold padX at hB
         simp only at hB
         rcases Nat.lt_or_ge k n0 with hlt | hge
         ·rw [List.getElem?_append_left hlt] at hB; exact .inl hB
         ·rw [List.getElem?_append_right hge, List.getElem?_replicate] at hB
          split at hB
          ·cases hB; exact .inr rfl
          ·cases hB
        have ex : ∀ (k : Nat) (B : Bx), s.x[k]? = some B → ∃ B', (padX ns.length s).x[k]? = some B' := fun k B hB => ⟨B, by
         unfold padX; simp only
         rw [List.getElem?_append_left (List.getElem?_eq_some_iff.1 hB).1]; exact hB⟩
        refine ⟨hC.tm, fun t k hk => ?_, fun k B hB => ?_, fun k B hB j hj => ?_, fun k k' B B' g hB hB' hm' hm2 => ?_, fun k B g hB hm' => ?_, hC.il, hC.ig, hC.iu, hC.st, hC.sz⟩
        ·obtain ⟨B, hB⟩ := hC.sc t k hk
         exact ex k B hB
        ·rcases gx k B hB with h | rfl
         ·exact hC.ok k B h
         ·trivial
        ·rcases gx k B hB with h | rfl
         ·obtain ⟨B', hB'⟩ := hC.ob k B h j hj
          exact ex j B' hB'
         ·cases hj
        ·rcases gx k B hB with h | rfl
         ·rcases gx k' B' hB' with h' | rfl
          ·exact hC.ne k k' B B' g h h' hm' hm2
          ·cases hm2
         ·cases hm'
        ·rcases gx k B hB with h | rfl
         ·exact hC.ni k B g h hm'
         ·cases hm'
       refine q_any (ι0 := C.ι0) H HB Y hf0 hSA hSB (dfs := a.defers) (post_lets (P := P) (F.L C) ks) (fun γ' ι' a' w' h1 h2 h3 h4 => ?_) ops.size _ a w.drew η ι (by simp) (fun j o ho hj => by have hj' := hl0 j; simp only at hj; rw [hj'] at hj; cases hj) rfl (fun _ _ => rfl) ?_ (by omega) (hl0 q)
       ·rw [hend] at h3 h4
        exact hG γ' ι' a' w' (h1.trans hd) (fun k hk => by rw [h2 k (by simp only [n0]; omega)]; exact hη k hk) ⟨h3, h4⟩
       ·rw [q1, q2, ta0]; exact hCp.drew
      ·cases hrq
     ·cases hrq
    ·cases hrq
   ·cases hrq
  ·cases hrq
def drB (o : Option RK) : Bool := match o with
 | some ⟨.n, .c (.region _ _ dr) :: _, _, _, _⟩ => dr
 | _ => false
theorem goC {n1 : Nat} {F : Fx} {C : Cx} {ks : List Kt} {s : St} (hm : P.follows .mixedOrders = true) (hl : Nat.ble n1 s.x.length = true) (t n : Nat) {it0 : List It} (hits0 : Its P C.W C.D it0) (q : Nat) (js : List Nat) {fid : FuncId} {obs : List Ob} {args : List AV} {obs' ns : List Ob} {r : AV} (hf : FnP P fid obs args obs' ns r) {it : List It} (hits : Its P C.W C.D it)
  (h0 : lhsG (rk P N [t] n ks s it0) = rhsG (rk P N [t] n ks s it0)) (hd : drB (rk P N [t] n ks s it0) = true) (hB : rqB P js fid obs obs' = true) (ho : (stS s (rk P N [t] n ks s it0)).all js = some (obs.map (·.rn (sg js (stS s (rk P N [t] n ks s it0)).x.length))))
  (h : lhsQ N (stO (rk P N [t] n ks s it0)) q (stS s (rk P N [t] n ks s it0)).x.length ns.length js (rq P N (stO (rk P N [t] n ks s it0)) q js obs' ns r (stS s (rk P N [t] n ks s it0)) it) = rhsQ q (stS s (rk P N [t] n ks s it0)).x.length ns.length js (fid, args.map (·.rn (sg js (stS s (rk P N [t] n ks s it0)).x.length))) (rq P N (stO (rk P N [t] n ks s it0)) q js obs' ns r (stS s (rk P N [t] n ks s it0)) it))
  (hG : Good P N n1 F C (stK (rk P N [t] n ks s it0)) (rqS P N (stO (rk P N [t] n ks s it0)) q js obs' ns r (stS s (rk P N [t] n ks s it0)) it)) : Good P N n1 F C ks s := by
 cases hr : rk P N [t] n ks s it0 with
 | none => rw [hr] at h0; simp [lhsG, rhsG] at h0
 | some R =>
  rw [hr] at h0 h hd ho hG
  have hl := Nat.le_of_ble_eq_true hl
  obtain ⟨e, k1, s1, it1, q1⟩ := R
  have key : ∃ id ops dr k2, e = .n ∧ k1 = .c (.region id ops dr) :: k2 ∧ Eqs q1 := by
   unfold lhsG rhsG at h0
   split at h0
   ·rename_i id ops dr k2 s2 it2 q2 heq
    cases heq
    simp only [Prod.mk.injEq] at h0
    exact ⟨id, ops, dr, k2, rfl, rfl, eqs_of h0.1⟩
   ·simp at h0
  obtain ⟨id, ops, dr, k2, rfl, rfl, hq⟩ := key
  have hd : dr = true := hd
  subst hd
  intro η ι a w hd' hη hI
  refine rk_sound hm (F.L C) n ks s it0 _ hr hits0.all hq hI fun η' ι' a' w' hd2 hlen hg hI' => ?_
  exact spc (id := id) hm q js hf hits (Nat.ble_eq_true_of_le (Nat.le_trans hl hlen)) hB ho h hG η' ι' a' w' (hd2.trans hd') (fun j hj => by rw [hg j (by omega)]; exact hη j hj) hI'
end
end Go.Eo
set_option maxRecDepth 100000
namespace Go.Proofs.YtlkhneiccjhgdaaGreat
open Go.Eo Go.RowKit Go.Rg
noncomputable abbrev Pg : Program := Tryz.prog
theorem dn {N n0 : Nat} {fn : Func} {X : List Ob} {r : AV} {C : Cx} {ks : List Kt} {s : St} {it : List It} (hits : Its Pg C.W C.D it) (js : List Nat)
  (hl : Nat.ble n0 s.x.length = true := by kernel_rfl) (h : lhsR Pg (rk Pg N [] 300 ks s it) fn.results.toList js X = rhsR (rk Pg N [] 300 ks s it) js r X := by kernel_rfl) (hb : cutB n0 js [(0, r)] X = true := by kernel_rfl) : Eo.Good Pg N n0 (finF Pg fn n0 X r) C ks s := done hm hl 300 hits js h hb
theorem dnM {N n0 : Nat} {fn : Func} {X : List Ob} {r : AV} {C : Cx} {ks : List Kt} {s : St} {it : List It} (hits : Its Pg C.W C.D it) (js : List Nat)
  (hl : Nat.ble n0 s.x.length = true := by kernel_rfl) (h : lhsR Pg (rk Pg N [] 300 ks s it) fn.results.toList js X = rhsR (rk Pg N [] 300 ks s it) js r X := by kernel_rfl) (hb : cutB n0 js [(0, r)] X = true := by kernel_rfl) : Eo.Good Pg N n0 (finFM Pg fn n0 X r) C ks s := doneM hm hl 300 hits js h hb
theorem dnI {n0 : Nat} {fn : Func} {C : Cx} {ks : List Kt} {s : St} {it : List It} {p : Pr} (hp : PrOk Pg p) {b : Bool} {k : Nat} (hA : At p b k C) (hk : endK p b k) (hits : Its Pg C.W C.D it)
  (h : lhsI Pg (rk Pg fn.ntmps [] 300 ks s it) fn.results.toList = rhsI (rk Pg fn.ntmps [] 300 ks s it) := by kernel_rfl) : Eo.Good Pg fn.ntmps n0 (itF Pg fn p) C ks s := doneI hm hp hA hk 300 hits h
theorem gq {N n0 : Nat} {F : Fx} {C : Cx} {ks : List Kt} {s : St} {it : List It} (tg : List Nat) (ks' : List Kt) (hits : Its Pg C.W C.D it) (js : List Nat) (L : List (Nat × AV)) (X : List Ob) (hn : ∀ d, Eo.Good Pg N n0 F C ks' ⟨d, L, mkX X⟩)
  (hl : Nat.ble n0 s.x.length = true := by kernel_rfl) (h : lhs (rk Pg N tg 300 ks s it) js L X = rhs (rk Pg N tg 300 ks s it) js ks' L X := by kernel_rfl) (hb : cutB n0 js L X = true := by kernel_rfl) : Eo.Good Pg N n0 F C ks s := go hm hl tg 300 hits js L X h hb hn
theorem fq {f : FuncId} {fn : Func} {obs : List Ob} {args : List AV} {obs' ns : List Ob} {r : AV} (hf : Pg.funcs[f]? = some fn) (h : ∀ C : Cx, Eo.Good Pg fn.ntmps obs.length (finF Pg fn obs.length (obs' ++ ns) r) C [.c (fn.body.getD .skip)] (st0 args obs))
  (hb : fn.body.isSome = true := by kernel_rfl) (hB : fnB obs args obs' ns r fn.ntmps = true := by kernel_rfl) : FnP Pg f obs args obs' ns r := by
 cases e : fn.body with
 | none => rw [e] at hb; cases hb
 | some c =>
  rw [e] at h
  exact fnp hf e hB h
theorem fqM {f : FuncId} {fn : Func} {obs : List Ob} {args : List AV} {obs' ns : List Ob} {r : AV} (hf : Pg.funcs[f]? = some fn) (h : ∀ C : Cx, C.r0 = none ∧ C.m = 0 → Eo.Good Pg fn.ntmps obs.length (finFM Pg fn obs.length (obs' ++ ns) r) C [.c (fn.body.getD .skip)] (st0 args obs))
  (hb : fn.body.isSome = true := by kernel_rfl) (hB : fnB obs args obs' ns r fn.ntmps = true := by kernel_rfl) : FnP Pg f obs args obs' ns r := by
 cases e : fn.body with
 | none => rw [e] at hb; cases hb
 | some c =>
  rw [e] at h
  exact fnpM hf e hB h
theorem sq {gf : FuncId} {fn : Func} {obs : List Ob} {lb : List AC} {n : Nat} {enc : Nat → List AV × List Ob} (hf : Pg.funcs[gf]? = some fn)
  (h : ∀ (p0 : Pr) (C : Cx), PrOk Pg (prW p0 n obs.length enc) → At (prW p0 n obs.length enc) true 0 C → Eo.Good Pg fn.ntmps obs.length (itF Pg fn (prW p0 n obs.length enc)) C [.c (fn.body.getD .skip)] (st0 (.a (.v (.func (.yield p0.l) #[] #[])) :: lb.map .a) obs))
  (hb : fn.body.isSome = true := by kernel_rfl) (hB : seqB obs lb fn.ntmps = true := by kernel_rfl) : SeqP Pg gf lb obs n enc := by
 cases e : fn.body with
 | none => rw [e] at hb; cases hb
 | some c =>
  rw [e] at h
  exact seqp hf e hB h
end Go.Proofs.YtlkhneiccjhgdaaGreat
set_option maxRecDepth 100000
namespace Go.Proofs.YtlkhneiccjhgdaaGreat
open Go.Eo Go.RowKit Go.Rg
def half (ns : List Nd) (i : Nat) (b : Bool) : List Nd := bif decide (0 < leanF ns (kid ns i b) !b) then (let n1 := turnF ns (kid ns i b) !b; n1.set i (setKid (nd n1 i) b (kid ns (kid ns i b) !b))) else ns
def up (ns : List Nd) (i : Nat) (b : Bool) : List Nd × Nat := (turnF (half ns i b) i b, kid (half ns i b) i b)
def levelF (ns : List Nd) (i : Nat) : List Nd × Nat :=
 bif decide (leanF (fitF ns i) i false < 2) then (bif decide (leanF (fitF ns i) i true < 2) then (fitF ns i, i) else up (fitF ns i) i true) else up (fitF ns i) i false
structure LeanOk (ns : List Nd) (i : Nat) (b : Bool) : Prop where
 hi : i < ns.length
 ha : kid ns i b < ns.length
 hb : kid ns i (!b) < ns.length
 hd : -9223372036854775808 ≤ leanF ns i b ∧ leanF ns i b ≤ 9223372036854775807
structure TurnOk (ns : List Nd) (i : Nat) (b : Bool) : Prop where
 hi : i < ns.length
 hk : kid ns i b < ns.length
 h1 : FitOk (turn2 ns i b) i
 h2 : FitOk (fitF (turn2 ns i b) i) (kid ns i b)
structure UpOk (ns : List Nd) (i : Nat) (b : Bool) : Prop where
 l : LeanOk ns (kid ns i b) !b
 t : 0 < leanF ns (kid ns i b) (!b) → TurnOk ns (kid ns i b) !b
 u : TurnOk (half ns i b) i b
structure LevelOk (ns : List Nd) (i : Nat) : Prop where
 f : FitOk ns i
 l : LeanOk (fitF ns i) i false
 r : LeanOk (fitF ns i) i true
 a : ¬ leanF (fitF ns i) i false < 2 → UpOk (fitF ns i) i false
 b : leanF (fitF ns i) i false < 2 → ¬ leanF (fitF ns i) i true < 2 → UpOk (fitF ns i) i true
noncomputable abbrev levelB : Code := Tryz.f268.body.getD .skip
def mnQ (a b : Int) : Sem Next := (do pure (.value (← Builtin.min_ #[3, 3] 3 #[i6 a, i6 b])))
theorem mn {P : Program} (a b : Int) (w : World) : (mnQ a b).run P w = .ok (.value (i6 (min a b))) w := by
 unfold mnQ
 rw [Sem.run_bind, run_min_int2]
 simp only [Result.andThen_ok, Sem.run_pure]
 congr 3
 split <;> omega
theorem bt {p : Prop} [Decidable p] (h : p) : Value.bool (decide p) = .bool true := by rw [decide_eq_true h]
theorem bf {p : Prop} [Decidable p] (h : ¬ p) : Value.bool (decide p) = .bool false := by rw [decide_eq_false h]
theorem len2 (ns : List Nd) (i : Nat) (b : Bool) : (turn2 ns i b).length = ns.length := by simp [turn2, len1]
theorem lenF (ns : List Nd) (i : Nat) : (fitF ns i).length = ns.length := by simp [fitF]
theorem lenT (ns : List Nd) (i : Nat) (b : Bool) : (turnF ns i b).length = ns.length := by simp [turnF, lenF, len2]
section
variable (f : Value) (root n : Int) (ns : List Nd) (fs : List Nat)
theorem level_ok (i : Nat) (h : LevelOk ns i) : FnP Tryz.prog 268 (Tr3 f root n ns fs) [.a (.p 0 0), vi i] (Tr3 f root n (levelF ns i).1 fs) [] (vi (levelF ns i).2) := by
 refine fq Tryz.func268 fun C => ?_
 have hup : ∀ (b : Bool) K d, UpOk (fitF ns i) i b → levelF ns i = up (fitF ns i) i b → LeanOk (fitF ns i) i b → ¬ leanF (fitF ns i) i b < 2 →
   Eo.Good Tryz.prog Tryz.f268.ntmps 3 (finF Tryz.prog Tryz.f268 3 (Tr3 f root n (levelF ns i).1 fs ++ []) (vi (levelF ns i).2)) C (lpB 3 levelB [] K) ⟨d, [(0, .a (.p 0 0)), (1, vi i), (10, vi (sd b))], mkX (Tr3 f root n (fitF ns i) fs)⟩ := by
  intro b K d hu hl hL hlt
  rw [hl]
  have hh : (half (fitF ns i) i b).length = (fitF ns i).length := by unfold half; cases decide (0 < leanF (fitF ns i) (kid (fitF ns i) i b) !b) <;> simp [lenT]
  by_cases h0 : 0 < leanF (fitF ns i) (kid (fitF ns i) i b) !b
  ·have ht := hu.t h0
   have e : half (fitF ns i) i b = (turnF (fitF ns i) (kid (fitF ns i) i b) !b).set i (setKid (nd (turnF (fitF ns i) (kid (fitF ns i) i b) !b) i) b (kid (fitF ns i) (kid (fitF ns i) i b) !b)) := by unfold half; rw [decide_eq_true h0]; rfl
   have hi' : i < (turnF (fitF ns i) (kid (fitF ns i) i b) !b).length := by rw [lenT]; exact hL.hi
   have its := (.f 16 [0, 1, 2] [0, 1, 2] (lean_ok f root n _ fs i b hL.hi hL.ha hL.hb hL.hd) <| .v 17 (bf hlt) <| .f 20 [0, 1, 2] [0, 1, 2] (at_ok f root n _ fs i hL.hi) <| .l 25 (nd_enc hL.hi) <|
    .f 30 [0, 1, 2] [0, 1, 2] (lean_ok f root n _ fs _ _ hu.l.hi hu.l.ha hu.l.hb hu.l.hd) <| .v 31 (bt h0) <| .f 34 [0, 1, 2] [0, 1, 2] (at_ok f root n _ fs i hL.hi) <| .f 40 [0, 1, 2] [0, 2] (turn_ok f root n _ fs _ _ ht.hi ht.hk ht.h1 ht.h2) <| .l 1 (nd_enc hi') <|
    .o (y := NO (half (fitF ns i) i b)) 9 1 ((congrArg (Ob.row 342 15) (set_enc _ i _)).trans (congrArg NO e.symm)) <| .f 47 [0, 1, 2] [0, 2] (turn_ok f root n _ fs i b hu.u.hi hu.u.hk hu.u.h1 hu.u.h2) .nil : Its Tryz.prog C.W C.D _)
   cases b <;> exact dn its [0, 1, 2]
  ·have e : half (fitF ns i) i b = fitF ns i := by unfold half; rw [decide_eq_false h0]; rfl
   have its := (.f 16 [0, 1, 2] [0, 1, 2] (lean_ok f root n _ fs i b hL.hi hL.ha hL.hb hL.hd) <| .v 17 (bf hlt) <| .f 20 [0, 1, 2] [0, 1, 2] (at_ok f root n _ fs i hL.hi) <| .l 25 (nd_enc hL.hi) <|
    .f 30 [0, 1, 2] [0, 1, 2] (lean_ok f root n _ fs _ _ hu.l.hi hu.l.ha hu.l.hb hu.l.hd) <| .v 31 (bf h0) <| .o (y := NO (half (fitF ns i) i b)) 9 1 (congrArg NO e.symm) <| .f 47 [0, 1, 2] [0, 2] (turn_ok f root n _ fs i b hu.u.hi hu.u.hk hu.u.h1 hu.u.h2) .nil : Its Tryz.prog C.W C.D _)
   cases b <;> exact dn its [0, 1, 2]
 refine gq [3] (lp 3 levelB []) (.f 9 [0, 1, 2] [0, 2] (fit_ok f root n ns fs i h.f.hi h.f.ha h.f.hb h.f.hd) .nil) [0, 1, 2] [(0, .a (.p 0 0)), (1, vi i), (10, vi (0 : Nat))] (Tr3 f root n (fitF ns i) fs) fun d => ?_
 have le : levelF ns i = bif decide (leanF (fitF ns i) i false < 2) then (bif decide (leanF (fitF ns i) i true < 2) then (fitF ns i, i) else up (fitF ns i) i true) else up (fitF ns i) i false := rfl
 let I : Nat → Prop := fun x => (1 ≤ x → leanF (fitF ns i) i false < 2) ∧ (2 ≤ x → leanF (fitF ns i) i true < 2)
 refine loop (β := { x : Nat // I x }) (fun x d => ⟨d, [(0, .a (.p 0 0)), (1, vi i), (10, vi (x.1 : Nat))], mkX (Tr3 f root n (fitF ns i) fs)⟩) (fun x => 2 - x.1) (by kernel_rfl) (fun x K ih d => ?_) ⟨0, fun h => by omega, fun h => by omega⟩ d
 obtain ⟨x, hx⟩ := x
 match x, hx, ih with
 | 0, hx, ih =>
  by_cases h0 : leanF (fitF ns i) i false < 2
  ·exact gq [] (lpK 3 levelB [] K) (.f 16 [0, 1, 2] [0, 1, 2] (lean_ok f root n _ fs i false h.l.hi h.l.ha h.l.hb h.l.hd) <| .v 17 (bt h0) .nil) [0, 1, 2] [(0, .a (.p 0 0)), (1, vi i), (10, vi (1 : Nat))] (Tr3 f root n (fitF ns i) fs)
    fun d => ih ⟨1, fun _ => h0, fun h => by omega⟩ d (by simp)
  ·exact hup false K d (h.a h0) (by rw [le, decide_eq_false h0]; rfl) h.l h0
 | 1, hx, ih =>
  have h0 := hx.1 (by omega)
  by_cases h1 : leanF (fitF ns i) i true < 2
  ·exact gq [] (lpK 3 levelB [] K) (.f 16 [0, 1, 2] [0, 1, 2] (lean_ok f root n _ fs i true h.r.hi h.r.ha h.r.hb h.r.hd) <| .v 17 (bt h1) .nil) [0, 1, 2] [(0, .a (.p 0 0)), (1, vi i), (10, vi (2 : Nat))] (Tr3 f root n (fitF ns i) fs)
    fun d => ih ⟨2, fun _ => h0, fun _ => h1⟩ d (by simp)
  ·exact hup true K d (h.b h0 h1) (by rw [le, decide_eq_true h0, decide_eq_false h1]; rfl) h.r h1
 | x + 2, hx, ih =>
  have h0 := hx.1 (by omega)
  have h1 := hx.2 (by omega)
  have e : levelF ns i = (fitF ns i, i) := by rw [le, decide_eq_true h0, decide_eq_true h1]; rfl
  rw [e]
  exact dn (.v 11 (bf (show ¬ ((x + 2 : Nat) : Int) < 2 by omega)) .nil) [0, 1, 2]
end
end Go.Proofs.YtlkhneiccjhgdaaGreat
namespace Go.Proofs.YtlkhneiccjhgdaaGreat
open Go.RowKit Go.Rg Go.Wd
attribute [local go_sem] Oper.semAt_some
theorem info_wide : (Tryz.prog.info? 76).map (fun i => (i.zero, i.size)) = some (some (.agg #[.int .u64 0, .int .u64 0, .int .u64 0, .int .u64 0]), 4) := by kernel_rfl
theorem size_wide : (Tryz.prog.info? 76).map (·.size) = some 4 := by kernel_rfl
theorem wI_one (z : Int) : (wI z).cells.all (·.oneCell') = true := by unfold wI U u64; simp [Value.cells, Value.oneCell']
theorem U_one (z : Nat) : (U z).cells.all (·.oneCell') = true := by unfold U u64; simp [Value.cells, Value.oneCell']
theorem wideNeg_b (z : Int) (b : Bool) (hz : Fit z) (h : decide (z < 0) = b) (w : World) :
  Calls Tryz.prog 200 #[wI z] w fun e w' => e = .returned (.bool b) ∧ Below w.heap.size w w' := by rw [← h]; exact wideNeg_any z hz w
theorem widePlus_b (x y : Int) (c : Nat) (hc : c ≤ 1) (w : World) :
  Calls Tryz.prog 207 #[wI x, wI y, u64 c] w fun e w' => e = .returned (wI (x + y + c)) ∧ Below w.heap.size w w' := by rw [← tc_add]; exact widePlus_any _ _ c hc w
theorem widePlus_z (x y z : Int) (c : Nat) (hc : c ≤ 1) (h : z = x + y + c) (w : World) :
  Calls Tryz.prog 207 #[wI x, wI y, u64 c] w fun e w' => e = .returned (wI z) ∧ Below w.heap.size w w' := by subst h; exact widePlus_b x y c hc w
theorem wideKept_b (z z' : Int) (b : Bool) (h : z' = if b then z else 0) (w : World) :
  Calls Tryz.prog 240 #[wI z, .bool b] w fun e w' => e = .returned (.tuple #[wI z', .bool b]) ∧ Below w.heap.size w w' := by
 have := wideKept_any z b w
 subst h
 cases b <;> exact this
theorem wideSize_neg (z : Int) (hz : Fit z) (h : z < 0) (w : World) :
  Calls Tryz.prog 206 #[wI z] w fun e w' => e = .returned (wI (-z)) ∧ Below w.heap.size w w' := by
 obtain ⟨W0, hW0⟩ : ∃ W0, [.cells #[u64 (lb (tc z) 0), u64 (lb (tc z) 1), u64 (lb (tc z) 2), u64 (lb (tc z) 3)] 76, .cells #[.int .u64 0, .int .u64 0, .int .u64 0, .int .u64 0] 76].foldl World.alloc w = W0 := ⟨_, rfl⟩
 have B0 : Blk W0 (w.heap.size) (uL (tc z)) 76 := Blk.allocs _ hW0 0 rfl
 have B1 : Blk W0 (w.heap.size + 1) (uL 0) 76 := Blk.allocs _ hW0 1 rfl
 have HB := aB hW0
 have hsz : w.heap.size + 2 ≤ W0.heap.size := aZ hW0
 simp only [List.foldl_cons, List.foldl_nil] at hW0
 have hb : decide (z < 0) = true := by simpa using h
 go_enter Tryz.func206, Tryz.ntmps206
 unfold wI U
 go_upto_region 1 with (fail)
 clear hW0
 refine cP ?_
 refine cN ?_
 refine cX ?_ ?_ (by intro wz hSw; obtain ⟨q0, q1, q2, q3⟩ := c4 (B0.y hSw.1); go_simp; all_goals with_reducible rfl) ?_
 refine cC ?_ ?_ ?_ ?_ ?hc1_1 ?_
 case hc1_1 => (intro w hSw; exact wideNeg_b z true hz hb w)
 refine calm_end ?_
 intro w1 hS
 have hS := sO hS
 have B0 := B0.y hS
 have B1 := B1.y hS
 have hz1 : W0.heap.size ≤ w1.heap.size := hS.size
 have HB := gS HB hS
 clear hS
 go_upto_region 2 with (fail)
 refine cP ?_
 refine calm_k (b := w.heap.size + 1) (o := 0) (st := 4) (ado := .tmp 2) (x := (.tmp 8)) (u := wI (-z)) (by kernel_rfl) B1 (by rfl) size_wide (by first | exact wI_one _ | exact U_one _) (by first | exact Nat.le_refl _ | (simp; done) | decide) ?_
 refine cW ?_ ?_ ?_
 refine cX ?_ ?_ (by intro wz hSw; obtain ⟨q0, q1, q2, q3⟩ := c4 (B0.y hSw.1); go_simp; all_goals with_reducible rfl) ?_
 refine cC ?_ ?_ ?_ ?_ ?hc2_2 ?_
 case hc2_2 => (intro w hSw; exact wideTurned_any z w)
 refine cC ?_ ?_ ?_ ?_ ?hc2_3 ?_
 case hc2_3 => (intro w hSw; exact widePlus_z 0 (-z - 1) (-z) 1 (by omega) (by omega) w)
 refine cB ?_
 refine calm_end ?_
 refine ⟨(by rfl), (by rfl), fun w2 hS D0 => ?_⟩
 have B0 := B0.y hS
 have B1 : Blk w2 (w.heap.size + 1) (uL (tc (-z))) 76 := blk_whole D0 rfl
 have hz2 : w1.heap.size ≤ w2.heap.size := hS.size
 have HB := gS HB hS
 clear hS D0
 go_wp2_with fail
 obtain ⟨s0_0, s0_1, s0_2, s0_3⟩ := c4 (B1)
 refine bodyPost_ret (v := wI (-z)) (by simp [results, Tryz.results206, go_sem, s0_0, s0_1, s0_2, s0_3]) rfl ⟨rfl, HB⟩
theorem wideSize_pos (z : Int) (hz : Fit z) (h : 0 ≤ z) (w : World) :
  Calls Tryz.prog 206 #[wI z] w fun e w' => e = .returned (wI z) ∧ Below w.heap.size w w' := by
 obtain ⟨W0, hW0⟩ : ∃ W0, [.cells #[u64 (lb (tc z) 0), u64 (lb (tc z) 1), u64 (lb (tc z) 2), u64 (lb (tc z) 3)] 76, .cells #[.int .u64 0, .int .u64 0, .int .u64 0, .int .u64 0] 76].foldl World.alloc w = W0 := ⟨_, rfl⟩
 have B0 : Blk W0 (w.heap.size) (uL (tc z)) 76 := Blk.allocs _ hW0 0 rfl
 have B1 : Blk W0 (w.heap.size + 1) (uL 0) 76 := Blk.allocs _ hW0 1 rfl
 have HB := aB hW0
 have hsz : w.heap.size + 2 ≤ W0.heap.size := aZ hW0
 simp only [List.foldl_cons, List.foldl_nil] at hW0
 have hb : decide (z < 0) = false := by simpa using h
 go_enter Tryz.func206, Tryz.ntmps206
 unfold wI U
 go_upto_region 1 with (fail)
 clear hW0
 refine cP ?_
 refine cN ?_
 refine cX ?_ ?_ (by intro wz hSw; obtain ⟨q0, q1, q2, q3⟩ := c4 (B0.y hSw.1); go_simp; all_goals with_reducible rfl) ?_
 refine cC ?_ ?_ ?_ ?_ ?hc3_1 ?_
 case hc3_1 => (intro w hSw; exact wideNeg_b z false hz hb w)
 refine calm_end ?_
 intro w1 hS
 have hS := sO hS
 have B0 := B0.y hS
 have B1 := B1.y hS
 have hz1 : W0.heap.size ≤ w1.heap.size := hS.size
 have HB := gS HB hS
 clear hS
 go_upto_region 3 with (fail)
 refine cP ?_
 refine calm_k (b := w.heap.size + 1) (o := 0) (st := 1) (ado := .tmp 2) (x := (.tmp 9)) (u := wI z) (by kernel_rfl) B1 (by rfl) size_wide (by first | exact wI_one _ | exact U_one _) (by first | exact Nat.le_refl _ | (simp; done) | decide) ?_
 refine cX ?_ ?_ (by intro wz hSw; obtain ⟨q0, q1, q2, q3⟩ := c4 (B0.y hSw.1); go_simp; all_goals with_reducible rfl) ?_
 refine cB ?_
 refine calm_end ?_
 refine ⟨(by rfl), (by rfl), fun w2 hS D0 => ?_⟩
 have B0 := B0.y hS
 have B1 : Blk w2 (w.heap.size + 1) (uL (tc z)) 76 := blk_whole D0 rfl
 have hz2 : w1.heap.size ≤ w2.heap.size := hS.size
 have HB := gS HB hS
 clear hS D0
 go_wp2_with fail
 obtain ⟨s0_0, s0_1, s0_2, s0_3⟩ := c4 (B1)
 refine bodyPost_ret (v := wI z) (by simp [results, Tryz.results206, go_sem, s0_0, s0_1, s0_2, s0_3]) rfl ⟨rfl, HB⟩
end Go.Proofs.YtlkhneiccjhgdaaGreat
namespace Go.Wd
open Go
theorem tc_inj {x y : Int} (hx : Fit x) (hy : Fit y) (h : tc x = tc y) : x = y := by
 have h1 := tc_cast x
 have h2 := tc_cast y
 unfold Fit at hx hy
 simp only [B4, H4] at h1 h2 hx hy
 omega
theorem limbs_eq {a b : Nat} (ha : a < B4) (hb : b < B4) : ((lb a 0 : Int) == (lb b 0 : Int) && ((lb a 1 : Int) == (lb b 1 : Int) && ((lb a 2 : Int) == (lb b 2 : Int) && (lb a 3 : Int) == (lb b 3 : Int)))) = decide (a = b) := by
 rw [Bool.eq_iff_iff]
 simp only [Bool.and_eq_true, beq_iff_eq, decide_eq_true_eq, Int.natCast_inj]
 constructor
 ·rintro ⟨h0, h1, h2, h3⟩
  have := lb_ext (a := a) (b := b) (fun i hi => by
   have : i = 0 ∨ i = 1 ∨ i = 2 ∨ i = 3 := by omega
   rcases this with rfl | rfl | rfl | rfl <;> assumption)
  rwa [Nat.mod_eq_of_lt ha, Nat.mod_eq_of_lt hb] at this
 ·rintro rfl; exact ⟨rfl, rfl, rfl, rfl⟩
end Go.Wd
namespace Go.Proofs.YtlkhneiccjhgdaaGreat
open Go.RowKit Go.Rg Go.Wd
attribute [local go_sem] Oper.semAt_some
theorem eqIn_wide (a b c d a' b' c' d' : Int) (w : World) : (Op.equalIn 10000 76 (.agg #[.int .u64 a, .int .u64 b, .int .u64 c, .int .u64 d]) (.agg #[.int .u64 a', .int .u64 b', .int .u64 c', .int .u64 d'])).run Tryz.prog w = .ok (a == a' && (b == b' && (c == c' && d == d'))) w := by
 have u3 := Tryz.underlying74
 have a3 := Tryz.isAgg74
 have z3 := Tryz.sizeOf74
 rw [show (10000 : Nat) = 9999 + 1 from rfl, Op.equalIn]
 simp only [Sem.run_bind, run_underlying Tryz.underlying76, Result.andThen_ok]
 simp only [Std.Legacy.Range.forIn_eq_forIn_range', Std.Legacy.Range.size, Nat.sub_zero, Nat.add_sub_cancel, Nat.div_one, List.range'_succ, List.range'_zero, List.forIn_cons, List.forIn_nil]
 go_simp
 by_cases h1 : a = a' <;> by_cases h2 : b = b' <;> by_cases h3 : c = c' <;> by_cases h4 : d = d' <;> simp [h1, h2, h3, h4]
theorem eqIn_U (a b : Nat) (ha : a < B4) (hb : b < B4) (w : World) : (Op.equalIn 10000 76 (U a) (U b)).run Tryz.prog w = .ok (decide (a = b)) w := by
 unfold U u64
 rw [eqIn_wide, limbs_eq ha hb]
theorem eqIn_I (x y : Int) (hx : Fit x) (hy : Fit y) (b : Bool) (h : decide (x = y) = b) (w : World) : (Op.equalIn 10000 76 (wI x) (wI y)).run Tryz.prog w = .ok b w := by
 unfold wI
 rw [eqIn_U _ _ (tc_lt _) (tc_lt _), ← h]
 congr 1
 rw [decide_eq_decide]
 exact ⟨fun h => tc_inj hx hy h, fun h => by rw [h]⟩
theorem fit0 : Fit 0 := by unfold Fit; decide
theorem eqIn_Z (x : Int) (hx : Fit x) (b : Bool) (h : decide (x = 0) = b) (w : World) : (Op.equalIn 10000 76 (wI x) (.agg #[.int .u64 0, .int .u64 0, .int .u64 0, .int .u64 0])).run Tryz.prog w = .ok b w :=
 eqIn_I x 0 hx fit0 b h w
theorem eqIn_00 (w : World) : (Op.equalIn 10000 76 (.agg #[.int .u64 0, .int .u64 0, .int .u64 0, .int .u64 0]) (.agg #[.int .u64 0, .int .u64 0, .int .u64 0, .int .u64 0])).run Tryz.prog w = .ok true w := eqIn_Z 0 fit0 true rfl w
end Go.Proofs.YtlkhneiccjhgdaaGreat
namespace Go.Proofs.YtlkhneiccjhgdaaGreat
open Go.RowKit Go.Rg Go.Wd
attribute [local go_sem] Oper.semAt_some
theorem wideSub_any (x y : Int) (hx : Fit x) (hy : Fit y) (hd : Fit (x - y)) (w : World) :
  Calls Tryz.prog 203 #[wI x, wI y] w fun e w' => e = .returned (.tuple #[wI (x - y), .bool true]) ∧ Below w.heap.size w w' :=
 by
 by_cases hx0 : x < 0
 ·by_cases hy0 : y < 0
  ·exact Eo.calls_of (args := [wI x, wI y]) (fq Tryz.func203 fun C => dn (.c 9 (wideTurned_any y) <| .c 10 (widePlus_z x (-y - 1) (x - y) 1 (by decide) (by omega)) <| .c 13 (wideNeg_b x true hx (decide_eq_true hx0)) <| .c 15 (wideNeg_b y true hy (decide_eq_true hy0)) <| .c 24 (wideKept_b (x - y) (x - y) true rfl) .nil) []) w
  ·exact Eo.calls_of (args := [wI x, wI y]) (fq Tryz.func203 fun C => dn (.c 9 (wideTurned_any y) <| .c 10 (widePlus_z x (-y - 1) (x - y) 1 (by decide) (by omega)) <| .c 13 (wideNeg_b x true hx (decide_eq_true hx0)) <| .c 15 (wideNeg_b y false hy (decide_eq_false hy0)) <| .c 19 (wideNeg_b (x - y) true hd (decide_eq_true (by omega))) <| .c 21 (wideNeg_b x true hx (decide_eq_true hx0)) <| .c 24 (wideKept_b (x - y) (x - y) true rfl) .nil) []) w
 ·by_cases hy0 : y < 0
  ·exact Eo.calls_of (args := [wI x, wI y]) (fq Tryz.func203 fun C => dn (.c 9 (wideTurned_any y) <| .c 10 (widePlus_z x (-y - 1) (x - y) 1 (by decide) (by omega)) <| .c 13 (wideNeg_b x false hx (decide_eq_false hx0)) <| .c 15 (wideNeg_b y true hy (decide_eq_true hy0)) <| .c 19 (wideNeg_b (x - y) false hd (decide_eq_false (by omega))) <| .c 21 (wideNeg_b x false hx (decide_eq_false hx0)) <| .c 24 (wideKept_b (x - y) (x - y) true rfl) .nil) []) w
  ·exact Eo.calls_of (args := [wI x, wI y]) (fq Tryz.func203 fun C => dn (.c 9 (wideTurned_any y) <| .c 10 (widePlus_z x (-y - 1) (x - y) 1 (by decide) (by omega)) <| .c 13 (wideNeg_b x false hx (decide_eq_false hx0)) <| .c 15 (wideNeg_b y false hy (decide_eq_false hy0)) <| .c 24 (wideKept_b (x - y) (x - y) true rfl) .nil) []) w
theorem wideAdd_any (x y : Int) (hx : Fit x) (hy : Fit y) (hd : Fit (x + y)) (w : World) :
  Calls Tryz.prog 204 #[wI x, wI y] w fun e w' => e = .returned (.tuple #[wI (x + y), .bool true]) ∧ Below w.heap.size w w' :=
 by
 by_cases hx0 : x < 0
 ·by_cases hy0 : y < 0
  ·exact Eo.calls_of (args := [wI x, wI y]) (fq Tryz.func204 fun C => dn (.c 9 (widePlus_z x y (x + y) 0 (by decide) (by omega)) <| .c 12 (wideNeg_b x true hx (decide_eq_true hx0)) <| .c 14 (wideNeg_b y true hy (decide_eq_true hy0)) <| .c 18 (wideNeg_b (x + y) true hd (decide_eq_true (by omega))) <| .c 20 (wideNeg_b x true hx (decide_eq_true hx0)) <| .c 23 (wideKept_b (x + y) (x + y) true rfl) .nil) []) w
  ·exact Eo.calls_of (args := [wI x, wI y]) (fq Tryz.func204 fun C => dn (.c 9 (widePlus_z x y (x + y) 0 (by decide) (by omega)) <| .c 12 (wideNeg_b x true hx (decide_eq_true hx0)) <| .c 14 (wideNeg_b y false hy (decide_eq_false hy0)) <| .c 23 (wideKept_b (x + y) (x + y) true rfl) .nil) []) w
 ·by_cases hy0 : y < 0
  ·exact Eo.calls_of (args := [wI x, wI y]) (fq Tryz.func204 fun C => dn (.c 9 (widePlus_z x y (x + y) 0 (by decide) (by omega)) <| .c 12 (wideNeg_b x false hx (decide_eq_false hx0)) <| .c 14 (wideNeg_b y true hy (decide_eq_true hy0)) <| .c 23 (wideKept_b (x + y) (x + y) true rfl) .nil) []) w
  ·exact Eo.calls_of (args := [wI x, wI y]) (fq Tryz.func204 fun C => dn (.c 9 (widePlus_z x y (x + y) 0 (by decide) (by omega)) <| .c 12 (wideNeg_b x false hx (decide_eq_false hx0)) <| .c 14 (wideNeg_b y false hy (decide_eq_false hy0)) <| .c 18 (wideNeg_b (x + y) false hd (decide_eq_false (by omega))) <| .c 20 (wideNeg_b x false hx (decide_eq_false hx0)) <| .c 23 (wideKept_b (x + y) (x + y) true rfl) .nil) []) w
theorem wideSigned_neg (n : Int) (hn : Fit (-n)) (h0 : 0 < n) (w : World) :
  Calls Tryz.prog 209 #[wI n, .bool true] w fun e w' => e = .returned (.tuple #[wI (-n), .bool true]) ∧ Below w.heap.size w w' :=
 Eo.calls_of (args := [wI n, .bool true]) (fq Tryz.func209 fun C => dn (.c 10 (wideTurned_any n) <| .c 11 (widePlus_z 0 (-n - 1) (-n) 1 (by decide) (by omega)) <| .c 14 (wideNeg_b (-n) true hn (decide_eq_true (by omega))) <| .c 20 (wideKept_b (-n) (-n) true rfl) .nil) []) w
theorem wideSigned_zero (w : World) :
  Calls Tryz.prog 209 #[wI 0, .bool true] w fun e w' => e = .returned (.tuple #[wI 0, .bool true]) ∧ Below w.heap.size w w' := by
 obtain ⟨W0, hW0⟩ : ∃ W0, [.cells #[.int .u64 0, .int .u64 0, .int .u64 0, .int .u64 0] 76, .cells #[.int .u64 0, .int .u64 0, .int .u64 0, .int .u64 0] 76].foldl World.alloc w = W0 := ⟨_, rfl⟩
 have B0 : Blk W0 (w.heap.size) (uL 0) 76 := Blk.allocs _ hW0 0 rfl
 have B1 : Blk W0 (w.heap.size + 1) (uL 0) 76 := Blk.allocs _ hW0 1 rfl
 have HB := aB hW0
 have hsz : w.heap.size + 2 ≤ W0.heap.size := aZ hW0
 simp only [List.foldl_cons, List.foldl_nil] at hW0
 have hf : Fit 0 := by unfold Fit; decide
 have z0 : wI 0 = .agg #[.int .u64 0, .int .u64 0, .int .u64 0, .int .u64 0] := rfl
 rw [z0]
 go_enter Tryz.func209, Tryz.ntmps209
 go_upto_region 2 with (fail)
 clear hW0
 refine cP ?_
 refine calm_a (k := 4) (d := 6) (st := 5) (x := (.tmp 11)) (u := wI 0) (T := 76) (by kernel_rfl) (by rfl) (by rfl) info_wide rfl rfl (by first | exact wI_one _ | exact U_one _) ?_
 refine cW ?_ ?_ ?_
 refine cX ?_ ?_ (by intro wz hSw; obtain ⟨q0, q1, q2, q3⟩ := c4 (B0.y hSw.1); go_simp; all_goals with_reducible rfl) ?_
 refine cC ?_ ?_ ?_ ?_ ?hc19_2 ?_
 case hc19_2 => (intro w hSw; exact wideTurned_any 0 w)
 refine cC ?_ ?_ ?_ ?_ ?hc19_3 ?_
 case hc19_3 => (intro w hSw; exact widePlus_z 0 (-0 - 1) 0 1 (by omega) (by omega) w)
 refine cB ?_
 refine cB ?_
 refine calm_end ?_
 refine ⟨(by rfl), fun b3 w1 hb3 hS D0 => ?_⟩
 have hl3_0 : w.heap.size < b3 := lL B0.lt hb3
 have hl3_1 : w.heap.size + 1 < b3 := lL B1.lt hb3
 have hS := sO hS
 have B0 := B0.y hS
 have B1 := B1.y hS
 have B3 : Blk w1 b3 (uL (tc 0)) 76 := D0
 have hz1 : W0.heap.size ≤ w1.heap.size := hS.size
 have HB := gS HB hS
 clear hS D0
 go_upto_region 3 with (fail)
 refine cG ?_
 refine calm_k (b := w.heap.size + 1) (o := 0) (st := 11) (ado := .tmp 4) (x := (.tmp 21)) (u := wI 0) (by kernel_rfl) B1 (by rfl) size_wide (by first | exact wI_one _ | exact U_one _) (by first | exact Nat.le_refl _ | (simp; done) | decide) ?_
 refine cX ?_ ?_ (by intro wz hSw; obtain ⟨q0, q1, q2, q3⟩ := c4 (B3.y hSw.1); go_simp; all_goals with_reducible rfl) ?_
 refine cX ?_ ?_ (by intro wz hSw; obtain ⟨q0, q1, q2, q3⟩ := c4 (B3.y hSw.1); go_simp; all_goals with_reducible rfl) ?_
 refine cC ?_ ?_ ?_ ?_ ?hc20_2 ?_
 case hc20_2 => (intro w hSw; exact wideNeg_b 0 false hf rfl w)
 refine cW ?_ ?_ ?_
 refine cX ?_ ?_ (by intro wz hSw; obtain ⟨q0, q1, q2, q3⟩ := c4 (B3.y hSw.1); go_simp; all_goals with_reducible rfl) ?_
 refine cW ?_ ?_ ?_
 refine cX ?_ ?_ (by intro wz hSw; have he := eqIn_00 wz; go_simp; all_goals with_reducible rfl) ?_
 refine cW ?_ ?_ ?_
 refine cC ?_ ?_ ?_ ?_ ?hc20_8 ?_
 case hc20_8 => (intro w hSw; exact wideKept_b 0 0 true rfl w)
 refine cW ?_ ?_ ?_
 refine cW ?_ ?_ ?_
 refine cB ?_
 refine cW ?_ ?_ ?_
 refine calm_end ?_
 refine ⟨(by rfl), (by rfl), fun w2 hS D0 => ?_⟩
 have B0 := B0.y hS
 have B3 := B3.y hS
 have B1 : Blk w2 (w.heap.size + 1) (uL (tc 0)) 76 := blk_whole D0 rfl
 have hz2 : w1.heap.size ≤ w2.heap.size := hS.size
 have HB := gS HB hS
 clear hS D0
 go_wp2_with fail
 obtain ⟨s0_0, s0_1, s0_2, s0_3⟩ := c4 (B1)
 refine bodyPost_ret (v := .tuple #[wI 0, .bool true]) (by simp [results, Tryz.results209, go_sem, s0_0, s0_1, s0_2, s0_3]) rfl ⟨rfl, HB⟩
theorem wideSigned_pos (n : Int) (hn : Fit n) (h0 : 0 ≤ n) (w : World) :
  Calls Tryz.prog 209 #[wI n, .bool false] w fun e w' => e = .returned (.tuple #[wI n, .bool true]) ∧ Below w.heap.size w w' :=
 Eo.calls_of (args := [wI n, .bool false]) (fq Tryz.func209 fun C => dn (.c 25 (wideNeg_b n false hn (decide_eq_false (by omega))) <| .c 27 (wideKept_b n n true rfl) .nil) []) w
end Go.Proofs.YtlkhneiccjhgdaaGreat
