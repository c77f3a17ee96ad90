/- The engine with objects is sound: a call. No program in sight. -/
import Derived.Test.YtlkhneiccjhgdaaGreatGRd
import Derived.OrdersHeld
import Derived.Test.YtlkhneiccjhgdaaGreatGRa
import Derived.LoopNIn
set_option linter.unusedVariables false
set_option linter.unusedSimpArgs false
namespace Go.Eo
open Go Go.RowKit Go.Rg
section
variable {P : Program} {N : Nat} {W : World} {D : Nat → Prop}
theorem ac_rn (σ : Nat → Nat) (η : Nat → Value) (v : AC) : (v.rn σ).c η = v.c fun i => η (σ i) := by cases v <;> rfl
theorem acl_rn (σ : Nat → Nat) (η : Nat → Value) (l : List AC) : (l.map (·.rn σ)).map (·.c η) = l.map (·.c fun i => η (σ i)) := by
 rw [List.map_map]; exact List.map_congr_left fun x _ => ac_rn σ η x
theorem ag_rn (σ : Nat → Nat) (η : Nat → Value) (v : AG) : (v.rn σ).c η = v.c fun i => η (σ i) := by
 cases v with
 | a x => exact ac_rn σ η x
 | g l => simp only [AG.rn, AG.c]; rw [acl_rn]
theorem av_rn (σ : Nat → Nat) (η : Nat → Value) (v : AV) : (v.rn σ).c η = v.c fun i => η (σ i) := by
 cases v with
 | a x => exact ac_rn σ η x
 | g l => simp only [AV.rn, AV.c]; rw [acl_rn]
 | t l =>
  simp only [AV.rn, AV.c]
  rw [List.map_map]
  congr 2
  exact List.map_congr_left fun x _ => ag_rn σ η x
 | f fn fs cs => simp only [AV.rn, AV.c]; rw [acl_rn, acl_rn]
theorem ac_rn_j (σ : Nat → Nat) (v : AC) : (v.rn σ).j = v.j.map σ := by cases v <;> rfl
theorem acl_rn_js (σ : Nat → Nat) (l : List AC) : (l.map (·.rn σ)).filterMap (·.j) = (l.filterMap (·.j)).map σ := by
 induction l with
 | nil => rfl
 | cons x l ih =>
  rw [List.map_cons, List.filterMap_cons, List.filterMap_cons, ac_rn_j, ih]
  cases x.j <;> rfl
theorem ag_rn_js (σ : Nat → Nat) (v : AG) : (v.rn σ).js = v.js.map σ := by
 cases v with
 | a x => simp only [AG.rn, AG.js, ac_rn_j]; cases x.j <;> rfl
 | g l => exact acl_rn_js σ l
theorem av_rn_js (σ : Nat → Nat) (v : AV) : (v.rn σ).js = v.js.map σ := by
 cases v with
 | a x => simp only [AV.rn, AV.js, ac_rn_j]; cases x.j <;> rfl
 | g l => exact acl_rn_js σ l
 | t l =>
  simp only [AV.rn, AV.js, List.flatMap_map, List.map_flatMap]
  congr 1
  exact funext fun x => ag_rn_js σ x
 | f fn fs cs => simp only [AV.rn, AV.js, acl_rn_js, List.map_append]
theorem ob_rn_js (σ : Nat → Nat) (ob : Ob) : (ob.rn σ).js = ob.js.map σ := by
 cases ob with
 | box c T => exact acl_rn_js σ c
 | ro c T => exact acl_rn_js σ c
 | _ => rfl
theorem ook_rn {w : World} {ι : Nat → Prop} {σ : Nat → Nat} {η : Nat → Value} {v : Value} {ob : Ob} : OOk w ι η v (ob.rn σ) ↔ OOk w ι (fun i => η (σ i)) v ob := by
 cases ob with
 | box c T => simp only [Ob.rn, OOk, acl_rn]
 | ro c T => simp only [Ob.rn, OOk, acl_rn]
 | _ => exact Iff.rfl
theorem mb_rn (σ : Nat → Nat) (v : Value) (ob : Ob) : mb v (ob.rn σ) = mb v ob := by cases ob <;> rfl
theorem ook_congr {w : World} {ι : Nat → Prop} {η η' : Nat → Value} {v : Value} {ob : Ob} (h : ∀ k ∈ ob.js, η' k = η k) : OOk w ι η' v ob ↔ OOk w ι η v ob := by
 cases ob with
 | box c T => simp only [OOk]; rw [cl_congr (fun k hk => h k hk)]
 | ro c T => simp only [OOk]; rw [cl_congr (fun k hk => h k hk)]
 | _ => exact Iff.rfl
structure Mem (η : Nat → Value) (ι : Nat → Prop) (w : World) (X : List Ob) : Prop where
 ok : ∀ (j : Nat) (ob : Ob), X[j]? = some ob → OOk w ι η (η j) ob
 ne : ∀ (j j' : Nat) (ob ob' : Ob) (g : Nat), X[j]? = some ob → X[j']? = some ob' → mb (η j) ob = some g → mb (η j') ob' = some g → j' = j
 ni : ∀ (j : Nat) (ob : Ob) (g : Nat), X[j]? = some ob → mb (η j) ob = some g → ¬ ι g
 il : ∀ g, ι g → g < w.heap.size
def Muts (η : Nat → Value) (X : List Ob) (g : Nat) : Prop := ∃ j ob, X[j]? = some ob ∧ mb (η j) ob = some g
def inN (n : Nat) (obs ns : List Ob) (r : AV) : Bool := r.js.all (fun k => Nat.ble (k + 1) n) && (obs ++ ns).all (fun o => o.js.all fun k => Nat.ble (k + 1) n)
def FnP (P : Program) (fid : FuncId) (obs : List Ob) (args : List AV) (obs' ns : List Ob) (r : AV) : Prop :=
 inN (obs.length + ns.length) obs' ns r = true ∧ obs'.length = obs.length ∧ ∀ η ι w, Mem η ι w obs → Calls P fid (args.map (·.c η)).toArray w fun e w' => ∃ η' ι', e = .returned (r.c η') ∧ (∀ j, j < obs.length → η' j = η j) ∧ Mem η' ι' w' (obs' ++ ns) ∧
  Keep (Muts η obs) w w' ∧ (∀ g, ι g → ι' g) ∧ (∀ g, ι' g → ι g ∨ Muts η obs g ∨ w.heap.size ≤ g) ∧ ∀ g, Muts η' (obs' ++ ns) g → Muts η obs g ∨ w.heap.size ≤ g
theorem setL_spec : ∀ (js : List Nat) (os : List Ob) (x : List Bx), nodupN js = true → os.length = js.length → (setL x js os).length = x.length ∧ (∀ k, k ∉ js → (setL x js os)[k]? = x[k]?) ∧
  ∀ (i j : Nat) (o : Ob), js[i]? = some j → os[i]? = some o → ∀ B, x[j]? = some B → (setL x js os)[j]? = some { B with o := o }
 | [], os, x, _, _ => ⟨by cases os <;> rfl, fun k _ => by cases os <;> rfl, fun i j o h => by cases h⟩
 | j :: js, [], x, _, h => by cases h
 | j :: js, o :: os, x, hn, hl => by
  simp only [nodupN, Bool.and_eq_true, List.all_eq_true, Bool.not_eq_true'] at hn
  have hnj : j ∉ js := fun h => by have := hn.1 j h; simp at this
  obtain ⟨h1, h2, h3⟩ := setL_spec js os (set1 x j o) hn.2 (by simpa using hl)
  have hlen : (set1 x j o).length = x.length := by unfold set1; split <;> simp
  have hoth : ∀ k, k ≠ j → (set1 x j o)[k]? = x[k]? := fun k hk => by
   unfold set1
   split
   ·rw [List.getElem?_set_ne (Ne.symm hk)]
   ·rfl
  simp only [setL]
  refine ⟨h1.trans hlen, fun k hk => ?_, fun i j' o' hi ho B hB => ?_⟩
  ·simp only [List.mem_cons, not_or] at hk
   rw [h2 k hk.2, hoth k hk.1]
  ·cases i with
   | zero =>
    simp only [List.getElem?_cons_zero, Option.some.injEq] at hi ho
    subst hi ho
    rw [h2 j hnj]
    have := (List.getElem?_eq_some_iff.1 hB).1
    unfold set1
    rw [hB]
    simp only
    rw [List.getElem?_set_self this]
   | succ i =>
    simp only [List.getElem?_cons_succ] at hi ho
    have hne : j' ≠ j := fun e => hnj (by rw [← e]; exact List.mem_of_getElem? hi)
    exact h3 i j' o' hi ho B (by rw [hoth j' hne]; exact hB)
theorem chg_mem {α : Type} {k : List Nat} : ∀ {l : List α} {i : Nat} {x : α}, x ∈ chg k i l → x ∈ l
 | [], _, _, h => h
 | y :: l, i, x, h => by
  unfold chg at h
  rw [cond_eq_ite] at h
  split at h
  ·exact List.mem_cons_of_mem _ (chg_mem h)
  ·cases h with
   | head => exact List.mem_cons_self ..
   | tail _ h => exact List.mem_cons_of_mem _ (chg_mem h)
theorem chg_len {α β : Type} {k : List Nat} : ∀ {l : List α} {l' : List β} {i : Nat}, l.length = l'.length → (chg k i l).length = (chg k i l').length
 | [], [], _, _ => rfl
 | [], _ :: _, _, h => by cases h
 | _ :: _, [], _, h => by cases h
 | x :: l, y :: l', i, h => by
  unfold chg
  rw [cond_eq_ite, cond_eq_ite]
  have := chg_len (k := k) (i := i + 1) (l := l) (l' := l') (by simpa using h)
  split
  ·exact this
  ·simp [this]
theorem chg_get {α β : Type} {k : List Nat} : ∀ {l : List α} {l' : List β} {i n : Nat} {x : α} {y : β}, l[n]? = some x → l'[n]? = some y → k.any (Nat.beq (i + n)) = false → ∃ p : Nat, (chg k i l)[p]? = some x ∧ (chg k i l')[p]? = some y
 | [], _, _, _, _, _, h, _, _ => by cases h
 | _ :: _, [], _, _, _, _, _, h, _ => by cases h
 | u :: l, v :: l', i, 0, x, y, h, h', hk => by
  rw [Nat.add_zero] at hk
  simp only [List.getElem?_cons_zero, Option.some.injEq] at h h'
  subst h h'
  exact ⟨0, by unfold chg; rw [hk]; rfl, by unfold chg; rw [hk]; rfl⟩
 | u :: l, v :: l', i, n + 1, x, y, h, h', hk => by
  obtain ⟨p, h1, h2⟩ := chg_get (k := k) (i := i + 1) (l := l) (l' := l') (n := n) (by simpa using h) (by simpa using h') (by rw [show i + 1 + n = i + (n + 1) by omega]; exact hk)
  unfold chg
  cases hc : k.any (Nat.beq i) with
  | true => exact ⟨p, h1, h2⟩
  | false => exact ⟨p + 1, by simpa using h1, by simpa using h2⟩
theorem chg_nodup {k : List Nat} : ∀ {l : List Nat} {i : Nat}, nodupN l = true → nodupN (chg k i l) = true
 | [], _, h => h
 | x :: l, i, h => by
  simp only [nodupN, Bool.and_eq_true] at h
  have ih := chg_nodup (k := k) (i := i + 1) h.2
  unfold chg
  rw [cond_eq_ite]
  split
  ·exact ih
  ·simp only [nodupN, Bool.and_eq_true, List.all_eq_true] at h ⊢
   exact ⟨fun y hy => h.1 y (chg_mem hy), ih⟩
theorem chg_not {k : List Nat} : ∀ {l : List Nat} {i n j : Nat}, nodupN l = true → l[n]? = some j → k.any (Nat.beq (i + n)) = true → j ∉ chg k i l
 | [], _, _, _, _, h, _ => by cases h
 | x :: l, i, n, j, hn, h, hk => by
  simp only [nodupN, Bool.and_eq_true, List.all_eq_true, Bool.not_eq_true'] at hn
  have hnx : x ∉ l := fun h => by have := hn.1 x h; simp at this
  cases n with
  | zero =>
   simp only [List.getElem?_cons_zero, Option.some.injEq] at h
   subst h
   rw [Nat.add_zero] at hk
   unfold chg
   rw [hk]
   exact fun h => hnx (chg_mem h)
  | succ n =>
   have hj : l[n]? = some j := by simpa using h
   have ih := chg_not (k := k) (i := i + 1) hn.2 hj (by rw [show i + 1 + n = i + (n + 1) by omega]; exact hk)
   unfold chg
   rw [cond_eq_ite]
   split
   ·exact ih
   ·intro h'
    rcases List.mem_cons.1 h' with e | h'
    ·subst e; exact hnx (List.mem_of_getElem? hj)
    ·exact ih h'
theorem all_spec {s : St} : ∀ {js : List Nat} {os : List Ob}, s.all js = some os → os.length = js.length ∧ ∀ (i j : Nat), js[i]? = some j → ∃ o, os[i]? = some o ∧ s.ob j = some o
 | [], os, h => by cases h; exact ⟨rfl, fun i j h => by cases h⟩
 | j :: js, os, h => by
  unfold St.all at h
  split at h
  ·rename_i o ho
   split at h
   ·rename_i r hr
    cases h
    obtain ⟨h1, h2⟩ := all_spec hr
    refine ⟨by simp [h1], fun i j' hi => ?_⟩
    cases i with
    | zero => simp only [List.getElem?_cons_zero, Option.some.injEq] at hi; subst hi; exact ⟨o, rfl, ho⟩
    | succ i => exact h2 i j' (by simpa using hi)
   ·cases h
  ·cases h
theorem ob_lt {s : St} {j : Nat} {o : Ob} (h : s.ob j = some o) : ∃ B, s.x[j]? = some B ∧ B.o = o ∧ j < s.x.length := by
 unfold St.ob at h
 split at h
 ·rename_i B hB; cases h; exact ⟨B, hB, rfl, (List.getElem?_eq_some_iff.1 hB).1⟩
 ·cases h
theorem nodupN_inj : ∀ {js : List Nat}, nodupN js = true → ∀ (i i' j : Nat), js[i]? = some j → js[i']? = some j → i = i'
 | [], _, i, i', j, h, _ => by cases h
 | x :: js, hn, i, i', j, h, h' => by
  simp only [nodupN, Bool.and_eq_true, List.all_eq_true, Bool.not_eq_true'] at hn
  have hnx : x ∉ js := fun h => by have := hn.1 x h; simp at this
  cases i with
  | zero =>
   simp only [List.getElem?_cons_zero, Option.some.injEq] at h
   subst h
   cases i' with
   | zero => rfl
   | succ i' => exact absurd (List.mem_of_getElem? (by simpa using h')) hnx
  | succ i =>
   cases i' with
   | zero =>
    simp only [List.getElem?_cons_zero, Option.some.injEq] at h'
    subst h'
    exact absurd (List.mem_of_getElem? (by simpa using h)) hnx
   | succ i' => rw [nodupN_inj hn.2 i i' j (by simpa using h) (by simpa using h')]
theorem callF_run {f : FuncId} (h : bodied P f = true) (args : Array Value) (w : World) : (callFunc f args).run P w = .ok (.enter f args) w := by
 unfold bodied at h
 split at h
 ·rename_i fn hf
  simp only [Bool.and_eq_true, Bool.not_eq_true'] at h
  obtain ⟨c, hb⟩ : ∃ c, fn.body = some c := by cases hb : fn.body with
   | none => rw [hb] at h; cases h.1
   | some c => exact ⟨c, rfl⟩
  have h2 : ¬ fn.name = "runtime.NumGoroutine" := by simpa using h.2
  simp [callFunc, Sem.run_bind, program, Sem.run, hf, hb, h2]
 ·cases h
section
variable {s : St} {o : Oper} {η : Nat → Value} {ι : Nat → Prop} {a : Act} {w : World} {Q : Exit → Act → World → Prop}
theorem callee_run {c : Call} {f : FuncId} {avs : List AV} (hop : o.op = .call c) (h : callee s c = some (f, avs)) (hb : bodied P f = true) (hl : Sees s η a o.op.operands.toList) : (execOp a.eval o).run P w = .ok (.enter f (avs.map (·.c η)).toArray) w := by
 unfold callee at h
 split at h
 ·rename_i fo hc
  have hargs : c.args.map a.eval = ((c.args.toList.map s.ov).map (·.c η)).toArray := by
   apply Array.ext'
   simp only [Array.toList_map, List.map_map]
   exact List.map_congr_left fun x hx => sees_ov hl (by rw [hop]; simp [Op.operands, Call.operands, hc]; exact .inr (by simpa using hx))
  have hf := sees_ov hl (x := fo) (by rw [hop]; simp [Op.operands, Call.operands, hc])
  split at h
  ·rename_i k fs cs hv
   cases h
   rw [hv] at hf
   unfold execOp
   simp only [hop, resolve, hc, hf, AV.c, AC.c, Deferred.ofValue, Sem.run_bind, Sem.run_pure, Result.andThen_ok, invoke, hargs]
   rw [callF_run hb]
   congr 2
   apply Array.ext'
   simp [AV.c, AC.c, Function.comp_def]
  ·rename_i k fs cs hv
   cases h
   rw [hv] at hf
   unfold execOp
   simp only [hop, resolve, hc, hf, AV.c, Deferred.ofValue, Sem.run_bind, Sem.run_pure, Result.andThen_ok, invoke, hargs]
   rw [callF_run hb]
   congr 2
   apply Array.ext'
   simp [AV.c, Function.comp_def]
  ·cases h
 ·cases h
theorem inN_r {n : Nat} {obs ns : List Ob} {r : AV} (h : inN n obs ns r = true) : (∀ k ∈ r.js, k < n) ∧ ∀ ob ∈ obs ++ ns, ∀ k ∈ ob.js, k < n := by
 unfold inN at h
 simp only [Bool.and_eq_true, List.all_eq_true] at h
 exact ⟨fun k hk => Nat.le_of_ble_eq_true (h.1 k hk), fun ob ho k hk => Nat.le_of_ble_eq_true (h.2 ob ho k hk)⟩
theorem Tr.same {ι ι' : Nat → Prop} {η η' : Nat → Value} {s s' : St} {ws ws' : List Nat} {w w' : World} (h : ∀ j, j ∈ ws ↔ j ∈ ws') (ht : Tr ι ι' η η' s s' ws w w') : Tr ι ι' η η' s s' ws' w w' := by
 have hm : ∀ g, g ∈ wm η s ws ↔ g ∈ wm η s ws' := fun g => by
  rw [mem_wm, mem_wm]
  exact ⟨fun ⟨j, hj, x⟩ => ⟨j, (h j).1 hj, x⟩, fun ⟨j, hj, x⟩ => ⟨j, (h j).2 hj, x⟩⟩
 refine ⟨⟨ht.stay.os, ht.stay.tape, ht.stay.output, ht.stay.size, fun b hb => ht.stay.same b fun h' => hb ((hm b).1 h')⟩, ht.il, fun g hg => ?_, ht.ilt, ht.old, fun j hj => ht.ok j ((h j).2 hj), fun j hj ob g ho hmb => ?_⟩
 ·rcases ht.inw g hg with h | h | h
  ·exact .inl h
  ·exact .inr (.inl ((hm g).1 h))
  ·exact .inr (.inr h)
 ·obtain ⟨h1, h2, h3⟩ := ht.mbs j ((h j).2 hj) ob g ho hmb
  exact ⟨h1.imp (hm g).1 id, h2, fun j' hj' => h3 j' ((h j').2 hj')⟩
theorem Owes.same {s s' : St} {o : Oper} {η : Nat → Value} {ι : Nat → Prop} {a : Act} {w : World} {Q : Exit → Act → World → Prop} {ws ws' : List Nat} (h : ∀ j, j ∈ ws ↔ j ∈ ws') (ho : Owes P s o η ι a w s' ws Q) : Owes P s o η ι a w s' ws' Q :=
 fun K hK => ho K fun η' ι' v w' hv ht => hK η' ι' v w' hv (ht.same h)
theorem beh_f {it : List It} {d t : Nat} {fid : FuncId} {js ks : List Nat} {obs : List Ob} {args : List AV} {obs' ns : List Ob} {r : AV} {R : R1} (hd : o.dst = some d) (hh : beh P N s o d (.f t fid js ks obs args obs' ns r) it = some R)
  (hi' : FnP P fid obs args obs' ns r) (hit : ∀ i ∈ it, ItOk P W D (FnP P) i) (hq : Eqs R.q) (hl : Sees s η a o.op.operands.toList) (hL : Loc s η ι w (R.r ++ R.w)) : Owes P s o η ι a w R.s (R.r ++ R.w) Q := by
 simp only [beh] at hh
 split at hh
 ·rename_i c hop
  split at hh
  ·rename_i f' avs hcal
   split at hh
   ·rename_i os hos
    cases hb : (nodupN js && (Nat.beq obs.length js.length && (Nat.beq obs'.length js.length && bodied P f'))) with
    | false => rw [hb] at hh; cases hh
    | true =>
     rw [hb] at hh; cases hh
     simp only [Bool.and_eq_true] at hb
     obtain ⟨b1, b2, b3, b4⟩ := hb
     have b2 := Nat.eq_of_beq_eq_true b2
     have b3 := Nat.eq_of_beq_eq_true b3
     obtain ⟨e1, e2, e3, e4⟩ := fin_v hq hit
     have q1 := e4 _ (List.mem_cons_self ..)
     have qk : ∀ i ∈ ks, obs.getD i .dead = obs'.getD i .dead := fun i hi => by
      have := e4 _ (List.mem_cons_of_mem _ (List.mem_map_of_mem (f := fun i => (Cl.o (obs.getD i .dead), Cl.o (obs'.getD i .dead))) hi))
      simpa using this
     simp only [Cl.f.injEq] at q1
     obtain ⟨q1, q2, q3⟩ := q1
     subst q1
     obtain ⟨hin, hlen, hfn⟩ := hi'
     obtain ⟨hr1, hr2⟩ := inN_r hin
     rw [e1, e2, e3]
     rw [e2, e3] at hL
     have hws : ∀ j, j ∈ js ++ (chg ks 0 js ++ rgF s.x.length ns.length) ↔ j ∈ js ++ rgF s.x.length ns.length := fun j => by
      simp only [List.mem_append]
      constructor
      ·rintro (h | h | h)
       ·exact .inl h
       ·exact .inl (chg_mem h)
       ·exact .inr h
      ·rintro (h | h)
       ·exact .inl h
       ·exact .inr (.inr h)
     refine Owes.same (fun j => (hws j).symm) ?_
     -- the callee's view
     let m := s.x.length
     let σ := sg js m
     obtain ⟨a1, a2⟩ := all_spec hos
     have hσ : ∀ i j, js[i]? = some j → σ i = j := fun i j h => by simp only [σ, sg, h]
     have hσn : ∀ i, js.length ≤ i → σ i = m + (i - js.length) := fun i h => by simp only [σ, sg, List.getElem?_eq_none h]
     have hjs : ∀ (i j : Nat), js[i]? = some j → ∃ ob : Ob, obs[i]? = some ob ∧ s.ob j = some (ob.rn σ) ∧ j < m := fun i j h => by
      obtain ⟨x, h1, h2⟩ := a2 i j h
      rw [q2, List.getElem?_map] at h1
      cases ho : obs[i]? with
      | none => rw [ho] at h1; cases h1
      | some ob =>
       rw [ho] at h1
       simp only [Option.map_some, Option.some.injEq] at h1
       subst h1
       exact ⟨ob, rfl, h2, (ob_lt h2).choose_spec.2.2⟩
     have hjo : ∀ (i : Nat) (ob : Ob), obs[i]? = some ob → ∃ j : Nat, js[i]? = some j ∧ s.ob j = some (ob.rn σ) ∧ j < m := fun i ob h => by
      have hi := (List.getElem?_eq_some_iff.1 h).1
      have hj : js[i]? = some js[i] := List.getElem?_eq_getElem (by omega)
      obtain ⟨ob', h1, h2, h3⟩ := hjs i _ hj
      rw [h] at h1; cases h1
      exact ⟨_, hj, h2, h3⟩
     have hmem : Mem (fun i => η (σ i)) ι w obs := by
      refine ⟨fun i ob h => ?_, fun i i' ob ob' g h h' hm hm' => ?_, fun i ob g h hm => ?_, hL.il⟩
      ·obtain ⟨j, h1, h2, h3⟩ := hjo i ob h
       rw [hσ i j h1]
       exact ook_rn.1 (hL.ok j (List.mem_append_left _ (List.mem_of_getElem? h1)) _ h2)
      ·obtain ⟨j, h1, h2, h3⟩ := hjo i ob h
       obtain ⟨j', h1', h2', h3'⟩ := hjo i' ob' h'
       rw [hσ i j h1] at hm
       rw [hσ i' j' h1'] at hm'
       have := (hL.mi j (List.mem_append_left _ (List.mem_of_getElem? h1)) _ g h2 (by rw [mb_rn]; exact hm)).2.2 j' (List.mem_append_left _ (List.mem_of_getElem? h1')) _ h2' (by rw [mb_rn]; exact hm')
       subst this
       exact nodupN_inj b1 i' i j' h1' h1
      ·obtain ⟨j, h1, h2, h3⟩ := hjo i ob h
       rw [hσ i j h1] at hm
       exact (hL.mi j (List.mem_append_left _ (List.mem_of_getElem? h1)) _ g h2 (by rw [mb_rn]; exact hm)).1
     have hwm : ∀ g, g ∈ wm η s (js ++ rgF s.x.length ns.length) ↔ Muts (fun i => η (σ i)) obs g := fun g => by
      rw [mem_wm]
      constructor
      ·rintro ⟨j, hj, ob, ho, hm⟩
       rcases List.mem_append.1 hj with hj | hj
       ·obtain ⟨i, hi⟩ := List.getElem?_of_mem hj
        obtain ⟨ob', h1, h2, h3⟩ := hjs i j hi
        rw [ho] at h2; cases h2
        exact ⟨i, ob', h1, by rw [mb_rn] at hm; simp only [hσ i j hi]; exact hm⟩
       ·have := (ob_lt ho).choose_spec.2.2
        have := (mem_rgF.1 hj).1
        omega
      ·rintro ⟨i, ob, h, hm⟩
       obtain ⟨j, h1, h2, h3⟩ := hjo i ob h
       simp only [hσ i j h1] at hm
       exact ⟨j, List.mem_append_left _ (List.mem_of_getElem? h1), _, h2, by rw [mb_rn]; exact hm⟩
     have hrun := callee_run (P := P) (w := w) hop hcal b4 hl
     have hargs : (avs.map (·.c η)) = args.map (·.c fun i => η (σ i)) := by
      rw [q3, List.map_map]; exact List.map_congr_left fun x _ => av_rn σ η x
     rw [hargs] at hrun
     intro K hK
     refine wp_enter (R := fun v w' => ∃ η' ι', v = r.c η' ∧ (∀ j, j < obs.length → η' j = η (σ j)) ∧ Mem η' ι' w' (obs' ++ ns) ∧ Keep (Muts (fun i => η (σ i)) obs) w w' ∧ (∀ g, ι g → ι' g) ∧ (∀ g, ι' g → ι g ∨ Muts (fun i => η (σ i)) obs g ∨ w.heap.size ≤ g) ∧ ∀ g, Muts η' (obs' ++ ns) g → Muts (fun i => η (σ i)) obs g ∨ w.heap.size ≤ g)
      hrun ((hfn _ ι w hmem).mono fun e w' ⟨η', ι', h1, h2⟩ => ⟨_, h1, η', ι', rfl, h2⟩) ?_
     rintro v w' ⟨η', ι', rfl, k1, k2, k3, k4, k5, k6⟩
     let η2 : Nat → Value := fun k => if m ≤ k ∧ k < m + ns.length then η' (js.length + (k - m)) else η k
     have hη2 : ∀ i, i < obs.length + ns.length → η2 (σ i) = η' i := fun i hi => by
      rcases Nat.lt_or_ge i js.length with h | h
      ·have hj : js[i]? = some js[i] := List.getElem?_eq_getElem h
       obtain ⟨ob, h1, h2, h3⟩ := hjs i _ hj
       have hnot : ¬ (m ≤ js[i] ∧ js[i] < m + ns.length) := by omega
       rw [hσ i _ hj]
       simp only [η2, hnot, if_false]
       rw [k1 i (by omega), hσ i _ hj]
      ·rw [hσn i h]
       have hyes : m ≤ m + (i - js.length) ∧ m + (i - js.length) < m + ns.length := by omega
       simp only [η2, hyes, and_self, if_true]
       congr 1; omega
     -- the objects behind the call
     obtain ⟨l1, l2, l3⟩ := setL_spec (chg ks 0 js) (chg ks 0 (obs'.map (·.rn σ))) s.x (chg_nodup b1) (chg_len (by simp [b3]))
     have hnew : ∀ (i : Nat) (ob : Ob), (obs' ++ ns)[i]? = some ob → ({ s with x := setL s.x (chg ks 0 js) (chg ks 0 (obs'.map (·.rn σ))) ++ ns.map (fun o => ⟨none, o.rn σ⟩) } : St).ob (σ i) = some (ob.rn σ) := fun i ob h => by
      rcases Nat.lt_or_ge i js.length with hi | hi
      ·have hj : js[i]? = some js[i] := List.getElem?_eq_getElem hi
       obtain ⟨ob0, h1, h2, h3⟩ := hjs i _ hj
       obtain ⟨B, hB, _, hlt⟩ := ob_lt h2
       rw [List.getElem?_append_left (by omega)] at h
       have ho : (obs'.map (·.rn σ))[i]? = some (ob.rn σ) := by rw [List.getElem?_map, h]; rfl
       rw [hσ i _ hj]
       unfold St.ob
       simp only
       rw [List.getElem?_append_left (by rw [l1]; exact hlt)]
       cases hk : ks.any (Nat.beq i) with
       | false =>
        obtain ⟨p, p1, p2⟩ := chg_get (k := ks) (i := 0) hj ho (by rw [Nat.zero_add]; exact hk)
        rw [l3 p _ _ p1 p2 B hB]
       | true =>
        rw [l2 _ (chg_not (i := 0) b1 hj (by rw [Nat.zero_add]; exact hk)), hB]
        have hik : i ∈ ks := by
         obtain ⟨i', hi', he⟩ := List.any_eq_true.1 hk
         have := Nat.eq_of_beq_eq_true he
         subst this; exact hi'
        have := qk i hik
        rw [List.getD_eq_getElem?_getD, List.getD_eq_getElem?_getD, h1, h] at this
        simp only [Option.getD_some] at this
        have h2' := ob_of hB
        rw [h2'] at h2
        simp only [Option.some.injEq] at h2
        simp only
        rw [h2, this]
      ·rw [List.getElem?_append_right (by omega)] at h
       rw [hσn i hi]
       unfold St.ob
       simp only
       rw [List.getElem?_append_right (by rw [l1]; omega), l1, show m + (i - js.length) - s.x.length = i - obs'.length by omega, List.getElem?_map, h]
       rfl
     have hback : ∀ j, j ∈ js ++ rgF s.x.length ns.length → ∃ i, σ i = j ∧ i < obs.length + ns.length ∧ ∃ ob, (obs' ++ ns)[i]? = some ob := fun j hj => by
      rcases List.mem_append.1 hj with hj | hj
      ·obtain ⟨i, hi⟩ := List.getElem?_of_mem hj
       have := (List.getElem?_eq_some_iff.1 hi).1
       exact ⟨i, hσ i j hi, by omega, _, List.getElem?_eq_getElem (by rw [List.length_append]; omega)⟩
      ·obtain ⟨h1, h2⟩ := mem_rgF.1 hj
       exact ⟨js.length + (j - m), by rw [hσn _ (by omega)]; omega, by omega, _, List.getElem?_eq_getElem (by rw [List.length_append]; omega)⟩
     refine hK η2 ι' _ w' (fun d' e => ?_) ⟨⟨k3.os, k3.tape, k3.output, k3.size, fun g hg hlt => k3.same g (fun h => hg ((hwm g).2 h)) hlt⟩, k4, fun g hg => ?_, k2.il, fun j hj => ?_, fun j hj ob ho => ?_, fun j hj ob g ho hm => ?_⟩
     ·rw [hd] at e; cases e
      rw [put_at, if_pos rfl, av_rn]
      exact (AV.c_congr fun k hk => hη2 k (hr1 k hk)).symm
     ·rcases k5 g hg with h | h | h
      ·exact .inl h
      ·exact .inr (.inl ((hwm g).2 h))
      ·exact .inr (.inr h)
     ·have : ¬ (m ≤ j ∧ j < m + ns.length) := by
       rcases hj with h | h
       ·omega
       ·have l1' : (setL s.x (chg ks 0 js) (chg ks 0 (obs'.map (·.rn (sg js s.x.length))))).length = s.x.length := l1
        have hm : m = s.x.length := rfl
        simp only [St.put, List.length_append, l1', List.length_map] at h
        omega
      simp only [η2, this, if_false]
     ·obtain ⟨i, h1, h2, ob', h3⟩ := hback j hj
      subst h1
      have := hnew i ob' h3
      rw [put_ob, this] at ho
      cases ho
      refine ook_rn.2 ?_
      rw [hη2 i h2]
      refine (ook_congr fun k hk => ?_).1 (k2.ok i ob' h3)
      exact (hη2 k (hr2 ob' (List.mem_of_getElem? h3) k hk)).symm
     ·obtain ⟨i, h1, h2, ob', h3⟩ := hback j hj
      subst h1
      have := hnew i ob' h3
      rw [put_ob, this] at ho
      cases ho
      rw [mb_rn, hη2 i h2] at hm
      refine ⟨?_, k2.ni i ob' g h3 hm, fun j' hj' ob'' ho' hm' => ?_⟩
      ·rcases k6 g ⟨i, ob', h3, hm⟩ with h | h
       ·exact .inl ((hwm g).2 h)
       ·exact .inr h
      ·obtain ⟨i', h1', h2', ob3, h3'⟩ := hback j' hj'
       subst h1'
       have := hnew i' ob3 h3'
       rw [put_ob, this] at ho'
       cases ho'
       rw [mb_rn, hη2 i' h2'] at hm'
       rw [k2.ne i i' ob' ob3 g h3 h3' hm hm']
   ·cases hh
  ·cases hh
 ·cases hh
end
end
end Go.Eo
namespace Go.Eo
open Go Go.RowKit Go.Rg
section
variable {P : Program} {N : Nat}
def Opn (s : St) (o : Oper) (k : Nat) : Prop := ∃ t, .tmp t ∈ o.op.operands.toList ∧ k ∈ (s.at t).js
theorem opn_ov {s : St} {o : Oper} {x : Operand} (hx : x ∈ o.op.operands.toList) {k : Nat} (h : k ∈ (s.ov x).js) : Opn s o k := by
 obtain ⟨t, rfl, h2⟩ := ov_js h
 exact ⟨t, hx, h2⟩
theorem gen_opn {s : St} {o : Oper} {v : AV} (h : gen P s o = some v) : ∀ k ∈ v.js, Opn s o k := by
 unfold gen at h
 split at h
 ·split at h
  ·cases h; intro k hk; simp [AV.js, AC.j] at hk
  ·cases h
 ·cases h
theorem ldv_js {t : TypeId} {cs : List AC} {o : Nat} {v : AV} (h : ldv P t cs o = some v) : ∀ k ∈ v.js, k ∈ cs.filterMap (·.j) := by
 unfold ldv at h
 split at h
 ·cases h
 ·split at h
  ·split at h
   ·cases h
   ·rename_i i hi
    cases hz : Nat.ble (o + i.size) cs.length with
    | false => rw [hz] at h; cases h
    | true =>
     rw [hz] at h; cases h
     intro k hk
     obtain ⟨x, hx, hj⟩ := List.mem_filterMap.1 (mkG_js _ k hk)
     exact List.mem_filterMap.2 ⟨x, List.mem_of_mem_drop (List.mem_of_mem_take hx), hj⟩
  ·split at h
   ·rename_i x hx
    cases h
    intro k hk
    exact List.mem_filterMap.2 ⟨x, List.mem_of_getElem? hx, by rw [unF_js] at hk; simpa using hk⟩
   ·cases h
theorem cellsL_js {s : St} : ∀ {l : List (Nat × Operand)} {ps : List (Nat × List AC)}, cellsL s l = some ps → ∀ p ∈ ps, ∀ k ∈ p.2.filterMap (·.j), ∃ q ∈ l, k ∈ (s.ov q.2).js
 | [], ps, h => by cases h; exact fun p hp => by cases hp
 | (i, x) :: l, ps, h => by
  unfold cellsL at h
  split at h
  ·rename_i c hc
   split at h
   ·rename_i r hr
    cases h
    intro p hp k hk
    cases hp with
    | head => exact ⟨_, List.mem_cons_self .., cells_js hc hk⟩
    | tail _ hp =>
     obtain ⟨q, hq, hk'⟩ := cellsL_js hr p hp k hk
     exact ⟨q, List.mem_cons_of_mem _ hq, hk'⟩
   ·cases h
  ·cases h
theorem bldA_js {s : St} {t : TypeId} {ps : Array (Nat × Operand)} {v : AV} (h : bldA P s t ps = some v) : ∀ k ∈ v.js, ∃ q ∈ ps.toList, k ∈ (s.ov q.2).js := by
 unfold bldA at h
 split at h
 ·split at h
  ·split at h
   ·split at h
    ·rename_i pc hpc
     split at h
     ·rename_i c hf
      cases h
      intro k hk
      obtain ⟨x, hx, hj⟩ := List.mem_filterMap.1 (mkG_js _ k hk)
      rcases fillA_mem _ _ _ hf x hx with h3 | ⟨p, h3, h4⟩
      ·obtain ⟨u, _, rfl⟩ := List.mem_map.1 h3; cases hj
      ·exact cellsL_js hpc p h3 k (List.mem_filterMap.2 ⟨x, h4, hj⟩)
     ·cases h
    ·cases h
   ·cases h
  ·cases h
 ·cases h
theorem acL_js : ∀ {l : List AV} {r : List AC}, acL l = some r → ∀ k ∈ r.filterMap (·.j), ∃ v ∈ l, k ∈ v.js := fun h => (acL_c (η := fun _ => undef) h).2
theorem vop_opn {s : St} {o : Oper} {v : AV} {r : List Nat} (h : vop P s o = some (v, r)) : (∀ k ∈ v.js, Opn s o k) ∧ ∀ j ∈ r, ∃ ob, s.ob j = some ob := by
 have gen : ∀ {v : AV}, (match gen P s o with
  | some v => some (v, ([] : List Nat))
  | none => none) = some (v, r) → (∀ k ∈ v.js, Opn s o k) ∧ ∀ j ∈ r, ∃ ob, s.ob j = some ob := by
  intro v h
  split at h
  ·rename_i u hu; cases h; exact ⟨gen_opn hu, fun j hj => by cases hj⟩
  ·cases h
 have ops : ∀ {x : Operand} {v : AV}, x ∈ o.op.operands.toList → (∀ k ∈ v.js, k ∈ (s.ov x).js) → r = [] → (∀ k ∈ v.js, Opn s o k) ∧ ∀ j ∈ r, ∃ ob, s.ob j = some ob := fun hx hv hr => ⟨fun k hk => opn_ov hx (hv k hk), fun j hj => by rw [hr] at hj; cases hj⟩
 have nov : ∀ {x : Value}, (∀ j ∈ r, ∃ ob, s.ob j = some ob) → (∀ k ∈ (AV.a (.v x)).js, Opn s o k) ∧ ∀ j ∈ r, ∃ ob, s.ob j = some ob := fun h => ⟨fun k hk => by simp [AV.js, AC.j] at hk, h⟩
 unfold vop at h
 simp only at h
 split at h
 ·rename_i x hx; cases h; exact ops (x := x) (by rw [hx]; simp [Op.operands]) (fun k hk => hk) rfl
 ·rename_i x hx; cases h; exact ops (x := x) (by rw [hx]; simp [Op.operands]) (fun k hk => hk) rfl
 ·rename_i x hx
  split at h
  ·rename_i hv; cases h; exact ops (x := x) (by rw [hx]; simp [Op.operands]) (fun k hk => by rw [hv]; exact hk) rfl
  ·rename_i hv; cases h; exact ops (x := x) (by rw [hx]; simp [Op.operands]) (fun k hk => by rw [hv]; exact hk) rfl
  ·exact gen h
 ·rename_i t x f hx
  split at h
  ·rename_i hv
   split at h
   ·cases h; exact ops (x := x) (by rw [hx]; simp [Op.operands]) (fun k hk => by rw [hv]; exact hk) rfl
   ·cases h
  ·rename_i hv
   split at h
   ·cases h; exact ops (x := x) (by rw [hx]; simp [Op.operands]) (fun k hk => by rw [hv]; exact hk) rfl
   ·cases h
  ·exact gen h
 ·rename_i t x i hx
  split at h
  ·rename_i hv
   split at h
   ·split at h
    ·cases h; exact ops (x := x) (by rw [hx]; simp [Op.operands]) (fun k hk => by rw [hv]; exact hk) rfl
    ·cases h
   ·cases h
  ·rename_i hv
   split at h
   ·split at h
    ·cases h; exact ops (x := x) (by rw [hx]; simp [Op.operands]) (fun k hk => by rw [hv]; exact hk) rfl
    ·cases h
   ·cases h
  ·rename_i hv
   split at h
   ·split at h
    ·cases h; exact ops (x := x) (by rw [hx]; simp [Op.operands]) (fun k hk => by rw [hv]; exact hk) rfl
    ·cases h
   ·cases h
  ·exact gen h
 ·rename_i t x lo hi mx hx
  split at h
  ·rename_i hv
   split at h
   ·cases h; exact ops (x := x) (by rw [hx]; simp [Op.operands]) (fun k hk => by rw [hv]; exact hk) rfl
   ·cases h
  ·exact gen h
 ·rename_i t x hx
  split at h
  ·rename_i k off n c hv
   split at h
   ·rename_i j hj
    cases hn : Nat.ble j n with
    | false => rw [hn] at h; cases h
    | true => rw [hn] at h; cases h; exact ops (x := x) (by rw [hx]; simp [Op.operands]) (fun k hk => by rw [hv]; exact hk) rfl
   ·cases h
  ·exact gen h
 ·rename_i t x f hx
  split at h
  ·rename_i l hv
   split at h
   ·rename_i v' hf
    cases h
    refine ops (x := x) (by rw [hx]; simp [Op.operands]) (fun k hk => ?_) rfl
    rw [hv]
    unfold fldc at hf
    split at hf
    ·split at hf
     ·exact ldv_js hf k hk
     ·cases hf
    ·cases hf
   ·cases h
  ·exact gen h
 ·rename_i x i hx
  split at h
  ·rename_i l hv
   split at h
   ·rename_i g hg
    cases h
    refine ops (x := x) (by rw [hx]; simp [Op.operands]) (fun k hk => ?_) rfl
    rw [hv]
    refine List.mem_flatMap.2 ⟨g, List.mem_of_getElem? hg, ?_⟩
    cases g <;> exact hk
   ·cases h
  ·exact gen h
 ·rename_i t ps hx
  split at h
  ·exact gen h
  ·split at h
   ·rename_i v' hb
    cases h
    refine ⟨fun k hk => ?_, fun j hj => by cases hj⟩
    obtain ⟨q, hq, hk'⟩ := bldA_js hb k hk
    exact opn_ov (x := q.2) (by rw [hx]; simp only [Op.operands]; exact List.mem_map.2 ⟨q, hq, rfl⟩) hk'
   ·cases h
 ·rename_i fn fs cs hx
  split at h
  ·exact gen h
  ·split at h
   ·rename_i xs hxs
    split at h
    ·rename_i ys hys
     cases h
     refine ⟨fun k hk => ?_, fun j hj => by cases hj⟩
     rcases List.mem_append.1 hk with hk | hk
     ·obtain ⟨v, hv, hk⟩ := acL_js hxs k hk
      obtain ⟨x, hx', rfl⟩ := List.mem_map.1 hv
      exact opn_ov (x := x) (by rw [hx]; simp [Op.operands]; exact .inl (by simpa using hx')) hk
     ·obtain ⟨v, hv, hk⟩ := acL_js hys k hk
      obtain ⟨x, hx', rfl⟩ := List.mem_map.1 hv
      exact opn_ov (x := x) (by rw [hx]; simp [Op.operands]; exact .inr (by simpa using hx')) hk
    ·cases h
   ·cases h
 ·rename_i args ats hx
  split at h
  ·split at h
   ·split at h
    ·rename_i j hv
     split at h
     ·rename_i n hn
      cases h
      refine nov fun j' hj' => ?_
      simp only [List.mem_singleton] at hj'
      subst hj'
      obtain ⟨z, es, h1, h2⟩ := ln_rows hn
      rcases rows_ob h1 with ⟨T, h⟩ | h <;> exact ⟨_, h⟩
     ·cases h
    ·cases h; exact nov fun j hj => by cases hj
    ·exact gen h
   ·exact gen h
  ·exact gen h
 ·rename_i t x y ty hx
  cases hb : nilC P t (s.ov x) y with
  | false => rw [hb] at h; exact gen h
  | true => rw [hb] at h; cases h; exact nov fun j hj => by cases hj
 ·rename_i t x y ty hx
  cases hb : nilC P t (s.ov x) y with
  | false => rw [hb] at h; exact gen h
  | true => rw [hb] at h; cases h; exact nov fun j hj => by cases hj
 ·exact gen h
def Src (s : St) (o : Oper) (n : Nat) (js : List Nat) (k : Nat) : Prop := (s.x.length ≤ k ∧ k < n) ∨ Opn s o k ∨ ∃ j ∈ js, ∃ ob, s.ob j = some ob ∧ (k = j ∨ k ∈ ob.js)
structure Xs (s : St) (o : Oper) (x' : List Bx) (r w : List Nat) : Prop where
 len : s.x.length ≤ x'.length
 oth : ∀ j, j ∉ w → x'[j]? = s.x[j]?
 wlt : ∀ j ∈ w, j < x'.length
 kk : ∀ (j : Nat) (B' : Bx) (v : Value), x'[j]? = some B' → B'.k = some v → ∃ B : Bx, s.x[j]? = some B ∧ B.k = some v
 osc : ∀ j ∈ w, ∀ B', x'[j]? = some B' → ∀ k ∈ B'.o.js, Src s o x'.length (r ++ w) k
 wex : ∀ j ∈ w, j < s.x.length ∨ s.x.length ≤ j
structure Shp (N : Nat) (s : St) (o : Oper) (it : List It) (R : R1) : Prop where
 at_ : ∀ t, o.dst ≠ some t → R.s.at t = s.at t
 dN : ∀ d, o.dst = some d → d < N
 sc : ∀ d, o.dst = some d → ∀ k ∈ (R.s.at d).js, Src s o R.s.x.length (R.r ++ R.w) k
 xs : Xs s o R.s.x R.r R.w
 it : ∀ i ∈ R.it, i ∈ it
theorem xs_app {s : St} {o : Oper} {y : List Bx} {l : List Bx} {r w : List Nat} (hy : y.length = s.x.length) (ho : ∀ j, j ∉ w → j < s.x.length → y[j]? = s.x[j]?) (hk : ∀ (j : Nat) (B' : Bx), y[j]? = some B' → ∃ B, s.x[j]? = some B ∧ B.k = B'.k)
  (hl : ∀ B ∈ l, B.k = none) (hn : ∀ j, s.x.length ≤ j → j < s.x.length + l.length → j ∈ w) (hw : ∀ j ∈ w, j < s.x.length + l.length)
  (h1 : ∀ j ∈ w, ∀ B', y[j]? = some B' → ∀ k ∈ B'.o.js, Src s o (s.x.length + l.length) (r ++ w) k) (h2 : ∀ B ∈ l, ∀ k ∈ B.o.js, Src s o (s.x.length + l.length) (r ++ w) k) : Xs s o (y ++ l) r w := by
 have hlen : (y ++ l).length = s.x.length + l.length := by rw [List.length_append, hy]
 refine ⟨by omega, fun j hj => ?_, fun j hj => by rw [hlen]; exact hw j hj, fun j B' v hB hv => ?_, fun j hj B' hB => ?_, fun j _ => by omega⟩
 ·rcases Nat.lt_or_ge j s.x.length with h | h
  ·rw [List.getElem?_append_left (by omega)]; exact ho j hj h
  ·have : s.x.length + l.length ≤ j := by
    rcases Nat.lt_or_ge j (s.x.length + l.length) with h' | h'
    ·exact absurd (hn j h h') hj
    ·exact h'
   rw [List.getElem?_eq_none (by omega), List.getElem?_eq_none (by omega)]
 ·rcases Nat.lt_or_ge j y.length with h | h
  ·rw [List.getElem?_append_left h] at hB
   obtain ⟨B, h3, h4⟩ := hk j B' hB
   exact ⟨B, h3, h4.trans hv⟩
  ·rw [List.getElem?_append_right h] at hB
   rw [hl B' (List.mem_of_getElem? hB)] at hv; cases hv
 ·rw [hlen]
  rcases Nat.lt_or_ge j y.length with h | h
  ·rw [List.getElem?_append_left h] at hB; exact h1 j hj B' hB
  ·rw [List.getElem?_append_right h] at hB; exact h2 B' (List.mem_of_getElem? hB)
theorem xs_id {s : St} {o : Oper} {r : List Nat} : Xs s o s.x r [] :=
 ⟨Nat.le_refl _, fun _ _ => rfl, fun j hj => (by cases hj), fun j B' v h h' => ⟨B', h, h'⟩, fun j hj => (by cases hj), fun j hj => (by cases hj)⟩
theorem xs_new {s : St} {o : Oper} {ob : Ob} {r : List Nat} (h : ∀ k ∈ ob.js, Src s o (s.x.length + 1) (r ++ [s.x.length]) k) : Xs s o (s.x ++ [⟨none, ob⟩]) r [s.x.length] := by
 refine xs_app rfl (fun _ _ _ => rfl) (fun j B' h => ⟨B', h, rfl⟩) (fun B hB => ?_) (fun j h1 h2 => ?_) (fun j hj => ?_) (fun j hj B' hB => ?_) (fun B hB => ?_)
 ·rw [List.mem_singleton.1 hB]
 ·simp at h2 ⊢; omega
 ·rw [List.mem_singleton.1 hj]; simp
 ·rw [List.mem_singleton.1 hj] at hB; simp at hB
 ·rw [List.mem_singleton.1 hB]; exact h
theorem set_get {l : List Bx} {k j : Nat} {B B' : Bx} (h : (l.set k B)[j]? = some B') : (j = k ∧ B' = B ∧ k < l.length) ∨ (j ≠ k ∧ l[j]? = some B') := by
 by_cases e : k = j
 ·subst e
  have : k < l.length := by have := (List.getElem?_eq_some_iff.1 h).1; simpa using this
  rw [List.getElem?_set_self this] at h
  cases h; exact .inl ⟨rfl, rfl, this⟩
 ·rw [List.getElem?_set_ne e] at h; exact .inr ⟨fun h => e h.symm, h⟩
theorem xs_set {s : St} {o : Oper} {k : Nat} {B : Bx} {ob : Ob} {r : List Nat} (hB : s.x[k]? = some B) (h : ∀ i ∈ ob.js, Src s o s.x.length (r ++ [k]) i) : Xs s o (s.x.set k ⟨B.k, ob⟩) r [k] := by
 have := xs_app (s := s) (o := o) (y := s.x.set k ⟨B.k, ob⟩) (l := []) (r := r) (w := [k]) (by simp) (fun j hj _ => ?_) (fun j B' h => ?_) (fun B hB => by cases hB) (fun j h1 h2 => ?_) (fun j hj => ?_) (fun j hj B' hB' => ?_) (fun B hB => by cases hB)
 ·simpa using this
 ·rw [List.getElem?_set_ne (fun e => hj (by simp [e]))]
 ·rcases set_get h with ⟨h1, h2, h3⟩ | ⟨_, h2⟩
  ·subst h1 h2; exact ⟨B, hB, rfl⟩
  ·exact ⟨B', h2, rfl⟩
 ·simp at h2; omega
 ·rw [List.mem_singleton.1 hj]; exact (List.getElem?_eq_some_iff.1 hB).1
 ·rw [List.mem_singleton.1 hj] at hB'
  rcases set_get hB' with ⟨_, h2, _⟩ | ⟨h1, _⟩
  ·subst h2; simpa using h
  ·exact absurd rfl h1
theorem xs_setnew {s : St} {o : Oper} {k : Nat} {B : Bx} {ob : Ob} {r : List Nat} (hB : s.x[k]? = some B) (h : ∀ i ∈ ob.js, Src s o (s.x.length + 1) (r ++ [k, s.x.length]) i) : Xs s o (s.x.set k ⟨B.k, .dead⟩ ++ [⟨none, ob⟩]) r [k, s.x.length] := by
 refine xs_app (by simp) (fun j hj _ => ?_) (fun j B' h => ?_) (fun B hB => by rw [List.mem_singleton.1 hB]) (fun j h1 h2 => ?_) (fun j hj => ?_) (fun j hj B' hB' => ?_) (fun B hB => by rw [List.mem_singleton.1 hB]; exact h)
 ·rw [List.getElem?_set_ne (fun e => hj (by simp [e]))]
 ·rcases set_get h with ⟨h1, h2, h3⟩ | ⟨_, h2⟩
  ·subst h1 h2; exact ⟨B, hB, rfl⟩
  ·exact ⟨B', h2, rfl⟩
 ·simp at h2 ⊢; omega
 ·have := (List.getElem?_eq_some_iff.1 hB).1
  simp at hj ⊢; omega
 ·rcases set_get hB' with ⟨_, h2, _⟩ | ⟨h1, h2⟩
  ·subst h2; intro i hi; cases hi
  ·have := (List.getElem?_eq_some_iff.1 h2).1
   simp at hj; omega
theorem shp_fin {s : St} {o : Oper} {d : Nat} {v : AV} {it it' : List It} {q : List (Cl × Cl)} {x' : List Bx} {r w : List Nat} (hd : o.dst = some d) (hN : d < N) (hx : Xs s o x' r w) (hv : ∀ k ∈ v.js, Src s o x'.length (r ++ w) k) (hit : ∀ i ∈ it, i ∈ it') :
  Shp N s o it' (fin { s with x := x' } d v it q r w) := by
 obtain ⟨v', h1, h2, h3, h4, h5, h6⟩ := fin_s { s with x := x' } d v it q r w
 refine ⟨fun t ht => ?_, fun d' e => by rw [hd] at e; cases e; exact hN, fun d' e k hk => ?_, ?_, fun i hi => hit i (h5 i hi)⟩
 ·rw [h1, put_at, if_neg (fun e => ht (by rw [hd, e]))]; rfl
 ·rw [hd] at e; cases e
  rw [h1, put_at, if_pos rfl] at hk
  rw [h1, h2, h3]
  rcases h6 with e | ⟨t, z, x, y, _, e, _⟩
  ·rw [e] at hk; exact hv k hk
  ·rw [e] at hk; simp [AV.js, AC.j] at hk
 ·rw [h1, h2, h3]; exact hx
theorem opn_src {s : St} {o : Oper} {n k : Nat} {js : List Nat} (h : Opn s o k) : Src s o n js k := .inr (.inl h)
theorem dts_js : ∀ (e : List Dt) (n : Nat), (∀ k ∈ (dts n e).1.filterMap (·.j), n ≤ k ∧ k < n + (dts n e).2.length) ∧ ∀ B ∈ (dts n e).2, B.k = none ∧ B.o.js = []
 | [], n => ⟨fun k hk => (by cases hk), fun B hB => (by cases hB)⟩
 | .v x :: e, n => by
  obtain ⟨h1, h2⟩ := dts_js e n
  refine ⟨fun k hk => h1 k ?_, h2⟩
  simpa [dts, AC.j] using hk
 | .s z es :: e, n => by
  obtain ⟨h1, h2⟩ := dts_js e (n + 1)
  refine ⟨fun k hk => ?_, fun B hB => ?_⟩
  ·simp only [dts, List.filterMap_cons, AC.j, List.mem_cons, List.length_cons] at hk ⊢
   rcases hk with rfl | hk
   ·omega
   ·have := h1 k hk; omega
  ·simp only [dts, List.mem_cons] at hB
   rcases hB with rfl | hB
   ·exact ⟨rfl, rfl⟩
   ·exact h2 B hB
theorem own1_shape {s : St} {o : Oper} {d : Nat} {it : List It} {R : R1} (hd : o.dst = some d) (hN : d < N) (h : own1 P N s o d it = some R) : Shp N s o it R := by
 have plain : ∀ {ob : Ob} {v : AV} {r : List Nat}, (∀ k ∈ v.js, Src s o (s.x.length + 1) (r ++ [s.x.length]) k) → (∀ k ∈ ob.js, Src s o (s.x.length + 1) (r ++ [s.x.length]) k) → Shp N s o it ⟨{ s with u := (d, v) :: s.u, x := s.x ++ [⟨none, ob⟩] }, it, [], r, [s.x.length]⟩ := by
  intro ob v r hv ho
  have hput : ∀ t, (({ s with u := (d, v) :: s.u, x := s.x ++ [⟨none, ob⟩] } : St)).at t = if d = t then v else s.at t := fun t => put_at { s with x := s.x ++ [⟨none, ob⟩] } d v t
  refine ⟨fun t ht => ?_, fun d' e => by rw [hd] at e; cases e; exact hN, fun d' e k hk => ?_, xs_new ho, fun i hi => hi⟩
  ·rw [hput, if_neg (fun e => ht (by rw [hd, e]))]
  ·rw [hd] at e; cases e
   rw [hput, if_pos rfl] at hk
   have := hv k hk
   simpa using this
 have nw : ∀ {r : List Nat}, Src s o (s.x.length + 1) (r ++ [s.x.length]) s.x.length := .inl ⟨Nat.le_refl _, Nat.lt_succ_self _⟩
 unfold own1 at h
 split at h
 ·split at h
  ·cases h
   refine plain (fun k hk => ?_) (fun k hk => ?_)
   ·simp [AV.js, AC.j] at hk; subst hk; exact nw
   ·simp [Ob.js, AC.j] at hk
  ·cases h
 ·rename_i t x hop
  split at h
  ·rename_i cs hc
   cases h
   refine plain (fun k hk => ?_) (fun k hk => ?_)
   ·simp [AV.js, AC.j] at hk; subst hk; exact nw
   ·exact opn_src (opn_ov (x := x) (by rw [hop]; simp [Op.operands]) (cells_js hc hk))
  ·cases h
 ·split at h
  ·split at h
   ·split at h
    ·rename_i ds hds
     rw [cond_eq_ite] at h
     split at h
     ·cases h
      refine plain (fun k hk => ?_) (fun k hk => by cases hk)
      simp [AV.js, AC.j] at hk; subst hk; exact nw
     ·cases h
    ·cases h
   ·cases h
  ·cases h
 ·split at h
  ·rename_i k off hv
   split at h
   ·rename_i c hc
    obtain ⟨ob, hob, hjs, _⟩ := bx_ok hc
    split at h
    ·rename_i v hld
     cases h
     refine shp_fin hd hN xs_id (fun i hi => .inr (.inr ⟨k, by simp, _, hob, .inr (by rw [hjs]; exact ldv_js hld i hi)⟩)) (fun i hi => hi)
    ·cases h
   ·cases h
  ·cases h
 ·split at h
  ·rename_i v r hv
   cases h
   exact shp_fin hd hN xs_id (fun k hk => opn_src ((vop_opn hv).1 k hk)) (fun i hi => hi)
  ·cases h
end
end Go.Eo
namespace Go.Eo
open Go Go.RowKit Go.Rg
section
variable {P : Program} {N : Nat} {W : World} {D : Nat → Prop}
theorem ov_src {s : St} {o : Oper} {x : Operand} (hx : x ∈ o.op.operands.toList) {v : AV} (hv : s.ov x = v) {n : Nat} {js : List Nat} {k : Nat} (h : k ∈ v.js) : Src s o n js k := opn_src (opn_ov hx (by rw [hv]; exact h))
theorem sg_src {js : List Nat} {m n i : Nat} (h : i < js.length + n) : (∃ j, sg js m i = j ∧ js[i]? = some j) ∨ (m ≤ sg js m i ∧ sg js m i < m + n) := by
 unfold sg
 split
 ·rename_i j hj; exact .inl ⟨j, rfl, hj⟩
 ·rename_i hj
  have := List.getElem?_eq_none_iff.1 hj
  exact .inr ⟨by omega, by omega⟩
theorem beh_shape {s : St} {o : Oper} {d : Nat} {i : It} {it it0 : List It} {R : R1} (hd : o.dst = some d) (hN : d < N) (hi : ItOk P W D (FnP P) i) (h : beh P N s o d i it = some R) (hit : ∀ i ∈ it, i ∈ it0) : Shp N s o it0 R := by
 have nov : ∀ {x : Value} {n : Nat} {js : List Nat}, ∀ k ∈ (AV.a (.v x)).js, Src s o n js k := fun k hk => by simp [AV.js, AC.j] at hk
 have nw : ∀ {js : List Nat}, ∀ k ∈ (AV.a (.w s.x.length)).js, Src s o (s.x.length + 1) js k := fun k hk => by
  simp [AV.js, AC.j] at hk; subst hk; exact .inl ⟨Nat.le_refl _, Nat.lt_succ_self _⟩
 have row : ∀ {T z : Nat} {es : List (List Dt)} {r : List Nat}, Xs s o (s.x ++ [⟨none, .row T z es⟩]) r [s.x.length] := xs_new fun k hk => by cases hk
 cases i with
 | v t x y => cases h
 | z t j => cases h
 | n t u T z => cases h
 | q t j c T z => cases h
 | o t j x y => cases h
 | c t f args r =>
  simp only [beh] at h
  repeat' (split at h)
  all_goals first
   | (cases h; done)
   | (cases h; exact shp_fin hd hN xs_id nov hit)
 | m t q r =>
  simp only [beh] at h
  repeat' (split at h)
  all_goals first
   | (cases h; done)
   | (cases h; exact shp_fin hd hN xs_id nov hit)
 | i t z n len =>
  simp only [beh] at h
  split at h
  ·rename_i T x ix hop
   split at h
   ·rename_i j hv
    simp only [cond_eq_ite] at h
    repeat' (split at h)
    all_goals first
     | (cases h; done)
     | (cases h; exact shp_fin hd hN xs_id (fun k hk => ov_src (x := x) (by rw [hop]; simp [Op.operands]) hv hk) hit)
   ·cases h
  ·cases h
 | l t es n e =>
  simp only [beh] at h
  split at h
  ·rename_i T ad hop
   split at h
   ·split at h
    ·rw [cond_eq_ite] at h
     split at h
     ·split at h
      ·rename_i v hv
       cases h
       obtain ⟨h1, h2⟩ := dts_js e s.x.length
       refine shp_fin hd hN (xs_app rfl (fun _ _ _ => rfl) (fun j B' h => ⟨B', h, rfl⟩) (fun B hB => (h2 B hB).1) (fun j h3 h4 => mem_rgF.2 ⟨h3, h4⟩) (fun j hj => (mem_rgF.1 hj).2) (fun j hj B' hB => ?_) (fun B hB k hk => by rw [(h2 B hB).2] at hk; cases hk)) (fun k hk => .inl ?_) hit
       ·have := (mem_rgF.1 hj).1
        have := (List.getElem?_eq_some_iff.1 hB).1
        omega
       ·have := h1 k (ldv_js hv k hk)
        rw [List.length_append]; exact this
      ·cases h
     ·cases h
    ·cases h
   ·cases h
  ·cases h
 | b t own lo hi l h' len =>
  simp only [beh, cond_eq_ite] at h
  repeat' (split at h)
  all_goals first
   | (cases h; done)
   | (cases h; exact shp_fin hd hN (xs_new fun k hk => (by cases hk)) (fun k hk => by rw [List.length_append]; exact nw k hk) hit)
   | (cases h; exact shp_fin hd hN (xs_setnew (by assumption) (by intro k hk; cases hk)) (fun k hk => by rw [List.length_append, List.length_set]; exact nw k hk) hit)
 | a t n by_ =>
  simp only [beh, cond_eq_ite] at h
  repeat' (split at h)
  all_goals first
   | (cases h; done)
   | (cases h; exact shp_fin hd hN row (fun k hk => by rw [List.length_append]; exact nw k hk) hit)
   | (rename_i B0 hB0 _; cases h; exact shp_fin hd hN (xs_setnew (s := s) (o := o) (B := ⟨_, _⟩) hB0 (by intro k hk; cases hk)) (fun k hk => by rw [List.length_append, List.length_set]; exact nw k hk) hit)
 | k t len z n by_ =>
  simp only [beh, cond_eq_ite] at h
  repeat' (split at h)
  all_goals first
   | (cases h; done)
   | (cases h; exact shp_fin hd hN row (fun k hk => by rw [List.length_append]; exact nw k hk) hit)
 | f t fid js ks obs args obs' ns r =>
  simp only [beh] at h
  split at h
  ·split at h
   ·split at h
    ·rename_i os hos
     rw [cond_eq_ite] at h
     split at h
     ·rename_i hb
      cases h
      simp only [Bool.and_eq_true] at hb
      obtain ⟨b1, b2, b3, b4⟩ := hb
      have b2 := Nat.eq_of_beq_eq_true b2
      have b3 := Nat.eq_of_beq_eq_true b3
      obtain ⟨hin, hlen, _⟩ := hi
      obtain ⟨hr1, hr2⟩ := inN_r hin
      obtain ⟨a1, a2⟩ := all_spec hos
      obtain ⟨l1, l2, l3⟩ := setL_spec (chg ks 0 js) (chg ks 0 (obs'.map (·.rn (sg js s.x.length)))) s.x (chg_nodup b1) (chg_len (by rw [List.length_map, b3]))
      have hjx : ∀ j ∈ js, ∃ B, s.x[j]? = some B := fun j hj => by
       obtain ⟨i, hi⟩ := List.getElem?_of_mem hj
       obtain ⟨ob, _, h2⟩ := a2 i j hi
       obtain ⟨B, h3, _⟩ := ob_lt h2
       exact ⟨B, h3⟩
      have hsrc : ∀ {k : Nat}, k < obs.length + ns.length → Src s o (s.x.length + ns.length) (js ++ (chg ks 0 js ++ rgF s.x.length ns.length)) (sg js s.x.length k) := fun {k} hk => by
       rcases sg_src (js := js) (m := s.x.length) (n := ns.length) (i := k) (by omega) with ⟨j, h1, h2⟩ | h
       ·obtain ⟨ob, _, h3⟩ := a2 k j h2
        exact .inr (.inr ⟨j, List.mem_append_left _ (List.mem_of_getElem? h2), ob, h3, .inl h1⟩)
       ·exact .inl h
      have hget : ∀ (j : Nat) (B' : Bx), (setL s.x (chg ks 0 js) (chg ks 0 (obs'.map (·.rn (sg js s.x.length)))))[j]? = some B' → (j ∉ chg ks 0 js ∧ s.x[j]? = some B') ∨ ∃ B, s.x[j]? = some B ∧ ∃ ob ∈ obs', B' = { B with o := ob.rn (sg js s.x.length) } := fun j B' hB => by
       by_cases hj : j ∈ chg ks 0 js
       ·obtain ⟨p, hp⟩ := List.getElem?_of_mem hj
        obtain ⟨B, hB2⟩ := hjx j (chg_mem hj)
        have hp' := (List.getElem?_eq_some_iff.1 hp).1
        have hl : (chg ks 0 js).length = (chg ks 0 (obs'.map (·.rn (sg js s.x.length)))).length := chg_len (by rw [List.length_map, b3])
        have ho : (chg ks 0 (obs'.map (·.rn (sg js s.x.length))))[p]? = some (chg ks 0 (obs'.map (·.rn (sg js s.x.length))))[p] := List.getElem?_eq_getElem (by omega)
        have := l3 p j _ hp ho B hB2
        rw [this] at hB; cases hB
        obtain ⟨ob, hob, he⟩ := List.mem_map.1 (chg_mem (List.mem_of_getElem? ho))
        exact .inr ⟨B, hB2, ob, hob, by rw [← he]⟩
       ·rw [l2 j hj] at hB; exact .inl ⟨hj, hB⟩
      refine shp_fin hd hN (xs_app l1 (fun j hj _ => l2 j fun h => hj (List.mem_append_left _ h)) (fun j B' hB => ?_) (fun B hB => ?_) (fun j h1 h2 => ?_) (fun j hj => ?_) (fun j hj B' hB k hk => ?_) (fun B hB k hk => ?_)) (fun k hk => ?_) hit
      ·rcases hget j B' hB with ⟨_, h⟩ | ⟨B, h1, ob, _, h2⟩
       ·exact ⟨B', h, rfl⟩
       ·exact ⟨B, h1, by rw [h2]⟩
      ·obtain ⟨ob, _, rfl⟩ := List.mem_map.1 hB; rfl
      ·rw [List.length_map] at h2
       exact List.mem_append_right _ (mem_rgF.2 ⟨h1, h2⟩)
      ·rw [List.length_map]
       rcases List.mem_append.1 hj with hj | hj
       ·obtain ⟨B, hB⟩ := hjx j (chg_mem hj)
        have := (List.getElem?_eq_some_iff.1 hB).1
        omega
       ·exact (mem_rgF.1 hj).2
      ·rw [List.length_map]
       rcases hget j B' hB with ⟨h1, h⟩ | ⟨B, h1, ob, h3, h2⟩
       ·rcases List.mem_append.1 hj with hj | hj
        ·exact absurd hj h1
        ·have := (mem_rgF.1 hj).1
         have := (List.getElem?_eq_some_iff.1 h).1
         omega
       ·rw [h2] at hk
        simp only [ob_rn_js, List.mem_map] at hk
        obtain ⟨k', hk', rfl⟩ := hk
        exact hsrc (hr2 ob (List.mem_append_left _ h3) k' hk')
      ·rw [List.length_map]
       obtain ⟨ob, h3, rfl⟩ := List.mem_map.1 hB
       simp only [ob_rn_js, List.mem_map] at hk
       obtain ⟨k', hk', rfl⟩ := hk
       exact hsrc (hr2 ob (List.mem_append_right _ h3) k' hk')
      ·rw [List.length_append, l1, List.length_map]
       rw [av_rn_js, List.mem_map] at hk
       obtain ⟨k', hk', rfl⟩ := hk
       exact hsrc (hr1 k' hk')
     ·cases h
    ·cases h
   ·cases h
  ·cases h
theorem sto_shape {s : St} {o : Oper} {it : List It} {R : R1} (hd : o.dst = none) (h : sto P s o it = some R) : Shp N s o it R := by
 have gen : ∀ {x' : List Bx} {it' : List It} {q : List (Cl × Cl)} {r w : List Nat}, Xs s o x' r w → (∀ i ∈ it', i ∈ it) → Shp N s o it ⟨{ s with x := x' }, it', q, r, w⟩ := fun hx hit =>
  ⟨fun t _ => rfl, fun d e => (by rw [hd] at e; cases e), fun d e => (by rw [hd] at e; cases e), hx, hit⟩
 unfold sto at h
 split at h
 ·rename_i t ad x hop
  split at h
  ·rename_i cs hc
   split at h
   ·rename_i i hi
    rw [cond_eq_ite] at h
    split at h
    ·split at h
     ·rename_i k off hv
      split at h
      ·rename_i kk c T hk
       rw [cond_eq_ite] at h
       split at h
       ·cases h
        refine gen (xs_set hk fun j hj => ?_) (fun i hi => hi)
        obtain ⟨u, hu, hj⟩ := List.mem_filterMap.1 hj
        rcases ptL_mem _ _ _ _ hu with h | h
        ·exact .inr (.inr ⟨k, by simp, _, ob_of hk, .inr (List.mem_filterMap.2 ⟨u, h, hj⟩)⟩)
        ·exact opn_src (opn_ov (x := x) (by rw [hop]; simp [Op.operands]) (cells_js hc (List.mem_filterMap.2 ⟨u, h, hj⟩)))
       ·cases h
      ·cases h
     ·split at h
      ·split at h
       ·rename_i hj
        split at h
        ·rw [cond_eq_ite] at h
         split at h
         ·cases h
          exact gen (xs_set hj fun k hk => (by cases hk)) (fun i hi => List.mem_cons_of_mem _ hi)
         ·cases h
        ·cases h
       ·cases h
      ·cases h
     ·cases h
    ·cases h
   ·cases h
  ·cases h
 ·cases h
theorem stp_shape {s : St} {o : Oper} {it : List It} {R : R1} (hit : ∀ i ∈ it, ItOk P W D (FnP P) i) (h : stp P N s o it = some R) : Shp N s o it R := by
 unfold stp at h
 split at h
 ·rename_i hd; exact sto_shape hd h
 ·rename_i d hd
  rw [cond_eq_ite] at h
  split at h
  ·cases h
  ·rename_i hN
   have hN : d < N := by
    rcases Nat.lt_or_ge d N with h' | h'
    ·exact h'
    ·exact absurd (Nat.ble_eq_true_of_le h') hN
   split at h
   ·rename_i i it' ht
    have : ∃ it1, it = i :: it1 ∧ it' = it1 := by
     unfold tk at ht
     split at ht
     ·rw [cond_eq_ite] at ht
      split at ht
      ·cases ht; exact ⟨_, rfl, rfl⟩
      ·cases ht
     ·cases ht
    obtain ⟨it1, e1, e2⟩ := this
    subst e1 e2
    exact beh_shape hd hN (hit i (List.mem_cons_self ..)) h (fun j hj => List.mem_cons_of_mem _ hj)
   ·exact own1_shape hd hN h
theorem Tr.wide {ι ι' : Nat → Prop} {η η' : Nat → Value} {s s' : St} {ws ws' : List Nat} {w w' : World} (ht : Tr ι ι' η η' s s' ws w w') (hsub : ∀ j ∈ ws, j ∈ ws') (hsame : ∀ j, j ∉ ws → s'.ob j = s.ob j)
  (hsc : ∀ j ob, s.ob j = some ob → ∀ k ∈ ob.js, k < s.x.length) (hL : Loc s η ι w ws') : Tr ι ι' η η' s s' ws' w w' := by
 have hm : ∀ g, g ∈ wm η s ws → g ∈ wm η s ws' := fun g h => by
  obtain ⟨j, hj, x⟩ := mem_wm.1 h
  exact mem_wm.2 ⟨j, hsub j hj, x⟩
 have hno : ∀ j, j ∈ ws' → j ∉ ws → ∀ ob g, s.ob j = some ob → mb (η j) ob = some g → g ∉ wm η s ws := fun j hj hn ob g ho hmb hg => by
  obtain ⟨j', hj', ob', ho', hmb'⟩ := mem_wm.1 hg
  have := (hL.mi j' (hsub j' hj') ob' g ho' hmb').2.2 j hj ob ho hmb
  subst this; exact hn hj'
 have hη : ∀ j ob, s.ob j = some ob → η' j = η j := fun j ob ho => ht.old j (.inl (ob_lt ho).choose_spec.2.2)
 have hlt : ∀ j, j ∈ ws' → ∀ ob g, s.ob j = some ob → mb (η j) ob = some g → g < w.heap.size := fun j hj ob g ho hmb => (hL.mi j hj ob g ho hmb).2.1
 refine ⟨⟨ht.stay.os, ht.stay.tape, ht.stay.output, ht.stay.size, fun b hb => ht.stay.same b fun h' => hb (hm b h')⟩, ht.il, fun g hg => ?_, ht.ilt, ht.old, fun j hj ob ho => ?_, fun j hj ob g ho hmb => ?_⟩
 ·rcases ht.inw g hg with h | h | h
  ·exact .inl h
  ·exact .inr (.inl (hm g h))
  ·exact .inr (.inr h)
 ·by_cases hw : j ∈ ws
  ·exact ht.ok j hw ob ho
  ·rw [hsame j hw] at ho
   rw [hη j ob ho]
   refine (hL.ok j hj ob ho).stay ht.stay ht.il (fun g hg => ⟨fun h => ?_, hL.il g hg⟩) (fun g hg => hno j hj hw ob g ho hg) (fun k hk => ht.old k (.inl (hsc j ob ho k hk)))
   obtain ⟨j', hj', ob', ho', hmb'⟩ := mem_wm.1 h
   exact (hL.mi j' (hsub j' hj') ob' g ho' hmb').1 hg
 ·by_cases hw : j ∈ ws
  ·obtain ⟨h1, h2, h3⟩ := ht.mbs j hw ob g ho hmb
   refine ⟨h1.imp (hm g) id, h2, fun j' hj' ob' ho' hmb' => ?_⟩
   by_cases hw' : j' ∈ ws
   ·exact h3 j' hw' ob' ho' hmb'
   ·exfalso
    rw [hsame j' hw'] at ho'
    rw [hη j' ob' ho'] at hmb'
    rcases h1 with h | h
    ·exact hno j' hj' hw' ob' g ho' hmb' h
    ·have := hlt j' hj' ob' g ho' hmb'; omega
  ·rw [hsame j hw] at ho
   rw [hη j ob ho] at hmb
   have hg := hno j hj hw ob g ho hmb
   have hs := hlt j hj ob g ho hmb
   refine ⟨.inl (mem_wm.2 ⟨j, hj, ob, ho, hmb⟩), fun hi => ?_, fun j' hj' ob' ho' hmb' => ?_⟩
   ·rcases ht.inw g hi with h | h | h
    ·exact (hL.mi j hj ob g ho hmb).1 h
    ·exact hg h
    ·omega
   ·by_cases hw' : j' ∈ ws
    ·exfalso
     rcases (ht.mbs j' hw' ob' g ho' hmb').1 with h | h
     ·exact hg h
     ·omega
    ·rw [hsame j' hw'] at ho'
     rw [hη j' ob' ho'] at hmb'
     exact (hL.mi j hj ob g ho hmb).2.2 j' hj' ob' ho' hmb'
theorem stp_sound {s : St} {o : Oper} {it : List It} {R : R1} {η : Nat → Value} {ι : Nat → Prop} {a : Act} {w : World} {Q : Exit → Act → World → Prop} (h : stp P N s o it = some R) (hs : ∀ cs b, o.op ≠ .select cs b) (hit : ∀ i ∈ it, ItOk P W D (FnP P) i) (hq : Eqs R.q)
  (hl : Sees s η a o.op.operands.toList) (hk : Kn s η) (hsc : ∀ t, .tmp t ∈ o.op.operands.toList → ∀ k ∈ (s.at t).js, k < s.x.length) (hso : ∀ j ob, s.ob j = some ob → ∀ k ∈ ob.js, k < s.x.length) (hL : Loc s η ι w (R.r ++ R.w)) (hW : Keep D W w) : Owes P s o η ι a w R.s (R.r ++ R.w) Q := by
 have hsh := stp_shape hit h
 have wide : Owes P s o η ι a w R.s R.w Q → Owes P s o η ι a w R.s (R.r ++ R.w) Q := fun ho K hK => ho K fun η' ι' v w' hv ht => hK η' ι' v w' hv (ht.wide (fun j hj => List.mem_append_right _ hj) (fun j hj => by
  unfold St.ob; rw [hsh.xs.oth j hj]) hso hL)
 unfold stp at h
 split at h
 ·rename_i hd; exact wide (sto_sound hd h hit hq hl hk hL)
 ·rename_i d hd
  rw [cond_eq_ite] at h
  split at h
  ·cases h
  ·split at h
   ·rename_i i it' ht
    have : ∃ it1, it = i :: it1 ∧ it' = it1 := by
     unfold tk at ht
     split at ht
     ·rw [cond_eq_ite] at ht
      split at ht
      ·cases ht; exact ⟨_, rfl, rfl⟩
      ·cases ht
     ·cases ht
    obtain ⟨it1, e1, e2⟩ := this
    subst e1 e2
    have hi := hit i (List.mem_cons_self ..)
    have hit' : ∀ j ∈ it', ItOk P W D (FnP P) j := fun j hj => hit j (List.mem_cons_of_mem _ hj)
    cases i with
    | v t x y => cases h
    | z t j => cases h
    | n t u T z => cases h
    | q t j c T z => cases h
    | o t j x y => cases h
    | c t f args r => exact wide (beh_c hd h hs hi hit' hq hl hk hL hW)
    | m t q r => exact wide (beh_m hd h hs hi hit' hq hl hk hL hW)
    | i t z n len => exact wide (beh_i hd h hi hit' hq hl hk hL)
    | l t es n e => exact wide (beh_l hd h hi hit' hq hl hk hL)
    | b t own lo hi l h' len => exact wide (beh_b hd h hi hit' hq hl hk hL)
    | a t n by_ => exact wide (beh_a hd h hi hit' hq hl hk hL)
    | k t len z n by_ => exact wide (beh_k hd h hi hit' hq hl hk hL)
    | f t fid js ks obs args obs' ns r => exact beh_f hd h hi hit' hq hl hL
   ·exact wide (own1_sound hd h hs hit hq hl hk hsc hL)
end
end Go.Eo
namespace Go.Eo
open Go Go.RowKit Go.Rg
section
variable {P : Program} {N : Nat} {W : World} {D : Nat → Prop}
def RL.st (T : RL) (i : Nat) : St := match T.l[i]? with
 | some x => x.1
 | none => T.s
def RL.fp (T : RL) (i : Nat) : Fp := match T.l[i]? with
 | some x => x.2
 | none => ⟨[], []⟩
def Sp (P : Program) (N : Nat) (W : World) (D : Nat → Prop) (ops : Array Oper) (o : Oper) (s : St) (f : Fp) (s' : St) (q : List (Cl × Cl)) : Prop :=
 (wt s ops o = false ∧ f = ⟨[], []⟩ ∧ (o.dst = none → s' = s) ∧ ∀ d, o.dst = some d → d < N ∧ s' = s.put d (.a (.v undef))) ∨
 (wt s ops o = true ∧ ∃ it R, stp P N s o it = some R ∧ ⟨R.r, R.w⟩ = f ∧ R.s = s' ∧ (∀ p ∈ R.q, p ∈ q) ∧ ∀ i ∈ it, ItOk P W D (FnP P) i)
theorem ble_lt {N d : Nat} (h : Nat.ble N d = false) : d < N := by
 rcases Nat.lt_or_ge d N with h' | h'
 ·exact h'
 ·rw [Nat.ble_eq_true_of_le h'] at h; cases h
theorem rl_spec {ops : Array Oper} : ∀ (r : List Oper) (s : St) (it : List It) (T : RL), (∀ i ∈ it, ItOk P W D (FnP P) i) → rl P N ops r s it = some T →
  T.l.length = r.length ∧ T.st 0 = s ∧ (∀ i o, r[i]? = some o → Sp P N W D ops o (T.st i) (T.fp i) (T.st (i + 1)) T.q) ∧ ∀ i ∈ T.it, i ∈ it
 | [], s, it, T, hit, h => by
  cases h
  exact ⟨rfl, rfl, fun i o ho => (by cases ho), fun i hi => hi⟩
 | o :: r, s, it, T, hit, h => by
  unfold rl at h
  have key : ∀ {s1 : St} {f : Fp} {T1 : RL} {q : List (Cl × Cl)} {it1 : List It}, rl P N ops r s1 it1 = some T1 → (∀ i ∈ it1, i ∈ it) → T.l = (s, f) :: T1.l → T.s = T1.s → T.q = q ++ T1.q → T.it = T1.it → Sp P N W D ops o s f s1 T.q →
    T.l.length = (o :: r).length ∧ T.st 0 = s ∧ (∀ i o', (o :: r)[i]? = some o' → Sp P N W D ops o' (T.st i) (T.fp i) (T.st (i + 1)) T.q) ∧ ∀ i ∈ T.it, i ∈ it := by
   intro s1 f T1 q it1 hrl hsub hl hs hq hti hsp
   obtain ⟨h1, h2, h3, h4⟩ := rl_spec r s1 it1 T1 (fun i hi => hit i (hsub i hi)) hrl
   have st1 : ∀ i, T.st (i + 1) = T1.st i := fun i => by unfold RL.st; rw [hl, hs]; simp
   have fp1 : ∀ i, T.fp (i + 1) = T1.fp i := fun i => by unfold RL.fp; rw [hl]; simp
   refine ⟨by rw [hl]; simp [h1], by unfold RL.st; rw [hl]; simp, fun i o' ho' => ?_, fun i hi => hsub i (h4 i (by rw [← hti]; exact hi))⟩
   cases i with
   | zero =>
    simp only [List.getElem?_cons_zero, Option.some.injEq] at ho'
    subst ho'
    have e0 : T.st 0 = s := by unfold RL.st; rw [hl]; simp
    have e1 : T.fp 0 = f := by unfold RL.fp; rw [hl]; simp
    rw [e0, e1, st1, h2]; exact hsp
   | succ i =>
    rw [st1, st1, fp1]
    rcases h3 i o' (by simpa using ho') with h | ⟨h4, it', R, h5, h6, h7, h8, h9⟩
    ·exact .inl h
    ·exact .inr ⟨h4, it', R, h5, h6, h7, fun p hp => by rw [hq]; exact List.mem_append_right _ (h8 p hp), h9⟩
  split at h
  ·rename_i hw
   split at h
   ·rename_i R hR
    split at h
    ·rename_i T1 hT
     cases h
     exact key hT (stp_shape (W := W) (D := D) hit hR).it rfl rfl rfl rfl (.inr ⟨hw, it, R, hR, rfl, rfl, fun p hp => List.mem_append_left _ hp, hit⟩)
    ·cases h
   ·cases h
  ·rename_i hw
   split at h
   ·rename_i d hd
    cases hN : Nat.ble N d with
    | true => rw [hN] at h; cases h
    | false =>
     rw [hN] at h
     simp only [cond_false] at h
     split at h
     ·rename_i T1 hT
      cases h
      exact key (q := []) hT (fun i hi => hi) rfl rfl rfl rfl (.inl ⟨hw, rfl, fun e => (by rw [hd] at e; cases e), fun d' e => (by rw [hd] at e; cases e; exact ⟨ble_lt hN, rfl⟩)⟩)
     ·cases h
   ·rename_i hd
    split at h
    ·rename_i T1 hT
     cases h
     exact key (q := []) hT (fun i hi => hi) rfl rfl rfl rfl (.inl ⟨hw, rfl, fun _ => rfl, fun d' e => (by rw [hd] at e; cases e)⟩)
    ·cases h
structure SpS (N : Nat) (s s' : St) (o : Oper) (f : Fp) : Prop where
 at_ : ∀ t, o.dst ≠ some t → s'.at t = s.at t
 dN : ∀ d, o.dst = some d → d < N
 sc : ∀ d, o.dst = some d → ∀ k ∈ (s'.at d).js, Src s o s'.x.length (f.r ++ f.w) k
 xs : Xs s o s'.x f.r f.w
theorem Sp.shape {ops : Array Oper} {o : Oper} {s s' : St} {f : Fp} {q : List (Cl × Cl)} (h : Sp P N W D ops o s f s' q) : SpS N s s' o f := by
 rcases h with ⟨h1, h2, h3, h4⟩ | ⟨h1, it, R, h2, h3, h4, h5, h6⟩
 ·subst h2
  cases hd : o.dst with
  | none => rw [h3 hd]; exact ⟨fun _ _ => rfl, fun d e => (by rw [hd] at e; cases e), fun d e => (by rw [hd] at e; cases e), xs_id⟩
  | some d =>
   obtain ⟨h5, h6⟩ := h4 d hd
   rw [h6]
   refine ⟨fun t ht => ?_, fun d' e => by rw [hd] at e; cases e; exact h5, fun d' e k hk => ?_, xs_id⟩
   ·rw [put_at, if_neg (fun e => ht (by rw [hd, e]))]
   ·rw [hd] at e; cases e; rw [put_at, if_pos rfl] at hk; simp [AV.js, AC.j] at hk
 ·have hs := stp_shape h6 h2
  subst h3 h4
  exact ⟨hs.at_, hs.dN, hs.sc, hs.xs⟩
structure Sc (s : St) : Prop where
 t : ∀ t, ∀ k ∈ (s.at t).js, k < s.x.length
 o : ∀ j ob, s.ob j = some ob → ∀ k ∈ ob.js, k < s.x.length
theorem ob_x {s : St} {j : Nat} {ob : Ob} (h : s.ob j = some ob) : ∃ B, s.x[j]? = some B ∧ B.o = ob := by
 obtain ⟨B, h1, h2, _⟩ := ob_lt h; exact ⟨B, h1, h2⟩
theorem Sc.src {s : St} (hs : Sc s) {o : Oper} {n : Nat} {js : List Nat} {k : Nat} (hn : s.x.length ≤ n) (h : Src s o n js k) : k < n := by
 rcases h with ⟨_, h⟩ | ⟨t, _, h⟩ | ⟨j, _, ob, h1, h2⟩
 ·exact h
 ·exact Nat.lt_of_lt_of_le (hs.t t k h) hn
 ·rcases h2 with rfl | h2
  ·exact Nat.lt_of_lt_of_le (ob_lt h1).choose_spec.2.2 hn
  ·exact Nat.lt_of_lt_of_le (hs.o j ob h1 k h2) hn
theorem Sc.step {s s' : St} {o : Oper} {f : Fp} (hs : Sc s) (h : SpS N s s' o f) : Sc s' := by
 refine ⟨fun t k hk => ?_, fun j ob hj k hk => ?_⟩
 ·by_cases e : o.dst = some t
  ·exact hs.src h.xs.len (h.sc t e k hk)
  ·rw [h.at_ t e] at hk
   exact Nat.lt_of_lt_of_le (hs.t t k hk) h.xs.len
 ·obtain ⟨B, hB, rfl⟩ := ob_x hj
  by_cases e : j ∈ f.w
  ·exact hs.src h.xs.len (h.xs.osc j e B hB k hk)
  ·rw [h.xs.oth j e] at hB
   exact Nat.lt_of_lt_of_le (hs.o j B.o (ob_of hB) k hk) h.xs.len
def lw (lst wr : Nat → Bool) : Nat → Nat
 | 0 => 0
 | k + 1 => if lst k && wr k then k + 1 else lw lst wr k
theorem lw_le (lst wr : Nat → Bool) : ∀ n, lw lst wr n ≤ n
 | 0 => Nat.le_refl _
 | n + 1 => by
  have := lw_le lst wr n
  unfold lw
  split <;> omega
theorem lw_up {lst wr : Nat → Bool} {i : Nat} : ∀ n, i ≤ n → (∀ k, i ≤ k → k < n → wr k = true → lst k = false) → lw lst wr n = lw lst wr i
 | 0, h, _ => by
  have : i = 0 := by omega
  rw [this]
 | n + 1, h, h2 => by
  rcases Nat.lt_or_ge n i with h' | h'
  ·have : i = n + 1 := by omega
   rw [this]
  ·have ih := lw_up n h' (fun k h3 h4 => h2 k h3 (by omega))
   have : (lst n && wr n) = false := by
    cases hw : wr n with
    | false => simp
    | true => rw [h2 n h' (by omega) hw]; rfl
   rw [← ih, lw]
   simp [this]
theorem lw_seq {α : Type} {sq : Nat → α} {lst wr : Nat → Bool} : ∀ i, (∀ k, k < i → wr k = false → sq (k + 1) = sq k) → (∀ k, k < i → wr k = true → lst k = true) → sq (lw lst wr i) = sq i
 | 0, _, _ => rfl
 | i + 1, h1, h2 => by
  have ih := lw_seq (sq := sq) i (fun k hk => h1 k (by omega)) (fun k hk => h2 k (by omega))
  unfold lw
  cases hw : wr i with
  | true => rw [h2 i (by omega) hw]; simp
  | false => simp only [Bool.and_false, Bool.false_eq_true, if_false]; rw [ih, h1 i (by omega) hw]
theorem lw_eq {α : Type} {sq : Nat → α} {lst wr : Nat → Bool} {i n : Nat} (hin : i ≤ n) (h1 : ∀ k, k < n → wr k = false → sq (k + 1) = sq k) (h2 : ∀ k, k < i → wr k = true → lst k = true)
  (h3 : ∀ k, i ≤ k → k < n → wr k = true → lst k = false) : sq (lw lst wr n) = sq i := by
 rw [lw_up n hin h3]
 exact lw_seq i (fun k hk => h1 k (by omega)) h2
theorem lw_set_other {lst lst' wr : Nat → Bool} {i : Nat} (hw : wr i = false) (hl : ∀ k, k ≠ i → lst' k = lst k) : ∀ n, lw lst' wr n = lw lst wr n
 | 0 => rfl
 | n + 1 => by
  unfold lw
  rw [lw_set_other hw hl n]
  by_cases e : n = i
  ·subst e; rw [hw]; simp
  ·rw [hl n e]
theorem lw_set_self {lst' wr : Nat → Bool} {i n : Nat} (hi : i < n) (hw : wr i = true) (hi' : lst' i = true) (h3 : ∀ k, i < k → k < n → wr k = true → lst' k = false) : lw lst' wr n = i + 1 := by
 rw [lw_up (i := i + 1) n hi (fun k h1 h2 => h3 k (by omega) h2)]
 unfold lw
 rw [hi', hw]; simp
theorem eb_spec {acc : List Nat} {i : Nat} : ∀ {l : List Edge}, (eb acc l).testBit i = true → ∃ e ∈ l, Region.binds .any e = true ∧ (e.on = i ∨ (acc.getD e.on 0).testBit i = true)
 | [], h => by simp [eb] at h
 | e :: l, h => by
  unfold eb at h
  cases hb : Region.binds .any e with
  | false =>
   rw [hb] at h
   obtain ⟨e', h1, h2⟩ := eb_spec (l := l) h
   exact ⟨e', List.mem_cons_of_mem _ h1, h2⟩
  | true =>
   rw [hb] at h
   simp only [cond_true, Nat.testBit_or, Bool.or_eq_true] at h
   rcases h with h | h | h
   ·refine ⟨e, List.mem_cons_self .., hb, .inl ?_⟩
    rw [Nat.one_shiftLeft, Nat.testBit_two_pow] at h
    simpa using h
   ·exact ⟨e, List.mem_cons_self .., hb, .inr h⟩
   ·obtain ⟨e', h1, h2⟩ := eb_spec (l := l) h
    exact ⟨e', List.mem_cons_of_mem _ h1, h2⟩
theorem bs_get : ∀ (r : List Oper) (acc : List Nat), (bs r acc).length = acc.length + r.length ∧ (∀ j, j < acc.length → (bs r acc)[j]? = acc[j]?) ∧
  ∀ (i : Nat) (o : Oper), r[i]? = some o → ∃ x, (bs r acc)[acc.length + i]? = some (eb x o.after.toList) ∧ ∀ j, j < acc.length + i → x[j]? = (bs r acc)[j]?
 | [], acc => ⟨rfl, fun _ _ => rfl, fun i o h => (by cases h)⟩
 | o :: r, acc => by
  obtain ⟨h1, h2, h3⟩ := bs_get r (acc ++ [eb acc o.after.toList])
  simp only [List.length_append, List.length_cons, List.length_nil, Nat.zero_add] at h1 h2 h3
  unfold bs
  refine ⟨by rw [h1]; simp; omega, fun j hj => ?_, fun i o' ho => ?_⟩
  ·rw [h2 j (by omega), List.getElem?_append_left hj]
  ·cases i with
   | zero =>
    simp only [List.getElem?_cons_zero, Option.some.injEq] at ho
    subst ho
    refine ⟨acc, ?_, fun j hj => ?_⟩
    ·rw [Nat.add_zero, h2 acc.length (by omega)]; simp
    ·rw [h2 j (by omega), List.getElem?_append_left (by omega)]
   | succ i =>
    obtain ⟨x, h4, h5⟩ := h3 i o' (by simpa using ho)
    refine ⟨x, ?_, fun j hj => h5 j (by omega)⟩
    rw [← h4]; congr 1; omega
theorem lowE_spec {k : Nat} : ∀ {l : List Edge}, lowE k l = true → ∀ e ∈ l, Region.binds .any e = true → e.on < k
 | [], _, e, he, _ => by cases he
 | x :: l, h, e, he, hb => by
  unfold lowE at h
  simp only [Bool.and_eq_true, Bool.or_eq_true, Bool.not_eq_true'] at h
  cases he with
  | head =>
   rcases h.1 with h' | h'
   ·rw [hb] at h'; cases h'
   ·exact Nat.le_of_ble_eq_true h'
  | tail _ he => exact lowE_spec h.2 e he hb
theorem lowB_spec : ∀ {l : List Oper} {k : Nat}, lowB k l = true → ∀ (i : Nat) (o : Oper), l[i]? = some o → ∀ e ∈ o.after.toList, Region.binds .any e = true → e.on < k + i
 | [], _, _, i, o, ho, _, _, _ => by cases ho
 | x :: l, k, h, i, o, ho, e, he, hb => by
  unfold lowB at h
  rw [Bool.and_eq_true] at h
  cases i with
  | zero => simp only [List.getElem?_cons_zero, Option.some.injEq] at ho; subst ho; exact lowE_spec h.1 e he hb
  | succ i => have := lowB_spec h.2 i o (by simpa using ho) e he hb; omega
theorem prI_spec {ops : Array Oper} {B : Nat} {o : Oper} {f : Fp} : ∀ {l : List (Oper × Fp)} {i : Nat}, prI ops B o f i l = true → ∀ (j : Nat) (o' : Oper) (f' : Fp), l[j]? = some (o', f') → B.testBit (i + j) = true ∨ (Oper.apart ops o' o = true ∧ fpo f' f = true)
 | [], _, _, j, o', f', h => by cases h
 | (x, y) :: l, i, h, j, o', f', ho => by
  unfold prI at h
  simp only [Bool.and_eq_true, Bool.or_eq_true] at h
  cases j with
  | zero => simp only [List.getElem?_cons_zero, Option.some.injEq, Prod.mk.injEq] at ho; obtain ⟨rfl, rfl⟩ := ho; exact h.1
  | succ j => have := prI_spec h.2 j o' f' (by simpa using ho); rwa [show i + 1 + j = i + (j + 1) by omega] at this
theorem prJ_spec {ops : Array Oper} : ∀ {l pre : List (Oper × Fp)} {Bs : List Nat}, prJ ops pre l Bs = true → ∀ (j : Nat) (o : Oper) (f : Fp), l[j]? = some (o, f) → ∃ B, Bs[j]? = some B ∧
  ∀ (i : Nat) (o' : Oper) (f' : Fp), i < pre.length + j → (pre ++ l)[i]? = some (o', f') → B.testBit i = true ∨ (Oper.apart ops o' o = true ∧ fpo f' f = true)
 | [], _, _, _, j, o, f, h => by cases h
 | _ :: _, _, [], h, _, _, _, _ => by simp [prJ] at h
 | (x, y) :: l, pre, B :: Bs, h, j, o, f, ho => by
  unfold prJ at h
  rw [Bool.and_eq_true] at h
  cases j with
  | zero =>
   simp only [List.getElem?_cons_zero, Option.some.injEq, Prod.mk.injEq] at ho
   obtain ⟨rfl, rfl⟩ := ho
   refine ⟨B, rfl, fun i o' f' hi ho' => ?_⟩
   have := prI_spec h.1 i o' f' (by rw [← ho', List.getElem?_append_left (by omega)])
   rwa [Nat.zero_add] at this
  | succ j =>
   obtain ⟨B', h1, h2⟩ := prJ_spec h.2 j o f (by simpa using ho)
   refine ⟨B', by simpa using h1, fun i o' f' hi ho' => h2 i o' f' (by simp; omega) (by simpa using ho')⟩
structure Ok (ops : Array Oper) (fp : Nat → Fp) (an : Nat → Nat → Prop) : Prop where
 low : ∀ (i : Nat) (o : Oper), ops[i]? = some o → ∀ e ∈ o.after, Region.binds .any e = true → e.on < i
 sel : ∀ (i : Nat) (o : Oper) cs b, ops[i]? = some o → o.op ≠ .select cs b
 anc : ∀ (j i : Nat) (o : Oper), ops[j]? = some o → an j i → ∃ e ∈ o.after, Region.binds .any e = true ∧ (e.on = i ∨ an e.on i)
 two : ∀ (i j : Nat) (o o' : Oper), i < j → ops[i]? = some o → ops[j]? = some o' → an j i ∨ (Oper.apart ops o o' = true ∧ fpo (fp i) (fp j) = true)
theorem okR_spec {ops : Array Oper} {T : RL} (hl : T.l.length = ops.size) (h : okR ops (T.l.map (·.2)) = true) :
  Ok ops T.fp fun j i => ((bs ops.toList []).getD j 0).testBit i = true := by
 unfold okR at h
 simp only [Bool.and_eq_true] at h
 obtain ⟨h1, h2, _, h3⟩ := h
 have h4 := lowB_spec h1
 refine ⟨fun i o ho e he hb => ?_, fun i o cs b ho => Region.noSelect_spec h2 i o cs b ho, fun j i o ho han => ?_, fun i j o o' hij ho ho' => ?_⟩
 ·have := h4 i o (by simpa using ho) e (by simpa using he) hb; omega
 ·obtain ⟨g1, g2, g3⟩ := bs_get ops.toList []
  obtain ⟨x, g4, g5⟩ := g3 j o (by simpa using ho)
  simp only [List.length_nil, Nat.zero_add] at g4 g5
  rw [List.getD_eq_getElem?_getD, g4] at han
  obtain ⟨e, he, hb, hc⟩ := eb_spec han
  refine ⟨e, by simpa using he, hb, ?_⟩
  rcases hc with hc | hc
  ·exact .inl hc
  ·refine .inr ?_
   have hlt := h4 j o (by simpa using ho) e he hb
   rw [List.getD_eq_getElem?_getD, g5 e.on (by omega)] at hc
   rw [List.getD_eq_getElem?_getD]
   exact hc
 ·have hz : ∀ (k : Nat) (o : Oper), ops[k]? = some o → (ops.toList.zip (T.l.map (·.2)))[k]? = some (o, T.fp k) := fun k o ho => by
   have hk : k < T.l.length := by rw [hl]; exact (Array.getElem?_eq_some_iff.1 ho).1
   rw [List.getElem?_zip_eq_some]
   refine ⟨by simpa using ho, ?_⟩
   unfold RL.fp
   rw [List.getElem?_map, List.getElem?_eq_getElem hk]; rfl
  obtain ⟨B, g1, g2⟩ := prJ_spec h3 j o' (T.fp j) (hz j o' ho')
  have := g2 i o (T.fp i) (by simp; exact hij) (by simpa using hz i o ho)
  rcases this with h | h
  ·exact .inl (by rw [List.getD_eq_getElem?_getD, g1]; exact h)
  ·exact .inr h
theorem dj_spec {a b : List Nat} (h : dj a b = true) {k : Nat} (ha : k ∈ a) (hb : k ∈ b) : False := by
 unfold dj at h
 simp only [List.all_eq_true, Bool.not_eq_true'] at h
 have := h k ha k hb
 simp at this
theorem fpo_spec {f f' : Fp} (h : fpo f f' = true) {k : Nat} : (k ∈ f.w → k ∉ f'.r ∧ k ∉ f'.w) ∧ (k ∈ f.r → k ∉ f'.w) := by
 unfold fpo at h
 simp only [Bool.and_eq_true] at h
 exact ⟨fun hk => ⟨fun h' => dj_spec h.2.1 hk h', fun h' => dj_spec h.1 hk h'⟩, fun hk h' => dj_spec h.2.2 hk h'⟩
structure Cn (N : Nat) (W : World) (D : Nat → Prop) (ι0 : Nat → Prop) (at_ : Nat → AV) (x : Nat → Option Bx) (η : Nat → Value) (ι : Nat → Prop) (a : Act) (w : World) : Prop where
 tm : ∀ t, a.tmps.getD t undef = (at_ t).c η
 sc : ∀ t, ∀ k ∈ (at_ t).js, ∃ B, x k = some B
 ok : ∀ k B, x k = some B → OOk w ι η (η k) B.o
 ob : ∀ k B, x k = some B → ∀ j ∈ B.o.js, ∃ B', x j = some B'
 ne : ∀ k k' B B' g, x k = some B → x k' = some B' → mb (η k) B.o = some g → mb (η k') B'.o = some g → k' = k
 ni : ∀ k B g, x k = some B → mb (η k) B.o = some g → ¬ ι g ∧ (D g ∨ W.heap.size ≤ g)
 il : ∀ g, ι g → g < w.heap.size
 ig : ∀ g, ι g → ι0 g ∨ D g ∨ W.heap.size ≤ g
 iu : ∀ g, ι0 g → ι g
 st : Keep D W w
 sz : a.tmps.size = N
def Cls (ops : Array Oper) (l : Nat → Bool) : Prop := ∀ (j : Nat) (o : Oper), ops[j]? = some o → l j = true → ∀ e ∈ o.after, Region.binds .any e = true → l e.on = true
theorem Ok.up {ops : Array Oper} {fp : Nat → Fp} {an : Nat → Nat → Prop} (h : Ok ops fp an) {l : Nat → Bool} (hc : Cls ops l) : ∀ (j : Nat) (o : Oper), ops[j]? = some o → (∀ e ∈ o.after, Region.binds .any e = true → l e.on = true) → ∀ i, an j i → l i = true := by
 intro j
 induction j using Nat.strongRecOn with
 | _ j ih =>
  intro o ho hd i ha
  obtain ⟨e, he, hb, hi⟩ := h.anc j i o ho ha
  rcases hi with hi | hi
  ·rw [← hi]; exact hd e he hb
  ·have hlt := h.low j o ho e he hb
   have hj := (Array.getElem?_eq_some_iff.1 ho).1
   have ho' : ops[e.on]? = some ops[e.on] := Array.getElem?_eq_getElem (by omega)
   exact ih e.on hlt _ ho' (hc e.on _ ho' (hd e he hb)) i hi
theorem getD_set (l : Array Bool) (i k : Nat) (h : i < l.size) : (l.setIfInBounds i true).getD k false = (decide (k = i) || l.getD k false) := by
 simp only [Array.getD_eq_getD_getElem?, Array.getElem?_setIfInBounds]
 by_cases e : i = k
 ·subst e; simp [h]
 ·have : ¬ k = i := fun e' => e e'.symm
  simp [e, this]
theorem slV_slice (v : Value) : ∃ a n c, slV v = .slice a n c := by
 unfold slV; split
 ·exact ⟨_, _, _, rfl⟩
 ·exact ⟨_, _, _, rfl⟩
theorem notBool {η : Nat → Value} {v : AV} {c : Bool} (h : v.c η = .bool c) : v = .a (.v (.bool c)) := by
 cases v with
 | a x =>
  cases x with
  | v y => simp only [AV.c, AC.c] at h; rw [h]
  | p j o => cases h
  | s j o n c => cases h
  | w j => simp only [AV.c, AC.c] at h; obtain ⟨a, n, c', e⟩ := slV_slice (η j); rw [e] at h; cases h
  | e j z i o => cases h
  | f fn j o => cases h
 | g l => cases h
 | t l => cases h
 | f fn fs cs => cases h
theorem yield_wt {s : St} {ops : Array Oper} {o : Oper} {a : Act} {η : Nat → Value} (h : ∀ t, t ∈ o.looksAt ops → a.tmps.getD t undef = (s.at t).c η) : Region.wanted o (yielded ops a.tmps) = wt s ops o := by
 unfold Region.wanted wt
 cases hg : o.guard with
 | none => rfl
 | some jb =>
  obtain ⟨j, b⟩ := jb
  simp only
  unfold yielded
  cases hd : (ops[j]?).bind (·.dst) with
  | none => simp
  | some d =>
   have h1 := h d (by unfold Oper.looksAt; rw [hg]; simp [hd])
   rw [Array.getD_eq_getD_getElem?] at h1
   simp only [Option.bind_some]
   by_cases hb : ∃ c, s.at d = .a (.v (.bool c))
   ·obtain ⟨c, hc⟩ := hb
    rw [hc] at h1 ⊢
    simp only [AV.c, AC.c] at h1
    cases hv : a.tmps[d]? with
    | none => rw [hv] at h1; cases h1
    | some v => rw [hv] at h1; simp only [Option.getD_some] at h1; rw [h1]; simp
   ·have e2 : ∀ (x : Bool), (match s.at d with
     | .a (.v (.bool c)) => c == b
     | _ => false) = false := by
     intro _
     split
     ·rename_i c hc; exact absurd ⟨c, hc⟩ hb
     ·rfl
    refine Eq.trans ?_ (e2 true).symm
    cases hv : a.tmps[d]? with
    | none => rfl
    | some v =>
     rw [hv] at h1
     simp only [Option.getD_some] at h1
     cases v with
     | bool c => exact absurd ⟨c, notBool h1.symm⟩ hb
     | _ => rfl
end
end Go.Eo
namespace Go.Eo
open Go Go.RowKit Go.Rg
section
variable {P : Program} {N : Nat} {W : World} {D : Nat → Prop}
def wrT (ops : Array Oper) (t : Nat) (k : Nat) : Bool := decide ((ops[k]?).bind (·.dst) = some t)
def wrX (T : RL) (k : Nat) (j : Nat) : Bool := decide (k ∈ (T.fp j).w)
def cur (T : RL) (ops : Array Oper) (l : Nat → Bool) (t : Nat) : AV := (T.st (lw l (wrT ops t) ops.size)).at t
def curx (T : RL) (ops : Array Oper) (l : Nat → Bool) (k : Nat) : Option Bx := (T.st (lw l (wrX T k) ops.size)).x[k]?
structure Hy (P : Program) (N : Nat) (W : World) (D : Nat → Prop) (ops : Array Oper) (T : RL) (an : Nat → Nat → Prop) (γ0 : Nat → Value) : Prop where
 sh : ∀ (i : Nat) (o : Oper), ops[i]? = some o → SpS N (T.st i) (T.st (i + 1)) o (T.fp i)
 ok : Ok ops T.fp an
 q : Eqs T.q
 kn : Kn (T.st 0) γ0
 s0 : Sc (T.st 0)
 pl : ∀ (i : Nat) (o : Oper), ops[i]? = some o → plainOp o = true
variable {ops : Array Oper} {T : RL} {an : Nat → Nat → Prop} {γ0 : Nat → Value} (H : Hy P N W D ops T an γ0)
include H
theorem Hy.get {i : Nat} (hi : i < ops.size) : ∃ o, ops[i]? = some o := have _ := H; ⟨_, Array.getElem?_eq_getElem hi⟩
theorem Hy.frT (t : Nat) : ∀ k, k < ops.size → wrT ops t k = false → (T.st (k + 1)).at t = (T.st k).at t := fun k hk hw => by
 obtain ⟨o, ho⟩ := H.get hk
 refine (H.sh k o ho).at_ t ?_
 unfold wrT at hw
 rw [ho] at hw
 simpa using hw
theorem Hy.frX (j : Nat) : ∀ k, k < ops.size → wrX T j k = false → (T.st (k + 1)).x[j]? = (T.st k).x[j]? := fun k hk hw => by
 obtain ⟨o, ho⟩ := H.get hk
 refine (H.sh k o ho).xs.oth j ?_
 unfold wrX at hw
 simpa using hw
theorem Hy.len (i j : Nat) (h : i ≤ j) (hj : j ≤ ops.size) : (T.st i).x.length ≤ (T.st j).x.length := by
 induction j with
 | zero =>
  have : i = 0 := by omega
  subst this; exact Nat.le_refl _
 | succ j ih =>
  by_cases e : i = j + 1
  ·subst e; exact Nat.le_refl _
  ·obtain ⟨o, ho⟩ := H.get (show j < ops.size by omega)
   exact Nat.le_trans (ih (by omega) (by omega)) (H.sh j o ho).xs.len
theorem Hy.told (i : Nat) (hi : i ≤ ops.size) : ∀ (k : Nat) (B : Bx) (b : Value), (T.st i).x[k]? = some B → B.k = some b → ∃ B0 : Bx, (T.st 0).x[k]? = some B0 ∧ B0.k = some b := by
 induction i with
 | zero => exact fun k B b h1 h2 => ⟨B, h1, h2⟩
 | succ i ih =>
  intro k B b h1 h2
  obtain ⟨o, ho⟩ := H.get (show i < ops.size by omega)
  obtain ⟨B', h3, h4⟩ := (H.sh i o ho).xs.kk k B b h1 h2
  exact ih (by omega) k B' b h3 h4
theorem Hy.scs (i : Nat) (hi : i ≤ ops.size) : Sc (T.st i) := by
 induction i with
 | zero => exact H.s0
 | succ i ih =>
  obtain ⟨o, ho⟩ := H.get (show i < ops.size by omega)
  exact (ih (by omega)).step (H.sh i o ho)
section
variable {l : Nat → Bool} (hc : Cls ops l) {i : Nat} {o : Oper} (ho : ops[i]? = some o) (hun : l i = false) (hall : ∀ e ∈ o.after, Region.binds .any e = true → l e.on = true)
include hc ho hun hall
theorem Hy.pre {k : Nat} (h : an i k) : l k = true := have _ := hun; H.ok.up hc i o ho hall k h
theorem Hy.post {k : Nat} (hk : k < ops.size) (h : an k i) : l k = false := by
 have _ := ho; have _ := hall
 cases hl : l k with
 | false => rfl
 | true =>
  obtain ⟨o', ho'⟩ := H.get hk
  have := H.ok.up hc k o' ho' (hc k o' ho' hl) i h
  rw [hun] at this; cases this
theorem Hy.apT {k : Nat} {o' : Oper} (hk : k ≠ i) (ho' : ops[k]? = some o') : (k < i ∧ an i k ∨ i < k ∧ an k i) ∨ (Oper.apart ops o' o = true ∨ Oper.apart ops o o' = true) ∧ (fpo (T.fp k) (T.fp i) = true ∨ fpo (T.fp i) (T.fp k) = true) := by
 have _ := hc; have _ := hun; have _ := hall
 rcases Nat.lt_or_ge k i with h | h
 ·rcases H.ok.two k i o' o h ho' ho with h' | h'
  ·exact .inl (.inl ⟨h, h'⟩)
  ·exact .inr ⟨.inl h'.1, .inl h'.2⟩
 ·have h : i < k := by omega
  rcases H.ok.two i k o o' h ho ho' with h' | h'
  ·exact .inl (.inr ⟨h, h'⟩)
  ·exact .inr ⟨.inr h'.1, .inr h'.2⟩
theorem Hy.ordT {k : Nat} (hk : k < ops.size) {t : Nat} (ht : t ∈ o.looksAt ops ∨ o.dst = some t) (hw : wrT ops t k = true) : (k < i → l k = true) ∧ (i ≤ k → l k = false) := by
 by_cases e : k = i
 ·subst e; exact ⟨fun h => absurd h (Nat.lt_irrefl _), fun _ => hun⟩
 ·obtain ⟨o', ho'⟩ := H.get hk
  unfold wrT at hw
  rw [ho'] at hw
  simp only [Option.bind_some, decide_eq_true_eq] at hw
  rcases H.apT hc ho hun hall e ho' with (⟨h1, h2⟩ | ⟨h1, h2⟩) | ⟨h1, _⟩
  ·exact ⟨fun _ => H.pre hc ho hun hall h2, fun h => by omega⟩
  ·exact ⟨fun h => by omega, fun _ => H.post hc ho hun hall hk h2⟩
  ·exfalso
   rcases h1 with h1 | h1
   ·obtain ⟨a1, a2, a3⟩ := Oper.apart_spec h1
    rcases ht with ht | ht
    ·exact a1 t hw ht
    ·exact a2 t hw ht
   ·obtain ⟨a1, a2, a3⟩ := Oper.apart_spec h1
    rcases ht with ht | ht
    ·exact a3 t hw ht
    ·exact a2 t ht hw
theorem Hy.ordX {k : Nat} (hk : k < ops.size) {j : Nat} (ht : j ∈ (T.fp i).r ∨ j ∈ (T.fp i).w) (hw : wrX T j k = true) : (k < i → l k = true) ∧ (i ≤ k → l k = false) := by
 by_cases e : k = i
 ·subst e; exact ⟨fun h => absurd h (Nat.lt_irrefl _), fun _ => hun⟩
 ·obtain ⟨o', ho'⟩ := H.get hk
  unfold wrX at hw
  simp only [decide_eq_true_eq] at hw
  rcases H.apT hc ho hun hall e ho' with (⟨h1, h2⟩ | ⟨h1, h2⟩) | ⟨_, h1⟩
  ·exact ⟨fun _ => H.pre hc ho hun hall h2, fun h => by omega⟩
  ·exact ⟨fun h => by omega, fun _ => H.post hc ho hun hall hk h2⟩
  ·exfalso
   rcases h1 with h1 | h1
   ·have := (fpo_spec h1 (k := j)).1 hw
    rcases ht with ht | ht
    ·exact this.1 ht
    ·exact this.2 ht
   ·rcases ht with ht | ht
    ·exact (fpo_spec h1 (k := j)).2 ht hw
    ·exact ((fpo_spec h1 (k := j)).1 ht).2 hw
theorem Hy.curT {t : Nat} (ht : t ∈ o.looksAt ops ∨ o.dst = some t) : cur T ops l t = (T.st i).at t := by
 have hi := (Array.getElem?_eq_some_iff.1 ho).1
 unfold cur
 exact lw_eq (sq := fun j => (T.st j).at t) (by omega) (H.frT t) (fun k hk hw => (H.ordT hc ho hun hall (by omega) ht hw).1 hk) (fun k h1 h2 hw => (H.ordT hc ho hun hall h2 ht hw).2 h1)
theorem Hy.curX {j : Nat} (ht : j ∈ (T.fp i).r ∨ j ∈ (T.fp i).w) : curx T ops l j = (T.st i).x[j]? := by
 have hi := (Array.getElem?_eq_some_iff.1 ho).1
 unfold curx
 exact lw_eq (sq := fun q => (T.st q).x[j]?) (by omega) (H.frX j) (fun k hk hw => (H.ordX hc ho hun hall (by omega) ht hw).1 hk) (fun k h1 h2 hw => (H.ordX hc ho hun hall h2 ht hw).2 h1)
section
variable {l' : Nat → Bool} (hl' : ∀ k, l' k = (decide (k = i) || l k))
include hl'
theorem Hy.curT' {t : Nat} : cur T ops l' t = if o.dst = some t then (T.st (i + 1)).at t else cur T ops l t := by
 have hi := (Array.getElem?_eq_some_iff.1 ho).1
 unfold cur
 split
 ·rename_i hd
  rw [lw_set_self hi (by unfold wrT; rw [ho]; simp [hd]) (by rw [hl' i]; simp) (fun k h1 h2 hw => by
   rw [hl' k, (H.ordT hc ho hun hall h2 (.inr hd) hw).2 (by omega)]
   have : ¬ k = i := by omega
   simp [this])]
 ·rename_i hd
  rw [lw_set_other (i := i) (lst := l) (lst' := l') (by unfold wrT; rw [ho]; simpa using hd) (fun k hk => by rw [hl' k]; simp [hk])]
theorem Hy.curX' {j : Nat} : curx T ops l' j = if j ∈ (T.fp i).w then (T.st (i + 1)).x[j]? else curx T ops l j := by
 have hi := (Array.getElem?_eq_some_iff.1 ho).1
 unfold curx
 split
 ·rename_i hd
  rw [lw_set_self hi (by unfold wrX; simp [hd]) (by rw [hl' i]; simp) (fun k h1 h2 hw => by
   rw [hl' k, (H.ordX hc ho hun hall h2 (.inr hd) hw).2 (by omega)]
   have : ¬ k = i := by omega
   simp [this])]
 ·rename_i hd
  rw [lw_set_other (i := i) (lst := l) (lst' := l') (by unfold wrX; simpa using hd) (fun k hk => by rw [hl' k]; simp [hk])]
end
end
theorem Hy.curT0 {l : Nat → Bool} (hl : ∀ k, l k = false) (t : Nat) : cur T ops l t = (T.st 0).at t := by
 unfold cur
 exact lw_eq (sq := fun j => (T.st j).at t) (by omega) (H.frT t) (fun k hk hw => by omega) (fun k h1 h2 hw => hl k)
theorem Hy.curX0 {l : Nat → Bool} (hl : ∀ k, l k = false) (j : Nat) : curx T ops l j = (T.st 0).x[j]? := by
 unfold curx
 exact lw_eq (sq := fun q => (T.st q).x[j]?) (by omega) (H.frX j) (fun k hk hw => by omega) (fun k h1 h2 hw => hl k)
theorem Hy.curT1 {l : Nat → Bool} (hl : ∀ k, k < ops.size → l k = true) (t : Nat) : cur T ops l t = (T.st ops.size).at t := by
 unfold cur
 exact lw_eq (sq := fun j => (T.st j).at t) (Nat.le_refl _) (H.frT t) (fun k hk hw => hl k hk) (fun k h1 h2 hw => by omega)
theorem Hy.curX1 {l : Nat → Bool} (hl : ∀ k, k < ops.size → l k = true) (j : Nat) : curx T ops l j = (T.st ops.size).x[j]? := by
 unfold curx
 exact lw_eq (sq := fun q => (T.st q).x[j]?) (Nat.le_refl _) (H.frX j) (fun k hk hw => hl k hk) (fun k h1 h2 hw => by omega)
end
end Go.Eo
namespace Go.Eo
open Go Go.RowKit Go.Rg
section
variable {P : Program} {N : Nat} {W : World} {D : Nat → Prop} {ops : Array Oper} {T : RL} {an : Nat → Nat → Prop} {γ0 : Nat → Value} {ι0 : Nat → Prop} (H : Hy P N W D ops T an γ0)
include H
omit H in
theorem owes_in {m : Nat} {r0 : Option Nat} {Q : Exit → Act → World → Prop} {o : Oper} {a : Act} {w : World} {K : Act → World → Prop} (hL : ¬ LetsOut Q) (hp : plainOp o = true) (h : o.wp P a w K Q) : o.wpIn (WF r0) m P a w K Q := by
 have h1 := wpIn_of_wp (n := m) h
 cases r0 with
 | none => exact h1
 | some l => exact wpIn_round l hp h1
theorem put_getD (a : Act) (d : Option Tmp) (v : Value) (hd : ∀ t, d = some t → t < a.tmps.size) (t : Nat) : (a.put d v).tmps.getD t undef = if d = some t then v else a.tmps.getD t undef := by
 have _ := H
 cases d with
 | none => simp [Act.put]
 | some d =>
  have := hd d rfl
  simp only [Act.put, Array.getD_eq_getD_getElem?, Array.getElem?_setIfInBounds, Option.some.injEq]
  by_cases e : d = t
  ·subst e; simp [this]
  ·simp [e]
theorem any_step {m : Nat} {r0 : Option Nat} {l l' : Nat → Bool} (hc : Cls ops l) {i : Nat} {o : Oper} (ho : ops[i]? = some o) (hsp : Sp P N W D ops o (T.st i) (T.fp i) (T.st (i + 1)) T.q) (hun : l i = false) (hall : ∀ e ∈ o.after, Region.binds .any e = true → l e.on = true) (hl' : ∀ k, l' k = (decide (k = i) || l k))
  {η : Nat → Value} {ι : Nat → Prop} {a : Act} {w : World} (hη : ∀ k, k < (T.st 0).x.length → η k = γ0 k) (hC : Cn N W D ι0 (cur T ops l) (curx T ops l) η ι a w) {Q : Exit → Act → World → Prop} (hL : ¬ LetsOut Q) {K : Act → World → Prop}
  (hK : ∀ η' ι' a' w', a'.defers = a.defers → (∀ k, k < (T.st 0).x.length → η' k = γ0 k) → Cn N W D ι0 (cur T ops l') (curx T ops l') η' ι' a' w' → K a' w') : wpOpIn (WF r0) m P ops Q i K a w := by
 have hi := (Array.getElem?_eq_some_iff.1 ho).1
 have hsh := H.sh i o ho
 have hx := hsh.xs
 have c1 : ∀ {t : Nat}, t ∈ o.looksAt ops → a.tmps.getD t undef = ((T.st i).at t).c η := fun {t} ht => by rw [hC.tm, H.curT hc ho hun hall (.inl ht)]
 have hkn : Kn (T.st i) η := fun k B b h1 h2 => by
  obtain ⟨B0, h3, h4⟩ := H.told i (by omega) k B b h1 h2
  rw [hη k (List.getElem?_eq_some_iff.1 h3).1]
  exact H.kn k B0 b h3 h4
 have seen : ∀ {j : Nat}, j ∈ (T.fp i).r ∨ j ∈ (T.fp i).w → curx T ops l j = (T.st i).x[j]? := fun h => H.curX hc ho hun hall h
 have seeo : ∀ {j : Nat} {ob : Ob}, j ∈ (T.fp i).r ∨ j ∈ (T.fp i).w → (T.st i).ob j = some ob → ∃ B, curx T ops l j = some B ∧ B.o = ob := fun h ho => by
  obtain ⟨B, h1, h2⟩ := ob_x ho
  exact ⟨B, by rw [seen h]; exact h1, h2⟩
 have hwm : ∀ g, g ∈ wm η (T.st i) ((T.fp i).r ++ (T.fp i).w) → ∃ j ∈ ((T.fp i).r ++ (T.fp i).w), ∃ B, curx T ops l j = some B ∧ mb (η j) B.o = some g := fun g hg => by
  obtain ⟨j, hj, ob, h1, h2⟩ := mem_wm.1 hg
  obtain ⟨B, h3, rfl⟩ := seeo (List.mem_append.1 hj) h1
  exact ⟨j, hj, B, h3, h2⟩
 -- what stands behind the step
 have fin : ∀ (η' : Nat → Value) (ι' : Nat → Prop) (v : Value) (w' : World), (∀ d, o.dst = some d → v = ((T.st (i + 1)).at d).c η') → Tr ι ι' η η' (T.st i) (T.st (i + 1)) ((T.fp i).r ++ (T.fp i).w) w w' → K (a.put o.dst v) w' := by
  intro η' ι' v w' hv ht
  have keep : ∀ k B, curx T ops l k = some B → η' k = η k := fun k B hB => by
   refine ht.old k ?_
   rcases Nat.lt_or_ge k (T.st i).x.length with h | h
   ·exact .inl h
   ·rcases Nat.lt_or_ge k (T.st (i + 1)).x.length with h' | h'
    ·exfalso
     have hw : k ∈ (T.fp i).w := Classical.byContradiction fun hn => by
      have := hx.oth k hn
      rw [List.getElem?_eq_none h, List.getElem?_eq_getElem h'] at this; cases this
     rw [seen (.inr hw), List.getElem?_eq_none h] at hB; cases hB
    ·exact .inr h'
  have hx' : ∀ k, curx T ops l' k = if k ∈ (T.fp i).w then (T.st (i + 1)).x[k]? else curx T ops l k := fun k => H.curX' hc ho hun hall hl'
  have hx2 : ∀ k, k ∈ (T.fp i).r ++ (T.fp i).w → curx T ops l' k = (T.st (i + 1)).x[k]? := fun k hk => by
   rw [hx']
   split
   ·rfl
   ·rename_i hw
    rw [hx.oth k hw]
    exact seen (List.mem_append.1 hk)
  have hx3 : ∀ k, k ∉ (T.fp i).r ++ (T.fp i).w → curx T ops l' k = curx T ops l k := fun k hk => by
   rw [hx', if_neg (fun h => hk (List.mem_append_right _ h))]
  have ht' : ∀ t, cur T ops l' t = if o.dst = some t then (T.st (i + 1)).at t else cur T ops l t := fun t => H.curT' hc ho hun hall hl'
  have alive : ∀ k B, curx T ops l k = some B → ∃ B', curx T ops l' k = some B' := fun k B hB => by
   rw [hx']
   split
   ·rename_i hw; exact ⟨_, List.getElem?_eq_getElem (hx.wlt k hw)⟩
   ·exact ⟨B, hB⟩
  have srcA : ∀ k, Src (T.st i) o (T.st (i + 1)).x.length ((T.fp i).r ++ (T.fp i).w) k → ∃ B', curx T ops l' k = some B' := fun k hk => by
   rcases hk with ⟨h1, h2⟩ | ⟨t', h1, h2⟩ | ⟨j, hj, ob, h1, h2⟩
   ·have hw : k ∈ (T.fp i).w := Classical.byContradiction fun hn => by
     have := hx.oth k hn
     rw [List.getElem?_eq_none h1, List.getElem?_eq_getElem h2] at this; cases this
    rw [hx', if_pos hw]; exact ⟨_, List.getElem?_eq_getElem h2⟩
   ·have hlk : t' ∈ o.looksAt ops := List.mem_append_left _ (List.mem_filterMap.2 ⟨.tmp t', h1, rfl⟩)
    rw [← H.curT hc ho hun hall (.inl hlk)] at h2
    obtain ⟨B, hB⟩ := hC.sc t' k h2
    exact alive k B hB
   ·obtain ⟨B, hB, rfl⟩ := seeo (List.mem_append.1 hj) h1
    rcases h2 with rfl | h2
    ·exact alive k B hB
    ·obtain ⟨B', hB'⟩ := hC.ob j B hB k h2
     exact alive k B' hB'
  have notw : ∀ k B g, k ∉ (T.fp i).r ++ (T.fp i).w → curx T ops l k = some B → mb (η k) B.o = some g → g ∉ wm η (T.st i) ((T.fp i).r ++ (T.fp i).w) := fun k B g hk hB hm hg => by
   obtain ⟨j, hj, B', h1, h2⟩ := hwm g hg
   have := hC.ne j k B' B g h1 hB h2 hm
   subst this; exact hk hj
  have wmD : ∀ g, g ∈ wm η (T.st i) ((T.fp i).r ++ (T.fp i).w) → ¬ ι g ∧ (D g ∨ W.heap.size ≤ g) := fun g hg => by
   obtain ⟨j, hj, B', h1, h2⟩ := hwm g hg
   exact hC.ni j B' g h1 h2
  have old : ∀ k B, k ∉ (T.fp i).r ++ (T.fp i).w → curx T ops l' k = some B → curx T ops l k = some B := fun k B hk hB => by rw [hx3 k hk] at hB; exact hB
  have new : ∀ k B, k ∈ (T.fp i).r ++ (T.fp i).w → curx T ops l' k = some B → (T.st (i + 1)).ob k = some B.o := fun k B hk hB => by rw [hx2 k hk] at hB; exact ob_of hB
  have two : ∀ k k' B B' g, k ∈ (T.fp i).r ++ (T.fp i).w → k' ∉ (T.fp i).r ++ (T.fp i).w → curx T ops l' k = some B → curx T ops l' k' = some B' → mb (η' k) B.o = some g → mb (η' k') B'.o = some g → False := fun k k' B B' g hk hk' hB hB' hm hm' => by
   have hB2 := old k' B' hk' hB'
   rw [keep k' B' hB2] at hm'
   rcases (ht.mbs k hk B.o g (new k B hk hB) hm).1 with h | h
   ·exact notw k' B' g hk' hB2 hm' h
   ·have := mb_lt (hC.ok k' B' hB2) hm'
    omega
  refine hK η' ι' _ w' (by unfold Act.put; split <;> rfl) (fun k hk => ?_) ⟨fun t => ?_, fun t k hk => ?_, fun k B hB => ?_, fun k B hB j hj => ?_, fun k k' B B' g hB hB' hm hm' => ?_, fun k B g hB hm => ?_, ht.ilt, fun g hg => ?_, fun g hg => ht.il g (hC.iu g hg), ?_, ?_⟩
  ·rw [← hη k hk]
   refine ht.old k (.inl ?_)
   have := H.len 0 i (by omega) (by omega)
   omega
  ·rw [put_getD (H := H) a o.dst v (fun t e => by rw [hC.sz]; exact hsh.dN t e), ht']
   by_cases hd : o.dst = some t
   ·rw [if_pos hd, if_pos hd]; exact hv t hd
   ·rw [if_neg hd, if_neg hd, hC.tm t]
    refine (AV.c_congr fun k hk => ?_).symm
    obtain ⟨B, hB⟩ := hC.sc t k hk
    exact keep k B hB
  ·rw [ht'] at hk
   by_cases hd : o.dst = some t
   ·rw [if_pos hd] at hk
    exact srcA k (hsh.sc t hd k hk)
   ·rw [if_neg hd] at hk
    obtain ⟨B, hB⟩ := hC.sc t k hk
    exact alive k B hB
  ·by_cases hw : k ∈ (T.fp i).r ++ (T.fp i).w
   ·exact ht.ok k hw B.o (new k B hw hB)
   ·have hB := old k B hw hB
    rw [keep k B hB]
    refine (hC.ok k B hB).stay ht.stay ht.il (fun g hg => ⟨fun h => (wmD g h).1 hg, hC.il g hg⟩) (fun g hm => notw k B g hw hB hm) (fun j hj => ?_)
    obtain ⟨B', hB'⟩ := hC.ob k B hB j hj
    exact keep j B' hB'
  ·by_cases hw : k ∈ (T.fp i).w
   ·rw [hx', if_pos hw] at hB
    exact srcA j (hx.osc k hw B hB j hj)
   ·rw [hx', if_neg hw] at hB
    obtain ⟨B', hB'⟩ := hC.ob k B hB j hj
    exact alive j B' hB'
  ·by_cases hw : k ∈ (T.fp i).r ++ (T.fp i).w <;> by_cases hw' : k' ∈ (T.fp i).r ++ (T.fp i).w
   ·exact (ht.mbs k hw B.o g (new k B hw hB) hm).2.2 k' hw' B'.o (new k' B' hw' hB') hm'
   ·exact (two k k' B B' g hw hw' hB hB' hm hm').elim
   ·exact (two k' k B' B g hw' hw hB' hB hm' hm).elim
   ·have hB := old k B hw hB
    have hB' := old k' B' hw' hB'
    rw [keep k B hB] at hm
    rw [keep k' B' hB'] at hm'
    exact hC.ne k k' B B' g hB hB' hm hm'
  ·by_cases hw : k ∈ (T.fp i).r ++ (T.fp i).w
   ·obtain ⟨h1, h2, _⟩ := ht.mbs k hw B.o g (new k B hw hB) hm
    refine ⟨h2, ?_⟩
    rcases h1 with h | h
    ·exact (wmD g h).2
    ·exact .inr (Nat.le_trans hC.st.size h)
   ·have hB := old k B hw hB
    rw [keep k B hB] at hm
    obtain ⟨h1, h2⟩ := hC.ni k B g hB hm
    refine ⟨fun hg => ?_, h2⟩
    rcases ht.inw g hg with h | h | h
    ·exact h1 h
    ·exact notw k B g hw hB hm h
    ·have := mb_lt (hC.ok k B hB) hm
     omega
  ·rcases ht.inw g hg with h | h | h
   ·exact hC.ig g h
   ·exact .inr (wmD g h).2
   ·exact .inr (.inr (Nat.le_trans hC.st.size h))
  ·refine ⟨ht.stay.os.trans hC.st.os, ht.stay.tape.trans hC.st.tape, ht.stay.output.trans hC.st.output, Nat.le_trans hC.st.size ht.stay.size, fun b hb hlt => ?_⟩
   rw [ht.stay.same b ?_ (Nat.lt_of_lt_of_le hlt hC.st.size)]
   ·exact hC.st.same b hb hlt
   ·intro hm
    rcases (wmD b hm).2 with h | h
    ·exact hb h
    ·omega
  ·unfold Act.put
   split
   ·simp [hC.sz]
   ·exact hC.sz
 unfold wpOpIn
 simp only [ho]
 rw [yield_wt (s := T.st i) (η := η) (fun t ht => c1 ht)]
 rcases hsp with ⟨h1, h2, h3, h4⟩ | ⟨h1, it, R, h2, h3, h4, h5, h6⟩
 ·rw [h1]
  simp only [Bool.false_eq_true, if_false]
  refine ⟨fun f _ => trivial, ?_⟩
  refine fin η ι undef w (fun d hd => ?_) ?_
  ·rw [(h4 d hd).2, put_at, if_pos rfl]; rfl
  ·rw [h2]; exact .refl hC.il (Below.refl _ _)
 ·rw [h1]
  simp only [if_true]
  refine owes_in hL (H.pl i o ho) (stp_sound (W := W) (D := D) (η := η) (ι := ι) h2 (fun cs b => H.ok.sel i o cs b ho) h6 (fun p hp => H.q p (h5 p hp)) (fun t ht => c1 (List.mem_append_left _ (List.mem_filterMap.2 ⟨.tmp t, ht, rfl⟩))) hkn (fun t ht k hk => (H.scs i (by omega)).t t k hk) (H.scs i (by omega)).o ?_ hC.st _ ?_)
  ·have e : ∀ j, j ∈ R.r ++ R.w → j ∈ (T.fp i).r ∨ j ∈ (T.fp i).w := fun j hj => by rw [← h3]; exact List.mem_append.1 hj
   refine ⟨fun j hj ob hob => ?_, fun j hj ob g hob hm => ?_, hC.il⟩
   ·obtain ⟨B, h7, rfl⟩ := seeo (e j hj) hob
    exact hC.ok j B h7
   ·obtain ⟨B, h7, rfl⟩ := seeo (e j hj) hob
    refine ⟨(hC.ni j B g h7 hm).1, mb_lt (hC.ok j B h7) hm, fun j' hj' ob' hob' hm' => ?_⟩
    obtain ⟨B', h8, rfl⟩ := seeo (e j' hj') hob'
    exact hC.ne j j' B B' g h7 h8 hm hm'
  ·intro η' ι' v w' hv ht
   rw [h4] at hv ht
   have : R.r ++ R.w = (T.fp i).r ++ (T.fp i).w := by rw [← h3]
   rw [this] at ht
   exact fin η' ι' v w' hv ht
theorem Cls.set {l l' : Nat → Bool} (hc : Cls ops l) {i : Nat} {o : Oper} (ho : ops[i]? = some o) (hall : ∀ e ∈ o.after, Region.binds .any e = true → l e.on = true) (hl' : ∀ k, l' k = (decide (k = i) || l k)) : Cls ops l' := have _ := H; fun j o' ho' hj e he hb => by
 rw [hl'] at hj ⊢
 by_cases ej : j = i
 ·subst ej; rw [ho] at ho'; cases ho'
  rw [hall e he hb]; simp
 ·simp only [ej, decide_false, Bool.false_or] at hj
  rw [hc j o' ho' hj e he hb]; simp
def Aft (N : Nat) (W : World) (D : Nat → Prop) (T : RL) (n : Nat) (γ0 : Nat → Value) (ι0 : Nat → Prop) (dfs : List Deferred) (Q : Exit → Act → World → Prop) : Prop :=
 ∀ γ' ι' a' w', a'.defers = dfs → (∀ k, k < (T.st 0).x.length → γ' k = γ0 k) → Cn N W D ι0 (T.st n).at (fun k => (T.st n).x[k]?) γ' ι' a' w' → Q .normal a' w'
theorem Hy.fin {l : Nat → Bool} (hl : ∀ k, k < ops.size → l k = true) {γ : Nat → Value} {ι : Nat → Prop} {a : Act} {w : World} (hC : Cn N W D ι0 (cur T ops l) (curx T ops l) γ ι a w) : Cn N W D ι0 (T.st ops.size).at (fun k => (T.st ops.size).x[k]?) γ ι a w := by
 have h1 : cur T ops l = (T.st ops.size).at := funext fun t => H.curT1 hl t
 have h2 : curx T ops l = fun k => (T.st ops.size).x[k]? := funext fun k => H.curX1 hl k
 rw [← h1, ← h2]; exact hC
theorem rd_all {listed : Array Bool} (hsz : listed.size = ops.size) (hr : Region.ready .any ops listed = []) : ∀ k, k < ops.size → listed.getD k false = true := by
 intro k
 induction k using Nat.strongRecOn with
 | _ k ih =>
  intro hk
  cases hd : listed.getD k false with
  | true => rfl
  | false =>
   exfalso
   have : k ∈ Region.ready .any ops listed := by
    refine mem_ready.2 ⟨?_, ops[k], Array.getElem?_eq_getElem hk, fun e he hb => ?_⟩
    ·have : k < listed.size := by omega
     simp [this] at hd ⊢; exact hd
    ·have := H.ok.low k ops[k] (Array.getElem?_eq_getElem hk) e he hb
     exact ih _ this (by omega)
   rw [hr] at this; cases this
omit H in
theorem cnt_set {fuel i : Nat} {listed : Array Bool} (hil : i < listed.size) (hin : i < ops.size) (hun' : listed.getD i false = false) (hcnt : ops.size ≤ fuel + 1 + (List.range ops.size).countP (fun k => listed.getD k false)) : ops.size ≤ fuel + (List.range ops.size).countP (fun k => (listed.setIfInBounds i true).getD k false) := by
 have hl' : ∀ k, (listed.setIfInBounds i true).getD k false = (decide (k = i) || listed.getD k false) := fun k => getD_set listed i k hil
 have : (List.range ops.size).countP (fun k => listed.getD k false) + 1 ≤ (List.range ops.size).countP (fun k => (listed.setIfInBounds i true).getD k false) := by
  have e1 : (fun k => (listed.setIfInBounds i true).getD k false) = fun k => (decide (k = i) || listed.getD k false) := funext hl'
  rw [e1]
  have gen : ∀ (L : List Nat), i ∈ L → L.countP (fun k => listed.getD k false) + 1 ≤ L.countP (fun k => (decide (k = i) || listed.getD k false)) := by
   intro L
   induction L with
   | nil => intro h; cases h
   | cons x L ihL =>
    intro hm
    rw [List.countP_cons, List.countP_cons]
    by_cases e : x = i
    ·subst e
     have : L.countP (fun k => listed.getD k false) ≤ L.countP (fun k => (decide (k = x) || listed.getD k false)) := List.countP_mono_left fun y _ hy => by simp only [hy, Bool.or_true]
     rw [hun']; simp; simpa using this
    ·have hm' : i ∈ L := by cases hm with
      | head => exact absurd rfl e
      | tail _ h => exact h
     have := ihL hm'
     have e2 : (decide (x = i) || listed.getD x false) = listed.getD x false := by simp [e]
     rw [e2]; omega
  exact gen _ (List.mem_range.2 hin)
 omega
theorem any_all {m : Nat} {r0 : Option Nat} {Q : Exit → Act → World → Prop} {dfs : List Deferred} {Z : Nat → Prop} (hS : ∀ (i : Nat) (o : Oper), ops[i]? = some o → Z i → Sp P N W D ops o (T.st i) (T.fp i) (T.st (i + 1)) T.q) (hL : ¬ LetsOut Q) (hQ : Aft N W D T ops.size γ0 ι0 dfs Q) : ∀ (fuel : Nat) (listed : Array Bool) (a : Act) (w : World) (γ : Nat → Value) (ι : Nat → Prop), listed.size = ops.size → Cls ops (fun k => listed.getD k false) → a.defers = dfs →
  (∀ k, k < (T.st 0).x.length → γ k = γ0 k) → Cn N W D ι0 (cur T ops fun k => listed.getD k false) (curx T ops fun k => listed.getD k false) γ ι a w →
  ops.size ≤ fuel + (List.range ops.size).countP (fun k => listed.getD k false) → (∀ i, listed.getD i false = false → Z i) → wpAnyIn (WF r0) m P .any ops Q fuel listed a w := by
 intro fuel
 induction fuel with
 | zero =>
  intro listed a w γ ι hsz hc hdf hγ hC hcnt hZ
  have hall : ∀ k, k < ops.size → listed.getD k false = true := fun k hk => by
   have h1 := List.countP_le_length (p := fun k => listed.getD k false) (l := List.range ops.size)
   have h2 : (List.range ops.size).countP (fun k => listed.getD k false) = (List.range ops.size).length := by rw [List.length_range] at *; omega
   exact List.countP_eq_length.1 h2 k (List.mem_range.2 hk)
  refine ⟨?_, hQ γ ι a w hdf hγ (H.fin hall hC)⟩
  cases hr : Region.ready .any ops listed with
  | nil => rfl
  | cons i r =>
   obtain ⟨hun, o, ho, _⟩ := mem_ready.1 (show i ∈ Region.ready .any ops listed by rw [hr]; exact List.mem_cons_self ..)
   have hin := (Array.getElem?_eq_some_iff.1 ho).1
   have := hall i hin
   have hil : i < listed.size := by omega
   simp [hil] at hun this; rw [hun] at this; cases this
 | succ fuel ih =>
  intro listed a w γ ι hsz hc hdf hγ hC hcnt hZ
  refine ⟨fun hr => hQ γ ι a w hdf hγ (H.fin (rd_all H hsz hr) hC), fun i hi => ?_⟩
  obtain ⟨hun, o, ho, hall⟩ := mem_ready.1 hi
  have hin := (Array.getElem?_eq_some_iff.1 ho).1
  have hil : i < listed.size := by omega
  have hun' : listed.getD i false = false := by simp [hil] at hun ⊢; exact hun
  have hl' : ∀ k, (listed.setIfInBounds i true).getD k false = (decide (k = i) || listed.getD k false) := fun k => getD_set listed i k hil
  refine any_step H hc ho (hS i o ho (hZ i hun')) hun' hall hl' hγ hC hL fun γ' ι' a' w' h1 h2 h3 => ?_
  have hcnt' := cnt_set hil hin hun' hcnt
  refine ih _ a' w' γ' ι' (by simpa using hsz) (Cls.set H hc ho hall hl') (h1.trans hdf) h2 h3 hcnt' fun k hk => hZ k (by rw [hl'] at hk; simp only [Bool.or_eq_false_iff] at hk; exact hk.2)
theorem none_lst (n k : Nat) : (Array.replicate n false).getD k false = false := by
 have _ := H
 rcases Nat.lt_or_ge k n with h | h
 ·simp [h]
 ·simp [h]
theorem any_reg {m : Nat} {r0 : Option Nat} {ι : Nat → Prop} {Q : Exit → Act → World → Prop} {a : Act} {w : World} (hS : ∀ (i : Nat) (o : Oper), ops[i]? = some o → Sp P N W D ops o (T.st i) (T.fp i) (T.st (i + 1)) T.q) (hL : ¬ LetsOut Q) (hQ : Aft N W D T ops.size γ0 ι0 a.defers Q) (hC : Cn N W D ι0 (T.st 0).at (fun k => (T.st 0).x[k]?) γ0 ι a w) :
  wpAnyIn (WF r0) m P .any ops Q ops.size (Array.replicate ops.size false) a w := by
 have hl := none_lst H ops.size
 refine any_all H (Z := fun _ => True) (fun i o ho _ => hS i o ho) hL hQ ops.size _ a w γ0 ι (by simp) (fun j o ho hj => by have hj' := hl j; simp only at hj; rw [hj'] at hj; cases hj) rfl (fun _ _ => rfl) ?_ (by omega) (fun _ _ => trivial)
 have h1 : (cur T ops fun k => (Array.replicate ops.size false).getD k false) = (T.st 0).at := funext fun t => H.curT0 hl t
 have h2 : (curx T ops fun k => (Array.replicate ops.size false).getD k false) = fun k => (T.st 0).x[k]? := funext fun k => H.curX0 hl k
 rw [h1, h2]; exact hC
theorem ops_all {m : Nat} {r0 : Option Nat} {Q : Exit → Act → World → Prop} {dfs : List Deferred} (hL : ¬ LetsOut Q) (hQ : Aft N W D T ops.size γ0 ι0 dfs Q) : ∀ (n i : Nat) (a : Act) (w : World) (γ : Nat → Value) (ι : Nat → Prop), (∀ (j : Nat) (o : Oper), ops[j]? = some o → i ≤ j → Sp P N W D ops o (T.st j) (T.fp j) (T.st (j + 1)) T.q) → i + n = ops.size → a.defers = dfs →
  (∀ k, k < (T.st 0).x.length → γ k = γ0 k) → Cn N W D ι0 (cur T ops fun k => decide (k < i)) (curx T ops fun k => decide (k < i)) γ ι a w → wpOpsIn (WF r0) m P ops Q (List.range' i n) a w
 | 0, i, a, w, γ, ι, hS, hi, hdf, hγ, hC => by
  exact hQ γ ι a w hdf hγ (H.fin (l := fun k => decide (k < i)) (fun k hk => by simp; omega) hC)
 | n + 1, i, a, w, γ, ι, hS, hi, hdf, hγ, hC => by
  rw [List.range'_succ, wpOpsIn_cons]
  obtain ⟨o, ho⟩ := H.get (show i < ops.size by omega)
  refine any_step H (l := fun k => decide (k < i)) (l' := fun k => decide (k < i + 1)) (fun j o' ho' hj e he hb => ?_) ho (hS i o ho (Nat.le_refl _)) (by simp) (fun e he hb => ?_) (fun k => ?_) hγ hC hL fun γ' ι' a' w' h1 h2 h3 => ops_all hL hQ n (i + 1) a' w' γ' ι' (fun j o ho hj => hS j o ho (by omega)) (by omega) (h1.trans hdf) h2 h3
  ·have := H.ok.low j o' ho' e he hb
   simp at hj ⊢; omega
  ·have := H.ok.low i o ho e he hb
   simpa using this
  ·by_cases e : k = i
   ·subst e; simp
   ·have : (k < i + 1) ↔ k < i := by omega
    simp [e, this]
theorem ops_reg {m : Nat} {r0 : Option Nat} {ι : Nat → Prop} {Q : Exit → Act → World → Prop} {a : Act} {w : World} (hS : ∀ (i : Nat) (o : Oper), ops[i]? = some o → Sp P N W D ops o (T.st i) (T.fp i) (T.st (i + 1)) T.q) (hL : ¬ LetsOut Q) (hQ : Aft N W D T ops.size γ0 ι0 a.defers Q) (hC : Cn N W D ι0 (T.st 0).at (fun k => (T.st 0).x[k]?) γ0 ι a w) :
  wpOpsIn (WF r0) m P ops Q (List.range ops.size) a w := by
 rw [List.range_eq_range']
 have hl : ∀ k, decide (k < 0) = false := fun k => by simp
 refine ops_all H hL hQ ops.size 0 a w γ0 ι (fun i o ho _ => hS i o ho) (by omega) rfl (fun _ _ => rfl) ?_
 have h1 : (cur T ops fun k => decide (k < 0)) = (T.st 0).at := funext fun t => H.curT0 hl t
 have h2 : (curx T ops fun k => decide (k < 0)) = fun k => (T.st 0).x[k]? := funext fun k => H.curX0 hl k
 rw [h1, h2]; exact hC
end
end Go.Eo
