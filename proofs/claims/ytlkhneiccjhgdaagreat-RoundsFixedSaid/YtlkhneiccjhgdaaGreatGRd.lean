/- The engine with objects is sound: one operation. No program in sight. -/
import Derived.Test.YtlkhneiccjhgdaaGreatGRc
import Derived.Great.FillDense
set_option linter.unusedVariables false
set_option linter.unusedSimpArgs false
namespace Go.Eo
open Go Go.RowKit Go.Rg
section
variable {P : Program} {N : Nat} {W : World} {D : Nat → Prop}
def wm (η : Nat → Value) (s : St) (ws : List Nat) : List Nat := ws.filterMap fun j => (s.ob j).bind (mb (η j))
theorem mem_wm {η : Nat → Value} {s : St} {ws : List Nat} {g : Nat} : g ∈ wm η s ws ↔ ∃ j ∈ ws, ∃ ob, s.ob j = some ob ∧ mb (η j) ob = some g := by
 unfold wm
 rw [List.mem_filterMap]
 constructor
 ·rintro ⟨j, hj, h⟩
  cases ho : s.ob j with
  | none => rw [ho] at h; cases h
  | some ob => rw [ho] at h; exact ⟨j, hj, ob, ho, h⟩
 ·rintro ⟨j, hj, ob, ho, h⟩
  exact ⟨j, hj, by rw [ho]; exact h⟩
structure Tr (ι ι' : Nat → Prop) (η η' : Nat → Value) (s s' : St) (ws : List Nat) (w w' : World) : Prop where
 stay : Stay (wm η s ws) w w'
 il : ∀ g, ι g → ι' g
 inw : ∀ g, ι' g → ι g ∨ g ∈ wm η s ws ∨ w.heap.size ≤ g
 ilt : ∀ g, ι' g → g < w'.heap.size
 old : ∀ j, j < s.x.length ∨ s'.x.length ≤ j → η' j = η j
 ok : ∀ j ∈ ws, ∀ ob, s'.ob j = some ob → OOk w' ι' η' (η' j) ob
 mbs : ∀ j ∈ ws, ∀ ob g, s'.ob j = some ob → mb (η' j) ob = some g → (g ∈ wm η s ws ∨ w.heap.size ≤ g) ∧ ¬ ι' g ∧ ∀ j' ∈ ws, ∀ ob', s'.ob j' = some ob' → mb (η' j') ob' = some g → j' = j
theorem Tr.refl {ι : Nat → Prop} {η : Nat → Value} {s s' : St} {w w' : World} (hil : ∀ g, ι g → g < w.heap.size) (h : Below w.heap.size w w') : Tr ι ι η η s s' [] w w' :=
 ⟨(Stay.refl _ _).call h, fun _ h => h, fun _ h => .inl h, fun g hg => Nat.lt_of_lt_of_le (hil g hg) h.size, fun _ _ => rfl, fun j hj => (by cases hj), fun j hj => (by cases hj)⟩
theorem put_at (s : St) (d : Nat) (v : AV) (t : Nat) : (s.put d v).at t = if d = t then v else s.at t := by
 unfold St.put St.at
 simp only [lk]
 cases h : Nat.beq d t with
 | true => have := Nat.eq_of_beq_eq_true h; simp [this]
 | false =>
  have : ¬ d = t := fun e => by rw [e] at h; simp at h
  simp [this]
theorem put_ob (s : St) (d : Nat) (v : AV) (j : Nat) : (s.put d v).ob j = s.ob j := rfl
def Eqs (q : List (Cl × Cl)) : Prop := ∀ p ∈ q, p.1 = p.2
def ItOk (P : Program) (W : World) (D : Nat → Prop) (Fn : FuncId → List Ob → List AV → List Ob → List Ob → AV → Prop) : It → Prop
 | .v _ x y => x = y
 | .c _ f args r => ∀ w, Keep D W w → Calls P f args w fun e w' => e = .returned r ∧ Below w.heap.size w w'
 | .m _ q r => ∀ w, Keep D W w → q.run P w = .ok (.value r) w
 | .i _ z n len => z = n ∧ n < len
 | .l _ es n e => es[n]? = some e
 | .b _ _ lo hi l h len => lo = l ∧ hi = h ∧ l ≤ h ∧ h ≤ len
 | .a _ n by_ => n ≤ maxLen ∧ n * by_ ≤ 140737488355328
 | .k _ l z n by_ => z = n ∧ n ≤ maxLen ∧ n * by_ ≤ 140737488355328 ∧ l ≤ n
 | .z _ _ => True
 | .n _ _ _ _ => True
 | .q _ _ _ _ _ => True
 | .o _ _ x y => x = y
 | .f _ fid _ _ obs args obs' ns r => Fn fid obs args obs' ns r
theorem fin_s (s : St) (d : Nat) (v : AV) (it : List It) (q : List (Cl × Cl)) (r w : List Nat) : ∃ v', (fin s d v it q r w).s = s.put d v' ∧ (fin s d v it q r w).r = r ∧ (fin s d v it q r w).w = w ∧ (∀ p ∈ q, p ∈ (fin s d v it q r w).q) ∧ (∀ i ∈ (fin s d v it q r w).it, i ∈ it) ∧
  ((v' = v) ∨ ∃ t z x y, v = .a (.v z) ∧ v' = .a (.v y) ∧ ((Cl.v z, Cl.v x) ∈ (fin s d v it q r w).q) ∧ It.v t x y ∈ it) := by
 unfold fin
 split
 ·rename_i t x y it'
  cases ht : Nat.beq t d with
  | false => exact ⟨v, rfl, rfl, rfl, fun p hp => hp, fun i hi => hi, .inl rfl⟩
  | true =>
   simp only [cond_true]
   split
   ·rename_i z
    exact ⟨.a (.v y), rfl, rfl, rfl, fun p hp => List.mem_cons_of_mem _ hp, fun i hi => List.mem_cons_of_mem _ hi, .inr ⟨t, z, x, y, rfl, rfl, List.mem_cons_self .., List.mem_cons_self ..⟩⟩
   ·exact ⟨v, rfl, rfl, rfl, fun p hp => hp, fun i hi => hi, .inl rfl⟩
 ·exact ⟨v, rfl, rfl, rfl, fun p hp => hp, fun i hi => hi, .inl rfl⟩
variable {Fn : FuncId → List Ob → List AV → List Ob → List Ob → AV → Prop}
theorem fin_v {s : St} {d : Nat} {v : AV} {it : List It} {q : List (Cl × Cl)} {r w : List Nat} (hq : Eqs (fin s d v it q r w).q) (hit : ∀ i ∈ it, ItOk P W D Fn i) :
  (fin s d v it q r w).s = s.put d v ∧ (fin s d v it q r w).r = r ∧ (fin s d v it q r w).w = w ∧ Eqs q := by
 obtain ⟨v', h1, h2, h3, h4, h5, h6⟩ := fin_s s d v it q r w
 refine ⟨?_, h2, h3, fun p hp => hq p (h4 p hp)⟩
 rcases h6 with h6 | ⟨t, z, x, y, e1, e2, h6, h7⟩
 ·rw [h1, h6]
 ·have e3 := hq _ h6
  have e4 := hit _ h7
  simp only [Cl.v.injEq, ItOk] at e3 e4
  rw [h1, e2, e1, e3, e4]
theorem dts_ok {w : World} {ι : Nat → Prop} : ∀ (e : List Dt) (n : Nat) (η : Nat → Value) (vals : List Value), vals.length = e.length → (∀ (j : Nat) (d : Dt), e[j]? = some d → ∃ x, vals[j]? = some x ∧ Rd w ι x d) →
  ∃ η' : Nat → Value, (∀ k, k < n ∨ n + (dts n e).2.length ≤ k → η' k = η k) ∧ (dts n e).1.map (·.c η') = vals ∧ (∀ k ∈ (dts n e).1.filterMap (·.j), n ≤ k ∧ k < n + (dts n e).2.length) ∧
   ∀ i B, (dts n e).2[i]? = some B → B.k = none ∧ ∃ z es, B.o = .sl z es ∧ Rd w ι (η' (n + i)) (.s z es)
 | [], n, η, vals, hl, h => by
  refine ⟨η, fun _ _ => rfl, ?_, fun k hk => (by cases hk), fun i B hB => (by cases hB)⟩
  cases vals with
  | nil => rfl
  | cons a l => cases hl
 | .v x :: l, n, η, vals, hl, h => by
  cases vals with
  | nil => cases hl
  | cons a vs =>
   obtain ⟨η', h1, h2, h3, h4⟩ := dts_ok l n η vs (by simpa using hl) (fun j d hj => by have := h (j + 1) d (by simpa using hj); simpa using this)
   refine ⟨η', h1, ?_, ?_, h4⟩
   ·obtain ⟨y, hy, hr⟩ := h 0 _ rfl
    simp only [List.getElem?_cons_zero, Option.some.injEq] at hy
    subst hy
    cases hr
    simp only [dts, List.map_cons, h2]; rfl
   ·intro k hk
    simp only [dts] at hk ⊢
    rw [List.filterMap_cons] at hk
    exact h3 k hk
 | .s z es :: l, n, η, vals, hl, h => by
  cases vals with
  | nil => cases hl
  | cons a vs =>
   obtain ⟨η', h1, h2, h3, h4⟩ := dts_ok l (n + 1) (fun k => if k = n then a else η k) vs (by simpa using hl) (fun j d hj => by have := h (j + 1) d (by simpa using hj); simpa using this)
   obtain ⟨y, hy, hr⟩ := h 0 _ rfl
   simp only [List.getElem?_cons_zero, Option.some.injEq] at hy
   subst hy
   have hn : η' n = a := by rw [h1 n (.inl (by omega))]; simp
   refine ⟨η', fun k hk => ?_, ?_, ?_, fun i B hB => ?_⟩
   ·simp only [dts, List.length_cons] at hk
    rw [h1 k (by omega)]
    have : ¬ k = n := by omega
    simp [this]
   ·simp only [dts, List.map_cons]
    rw [h2]
    simp only [AC.c, hn]
    cases hr
    rfl
   ·intro k hk
    simp only [dts, List.length_cons] at hk ⊢
    rw [List.filterMap_cons] at hk
    simp only [AC.j] at hk
    cases hk with
    | head => omega
    | tail _ hk => have := h3 k hk; omega
   ·cases i with
    | zero =>
     simp only [dts, List.getElem?_cons_zero, Option.some.injEq] at hB
     subst hB
     exact ⟨rfl, z, es, rfl, by rw [Nat.add_zero, hn]; exact hr⟩
    | succ i =>
     simp only [dts, List.getElem?_cons_succ] at hB
     have := h4 i B hB
     rwa [show n + 1 + i = n + (i + 1) by omega] at this
theorem mem_rgF {n m k : Nat} : k ∈ rgF m n ↔ m ≤ k ∧ k < m + n := by
 induction n generalizing m with
 | zero => simp only [rgF, List.not_mem_nil, false_iff]; omega
 | succ n ih => simp only [rgF, List.mem_cons, ih]; omega
section
variable {s : St} {o : Oper} {η : Nat → Value} {ι : Nat → Prop} {a : Act} {w : World} {K : Act → World → Prop} {Q : Exit → Act → World → Prop}
theorem wp_ok {v : Value} {w' : World} (hr : (execOp a.eval o).run P w = .ok (.value v) w') (hK : K (a.put o.dst v) w') : o.wp P a w K Q := by
 unfold Oper.wp; rw [hr]; exact hK
theorem wp_enter {f : FuncId} {args : Array Value} {R : Value → World → Prop} (hr : (execOp a.eval o).run P w = .ok (.enter f args) w)
  (hc : Calls P f args w fun e w' => ∃ r, e = .returned r ∧ R r w') (hK : ∀ r w', R r w' → K (a.put o.dst r) w') : o.wp P a w K Q := by
 unfold Oper.wp
 rw [hr, Oper.upon_enter]
 refine hc.mono fun e w' ⟨r, he, h⟩ => ?_
 subst he
 exact hK r w' h
theorem tr_new {η' : Nat → Value} {s' : St} {ws : List Nat} (hil : ∀ g, ι g → g < w.heap.size) (hx : s.x.length ≤ s'.x.length) (hws : ∀ j ∈ ws, s.x.length ≤ j) (hold : ∀ j, j < s.x.length ∨ s'.x.length ≤ j → η' j = η j)
  (hok : ∀ j ∈ ws, ∀ ob, s'.ob j = some ob → ∃ z es, ob = .sl z es ∧ Rd w ι (η' j) (.s z es)) : Tr ι ι η η' s s' ws w w := by
 have hwm : wm η s ws = [] := by
  refine List.eq_nil_iff_forall_not_mem.2 fun g hg => ?_
  obtain ⟨j, hj, ob, ho, _⟩ := mem_wm.1 hg
  have := hws j hj
  unfold St.ob at ho
  rw [List.getElem?_eq_none (by omega)] at ho
  cases ho
 refine ⟨by rw [hwm]; exact Stay.refl _ _, fun _ h => h, fun _ h => .inl h, hil, hold, fun j hj ob ho => ?_, fun j hj ob g ho hm => ?_⟩
 ·obtain ⟨z, es, rfl, h⟩ := hok j hj ob ho; exact h
 ·obtain ⟨z, es, rfl, h⟩ := hok j hj ob ho; cases hm
theorem tr_alloc {s' : St} {v : Value} {cells : Array Value} {T : TypeId} {ob : Ob} (hil : ∀ g, ι g → g < w.heap.size) (hx : s'.x.length = s.x.length + 1) (hob : s'.ob s.x.length = some ob)
  (hok : OOk (w.alloc (.cells cells T)) ι (fun k => if k = s.x.length then v else η k) v ob) (hm : ∀ g, mb v ob = some g → g = w.heap.size) :
  Tr ι ι η (fun k => if k = s.x.length then v else η k) s s' [s.x.length] w (w.alloc (.cells cells T)) := by
 have hwm : wm η s [s.x.length] = [] := by
  refine List.eq_nil_iff_forall_not_mem.2 fun g hg => ?_
  obtain ⟨j, hj, ob, ho, _⟩ := mem_wm.1 hg
  simp only [List.mem_singleton] at hj
  subst hj
  unfold St.ob at ho
  rw [List.getElem?_eq_none (Nat.le_refl _)] at ho
  cases ho
 have hsz : (w.alloc (.cells cells T)).heap.size = w.heap.size + 1 := by simp
 refine ⟨by rw [hwm]; exact (Stay.refl _ _).alloc _, fun _ h => h, fun _ h => .inl h, fun g hg => by have := hil g hg; omega, fun j hj => ?_, fun j hj ob' ho => ?_, fun j hj ob' g ho hg => ?_⟩
 ·have : ¬ j = s.x.length := by omega
  simp [this]
 ·simp only [List.mem_singleton] at hj
  subst hj
  rw [hob] at ho; cases ho
  simpa using hok
 ·simp only [List.mem_singleton] at hj
  subst hj
  rw [hob] at ho; cases ho
  simp only [if_true] at hg
  have := hm g hg
  subst this
  refine ⟨.inr (Nat.le_refl _), fun h => absurd (hil _ h) (Nat.lt_irrefl _), fun j' hj' _ _ _ => by simpa using hj'⟩
theorem ob_new (l : List Bx) (B : Bx) (d : Nat → Value) (u : List (Nat × AV)) : (⟨d, u, l ++ [B]⟩ : St).ob l.length = some B.o := by simp [St.ob]
end
theorem cells_js {v : AV} {cs : List AC} (h : v.cells = some cs) {k : Nat} (hk : k ∈ cs.filterMap (·.j)) : k ∈ v.js := by
 cases v with
 | a z =>
  cases z <;> simp only [AV.cells, Option.some.injEq] at h <;> subst h
  case v z =>
   obtain ⟨u, hu, hj'⟩ := List.mem_filterMap.1 hk
   obtain ⟨u', _, rfl⟩ := List.mem_map.1 hu
   cases hj'
  all_goals simpa [AV.js, AC.j] using hk
 | g z => cases h; exact hk
 | t z => cases h
 | f fn fs cs => obtain ⟨j, o, rfl, rfl, rfl⟩ := f_cells h; simpa [AV.js, AC.j] using hk
def Owes (P : Program) (s : St) (o : Oper) (η : Nat → Value) (ι : Nat → Prop) (a : Act) (w : World) (s' : St) (ws : List Nat) (Q : Exit → Act → World → Prop) : Prop :=
 ∀ K : Act → World → Prop, (∀ η' ι' v w', (∀ d, o.dst = some d → v = (s'.at d).c η') → Tr ι ι' η η' s s' ws w w' → K (a.put o.dst v) w') → o.wp P a w K Q
structure Loc (s : St) (η : Nat → Value) (ι : Nat → Prop) (w : World) (js : List Nat) : Prop where
 ok : ∀ j ∈ js, ∀ ob, s.ob j = some ob → OOk w ι η (η j) ob
 mi : ∀ j ∈ js, ∀ ob g, s.ob j = some ob → mb (η j) ob = some g → ¬ ι g ∧ g < w.heap.size ∧ ∀ j' ∈ js, ∀ ob', s.ob j' = some ob' → mb (η j') ob' = some g → j' = j
 il : ∀ g, ι g → g < w.heap.size
theorem Loc.sub {s : St} {η : Nat → Value} {ι : Nat → Prop} {w : World} {js js' : List Nat} (h : Loc s η ι w js) (hs : ∀ j ∈ js', j ∈ js) : Loc s η ι w js' :=
 ⟨fun j hj => h.ok j (hs j hj), fun j hj ob g ho hm => let ⟨h1, h2, h3⟩ := h.mi j (hs j hj) ob g ho hm; ⟨h1, h2, fun j' hj' => h3 j' (hs j' hj')⟩, h.il⟩
theorem ob_of {s : St} {j : Nat} {B : Bx} (h : s.x[j]? = some B) : s.ob j = some B.o := by unfold St.ob; rw [h]
section
variable {s : St} {o : Oper} {η : Nat → Value} {ι : Nat → Prop} {a : Act} {w : World} {Q : Exit → Act → World → Prop}
theorem owes_val {d : Nat} {v : AV} {s' : St} (hd : o.dst = some d) (hv : (s'.at d) = v) (hil : ∀ g, ι g → g < w.heap.size) (hr : (execOp a.eval o).run P w = .ok (.value (v.c η)) w) : Owes P s o η ι a w s' [] Q := fun K hK =>
 wp_ok hr (hK η ι _ w (fun d' e => by rw [hd] at e; cases e; rw [hv]) (.refl hil (Below.refl _ _)))
theorem dtl_ok {w : World} {ι : Nat → Prop} : ∀ {l : List AC} {ds : List Dt}, s.dtl l = some ds → (∀ x ∈ l, okC x = true) → Kn s η → (∀ k ∈ l.filterMap (·.j), ∀ ob, s.ob k = some ob → OOk w ι η (η k) ob) →
  ds.length = l.length ∧ ∀ (j : Nat) (d : Dt), ds[j]? = some d → ∃ x, (l.map (·.c η))[j]? = some x ∧ Rd w ι x d
 | [], ds, h, _, _, _ => by cases h; exact ⟨rfl, fun j d hd => by cases hd⟩
 | x :: l, ds, h, hc, hk, hob => by
  unfold St.dtl at h
  split at h
  ·rename_i d hd
   split at h
   ·rename_i r hr
    cases h
    obtain ⟨h1, h2⟩ := dtl_ok hr (fun y hy => hc y (List.mem_cons_of_mem _ hy)) hk (fun k hk' => hob k (by
     obtain ⟨y, hy, hj⟩ := List.mem_filterMap.1 hk'
     exact List.mem_filterMap.2 ⟨y, List.mem_cons_of_mem _ hy, hj⟩))
    refine ⟨by simp [h1], fun j d' hd' => ?_⟩
    cases j with
    | zero =>
     simp only [List.getElem?_cons_zero, Option.some.injEq] at hd'
     subst hd'
     refine ⟨x.c η, rfl, ?_⟩
     cases x with
     | v y => cases hd; exact .v _ (hc _ (List.mem_cons_self ..))
     | p j o =>
      simp only [St.dt] at hd
      split at hd
      ·rename_i v hv
       cases hd
       rw [ra_c hk hv]
       refine .v _ ?_
       rw [← ra_c hk hv]; rfl
      ·cases hd
     | w j =>
      simp only [St.dt] at hd
      split at hd
      ·rename_i z es ho
       cases hd
       have h3 := hob j (List.mem_filterMap.2 ⟨_, List.mem_cons_self .., rfl⟩) _ ho
       simp only [OOk] at h3
       simp only [AC.c]
       generalize η j = v at h3 ⊢
       cases h3 with
       | s f a0 a1 a2 a3 a4 a5 a6 => exact .s f a0 a1 a2 a3 a4 a5 a6
      ·cases hd
     | s j o n c => cases hd
     | e j z i o => cases hd
     | f fn j o => cases hd
    | succ j =>
     simp only [List.getElem?_cons_succ] at hd'
     simpa using h2 j d' hd'
   ·cases h
  ·cases h
theorem partsD_ok {w : World} {ι : Nat → Prop} : ∀ {l : List (Nat × Operand)} {k : Nat} {ds : List (List Dt)}, partsD s l k = some ds → Kn s η → (∀ p ∈ l, a.eval p.2 = (s.ov p.2).c η) → (∀ p ∈ l, ∀ j ∈ (s.ov p.2).js, ∀ ob, s.ob j = some ob → OOk w ι η (η j) ob) →
  ds.length = l.length ∧ (∀ (i : Nat) (p : Nat × Operand), l[i]? = some p → p.1 = k + i) ∧ ∀ (i : Nat) (p : Nat × Operand) (e : List Dt), l[i]? = some p → ds[i]? = some e → (a.eval p.2).cells.size = e.length ∧ ∀ (j : Nat) (d : Dt), e[j]? = some d → ∃ x, (a.eval p.2).cells[j]? = some x ∧ Rd w ι x d
 | [], k, ds, h, _, _, _ => by cases h; exact ⟨rfl, fun i p hp => (by cases hp), fun i p e hp => (by cases hp)⟩
 | (i0, x) :: l, k, ds, h, hk, hl, hob => by
  unfold partsD at h
  cases hb : Nat.beq i0 k with
  | false => rw [hb] at h; cases h
  | true =>
   rw [hb] at h
   simp only [cond_true] at h
   have e0 := Nat.eq_of_beq_eq_true hb
   split at h
   ·rename_i c hc
    cases hok : c.all okC with
    | false => rw [hok] at h; cases h
    | true =>
     rw [hok] at h
     simp only [cond_true] at h
     split at h
     ·rename_i d hd
      split at h
      ·rename_i r hr
       cases h
       obtain ⟨h1, h2, h3⟩ := partsD_ok hr hk (fun p hp => hl p (List.mem_cons_of_mem _ hp)) (fun p hp => hob p (List.mem_cons_of_mem _ hp))
       refine ⟨by simp [h1], fun i p hp => ?_, fun i p e hp he => ?_⟩
       ·cases i with
        | zero => simp only [List.getElem?_cons_zero, Option.some.injEq] at hp; subst hp; exact e0
        | succ i => have := h2 i p (by simpa using hp); omega
       ·cases i with
        | zero =>
         simp only [List.getElem?_cons_zero, Option.some.injEq] at hp he
         subst hp he
         have hcell := cells_c (η := η) hc
         rw [hl _ (List.mem_cons_self ..)]
         obtain ⟨h4, h5⟩ := dtl_ok (w := w) (ι := ι) (η := η) hd (by simpa [List.all_eq_true] using hok) hk (fun j hj => hob _ (List.mem_cons_self ..) j (by
          cases hv : s.ov x with
          | a z =>
           rw [hv] at hc
           cases z <;> simp only [AV.cells, Option.some.injEq] at hc <;> subst hc
           case v z =>
            obtain ⟨u, hu, hj'⟩ := List.mem_filterMap.1 hj
            obtain ⟨u', _, rfl⟩ := List.mem_map.1 hu
            cases hj'
           all_goals simpa [AV.js, AC.j] using hj
          | g z => rw [hv] at hc; cases hc; exact hj
          | t z => rw [hv] at hc; cases hc
          | f fn fs cs => rw [hv] at hc; obtain ⟨j', o, rfl, rfl, rfl⟩ := f_cells hc; simpa [AV.js, AC.j] using hj))
         refine ⟨?_, fun j d' hd' => ?_⟩
         ·rw [← Array.length_toList, hcell, List.length_map, h4]
         ·obtain ⟨y, hy, hr'⟩ := h5 j d' hd'
          refine ⟨y, ?_, hr'⟩
          rw [← Array.getElem?_toList, hcell]; exact hy
        | succ i => exact h3 i p e (by simpa using hp) (by simpa using he)
      ·cases h
     ·cases h
   ·cases h
end
theorem flat_len' {z : Nat} : ∀ (vs : List Value), (∀ v ∈ vs, v.cells.size = z) → (vs.flatMap fun v => v.cells.toList).length = vs.length * z
 | [], _ => by simp
 | u :: vs, h => by
  rw [List.flatMap_cons, List.length_append, flat_len' vs (fun v hv => h v (List.mem_cons_of_mem _ hv)), Array.length_toList, h u (List.mem_cons_self ..), List.length_cons, Nat.add_mul]; omega
theorem flat_at' {z : Nat} : ∀ (vs : List Value) (i j : Nat) (v : Value), (∀ v ∈ vs, v.cells.size = z) → vs[i]? = some v → j < z → (vs.flatMap fun v => v.cells.toList)[i * z + j]? = v.cells[j]?
 | [], i, j, v, _, h, _ => by cases h
 | u :: vs, i, j, v, hz, h, hj => by
  have hu : u.cells.toList.length = z := by rw [Array.length_toList]; exact hz u (List.mem_cons_self ..)
  rw [List.flatMap_cons]
  cases i with
  | zero =>
   simp only [List.getElem?_cons_zero, Option.some.injEq] at h
   subst h
   rw [Nat.zero_mul, Nat.zero_add, List.getElem?_append_left (by omega), Array.getElem?_toList]
  | succ i =>
   rw [List.getElem?_append_right (by rw [Nat.add_mul]; omega), show (i + 1) * z + j - u.cells.toList.length = i * z + j by rw [Nat.add_mul, hu]; omega]
   exact flat_at' vs i j v (fun v hv => hz v (List.mem_cons_of_mem _ hv)) (by simpa using h) hj
theorem run_bs (w : World) {t e : TypeId} {len : Nat} {parts : Array (Nat × Value)} {inf : TypeInfo} {z : Value} (hu : P.underlying t = some (.slice e)) (hi : P.info? e = some inf) (hz : inf.zero = some z) (vs : List Value) (hvs : vs.length = len)
  (hsz : ∀ v ∈ vs, v.cells.size = inf.size) (c3 : 0 < inf.size) (c4 : len * inf.size ≤ 16777216) (hpl : parts.toList = (vs.zipIdx 0).map fun x => (x.2, x.1)) :
  (Instr.buildSlice t len parts).run P w = .ok (.slice (some ⟨w.heap.size, 0, none⟩) len len) (w.alloc (.cells (vs.flatMap fun v => v.cells.toList).toArray e)) := by
 rcases Nat.eq_zero_or_pos len with hz0 | hz0
 ·have hv0 : vs = [] := List.length_eq_zero_iff.1 (by omega)
  subst hv0
  have hp0 : parts = #[] := by
   cases parts with
   | mk l => simp at hpl; subst hpl; rfl
  subst hz0 hp0
  have := run_buildNone (P := P) w t e inf.size hu (by rw [hi]; rfl)
  simpa using this
 ·have hfill := Go.Great.fill_whole c3 vs ((Array.range (len * inf.size)).map (z.cells[· % z.cells.size]!)) hsz (by simp [hvs])
  have h1 : ¬ len * inf.size > 2 ^ 24 := by omega
  have h2 : ¬ len * inf.size = 0 := by have := Nat.mul_pos hz0 c3; omega
  rw [← hpl] at hfill
  exact run_buildSlice (P := P) w t e len parts (vs.flatMap fun v => v.cells.toList).toArray inf z hu hi hz h1 h2 hfill
section
variable {s : St} {o : Oper} {η : Nat → Value} {ι : Nat → Prop} {a : Act} {w : World} {Q : Exit → Act → World → Prop}
theorem own1_sound {it : List It} {d : Nat} {R : R1} (hd : o.dst = some d) (h : own1 P N s o d it = some R) (hs : ∀ cs b, o.op ≠ .select cs b) (hit : ∀ i ∈ it, ItOk P W D Fn i) (hq : Eqs R.q) (hl : Sees s η a o.op.operands.toList) (hk : Kn s η)
  (hsc : ∀ t, .tmp t ∈ o.op.operands.toList → ∀ k ∈ (s.at t).js, k < s.x.length) (hL : Loc s η ι w (R.r ++ R.w)) : Owes P s o η ι a w R.s R.w Q := by
 have ovx : ∀ {x : Operand}, x ∈ o.op.operands.toList → a.eval x = (s.ov x).c η := fun hx => sees_ov hl hx
 unfold own1 at h
 split at h
 ·rename_i t hop
  split at h
  ·rename_i cs hz
   cases h
   have hr : (execOp a.eval o).run P w = .ok (.value (.pointer (some ⟨w.heap.size, 0, none⟩))) (w.alloc (.cells cs.toArray t)) := by
    unfold zrc at hz
    split at hz
    ·rename_i i hi
     split at hz
     ·rename_i z hz'
      cases hz
      have := alloc_run (P := P) (T := t) (z := z) (n := i.size) (by rw [hi]; simp [hz']) w
      unfold execOp
      simp only [hop, Sem.run_bind, this]
      simp
     ·cases hz
    ·cases hz
   refine fun K hK => wp_ok hr (hK (fun k => if k = s.x.length then .pointer (some ⟨w.heap.size, 0, none⟩) else η k) ι _ _ (fun d' e => ?_) (tr_alloc hL.il (by simp) (ob_new _ _ _ _) ⟨w.heap.size, rfl, ?_⟩ (fun g hg => ?_)))
   ·rw [hd] at e; cases e; simp [St.at, lk, AV.c, AC.c, ptrAt, blk]
   ·rw [map_v]; exact Blk.new w cs t
   ·cases hg; rfl
  ·cases h
 ·rename_i t x hop
  split at h
  ·rename_i cs hc
   cases h
   have h2 := ovx (x := x) (by rw [hop]; simp [Op.operands])
   have hcell := cells_c (η := η) hc
   have hr : (execOp a.eval o).run P w = .ok (.value (.pointer (some ⟨w.heap.size, 0, none⟩))) (w.alloc (.cells (cs.map (·.c η)).toArray t)) := by
    unfold execOp
    rw [← hcell]
    simp [hop, h2, Instr.box, newVar, newRow, Sem.run_bind, run_newObj_alloc]
   refine fun K hK => wp_ok hr (hK (fun k => if k = s.x.length then .pointer (some ⟨w.heap.size, 0, none⟩) else η k) ι _ _ (fun d' e => ?_) (tr_alloc hL.il (by simp) (ob_new _ _ _ _) ⟨w.heap.size, rfl, ?_⟩ (fun g hg => ?_)))
   ·rw [hd] at e; cases e; simp [St.at, lk, AV.c, AC.c, ptrAt, blk]
   ·have : cs.map (·.c fun k => if k = s.x.length then Value.pointer (some ⟨w.heap.size, 0, none⟩) else η k) = cs.map (·.c η) := cl_congr fun k hk' => by
     have hk2 : k ∈ (s.ov x).js := cells_js hc hk'
     obtain ⟨t', e', hk3⟩ := ov_js hk2
     have := hsc t' (by rw [hop, ← e']; simp [Op.operands]) k hk3
     have : ¬ k = s.x.length := by omega
     simp [this]
    rw [this]; exact Blk.new w _ t
   ·cases hg; rfl
  ·cases h
 ·rename_i t len parts hop
  split at h
  ·rename_i e inf hel
   split at h
   ·rename_i z hz
    split at h
    ·rename_i ds hds
     cases hc : (Nat.beq ds.length len && (ds.all (fun d => Nat.beq d.length inf.size) && (!Nat.beq inf.size 0 && Nat.ble (len * inf.size) 16777216))) with
     | false => rw [hc] at h; cases h
     | true =>
      rw [hc] at h; cases h
      simp only [Bool.and_eq_true, List.all_eq_true, Bool.not_eq_true'] at hc
      obtain ⟨c1, c2, c3, c4⟩ := hc
      have c1 := Nat.eq_of_beq_eq_true c1
      have c2 : ∀ x ∈ ds, x.length = inf.size := fun x hx => Nat.eq_of_beq_eq_true (c2 x hx)
      have c3 : 0 < inf.size := by
       rcases Nat.eq_zero_or_pos inf.size with h | h
       ·rw [h] at c3; cases c3
       ·exact h
      have c4 := Nat.le_of_ble_eq_true c4
      have hm : ∀ p ∈ parts.toList, p.2 ∈ o.op.operands.toList := fun p hp => by
       rw [hop]; simp only [Op.operands]
       exact List.mem_map.2 ⟨p, hp, rfl⟩
      obtain ⟨p1, p2, p3⟩ := partsD_ok (w := w) (ι := ι) (a := a) hds hk (fun p hp => ovx (hm p hp)) (fun p hp j hj => hL.ok j (List.mem_append_left _ (List.mem_flatMap.2 ⟨p, hp, hj⟩)))
      unfold eli at hel
      split at hel
      ·rename_i e' hu
       split at hel
       ·rename_i i hi
        cases hel
        let vs := parts.toList.map fun p => a.eval p.2
        have hvs : vs.length = len := by simp only [vs, List.length_map]; omega
        have hsz : ∀ v ∈ vs, v.cells.size = inf.size := fun v hv => by
         obtain ⟨p, hp, rfl⟩ := List.mem_map.1 hv
         obtain ⟨i, hi'⟩ := List.getElem?_of_mem hp
         have hlt := (List.getElem?_eq_some_iff.1 hi').1
         have hd' : ds[i]? = some ds[i] := List.getElem?_eq_getElem (by omega)
         rw [(p3 i p _ hi' hd').1, c2 _ (List.mem_of_getElem? hd')]
        have hpl : (parts.map fun (k, x) => (k, a.eval x)).toList = (vs.zipIdx 0).map fun x => (x.2, x.1) := by
         apply List.ext_getElem?
         intro i
         simp only [Array.toList_map, List.getElem?_map, vs, List.getElem?_zipIdx]
         cases hp : parts.toList[i]? with
         | none => rfl
         | some p => have := p2 i p hp; simp; omega
        have hflen := flat_len' vs hsz
        have own : ∀ (w' : World), w' = w.alloc (.cells (vs.flatMap fun v => v.cells.toList).toArray e) → OOk w' ι (fun k => if k = s.x.length then .slice (some ⟨w.heap.size, 0, none⟩) len len else η k) (.slice (some ⟨w.heap.size, 0, none⟩) len len) (.row e inf.size ds) := fun w' hw' => by
         subst hw'
         refine ⟨c2, vs.flatMap fun v => v.cells.toList, ⟨by rw [hflen, c1, hvs], .inr ⟨w.heap.size, len, _, by rw [c1], Nat.zero_le _, World.alloc_heap_new w _, by omega, ?_, by simp [hflen, hvs], ?_⟩⟩, fun i e1 j d he hd' => ?_⟩
         ·have : len ≤ len * inf.size := Nat.le_mul_of_pos_right _ c3
          unfold maxLen; omega
         ·rw [List.take_of_length_le]; simp [hflen, hvs, c1]
         ·have hi' := (List.getElem?_eq_some_iff.1 he).1
          have hp : parts.toList[i]? = some parts.toList[i] := List.getElem?_eq_getElem (by omega)
          obtain ⟨q1, q2⟩ := p3 i _ e1 hp he
          obtain ⟨y, hy, hr'⟩ := q2 j d hd'
          have hj := (List.getElem?_eq_some_iff.1 hd').1
          refine ⟨y, ?_, hr'.mono (fun _ h => h) (fun g hg => Below.heap_alloc w _ g (hL.il g hg))⟩
          rw [flat_at' vs i j (a.eval parts.toList[i].2) hsz (by simp only [vs]; rw [List.getElem?_map, hp]; rfl) (by rw [← c2 _ (List.mem_of_getElem? he)]; exact hj)]
          exact hy
        have hrun : (execOp a.eval o).run P w = .ok (.value (.slice (some ⟨w.heap.size, 0, none⟩) len len)) (w.alloc (.cells (vs.flatMap fun v => v.cells.toList).toArray e)) := by
         have h0 := run_bs (P := P) w (t := t) (e := e) (len := len) (parts := parts.map fun (k, x) => (k, a.eval x)) hu hi hz vs hvs hsz c3 c4 hpl
         unfold execOp
         simp only [hop, Sem.run_bind, h0]; rfl
        refine fun K hK => wp_ok hrun (hK (fun k => if k = s.x.length then .slice (some ⟨w.heap.size, 0, none⟩) len len else η k) ι _ _ (fun d' e => ?_) (tr_alloc hL.il (by simp) (ob_new _ _ _ _) (own _ rfl) (fun g hg => ?_)))
        ·rw [hd] at e; cases e; simp [St.at, lk, AV.c, AC.c, slV]
        ·cases hg; rfl
       ·cases hel
      ·cases hel
    ·cases h
   ·cases h
  ·cases h
 ·rename_i t ad hop
  split at h
  ·rename_i k off hv
   split at h
   ·rename_i c hc
    split at h
    ·rename_i v hld
     cases h
     obtain ⟨e1, e2, e3, e4⟩ := fin_v hq hit
     rw [e1, e3]
     have h1 := ovx (x := ad) (by rw [hop]; simp [Op.operands])
     rw [hv] at h1
     obtain ⟨ob, ho, _, hbx⟩ := bx_ok hc
     obtain ⟨b, T, hb1, hb2⟩ := hbx (hL.ok k (by rw [e2, e3]; simp) _ ho)
     have hrun := (run_ldv (P := P) (η := η) (b := b) (off := 0) (w := w) hld (fun j x hx => by rw [Nat.zero_add]; exact hb2.cell (by simp [hx]))).1
     refine owes_val hd (v := v) (by rw [put_at, if_pos rfl]) hL.il ?_
     unfold execOp
     rw [Nat.zero_add] at hrun
     simp only [hop, h1, AV.c, AC.c, ptrAt, hb1, blk, Sem.run_bind, hrun]; rfl
    ·cases h
   ·cases h
  ·cases h
 ·split at h
  ·rename_i v r hv
   cases h
   obtain ⟨e1, e2, e3, e4⟩ := fin_v hq hit
   rw [e1, e3]
   refine owes_val hd (v := v) (by rw [put_at, if_pos rfl]) hL.il (vop_run (ι := ι) hs hv hl hk (fun j hj => hL.ok j (by rw [e2]; exact List.mem_append_left _ hj))).1
  ·cases h
end
theorem putL_ptL : ∀ (vs cs : List Value) (o : Nat), putL cs o vs = ptL cs o vs
 | [], cs, o => rfl
 | v :: r, cs, o => putL_ptL r _ _
theorem ptL_get {α : Type} : ∀ (vs cs : List α) (o q : Nat), o + vs.length ≤ cs.length → (ptL cs o vs)[q]? = if o ≤ q ∧ q < o + vs.length then vs[q - o]? else cs[q]?
 | [], cs, o, q, h => by
  have : ¬ (o ≤ q ∧ q < o + ([] : List α).length) := by simp
  rw [if_neg this]; rfl
 | v :: r, cs, o, q, h => by
  simp only [List.length_cons] at h
  rw [ptL, ptL_get r _ _ _ (by simp; omega)]
  by_cases h1 : o + 1 ≤ q ∧ q < o + 1 + r.length
  ·have h2 : o ≤ q ∧ q < o + (v :: r).length := by simp only [List.length_cons]; omega
   rw [if_pos h1, if_pos h2, show q - o = (q - (o + 1)) + 1 by omega]; simp
  ·rw [if_neg h1]
   by_cases h3 : q = o
   ·subst h3
    have h2 : q ≤ q ∧ q < q + (v :: r).length := by simp only [List.length_cons]; omega
    have hq : q < cs.length := by omega
    rw [if_pos h2, List.getElem?_set_self hq]; simp
   ·have h2 : ¬ (o ≤ q ∧ q < o + (v :: r).length) := by simp only [List.length_cons]; omega
    rw [if_neg h2, List.getElem?_set_ne (fun e => h3 e.symm)]
theorem ptL_take {α : Type} (vs cs : List α) (o m : Nat) (h : o + vs.length ≤ m) (hm : m ≤ cs.length) : (ptL cs o vs).take m = ptL (cs.take m) o vs := by
 apply List.ext_getElem?
 intro q
 rw [List.getElem?_take, ptL_get vs cs o q (by omega), ptL_get vs (cs.take m) o q (by rw [List.length_take]; omega), List.getElem?_take]
 by_cases h1 : o ≤ q ∧ q < o + vs.length
 ·rw [if_pos h1, if_pos h1, if_pos (by omega)]
 ·rw [if_neg h1, if_neg h1]
theorem own_set {w w' : World} {ι : Nat → Prop} {v : Value} {T z : Nat} {es : List (List Dt)} (h : Own w ι v T z es) {n : Nat} {e : List Dt} (he : es[n]? = some e) {off : Nat} {vals : List Value} {ds : List Dt} (hd : ds.length = vals.length) (hoff : off + vals.length ≤ e.length)
  (hds : ∀ (j : Nat) (d : Dt), ds[j]? = some d → ∃ x, vals[j]? = some x ∧ Rd w ι x d) {g : Nat} {cur : List Value} (hg : v.ownBlock = some g) (hb : Blk w g cur T) (hb' : Blk w' g (ptL cur (n * z + off) vals) T) (hi : ∀ g, ι g → w'.heap[g]? = w.heap[g]?) :
  Own w' ι v T z (es.set n (ptL e off ds)) := by
 obtain ⟨h1, xs, ⟨h2, h3⟩, h4⟩ := h
 have hn := (List.getElem?_eq_some_iff.1 he).1
 have hel := h1 e (List.mem_of_getElem? he)
 have hnz : n * z + z ≤ es.length * z := by rw [← Nat.succ_mul]; exact Nat.mul_le_mul_right _ hn
 rcases h3 with ⟨rfl, _⟩ | ⟨g', cap, cur', rfl, _, hg', hnc, hcm, hcs, ht⟩
 ·cases hg
 ·cases hg
  unfold Blk at hb
  rw [hb] at hg'
  cases hg'
  have hcl : cur.length = cap * z := by simpa using hcs
  have hle : es.length * z ≤ cap * z := Nat.mul_le_mul_right _ hnc
  have hxl : xs.length = es.length * z := h2
  refine ⟨fun x hx => ?_, ptL xs (n * z + off) vals, ⟨by rw [ptL_len, List.length_set]; exact h2, .inr ⟨g', cap, _, by rw [List.length_set], Nat.zero_le _, hb', by rw [List.length_set]; exact hnc, hcm, by simp [ptL_len, hcl], ?_⟩⟩, fun i e1 j d hi' hj => ?_⟩
  ·rcases List.mem_or_eq_of_mem_set hx with h | h
   ·exact h1 x h
   ·rw [h, ptL_len]; exact hel
  ·rw [List.length_set]
   simp only
   rw [ptL_take vals cur (n * z + off) (es.length * z) (by omega) (by omega)]
   simp only at ht
   rw [ht]
  ·by_cases hin : n = i
   ·subst hin
    rw [List.getElem?_set_self hn] at hi'
    cases hi'
    rw [ptL_get ds e off j (by omega)] at hj
    have hjz : j < z := by
     by_cases hjj : off ≤ j ∧ j < off + ds.length
     ·omega
     ·rw [if_neg hjj] at hj
      have := (List.getElem?_eq_some_iff.1 hj).1; omega
    rw [ptL_get vals xs (n * z + off) (n * z + j) (by omega)]
    by_cases hjj : off ≤ j ∧ j < off + ds.length
    ·rw [if_pos hjj] at hj
     rw [if_pos (by omega), show n * z + j - (n * z + off) = j - off by omega]
     obtain ⟨x, hx, hr⟩ := hds _ d hj
     exact ⟨x, hx, hr.mono (fun _ h => h) hi⟩
    ·rw [if_neg hjj] at hj
     rw [if_neg (by omega)]
     obtain ⟨x, hx, hr⟩ := h4 n e j d he hj
     exact ⟨x, hx, hr.mono (fun _ h => h) hi⟩
   ·rw [List.getElem?_set_ne hin] at hi'
    have hjz : j < z := by rw [← h1 e1 (List.mem_of_getElem? hi')]; exact (List.getElem?_eq_some_iff.1 hj).1
    rw [ptL_get vals xs (n * z + off) (i * z + j) (by omega)]
    have hno : ¬ (n * z + off ≤ i * z + j ∧ i * z + j < n * z + off + vals.length) := by
     rcases Nat.lt_or_gt_of_ne hin with h | h
     ·have : (n + 1) * z ≤ i * z := Nat.mul_le_mul_right _ h
      rw [Nat.succ_mul] at this; omega
     ·have : (i + 1) * z ≤ n * z := Nat.mul_le_mul_right _ h
      rw [Nat.succ_mul] at this; omega
    rw [if_neg hno]
    obtain ⟨x, hx, hr⟩ := h4 i e1 j d hi' hj
    exact ⟨x, hx, hr.mono (fun _ h => h) hi⟩
theorem ob_set {l : List Bx} {k : Nat} {B B' : Bx} (h : l[k]? = some B) (d : Nat → Value) (u : List (Nat × AV)) : (⟨d, u, l.set k B'⟩ : St).ob k = some B'.o := by
 have := (List.getElem?_eq_some_iff.1 h).1
 simp [St.ob, this]
theorem tr_set {s s' : St} {k b : Nat} {ob ob' : Ob} {w w' : World} {η : Nat → Value} {ι : Nat → Prop} (hil : ∀ g, ι g → g < w.heap.size) (hob : s.ob k = some ob) (hmb : mb (η k) ob = some b) (hnb : ¬ ι b) (hx : s'.x.length = s.x.length)
  (hob' : s'.ob k = some ob') (hs : Stay [b] w w') (hok : OOk w' ι η (η k) ob') (hmb' : ∀ g, mb (η k) ob' = some g → g = b) : Tr ι ι η η s s' [k] w w' := by
 have hm : ∀ g, g ∈ wm η s [k] ↔ g = b := fun g => by
  rw [mem_wm]
  constructor
  ·rintro ⟨j, hj, o, ho, h⟩
   simp only [List.mem_singleton] at hj
   subst hj
   rw [hob] at ho; cases ho
   rw [hmb] at h; cases h; rfl
  ·rintro rfl
   exact ⟨k, by simp, ob, hob, hmb⟩
 refine ⟨⟨hs.os, hs.tape, hs.output, hs.size, fun g hg hlt => hs.same g (fun h => hg ((hm g).2 (by simpa using h))) hlt⟩, fun _ h => h, fun _ h => .inl h, fun g hg => Nat.lt_of_lt_of_le (hil g hg) hs.size, fun _ _ => rfl, fun j hj o ho => ?_, fun j hj o g ho h => ?_⟩
 ·simp only [List.mem_singleton] at hj
  subst hj
  rw [hob'] at ho; cases ho; exact hok
 ·simp only [List.mem_singleton] at hj
  subst hj
  rw [hob'] at ho; cases ho
  have := hmb' g h
  subst this
  exact ⟨.inl ((hm g).2 rfl), hnb, fun j' hj' _ _ _ => by simpa using hj'⟩
section
variable {s : St} {o : Oper} {η : Nat → Value} {ι : Nat → Prop} {a : Act} {w : World} {Q : Exit → Act → World → Prop}
theorem wp_skip' {w' : World} {K : Act → World → Prop} {Q : Exit → Act → World → Prop} (hr : (execOp a.eval o).run P w = .ok .skip w') (hK : K (a.put o.dst undef) w') : o.wp P a w K Q := by
 unfold Oper.wp; rw [hr]; exact hK
theorem sto_sound {it : List It} {R : R1} (hd : o.dst = none) (h : sto P s o it = some R) (hit : ∀ i ∈ it, ItOk P W D Fn i) (hq : Eqs R.q) (hl : Sees s η a o.op.operands.toList) (hk : Kn s η)
  (hL : Loc s η ι w (R.r ++ R.w)) : Owes P s o η ι a w R.s R.w Q := by
 have ovx : ∀ {x : Operand}, x ∈ o.op.operands.toList → a.eval x = (s.ov x).c η := fun hx => sees_ov hl hx
 unfold sto at h
 split at h
 ·rename_i t ad x hop
  have hma : ad ∈ o.op.operands.toList := by rw [hop]; simp [Op.operands]
  have hmx : x ∈ o.op.operands.toList := by rw [hop]; simp [Op.operands]
  split at h
  ·rename_i cs hcs
   split at h
   ·rename_i i hi
    cases hc : (Nat.beq cs.length i.size && cs.all okC) with
    | false => rw [hc] at h; cases h
    | true =>
     rw [hc] at h
     simp only [cond_true] at h
     simp only [Bool.and_eq_true, List.all_eq_true] at hc
     obtain ⟨c1, c2⟩ := hc
     have c1 := Nat.eq_of_beq_eq_true c1
     have hcell := cells_c (η := η) hcs
     have hcsz : (a.eval x).cells.size = cs.length := by rw [ovx hmx, ← Array.length_toList, hcell, List.length_map]
     have hone : (a.eval x).cells.all (·.oneCell') = true := by
      rw [ovx hmx, Array.all_eq_true_iff_forall_mem]
      intro y hy
      rw [← Array.mem_toList_iff, hcell] at hy
      obtain ⟨u, hu, rfl⟩ := List.mem_map.1 hy
      exact ac_one η u (c2 u hu)
     have runs : ∀ {b off : Nat} {T : TypeId} {cur : List Value}, a.eval ad = .pointer (some ⟨b, off, none⟩) → Blk w b cur T → off + cs.length ≤ cur.length →
       ∃ w', (execOp a.eval o).run P w = .ok .skip w' ∧ Only b (.cells (ptL cur off (cs.map (·.c η))).toArray T (0, 0)) w w' := fun {b off T cur} ha hb hle => by
      obtain ⟨w', hr, ho⟩ := store_only (P := P) (t := t) (T := T) (b := b) (o := off) (cs := cur) (u := a.eval x) (by rw [hi, hcsz]; simp [c1]) hone (by omega) w hb
      refine ⟨w', ?_, ?_⟩
      ·unfold execOp
       simp only [hop, ha, Sem.run_bind, hr]; rfl
      ·have : (a.eval x).cells.toList = cs.map (·.c η) := by rw [ovx hmx]; exact hcell
       rw [this, putL_ptL] at ho
       exact ho
     split at h
     ·rename_i k off hv
      split at h
      ·rename_i kk c T hB
       cases hz : Nat.ble (off + i.size) c.length with
       | false => rw [hz] at h; cases h
       | true =>
        rw [hz] at h; cases h
        have hz' := Nat.le_of_ble_eq_true hz
        have hob : s.ob k = some (.box c T) := ob_of hB
        obtain ⟨b, hb1, hb2⟩ := hL.ok k (by simp) _ hob
        obtain ⟨w', hr, ho⟩ := runs (b := b) (off := off) (by rw [ovx hma, hv]; simp only [AV.c, AC.c, ptrAt, hb1, blk]) hb2 (by simp; omega)
        have hmb : mb (η k) (.box c T) = some b := by rw [hb1]; rfl
        have hmi := hL.mi k (by simp) _ b hob hmb
        refine fun K hK => wp_skip' hr (hK η ι undef w' (fun d e => by rw [hd] at e; cases e) (tr_set hL.il hob hmb hmi.1 (by simp) (ob_set hB _ _) ho.stay ⟨b, hb1, ?_⟩ (fun g hg => by rw [hb1] at hg; cases hg; rfl)))
        have := ho.new
        rw [← ptL_map] at this
        exact this
      ·cases h
     ·rename_i j z n off hv
      split at h
      ·rename_i t' es n' e it'
       split at h
       ·rename_i kk T z' es' hB
        split at h
        ·rename_i ds hds
         cases hz : (Nat.beq z z' && Nat.ble (off + i.size) e.length) with
         | false => rw [hz] at h; cases h
         | true =>
          rw [hz] at h; cases h
          simp only [Bool.and_eq_true] at hz
          obtain ⟨z1, z3⟩ := hz
          have z1 := Nat.eq_of_beq_eq_true z1
          have z2 := hq _ (List.mem_cons_of_mem _ (List.mem_singleton.2 rfl))
          simp only [Cl.s.injEq] at z2
          have z2 := z2.symm
          have z3 := Nat.le_of_ble_eq_true z3
          subst z1 z2
          have hob : s.ob j = some (.row T z es') := ob_of hB
          have hown : Own w ι (η j) T z es' := hL.ok j (by simp) _ hob
          have hes := hq _ (List.mem_cons_self ..)
          simp only [Cl.l.injEq] at hes
          have he : es'[n]? = some e := by
           have := hit _ (List.mem_cons_self ..)
           simp only [ItOk] at this
           rw [hes]; exact this
          obtain ⟨d1, d2⟩ := dtl_ok (w := w) (ι := ι) (η := η) hds c2 hk (fun q hq' => hL.ok q (List.mem_append_left _ (cells_js hcs hq')))
          have hown' := hown
          obtain ⟨g1, xs, ⟨g2, g3⟩, g4⟩ := hown'
          rcases g3 with ⟨g5, g6⟩ | ⟨g, cap, cur, g5, _, g6, g7, g8, g9, g10⟩
          ·have := (List.getElem?_eq_some_iff.1 he).1
           omega
          ·have hblk : Blk w g cur.toList T := by unfold Blk; simpa using g6
           have hn := (List.getElem?_eq_some_iff.1 he).1
           have hel := g1 e (List.mem_of_getElem? he)
           have hnz : n * z + z ≤ es'.length * z := by rw [← Nat.succ_mul]; exact Nat.mul_le_mul_right _ hn
           have hle : es'.length * z ≤ cap * z := Nat.mul_le_mul_right _ g7
           obtain ⟨w', hr, ho⟩ := runs (b := g) (off := n * z + off) (by rw [ovx hma, hv]; simp only [AV.c, AC.c, elmAt, g5, blk, offV]; congr 3; omega) hblk (by simp; omega)
           have hmb : mb (η j) (.row T z es') = some g := by rw [g5]; rfl
           have hmi := hL.mi j (by simp) _ g hob hmb
           refine fun K hK => wp_skip' hr (hK η ι undef w' (fun d e => by rw [hd] at e; cases e) (tr_set hL.il hob hmb hmi.1 (by simp) (ob_set hB _ _) ho.stay ?_ (fun g' hg => by simp only [mb, g5, Value.ownBlock] at hg; cases hg; rfl)))
           exact own_set hown he (by rw [List.length_map]; exact d1) (by simp; omega) d2 (by rw [g5]; rfl) hblk ho.new (fun g' hg' => ho.same g' (fun e => hmi.1 (e ▸ hg')))
        ·cases h
       ·cases h
      ·cases h
     ·cases h
   ·cases h
  ·cases h
 ·cases h
end
section
variable {s : St} {o : Oper} {η : Nat → Value} {ι : Nat → Prop} {a : Act} {w : World} {Q : Exit → Act → World → Prop}
theorem rows_ob {j z : Nat} {es : List (List Dt)} (hr : s.rows j = some (z, es)) : (∃ T, s.ob j = some (.row T z es)) ∨ s.ob j = some (.sl z es) := by
 unfold St.rows at hr
 split at hr
 ·rename_i T z' es' ho; cases hr; exact .inl ⟨T, ho⟩
 ·rename_i z' es' ho; cases hr; exact .inr ho
 ·cases hr
theorem rows_el {j z n : Nat} {es : List (List Dt)} {e : List Dt} (hr : s.rows j = some (z, es)) (h : ∀ ob, s.ob j = some ob → OOk w ι η (η j) ob) (he : es[n]? = some e) :
  ∃ g off c, η j = .slice (some ⟨g, off, none⟩) es.length c ∧ e.length = z ∧ ∀ (j : Nat) (d : Dt), e[j]? = some d → ∃ x, w.cell? ⟨g, off + (n * z + j), none⟩ = some x ∧ Rd w ι x d := by
 rcases rows_ob hr with ⟨T, ho⟩ | ho
 ·exact own_el (h _ ho) he
 ·exact sl_el (h _ ho) he
theorem intV_c {v : AV} {z : Int} (h : intV v = some z) : ∃ k, v.c η = .int k z := by
 unfold intV at h
 split at h
 ·cases h; exact ⟨_, rfl⟩
 ·cases h
theorem eli_spec {t e : TypeId} {i : TypeInfo} (h : eli P t = some (e, i)) : P.underlying t = some (.slice e) ∧ P.info? e = some i := by
 unfold eli at h
 split at h
 ·rename_i e' hu
  split at h
  ·rename_i i' hi
   cases h; exact ⟨hu, hi⟩
  ·cases h
 ·cases h
theorem enter_c {f' : FuncId} {avs : Array Value} (hf : s.fine o = true) (hs : ∀ cs b, o.op ≠ .select cs b) (hl : Sees s η a o.op.operands.toList) (hk : Kn s η) (hen : entered (pr P (execOp s.ev o)) = some (f', avs)) : (execOp a.eval o).run P w = .ok (.enter f' avs) w := by
 rw [fine_exec hs hk hl hf]
 cases hp : pr P (execOp s.ev o) with
 | none => rw [hp] at hen; cases hen
 | some n =>
  rw [hp] at hen
  cases n <;> simp only [entered, reduceCtorEq] at hen
  cases hen
  exact pr_run hp w
theorem beh_c {it : List It} {d t : Nat} {f : FuncId} {args : Array Value} {r : Value} {R : R1} (hd : o.dst = some d) (h : beh P N s o d (.c t f args r) it = some R) (hs : ∀ cs b, o.op ≠ .select cs b) (hi : ItOk P W D Fn (.c t f args r)) (hit : ∀ i ∈ it, ItOk P W D Fn i) (hq : Eqs R.q)
  (hl : Sees s η a o.op.operands.toList) (hk : Kn s η) (hL : Loc s η ι w (R.r ++ R.w)) (hW : Keep D W w) : Owes P s o η ι a w R.s R.w Q := by
 simp only [beh] at h
 split at h
 ·rename_i hf
  split at h
  ·rename_i f' avs hen
   cases h
   obtain ⟨e1, e2, e3, e4⟩ := fin_v hq hit
   have e5 := e4 _ (List.mem_singleton.2 rfl)
   simp only [Cl.c.injEq] at e5
   rw [e1, e3]
   have hr := enter_c (P := P) (w := w) hf hs hl hk hen
   rw [e5.1, e5.2] at hr
   intro K hK
   refine wp_enter (R := fun v w' => v = r ∧ Below w.heap.size w w') hr ((hi w hW).mono fun e w' he => ⟨r, he.1, rfl, he.2⟩) fun v w' hv => hK η ι v w' (fun d' e => ?_) (.refl hL.il hv.2)
   rw [hd] at e; cases e; rw [put_at, if_pos rfl]; exact hv.1
  ·cases h
 ·cases h
theorem beh_m {it : List It} {d t : Nat} {q : Sem Next} {r : Value} {R : R1} (hd : o.dst = some d) (h : beh P N s o d (.m t q r) it = some R) (hs : ∀ cs b, o.op ≠ .select cs b) (hi : ItOk P W D Fn (.m t q r)) (hit : ∀ i ∈ it, ItOk P W D Fn i) (hq : Eqs R.q)
  (hl : Sees s η a o.op.operands.toList) (hk : Kn s η) (hL : Loc s η ι w (R.r ++ R.w)) (hW : Keep D W w) : Owes P s o η ι a w R.s R.w Q := by
 simp only [beh] at h
 split at h
 ·rename_i hf
  cases h
  obtain ⟨e1, e2, e3, e4⟩ := fin_v hq hit
  have e5 := e4 _ (List.mem_singleton.2 rfl)
  simp only [Cl.m.injEq] at e5
  rw [e1, e3]
  refine owes_val hd (v := .a (.v r)) (by rw [put_at, if_pos rfl]) hL.il ?_
  rw [fine_exec hs hk hl hf, e5]
  exact hi w hW
 ·cases h
theorem beh_i {it : List It} {d t n len : Nat} {z : Int} {R : R1} (hd : o.dst = some d) (h : beh P N s o d (.i t z n len) it = some R) (hi : ItOk P W D Fn (.i t z n len)) (hit : ∀ i ∈ it, ItOk P W D Fn i) (hq : Eqs R.q)
  (hl : Sees s η a o.op.operands.toList) (hk : Kn s η) (hL : Loc s η ι w (R.r ++ R.w)) : Owes P s o η ι a w R.s R.w Q := by
 simp only [beh] at h
 split at h
 ·rename_i T x ix hop
  split at h
  ·rename_i j hv
   split at h
   ·rename_i zz es hr
    split at h
    ·rename_i zc hz
     split at h
     ·rename_i e inf hel
      cases hb : Nat.beq inf.size zz with
      | false => rw [hb] at h; cases h
      | true =>
       rw [hb] at h; cases h
       have hb := Nat.eq_of_beq_eq_true hb
       obtain ⟨e1, e2, e3, e4⟩ := fin_v hq hit
       have e5 := e4 _ (List.mem_singleton.2 rfl)
       simp only [Cl.n.injEq] at e5
       obtain ⟨e5, e6⟩ := e5
       simp only [ItOk] at hi
       rw [e1, e3]
       refine owes_val hd (v := .a (.e j zz n 0)) (by rw [put_at, if_pos rfl]) hL.il ?_
       obtain ⟨hu, hinf⟩ := eli_spec hel
       have hx := sees_ov hl (x := x) (by rw [hop]; simp [Op.operands])
       have hix := sees_ov hl (x := ix) (by rw [hop]; simp [Op.operands])
       obtain ⟨k, hk'⟩ := intV_c (η := η) hz
       have hn : n < es.length := by omega
       obtain ⟨g, off, c, f1, f2, f3⟩ := rows_el (ι := ι) (η := η) (w := w) (e := es[n]) hr (hL.ok j (by rw [e2, e3]; simp)) (List.getElem?_eq_getElem hn)
       rw [hv] at hx
       simp only [AV.c, AC.c, f1, slV] at hx
       rw [hk'] at hix
       unfold execOp
       have hz0 : 0 ≤ zc ∧ zc < (es.length : Int) := by omega
       have hzn : zc.toNat = n := by omega
       simp [hop, hx, hix, Instr.indexAt, Sem.run_bind, run_underlying hu, asIntOf, sizeOf, typeInfo, hinf, hz0.1, hz0.2, add_at, AV.c, AC.c, elmAt, f1, blk, offV, hb, hzn]
     ·cases h
    ·cases h
   ·cases h
  ·cases h
 ·cases h
theorem beh_l {it : List It} {d t n : Nat} {es : List (List Dt)} {e : List Dt} {R : R1} (hd : o.dst = some d) (h : beh P N s o d (.l t es n e) it = some R) (hi : ItOk P W D Fn (.l t es n e)) (hit : ∀ i ∈ it, ItOk P W D Fn i) (hq : Eqs R.q)
  (hl : Sees s η a o.op.operands.toList) (hk : Kn s η) (hL : Loc s η ι w (R.r ++ R.w)) : Owes P s o η ι a w R.s R.w Q := by
 simp only [beh] at h
 split at h
 ·rename_i T ad hop
  split at h
  ·rename_i j z n' off hv
   split at h
   ·rename_i zz es' hr
    cases hb : Nat.beq z zz with
    | false => rw [hb] at h; cases h
    | true =>
     rw [hb] at h
     simp only [cond_true] at h
     have b2 := Nat.eq_of_beq_eq_true hb
     subst b2
     split at h
     ·rename_i v hld
      cases h
      obtain ⟨e1, e2, e3, e4⟩ := fin_v hq hit
      have e5 := e4 _ (List.mem_cons_self ..)
      have b1 := e4 _ (List.mem_cons_of_mem _ (List.mem_singleton.2 rfl))
      simp only [Cl.s.injEq] at b1
      have b1 := b1.symm
      subst b1
      simp only [Cl.l.injEq] at e5
      simp only [ItOk] at hi
      rw [← e5] at hi
      obtain ⟨g, off0, c, f1, f2, f3⟩ := rows_el (ι := ι) (η := η) (w := w) hr (hL.ok j (by rw [e2, e3]; simp)) hi
      let vals := (List.range e.length).map fun j => (w.cell? ⟨g, off0 + (n * z + j), none⟩).getD undef
      have hvals : ∀ (j : Nat) (d : Dt), e[j]? = some d → ∃ x, vals[j]? = some x ∧ w.cell? ⟨g, off0 + (n * z + j), none⟩ = some x ∧ Rd w ι x d := fun j d hj => by
       obtain ⟨x, hx, hr'⟩ := f3 j d hj
       refine ⟨x, ?_, hx, hr'⟩
       have hlt := (List.getElem?_eq_some_iff.1 hj).1
       simp only [vals, List.getElem?_map, List.getElem?_range hlt, Option.map_some, hx, Option.getD_some]
      obtain ⟨η', g1, g2, g3, g4⟩ := dts_ok (w := w) (ι := ι) e s.x.length η vals (by simp [vals]) (fun j d hj => by obtain ⟨x, h1, h2, h3⟩ := hvals j d hj; exact ⟨x, h1, h3⟩)
      have hcell : ∀ (q : Nat) (x : AC), (dts s.x.length e).1[q]? = some x → w.cell? ⟨g, off0 + n * z + q, none⟩ = some (x.c η') := fun q x hq' => by
       have hq2 : vals[q]? = some (x.c η') := by rw [← g2, List.getElem?_map, hq']; rfl
       have hlt : q < e.length := by
        have := (List.getElem?_eq_some_iff.1 hq2).1
        simpa [vals] using this
       obtain ⟨y, h1, h2, h3⟩ := hvals q _ (List.getElem?_eq_getElem hlt)
       rw [hq2] at h1; cases h1
       rw [Nat.add_assoc]; exact h2
      obtain ⟨hrun, _⟩ := run_ldv (P := P) (η := η') (b := g) (off := off0 + n * z) (w := w) hld hcell
      have hx := sees_ov hl (x := ad) (by rw [hop]; simp [Op.operands])
      rw [hv] at hx
      simp only [AV.c, AC.c, elmAt, f1, blk, offV] at hx
      have hex : (execOp a.eval o).run P w = .ok (.value (v.c η')) w := by
       unfold execOp
       rw [show off0 + (n * z + off) = off0 + n * z + off by omega] at hx
       simp only [hop, hx, Sem.run_bind, hrun]; rfl
      rw [e1, e3]
      refine fun K hK => wp_ok hex (hK η' ι _ w (fun d' e => ?_) (tr_new hL.il (by simp [St.put]) (fun j hj => (mem_rgF.1 hj).1) (fun j hj => g1 j (by simpa [St.put] using hj)) (fun q hq' ob ho => ?_)))
      ·rw [hd] at e; cases e; rw [put_at, if_pos rfl]
      ·obtain ⟨h1, h2⟩ := mem_rgF.1 hq'
       rw [put_ob] at ho
       unfold St.ob at ho
       simp only at ho
       rw [List.getElem?_append_right h1] at ho
       have hlt : q - s.x.length < (dts s.x.length e).2.length := by omega
       rw [List.getElem?_eq_getElem hlt] at ho
       simp only [Option.some.injEq] at ho
       obtain ⟨_, z', es2, h5, h6⟩ := g4 _ _ (List.getElem?_eq_getElem hlt)
       rw [show s.x.length + (q - s.x.length) = q by omega] at h6
       exact ⟨z', es2, by rw [← ho]; exact h5, h6⟩
     ·cases h
   ·cases h
  ·cases h
 ·cases h
end
theorem tr_cons {s s' : St} {j : Nat} {ob ob' : Ob} {v' : Value} {w w' : World} {η : Nat → Value} {ι : Nat → Prop} (hil : ∀ g, ι g → g < w.heap.size) (hob : s.ob j = some ob) (hx : s'.x.length = s.x.length + 1)
  (hd : s'.ob j = some .dead) (hn : s'.ob s.x.length = some ob') (hs : Stay (mb (η j) ob).toList w w') (hok : OOk w' ι (fun k => if k = s.x.length then v' else η k) v' ob')
  (hm : ∀ g, mb v' ob' = some g → (mb (η j) ob = some g ∨ w.heap.size ≤ g) ∧ ¬ ι g) : Tr ι ι η (fun k => if k = s.x.length then v' else η k) s s' [j, s.x.length] w w' := by
 have hjl : j < s.x.length := by
  unfold St.ob at hob
  cases hx' : s.x[j]? with
  | none => rw [hx'] at hob; cases hob
  | some B => exact (List.getElem?_eq_some_iff.1 hx').1
 have hnone : s.ob s.x.length = none := by unfold St.ob; rw [List.getElem?_eq_none (Nat.le_refl _)]
 have hwm : ∀ g, g ∈ wm η s [j, s.x.length] ↔ mb (η j) ob = some g := fun g => by
  rw [mem_wm]
  constructor
  ·rintro ⟨k, hk, o, ho, h⟩
   simp only [List.mem_cons, List.not_mem_nil, or_false] at hk
   rcases hk with rfl | rfl
   ·rw [hob] at ho; cases ho; exact h
   ·rw [hnone] at ho; cases ho
  ·intro h; exact ⟨j, by simp, ob, hob, h⟩
 have two : ∀ k ∈ [j, s.x.length], ∀ o, s'.ob k = some o → (k = j ∧ o = .dead) ∨ (k = s.x.length ∧ o = ob') := fun k hk o ho => by
  simp only [List.mem_cons, List.not_mem_nil, or_false] at hk
  rcases hk with rfl | rfl
  ·rw [hd] at ho; cases ho; exact .inl ⟨rfl, rfl⟩
  ·rw [hn] at ho; cases ho; exact .inr ⟨rfl, rfl⟩
 refine ⟨⟨hs.os, hs.tape, hs.output, hs.size, fun g hg hlt => hs.same g (fun h => hg ((hwm g).2 (by simpa using h))) hlt⟩, fun _ h => h, fun _ h => .inl h, fun g hg => Nat.lt_of_lt_of_le (hil g hg) hs.size, fun k hk => ?_, fun k hk o ho => ?_, fun k hk o g ho hg => ?_⟩
 ·have : ¬ k = s.x.length := by omega
  simp [this]
 ·rcases two k hk o ho with ⟨rfl, rfl⟩ | ⟨rfl, rfl⟩
  ·trivial
  ·simpa using hok
 ·rcases two k hk o ho with ⟨rfl, rfl⟩ | ⟨rfl, rfl⟩
  ·cases hg
  ·simp only [if_true] at hg
   obtain ⟨h1, h2⟩ := hm g hg
   refine ⟨?_, h2, fun k' hk' o' ho' hg' => ?_⟩
   ·rcases h1 with h1 | h1
    ·exact .inl ((hwm g).2 h1)
    ·exact .inr h1
   ·rcases two k' hk' o' ho' with ⟨rfl, rfl⟩ | ⟨rfl, rfl⟩
    ·cases hg'
    ·rfl
theorem rd_inv {w : World} {ι : Nat → Prop} {v : Value} {z : Nat} {es : List (List Dt)} (h : Rd w ι v (.s z es)) : ∃ (a : Option Addr) (c : Nat) (f : Nat → Nat → Value), v = .slice a es.length c ∧ es.length ≤ c ∧ c ≤ maxLen ∧ (a = none → c = 0) ∧ (∀ e ∈ es, e.length = z) ∧ (es ≠ [] → ∃ g off, a = some ⟨g, off, none⟩ ∧ ι g) ∧
  (∀ g off, a = some ⟨g, off, none⟩ → ∀ i e j d, es[i]? = some e → e[j]? = some d → w.cell? ⟨g, off + (i * z + j), none⟩ = some (f i j)) ∧ ∀ i e j d, es[i]? = some e → e[j]? = some d → Rd w ι (f i j) d := by
 cases h with
 | s f h0 h1 h2 h3 h4 h5 h6 => exact ⟨_, _, f, rfl, h1, h2, h0, h3, h4, h5, h6⟩
theorem rd_sub {w : World} {ι : Nat → Prop} {a : Option Addr} {c z l h m : Nat} {es : List (List Dt)} (hr : Rd w ι (.slice a es.length c) (.s z es)) (h1 : l ≤ h) (h2 : h ≤ es.length) (h3 : h ≤ m) (h4 : m ≤ c) :
  Rd w ι (.slice (if m = l then a else a.map (·.add (l * z))) (h - l) (m - l)) (.s z ((es.take h).drop l)) := by
 obtain ⟨a', c', f, e0, a1, a2, a0, a3, a4, a5, a6⟩ := rd_inv hr
 injection e0 with e1 e2 e3
 subst e1 e3
 ·have hlen : ((es.take h).drop l).length = h - l := by simp; omega
  have hget : ∀ (i : Nat) (e : List Dt), ((es.take h).drop l)[i]? = some e → es[l + i]? = some e := fun i e hi => by
   rw [List.getElem?_drop, List.getElem?_take] at hi
   split at hi
   ·exact hi
   ·cases hi
  rw [← hlen]
  refine .s (fun i j => f (l + i) j) (fun hn => ?_) (by omega) (by omega) (fun e he => a3 e (List.mem_of_mem_take (List.mem_of_mem_drop he))) (fun hne => ?_) (fun g off ha i e j d hi hj => ?_) (fun i e j d hi hj => a6 (l + i) e j d (hget i e hi) hj)
  ·have : a = none := by
    cases a with
    | none => rfl
    | some x => split at hn <;> simp at hn
   have := a0 this; omega
  ·have hpos := List.length_pos_iff.2 hne
   have hne' : es ≠ [] := fun e => by subst e; simp at hpos
   obtain ⟨g, off, e, hg⟩ := a4 hne'
   subst e
   have : ¬ m = l := by omega
   rw [if_neg this]
   exact ⟨g, off + l * z, by simp [add_at], hg⟩
  ·have hpos : 0 < ((es.take h).drop l).length := Nat.lt_of_le_of_lt (Nat.zero_le _) (List.getElem?_eq_some_iff.1 hi).1
   have : ¬ m = l := by omega
   rw [if_neg this] at ha
   have hne' : es ≠ [] := fun e => by subst e; simp at hpos
   obtain ⟨g', off', e', hg⟩ := a4 hne'
   subst e'
   simp only [Option.map_some, add_at, Option.some.injEq, Addr.mk.injEq, and_true] at ha
   obtain ⟨rfl, rfl⟩ := ha
   rw [← a5 _ _ rfl (l + i) e j d (hget i e hi) hj]
   congr 2
   rw [Nat.add_mul]; omega
theorem run_sl {s : St} {t e : TypeId} {inf : TypeInfo} (hu : P.underlying t = some (.slice e)) (hi : P.info? e = some inf) {ad : Option Addr} {n c l h : Nat} {ev : Operand → Value} {lo hi' mx : Option Operand} {w : World}
  (hlo : (lo = none ∧ l = 0) ∨ ∃ x k, lo = some x ∧ ev x = .int k l) (hhi : (hi' = none ∧ h = n) ∨ ∃ x k, hi' = some x ∧ ev x = .int k h) (hmx : mx = none ∨ (∃ x k, mx = some x ∧ ev x = .int k h) ∧ hi' ≠ none) (h1 : l ≤ h) (h2 : h ≤ n) (h3 : n ≤ c) :
  (Instr.sliceAt t (.slice ad n c) (lo.map ev) (hi'.map ev) (mx.map ev)).run P w = .ok (.slice (if (if mx = none then c else h) = l then ad else ad.map (·.add (l * inf.size))) (h - l) ((if mx = none then c else h) - l)) w := by
 have r1 := fun kl w => run_sliceBound (P := P) (w := w) kl (l : Int) h .sliceB (by omega) (by omega)
 have r2 := fun kh w => run_sliceBound (P := P) (w := w) kh (h : Int) c .sliceAcap (by omega) (by omega)
 have r3 := fun kh w => run_sliceBound (P := P) (w := w) kh (h : Int) c .slice3Acap (by omega) (by omega)
 have r4 := fun kh w => run_sliceBound (P := P) (w := w) kh (h : Int) h .slice3B (by omega) (by omega)
 have r5 := fun kl w => run_sliceBound (P := P) (w := w) kl (l : Int) h .slice3C (by omega) (by omega)
 rcases hmx with rfl | ⟨⟨x, k, rfl, hx⟩, hne⟩
 ·rcases hlo with ⟨rfl, rfl⟩ | ⟨x, k, rfl, hx⟩ <;> rcases hhi with ⟨rfl, rfl⟩ | ⟨y, k', rfl, hy⟩
  ·simp [Instr.sliceAt, Instr.slice, Instr.sliceBounds, run_underlying hu, sizeOf, typeInfo, hi]
  ·simp [Instr.sliceAt, Instr.slice, Instr.sliceBounds, run_underlying hu, sizeOf, typeInfo, hi, hy, r2]
  ·simp [Instr.sliceAt, Instr.slice, Instr.sliceBounds, run_underlying hu, sizeOf, typeInfo, hi, hx, r1]
  ·simp [Instr.sliceAt, Instr.slice, Instr.sliceBounds, run_underlying hu, sizeOf, typeInfo, hi, hx, hy, r1, r2]
 ·rcases hhi with ⟨rfl, _⟩ | ⟨y, k', rfl, hy⟩
  ·exact absurd rfl hne
  ·rcases hlo with ⟨rfl, rfl⟩ | ⟨x', k, rfl, hx'⟩
   ·simp [Instr.sliceAt, Instr.slice, Instr.sliceBounds, run_underlying hu, sizeOf, typeInfo, hi, hx, hy, r3, r4]
   ·simp [Instr.sliceAt, Instr.slice, Instr.sliceBounds, run_underlying hu, sizeOf, typeInfo, hi, hx, hx', hy, r3, r4, r5]
section
variable {s : St} {o : Oper} {η : Nat → Value} {ι : Nat → Prop} {a : Act} {w : World} {Q : Exit → Act → World → Prop}
theorem intO_c {z r : Int} {lo : Option Operand} {l : Nat} (hl : Sees s η a o.op.operands.toList) (hm : ∀ x ∈ lo, x ∈ o.op.operands.toList) (h : intO s z lo = some r) (hr : r = l) : (lo = none ∧ z = l) ∨ ∃ x k, lo = some x ∧ a.eval x = .int k l := by
 cases lo with
 | none => simp only [intO, Option.some.injEq] at h; exact .inl ⟨rfl, by omega⟩
 | some x =>
  simp only [intO] at h
  obtain ⟨k, hk⟩ := intV_c (η := η) h
  exact .inr ⟨x, k, rfl, by rw [sees_ov hl (hm x rfl), hk, hr]⟩
theorem own_take {w : World} {ι : Nat → Prop} {v : Value} {T z h : Nat} {es : List (List Dt)} (ho : Own w ι v T z es) (hh : h ≤ es.length) : ∃ ad c, v = .slice ad es.length c ∧ es.length ≤ c ∧ Own w ι (.slice ad h c) T z (es.take h) := by
 obtain ⟨h1, xs, ⟨h2, h3⟩, h4⟩ := ho
 have hlen : (es.take h).length = h := by simp; omega
 have hz : h * z ≤ es.length * z := Nat.mul_le_mul_right _ hh
 have hget : ∀ (i : Nat) (e : List Dt) (j : Nat) (d : Dt), (es.take h)[i]? = some e → e[j]? = some d → ∃ x, (xs.take (h * z))[i * z + j]? = some x ∧ Rd w ι x d := fun i e j d hi hj => by
  rw [List.getElem?_take] at hi
  split at hi
  ·rename_i hlt
   obtain ⟨x, hx, hr⟩ := h4 i e j d hi hj
   refine ⟨x, ?_, hr⟩
   rw [List.getElem?_take, if_pos ?_]
   ·exact hx
   ·have hjz : j < z := by rw [← h1 e (List.mem_of_getElem? hi)]; exact (List.getElem?_eq_some_iff.1 hj).1
    have : (i + 1) * z ≤ h * z := Nat.mul_le_mul_right _ hlt
    rw [Nat.succ_mul] at this; omega
  ·cases hi
 rcases h3 with ⟨rfl, h0⟩ | ⟨g, cap, cur, rfl, h5, h6, h7, h8, h9, h10⟩
 ·have e0 : h = 0 := by omega
  subst e0
  exact ⟨none, 0, by rw [h0], by omega, fun e he => h1 e (List.mem_of_mem_take he), xs.take (0 * z), ⟨by simp, .inl ⟨rfl, by simp⟩⟩, hget⟩
 ·refine ⟨_, _, rfl, h7, fun e he => h1 e (List.mem_of_mem_take he), xs.take (h * z), ⟨by rw [List.length_take, hlen]; omega, .inr ⟨g, cap, cur, by rw [hlen], h5, h6, by omega, h8, h9, ?_⟩⟩, hget⟩
  rw [hlen, ← h10, List.take_take]
  congr 1; omega
theorem beh_b {it : List It} {d t l h len : Nat} {own : Bool} {lo hi : Int} {R : R1} (hd : o.dst = some d) (hh : beh P N s o d (.b t own lo hi l h len) it = some R) (hi' : ItOk P W D Fn (.b t own lo hi l h len)) (hit : ∀ i ∈ it, ItOk P W D Fn i) (hq : Eqs R.q)
  (hl : Sees s η a o.op.operands.toList) (hk : Kn s η) (hL : Loc s η ι w (R.r ++ R.w)) : Owes P s o η ι a w R.s R.w Q := by
 simp only [beh] at hh
 split at hh
 ·rename_i T x lo' hi2 mx hop
  have hmem : ∀ y, (y = x ∨ y ∈ lo' ∨ y ∈ hi2 ∨ y ∈ mx) → y ∈ o.op.operands.toList := fun y hy => by
   rw [hop]; simp [Op.operands]
   rcases hy with h | h | h | h
   ·exact .inl h
   ·exact .inr (.inl h)
   ·exact .inr (.inr (.inl h))
   ·exact .inr (.inr (.inr h))
  have hx := sees_ov hl (x := x) (hmem x (.inl rfl))
  split at hh
  ·rename_i j hv
   split at hh
   ·rename_i B hB
    split at hh
    ·rename_i e inf hel
     obtain ⟨hu, hinf⟩ := eli_spec hel
     split at hh
     ·rename_i loC hlo
      split at hh
      ·rename_i z es hBo
       split at hh
       ·rename_i hiC hhi
        split at hh
        ·rename_i mC hmC
         cases hb : (Nat.beq inf.size z && (hi2.isSome || mx.isNone)) with
         | false => rw [hb] at hh; cases hh
         | true =>
          rw [hb] at hh; cases hh
          simp only [Bool.and_eq_true, Bool.or_eq_true] at hb
          have hb1 := Nat.eq_of_beq_eq_true hb.1
          obtain ⟨e1, e2, e3, e4⟩ := fin_v hq hit
          have q1 := e4 _ (List.mem_cons_self ..)
          have q2 := e4 _ (List.mem_cons_of_mem _ (List.mem_cons_self ..))
          have q3 := e4 _ (List.mem_cons_of_mem _ (List.mem_cons_of_mem _ (List.mem_cons_self ..)))
          simp only [Cl.n.injEq] at q1 q2 q3
          simp only [ItOk] at hi'
          obtain ⟨i1, i2, i3, i4⟩ := hi'
          have hob : s.ob j = some (.sl z es) := by rw [ob_of hB, hBo]
          have hrd : Rd w ι (η j) (.s z es) := hL.ok j (by rw [e2, e3]; simp) _ hob
          obtain ⟨ad, c, f, f1, f2, _⟩ := rd_inv hrd
          rw [f1] at hrd
          rw [hv] at hx
          simp only [AV.c, AC.c, f1, slV] at hx
          have c1 := intO_c hl (fun y hy => hmem y (.inr (.inl hy))) hlo (l := l) (by omega)
          have c2 := intO_c hl (fun y hy => hmem y (.inr (.inr (.inl hy)))) hhi (l := h) (by omega)
          have c3 := intO_c hl (fun y hy => hmem y (.inr (.inr (.inr hy)))) hmC (l := h) (by omega)
          have hrun := run_sl (P := P) (s := s) (w := w) hu hinf (ad := ad) (n := es.length) (c := c) (l := l) (h := h) (ev := a.eval) (lo := lo') (hi' := hi2) (mx := mx) (by rcases c1 with ⟨h1, h2⟩ | h1; exact .inl ⟨h1, by omega⟩; exact .inr h1)
           (by rcases c2 with ⟨h1, h2⟩ | h1; exact .inl ⟨h1, by omega⟩; exact .inr h1)
           (by
            rcases c3 with ⟨h1, h2⟩ | h1
            ·exact .inl h1
            ·refine .inr ⟨h1, ?_⟩
             obtain ⟨y, k, h2, _⟩ := h1
             rcases hb.2 with h3 | h3
             ·intro h4; rw [h4] at h3; cases h3
             ·rw [h2] at h3; cases h3) i3 (by omega) f2
          have hex : (execOp a.eval o).run P w = .ok (.value (.slice (if (if mx = none then c else h) = l then ad else ad.map (·.add (l * inf.size))) (h - l) ((if mx = none then c else h) - l))) w := by
           unfold execOp; simp only [hop, hx, Sem.run_bind, hrun]; rfl
          rw [e1, e3]
          have hrs := rd_sub hrd (l := l) (h := h) (m := if mx = none then c else h) i3 (by omega) (by split <;> omega) (by split <;> omega)
          rw [hb1] at hex
          refine fun K hK => wp_ok hex (hK (fun k => if k = s.x.length then .slice (if (if mx = none then c else h) = l then ad else ad.map (·.add (l * z))) (h - l) ((if mx = none then c else h) - l) else η k) ι _ _ (fun d' e => ?_) (tr_new hL.il (by simp [St.put]) (fun j hj => by simp at hj; omega) (fun q hq' => ?_) (fun q hq' ob ho => ?_)))
          ·rw [hd] at e; cases e; rw [put_at, if_pos rfl]; simp [AV.c, AC.c, slV]
          ·have : ¬ q = s.x.length := by simp [St.put] at hq'; omega
           simp [this]
          ·simp only [List.mem_singleton] at hq'
           subst hq'
           rw [put_ob, ob_new] at ho
           cases ho
           exact ⟨z, _, rfl, by simpa using hrs⟩
        ·cases hh
       ·cases hh
      ·rename_i R' z es hBo
       split at hh
       ·rename_i hiC hhi
        split at hh
        ·cases hb : (Nat.beq inf.size z && Nat.beq l 0) with
         | false => rw [hb] at hh; cases hh
         | true =>
          rw [hb] at hh; cases hh
          simp only [Bool.and_eq_true] at hb
          have hb1 := Nat.eq_of_beq_eq_true hb.1
          have hb2 := Nat.eq_of_beq_eq_true hb.2
          subst hb2
          obtain ⟨e1, e2, e3, e4⟩ := fin_v hq hit
          have q1 := e4 _ (List.mem_cons_self ..)
          have q2 := e4 _ (List.mem_cons_of_mem _ (List.mem_cons_self ..))
          simp only [Cl.n.injEq] at q1 q2
          simp only [ItOk] at hi'
          obtain ⟨i1, i2, i3, i4⟩ := hi'
          have hob : s.ob j = some (.row R' z es) := by rw [ob_of hB, hBo]
          have hown : Own w ι (η j) R' z es := hL.ok j (by rw [e2, e3]; simp) _ hob
          obtain ⟨ad, c, f1, f2, f3⟩ := own_take hown (h := h) (by omega)
          rw [hv] at hx
          simp only [AV.c, AC.c, f1, slV] at hx
          have c1 := intO_c hl (fun y hy => hmem y (.inr (.inl hy))) hlo (l := 0) (by omega)
          have c2 := intO_c hl (fun y hy => hmem y (.inr (.inr (.inl hy)))) hhi (l := h) (by omega)
          have hrun := run_sl (P := P) (s := s) (w := w) hu hinf (ad := ad) (n := es.length) (c := c) (l := 0) (h := h) (ev := a.eval) (lo := lo') (hi' := hi2) (mx := none) (by rcases c1 with ⟨h1, h2⟩ | h1; exact .inl ⟨h1, rfl⟩; exact .inr h1)
           (by rcases c2 with ⟨h1, h2⟩ | h1; exact .inl ⟨h1, by omega⟩; exact .inr h1) (.inl rfl) (by omega) (by omega) f2
          have hval : (Value.slice (if (if (none : Option Operand) = none then c else h) = 0 then ad else ad.map (·.add (0 * inf.size))) (h - 0) ((if (none : Option Operand) = none then c else h) - 0)) = .slice ad h c := by
           simp only [if_true, Nat.sub_zero, Nat.zero_mul]
           congr 1
           split
           ·rfl
           ·cases ad <;> simp [Addr.add]
          rw [hval] at hrun
          have hex : (execOp a.eval o).run P w = .ok (.value (.slice ad h c)) w := by
           unfold execOp; simp only [hop, hx, Sem.run_bind, hrun]; rfl
          rw [e1, e3]
          have hjl := (List.getElem?_eq_some_iff.1 hB).1
          have hmi := fun g => hL.mi j (by rw [e2, e3]; simp) _ g hob
          refine fun K hK => wp_ok hex (hK (fun k => if k = s.x.length then .slice ad h c else η k) ι _ _ (fun d' e => ?_) (tr_cons (ob' := .row R' z (es.take h)) hL.il hob (by simp [St.put]) ?_ ?_ (by exact (Stay.refl _ _)) f3 (fun g hg => ?_)))
          ·rw [hd] at e; cases e; rw [put_at, if_pos rfl]; simp [AV.c, AC.c, slV]
          ·rw [put_ob]; unfold St.ob; simp only; rw [List.getElem?_append_left (by simpa using hjl)]; simp [hjl]
          ·rw [put_ob]; unfold St.ob; simp only; rw [List.getElem?_append_right (by simp)]; simp
          ·have hmb : mb (η j) (.row R' z es) = some g := by rw [f1]; cases ad <;> exact hg
           exact ⟨.inl hmb, (hmi g hmb).1⟩
        ·cases hh
       ·cases hh
      ·cases hh
     ·cases hh
    ·cases hh
   ·cases hh
  ·cases hh
 ·cases hh
end
theorem rd_reads {w : World} {ι : Nat → Prop} {v : Value} {z : Nat} {es : List (List Dt)} (hz : 0 < z) (h : Rd w ι v (.s z es)) (hil : ∀ g, ι g → g < w.heap.size) :
  ∃ xs : List Value, xs.length = es.length * z ∧ ReadsE w w.heap.size v es.length xs ∧ (∀ u ∈ xs, u.oneCell' = true) ∧ ∀ i e j d, es[i]? = some e → e[j]? = some d → ∃ x, xs[i * z + j]? = some x ∧ Rd w ι x d := by
 obtain ⟨ad, c, f, rfl, h1, h2, h0, h3, h4, h5, h6⟩ := rd_inv h
 have hget : ∀ (q : Nat), q < es.length * z → ∃ e d, es[q / z]? = some e ∧ e[q % z]? = some d := fun q hq => by
  have hi : q / z < es.length := (Nat.div_lt_iff_lt_mul hz).2 hq
  have he : es[q / z]? = some es[q / z] := List.getElem?_eq_getElem hi
  have hj : q % z < es[q / z].length := by rw [h3 _ (List.mem_of_getElem? he)]; exact Nat.mod_lt _ hz
  exact ⟨_, _, he, List.getElem?_eq_getElem hj⟩
 have hel : ∀ i e j d, es[i]? = some e → e[j]? = some d → j < z ∧ i * z + j < es.length * z ∧ (i * z + j) / z = i ∧ (i * z + j) % z = j := fun i e j d he hd => by
  have hj : j < z := by rw [← h3 e (List.mem_of_getElem? he)]; exact (List.getElem?_eq_some_iff.1 hd).1
  have hi := (List.getElem?_eq_some_iff.1 he).1
  have : (i + 1) * z ≤ es.length * z := Nat.mul_le_mul_right _ hi
  rw [Nat.succ_mul] at this
  refine ⟨hj, by omega, ?_, ?_⟩
  ·rw [Nat.mul_comm, Nat.mul_add_div hz, Nat.div_eq_of_lt hj]; rfl
  ·rw [Nat.mul_comm, Nat.mul_add_mod, Nat.mod_eq_of_lt hj]
 refine ⟨(List.range (es.length * z)).map fun q => f (q / z) (q % z), by simp, ?_, fun u hu => ?_, fun i e j d he hd => ?_⟩
 ·by_cases hne : es = []
  ·subst hne
   cases ad with
   | none =>
    have := h0 rfl
    subst this
    exact .inl (.inl ⟨rfl, rfl, by simp⟩)
   | some x => exact .inr ⟨rfl, by simp, x, c, rfl⟩
  ·obtain ⟨g, off, rfl, hg⟩ := h4 hne
   refine .inl (.inr ⟨g, off, c, rfl, hil g hg, h1, h2, fun q x hq => ?_⟩)
   rw [List.getElem?_map] at hq
   cases hr : (List.range (es.length * z))[q]? with
   | none => rw [hr] at hq; cases hq
   | some q' =>
    rw [hr] at hq
    simp only [Option.map_some, Option.some.injEq] at hq
    have hlt := (List.getElem?_eq_some_iff.1 hr).1
    simp only [List.length_range] at hlt
    rw [List.getElem?_range hlt] at hr
    cases hr
    obtain ⟨e, d, he, hd⟩ := hget q hlt
    rw [← hq, ← h5 g off rfl _ e _ d he hd]
    congr 2
    rw [Nat.mul_comm, Nat.div_add_mod]
 ·obtain ⟨q, hq, rfl⟩ := List.mem_map.1 hu
  obtain ⟨e, d, he, hd⟩ := hget q (List.mem_range.1 hq)
  exact (h6 _ e _ d he hd).one
 ·obtain ⟨a1, a2, a3, a4⟩ := hel i e j d he hd
  refine ⟨f i j, ?_, h6 i e j d he hd⟩
  rw [List.getElem?_map, List.getElem?_range a2]
  simp only [Option.map_some, a3, a4]
theorem tr_fresh {s s' : St} {ob' : Ob} {v' : Value} {w w' : World} {η : Nat → Value} {ι : Nat → Prop} (hil : ∀ g, ι g → g < w.heap.size) (hx : s'.x.length = s.x.length + 1)
  (hn : s'.ob s.x.length = some ob') (hs : Stay [] w w') (hok : OOk w' ι (fun k => if k = s.x.length then v' else η k) v' ob') (hm : ∀ g, mb v' ob' = some g → w.heap.size ≤ g) :
  Tr ι ι η (fun k => if k = s.x.length then v' else η k) s s' [s.x.length] w w' := by
 have hwm : wm η s [s.x.length] = [] := by
  refine List.eq_nil_iff_forall_not_mem.2 fun g hg => ?_
  obtain ⟨j, hj, ob, ho, _⟩ := mem_wm.1 hg
  simp only [List.mem_singleton] at hj
  subst hj
  unfold St.ob at ho
  rw [List.getElem?_eq_none (Nat.le_refl _)] at ho
  cases ho
 refine ⟨by rw [hwm]; exact hs, fun _ h => h, fun _ h => .inl h, fun g hg => Nat.lt_of_lt_of_le (hil g hg) hs.size, fun j hj => ?_, fun j hj ob ho => ?_, fun j hj ob g ho hg => ?_⟩
 ·have : ¬ j = s.x.length := by omega
  simp [this]
 ·simp only [List.mem_singleton] at hj
  subst hj
  rw [hn] at ho; cases ho
  simpa using hok
 ·simp only [List.mem_singleton] at hj
  subst hj
  rw [hn] at ho; cases ho
  simp only [if_true] at hg
  have := hm g hg
  exact ⟨.inr this, fun h => by have := hil g h; omega, fun j' hj' _ _ _ => by simpa using hj'⟩
theorem own_reads {w : World} {ι : Nat → Prop} {v : Value} {T z : Nat} {es : List (List Dt)} (hz : 0 < z) (h : Own w ι v T z es) :
  ∃ xs : List Value, xs.length = es.length * z ∧ ReadsE w w.heap.size v es.length xs ∧ (∀ u ∈ xs, u.oneCell' = true) ∧ ∀ i e j d, es[i]? = some e → e[j]? = some d → ∃ x, xs[i * z + j]? = some x ∧ Rd w ι x d := by
 obtain ⟨h1, xs, h2, h3⟩ := h
 refine ⟨xs, h2.1, .inl (Reads.of_own h2), fun u hu => ?_, h3⟩
 obtain ⟨q, hq⟩ := List.getElem?_of_mem hu
 have hlt := (List.getElem?_eq_some_iff.1 hq).1
 rw [h2.1] at hlt
 have hi : q / z < es.length := (Nat.div_lt_iff_lt_mul hz).2 hlt
 have he : es[q / z]? = some es[q / z] := List.getElem?_eq_getElem hi
 have hj : q % z < es[q / z].length := by rw [h1 _ (List.mem_of_getElem? he)]; exact Nat.mod_lt _ hz
 obtain ⟨x, hx, hr⟩ := h3 _ _ _ _ he (List.getElem?_eq_getElem hj)
 rw [Nat.mul_comm, Nat.div_add_mod, hq] at hx
 cases hx
 exact hr.one
theorem own_app {w w' : World} {ι : Nat → Prop} {v' : Value} {T z : Nat} {es1 es2 : List (List Dt)} {xs1 xs2 : List Value} (h1 : ∀ e ∈ es1, e.length = z) (h2 : ∀ e ∈ es2, e.length = z) (l1 : xs1.length = es1.length * z)
  (c1 : ∀ i e j d, es1[i]? = some e → e[j]? = some d → ∃ x, xs1[i * z + j]? = some x ∧ Rd w ι x d) (c2 : ∀ i e j d, es2[i]? = some e → e[j]? = some d → ∃ x, xs2[i * z + j]? = some x ∧ Rd w ι x d)
  (ho : w'.ownsRow 0 T z v' (es1.length + es2.length) (xs1 ++ xs2)) (hi : ∀ g, ι g → w'.heap[g]? = w.heap[g]?) : Own w' ι v' T z (es1 ++ es2) := by
 refine ⟨fun e he => ?_, xs1 ++ xs2, by rw [List.length_append]; exact ho, fun i e j d he hd => ?_⟩
 ·rcases List.mem_append.1 he with h | h
  ·exact h1 e h
  ·exact h2 e h
 ·rcases Nat.lt_or_ge i es1.length with h | h
  ·rw [List.getElem?_append_left h] at he
   obtain ⟨x, hx, hr⟩ := c1 i e j d he hd
   have := (List.getElem?_eq_some_iff.1 hx).1
   exact ⟨x, by rw [List.getElem?_append_left this]; exact hx, hr.mono (fun _ h => h) hi⟩
  ·rw [List.getElem?_append_right h] at he
   obtain ⟨x, hx, hr⟩ := c2 _ e j d he hd
   refine ⟨x, ?_, hr.mono (fun _ h => h) hi⟩
   have hle : es1.length * z ≤ i * z := Nat.mul_le_mul_right _ h
   rw [List.getElem?_append_right (by omega), l1, show i * z + j - es1.length * z = (i - es1.length) * z + j by rw [Nat.sub_mul]; omega]
   exact hx
section
variable {s : St} {o : Oper} {η : Nat → Value} {ι : Nat → Prop} {a : Act} {w : World} {Q : Exit → Act → World → Prop}
theorem rows_reads {j z : Nat} {es : List (List Dt)} (hz : 0 < z) (hr : s.rows j = some (z, es)) (h : ∀ ob, s.ob j = some ob → OOk w ι η (η j) ob) (hil : ∀ g, ι g → g < w.heap.size) :
  (∀ e ∈ es, e.length = z) ∧ (∃ ad c, η j = .slice ad es.length c) ∧ ∃ xs : List Value, xs.length = es.length * z ∧ ReadsE w w.heap.size (η j) es.length xs ∧ (∀ u ∈ xs, u.oneCell' = true) ∧ ∀ i e j d, es[i]? = some e → e[j]? = some d → ∃ x, xs[i * z + j]? = some x ∧ Rd w ι x d := by
 refine ⟨?_, rows_sl hr h, ?_⟩
 ·rcases rows_ob hr with ⟨T, ho⟩ | ho
  ·exact (h _ ho).1
  ·obtain ⟨_, _, _, _, _, _, _, h3, _⟩ := rd_inv (h _ ho); exact h3
 ·rcases rows_ob hr with ⟨T, ho⟩ | ho
  ·exact own_reads hz (h _ ho)
  ·exact rd_reads hz (h _ ho) hil
theorem beh_a {it : List It} {d t n by_ : Nat} {R : R1} (hd : o.dst = some d) (hh : beh P N s o d (.a t n by_) it = some R) (hi' : ItOk P W D Fn (.a t n by_)) (hit : ∀ i ∈ it, ItOk P W D Fn i) (hq : Eqs R.q)
  (hl : Sees s η a o.op.operands.toList) (hk : Kn s η) (hL : Loc s η ι w (R.r ++ R.w)) : Owes P s o η ι a w R.s R.w Q := by
 simp only [beh] at hh
 split at hh
 ·rename_i args ats hop
  split at hh
  ·rename_i x y hargs
   split at hh
   ·rename_i T T' hats
    have hav : args = #[x, y] := by have := Array.toArray_toList (xs := args); rw [hargs] at this; exact this.symm
    have hat : ats = #[T, T'] := by have := Array.toArray_toList (xs := ats); rw [hats] at this; exact this.symm
    cases hT : Nat.beq T T' with
    | false => rw [hT] at hh; cases hh
    | true =>
     rw [hT] at hh
     have hT := Nat.eq_of_beq_eq_true hT
     subst hT
     simp only [cond_true] at hh
     split at hh
     ·rename_i e inf hel
      obtain ⟨hu, hinf⟩ := eli_spec hel
      split at hh
      ·rename_i zv hzv
       cases hb : (Nat.beq zv.cells.size inf.size && !Nat.beq inf.size 0) with
       | false => rw [hb] at hh; cases hh
       | true =>
        rw [hb] at hh
        simp only [cond_true] at hh
        simp only [Bool.and_eq_true, Bool.not_eq_true'] at hb
        have hb1 := Nat.eq_of_beq_eq_true hb.1
        have hb2 : 0 < inf.size := by
         rcases Nat.eq_zero_or_pos inf.size with h | h
         ·have := hb.2; rw [h] at this; cases this
         ·exact h
        split at hh
        ·rename_i j2 hvy
         split at hh
         ·rename_i z2 es2 hr2
          cases hz2 : Nat.beq z2 inf.size with
          | false => rw [hz2] at hh; cases hh
          | true =>
           rw [hz2] at hh
           simp only [cond_true] at hh
           have hz2 := Nat.eq_of_beq_eq_true hz2
           subst hz2
           have hmx : x ∈ o.op.operands.toList := by rw [hop, hav]; simp [Op.operands, Call.operands]
           have hmy : y ∈ o.op.operands.toList := by rw [hop, hav]; simp [Op.operands, Call.operands]
           have hx := sees_ov hl hmx
           have hy := sees_ov hl hmy
           rw [hvy] at hy
           have hex : ∀ {v v' : Value} {w' : World}, a.eval x = v → (Builtin.append_ #[T, T] o.type #[v, a.eval y]).run P w = .ok v' w' → (execOp a.eval o).run P w = .ok (.value v') w' := fun {v v' w'} h1 h2 => by
            subst h1
            unfold execOp
            simp [hop, hav, hat, resolve, invoke, builtin, Sem.run_bind, h2]
           split at hh
           ·rename_i hvx
            cases hh
            obtain ⟨e1, e2, e3, e4⟩ := fin_v hq hit
            have q1 := e4 _ (List.mem_singleton.2 rfl)
            simp only [Cl.n.injEq] at q1
            simp only [ItOk] at hi'
            obtain ⟨r1, ⟨ad, c, r2⟩, xs, r3, r4, r5, r6⟩ := rows_reads hb2 hr2 (hL.ok j2 (by rw [e2, e3]; simp)) hL.il
            rw [hvx] at hx
            simp only [AV.c, AC.c, r2, slV] at hx hy
            rw [r2] at r4
            rw [← hy] at r4
            have hby : (0 + es2.length) * inf.bytes ≤ 140737488355328 := by
             have h1 : es2.length = n := by omega
             rw [Nat.zero_add, h1, q1.2]; exact hi'.2
            obtain ⟨v', w', hrun, ho, hg, hmv⟩ := run_append2E (P := P) w 0 T o.type e inf zv inf.size inf.bytes hu hinf hzv rfl rfl hb1 hb2 (.slice none 0 0) 0 [] (World.ownsRow_nil w 0 e inf.size) _ w.heap.size es2.length xs r4 r3 r5 (by omega) hby (Nat.zero_le _)
            rw [e1, e3]
            have hst : Stay [] w w' := ⟨hg.os, hg.tape, hg.output, hg.size, fun k _ hk => hg.block k hk (by simp [Value.ownBlock])⟩
            refine fun K hK => wp_ok (hex hx hrun) (hK (fun k => if k = s.x.length then v' else η k) ι _ _ (fun d' e => ?_) (tr_fresh (ob' := .row e inf.size es2) hL.il (by simp [St.put]) (by rw [put_ob, ob_new]) hst ?_ (fun g hg' => ?_)))
            ·rw [hd] at e; cases e; rw [put_at, if_pos rfl]
             have : slV v' = v' := by
              rcases ho.2 with ⟨h, _⟩ | ⟨_, _, _, h, _⟩ <;> rw [h] <;> rfl
             simp [AV.c, AC.c, this]
            ·have := own_app (w := w) (w' := w') (ι := ι) (v' := v') (T := e) (z := inf.size) (es1 := []) (es2 := es2) (xs1 := []) (xs2 := xs) (by simp) r1 (by simp) (by simp) r6 (by simpa using ho) (fun g hg' => hst.same g (by simp) (hL.il g hg'))
             rw [List.nil_append] at this
             exact this
            ·have hg'' : v'.ownBlock = some g := hg'
             rcases hmv with h | ⟨g2, h, h'⟩
             ·rw [hg''] at h; cases h
             ·rw [hg''] at h; cases h; exact h'
           ·rename_i j1 hvx
            split at hh
            ·rename_i k1 eT z1 es1 hB
             cases hc : (Nat.beq z1 inf.size && (Nat.beq eT e && !Nat.beq j1 j2)) with
             | false => rw [hc] at hh; cases hh
             | true =>
              rw [hc] at hh; cases hh
              simp only [Bool.and_eq_true] at hc
              have c1 := Nat.eq_of_beq_eq_true hc.1
              have c2 := Nat.eq_of_beq_eq_true hc.2.1
              subst c1 c2
              obtain ⟨e1, e2, e3, e4⟩ := fin_v hq hit
              have q1 := e4 _ (List.mem_singleton.2 rfl)
              simp only [Cl.n.injEq] at q1
              simp only [ItOk] at hi'
              obtain ⟨r1, ⟨ad, c, r2⟩, xs, r3, r4, r5, r6⟩ := rows_reads hb2 hr2 (hL.ok j2 (by rw [e2, e3]; simp)) hL.il
              have hob : s.ob j1 = some (.row eT inf.size es1) := ob_of hB
              have hown : Own w ι (η j1) eT inf.size es1 := hL.ok j1 (by rw [e2, e3]; simp) _ hob
              have hmi := fun g => hL.mi j1 (by rw [e2, e3]; simp) _ g hob
              obtain ⟨o1, xs1, o2, o3⟩ := hown
              have hsv : slV (η j1) = η j1 := by
               rcases o2.2 with ⟨h, _⟩ | ⟨_, _, _, h, _⟩ <;> rw [h] <;> rfl
              rw [hvx] at hx
              simp only [AV.c, AC.c, r2, slV] at hy
              simp only [AV.c, AC.c, hsv] at hx
              rw [r2] at r4
              rw [← hy] at r4
              have hby : (es1.length + es2.length) * inf.bytes ≤ 140737488355328 := by
               have h1 : es1.length + es2.length = n := by omega
               rw [h1, q1.2]; exact hi'.2
              obtain ⟨v', w', hrun, ho, hg, hmv⟩ := run_append2E (P := P) w 0 T o.type eT inf zv inf.size inf.bytes hu hinf hzv rfl rfl hb1 hb2 (η j1) es1.length xs1 o2 _ w.heap.size es2.length xs r4 r3 r5 (by have := hi'.1; omega) hby (Nat.zero_le _)
              rw [e1, e3]
              have hst : Stay (mb (η j1) (.row eT inf.size es1)).toList w w' := ⟨hg.os, hg.tape, hg.output, hg.size, fun k hk hk' => hg.block k hk' (fun e => hk (by simp [mb, ← e]))⟩
              have hjl := (List.getElem?_eq_some_iff.1 hB).1
              refine fun K hK => wp_ok (hex hx hrun) (hK (fun k => if k = s.x.length then v' else η k) ι _ _ (fun d' e => ?_) (tr_cons (ob' := .row eT inf.size (es1 ++ es2)) hL.il hob (by simp [St.put]) ?_ ?_ hst ?_ (fun g hg' => ?_)))
              ·rw [hd] at e; cases e; rw [put_at, if_pos rfl]
               have : slV v' = v' := by
                rcases ho.2 with ⟨h, _⟩ | ⟨_, _, _, h, _⟩ <;> rw [h] <;> rfl
               simp [AV.c, AC.c, this]
              ·rw [put_ob]; unfold St.ob; simp only; rw [List.getElem?_append_left (by simpa using hjl)]; simp [hjl]
              ·rw [put_ob]; unfold St.ob; simp only; rw [List.getElem?_append_right (by simp)]; simp
              ·exact own_app (w := w) o1 r1 o2.1 o3 r6 ho (fun g hg' => hst.same g (fun h => (hmi g (by simpa using h)).1 hg') (hL.il g hg'))
              ·have hg'' : v'.ownBlock = some g := hg'
               rcases hmv with h | ⟨g2, h, h'⟩
               ·rw [hg''] at h
                exact ⟨.inl h.symm, (hmi g h.symm).1⟩
               ·rw [hg''] at h; cases h
                exact ⟨.inr h', fun h => by have := hL.il g h; omega⟩
            ·cases hh
           ·cases hh
         ·cases hh
        ·cases hh
      ·cases hh
     ·cases hh
   ·cases hh
  ·cases hh
 ·cases hh
theorem beh_k {it : List It} {d t len n by_ : Nat} {z : Int} {R : R1} (hd : o.dst = some d) (hh : beh P N s o d (.k t len z n by_) it = some R) (hi' : ItOk P W D Fn (.k t len z n by_)) (hit : ∀ i ∈ it, ItOk P W D Fn i) (hq : Eqs R.q)
  (hl : Sees s η a o.op.operands.toList) (hk : Kn s η) (hL : Loc s η ι w (R.r ++ R.w)) : Owes P s o η ι a w R.s R.w Q := by
 simp only [beh] at hh
 split at hh
 ·rename_i T l c hop
  split at hh
  ·rename_i e inf hel
   obtain ⟨hu, hinf⟩ := eli_spec hel
   split at hh
   ·rename_i zv hzv
    split at hh
    ·rename_i kl lz hvl
     split at hh
     ·rename_i cz hcz
      cases hb : (Nat.beq zv.cells.size inf.size && (!Nat.beq inf.size 0 && zv.cells.toList.all (·.oneCell'))) with
      | false => rw [hb] at hh; cases hh
      | true =>
       rw [hb] at hh; cases hh
       simp only [Bool.and_eq_true, List.all_eq_true] at hb
       obtain ⟨b1, b2, b3⟩ := hb
       have b1 := Nat.eq_of_beq_eq_true b1
       obtain ⟨e1, e2, e3, e4⟩ := fin_v hq hit
       have q1 := e4 _ (List.mem_cons_self ..)
       have q2 := e4 _ (List.mem_cons_of_mem _ (List.mem_singleton.2 rfl))
       simp only [Cl.n.injEq] at q1 q2
       simp only [ItOk] at hi'
       obtain ⟨i1, i2, i3, i4⟩ := hi'
       have hml : l ∈ o.op.operands.toList := by rw [hop]; simp [Op.operands]
       have hmc : c ∈ o.op.operands.toList := by rw [hop]; simp [Op.operands]
       have hxl := sees_ov hl hml
       rw [hvl, q2.1] at hxl
       obtain ⟨kc, hkc⟩ := intV_c (η := η) hcz
       have hxc := sees_ov hl hmc
       rw [hkc, show cz = (n : Int) by omega] at hxc
       have hby : (inf.bytes : Int) * (n : Int) ≤ 281474976710656 := by
        have : inf.bytes * n ≤ 140737488355328 := by rw [Nat.mul_comm, q1.2]; exact i3
        have h2 : ((inf.bytes * n : Nat) : Int) ≤ 281474976710656 := by omega
        rwa [Int.natCast_mul] at h2
       have hn63 : (n : Int) ≤ 9223372036854775807 := by unfold maxLen at i2; omega
       have hrun := run_make (P := P) w T e inf zv hu hinf hzv kl kc (len : Int) (n : Int) (by omega) (by omega) hby hn63
       simp only [Int.toNat_natCast] at hrun
       generalize hw' : w.alloc (.cells (madeCells zv.cells (n * inf.size)) e) = w' at hrun
       have hex : (execOp a.eval o).run P w = .ok (.value (.slice (some ⟨w.heap.size, 0, none⟩) len n)) w' := by
        unfold execOp
        simp only [hop, hxl, hxc, AV.c, AC.c, Sem.run_bind, hrun]; rfl
       rw [e1, e3]
       have hg : w.grownBy w' none := by rw [← hw']; exact World.grownBy_alloc w _ none
       have hst : Stay [] w w' := ⟨hg.os, hg.tape, hg.output, hg.size, fun k _ hk => hg.block k hk (by simp)⟩
       have hlr : (rowsZ len zv.cells.toList).length = len := by simp [rowsZ]
       have hel : ∀ i e', (rowsZ len zv.cells.toList)[i]? = some e' → e' = zv.cells.toList.map .v ∧ i < len := fun i e' he => by
        have hi := (List.getElem?_eq_some_iff.1 he).1
        rw [hlr] at hi
        simp only [rowsZ, List.getElem?_replicate, hi, if_true, Option.some.injEq] at he
        exact ⟨he.symm, hi⟩
       have hle : len * inf.size ≤ n * inf.size := Nat.mul_le_mul_right _ i4
       have own : OOk w' ι (fun k => if k = s.x.length then .slice (some ⟨w.heap.size, 0, none⟩) len n else η k) (.slice (some ⟨w.heap.size, 0, none⟩) len n) (.row e inf.size (rowsZ len zv.cells.toList)) := by
        refine ⟨fun e' he => ?_, (madeCells zv.cells (n * inf.size)).toList.take (len * inf.size), ⟨by rw [hlr, List.length_take, Array.length_toList, size_madeCells]; exact Nat.min_eq_left hle, .inr ⟨w.heap.size, n, _, by rw [hlr], Nat.zero_le _, by rw [← hw']; exact World.alloc_heap_new w _, by rw [hlr]; exact i4, i2, size_madeCells _ _, by rw [hlr]⟩⟩, fun i e1 j d he hd' => ?_⟩
        ·obtain ⟨i, hi⟩ := List.getElem?_of_mem he
         rw [(hel i e' hi).1]; simp [b1]
        ·obtain ⟨rfl, hi⟩ := hel i e1 he
         have hj := (List.getElem?_eq_some_iff.1 hd').1
         simp only [List.length_map, Array.length_toList] at hj
         rw [b1] at hj
         have hlt : i * inf.size + j < len * inf.size := by
          have : (i + 1) * inf.size ≤ len * inf.size := Nat.mul_le_mul_right _ hi
          rw [Nat.succ_mul] at this
          omega
         have hmod : (i * inf.size + j) % zv.cells.size = j := by rw [b1, Nat.mul_comm, Nat.mul_add_mod]; exact Nat.mod_eq_of_lt hj
         have hjz : j < zv.cells.size := by omega
         refine ⟨zv.cells[j], ?_, ?_⟩
         ·rw [List.getElem?_take, if_pos hlt]
          simp only [madeCells, Array.toList_map, Array.toList_range, List.getElem?_map, List.getElem?_range (show i * inf.size + j < n * inf.size by omega), Option.map_some, hmod]
          simp [hjz]
         ·have : d = .v zv.cells[j] := by
           rw [List.getElem?_map] at hd'
           simp [hjz] at hd'
           exact hd'.symm
          rw [this]
          exact .v _ (b3 _ (by simp))
       refine fun K hK => wp_ok hex (hK (fun k => if k = s.x.length then .slice (some ⟨w.heap.size, 0, none⟩) len n else η k) ι _ _ (fun d' e => ?_) (tr_fresh (ob' := .row e inf.size (rowsZ len zv.cells.toList)) hL.il (by simp [St.put]) (by rw [put_ob, ob_new]) hst own (fun g hg' => ?_)))
       ·rw [hd] at e; cases e; rw [put_at, if_pos rfl]; simp [AV.c, AC.c, slV]
       ·cases hg'; exact Nat.le_refl _
     ·cases hh
    ·cases hh
   ·cases hh
  ·cases hh
 ·cases hh
end
end
end Go.Eo
