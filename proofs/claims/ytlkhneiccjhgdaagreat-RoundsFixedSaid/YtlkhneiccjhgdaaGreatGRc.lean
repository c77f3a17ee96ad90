/- The engine with objects: what the objects are in memory. No program in sight. -/
import Derived.Test.YtlkhneiccjhgdaaGreatGRb
import Derived.Deep.RegionHeld
import Derived.Test.YtlkhneiccjhgdaaGreatGRa
import Derived.BigQuiet
import Derived.Laws.MakeOwn
import Derived.Great.BuildSlice
set_option linter.unusedVariables false
set_option linter.unusedSimpArgs false
namespace Go.Eo
open Go Go.RowKit Go.Rg
structure Keep (B : Nat → Prop) (w w' : World) : Prop where
 os : w'.os = w.os
 tape : w'.tape = w.tape
 output : w'.output = w.output
 size : w.heap.size ≤ w'.heap.size
 same : ∀ k, ¬ B k → k < w.heap.size → w'.heap[k]? = w.heap[k]?
theorem Keep.refl (B : Nat → Prop) (w : World) : Keep B w w := ⟨rfl, rfl, rfl, Nat.le_refl _, fun _ _ _ => rfl⟩
theorem Keep.drew {B : Nat → Prop} {w w' : World} (h : Keep B w w') : Keep B w w'.drew := ⟨h.os, h.tape, h.output, h.size, h.same⟩
inductive Rd (w : World) (ι : Nat → Prop) : Value → Dt → Prop where
 | v (x : Value) (h : x.oneCell' = true) : Rd w ι x (.v x)
 | s {a : Option Addr} {c z : Nat} {es : List (List Dt)} (f : Nat → Nat → Value) (h0 : a = none → c = 0) (h1 : es.length ≤ c) (h2 : c ≤ maxLen) (h3 : ∀ e ∈ es, e.length = z) (h4 : es ≠ [] → ∃ g off, a = some ⟨g, off, none⟩ ∧ ι g)
   (h5 : ∀ g off, a = some ⟨g, off, none⟩ → ∀ i e j d, es[i]? = some e → e[j]? = some d → w.cell? ⟨g, off + (i * z + j), none⟩ = some (f i j))
   (h6 : ∀ i e j d, es[i]? = some e → e[j]? = some d → Rd w ι (f i j) d) : Rd w ι (.slice a es.length c) (.s z es)
theorem Rd.one {w : World} {ι : Nat → Prop} {x : Value} {d : Dt} (h : Rd w ι x d) : x.oneCell' = true := by
 cases h with
 | v x h => exact h
 | s f => rfl
theorem Rd.mono {w w' : World} {ι ι' : Nat → Prop} (hi : ∀ g, ι g → ι' g) (hs : ∀ g, ι g → w'.heap[g]? = w.heap[g]?) {x : Value} {d : Dt} (h : Rd w ι x d) : Rd w' ι' x d := by
 induction h with
 | v x h => exact .v x h
 | s f h0 h1 h2 h3 h4 h5 h6 ih =>
  refine .s f h0 h1 h2 h3 (fun h => ?_) (fun g off ha i e j d hi' hj => ?_) ih
  ·obtain ⟨g, off, e, hg⟩ := h4 h
   exact ⟨g, off, e, hi g hg⟩
  ·rename_i es
   have hne : es ≠ [] := fun e' => by subst e'; cases hi'
   obtain ⟨g', off', e', hg⟩ := h4 hne
   rw [ha] at e'; cases e'
   rw [← h5 g off ha i e j d hi' hj]
   exact World.cell?_of_block (hs g hg)
def Own (w : World) (ι : Nat → Prop) (v : Value) (T : TypeId) (z : Nat) (es : List (List Dt)) : Prop :=
 (∀ e ∈ es, e.length = z) ∧ ∃ xs, w.ownsRow 0 T z v es.length xs ∧ ∀ i e j d, es[i]? = some e → e[j]? = some d → ∃ x, xs[i * z + j]? = some x ∧ Rd w ι x d
def OOk (w : World) (ι : Nat → Prop) (η : Nat → Value) (v : Value) : Ob → Prop
 | .box c T => ∃ b, v = .pointer (some ⟨b, 0, none⟩) ∧ Blk w b (c.map (·.c η)) T
 | .row T z es => Own w ι v T z es
 | .sl z es => Rd w ι v (.s z es)
 | .dead => True
 | .ro c T => ∃ b, v = .pointer (some ⟨b, 0, none⟩) ∧ ι b ∧ Blk w b (c.map (·.c η)) T
def mb (v : Value) : Ob → Option Nat
 | .box _ _ => match v with
  | .pointer (some a) => some a.block
  | _ => none
 | .row _ _ _ => v.ownBlock
 | _ => none
theorem AC.c_congr {η η' : Nat → Value} {v : AC} (h : ∀ k, v.j = some k → η' k = η k) : v.c η' = v.c η := by
 cases v with
 | v x => rfl
 | p k o => simp only [AC.c, h k rfl]
 | s k o n c => simp only [AC.c, h k rfl]
 | w k => simp only [AC.c, h k rfl]
 | e k z i o => simp only [AC.c, h k rfl]
 | f fn k o => simp only [AC.c, h k rfl]
theorem unF_c (η : Nat → Value) (x : AC) : (unF x).c η = x.c η := by cases x <;> rfl
theorem unF_js (x : AC) : (unF x).js = x.j.toList := by cases x <;> rfl
theorem f_cells {fn : Fn} {fs cs l : List AC} (h : (AV.f fn fs cs).cells = some l) : ∃ j o, fs = [] ∧ cs = [.p j o] ∧ l = [.f fn j o] := by
 cases fs with
 | cons _ _ => cases h
 | nil =>
  cases cs with
  | nil => cases h
  | cons c cs =>
   cases cs with
   | cons _ _ => cases c <;> cases h
   | nil =>
    cases c with
    | p j o => cases h; exact ⟨j, o, rfl, rfl, rfl⟩
    | v _ => cases h
    | s _ _ _ _ => cases h
    | w _ => cases h
    | e _ _ _ _ => cases h
    | f _ _ _ => cases h
theorem cl_congr {η η' : Nat → Value} {l : List AC} (h : ∀ k ∈ l.filterMap (·.j), η' k = η k) : l.map (·.c η') = l.map (·.c η) := by
 refine List.map_congr_left fun x hx => AC.c_congr fun k hk => h k ?_
 exact List.mem_filterMap.2 ⟨x, hx, hk⟩
theorem AG.c_congr {η η' : Nat → Value} {v : AG} (h : ∀ k ∈ v.js, η' k = η k) : v.c η' = v.c η := by
 cases v with
 | a x => exact AC.c_congr fun k hk => h k (by simp [AG.js, hk])
 | g l => simp only [AG.c]; rw [cl_congr (fun k hk => h k hk)]
theorem AV.c_congr {η η' : Nat → Value} {v : AV} (h : ∀ k ∈ v.js, η' k = η k) : v.c η' = v.c η := by
 cases v with
 | a x => exact AC.c_congr fun k hk => h k (by simp [AV.js, hk])
 | g l => simp only [AV.c]; rw [cl_congr (fun k hk => h k hk)]
 | t l =>
  simp only [AV.c]
  congr 2
  exact List.map_congr_left fun x hx => AG.c_congr fun k hk => h k (List.mem_flatMap.2 ⟨x, hx, hk⟩)
 | f fn fs cs => simp only [AV.c]; rw [cl_congr (fun k hk => h k (List.mem_append_left _ hk)), cl_congr (fun k hk => h k (List.mem_append_right _ hk))]
theorem own_el {w : World} {ι : Nat → Prop} {v : Value} {T z : Nat} {es : List (List Dt)} (h : Own w ι v T z es) {i : Nat} {e : List Dt} (he : es[i]? = some e) :
  ∃ g off c, v = .slice (some ⟨g, off, none⟩) es.length c ∧ e.length = z ∧ ∀ j d, e[j]? = some d → ∃ x, w.cell? ⟨g, off + (i * z + j), none⟩ = some x ∧ Rd w ι x d := by
 obtain ⟨h1, xs, h2, h3⟩ := h
 have hne : 0 < es.length := Nat.lt_of_le_of_lt (Nat.zero_le _) (List.getElem?_eq_some_iff.1 he).1
 rcases h2.2 with ⟨rfl, h0⟩ | ⟨g, cap, cur, rfl, _, hg, hn, hc, hs, ht⟩
 ·omega
 ·refine ⟨g, 0, cap, rfl, h1 e (List.mem_of_getElem? he), fun j d hd => ?_⟩
  obtain ⟨x, hx, hr⟩ := h3 i e j d he hd
  refine ⟨x, ?_, hr⟩
  rw [← ht] at hx
  rw [List.getElem?_take] at hx
  split at hx
  ·simp only [World.cell?, hg, Nat.zero_add]
   simpa using hx
  ·cases hx
theorem sl_el {w : World} {ι : Nat → Prop} {v : Value} {z : Nat} {es : List (List Dt)} (h : Rd w ι v (.s z es)) {i : Nat} {e : List Dt} (he : es[i]? = some e) :
  ∃ g off c, v = .slice (some ⟨g, off, none⟩) es.length c ∧ e.length = z ∧ ∀ j d, e[j]? = some d → ∃ x, w.cell? ⟨g, off + (i * z + j), none⟩ = some x ∧ Rd w ι x d := by
 cases h with
 | s f h0 h1 h2 h3 h4 h5 h6 =>
  have hne : es ≠ [] := fun e' => by subst e'; cases he
  obtain ⟨g, off, ha, hg⟩ := h4 hne
  subst ha
  exact ⟨g, off, _, rfl, h3 e (List.mem_of_getElem? he), fun j d hd => ⟨f i j, h5 g off rfl i e j d he hd, h6 i e j d he hd⟩⟩
theorem own_rd {w : World} {ι ι' : Nat → Prop} {v : Value} {T z : Nat} {es : List (List Dt)} (h : Own w ι v T z es) (hi : ∀ g, ι g → ι' g) (hv : ∀ g, v.ownBlock = some g → ι' g) : Rd w ι' v (.s z es) := by
 obtain ⟨h1, xs, h2, h3⟩ := h
 have hf : ∀ i e j d, es[i]? = some e → e[j]? = some d → xs[i * z + j]?.getD undef = xs[i * z + j]?.getD undef := fun _ _ _ _ _ _ => rfl
 rcases h2.2 with ⟨rfl, h0⟩ | ⟨g, cap, cur, rfl, _, hg, hn, hc, hs, ht⟩
 ·have : es = [] := by cases es with
   | nil => rfl
   | cons a l => simp at h0
  subst this
  exact .s (fun _ _ => undef) (fun _ => rfl) (Nat.le_refl _) (Nat.zero_le _) (by simp) (fun h => absurd rfl h) (fun _ _ h => by cases h) (fun i e j d he => by cases he)
 ·refine .s (fun i j => xs[i * z + j]?.getD undef) (fun h => by cases h) hn hc h1 (fun _ => ⟨g, 0, rfl, hv g rfl⟩) (fun g' off ha i e j d he hd => ?_) (fun i e j d he hd => ?_)
  ·cases ha
   obtain ⟨x, hx, _⟩ := h3 i e j d he hd
   rw [hx]
   rw [← ht, List.getElem?_take] at hx
   split at hx
   ·simp only [World.cell?, hg, Nat.zero_add, Option.getD_some]
    simpa using hx
   ·cases hx
  ·obtain ⟨x, hx, hr⟩ := h3 i e j d he hd
   rw [hx]
   exact hr.mono hi (fun _ _ => rfl)
theorem OOk.stay {w w' : World} {ι ι' : Nat → Prop} {η η' : Nat → Value} {v : Value} {ob : Ob} {B : List Nat} (h : OOk w ι η v ob) (hs : Stay B w w') (hi : ∀ g, ι g → ι' g) (hB : ∀ g, ι g → g ∉ B ∧ g < w.heap.size) (hm : ∀ g, mb v ob = some g → g ∉ B)
  (he : ∀ k ∈ ob.js, η' k = η k) : OOk w' ι' η' v ob := by
 have hsame : ∀ g, ι g → w'.heap[g]? = w.heap[g]? := fun g hg => hs.same g (hB g hg).1 (hB g hg).2
 cases ob with
 | box c T =>
  obtain ⟨b, h1, h2⟩ := h
  refine ⟨b, h1, ?_⟩
  rw [cl_congr (fun k hk => he k hk)]
  exact h2.stay hs (hm b (by rw [h1]; rfl))
 | row T z es =>
  obtain ⟨h1, xs, h2, h3⟩ := h
  refine ⟨h1, xs, ⟨h2.1, ?_⟩, fun i e j d he' hd => ?_⟩
  ·rcases h2.2 with h | ⟨g, cap, cur, e, hb, hg, r⟩
   ·exact .inl h
   ·refine .inr ⟨g, cap, cur, e, hb, ?_, r⟩
    rw [hs.same g (hm g (by rw [e]; rfl)) (Array.getElem?_eq_some_iff.1 hg).1]; exact hg
  ·obtain ⟨x, hx, hr⟩ := h3 i e j d he' hd
   exact ⟨x, hx, hr.mono hi hsame⟩
 | sl z es => exact Rd.mono hi hsame h
 | dead => trivial
 | ro c T =>
  obtain ⟨b, h1, h2, h3⟩ := h
  refine ⟨b, h1, hi b h2, ?_⟩
  rw [cl_congr (fun k hk => he k hk)]
  exact h3.stay hs (hB b h2).1
theorem mb_lt {w : World} {ι : Nat → Prop} {η : Nat → Value} {v : Value} {ob : Ob} (h : OOk w ι η v ob) {g : Nat} (hm : mb v ob = some g) : g < w.heap.size := by
 cases ob with
 | box c T =>
  obtain ⟨b, h1, h2⟩ := h
  rw [h1] at hm; cases hm
  exact h2.lt
 | row T z es =>
  obtain ⟨h1, xs, h2, h3⟩ := h
  exact (h2.lt g hm).2
 | sl z es => cases hm
 | dead => cases hm
 | ro c T => cases hm
theorem bx_ok {s : St} {k : Nat} {c : List AC} (h : s.bx k = some c) : ∃ ob, s.ob k = some ob ∧ ob.js = c.filterMap (·.j) ∧ ∀ {w : World} {ι : Nat → Prop} {η : Nat → Value} {v : Value}, OOk w ι η v ob → ∃ b T, v = .pointer (some ⟨b, 0, none⟩) ∧ Blk w b (c.map (·.c η)) T := by
 unfold St.bx at h
 split at h
 ·rename_i c' T ho
  cases h
  exact ⟨_, ho, rfl, fun ⟨b, h1, h2⟩ => ⟨b, T, h1, h2⟩⟩
 ·rename_i c' T ho
  cases h
  exact ⟨_, ho, rfl, fun ⟨b, h1, h2, h3⟩ => ⟨b, T, h1, h3⟩⟩
 ·cases h
end Go.Eo
namespace Go.Eo
open Go Go.RowKit Go.Rg
section
variable {P : Program} {N : Nat} {W : World} {D : List Nat}
def Kn (s : St) (η : Nat → Value) : Prop := ∀ k B v, s.x[k]? = some B → B.k = some v → η k = v
theorem ra_c {s : St} {η : Nat → Value} (hk : Kn s η) {x : AC} {v : Value} (h : s.ra x = some v) : x.c η = v := by
 cases x <;> simp only [St.ra, Option.some.injEq] at h
 case v => exact h
 all_goals
  split at h
  ·rename_i B hB
   split at h
   ·rename_i v' hv
    cases h
    simp only [AC.c, hk _ B v' hB hv]
   ·cases h
  ·cases h
theorem ral_c {s : St} {η : Nat → Value} (hk : Kn s η) : ∀ {l : List AC} {vs : List Value}, s.ral l = some vs → l.map (·.c η) = vs
 | [], vs, h => by cases h; rfl
 | x :: l, vs, h => by
  unfold St.ral at h
  split at h
  ·rename_i v hv
   split at h
   ·rename_i vs' hl
    cases h
    rw [List.map_cons, ra_c hk hv, ral_c hk hl]
   ·cases h
  ·cases h
theorem rg_c {s : St} {η : Nat → Value} (hk : Kn s η) {x : AG} {v : Value} (h : s.rg x = some v) : x.c η = v := by
 cases x with
 | a x => exact ra_c hk h
 | g l =>
  simp only [St.rg] at h
  split at h
  ·rename_i vs hl; cases h; simp only [AG.c, ral_c hk hl]
  ·cases h
theorem rgl_c {s : St} {η : Nat → Value} (hk : Kn s η) : ∀ {l : List AG} {vs : List Value}, s.rgl l = some vs → l.map (·.c η) = vs
 | [], vs, h => by cases h; rfl
 | x :: l, vs, h => by
  unfold St.rgl at h
  split at h
  ·rename_i v hv
   split at h
   ·rename_i vs' hl
    cases h
    rw [List.map_cons, rg_c hk hv, rgl_c hk hl]
   ·cases h
  ·cases h
theorem rv_c {s : St} {η : Nat → Value} (hk : Kn s η) {x : AV} {v : Value} (h : s.rv x = some v) : x.c η = v := by
 cases x with
 | a x => exact ra_c hk h
 | g l =>
  simp only [St.rv] at h
  split at h
  ·rename_i vs hl; cases h; simp only [AV.c, ral_c hk hl]
  ·cases h
 | t l =>
  simp only [St.rv] at h
  split at h
  ·rename_i vs hl; cases h; simp only [AV.c, rgl_c hk hl]
  ·cases h
 | f fn fs cs =>
  simp only [St.rv] at h
  split at h
  ·rename_i xs hl
   split at h
   ·rename_i ys hl'; cases h; simp only [AV.c, ral_c hk hl, ral_c hk hl']
   ·cases h
  ·cases h
def Sees (s : St) (η : Nat → Value) (a : Act) (l : List Operand) : Prop := ∀ t, .tmp t ∈ l → a.tmps.getD t undef = (s.at t).c η
theorem sees_ov {s : St} {η : Nat → Value} {a : Act} {l : List Operand} (h : Sees s η a l) {x : Operand} (hx : x ∈ l) : a.eval x = (s.ov x).c η := by
 cases x with
 | tmp t => exact h t hx
 | const v => rfl
 | global g => rfl
 | func f => rfl
theorem sees_ev {s : St} {η : Nat → Value} {a : Act} {l : List Operand} (hk : Kn s η) (h : Sees s η a l) {x : Operand} (hx : x ∈ l) (ho : s.ok1 x = true) : s.ev x = a.eval x := by
 unfold St.ok1 at ho
 unfold St.ev
 rw [sees_ov h hx]
 cases hr : s.rv (s.ov x) with
 | none => rw [hr] at ho; cases ho
 | some v => exact (rv_c hk hr).symm
theorem fine_exec {s : St} {η : Nat → Value} {a : Act} {o : Oper} (hs : ∀ cs b, o.op ≠ .select cs b) (hk : Kn s η) (h : Sees s η a o.op.operands.toList) (hf : s.fine o = true) : execOp a.eval o = execOp s.ev o := by
 refine execOp_congr o hs fun x hx => (sees_ev hk h (by simpa using hx) ?_).symm
 unfold St.fine at hf
 rw [List.all_eq_true] at hf
 exact hf x (by simpa using hx)
theorem ac_one (η : Nat → Value) (x : AC) (h : okC x = true) : (x.c η).oneCell' = true := by
 cases x with
 | v x => exact h
 | p j o => rfl
 | s j o n c => rfl
 | w j => simp only [AC.c, slV]; split <;> rfl
 | e j z i o => rfl
 | f fn j o => rfl
theorem ac_cells (η : Nat → Value) (x : AC) (h : ∀ y, x ≠ .v y) : (x.c η).cells = #[x.c η] := by
 cases x with
 | v x => exact absurd rfl (h x)
 | p j o => rfl
 | s j o n c => rfl
 | w j => simp only [AC.c, slV]; split <;> rfl
 | e j z i o => rfl
 | f fn j o => rfl
theorem map_v (η : Nat → Value) (l : List Value) : (l.map AC.v).map (·.c η) = l := by
 rw [List.map_map]
 exact (List.map_congr_left (fun x _ => rfl)).trans (List.map_id l)
theorem cells_c {η : Nat → Value} {v : AV} {cs : List AC} (h : v.cells = some cs) : (v.c η).cells.toList = cs.map (·.c η) := by
 cases v with
 | a x =>
  cases x <;> simp only [AV.cells, Option.some.injEq] at h <;> subst h
  case v x => rw [map_v]; rfl
  all_goals (simp only [AV.c]; rw [ac_cells η _ (by simp)]; rfl)
 | g l => cases h; simp only [AV.c, Value.cells]
 | t l => cases h
 | f fn fs cs => obtain ⟨j, o, rfl, rfl, rfl⟩ := f_cells h; rfl
theorem vOf_c {η : Nat → Value} : ∀ {l : List AC} {vs : List Value}, vOf l = some vs → l.map (·.c η) = vs
 | [], vs, h => by cases h; rfl
 | x :: l, vs, h => by
  cases x <;> simp only [vOf, reduceCtorEq] at h
  split at h
  ·rename_i r hr; cases h; rw [List.map_cons, vOf_c hr]; rfl
  ·cases h
theorem mkG_c (η : Nat → Value) (l : List AC) : (mkG l).c η = .agg (l.map (·.c η)).toArray := by
 unfold mkG
 split
 ·rename_i vs h; rw [vOf_c h]; rfl
 ·rfl
theorem mkG_js (l : List AC) : ∀ k ∈ (mkG l).js, k ∈ l.filterMap (·.j) := by
 unfold mkG
 split
 ·intro k hk; simp [AV.js, AC.j] at hk
 ·intro k hk; exact hk
theorem add_at (b o n : Nat) : (⟨b, o, none⟩ : Addr).add n = ⟨b, o + n, none⟩ := by unfold Addr.add; split <;> simp_all
theorem run_fld {t f n : Nat} (h : fldo P t f = some n) (b o : Nat) (w : World) :
  (Instr.fieldAt t (.pointer (some ⟨b, o, none⟩)) f).run P w = .ok (.pointer (some ⟨b, o + n, none⟩)) w := by
 unfold fldo at h
 split at h
 ·rename_i fs hu
  split at h
  ·rename_i fd hf
   split at h
   ·rename_i i hi
    cases hz : Nat.beq i.size 0 with
    | true => rw [hz] at h; cases h
    | false =>
     rw [hz] at h; cases h
     have hz' : ¬ i.size = 0 := fun e => by rw [e] at hz; cases hz
     simp [Instr.fieldAt, Sem.run_bind, run_underlying hu, hf, Instr.sureAddr, fieldPlace, sizeOf, typeInfo, hi, hz', add_at]
   ·cases h
  ·cases h
 ·cases h
theorem run_elm {t n : Nat} {x : Value} (h : elmo P t x = some n) (b o : Nat) (w : World) :
  (Instr.indexAt t (.pointer (some ⟨b, o, none⟩)) x).run P w = .ok (.pointer (some ⟨b, o + n, none⟩)) w := by
 unfold elmo at h
 split at h
 ·rename_i m e hu
  split at h
  ·rename_i i hi
   split at h
   ·rename_i kd z
    cases hz : (decide (0 ≤ z) && decide (z < m)) with
    | false => rw [hz] at h; cases h
    | true =>
     rw [hz] at h; cases h
     simp only [Bool.and_eq_true, decide_eq_true_eq] at hz
     simp [Instr.indexAt, Sem.run_bind, run_underlying hu, asIntOf, Instr.sureAddr, sizeOf, typeInfo, hi, hz.1, hz.2, add_at]
   ·cases h
  ·cases h
 ·cases h
theorem run_elms {t n m c : Nat} {x : Value} (h : elms P t m x = some n) (b o : Nat) (w : World) :
  (Instr.indexAt t (.slice (some ⟨b, o, none⟩) m c) x).run P w = .ok (.pointer (some ⟨b, o + n, none⟩)) w := by
 unfold elms at h
 split at h
 ·rename_i e hu
  split at h
  ·rename_i i hi
   split at h
   ·rename_i kd z
    cases hz : (decide (0 ≤ z) && decide (z < m)) with
    | false => rw [hz] at h; cases h
    | true =>
     rw [hz] at h; cases h
     simp only [Bool.and_eq_true, decide_eq_true_eq] at hz
     simp [Instr.indexAt, Sem.run_bind, run_underlying hu, asIntOf, Instr.sureAddr, sizeOf, typeInfo, hi, hz.1, hz.2, add_at]
   ·cases h
  ·cases h
 ·cases h
theorem run_arr {t j n c : Nat} (h : arn P t = some j) (hn : Nat.ble j n = true) (a : Addr) (w : World) :
  (Instr.arrayAt t (.slice (some a) n c)).run P w = .ok (.pointer (some a)) w := by
 unfold arn at h
 split at h
 ·rename_i m e hu
  cases h
  have := Nat.le_of_ble_eq_true hn
  have hn' : ¬ n < j := by omega
  simp [Instr.arrayAt, Sem.run_bind, run_underlying hu, hn']
 ·cases h
theorem run_slo {s : St} {t l h m z : Nat} {lo hi mx : Option Operand} (hh : slo P s t lo hi mx = some (l, h, m, z)) (b o : Nat) (w : World) :
  (Instr.sliceAt t (.pointer (some ⟨b, o, none⟩)) (lo.map s.ev) (hi.map s.ev) (mx.map s.ev)).run P w = .ok (.slice (some ⟨b, bif Nat.beq m l then o else o + l * z, none⟩) (h - l) (m - l)) w
  ∧ (lo.toList ++ (hi.toList ++ mx.toList)).all s.ok1 = true := by
 unfold slo at hh
 split at hh
 ·rename_i n e hu
  split at hh
  ·rename_i i hi'
   split at hh
   ·rename_i hall
    split at hh
    ·rename_i l' h' m' hp
     cases hh
     refine ⟨?_, hall⟩
     have hb := pr_run hp w
     cases hml : Nat.beq m l with
     | true =>
      have := Nat.eq_of_beq_eq_true hml
      simp [Instr.sliceAt, Sem.run_bind, run_underlying hu, Instr.sureAddr, hb, sizeOf, typeInfo, hi', this]
     | false =>
      have : ¬ m = l := fun e => by rw [e] at hml; simp at hml
      simp [Instr.sliceAt, Sem.run_bind, run_underlying hu, Instr.sureAddr, hb, sizeOf, typeInfo, hi', this, add_at]
    ·cases hh
   ·cases hh
  ·cases hh
 ·cases hh
theorem run_ldv {t : TypeId} {cs : List AC} {o : Nat} {v : AV} (h : ldv P t cs o = some v) {η : Nat → Value} {b off : Nat} {w : World} (hb : ∀ j x, cs[j]? = some x → w.cell? ⟨b, off + j, none⟩ = some (x.c η)) :
  (Instr.loadAt t (.pointer (some ⟨b, off + o, none⟩))).run P w = .ok (v.c η) w ∧ ∀ k ∈ v.js, k ∈ cs.filterMap (·.j) := by
 unfold ldv at h
 split at h
 ·cases h
 ·rename_i d hu
  split at h
  ·rename_i hd
   split at h
   ·cases h
   ·rename_i i hi
    cases hz : Nat.ble (o + i.size) cs.length with
    | false => rw [hz] at h; cases h
    | true =>
     rw [hz] at h; cases h
     have hz' := Nat.le_of_ble_eq_true hz
     refine ⟨?_, fun k hk => ?_⟩
     ·rw [mkG_c]
      refine run_loadAt_mid w b (off + o) t (((cs.drop o).take i.size).map (·.c η)) d (fun j v hj => ?_) hu (by cases d <;> simp_all [tdRow]) (by rw [hi]; simp; omega)
      rw [List.getElem?_map, List.getElem?_take] at hj
      split at hj
      ·rw [List.getElem?_drop] at hj
       cases hx : cs[o + j]? with
       | none => rw [hx] at hj; cases hj
       | some x =>
        rw [hx] at hj; cases hj
        rw [Nat.add_assoc]; exact hb (o + j) x hx
      ·cases hj
     ·have := mkG_js _ k hk
      obtain ⟨x, hx, hj⟩ := List.mem_filterMap.1 this
      exact List.mem_filterMap.2 ⟨x, List.mem_of_mem_drop (List.mem_of_mem_take hx), hj⟩
  ·rename_i hd
   split at h
   ·rename_i x hx
    cases h
    refine ⟨?_, fun k hk => ?_⟩
    ·have hagg : (isAgg t).run P w = .ok false w := by
      unfold isAgg
      rw [Sem.run_bind, run_underlying hu w]
      cases d <;> simp_all [tdRow]
     have hc := hb o x hx
     simp only [Instr.loadAt, Instr.sureAddr, Sem.run_bind, Sem.run_pure, Result.andThen_ok, loadVar, hagg, Bool.false_eq_true, if_false, load, Sem.run, hc]
     rw [unF_c]
    ·exact List.mem_filterMap.2 ⟨x, List.mem_of_getElem? hx, by rw [unF_js] at hk; simpa using hk⟩
   ·cases h
theorem rows_sl {w : World} {ι : Nat → Prop} {η : Nat → Value} {s : St} {j z : Nat} {es : List (List Dt)} (hr : s.rows j = some (z, es)) (h : ∀ ob, s.ob j = some ob → OOk w ι η (η j) ob) : ∃ a c, η j = .slice a es.length c := by
 unfold St.rows at hr
 split at hr
 ·rename_i T z' es' ho
  cases hr
  obtain ⟨_, xs, h2, _⟩ := h _ ho
  rcases h2.2 with ⟨h3, h4⟩ | ⟨g, cap, cur, h3, _⟩
  ·exact ⟨none, 0, by rw [h3, h4]⟩
  ·exact ⟨_, _, h3⟩
 ·rename_i z' es' ho
  cases hr
  have := h _ ho
  simp only [OOk] at this
  generalize η j = v at this
  cases this with
  | s f => exact ⟨_, _, rfl⟩
 ·cases hr
theorem ln_rows {s : St} {j n : Nat} (h : s.ln j = some n) : ∃ z es, s.rows j = some (z, es) ∧ n = es.length := by
 unfold St.ln at h
 unfold St.rows
 split at h
 ·rename_i T z es ho; cases h; exact ⟨z, es, rfl, rfl⟩
 ·rename_i z es ho; cases h; exact ⟨z, es, rfl, rfl⟩
 ·cases h
theorem ov_js {s : St} {x : Operand} {k : Nat} (h : k ∈ (s.ov x).js) : ∃ t, x = .tmp t ∧ k ∈ (s.at t).js := by
 cases x with
 | tmp t => exact ⟨t, rfl, h⟩
 | const v => simp [St.ov, AV.js, AC.j] at h
 | global g => simp [St.ov, AV.js, AC.j] at h
 | func f => simp [St.ov, AV.js, AC.j] at h
def Scp (s : St) (o : Oper) (v : AV) (n : List Nat) : Prop := ∀ k ∈ v.js, k ∈ n ∨ ∃ t, .tmp t ∈ o.op.operands.toList ∧ k ∈ (s.at t).js
theorem scp_v (s : St) (o : Oper) (x : Value) (n : List Nat) : Scp s o (.a (.v x)) n := fun k hk => by simp [AV.js, AC.j] at hk
theorem scp_ov {s : St} {o : Oper} {x : Operand} (hx : x ∈ o.op.operands.toList) {v : AV} {n : List Nat} (h : ∀ k ∈ v.js, k ∈ (s.ov x).js) : Scp s o v n := fun k hk => by
 obtain ⟨t, rfl, h2⟩ := ov_js (h k hk)
 exact .inr ⟨t, hx, h2⟩
section
variable {s : St} {o : Oper} {η : Nat → Value} {a : Act} {w : World} {ι : Nat → Prop}
theorem gen_run (hs : ∀ cs b, o.op ≠ .select cs b) {v : AV} (h : gen P s o = some v) (hl : Sees s η a o.op.operands.toList) (hk : Kn s η) : (execOp a.eval o).run P w = .ok (.value (v.c η)) w ∧ ∀ n, Scp s o v n := by
 unfold gen at h
 split at h
 ·rename_i hf
  rw [fine_exec hs hk hl hf]
  split at h
  ·rename_i u hu
   cases h
   exact ⟨pr_run hu w, fun n => scp_v _ _ _ _⟩
  ·cases h
 ·cases h
theorem plcs_run (w : World) : ∀ (fs : List Field) (pl : List (Nat × Nat)), plcs P fs = some pl → (fs.mapM fun f => do pure (f.offset, ← sizeOf f.type) : Sem (List (Nat × Nat))).run P w = .ok pl w
 | [], pl, h => by cases h; rfl
 | f :: fs, pl, h => by
  unfold plcs at h
  split at h
  ·rename_i i hi
   split at h
   ·rename_i r hr
    cases h
    rw [List.mapM_cons]
    simp only [Sem.run_bind, sizeOf, typeInfo, program, Sem.run, hi, Sem.run_pure, Result.andThen_ok]
    have := plcs_run w fs r hr
    simp only [sizeOf, typeInfo, program] at this
    rw [this]
    rfl
   ·cases h
  ·cases h
theorem ptL_len {α : Type} : ∀ (vs cs : List α) (o : Nat), (ptL cs o vs).length = cs.length
 | [], cs, o => rfl
 | v :: r, cs, o => by rw [ptL, ptL_len r]; simp
theorem ptL_map {α β : Type} (f : α → β) : ∀ (vs cs : List α) (o : Nat), (ptL cs o vs).map f = ptL (cs.map f) o (vs.map f)
 | [], cs, o => rfl
 | v :: r, cs, o => by rw [ptL, ptL_map f r, List.map_set]; rfl
theorem ptL_mem {α : Type} : ∀ (vs cs : List α) (o : Nat) (x : α), x ∈ ptL cs o vs → x ∈ cs ∨ x ∈ vs
 | [], cs, o, x, h => .inl h
 | v :: r, cs, o, x, h => by
  rcases ptL_mem r _ _ x h with h | h
  ·rcases List.mem_or_eq_of_mem_set h with h | h
   ·exact .inl h
   ·exact .inr (by rw [h]; exact List.mem_cons_self ..)
  ·exact .inr (List.mem_cons_of_mem _ h)
theorem fold_pt (off : Nat) : ∀ (l : List Value) (k : Nat) (A : Array Value), (l.zipIdx k).foldl (fun (cs : Array Value) (c : Value × Nat) => cs.setIfInBounds (off + c.2) c.1) A = (ptL A.toList (off + k) l).toArray
 | [], k, A => by simp [ptL]
 | v :: l, k, A => by
  rw [List.zipIdx_cons, List.foldl_cons, fold_pt off l (k + 1)]
  simp only [ptL, Array.toList_setIfInBounds, Nat.add_assoc]
theorem fill_c {place : Nat → Option (Nat × Nat)} (η : Nat → Value) : ∀ (ps : List (Nat × List AC)) (vs : List (Nat × Value)) (cs : List AC) (r : List AC), fillA place cs ps = some r → vs.map (fun p => (p.1, p.2.cells.toList)) = ps.map (fun p => (p.1, p.2.map (·.c η))) →
  Instr.fill place (cs.map (·.c η)).toArray vs = some (r.map (·.c η)).toArray
 | [], [], cs, r, h, _ => by cases h; rfl
 | [], _ :: _, cs, r, h, he => by cases he
 | _ :: _, [], cs, r, h, he => by cases he
 | (i, c) :: ps, (i', v) :: vs, cs, r, h, he => by
  simp only [List.map_cons, List.cons.injEq, Prod.mk.injEq] at he
  obtain ⟨⟨rfl, hv⟩, he⟩ := he
  unfold fillA at h
  unfold Instr.fill
  split at h
  ·cases h
  ·rename_i o z hp
   cases hz : (Nat.beq c.length z && Nat.ble (o + c.length) cs.length) with
   | false => rw [hz] at h; cases h
   | true =>
    rw [hz] at h
    simp only [Bool.and_eq_true] at hz
    simp only [cond_true] at h
    have e1 := Nat.eq_of_beq_eq_true hz.1
    have e2 := Nat.le_of_ble_eq_true hz.2
    have e3 : v.cells.size = c.length := by rw [← Array.length_toList, hv]; simp
    rw [hp]
    simp only
    have hc : (v.cells.size ≠ z || o + v.cells.size > (cs.map (·.c η)).toArray.size) = false := by
     simp only [e3, List.size_toArray, List.length_map, Bool.or_eq_false_iff, decide_eq_false_iff_not]
     exact ⟨by simp [e1], by omega⟩
    rw [if_neg (by simpa using hc)]
    have hfold : v.cells.zipIdx.foldl (fun cs (x : Value × Nat) => cs.setIfInBounds (o + x.2) x.1) (cs.map (·.c η)).toArray = ((ptL cs o c).map (·.c η)).toArray := by
     rw [← Array.foldl_toList, Array.toList_zipIdx, hv, fold_pt]
     simp [ptL_map]
    exact (congrArg (fun A => Instr.fill place A vs) hfold).trans (fill_c η ps vs _ r h he)
theorem fillA_mem {place : Nat → Option (Nat × Nat)} : ∀ (ps : List (Nat × List AC)) (cs r : List AC), fillA place cs ps = some r → ∀ x ∈ r, x ∈ cs ∨ ∃ p ∈ ps, x ∈ p.2
 | [], cs, r, h, x, hx => by cases h; exact .inl hx
 | (i, c) :: ps, cs, r, h, x, hx => by
  unfold fillA at h
  split at h
  ·cases h
  ·rename_i o z hp
   cases hz : (Nat.beq c.length z && Nat.ble (o + c.length) cs.length) with
   | false => rw [hz] at h; cases h
   | true =>
    rw [hz] at h
    rcases fillA_mem ps _ r h x hx with h1 | ⟨p, h1, h2⟩
    ·rcases ptL_mem _ _ _ x h1 with h3 | h3
     ·exact .inl h3
     ·exact .inr ⟨_, List.mem_cons_self .., h3⟩
    ·exact .inr ⟨p, List.mem_cons_of_mem _ h1, h2⟩
theorem cellsL_c : ∀ {l : List (Nat × Operand)} {ps : List (Nat × List AC)}, cellsL s l = some ps → (∀ p ∈ l, a.eval p.2 = (s.ov p.2).c η) → (l.map (fun p => (p.1, a.eval p.2))).map (fun p => (p.1, p.2.cells.toList)) = ps.map (fun p => (p.1, p.2.map (·.c η))) ∧
  ∀ p ∈ ps, ∀ x ∈ p.2, ∀ k, x.j = some k → ∃ q ∈ l, k ∈ (s.ov q.2).js
 | [], ps, h, _ => by cases h; exact ⟨rfl, fun p hp => by cases hp⟩
 | (i, x) :: l, ps, h, hl => by
  unfold cellsL at h
  split at h
  ·rename_i c hc
   split at h
   ·rename_i r hr
    cases h
    obtain ⟨h1, h2⟩ := cellsL_c hr fun p hp => hl p (List.mem_cons_of_mem _ hp)
    refine ⟨?_, fun p hp y hy k hk => ?_⟩
    ·simp only [List.map_cons]
     rw [h1, hl _ (List.mem_cons_self ..), cells_c hc]
    ·cases hp with
     | head =>
      refine ⟨_, List.mem_cons_self .., ?_⟩
      cases hv : s.ov x with
      | a z =>
       rw [hv] at hc
       cases z <;> simp only [AV.cells, Option.some.injEq] at hc <;> subst hc
       case v z =>
        obtain ⟨u, _, rfl⟩ := List.mem_map.1 hy
        cases hk
       all_goals (simp only [List.mem_singleton] at hy; subst hy; simp [AV.js, hk])
      | g z => rw [hv] at hc; cases hc; exact List.mem_filterMap.2 ⟨y, hy, hk⟩
      | t z => rw [hv] at hc; cases hc
      | f fn fs cs =>
       rw [hv] at hc
       obtain ⟨j, o, rfl, rfl, rfl⟩ := f_cells hc
       simp only [List.mem_singleton] at hy; subst hy
       simpa [AV.js, AC.j, eq_comm] using hk
     | tail _ hp =>
      obtain ⟨q, hq, hk'⟩ := h2 p hp y hy k hk
      exact ⟨q, List.mem_cons_of_mem _ hq, hk'⟩
   ·cases h
  ·cases h
theorem bldA_run {t : TypeId} {ps : Array (Nat × Operand)} {v : AV} (h : bldA P s t ps = some v) (hl : ∀ p ∈ ps.toList, a.eval p.2 = (s.ov p.2).c η) :
  (Instr.build t (ps.map fun (i, x) => (i, a.eval x))).run P w = .ok (v.c η) w ∧ ∀ k ∈ v.js, ∃ q ∈ ps.toList, k ∈ (s.ov q.2).js := by
 unfold bldA at h
 split at h
 ·rename_i fs hu
  split at h
  ·rename_i pl hpl
   split at h
   ·rename_i z hz
    split at h
    ·rename_i pc hpc
     split at h
     ·rename_i c hf
      cases h
      obtain ⟨h1, h2⟩ := cellsL_c (η := η) (a := a) hpc hl
      have hfill := fill_c η pc _ _ c hf h1
      rw [map_v] at hfill
      have hp2 := plcs_run (P := P) w fs.toList pl hpl
      refine ⟨?_, fun k hk => ?_⟩
      ·rw [mkG_c]
       unfold zrc at hz
       split at hz
       ·rename_i i hi
        split at hz
        ·rename_i zv hzv
         cases hz
         simp only [Instr.build, zeroValue, typeInfo, program, Sem.run_bind, Sem.run, hi, hzv, Sem.run_pure, Result.andThen_ok, run_underlying hu w]
         rw [Array.mapM_eq_mapM_toList]
         simp only [Sem.run_map, hp2, Result.andThen_ok]
         have e1 : (ps.map fun (x : Nat × Operand) => (x.1, a.eval x.2)).toList = ps.toList.map (fun p => (p.1, a.eval p.2)) := by simp
         have e2 : (fun x : Nat => (pl.toArray[x]? : Option (Nat × Nat))) = fun x => pl[x]? := funext fun x => by simp
         simp only [e1, e2]
         rw [hfill]
         rfl
        ·cases hz
       ·cases hz
      ·obtain ⟨x, hx, hj⟩ := List.mem_filterMap.1 (mkG_js _ k hk)
       rcases fillA_mem _ _ _ hf x hx with h3 | ⟨p, h3, h4⟩
       ·obtain ⟨u, _, rfl⟩ := List.mem_map.1 h3; cases hj
       ·exact h2 p h3 x h4 k hj
     ·cases h
    ·cases h
   ·cases h
  ·cases h
 ·cases h
theorem acL_c {η : Nat → Value} : ∀ {l : List AV} {r : List AC}, acL l = some r → l.map (·.c η) = r.map (·.c η) ∧ ∀ k ∈ r.filterMap (·.j), ∃ v ∈ l, k ∈ v.js
 | [], r, h => by cases h; exact ⟨rfl, fun k hk => by cases hk⟩
 | .a x :: l, r, h => by
  simp only [acL] at h
  split at h
  ·rename_i r' hr
   cases h
   obtain ⟨h1, h2⟩ := acL_c (η := η) hr
   refine ⟨by simp only [List.map_cons, h1]; rfl, fun k hk => ?_⟩
   rw [List.filterMap_cons] at hk
   cases hj : x.j with
   | none =>
    rw [hj] at hk
    obtain ⟨v, hv, hk⟩ := h2 k hk
    exact ⟨v, List.mem_cons_of_mem _ hv, hk⟩
   | some q =>
    rw [hj] at hk
    cases hk with
    | head => exact ⟨_, List.mem_cons_self .., by simp [AV.js, hj]⟩
    | tail _ hk =>
     obtain ⟨v, hv, hk⟩ := h2 k hk
     exact ⟨v, List.mem_cons_of_mem _ hv, hk⟩
  ·cases h
 | .g x :: l, r, h => by cases h
 | .t x :: l, r, h => by cases h
 | .f x y z :: l, r, h => by cases h
theorem part_run {t : TypeId} {cs : List AC} {o : Nat} {v : AV} (h : ldv P t cs o = some v) (η : Nat → Value) (w : World) : (part t (cs.map (·.c η)).toArray o).run P w = .ok (v.c η) w ∧ ∀ k ∈ v.js, k ∈ cs.filterMap (·.j) := by
 unfold ldv at h
 split at h
 ·cases h
 ·rename_i d hu
  split at h
  ·rename_i hd
   split at h
   ·cases h
   ·rename_i i hi
    cases hz : Nat.ble (o + i.size) cs.length with
    | false => rw [hz] at h; cases h
    | true =>
     rw [hz] at h; cases h
     have hz' := Nat.le_of_ble_eq_true hz
     have hagg : (isAgg t).run P w = .ok true w := by
      unfold isAgg
      rw [Sem.run_bind, run_underlying hu w]
      cases d <;> simp_all [tdRow]
     refine ⟨?_, fun k hk => ?_⟩
     ·rw [mkG_c]
      simp only [part, Sem.run_bind, hagg, Result.andThen_ok, if_true, sizeOf, typeInfo, program, Sem.run, hi, Sem.run_pure]
      congr 2
      apply Array.ext'
      rw [Array.toList_extract]
      simp only [List.map_take, List.map_drop]
      rw [List.extract_eq_take_drop]
      congr 1
      omega
     ·obtain ⟨x, hx, hj⟩ := List.mem_filterMap.1 (mkG_js _ k hk)
      exact List.mem_filterMap.2 ⟨x, List.mem_of_mem_drop (List.mem_of_mem_take hx), hj⟩
  ·rename_i hd
   split at h
   ·rename_i x hx
    cases h
    have hagg : (isAgg t).run P w = .ok false w := by
     unfold isAgg
     rw [Sem.run_bind, run_underlying hu w]
     cases d <;> simp_all [tdRow]
    refine ⟨?_, fun k hk => List.mem_filterMap.2 ⟨x, List.mem_of_getElem? hx, by rw [unF_js] at hk; simpa using hk⟩⟩
    have e1 : (cs.map (·.c η)).toArray[o]? = some (x.c η) := by simp [hx]
    simp only [part, Sem.run_bind, hagg, Result.andThen_ok, Bool.false_eq_true, if_false, e1]
    rw [unF_c]; rfl
   ·cases h
theorem eqp_run {t e : TypeId} (hu : P.underlying t = some (.pointer e)) (a : Addr) (d : Nat) (w : World) : (Op.equalIn (d + 1) t (.pointer (some a)) (.pointer none)).run P w = .ok false w := by
 simp [Op.equalIn, Sem.run_bind, run_underlying hu]
theorem eqf_run {t : TypeId} {x y : Array TypeId} {b : Bool} (hu : P.underlying t = some (.func x y b)) (f : Fn) (p q : Array Value) (d : Nat) (w : World) : (Op.equalIn (d + 1) t (.func f p q) .nilFunc).run P w = .ok false w := by
 simp [Op.equalIn, Sem.run_bind, run_underlying hu]
theorem eql_nil {y : Operand} {x : Operand} {t : TypeId} {v : AV} (hn : nilC P t v y = true) (w : World) :
  (do eqGuard .eql t x y (v.c η) (a.eval y); binOp .eql t (v.c η) (a.eval y) : Sem Value).run P w = .ok (.bool false) w ∧
  (do eqGuard .neq t x y (v.c η) (a.eval y); binOp .neq t (v.c η) (a.eval y) : Sem Value).run P w = .ok (.bool true) w := by
 unfold nilC at hn
 split at hn
 ·rename_i k o
  split at hn
  ·rename_i e hu
   have h1 := eqp_run hu ⟨blk (η k), o, none⟩ 9999 w
   refine ⟨?_, ?_⟩
   ·show (do pure (); let r ← Op.equalIn (9999 + 1) t (.pointer (some ⟨blk (η k), o, none⟩)) (.pointer none); pure (Value.bool r) : Sem Value).run P w = _
    simp only [Sem.run_bind, Sem.run_pure, Result.andThen_ok, h1]
   ·show (do pure (); let r ← Op.equalIn (9999 + 1) t (.pointer (some ⟨blk (η k), o, none⟩)) (.pointer none); pure (Value.bool !r) : Sem Value).run P w = _
    simp only [Sem.run_bind, Sem.run_pure, Result.andThen_ok, h1]; rfl
  ·cases hn
 ·rename_i fn fs cs
  split at hn
  ·rename_i e1 e2 e3 hu
   have h1 := eqf_run hu fn (fs.map (·.c η)).toArray (cs.map (·.c η)).toArray 9999 w
   refine ⟨?_, ?_⟩
   ·show (do pure (); let r ← Op.equalIn (9999 + 1) t (.func fn (fs.map (·.c η)).toArray (cs.map (·.c η)).toArray) .nilFunc; pure (Value.bool r) : Sem Value).run P w = _
    simp only [Sem.run_bind, Sem.run_pure, Result.andThen_ok, h1]
   ·show (do pure (); let r ← Op.equalIn (9999 + 1) t (.func fn (fs.map (·.c η)).toArray (cs.map (·.c η)).toArray) .nilFunc; pure (Value.bool !r) : Sem Value).run P w = _
    simp only [Sem.run_bind, Sem.run_pure, Result.andThen_ok, h1]; rfl
  ·cases hn
 ·cases hn
theorem vop_run (hs : ∀ cs b, o.op ≠ .select cs b) {v : AV} {r : List Nat} (h : vop P s o = some (v, r)) (hl : Sees s η a o.op.operands.toList) (hk : Kn s η) (hob : ∀ j ∈ r, ∀ ob, s.ob j = some ob → OOk w ι η (η j) ob) :
  (execOp a.eval o).run P w = .ok (.value (v.c η)) w ∧ ∀ n, Scp s o v n := by
 have gen : ∀ {v : AV}, (match gen P s o with
  | some v => some (v, ([] : List Nat))
  | none => none) = some (v, r) → (execOp a.eval o).run P w = .ok (.value (v.c η)) w ∧ ∀ n, Scp s o v n := by
  intro v h
  split at h
  ·rename_i u hu; cases h; exact gen_run hs hu hl hk
  ·cases h
 have ovx : ∀ {x : Operand}, x ∈ o.op.operands.toList → a.eval x = (s.ov x).c η := fun hx => sees_ov hl hx
 have evx : ∀ {x : Operand}, x ∈ o.op.operands.toList → s.ok1 x = true → s.ev x = a.eval x := fun hx ho => sees_ev hk hl hx ho
 unfold vop at h
 simp only at h
 split at h
 ·rename_i x hx
  cases h
  have hm : x ∈ o.op.operands.toList := by rw [hx]; simp [Op.operands]
  refine ⟨?_, fun n => scp_ov hm (fun k hk => hk)⟩
  unfold execOp; simp only [hx, ovx hm]; rfl
 ·rename_i x hx
  cases h
  have hm : x ∈ o.op.operands.toList := by rw [hx]; simp [Op.operands]
  refine ⟨?_, fun n => scp_ov hm (fun k hk => hk)⟩
  unfold execOp; simp only [hx, ovx hm]; rfl
 ·rename_i x hx
  have hm : x ∈ o.op.operands.toList := by rw [hx]; simp [Op.operands]
  have he := ovx hm
  split at h
  ·rename_i k f hv
   cases h
   rw [hv] at he
   refine ⟨?_, fun n => scp_ov hm (fun k hk => by rw [hv]; exact hk)⟩
   unfold execOp; simp only [hx, he]; rfl
  ·rename_i j z i q hv
   cases h
   rw [hv] at he
   refine ⟨?_, fun n => scp_ov hm (fun k hk => by rw [hv]; exact hk)⟩
   unfold execOp; simp only [hx, he]; rfl
  ·exact gen h
 ·rename_i t x f hx
  have hm : x ∈ o.op.operands.toList := by rw [hx]; simp [Op.operands]
  have he := ovx hm
  split at h
  ·rename_i k off hv
   split at h
   ·rename_i n hn
    cases h
    rw [hv] at he
    refine ⟨?_, fun n => scp_ov hm (fun k hk => by rw [hv]; exact hk)⟩
    unfold execOp; simp only [hx, he, AV.c, AC.c, ptrAt, Sem.run_bind, run_fld hn]; rfl
   ·cases h
  ·rename_i j z i q hv
   split at h
   ·rename_i n hn
    cases h
    rw [hv] at he
    refine ⟨?_, fun n => scp_ov hm (fun k hk => by rw [hv]; exact hk)⟩
    unfold execOp; simp only [hx, he, AV.c, AC.c, elmAt, Sem.run_bind, run_fld hn, Nat.add_assoc]; rfl
   ·cases h
  ·exact gen h
 ·rename_i t x i hx
  have hm : x ∈ o.op.operands.toList := by rw [hx]; simp [Op.operands]
  have hmi : i ∈ o.op.operands.toList := by rw [hx]; simp [Op.operands]
  have he := ovx hm
  have hei := ovx hmi
  split at h
  ·rename_i k off hv
   split at h
   ·rename_i y hy
    split at h
    ·rename_i n hn
     cases h
     rw [hv] at he; rw [hy] at hei
     refine ⟨?_, fun n => scp_ov hm (fun k hk => by rw [hv]; exact hk)⟩
     unfold execOp; simp only [hx, he, hei, AV.c, AC.c, ptrAt, Sem.run_bind, run_elm hn]; rfl
    ·cases h
   ·cases h
  ·rename_i j z k off hv
   split at h
   ·rename_i y hy
    split at h
    ·rename_i n hn
     cases h
     rw [hv] at he; rw [hy] at hei
     refine ⟨?_, fun n => scp_ov hm (fun k hk => by rw [hv]; exact hk)⟩
     unfold execOp; simp only [hx, he, hei, AV.c, AC.c, elmAt, Sem.run_bind, run_elm hn, Nat.add_assoc]; rfl
    ·cases h
   ·cases h
  ·rename_i k off n c hv
   split at h
   ·rename_i y hy
    split at h
    ·rename_i j hn
     cases h
     rw [hv] at he; rw [hy] at hei
     refine ⟨?_, fun n => scp_ov hm (fun k hk => by rw [hv]; exact hk)⟩
     unfold execOp; simp only [hx, he, hei, AV.c, AC.c, slcAt, Sem.run_bind, run_elms hn]; rfl
    ·cases h
   ·cases h
  ·exact gen h
 ·rename_i t x lo hi mx hx
  have hm : x ∈ o.op.operands.toList := by rw [hx]; simp [Op.operands]
  have he := ovx hm
  split at h
  ·rename_i k off hv
   split at h
   ·rename_i l hh m z hn
    cases h
    rw [hv] at he
    refine ⟨?_, fun n => scp_ov hm (fun k hk => by rw [hv]; exact hk)⟩
    obtain ⟨h3, h4⟩ := run_slo hn (blk (η k)) off w
    rw [List.all_eq_true] at h4
    have em : ∀ (y : Option Operand), (∀ z ∈ y, z ∈ o.op.operands.toList ∧ s.ok1 z = true) → y.map a.eval = y.map s.ev := fun y hy => by
     cases y with
     | none => rfl
     | some z => obtain ⟨e1, e2⟩ := hy z rfl; simp [evx e1 e2]
    have e1 := em lo (fun z hz => ⟨by rw [hx]; simp [Op.operands]; exact .inr (.inl hz), h4 z (by simp; exact .inl hz)⟩)
    have e2 := em hi (fun z hz => ⟨by rw [hx]; simp [Op.operands]; exact .inr (.inr (.inl hz)), h4 z (by simp; exact .inr (.inl hz))⟩)
    have e3 := em mx (fun z hz => ⟨by rw [hx]; simp [Op.operands]; exact .inr (.inr (.inr hz)), h4 z (by simp; exact .inr (.inr hz))⟩)
    unfold execOp; simp only [hx, he, AV.c, AC.c, ptrAt, Sem.run_bind, e1, e2, e3, h3]; rfl
   ·cases h
  ·exact gen h
 ·rename_i t x hx
  have hm : x ∈ o.op.operands.toList := by rw [hx]; simp [Op.operands]
  have he := ovx hm
  split at h
  ·rename_i k off n c hv
   split at h
   ·rename_i j hj
    cases hn : Nat.ble j n with
    | false => rw [hn] at h; cases h
    | true =>
     rw [hn] at h; cases h
     rw [hv] at he
     refine ⟨?_, fun n => scp_ov hm (fun k hk => by rw [hv]; exact hk)⟩
     unfold execOp; simp only [hx, he, AV.c, AC.c, slcAt, Sem.run_bind, run_arr hj hn]; rfl
   ·cases h
  ·exact gen h
 ·rename_i t x f hx
  have hm : x ∈ o.op.operands.toList := by rw [hx]; simp [Op.operands]
  have he := ovx hm
  split at h
  ·rename_i l hv
   split at h
   ·rename_i v' hf
    cases h
    rw [hv] at he
    unfold fldc at hf
    split at hf
    ·rename_i fs hu
     split at hf
     ·rename_i fd hfd
      obtain ⟨h1, h2⟩ := part_run (P := P) hf η w
      refine ⟨?_, fun n => scp_ov hm (fun k hk => by rw [hv]; exact h2 k hk)⟩
      unfold execOp
      simp only [hx, he, AV.c, Instr.field, Sem.run_bind, run_underlying hu w, Result.andThen_ok, hfd, asAgg, Sem.run_pure, h1]
     ·cases hf
    ·cases hf
   ·cases h
  ·exact gen h
 ·rename_i x i hx
  have hm : x ∈ o.op.operands.toList := by rw [hx]; simp [Op.operands]
  have he := ovx hm
  split at h
  ·rename_i l hv
   split at h
   ·rename_i g hg
    cases h
    rw [hv] at he
    refine ⟨?_, fun n => scp_ov hm (fun k hk => ?_)⟩
    ·unfold execOp
     simp only [hx, he, AV.c, Instr.extract, Sem.run_bind]
     have : (l.map (·.c η)).toArray[i]? = some (g.c η) := by simp [hg]
     rw [this]
     cases g <;> rfl
    ·rw [hv]
     refine List.mem_flatMap.2 ⟨g, List.mem_of_getElem? hg, ?_⟩
     cases g <;> exact hk
   ·cases h
  ·exact gen h
 ·rename_i t ps hx
  split at h
  ·exact gen h
  ·split at h
   ·rename_i v' hb
    cases h
    have hm : ∀ p ∈ ps.toList, p.2 ∈ o.op.operands.toList := fun p hp => by
     rw [hx]; simp only [Op.operands]
     exact List.mem_map.2 ⟨p, hp, rfl⟩
    obtain ⟨h1, h2⟩ := bldA_run (P := P) (η := η) (a := a) (w := w) hb (fun p hp => ovx (hm p hp))
    refine ⟨?_, fun n k hk => ?_⟩
    ·unfold execOp; simp only [hx, Sem.run_bind, h1]; rfl
    ·obtain ⟨q, hq, hk'⟩ := h2 k hk
     exact scp_ov (hm q hq) (fun k hk => hk) k hk'
   ·cases h
 ·rename_i fn fs cs hx
  split at h
  ·exact gen h
  ·split at h
   ·rename_i xs hxs
    split at h
    ·rename_i ys hys
     cases h
     obtain ⟨h1, h2⟩ := acL_c (η := η) hxs
     obtain ⟨h3, h4⟩ := acL_c (η := η) hys
     have e1 : fs.map a.eval = (xs.map (·.c η)).toArray := by
      rw [← h1, List.map_map]
      apply Array.ext'
      simp only [Array.toList_map]
      exact List.map_congr_left fun x hx' => ovx (by rw [hx]; simp [Op.operands]; exact .inl (by simpa using hx'))
     have e2 : cs.map a.eval = (ys.map (·.c η)).toArray := by
      rw [← h3, List.map_map]
      apply Array.ext'
      simp only [Array.toList_map]
      exact List.map_congr_left fun x hx' => ovx (by rw [hx]; simp [Op.operands]; exact .inr (by simpa using hx'))
     refine ⟨?_, fun n k hk => ?_⟩
     ·unfold execOp; simp only [hx, Instr.makeFunc, e1, e2]; rfl
     ·rcases List.mem_append.1 hk with hk | hk
      ·obtain ⟨v, hv, hk⟩ := h2 k hk
       obtain ⟨x, hx', rfl⟩ := List.mem_map.1 hv
       exact scp_ov (x := x) (by rw [hx]; simp [Op.operands]; exact .inl (by simpa using hx')) (fun k hk => hk) k hk
      ·obtain ⟨v, hv, hk⟩ := h4 k hk
       obtain ⟨x, hx', rfl⟩ := List.mem_map.1 hv
       exact scp_ov (x := x) (by rw [hx]; simp [Op.operands]; exact .inr (by simpa using hx')) (fun k hk => hk) k hk
    ·cases h
   ·cases h
 ·rename_i args at_ hx
  split at h
  ·rename_i x T hargs hats
   have hav : args = #[x] := by have := Array.toArray_toList (xs := args); rw [hargs] at this; exact this.symm
   have hat : at_ = #[T] := by have := Array.toArray_toList (xs := at_); rw [hats] at this; exact this.symm
   have hm : x ∈ o.op.operands.toList := by rw [hx, hav]; simp [Op.operands, Call.operands]
   have he := ovx hm
   split at h
   ·rename_i e hu
    have hlen : ∀ {b : Option Addr} {n c : Nat}, a.eval x = .slice b n c → (execOp a.eval o).run P w = .ok (.value (.int .i64 n)) w := fun {b n c} hxv => by
     unfold execOp
     simp [hx, hav, hat, resolve, invoke, builtin, Builtin.len_, Sem.run_bind, run_underlying hu, hxv, goInt]
    split at h
    ·rename_i j hv
     split at h
     ·rename_i n hn
      cases h
      rw [hv] at he
      obtain ⟨z, es, h1, h2⟩ := ln_rows hn
      obtain ⟨a', c, h3⟩ := rows_sl h1 (hob j (by simp))
      refine ⟨?_, fun n => scp_v _ _ _ _⟩
      rw [h2]
      exact hlen (b := a') (c := c) (by rw [he]; simp only [AV.c, AC.c, h3, slV])
     ·cases h
    ·rename_i k off n c hv
     cases h
     rw [hv] at he
     exact ⟨hlen he, fun n => scp_v _ _ _ _⟩
    ·exact gen h
   ·exact gen h
  ·exact gen h
 ·rename_i t x y ty hx
  cases hb : nilC P t (s.ov x) y with
  | false => rw [hb] at h; exact gen h
  | true =>
   rw [hb] at h; cases h
   have hm : x ∈ o.op.operands.toList := by rw [hx]; simp [Op.operands]
   refine ⟨?_, fun n => scp_v _ _ _ _⟩
   have := (eql_nil (a := a) (η := η) (x := x) hb w).1
   unfold execOp
   simp only [hx, ovx hm]
   rw [Sem.run_bind, this]; rfl
 ·rename_i t x y ty hx
  cases hb : nilC P t (s.ov x) y with
  | false => rw [hb] at h; exact gen h
  | true =>
   rw [hb] at h; cases h
   have hm : x ∈ o.op.operands.toList := by rw [hx]; simp [Op.operands]
   refine ⟨?_, fun n => scp_v _ _ _ _⟩
   have := (eql_nil (a := a) (η := η) (x := x) hb w).2
   unfold execOp
   simp only [hx, ovx hm]
   rw [Sem.run_bind, this]; rfl
 ·exact gen h
end
end
end Go.Eo
namespace Go.Rg
open Go
end Go.Rg
namespace Go.Rg
open Go Go.RowKit
end Go.Rg
namespace Go.Rg
open Go Go.RowKit
end Go.Rg
namespace Go.Rg
open Go Go.RowKit
end Go.Rg
namespace Go.Rg
open Go Go.RowKit
def ReadsE (w : World) (B : Nat) (v : Value) (n : Nat) (xs : List Value) : Prop := Reads w B v n xs ∨ (n = 0 ∧ xs = [] ∧ ∃ (a : Addr) (c : Nat), v = .slice (some a) 0 c)
theorem ReadsE.mono {w : World} {B B' : Nat} {v : Value} {n : Nat} {xs : List Value} (h : ReadsE w B v n xs) (hB : B ≤ B') : ReadsE w B' v n xs := h.imp (·.mono hB) id
theorem ReadsE.below {w w' : World} {B : Nat} {v : Value} {n : Nat} {xs : List Value} (h : ReadsE w B v n xs) (hb : Below B w w') : ReadsE w' B v n xs := h.imp (·.below hb) id
theorem ReadsE.get {w : World} {B : Nat} {a : Option Addr} {n c : Nat} {xs : List Value} (h : ReadsE w B (.slice a n c) n xs) (hn : n ≠ 0) : ∃ g off, a = some ⟨g, off, none⟩ ∧ g < B ∧ n ≤ c ∧ c ≤ maxLen ∧ ∀ j x, xs[j]? = some x → w.cell? ⟨g, off + j, none⟩ = some x := by
 rcases h with (⟨_, h, _⟩ | ⟨g, off, c', e, h1, h2, h3, h4⟩) | ⟨h, _⟩
 ·exact absurd h hn
 ·injection e with e1 e2 e3
  subst e1 e3
  exact ⟨g, off, rfl, h1, h2, h3, h4⟩
 ·exact absurd h hn
section
variable {P : Program} (w : World)
theorem run_append2E (base : Nat) (t ty e : TypeId) (i : TypeInfo) (z : Value) (size bytes : Nat) (ht : P.underlying t = some (.slice e)) (hi : P.info? e = some i) (hz : i.zero = some z)
  (hsize : i.size = size) (hby : i.bytes = bytes) (hzs : z.cells.size = size) (hsz : 0 < size)
  (v : Value) (n : Nat) (xs : List Value) (hown : w.ownsRow base e size v n xs)
  (x : Value) (B m : Nat) (news : List Value) (hx : ReadsE w B x m news) (hl : news.length = m * size) (h1 : ∀ u ∈ news, u.oneCell' = true)
  (h63 : n + m ≤ maxLen) (hbytes : (n + m) * bytes ≤ 140737488355328) (hbase : base ≤ w.heap.size) :
  ∃ v' w', (Builtin.append_ #[t, t] ty #[v, x]).run P w = .ok v' w' ∧ w'.ownsRow base e size v' (n + m) (xs ++ news) ∧ w.grownBy w' v.ownBlock ∧ Moves w v v' := by
 rcases hx with hx | ⟨rfl, rfl, a, c, rfl⟩
 ·exact run_append2 w base t ty e i z size bytes ht hi hz hsize hby hzs hsz v n xs hown x B m news hx hl h1 h63 hbytes hbase
 ·have hnews : ∀ (j : Nat) (u : Value), ([] : List Value)[j]? = some u → w.cell? (a.add j) = some u := fun j u h => by simp at h
  obtain ⟨v', w', hr, h2, h3, h4⟩ := run_append_own (P := P) w base t ty e i z size bytes ht hi hz hsize hby hzs hsz v n xs hown a 0 c [] hl hnews h1 h63 hbytes hbase
  refine ⟨v', w', hr, h2, h3, ?_⟩
  subst hsize
  subst hby
  rcases hown.2 with ⟨rfl, rfl⟩ | ⟨g, cap, cur, rfl, hbg, hg, hnc, hcm, hcs, htake⟩
  ·have := h4.2 ⟨rfl, rfl⟩
   subst this
   exact .inl rfl
  ·have hfit : n * i.size + ([] : List Value).length ≤ cur.size := by rw [hcs]; simpa using Nat.mul_le_mul_right _ hnc
   have hr2 := run_append_room (P := P) w t ty e i ht hi g n cap cur hg a 0 c [] hl hnews h1 (by omega) hfit
   rw [hr2] at hr
   cases hr
   exact .inl rfl
end
end Go.Rg
namespace Go.Rg
open Go Go.RowKit
def SlC (w : World) (v : Value) (sz : Nat) (es : List (List Value)) : Prop :=
 ∃ a c, v = .slice a es.length c ∧ es.length ≤ c ∧ c ≤ maxLen ∧ (∀ e ∈ es, e.length = sz) ∧
  (es ≠ [] → ∃ g off, a = some ⟨g, off, none⟩ ∧ g < w.heap.size ∧ ∀ i e, es[i]? = some e → w.rangeAt g (off + i * sz) e)
theorem rangeAt_below {w w' : World} {b o : Nat} {cs : List Value} (h : w.rangeAt b o cs) (hb : Below w.heap.size w w') (hlt : b < w.heap.size) : w'.rangeAt b o cs :=
 fun j v hj => (hb.cell (p := ⟨b, o + j, none⟩) hlt).trans (h j v hj)
theorem SlC.call {w w' : World} {v : Value} {sz : Nat} {es : List (List Value)} (h : SlC w v sz es) (hb : Below w.heap.size w w') : SlC w' v sz es := by
 obtain ⟨a, c, e, h1, h2, h3, ho⟩ := h
 refine ⟨a, c, e, h1, h2, h3, fun hx => ?_⟩
 obtain ⟨g, off, e1, e2, e3⟩ := ho hx
 exact ⟨g, off, e1, Nat.lt_of_lt_of_le e2 hb.size, fun i x hi => rangeAt_below (e3 i x hi) hb e2⟩
theorem SlC.stay {w w' : World} {v : Value} {sz : Nat} {es : List (List Value)} (h : SlC w v sz es) (hb : Stay [] w w') : SlC w' v sz es := h.call hb.all
theorem SlC.nil (w : World) (sz : Nat) : SlC w (.slice none 0 0) sz [] := ⟨none, 0, rfl, Nat.le_refl _, Nat.zero_le _, by simp, fun h => absurd rfl h⟩
theorem SlC.len {w : World} {v : Value} {sz : Nat} {es : List (List Value)} (h : SlC w v sz es) : es.length ≤ maxLen := by
 obtain ⟨a, c, e, h1, h2, h3, ho⟩ := h
 exact Nat.le_trans h1 h2
theorem SlC.sub {w : World} {a : Option Addr} {n c sz : Nat} {es : List (List Value)} (h : SlC w (.slice a n c) sz es) (k m : Nat) (hkm : k ≤ m) (hm : m ≤ es.length) :
  SlC w (.slice (if c = k then a else a.map (·.add (k * sz))) (m - k) (c - k)) sz ((es.take m).drop k) := by
 obtain ⟨a', c', e, h1, h2, h3, ho⟩ := h
 injection e with e1 e2 e3
 subst e1 e3
 have hl : ((es.take m).drop k).length = m - k := by simp; omega
 refine ⟨_, c - k, by rw [hl], by rw [hl]; omega, by omega, fun x hx => h3 x (List.mem_of_mem_take (List.mem_of_mem_drop hx)), fun hx => ?_⟩
 have hpos : 0 < ((es.take m).drop k).length := List.length_pos_iff.2 hx
 rw [hl] at hpos
 have hne : es ≠ [] := fun h => by rw [h] at hm; simp at hm; omega
 obtain ⟨g, off, e1, e2, e3⟩ := ho hne
 subst e1
 have hck : ¬ c = k := by omega
 rw [if_neg hck]
 have hadd : (⟨g, off, none⟩ : Addr).add (k * sz) = ⟨g, off + k * sz, none⟩ := by unfold Addr.add; split <;> simp_all
 refine ⟨g, off + k * sz, by simp [hadd], e2, fun i x hi => ?_⟩
 have : es[k + i]? = some x := by
  rw [List.getElem?_drop, List.getElem?_take] at hi
  split at hi
  ·exact hi
  ·cases hi
 have := e3 (k + i) x this
 rwa [Nat.add_mul, ← Nat.add_assoc] at this
theorem SlC.elem {w : World} {a : Option Addr} {n c sz : Nat} {es : List (List Value)} (h : SlC w (.slice a n c) sz es) {i : Nat} {e : List Value} (hi : es[i]? = some e) :
  ∃ g off, a = some ⟨g, off, none⟩ ∧ g < w.heap.size ∧ w.rangeAt g (off + i * sz) e ∧ e.length = sz := by
 obtain ⟨a', c', e', h1, h2, h3, ho⟩ := h
 injection e' with e1 e2 e3
 subst e1
 have hne : es ≠ [] := fun h => by rw [h] at hi; cases hi
 obtain ⟨g, off, f1, f2, f3⟩ := ho hne
 exact ⟨g, off, f1, f2, f3 i e hi, h3 e (List.mem_of_getElem? hi)⟩
theorem flat_at (es : List (List Value)) (sz : Nat) (h : ∀ e ∈ es, e.length = sz) {i : Nat} {e : List Value} (hi : es[i]? = some e) {j : Nat} {v : Value} (hj : e[j]? = some v) : es.flatten[i * sz + j]? = some v := by
 induction es generalizing i with
 | nil => cases hi
 | cons x es ih =>
  have hx := h x (List.mem_cons_self ..)
  rw [List.flatten_cons]
  cases i with
  | zero =>
   simp only [List.getElem?_cons_zero, Option.some.injEq] at hi
   subst hi
   have := (List.getElem?_eq_some_iff.1 hj).1
   rw [Nat.zero_mul, Nat.zero_add, List.getElem?_append_left this]; exact hj
  | succ i =>
   have := ih (fun y hy => h y (List.mem_cons_of_mem _ hy)) (i := i) (by simpa using hi)
   rw [List.getElem?_append_right (by rw [Nat.add_mul]; omega), show (i + 1) * sz + j - x.length = i * sz + j by rw [Nat.add_mul, hx]; omega]
   exact this
theorem SlC.of_own {w : World} {base t sz : Nat} {v : Value} {es : List (List Value)} (h : w.ownsRow base t sz v es.length es.flatten) (hs : ∀ e ∈ es, e.length = sz) : SlC w v sz es := by
 have hr := Reads.of_own h
 rcases hr with ⟨e, h0, _⟩ | ⟨g, off, cap, e, hlt, hn, hc, hcell⟩
 ·have : es = [] := List.eq_nil_of_length_eq_zero h0
  subst this
  rw [e]; exact SlC.nil w sz
 ·exact ⟨_, cap, e, hn, hc, hs, fun _ => ⟨g, off, rfl, hlt, fun i x hi j u hj => by
   have := hcell _ u (flat_at es sz hs hi hj)
   rwa [← Nat.add_assoc] at this⟩⟩
end Go.Rg
namespace Go.Rg
open Go Go.RowKit
section
variable {P : Program} {o : Oper} {a : Act} {w : World} {T E : TypeId}
end
end Go.Rg
namespace Go.Rg
open Go Go.RowKit
section
variable {P : Program}
theorem run_buildNone (w : World) (t e : TypeId) (n : Nat) (hu : P.underlying t = some (.slice e)) (hs : (P.info? e).map (·.size) = some n) :
  (Instr.buildSlice t 0 #[]).run P w = .ok (.slice (some ⟨w.heap.size, 0, none⟩) 0 0) (w.alloc (.cells #[] e)) := by
 cases hq : P.info? e with
 | none => simp [hq] at hs
 | some ie => simp [Instr.buildSlice, run_underlying hu, sizeOf, typeInfo, hq, Instr.fill, newRow, show (Array.range 0) = #[] from rfl]
end
end Go.Rg
