/- The engine with objects: a loop over an iterator. No program in sight. -/
import Derived.Test.YtlkhneiccjhgdaaGreatGRf
set_option linter.unusedVariables false
set_option linter.unusedSimpArgs false
namespace Go.Eo
open Go Go.RowKit Go.Rg
section
variable {P : Program}
theorem mb_cells {w : World} {ι : Nat → Prop} {η : Nat → Value} {v : Value} {ob : Ob} (h : OOk w ι η v ob) {g : Nat} (hm : mb v ob = some g) : ∃ o, w.heap[g]? = some o ∧ o.isCells = true := by
 cases ob with
 | box c T =>
  obtain ⟨b, h1, h2⟩ := h
  rw [h1] at hm; cases hm
  exact ⟨_, h2, rfl⟩
 | row T z es =>
  obtain ⟨h1, xs, h2, h3⟩ := h
  rcases h2.2 with ⟨h, _⟩ | ⟨g', cap, cur, e, hb, hg, r⟩
  ·rw [h] at hm; cases hm
  ·rw [e] at hm; cases hm
   exact ⟨_, hg, rfl⟩
 | sl z es => cases hm
 | dead => cases hm
 | ro c T => cases hm
variable {N : Nat} {W : World} {D ι0 : Nat → Prop} {at_ : Nat → AV} {x : Nat → Option Bx} {η : Nat → Value} {ι : Nat → Prop} {a : Act} {w : World}
theorem Cn.seg (h : Cn N W D ι0 at_ x η ι a w) {w' : World} (hs : ∀ g o, (ι g ∨ ∃ k B, x k = some B ∧ mb (η k) B.o = some g) → w.heap[g]? = some o → o.isCells = true → w'.heap[g]? = some o) (hsz : w.heap.size ≤ w'.heap.size) (hk : Keep D W w') : Cn N W D ι0 at_ x η ι a w' :=
 ⟨h.tm, h.sc, fun k B hB => (h.ok k B hB).seg (fun _ h => h) (fun g o hg => hs g o (.inl hg)) (fun g o hg => hs g o (.inr ⟨k, B, hB, hg⟩)) (fun _ _ => rfl), h.ob, h.ne, h.ni, fun g hg => Nat.lt_of_lt_of_le (h.il g hg) hsz, h.ig, h.iu, hk, h.sz⟩
theorem Cn.seg2 (h : Cn N W D ι0 at_ x η ι a w) {w' W' : World} {D' ι0' : Nat → Prop} (hs : ∀ g o, (ι g ∨ ∃ k B, x k = some B ∧ mb (η k) B.o = some g) → w.heap[g]? = some o → o.isCells = true → w'.heap[g]? = some o) (hsz : w.heap.size ≤ w'.heap.size)
  (hni : ∀ k B g, x k = some B → mb (η k) B.o = some g → D' g ∨ W'.heap.size ≤ g) (hig : ∀ g, ι g → ι0' g ∨ D' g ∨ W'.heap.size ≤ g) (hiu : ∀ g, ι0' g → ι g) (hk : Keep D' W' w') : Cn N W' D' ι0' at_ x η ι a w' :=
 ⟨h.tm, h.sc, fun k B hB => (h.ok k B hB).seg (fun _ h => h) (fun g o hg => hs g o (.inl hg)) (fun g o hg => hs g o (.inr ⟨k, B, hB, hg⟩)) (fun _ _ => rfl), h.ob, h.ne, fun k B g hB hm => ⟨(h.ni k B g hB hm).1, hni k B g hB hm⟩, fun g hg => Nat.lt_of_lt_of_le (h.il g hg) hsz, hig, hiu, hk, h.sz⟩
structure Sub (C C' : Cx) : Prop where
 k : Keep C.D C.W C'.W
 d : ∀ g, C'.D g → C.D g ∨ C.W.heap.size ≤ g
 u : ∀ g, C.ι0 g → C'.ι0 g
 i : ∀ g, C'.ι0 g → C.ι0 g ∨ C.D g ∨ C.W.heap.size ≤ g
 e : C'.η0 = C.η0
 f : ∃ b, C'.df = { target := .collected b, args := #[] } :: C.df ∧ C.W.heap.size ≤ b ∧ b < C'.W.heap.size ∧ ¬ C'.D b ∧ C'.W.heap[b]? = some (.deferred (some []))
def Reb (F : Fx) : Prop := ∀ C C', Sub C C' → ∀ e a w, F.Q C' e a w → F.Q C e a w
def noF : Fx := ⟨fun _ _ _ _ => False, fun _ ⟨_, _, h⟩ => h⟩
theorem post_mono {m : Nat} {r0 : Option Nat} {Q Q' : Exit → Act → World → Prop} (h : ∀ e a w, Q e a w → Q' e a w) : ∀ (k : List Kt) (e : Exit) (a : Act) (w : World), Post P m r0 Q k e a w → Post P m r0 Q' k e a w
 | [], e, a, w, hp => h e a w hp
 | .c c :: k, e, a, w, hp => by
  cases e with
  | normal => exact wpIn_mono (P := P) (show c.wpIn (WF r0) m P (Post P m r0 Q k) a w from hp) (post_mono h k)
  | _ => exact post_mono h k _ a w hp
 | .b id :: k, e, a, w, hp => by
  cases e with
  | exit i =>
   simp only [Post, Exit.inBlock] at hp ⊢
   split at hp
   ·rename_i hi; rw [if_pos hi]; exact post_mono h k _ a w hp
   ·rename_i hi; rw [if_neg hi]; exact post_mono h k _ a w hp
  | _ => exact post_mono h k _ a w hp
 | .a K :: k, e, a, w, hp => by
  cases e with
  | normal => exact hp
  | _ => exact post_mono h k _ a w hp
 | .g :: k, e, a, w, hp => by
  cases e with
  | goto l => exact hp
  | _ => exact post_mono h k _ a w hp
def isRo : Ob → Bool
 | .sl _ _ => true
 | .ro _ _ => true
 | _ => false
theorem isRo_mb {ob : Ob} (h : isRo ob = true) (v : Value) : mb v ob = none := by cases ob <;> first | rfl | cases h
def Hand (η : Nat → Value) (ι : Nat → Prop) (m : Nat) (enc : Nat → List AV × List Ob) (k : Nat) (x : Array Value) (O : Nat → Prop) (X : World) : Prop :=
 ∃ ηk, (∀ j, j < m → ηk j = η j) ∧ (∀ v ∈ (enc k).1, ∀ j ∈ v.js, j < m + (enc k).2.length) ∧ x = ((enc k).1.map (·.c ηk)).toArray ∧ ∀ i ob, (enc k).2[i]? = some ob → ∃ z es, ob = .sl z es ∧ Rd X (fun g => ι g ∨ O g) (ηk (m + i)) (.s z es)
def SeqP (P : Program) (gf : FuncId) (lb : List AC) (obs : List Ob) (n : Nat) (enc : Nat → List AV × List Ob) : Prop :=
 (∀ x ∈ lb, ∀ j, x.j = some j → j < obs.length) ∧ (∀ ob ∈ obs, ∀ j ∈ ob.js, j < obs.length) ∧ (∀ ob ∈ obs, isRo ob = true) ∧ ∀ η ι w, Mem η ι w obs → SeqJ P gf (lb.map (·.c η)).toArray n (Hand η ι obs.length enc) ι w
def asg (P : Program) (N : Nat) (ca : Code) (s : St) : Option St := match rk P N [] 60 [.c ca] s [] with
 | some ⟨.n, [], s1, _, []⟩ => some s1
 | _ => none
def asgS (P : Program) (N : Nat) (ca : Code) (s : St) : St := (asg P N ca s).getD s
def rst (d : Nat → Value) (L : List (Nat × AV)) (X : List Ob) (ps : Array Tmp) (js : List Nat) (e : List AV × List Ob) : St :=
 ⟨d, (ps.toList.zip (e.1.map (·.rn (sg js X.length)))).reverse ++ L, mkX (X ++ e.2)⟩
def rngB (P : Program) (N n0 n1 : Nat) (js : List Nat) (L : List (Nat × AV)) (obs : List Ob) (ps : Array Tmp) (gf : FuncId) : Bool :=
 Nat.ble n0 n1 && (Nat.beq js.length obs.length && (inB n1 js && (L.all (fun p => inB n1 p.2.js) && (ps.toList.all (fun p => Nat.ble (p + 1) N) && bodied P gf))))
theorem put_params (η : Nat → Value) (d : Nat → Value) (L : List (Nat × AV)) {N : Nat} : ∀ (ps : List Tmp) (vs : List AV) (tm : Array Value) (M : List (Nat × AV)), vs.length = ps.length → (∀ p ∈ ps, p < N) → tm.size = N → (∀ t, tm.getD t undef = (lk d (M ++ L) t).c η) →
  ((ps.zip (vs.map (·.c η))).foldl (fun t (p, v) => t.setIfInBounds p v) tm).size = N ∧ ∀ t, ((ps.zip (vs.map (·.c η))).foldl (fun t (p, v) => t.setIfInBounds p v) tm).getD t undef = (lk d ((ps.zip vs).reverse ++ (M ++ L)) t).c η
 | [], [], tm, M, _, _, hs, ht => ⟨hs, by simpa using ht⟩
 | p :: ps, v :: vs, tm, M, hl, hp, hs, ht => by
  have hpN := hp p (List.mem_cons_self ..)
  have := put_params η d L ps vs (tm.setIfInBounds p (v.c η)) ((p, v) :: M) (by simpa using hl) (fun q hq => hp q (List.mem_cons_of_mem _ hq)) (by simpa using hs) (fun t => by
   simp only [List.cons_append, lk, Array.getD_eq_getD_getElem?, Array.getElem?_setIfInBounds]
   cases h : Nat.beq p t with
   | true => have := Nat.eq_of_beq_eq_true h; subst this; simp [hs, hpN]
   | false =>
    have hne : ¬ p = t := fun e => by rw [e] at h; simp at h
    have := ht t
    simp only [Array.getD_eq_getD_getElem?] at this
    simp only [hne, if_false, cond_false]
    exact this)
  refine ⟨by simpa using this.1, fun t => ?_⟩
  have h2 := this.2 t
  simp only [List.zip_cons_cons, List.map_cons, List.foldl_cons, List.reverse_cons, List.append_assoc, List.cons_append, List.nil_append] at h2 ⊢
  exact h2
 | [], _ :: _, _, _, h, _, _, _ => by cases h
 | _ :: _, [], _, _, h, _, _, _ => by cases h
theorem rng {N n0 : Nat} {F : Fx} {C : Cx} {ks : List Kt} {g : Operand} {ps : Array Tmp} {ca cb : Code} {d : Nat → Value} {L : List (Nat × AV)} {gf : FuncId} {lb : List AC} {obs : List Ob} {n : Nat} {enc : Nat → List AV × List Ob}
  (hm : P.follows .mixedOrders = true) (hF : Reb F) (hC : C.r0 = none ∧ C.m = 0) (hseq : SeqP P gf lb obs n enc) (n1 : Nat) (js : List Nat) (X : Nat → List Ob)
  (hb : rngB P N n0 n1 js L obs ps gf = true) (hg : (⟨d, L, mkX (X 0)⟩ : St).ov g = .f (.func gf) [] (lb.map (·.rn (sj js)))) (ho : obj ⟨d, L, mkX (X 0)⟩ js obs = (obs.map (·.rn (sj js))).map some)
  (hX : ∀ k, Nat.ble n1 (X k).length = true) (hE : ∀ k, (enc k).1.length = ps.size) (hA : ∀ k, (asg P N ca (rst d L (X k) ps js (enc k))).isSome = true)
  (hround : ∀ k (C' : Cx) K, k < n → C'.df = [] → (∀ d', Good P N n1 noF C' [.a K] ⟨d', [], mkX (X (k + 1))⟩) → Good P N n1 noF C' [.c cb, .a K] (asgS P N ca (rst d L (X k) ps js (enc k))))
  (hdone : ∀ C' : Cx, C'.r0 = none ∧ C'.m = 0 → Sub C C' → Good P N n0 F C' ks ⟨d, L, mkX (X n)⟩) : Good P N n0 F C (.c (.rangeFunc g ps ca cb) :: ks) ⟨d, L, mkX (X 0)⟩ := by
 intro η ι a w hd hη hI
 unfold rngB at hb
 simp only [Bool.and_eq_true, List.all_eq_true] at hb
 obtain ⟨b1, b2, b3, b4, b5, b6⟩ := hb
 have b1 := Nat.le_of_ble_eq_true b1
 have b2 := Nat.eq_of_beq_eq_true b2
 have hX' : ∀ k, n1 ≤ (X k).length := fun k => Nat.le_of_ble_eq_true (hX k)
 obtain ⟨s1, s2, s3, hseq⟩ := hseq
 obtain ⟨hC1, hC2⟩ := hC
 have hCn := hI.1
 have hsj : ∀ (i j : Nat), js[i]? = some j → sj js i = j := fun i j h => by simp [sj, List.getD_eq_getElem?_getD, h]
 have hjo : ∀ (i : Nat) (ob : Ob), obs[i]? = some ob → ∃ j, js[i]? = some j ∧ sj js i = j ∧ j < n1 ∧ (⟨d, L, mkX (X 0)⟩ : St).ob j = some (ob.rn (sj js)) := fun i ob h => by
  have hi := (List.getElem?_eq_some_iff.1 h).1
  have hj : js[i]? = some js[i] := List.getElem?_eq_getElem (by omega)
  refine ⟨_, hj, hsj _ _ hj, inB_lt b3 _ (List.mem_of_getElem? hj), ?_⟩
  refine obj_get ho b2 (by simp) i _ ob _ hj h (by rw [List.getElem?_map, h]; rfl) ?_
  have := s3 ob (List.mem_of_getElem? h)
  cases ob <;> first | rfl | cases this
 have hmem : Mem (fun i => η (sj js i)) ι w obs := by
  refine ⟨fun i ob h => ?_, fun i i' ob ob' g h h' hm hm' => ?_, fun i ob g h hm => ?_, hCn.il⟩
  ·obtain ⟨j, h1, h2, h3, h4⟩ := hjo i ob h
   obtain ⟨B, h5, h6⟩ := ob_x h4
   have := hCn.ok j B h5
   rw [h6] at this
   rw [h2]
   exact ook_rn.1 this
  ·rw [isRo_mb (s3 ob (List.mem_of_getElem? h))] at hm; cases hm
  ·rw [isRo_mb (s3 ob (List.mem_of_getElem? h))] at hm; cases hm
 have hSJ := hseq _ ι w hmem
 have hgv : a.eval g = .func (.func gf) #[] (lb.map (·.c fun i => η (sj js i))).toArray := by
  have h1 : a.eval g = ((⟨d, L, mkX (X 0)⟩ : St).ov g).c η := by
   cases g with
   | tmp t => exact hCn.tm t
   | const v => rfl
   | global g => rfl
   | func f => rfl
  rw [h1, hg]
  simp only [AV.c, List.map_nil, acl_rn]
 have hil := hCn.il
 let I : Nat → (Nat → Prop) → (Nat → Prop) → World → Prop := fun k O M Y => ∃ η' ι', (∀ j, j < n1 → η' j = η j) ∧ (∀ g, ι g → ι' g) ∧ Im N C.W C.D C.ι0 ⟨d, L, mkX (X k)⟩ η' ι' a Y ∧ (∀ g, ι' g → ¬ M g) ∧ ∀ k' B g, (mkX (X k))[k']? = some B → mb (η' k') B.o = some g → ¬ O g ∧ ¬ M g
 have hIm0 : ∀ (k : Nat) (O M : Nat → Prop) (Y : World), I k O M Y → C.W.heap.size ≤ Y.heap.size := fun k O M Y ⟨_, _, _, _, h, _⟩ => h.1.st.size
 show (Code.rangeFunc g ps ca cb).wpIn (WF C.r0) C.m P (Post P C.m C.r0 (F.Q C) ks) a w
 rw [hC1, hC2]
 refine wp_rangeJ (I := I) (Ix := fun _ _ _ _ _ => False) hgv (callF_run b6) hSJ (Kept.refl _ _) hil ?_ ?_ ?_ ?_ ?_ ?_ ?_
 ·rintro k x O X' ⟨ηk, h1, h2, h3, h4⟩
  rw [h3]; simp [hE k]
 ·rintro k O M O' M' A B ⟨η', ι', h1, h2, h3, h4, h5⟩ hsz hs hn
  refine ⟨η', ι', h1, h2, ⟨h3.1.seg (fun g o hg ho hc => hs.cells g o ?_ ho hc) hs.below.size ?_, h3.2⟩, fun g hg hM => ?_, fun k' B' g hB hm => ⟨fun hO => ?_, fun hM => ?_⟩⟩
  ·rcases hg with hg | ⟨k', B', hB, hg⟩
   ·exact h4 g hg
   ·exact (h5 k' B' g hB hg).2
  ·have hst := h3.1.st
   exact ⟨hs.below.os.trans hst.os, hs.below.tape.trans hst.tape, hs.below.output.trans hst.output, Nat.le_trans hst.size hs.below.size, fun b hb hlt => (hs.below.block b (Nat.lt_of_lt_of_le hlt hI.1.st.size)).trans (hst.same b hb hlt)⟩
  ·have := h3.1.il g hg
   rcases hn.m g hM with h | h
   ·exact h4 g hg h
   ·omega
  ·have := mb_lt (h3.1.ok k' B' hB) hm
   rcases hn.o g hO with h | h | h
   ·exact (h5 k' B' g hB hm).1 h
   ·exact (h5 k' B' g hB hm).2 h
   ·omega
  ·have := mb_lt (h3.1.ok k' B' hB) hm
   rcases hn.m g hM with h | h
   ·exact (h5 k' B' g hB hm).2 h
   ·omega
 ·rintro c k O M O' M' A B h; exact h.elim
 ·exact ⟨η, ι, fun _ _ => rfl, fun _ h => h, hI, fun _ _ h => h, fun _ _ _ _ _ => ⟨fun h => h, fun h => h⟩⟩
 ·rintro l k x O M Y hl1 hl2 hk ⟨ηk, k1, k2, k3, k4⟩ hkept hbd ⟨η', ι', h1, h2, h3, h4, h5⟩
  have hC3 := h3.1
  -- the round's start
  let m := (X k).length
  let ηr : Nat → Value := fun j => if m ≤ j ∧ j < m + (enc k).2.length then ηk (obs.length + (j - m)) else η' j
  let ιr : Nat → Prop := fun g => ι' g ∨ O g
  let D1 : Nat → Prop := fun g => (C.D g ∨ C.W.heap.size ≤ g) ∧ ¬ ιr g ∧ ¬ M g ∧ ∀ o, Y.heap[g]? = some o → o.isCells = true
  have hηr : ∀ j, j < m → ηr j = η' j := fun j hj => by simp only [ηr]; rw [if_neg (by omega)]
  have hσ : ∀ j, j < obs.length + (enc k).2.length → ηr (sg js m j) = ηk j := fun j hj => by
   rcases Nat.lt_or_ge j js.length with h | h
   ·have hj' : js[j]? = some js[j] := List.getElem?_eq_getElem h
    have hlt := inB_lt b3 _ (List.mem_of_getElem? hj')
    have := hX' k
    have e1 : sg js m j = js[j] := by simp only [sg, hj']
    rw [e1, hηr _ (by omega), h1 _ hlt, k1 j (by omega)]
    show _ = η (sj js j)
    rw [hsj _ _ hj']
   ·have e1 : sg js m j = m + (j - js.length) := by simp only [sg, List.getElem?_eq_none h]
    rw [e1]
    simp only [ηr]
    rw [if_pos (by omega)]
    congr 1; omega
  have hvals : ((enc k).1.map (·.rn (sg js m))).map (·.c ηr) = (enc k).1.map (·.c ηk) := by
   rw [List.map_map]
   refine List.map_congr_left fun v hv => ?_
   simp only [Function.comp_def, av_rn]
   exact AV.c_congr fun j hj => hσ j (k2 v hv j hj)
  have hpar := put_params ηr d L (N := N) ps.toList ((enc k).1.map (·.rn (sg js m))) a.tmps [] (by rw [List.length_map, hE k]; simp) (fun p hp => Nat.le_of_ble_eq_true (b5 p hp)) hC3.sz (fun t => by
   rw [List.nil_append, hC3.tm t]
   refine AV.c_congr fun j hj => (hηr j ?_).symm
   obtain ⟨B, hB⟩ := hC3.sc t j hj
   simpa [mkX, m] using (List.getElem?_eq_some_iff.1 hB).1)
  have hfold : ((ps.zip x).foldl (fun t (p, v) => t.setIfInBounds p v) a.tmps) = ((ps.toList.zip (((enc k).1.map (·.rn (sg js m))).map (·.c ηr))).foldl (fun t (p, v) => t.setIfInBounds p v) a.tmps) := by
   rw [hvals, k3, ← Array.foldl_toList, Array.toList_zip]
  have hxs : ∀ (j : Nat) (B : Bx), (mkX (X k ++ (enc k).2))[j]? = some B → (j < m ∧ (mkX (X k))[j]? = some B) ∨ (m ≤ j ∧ j < m + (enc k).2.length ∧ ∃ z es, B = ⟨none, .sl z es⟩ ∧ Rd Y (fun g => ι g ∨ O g) (ηk (obs.length + (j - m))) (.s z es)) := fun j B hB => by
   unfold mkX at hB ⊢
   rw [List.map_append] at hB
   rcases Nat.lt_or_ge j m with h | h
   ·rw [List.getElem?_append_left (by simpa [m] using h)] at hB
    exact .inl ⟨h, hB⟩
   ·rw [List.getElem?_append_right (by simpa [m] using h)] at hB
    have hlen : ((X k).map fun o => (⟨none, o⟩ : Bx)).length = m := by simp [m]
    rw [hlen, List.getElem?_map] at hB
    cases ho : (enc k).2[j - m]? with
    | none => rw [ho] at hB; cases hB
    | some ob =>
     rw [ho] at hB; cases hB
     have hlt := (List.getElem?_eq_some_iff.1 ho).1
     obtain ⟨z, es, rfl, hr⟩ := k4 _ _ ho
     exact .inr ⟨h, by omega, z, es, rfl, hr⟩
  have hex : ∀ j, j < m + (enc k).2.length → ∃ B, (mkX (X k ++ (enc k).2))[j]? = some B := fun j hj => ⟨_, List.getElem?_eq_getElem (by simpa [mkX, m] using hj)⟩
  have hold : ∀ (j : Nat) (B : Bx), (mkX (X k))[j]? = some B → j < m := fun j B hB => by simpa [mkX, m] using (List.getElem?_eq_some_iff.1 hB).1
  have hIr : Im N Y D1 ιr (rst d L (X k) ps js (enc k)) ηr ιr { tmps := (ps.zip x).foldl (fun t (p, v) => t.setIfInBounds p v) a.tmps, defers := [] } Y := by
   rw [hfold]
   refine ⟨⟨fun t => ?_, fun t j hj => ?_, fun j B hB => ?_, fun j B hB i hi => ?_, fun j j' B B' g hB hB' hm hm' => ?_, fun j B g hB hm => ?_, fun g hg => ?_, fun g hg => .inl hg, fun g hg => hg, Keep.refl _ _, hpar.1⟩, fun j B v hB hv => ?_⟩
   ·have := hpar.2 t
    rw [List.nil_append] at this
    exact this
   ·have hj : j ∈ (lk d ((ps.toList.zip ((enc k).1.map (·.rn (sg js m)))).reverse ++ L) t).js := hj
    refine hex j ?_
    rcases lk_in (d := d) (t := t) ((ps.toList.zip ((enc k).1.map (·.rn (sg js m)))).reverse ++ L) with ⟨v, hv, he⟩ | he
    ·rw [he] at hj
     rcases List.mem_append.1 hv with hv | hv
     ·obtain ⟨v', hv', rfl⟩ := List.mem_map.1 (List.of_mem_zip (List.mem_reverse.1 hv)).2
      rw [av_rn_js] at hj
      obtain ⟨i, hi, rfl⟩ := List.mem_map.1 hj
      have hi' := k2 v' hv' i hi
      rcases Nat.lt_or_ge i js.length with h | h
      ·have hj' : js[i]? = some js[i] := List.getElem?_eq_getElem h
       have hlt := inB_lt b3 _ (List.mem_of_getElem? hj')
       have := hX' k
       have e1 : sg js m i = js[i] := by simp only [sg, hj']
       omega
      ·have e1 : sg js m i = m + (i - js.length) := by simp only [sg, List.getElem?_eq_none h]
       omega
     ·have := inB_lt (b4 _ hv) j hj
      have := hX' k
      omega
    ·rw [he] at hj; simp [AV.js, AC.j] at hj
   ·rcases hxs j B hB with ⟨hj, hB⟩ | ⟨hj, hj2, z, es, rfl, hr⟩
    ·rw [hηr j hj]
     exact (hC3.ok j B hB).seg (fun g hg => .inl hg) (fun _ _ _ h _ => h) (fun _ _ _ h _ => h) (fun i hi => by
      obtain ⟨B', hB'⟩ := hC3.ob j B hB i hi
      exact hηr i (hold i B' hB'))
    ·have e1 : ηr j = ηk (obs.length + (j - m)) := by simp only [ηr]; rw [if_pos ⟨hj, hj2⟩]
     rw [e1]
     exact Rd.seg (fun g hg => hg.imp (h2 g) id) (fun _ _ _ h _ => h) hr
   ·rcases hxs j B hB with ⟨hj, hB⟩ | ⟨hj, hj2, z, es, rfl, hr⟩
    ·obtain ⟨B', hB'⟩ := hC3.ob j B hB i hi
     exact hex i (by have := hold i B' hB'; omega)
    ·cases hi
   ·rcases hxs j B hB with ⟨hj, hB⟩ | ⟨hj, hj2, z, es, rfl, hr⟩
    ·rcases hxs j' B' hB' with ⟨hj', hB'⟩ | ⟨hj', hj2', z', es', rfl, hr'⟩
     ·rw [hηr j hj] at hm
      rw [hηr j' hj'] at hm'
      exact hC3.ne j j' B B' g hB hB' hm hm'
     ·cases hm'
    ·cases hm
   ·rcases hxs j B hB with ⟨hj, hB⟩ | ⟨hj, hj2, z, es, rfl, hr⟩
    ·rw [hηr j hj] at hm
     have hn := hC3.ni j B g hB hm
     have h6 := h5 j B g hB hm
     have hno : ¬ ιr g := fun h => h.elim hn.1 h6.1
     refine ⟨hno, .inl ⟨hn.2, hno, h6.2, fun o ho => ?_⟩⟩
     obtain ⟨o', ho', hc⟩ := mb_cells (hC3.ok j B hB) hm
     rw [ho] at ho'; cases ho'; exact hc
    ·cases hm
   ·rcases hg with hg | hg
    ·exact hC3.il g hg
    ·exact (hbd.o g hg).2
   ·rcases hxs j B hB with ⟨hj, hB⟩ | ⟨hj, hj2, z, es, rfl, hr⟩
    ·unfold mkX at hB
     rw [List.getElem?_map] at hB
     cases ho : (X k)[j]? with
     | none => rw [ho] at hB; cases hB
     | some ob => rw [ho] at hB; cases hB; cases hv
    ·cases hv
  have hwY : w.heap.size ≤ Y.heap.size := hkept.size
  have hCw : C.W.heap.size ≤ w.heap.size := hI.1.st.size
  -- what stays
  have keeps : ∀ {D' : Nat → Prop} {A B : World}, Keep D' A B → Y.heap.size ≤ A.heap.size → (∀ g, tri ι O M g → ¬ D' g) → (∀ g o, A.heap[g]? = some o → o.isCells = false → ¬ D' g) → Eff w.heap.size (tri ι O M) A B := fun {D' A B} hk hsz hn hc =>
   ⟨⟨hk.os, hk.tape, hk.output, hk.size, fun g hg => hk.same g (hn g hg) (by
    rcases hg with hg | hg | hg
    ·exact Nat.lt_of_lt_of_le (hil g hg) (Nat.le_trans hwY hsz)
    ·exact Nat.lt_of_lt_of_le (hbd.o g hg).2 hsz
    ·exact Nat.lt_of_lt_of_le (hbd.m g hg).2 hsz)⟩, fun g o hg ho hcs => (hk.same g (hc g o ho hcs) (Array.getElem?_eq_some_iff.1 ho).1).trans ho⟩
  have hA' := hA k
  cases has : asg P N ca (rst d L (X k) ps js (enc k)) with
  | none => rw [has] at hA'; cases hA'
  | some s1' =>
  have has2 : asgS P N ca (rst d L (X k) ps js (enc k)) = s1' := by unfold asgS; rw [has]; rfl
  unfold asg at has
  split at has
  ·rename_i t1 it1 hrk
   cases has
   refine rk_sound (W := Y) (D := D1) (ι0 := ιr) (m := 0) (r0 := some l) (Q := Exit.then _ (fun _ _ _ => False)) hm (fun ⟨_, _, h⟩ => h) 60 [.c ca] _ [] _ hrk (fun i hi => by cases hi) (fun p hp => by cases hp) hIr fun η1 ι1 a' Wa hd1 hlen1 hg1 hI1 => ?_
   show Eff w.heap.size (tri ι O M) Y Wa ∧ _
   have hC4 := hI1.1
   have hnd1 : ∀ g, tri ι O M g → ¬ D1 g := fun g hg hD => by
    rcases hg with hg | hg | hg
    ·exact hD.2.1 (.inl (h2 g hg))
    ·exact hD.2.1 (.inr hg)
    ·exact hD.2.2.1 hg
   have hE1 := keeps hC4.st (Nat.le_refl _) hnd1 (fun g o ho hc hD => by have := hD.2.2.2 o ho; rw [hc] at this; cases this)
   refine ⟨hE1, fun Wb x1 x2 x3 x4 => ?_⟩
   let D2 : Nat → Prop := fun g => (C.D g ∨ C.W.heap.size ≤ g) ∧ ¬ ι1 g ∧ ¬ M g ∧ ∀ o, Wb.heap[g]? = some o → o.isCells = true
   have hYa := hC4.st.size
   have hmut : ∀ (j : Nat) (B : Bx) (g : Nat), s1'.x[j]? = some B → mb (η1 j) B.o = some g → ¬ ι1 g ∧ (C.D g ∨ C.W.heap.size ≤ g) ∧ ¬ M g := fun j B g hB hm => by
    obtain ⟨q1, q2⟩ := hC4.ni j B g hB hm
    refine ⟨q1, ?_, fun hM => ?_⟩
    ·rcases q2 with q2 | q2
     ·exact q2.1
     ·exact .inr (by omega)
    ·rcases q2 with q2 | q2
     ·exact q2.2.2.1 hM
     ·have := (hbd.m g hM).2; omega
   have hIb : Im N Wb D2 ι1 s1' η1 ι1 a' Wb := ⟨hC4.seg2 (fun g o _ ho hc => x1.cells g o ho hc) x1.size (fun j B g hB hm => by
     obtain ⟨q1, q2, q3⟩ := hmut j B g hB hm
     refine .inl ⟨q2, q1, q3, fun o ho => ?_⟩
     obtain ⟨o', ho', hc⟩ := mb_cells (hC4.ok j B hB) hm
     have := x1.cells g o' ho' hc
     rw [ho] at this; cases this; exact hc) (fun g hg => .inl hg) (fun g hg => hg) (Keep.refl _ _), hI1.2⟩
   have hYb : Y.heap.size ≤ Wb.heap.size := Nat.le_trans hYa x1.size
   have hup : ∀ g, ι g → ι1 g := fun g hg => hC4.iu g (.inl (h2 g hg))
   have hLj : ∀ t, ∀ j ∈ (lk d L t).js, j < n1 := fun t j hj => by
    rcases lk_in (d := d) (t := t) L with ⟨v, hv, he⟩ | he
    ·rw [he] at hj; exact inB_lt (b4 _ hv) j hj
    ·rw [he] at hj; simp [AV.js, AC.j] at hj
   let C2 : Cx := ⟨Wb, D2, ι1, η, [], 0, some l⟩
   let K : Act → World → Prop := fun a3 w3 => Eff w.heap.size (tri ι O M) Wb w3 ∧ I (k + 1) O M w3
   have hK : ∀ d', Good P N n1 noF C2 [.a K] ⟨d', [], mkX (X (k + 1))⟩ := by
    intro d' η3 ι3 a3 w3 hd3 hη3 hI3
    have hC6 := hI3.1
    show K a3 w3
    have hE3 := keeps hC6.st hYb (fun g hg hD => by
     rcases hg with hg | hg | hg
     ·exact hD.2.1 (hup g hg)
     ·exact hD.2.1 (hC4.iu g (.inr hg))
     ·exact hD.2.2.1 hg) (fun g o ho hc hD => by have := hD.2.2.2 o ho; rw [hc] at this; cases this)
    have hi3 : ∀ g, ι3 g → ι' g ∨ O g ∨ D1 g ∨ D2 g ∨ Y.heap.size ≤ g := fun g hg => by
     rcases hC6.ig g hg with hg | hg | hg
     ·rcases hC4.ig g hg with (hg | hg) | hg | hg
      ·exact .inl hg
      ·exact .inr (.inl hg)
      ·exact .inr (.inr (.inl hg))
      ·exact .inr (.inr (.inr (.inr hg)))
     ·exact .inr (.inr (.inr (.inl hg)))
     ·exact .inr (.inr (.inr (.inr (Nat.le_trans hYb hg))))
    refine ⟨hE3, η3, ι3, fun j hj => hη3 j hj, fun g hg => hC6.iu g (hup g hg), ⟨⟨fun t => ?_, fun t j hj => ?_, hC6.ok, hC6.ob, hC6.ne, fun j B g hB hm => ⟨(hC6.ni j B g hB hm).1, ?_⟩, hC6.il, fun g hg => ?_, fun g hg => hC6.iu g (hup g (hCn.iu g hg)), ?_, hCn.sz⟩, hI3.2⟩, fun g hg hM => ?_, fun j B g hB hm => ?_⟩
    ·rw [hCn.tm t]
     exact (AV.c_congr fun j hj => hη3 j (hLj t j hj)).symm
    ·have := hLj t j hj
     have := hX' (k + 1)
     exact ⟨_, List.getElem?_eq_getElem (by simp [mkX]; omega)⟩
    ·rcases (hC6.ni j B g hB hm).2 with h | h
     ·exact h.1
     ·have h : Wb.heap.size ≤ g := h
      exact .inr (by omega)
    ·rcases hi3 g hg with h | h | h | h | h
     ·exact hC3.ig g h
     ·have := (hbd.o g h).1; exact .inr (.inr (by omega))
     ·exact .inr h.1
     ·exact .inr h.1
     ·exact .inr (.inr (by omega))
    ·refine ⟨hC6.st.os.trans (x1.below.os.trans (hC4.st.os.trans hC3.st.os)), hC6.st.tape.trans (x1.below.tape.trans (hC4.st.tape.trans hC3.st.tape)), hC6.st.output.trans (x1.below.output.trans (hC4.st.output.trans hC3.st.output)), Nat.le_trans hC3.st.size (Nat.le_trans hYb hC6.st.size), fun b hb hlt => ?_⟩
     have hbY : b < Y.heap.size := by omega
     have hno : ¬ (C.D b ∨ C.W.heap.size ≤ b) := fun h => h.elim hb (by omega)
     rw [hC6.st.same b (fun h => hno h.1) (Nat.lt_of_lt_of_le hbY hYb), x1.below.block b (by omega), hC4.st.same b (fun h => hno h.1) hbY, hC3.st.same b hb hlt]
    ·rcases hi3 g hg with h | h | h | h | h
     ·exact h4 g h hM
     ·exact hbd.d g h hM
     ·exact h.2.2.1 hM
     ·exact h.2.2.1 hM
     ·have := (hbd.m g hM).2; omega
    ·rcases (hC6.ni j B g hB hm).2 with h | h
     ·exact ⟨fun hO => h.2.1 (hC4.iu g (.inr hO)), h.2.2.1⟩
     ·have h : Wb.heap.size ≤ g := h
      exact ⟨fun hO => by have := (hbd.o g hO).2; omega, fun hM => by have := (hbd.m g hM).2; omega⟩
   have hG := hround k C2 K hk rfl hK
   rw [has2] at hG
   have := hG η1 ι1 a' Wb hd1 (fun j hj => by
    have := hX' k
    rw [hg1 j (by simp [rst, mkX]; omega), hηr j (by omega)]
    exact h1 j hj) hIb
   refine wpIn_mono (P := P) (Q := Post P 0 (some l) (noF.Q C2) [.a K]) this ?_
   rintro e a3 w3 hq
   cases e with
   | normal => exact hq
   | _ => exact hq.elim
  ·cases has
 ·rintro O M Y hkept hlt ⟨η', ι', h1, h2, h3, h4, h5⟩ hmark
  have hC3 := h3.1
  let D2 : Nat → Prop := fun g => (C.D g ∨ C.W.heap.size ≤ g) ∧ ¬ ι' g ∧ ∀ o, Y.heap[g]? = some o → o.isCells = true
  let C2 : Cx := ⟨Y, D2, ι', C.η0, { target := .collected w.heap.size, args := #[] } :: C.df, 0, none⟩
  have hsub : Sub C C2 := ⟨hC3.st, fun g h => h.1, hC3.iu, hC3.ig, rfl, w.heap.size, rfl, hCn.st.size, hlt, (fun h => by have := h.2.2 _ hmark; cases this), hmark⟩
  have hc := hC3.seg2 (w' := Y) (W' := Y) (D' := D2) (ι0' := ι') (fun _ _ _ h _ => h) (Nat.le_refl _) (fun j B g hB hm => .inl ⟨(hC3.ni j B g hB hm).2, (hC3.ni j B g hB hm).1, fun o ho => by
   obtain ⟨o', ho', hc⟩ := mb_cells (hC3.ok j B hB) hm
   rw [ho] at ho'; cases ho'; exact hc⟩) (fun g hg => .inl hg) (fun g hg => hg) (Keep.refl _ _)
  have := hdone C2 ⟨rfl, rfl⟩ hsub η' ι' { a with defers := { target := .collected w.heap.size, args := #[] } :: a.defers } Y (by rw [hd]) (fun j hj => by rw [h1 j (by omega)]; exact hη j hj) ⟨⟨hc.tm, hc.sc, hc.ok, hc.ob, hc.ne, hc.ni, hc.il, hc.ig, hc.iu, hc.st, hc.sz⟩, h3.2⟩
  exact post_mono (fun e a w => hF C C2 hsub e a w) ks _ _ _ this
 ·rintro c k O M Y h1 h2 h3 h4 h5; exact h5.elim
end
end Go.Eo
namespace Go.Eo
open Go Go.RowKit Go.Rg
section
variable {P : Program}
def mk (b : Nat) : Deferred := { target := .collected b, args := #[] }
def finQM (P : Program) (fn : Func) (n0 : Nat) (X : List Ob) (r : AV) (C : Cx) (e : Exit) (a : Act) (w : World) : Prop :=
 (e = .ret ∨ e = .normal) ∧ ∃ ms : List Nat, a.defers = ms.map mk ++ C.df ∧ ms.Nodup ∧ (∀ b ∈ ms, C.W.heap.size ≤ b ∧ w.heap[b]? = some (.deferred (some []))) ∧ ∃ v η' ι', (∀ w', Ext 0 w w' → (results fn a.tmps).run P w' = .ok v w' ∧ Mem η' ι' w' X) ∧ v = r.c η' ∧ (∀ j, j < n0 → η' j = C.η0 j) ∧
  Keep C.D C.W w ∧ (∀ g, C.ι0 g → ι' g) ∧ (∀ g, ι' g → C.ι0 g ∨ C.D g ∨ C.W.heap.size ≤ g) ∧ ∀ g, Muts η' X g → C.D g ∨ C.W.heap.size ≤ g
def finFM (P : Program) (fn : Func) (n0 : Nat) (X : List Ob) (r : AV) : Fx := ⟨finQM P fn n0 X r, fun C ⟨a, w, h⟩ => by rcases h.1 with h | h <;> cases h⟩
theorem keep_sub {C C' : Cx} (h : Sub C C') {w : World} (hk : Keep C'.D C'.W w) : Keep C.D C.W w :=
 ⟨hk.os.trans h.k.os, hk.tape.trans h.k.tape, hk.output.trans h.k.output, Nat.le_trans h.k.size hk.size, fun b hb hlt => by
  have hno : ¬ C'.D b := fun hd => (h.d b hd).elim hb (fun h' => by omega)
  rw [hk.same b hno (Nat.lt_of_lt_of_le hlt h.k.size), h.k.same b hb hlt]⟩
theorem reb_finM (fn : Func) (n0 : Nat) (X : List Ob) (r : AV) : Reb (finFM P fn n0 X r) := by
 rintro C C' h e a w ⟨he, ms, h1, h2, h3, v, η', ι', h4, h5, h6, h7, h8, h9, h10⟩
 obtain ⟨b, f1, f2, f3, f4, f5⟩ := h.f
 have hsz := h.k.size
 refine ⟨he, ms ++ [b], ?_, ?_, ?_, v, η', ι', h4, h5, fun j hj => by rw [h6 j hj, h.e], keep_sub h h7, fun g hg => h8 g (h.u g hg), fun g hg => ?_, fun g hg => ?_⟩
 ·rw [h1, f1, List.map_append, List.append_assoc]; rfl
 ·refine List.nodup_append.2 ⟨h2, by simp, fun x hx y hy => ?_⟩
  have := (h3 x hx).1
  simp only [List.mem_singleton] at hy
  subst hy; omega
 ·intro x hx
  rcases List.mem_append.1 hx with hx | hx
  ·exact ⟨Nat.le_trans hsz (h3 x hx).1, (h3 x hx).2⟩
  ·simp only [List.mem_singleton] at hx
   subst hx
   exact ⟨f2, (h7.same x f4 f3).trans f5⟩
 ·rcases h9 g hg with h' | h' | h'
  ·exact h.i g h'
  ·exact (h.d g h').elim (fun h => .inr (.inl h)) (fun h => .inr (.inr h))
  ·exact .inr (.inr (Nat.le_trans hsz h'))
 ·rcases h10 g hg with h' | h'
  ·exact h.d g h'
  ·exact .inr (Nat.le_trans hsz h')
theorem doneM {N n0 : Nat} {fn : Func} {X : List Ob} {r : AV} {C : Cx} {ks : List Kt} {s : St} {it : List It} (hm : P.follows .mixedOrders = true) (hl : Nat.ble n0 s.x.length = true) (n : Nat) (hits : Its P C.W C.D it) (js : List Nat)
  (h : lhsR P (rk P N [] n ks s it) fn.results.toList js X = rhsR (rk P N [] n ks s it) js r X) (hb : cutB n0 js [(0, r)] X = true) : Good P N n0 (finFM P fn n0 X r) C ks s := by
 intro η ι a w hd hη hI
 have hl := Nat.le_of_ble_eq_true hl
 cases hr : rk P N [] n ks s it with
 | none => rw [hr] at h; simp [lhsR, rhsR] at h
 | some R =>
  rw [hr] at h
  simp only [lhsR, rhsR, Prod.mk.injEq] at h
  obtain ⟨h1, h2, h3, h4⟩ := h
  refine rk_sound hm ((finFM P fn n0 X r).L C) n ks s it R hr hits.all (eqs_of h1) hI fun η' ι' a' w' hd' hlen hg hI' => ?_
  have hb' : cutB n0 js [] X = true := by
   unfold cutB at hb ⊢
   simp only [Bool.and_eq_true] at hb ⊢
   exact ⟨hb.1, hb.2.1, hb.2.2.1, hb.2.2.2.1, rfl, hb.2.2.2.2.2⟩
  obtain ⟨h6, h7⟩ := cut_sound (L := []) hb' rfl h3 hI'
  have hC := h6.1
  have key : ∀ e, (e = .ret ∨ e = .normal) → finQM P fn n0 X r C e a' w' := fun e he => by
   refine ⟨he, [], hd'.trans hd, by simp, fun b hb => (by cases hb), r.c (fun i => η' (sj js i)), fun i => η' (sj js i), ι', fun w2 hx => ?_, rfl, fun j hj => by simp only [h7 j hj]; rw [hg j (by omega)]; exact hη j hj, hC.st, hC.iu, hC.ig, ?_⟩
   ·have hI2 : Im N w2 (fun _ => True) ι' R.s η' ι' a' w2 := ⟨hI'.1.seg2 (fun g o _ ho hc => hx.cells g o ho hc) hx.size (fun _ _ _ _ _ => .inl trivial) (fun g hg => .inl hg) (fun g hg => hg) (Keep.refl _ _), hI'.2⟩
    have hrun := res_run hI2 h2
    rw [av_rn] at hrun
    have hC2 := (cut_sound (L := []) hb' rfl h3 hI2).1.1
    exact ⟨hrun, fun j ob ho => hC2.ok j _ (mkX_get ho), fun j j' ob ob' g ho ho' hm hm' => hC2.ne j j' _ _ g (mkX_get ho) (mkX_get ho') hm hm', fun j ob g ho hm => (hC2.ni j _ g (mkX_get ho) hm).1, hC2.il⟩
   ·rintro g ⟨j, ob, ho, hm⟩
    exact (hC.ni j _ g (mkX_get ho) hm).2
  cases he : R.e with
  | r => exact key _ (.inl rfl)
  | n =>
   rw [he] at h4
   cases hk : R.k with
   | nil => exact key _ (.inr rfl)
   | cons x y => rw [hk] at h4; cases h4
  | e id => rw [he] at h4; cases h4
theorem leavesM {fn : Func} {tmps : Array Value} {R : Ending → World → Prop} : ∀ (ms : List Nat) (w : World), ms.Nodup → (∀ b ∈ ms, w.heap[b]? = some (.deferred (some []))) →
  (∀ w', Ext 0 w w' → (∀ k, k ∉ ms → w'.heap[k]? = w.heap[k]?) → ∃ v, (results fn tmps).run P w' = .ok v w' ∧ R (.returned v) w') → LeavesInM (WF none) 0 P fn tmps R (ms.map mk) .returning w
 | [], w, _, _, h => h w (Ext.refl _ _) (fun _ _ => rfl)
 | b :: ms, w, hn, hb, h => by
  rw [List.nodup_cons] at hn
  have hw := hb b (List.mem_cons_self ..)
  have hx : Ext 0 w (w.putObj b (.deferred none)) := Ext.putObj (Nat.zero_le _) hw rfl _
  refine ⟨by simp, .inl ⟨b, _, rfl, run_takeDeferred hw, leavesM ms _ hn.2 (fun c hc => ?_) fun w' h1 h2 => h w' (hx.trans h1) fun k hk => ?_⟩⟩
  ·have : c ≠ b := fun e => hn.1 (e ▸ hc)
   rw [World.putObj_heap_other this]
   exact hb c (List.mem_cons_of_mem _ hc)
  ·rw [List.mem_cons] at hk
   rw [h2 k (fun h => hk (.inr h)), World.putObj_heap_other (fun e => hk (.inl e))]
theorem fnpM {f : FuncId} {fn : Func} {c : Code} {obs : List Ob} {args : List AV} {obs' ns : List Ob} {r : AV} (hf : P.funcs[f]? = some fn) (hb : fn.body = some c) (hB : fnB obs args obs' ns r fn.ntmps = true)
  (h : ∀ C : Cx, C.r0 = none ∧ C.m = 0 → Good P fn.ntmps obs.length (finFM P fn obs.length (obs' ++ ns) r) C [.c c] (st0 args obs)) : FnP P f obs args obs' ns r := by
 unfold fnB at hB
 simp only [Bool.and_eq_true, List.all_eq_true] at hB
 obtain ⟨b1, b2, b3, b4, b5⟩ := hB
 have b2 := Nat.eq_of_beq_eq_true b2
 have b5 := Nat.le_of_ble_eq_true b5
 refine ⟨b1, b2, fun η ι w hM => ?_⟩
 let C : Cx := ⟨w, Muts η obs, ι, η, [], 0, none⟩
 refine (calls_iff (r := none) (m := 0)).1 (callsIn_of_wp_marks (F := WF none) hf hb trivial ?_)
 have hI := im0 (N := fn.ntmps) b3 b4 b5 hM
 have := h C ⟨rfl, rfl⟩ η ι _ w rfl (fun _ _ => rfl) hI
 refine wpIn_mono (P := P) (Q := finQM P fn obs.length (obs' ++ ns) r C) this ?_
 rintro e a' w' ⟨he, ms, h1, h2, h3, v, η', ι', h4, h5, h6, h7, h8, h9, h10⟩
 have hd : a'.defers = ms.map mk := by rw [h1]; exact List.append_nil _
 have hL : LeavesInM (WF none) 0 P fn a'.tmps (fun e w' => ∃ η' ι', e = Ending.returned (r.c η') ∧ (∀ j, j < obs.length → η' j = η j) ∧ Mem η' ι' w' (obs' ++ ns) ∧ Keep (Muts η obs) w w' ∧ (∀ g, ι g → ι' g) ∧ (∀ g, ι' g → ι g ∨ Muts η obs g ∨ w.heap.size ≤ g) ∧ ∀ g, Muts η' (obs' ++ ns) g → Muts η obs g ∨ w.heap.size ≤ g) a'.defers .returning w' := by
  rw [hd]
  refine leavesM ms w' h2 (fun b hb => (h3 b hb).2) fun w2 hx hs => ?_
  obtain ⟨q1, q2⟩ := h4 w2 hx
  refine ⟨v, q1, η', ι', by rw [h5], h6, q2, ⟨hx.below.os.trans h7.os, hx.below.tape.trans h7.tape, hx.below.output.trans h7.output, Nat.le_trans h7.size hx.size, fun k hk hlt => ?_⟩, h8, h9, h10⟩
  rw [hs k (fun hk' => by have := (h3 k hk').1; have : w.heap.size ≤ k := this; omega)]
  exact h7.same k hk hlt
 rcases he with rfl | rfl
 ·exact hL
 ·exact hL
def kr (t : Nat) : Code → List Kt → Option (List Kt)
 | .seq a b, k => match kr t a (.c b :: k) with
  | some r => some r
  | none => kr t b k
 | .cond _ a b, k => match kr t a k with
  | some r => some r
  | none => kr t b k
 | .block id b, k => kr t b (.b id :: k)
 | .scope b, k => kr t b (.g :: k)
 | .loop b, k => none
 | .rangeFunc f ps a b, k => bif isReg t a then some (.c (.rangeFunc f ps a b) :: k) else none
 | _, _ => none
def rgK (t : Nat) (c : Code) (k : List Kt) : List Kt := (kr t c k).getD []
def kq (t : Nat) : Code → List Kt → Option (List Kt)
 | .seq a b, k => match kq t a (.c b :: k) with
  | some r => some r
  | none => kq t b k
 | .cond _ a b, k => match kq t a k with
  | some r => some r
  | none => kq t b k
 | .block id b, k => kq t b (.b id :: k)
 | .scope b, k => kq t b (.g :: k)
 | .region id ops dr, k => bif Nat.beq id t then some (.c (.region id ops dr) :: k) else none
 | _, _ => none
def rqK (t : Nat) (c : Code) (k : List Kt) : List Kt := (kq t c k).getD []
def lpA (t : Nat) (c : Code) (Ks : List (Act → World → Prop)) (k0 : List Kt) : List Kt := match kb t c Ks k0 with
 | some (b, k) => .c (.loop b) :: k
 | none => []
def lpBA (t : Nat) (c : Code) (Ks : List (Act → World → Prop)) (k0 : List Kt) (K : Act → World → Prop) : List Kt := match kb t c Ks k0 with
 | some (b, k) => .c b :: .a K :: k
 | none => []
def lpKA (t : Nat) (c : Code) (Ks : List (Act → World → Prop)) (k0 : List Kt) (K : Act → World → Prop) : List Kt := match kb t c Ks k0 with
 | some (b, k) => .a K :: k
 | none => []
theorem loopA {N n0 : Nat} {F : Fx} {β : Type} (Ok : β → Cx → Prop) {m : Nat} {r0 : Option Nat} {Q : Exit → Act → World → Prop} (hC : ∀ x C, Ok x C → C.m = m ∧ C.r0 = r0 ∧ F.Q C = Q) (S : β → (Nat → Value) → St) (μ : β → Nat) {t : Nat} {c : Code} {Ks : List (Act → World → Prop)} {k0 : List Kt} (hk : (kb t c Ks k0).isSome = true)
  (body : ∀ x K, (∀ y C, Ok y C → μ y < μ x → ∀ d, Good P N n0 F C (lpKA t c Ks k0 K) (S y d)) → ∀ C, Ok x C → ∀ d, Good P N n0 F C (lpBA t c Ks k0 K) (S x d)) : ∀ x C, Ok x C → ∀ d, Good P N n0 F C (lpA t c Ks k0) (S x d) := by
 unfold lpA lpBA lpKA at *
 cases hkb : kb t c Ks k0 with
 | none => rw [hkb] at hk; cases hk
 | some p =>
  obtain ⟨b, k⟩ := p
  rw [hkb] at body
  simp only at body ⊢
  have key : ∀ n x C, Ok x C → μ x < n → ∀ d η ι a w, a.defers = C.df → (∀ k, k < n0 → η k = C.η0 k) → Im N C.W C.D C.ι0 (S x d) η ι a w → Code.roundsIn (WF r0) m P b (Post P m r0 Q k) n a w := by
   intro n
   induction n with
   | zero => intro x C _ h; omega
   | succ n ih =>
    intro x C hO hx d η ι a w hd hη hI
    rw [roundsIn_succ]
    have := body x (Code.roundsIn (WF r0) m P b (Post P m r0 Q k) n) (fun y C' hO' hy d' η' ι' a' w' h1 h2 h3 => ih y C' hO' (by omega) d' η' ι' a' w' h1 h2 h3) C hO d η ι a w hd hη hI
    obtain ⟨e1, e2, e3⟩ := hC x C hO
    rw [e1, e2, e3] at this
    exact this
  intro x C hO d η ι a w hd hη hI
  have := key (μ x + 1) x C hO (Nat.lt_succ_self _) d η ι a w hd hη hI
  obtain ⟨e1, e2, e3⟩ := hC x C hO
  show (Code.loop b).wpIn (WF C.r0) C.m P (Post P C.m C.r0 (F.Q C) k) a w
  rw [e1, e2, e3]
  exact wpIn_loop_rounds (μ x + 1) this
theorem loopM {N n0 : Nat} {F : Fx} {β : Type} (S : β → (Nat → Value) → St) (μ : β → Nat) {t : Nat} {c : Code} {Ks : List (Act → World → Prop)} (hk : (kb t c Ks []).isSome = true)
  (body : ∀ x K (Q : Exit → Act → World → Prop), (∀ y C, C.r0 = none ∧ C.m = 0 → (∀ e a w, F.Q C e a w → Q e a w) → μ y < μ x → ∀ d, Good P N n0 F C (lpK t c Ks K) (S y d)) → ∀ C, C.r0 = none ∧ C.m = 0 → (∀ e a w, F.Q C e a w → Q e a w) → ∀ d, Good P N n0 F C (lpB t c Ks K) (S x d)) :
  ∀ x C, C.r0 = none ∧ C.m = 0 → ∀ d, Good P N n0 F C (lp t c Ks) (S x d) := by
 unfold lp lpB lpK at *
 cases hkb : kb t c Ks [] with
 | none => rw [hkb] at hk; cases hk
 | some p =>
  obtain ⟨b, k⟩ := p
  rw [hkb] at body
  simp only at body ⊢
  have key : ∀ (Q : Exit → Act → World → Prop) n x C, C.r0 = none ∧ C.m = 0 → (∀ e a w, F.Q C e a w → Q e a w) → μ x < n → ∀ d η ι a w, a.defers = C.df → (∀ k, k < n0 → η k = C.η0 k) → Im N C.W C.D C.ι0 (S x d) η ι a w → Code.roundsIn (WF none) 0 P b (Post P 0 none Q k) n a w := by
   intro Q n
   induction n with
   | zero => intro x C _ _ h; omega
   | succ n ih =>
    intro x C hO hQ hx d η ι a w hd hη hI
    rw [roundsIn_succ]
    have := body x (Code.roundsIn (WF none) 0 P b (Post P 0 none Q k) n) Q (fun y C' hO' hQ' hy d' η' ι' a' w' h1 h2 h3 => by
     have := ih y C' hO' hQ' (by omega) d' η' ι' a' w' h1 h2 h3
     exact this) C hO hQ d η ι a w hd hη hI
    rw [hO.1, hO.2] at this
    exact post_mono hQ (.c b :: .a (Code.roundsIn (WF none) 0 P b (Post P 0 none Q k) n) :: k) _ _ _ this
  intro x C hO d η ι a w hd hη hI
  have := key (F.Q C) (μ x + 1) x C hO (fun _ _ _ h => h) (Nat.lt_succ_self _) d η ι a w hd hη hI
  show (Code.loop b).wpIn (WF C.r0) C.m P (Post P C.m C.r0 (F.Q C) k) a w
  rw [hO.1, hO.2]
  exact wpIn_loop_rounds (μ x + 1) this
end
end Go.Eo
namespace Go.Eo
open Go Go.RowKit Go.Rg
structure Pr where
 l : Nat
 n : Nat
 J : Nat → (Nat → Prop) → (Nat → Prop) → World → Prop
 Jx : Nat → (Nat → Prop) → (Nat → Prop) → World → Prop
 W : World
 S : Nat → Prop
 η : Nat → Value
 m0 : Nat
 enc : Nat → List AV × List Ob
def Pr.K (p : Pr) (b : Bool) : Nat → (Nat → Prop) → (Nat → Prop) → World → Prop := match b with
 | true => p.J
 | false => p.Jx
structure PrOk (P : Program) (p : Pr) : Prop where
 sl : ∀ g, p.S g → g < p.W.heap.size
 j : ∀ b k O M O' M' X Y, p.K b k O M X → Seg p.W.heap.size M X Y → Nx O M O' M' X Y → p.K b k O' M' Y
 y : ∀ k x O M X, k < p.n → Hand p.η p.S p.m0 p.enc k x O X → Kept p.S p.W X → Bd p.W.heap.size O M X → p.J k O M X → YieldAt (WF none) 0 P p.l x X fun e X' =>
  (e = .returned (.bool true) ∧ p.J (k + 1) O M X' ∧ Eff p.W.heap.size (tri p.S O M) X X') ∨ (e = .returned (.bool false) ∧ p.Jx (k + 1) O M X' ∧ Eff p.W.heap.size (tri p.S O M) X X')
structure At (p : Pr) (b : Bool) (k : Nat) (C : Cx) : Prop where
 df : C.df = []
 m : C.m = 0
 r : C.r0 = none
 e : C.η0 = p.η
 kp : Kept p.S p.W C.W
 u : ∀ g, p.S g → C.ι0 g
 j : ∃ O M, Bd p.W.heap.size O M C.W ∧ p.K b k O M C.W ∧ (∀ g, C.ι0 g → p.S g ∨ O g) ∧ ∀ g, C.D g → M g
section
variable {P : Program} {N : Nat}
theorem at_on {p : Pr} (hp : PrOk P p) {b : Bool} {k : Nat} {C : Cx} (hA : At p b k C) {at_ : Nat → AV} {x : Nat → Option Bx} {η : Nat → Value} {ι : Nat → Prop} {a : Act} {w : World} (hC : Cn N C.W C.D C.ι0 at_ x η ι a w) :
  Kept p.S p.W w ∧ Bd p.W.heap.size (fun g => ι g ∧ ¬ p.S g) (fun g => ∃ k B, x k = some B ∧ mb (η k) B.o = some g) w ∧ p.K b k (fun g => ι g ∧ ¬ p.S g) (fun g => ∃ k B, x k = some B ∧ mb (η k) B.o = some g) w := by
 obtain ⟨O, M, hbd, hJ, hi, hd⟩ := hA.j
 have hk := hA.kp
 have hs := hk.size
 have hst := hC.st
 have hD : ∀ g, g < p.W.heap.size → ¬ C.D g := fun g hg h => by have := (hbd.m g (hd g h)).1; omega
 have hio : ∀ g, ι g → ¬ p.S g → O g ∨ M g ∨ (C.W.heap.size ≤ g ∧ g < w.heap.size) := fun g hg hn => by
  rcases hC.ig g hg with h | h | h
  ·exact (hi g h).elim (fun h => absurd h hn) .inl
  ·exact .inr (.inl (hd g h))
  ·exact .inr (.inr ⟨h, hC.il g hg⟩)
 have hmo : ∀ g, (∃ k B, x k = some B ∧ mb (η k) B.o = some g) → M g ∨ (C.W.heap.size ≤ g ∧ g < w.heap.size) := fun g ⟨k, B, hB, hm⟩ => by
  rcases (hC.ni k B g hB hm).2 with h | h
  ·exact .inl (hd g h)
  ·exact .inr ⟨h, mb_lt (hC.ok k B hB) hm⟩
 refine ⟨⟨hst.os.trans hk.os, hst.tape.trans hk.tape, hst.output.trans hk.output, Nat.le_trans hs hst.size, fun g hg => ?_⟩, ⟨fun g hg => ⟨?_, hC.il g hg.1⟩, fun g hg => ⟨?_, ?_⟩, fun g hg hm => ?_⟩, hp.j b k O M _ _ C.W w hJ ⟨⟨hst.os, hst.tape, hst.output, hst.size, fun g hg => hst.same g (hD g hg) (by omega)⟩, fun g o hM ho _ => ?_⟩ ⟨fun g hg => hio g hg.1 hg.2, hmo⟩⟩
 ·have := hp.sl g hg
  rw [hst.same g (hD g this) (by omega)]; exact hk.same g hg
 ·rcases hio g hg.1 hg.2 with h | h | h
  ·exact (hbd.o g h).1
  ·exact (hbd.m g h).1
  ·omega
 ·rcases hmo g hg with h | h
  ·exact (hbd.m g h).1
  ·omega
 ·obtain ⟨k, B, hB, hm⟩ := hg
  exact mb_lt (hC.ok k B hB) hm
 ·obtain ⟨k, B, hB, hm⟩ := hm
  exact (hC.ni k B g hB hm).1 hg.1
 ·exact (hst.same g (fun h => hM (hd g h)) (Array.getElem?_eq_some_iff.1 ho).1).trans ho
def hs (m0 : Nat) (js : List Nat) (j : Nat) : Nat := bif Nat.ble (j + 1) m0 then j else js.getD (j - m0) 0
def slB : Ob → Bool
 | .sl _ _ => true
 | _ => false
theorem slB_eq {ob : Ob} (h : slB ob = true) : ∃ z es, ob = .sl z es := by cases ob <;> first | exact ⟨_, _, rfl⟩ | cases h
variable {ops : Array Oper} {T : Bool → RL} {an : Nat → Nat → Prop} {γ0 : Nat → Value} {WW : World} {DD : Nat → Prop}
structure Yh (P : Program) (N : Nat) (ops : Array Oper) (T : Bool → RL) (an : Nat → Nat → Prop) (p : Pr) (k q : Nat) (o : Oper) (js : List Nat) : Prop where
 ho : ops[q]? = some o
 f : ∃ f xs ts, o.op = .call { callee := .value f, args := xs, argTypes := ts } ∧ ((T true).st q).ov f = .a (.v (.func (.yield p.l) #[] #[])) ∧ xs.toList.map ((T true).st q).ov = (p.enc k).1.map (·.rn (hs p.m0 js))
 d : ∃ d, o.dst = some d ∧ d < N ∧ ∀ b, (T b).st (q + 1) = ((T true).st q).put d (.a (.v (.bool b)))
 fp : ∀ b i, i ≤ q → (T b).fp i = (T true).fp i
 fq : (T true).fp q = ⟨js, []⟩
 st : ∀ b i, i ≤ q → (T b).st i = (T true).st i
 w : wt ((T true).st q) ops o = true
 c : (p.enc k).1.all (fun v => inB (p.m0 + (p.enc k).2.length) v.js) = true
 ob : js.map ((T true).st q).ob = (p.enc k).2.map some
 sl : (p.enc k).2.all slB = true
 ds : ∀ i, q < i → i < ops.size → an i q
theorem y_step (H : ∀ b, Hy P N WW DD ops (T b) an γ0) {p : Pr} (hp : PrOk P p) {k : Nat} {C : Cx} (hA : At p true k C) (hk : k < p.n) {q : Nat} {o : Oper} {js : List Nat} (Y : Yh P N ops T an p k q o js)
  {l l' : Nat → Bool} (hc : Cls ops l) (hun : l q = false) (hall : ∀ e ∈ o.after, Region.binds .any e = true → l e.on = true) (hl' : ∀ i, l' i = (decide (i = q) || l i)) (hpre : ∀ i, q < i → l i = false)
  {η : Nat → Value} {ι : Nat → Prop} {a : Act} {w : World} (hη0 : ∀ j, j < p.m0 → η j = p.η j) (hC : Cn N C.W C.D C.ι0 (cur (T true) ops l) (curx (T true) ops l) η ι a w) (hdf : a.defers = [])
  {Q : Exit → Act → World → Prop} {K : Act → World → Prop}
  (hK : ∀ b C' a' w', At p b (k + 1) C' → a'.defers = [] → Cn N C'.W C'.D C'.ι0 (cur (T b) ops l') (curx (T b) ops l') η ι a' w' → K a' w') : wpOpIn (WF none) 0 P ops Q q K a w := by
 obtain ⟨f, xs, ts, hop, hf, hx⟩ := Y.f
 obtain ⟨d, hd, hdN, hnx⟩ := Y.d
 obtain ⟨g1, g2, g3⟩ := at_on hp hA hC
 have hup : ∀ g, p.S g → ι g := fun g hg => hC.iu g (hA.u g hg)
 have c1 : ∀ {t : Nat}, t ∈ o.looksAt ops → a.tmps.getD t undef = (((T true).st q).at t).c η := fun {t} ht => by rw [hC.tm t, (H true).curT hc Y.ho hun hall (.inl ht)]
 have hsees : Sees ((T true).st q) η a o.op.operands.toList := fun t ht => c1 (List.mem_append_left _ (List.mem_filterMap.2 ⟨.tmp t, ht, rfl⟩))
 have hq := (Array.getElem?_eq_some_iff.1 Y.ho).1
 have hlw : ∀ (wr : Nat → Bool), lw l wr ops.size = lw l wr q := fun wr => lw_up (lst := l) (wr := wr) (i := q) ops.size (by omega) (fun i h1 h2 _ => by
  by_cases e : i = q
  ·subst e; exact hun
  ·exact hpre i (by omega))
 have hcT : ∀ b t, cur (T b) ops l t = cur (T true) ops l t := fun b t => by
  unfold cur
  rw [Y.st b _ (by rw [hlw]; exact lw_le _ _ _)]
 have hcX : ∀ b t, curx (T b) ops l t = curx (T true) ops l t := fun b t => by
  have hw : ∀ n, n ≤ q → lw l (wrX (T b) t) n = lw l (wrX (T true) t) n := fun n => by
   induction n with
   | zero => intro _; rfl
   | succ n ih =>
    intro hn
    have : wrX (T b) t n = wrX (T true) t n := by unfold wrX; rw [Y.fp b n (by omega)]
    unfold lw
    rw [this, ih (by omega)]
  unfold curx
  rw [hlw, hlw, hw q (Nat.le_refl _), Y.st b _ (lw_le _ _ _)]
 let x0 := curx (T true) ops l
 let O' : Nat → Prop := fun g => ι g ∧ ¬ p.S g
 let M' : Nat → Prop := fun g => ∃ k B, x0 k = some B ∧ mb (η k) B.o = some g
 -- what is handed out
 have hlen : js.length = (p.enc k).2.length := by have := congrArg List.length Y.ob; simpa using this
 have hnew : ∀ (i : Nat) (ob : Ob), (p.enc k).2[i]? = some ob → ∃ z es, ob = .sl z es ∧ Rd w ι (η (js.getD i 0)) (.s z es) := fun i ob hi => by
  have hlt := (List.getElem?_eq_some_iff.1 hi).1
  have hj : js[i]? = some js[i] := List.getElem?_eq_getElem (by omega)
  have h1 : (js.map ((T true).st q).ob)[i]? = ((p.enc k).2.map some)[i]? := by rw [Y.ob]
  rw [List.getElem?_map, List.getElem?_map, hi, hj] at h1
  simp only [Option.map_some, Option.some.injEq] at h1
  have hsl := Y.sl
  rw [List.all_eq_true] at hsl
  obtain ⟨z, es, rfl⟩ := slB_eq (hsl ob (List.mem_of_getElem? hi))
  obtain ⟨B, h2, h3⟩ := ob_x h1
  have h4 := (H true).curX hc Y.ho hun hall (j := js[i]) (.inl (by rw [Y.fq]; exact List.getElem_mem _))
  have h5 := hC.ok js[i] B (by rw [h4]; exact h2)
  rw [h3] at h5
  refine ⟨z, es, rfl, ?_⟩
  rw [List.getD_eq_getElem?_getD, hj]
  exact h5
 have hin : ∀ v ∈ (p.enc k).1, ∀ j ∈ v.js, j < p.m0 + (p.enc k).2.length := fun v hv j hj => by
  have := Y.c
  rw [List.all_eq_true] at this
  exact inB_lt (this v hv) j hj
 let ηk : Nat → Value := fun j => η (hs p.m0 js j)
 have hηk : ∀ j, j < p.m0 → ηk j = p.η j := fun j hj => by
  simp only [ηk, hs]
  rw [Nat.ble_eq_true_of_le (show j + 1 ≤ p.m0 by omega)]
  exact hη0 j hj
 have hη2 : ∀ i, ηk (p.m0 + i) = η (js.getD i 0) := fun i => by
  have : Nat.ble (p.m0 + i + 1) p.m0 = false := by
   cases h : Nat.ble (p.m0 + i + 1) p.m0 with
   | false => rfl
   | true => have := Nat.le_of_ble_eq_true h; omega
  simp only [ηk, hs, this, cond_false]
  rw [show p.m0 + i - p.m0 = i by omega]
 have hxv : xs.toList.map a.eval = (p.enc k).1.map (·.c ηk) := by
  have : xs.toList.map a.eval = (xs.toList.map ((T true).st q).ov).map (·.c η) := by
   rw [List.map_map]
   exact List.map_congr_left fun y hy => sees_ov hsees (by rw [hop]; simp [Op.operands, Call.operands]; exact .inr (by simpa using hy))
  rw [this, hx, List.map_map]
  exact List.map_congr_left fun v _ => av_rn _ _ v
 have hhand : Hand p.η p.S p.m0 p.enc k ((p.enc k).1.map (·.c ηk)).toArray O' w := ⟨ηk, hηk, hin, rfl, fun i ob hi => by
  obtain ⟨z, es, h1, h2⟩ := hnew i ob hi
  refine ⟨z, es, h1, ?_⟩
  rw [hη2]
  exact Rd.seg (fun g hg => by
   by_cases h : p.S g
   ·exact .inl h
   ·exact .inr ⟨hg, h⟩) (fun _ _ _ h _ => h) h2⟩
 have hfv : a.eval f = .func (.yield p.l) #[] #[] := by
  rw [sees_ov hsees (x := f) (by rw [hop]; simp [Op.operands, Call.operands]), hf]; rfl
 have hxa : xs.map a.eval = ((p.enc k).1.map (·.c ηk)).toArray := by apply Array.ext'; rw [Array.toList_map]; exact hxv
 obtain ⟨fn, tmps, assign, body, hy, hr⟩ := hp.y k _ O' M' w hk hhand g1 g2 g3
 unfold wpOpIn
 simp only [Y.ho]
 rw [yield_wt (s := (T true).st q) (η := η) (fun t ht => c1 ht), Y.w]
 simp only [if_true]
 refine ⟨fun _ _ => trivial, ?_⟩
 have e : (execOp a.eval o).run P w = .ok (.round p.l fn tmps assign body) w := by
  unfold execOp
  simp only [hop, resolve, invoke, Sem.run_bind, Sem.run_pure, Result.andThen_ok, hfv, hxa]
  simp [go_sem, hy]
 rw [WF_round, Oper.semAt_none, e]
 refine ⟨fun h => absurd h (by simp), RoundIn.mono hr fun e X' he => ?_⟩
 -- behind it
 have fin : ∀ b : Bool, p.K b (k + 1) O' M' X' → Eff p.W.heap.size (tri p.S O' M') w X' → K (a.put o.dst (.bool b)) X' := fun b hJ hE => by
  have htri : ∀ g, (ι g ∨ ∃ k B, x0 k = some B ∧ mb (η k) B.o = some g) → tri p.S O' M' g := fun g hg => by
   rcases hg with hg | hg
   ·by_cases h : p.S g
    ·exact .inl h
    ·exact .inr (.inl ⟨hg, h⟩)
   ·exact .inr (.inr hg)
  have hsz := hE.kept.size
  have hC2 := hC.seg2 (w' := X') (W' := X') (D' := M') (ι0' := ι) (fun g o hg ho _ => (hE.kept.same g (htri g hg)).trans ho) hsz (fun j B g hB hm => .inl ⟨j, B, hB, hm⟩) (fun g hg => .inl hg) (fun g hg => hg) (Keep.refl _ _)
  refine hK b ⟨X', M', ι, p.η, [], 0, none⟩ _ X' ⟨rfl, rfl, rfl, rfl, g1.trans (hE.kept.mono fun g hg => .inl hg), hup, O', M', ⟨fun g hg => ⟨(g2.o g hg).1, Nat.lt_of_lt_of_le (g2.o g hg).2 hsz⟩, fun g hg => ⟨(g2.m g hg).1, Nat.lt_of_lt_of_le (g2.m g hg).2 hsz⟩, g2.d⟩, hJ, fun g hg => ?_, fun g hg => hg⟩ ?_ ?_
  ·by_cases h : p.S g
   ·exact .inl h
   ·exact .inr ⟨hg, h⟩
  ·unfold Act.put; split <;> exact hdf
  ·have hT' : ∀ t, cur (T b) ops l' t = if o.dst = some t then .a (.v (.bool b)) else cur (T true) ops l t := fun t => by
    rw [(H b).curT' hc Y.ho hun hall hl', hcT b t, hnx b, put_at]
    by_cases e : d = t
    ·subst e; simp [hd]
    ·have : ¬ o.dst = some t := fun h => e (by rw [hd] at h; cases h; rfl)
     rw [if_neg this, if_neg this]
   have hX' : curx (T b) ops l' = x0 := funext fun j => by
    rw [(H b).curX' hc Y.ho hun hall hl', Y.fp b q (Nat.le_refl _), Y.fq]
    simp only [List.not_mem_nil, if_false]
    exact hcX b j
   rw [hX']
   refine ⟨fun t => ?_, fun t j hj => ?_, hC2.ok, hC2.ob, hC2.ne, hC2.ni, hC2.il, hC2.ig, hC2.iu, hC2.st, ?_⟩
   ·rw [put_getD (H := H true) a o.dst (.bool b) (fun t e => by rw [hC.sz]; rw [hd] at e; cases e; exact hdN), hT']
    by_cases h : o.dst = some t
    ·rw [if_pos h, if_pos h]; rfl
    ·rw [if_neg h, if_neg h]; exact hC2.tm t
   ·rw [hT'] at hj
    by_cases h : o.dst = some t
    ·rw [if_pos h] at hj; simp [AV.js, AC.j] at hj
    ·rw [if_neg h] at hj; exact hC2.sc t j hj
   ·unfold Act.put
    split
    ·simp [hC.sz]
    ·exact hC.sz
 rcases he with ⟨rfl, hJ, hE⟩ | ⟨rfl, hJ, hE⟩
 ·exact fin true hJ hE
 ·exact fin false hJ hE
theorem Hy.re {W' : World} {D' : Nat → Prop} {W : World} {D : Nat → Prop} {T : RL} (H : Hy P N W D ops T an γ0) : Hy P N W' D' ops T an γ0 := ⟨H.sh, H.ok, H.q, H.kn, H.s0, H.pl⟩
def Oth (P : Program) (N : Nat) (ops : Array Oper) (T : Bool → RL) (q : Nat) : Prop := ∀ (b : Bool) (W : World) (D : Nat → Prop) (i : Nat) (o : Oper), ops[i]? = some o → i ≠ q → Sp P N W D ops o ((T b).st i) ((T b).fp i) ((T b).st (i + 1)) (T b).q
def Beh (N : Nat) (T : Bool → RL) (n : Nat) (p : Pr) (k : Nat) (Q : Exit → Act → World → Prop) : Prop := ∀ b C' η ι a w, At p b (k + 1) C' → a.defers = [] → (∀ j, j < p.m0 → η j = p.η j) → Cn N C'.W C'.D C'.ι0 ((T b).st n).at (fun k => ((T b).st n).x[k]?) η ι a w → Kn ((T b).st n) η → Q .normal a w
theorem told_kn {T : RL} {W : World} {D : Nat → Prop} (H : Hy P N W D ops T an γ0) {η : Nat → Value} (hg : ∀ k, k < (T.st 0).x.length → η k = γ0 k) : Kn (T.st ops.size) η := fun k B b hB hb => by
 obtain ⟨B0, h4, h5⟩ := H.told ops.size (Nat.le_refl _) k B b hB hb
 rw [hg k (List.getElem?_eq_some_iff.1 h4).1]
 exact H.kn k B0 b h4 h5
section
variable (H : ∀ b, Hy P N WW DD ops (T b) an γ0) {p : Pr} (hp : PrOk P p) {k : Nat} {C : Cx} (hA : At p true k C) (hk : k < p.n) {q : Nat} {o : Oper} {js : List Nat} (Y : Yh P N ops T an p k q o js) (hS : Oth P N ops T q) (hγ0 : ∀ j, j < p.m0 → γ0 j = p.η j) (hm0 : p.m0 ≤ ((T true).st 0).x.length)
include H hp hA hk Y hS hγ0 hm0
theorem y_st0 (b : Bool) : (T b).st 0 = (T true).st 0 := have _ := H; have _ := hp; have _ := hA; have _ := hk; have _ := hS; have _ := hγ0; have _ := hm0; Y.st b 0 (Nat.zero_le _)
theorem y_any {Q : Exit → Act → World → Prop} (hL : ¬ LetsOut Q) (hQ : Beh N T ops.size p k Q) : ∀ (fuel : Nat) (listed : Array Bool) (a : Act) (w : World) (γ : Nat → Value) (ι : Nat → Prop), listed.size = ops.size → Cls ops (fun k => listed.getD k false) → a.defers = [] →
  (∀ k, k < ((T true).st 0).x.length → γ k = γ0 k) → Cn N C.W C.D C.ι0 (cur (T true) ops fun k => listed.getD k false) (curx (T true) ops fun k => listed.getD k false) γ ι a w →
  ops.size ≤ fuel + (List.range ops.size).countP (fun k => listed.getD k false) → listed.getD q false = false → wpAnyIn (WF none) 0 P .any ops Q fuel listed a w := by
 have hq := (Array.getElem?_eq_some_iff.1 Y.ho).1
 intro fuel
 induction fuel with
 | zero =>
  intro listed a w γ ι hsz hc hdf hγ hC hcnt hlq
  exfalso
  have h1 := List.countP_le_length (p := fun k => listed.getD k false) (l := List.range ops.size)
  have h2 : (List.range ops.size).countP (fun k => listed.getD k false) = (List.range ops.size).length := by rw [List.length_range] at *; omega
  have := List.countP_eq_length.1 h2 q (List.mem_range.2 hq)
  rw [hlq] at this; cases this
 | succ fuel ih =>
  intro listed a w γ ι hsz hc hdf hγ hC hcnt hlq
  refine ⟨fun hr => ?_, fun i hi => ?_⟩
  ·have := rd_all (H true) hsz hr q hq
   rw [hlq] at this; cases this
  obtain ⟨hun, o', ho', hall⟩ := mem_ready.1 hi
  have hin := (Array.getElem?_eq_some_iff.1 ho').1
  have hil : i < listed.size := by omega
  have hun' : listed.getD i false = false := by simp [hil] at hun ⊢; exact hun
  have hl' : ∀ k, (listed.setIfInBounds i true).getD k false = (decide (k = i) || listed.getD k false) := fun k => getD_set listed i k hil
  have hcnt' := cnt_set hil hin hun' hcnt
  by_cases e : i = q
  ·subst e
   have hoo : o' = o := by have := Y.ho; rw [ho'] at this; cases this; rfl
   subst hoo
   refine y_step H hp hA hk Y hc hun' hall hl' (fun j hj => ?_) (fun j hj => (hγ j (by omega)).trans (hγ0 j hj)) hC hdf fun b C' a' w' h1 h2 h3 => ?_
   ·cases hlj : listed.getD j false with
    | false => rfl
    | true =>
     exfalso
     have hjs : j < ops.size := by
      rcases Nat.lt_or_ge j listed.size with h | h
      ·omega
      ·rw [Array.getD_eq_getD_getElem?, Array.getElem?_eq_none h] at hlj; cases hlj
     obtain ⟨oj, hoj⟩ := (H true).get hjs
     have := (H true).ok.up hc j oj hoj (hc j oj hoj hlj) i (Y.ds j hj hjs)
     rw [hun'] at this; cases this
   ·refine any_all ((H b).re (W' := C'.W) (D' := C'.D)) (Z := fun j => j ≠ i) (dfs := []) (fun j oj hj hne => hS b _ _ j oj hj hne) hL (fun γ' ι' a2 w2 h4 h5 h6 => ?_) fuel _ a' w' γ ι (by simpa using hsz) (Cls.set (H true) hc ho' hall hl') h2 (by rw [y_st0 H hp hA hk Y hS hγ0 hm0 b]; exact hγ) h3 hcnt' (fun j hj e => ?_)
    ·exact hQ b C' γ' ι' a2 w2 h1 h4 (fun j hj => by rw [h5 j (by rw [y_st0 H hp hA hk Y hS hγ0 hm0 b]; omega)]; exact hγ0 j hj) h6 (told_kn (H b) h5)
    ·subst e
     rw [hl'] at hj; simp at hj
  ·refine any_step ((H true).re (W' := C.W) (D' := C.D)) hc ho' (hS true _ _ i o' ho' e) hun' hall hl' hγ hC hL fun γ' ι' a' w' h1 h2 h3 => ?_
   refine ih _ a' w' γ' ι' (by simpa using hsz) (Cls.set (H true) hc ho' hall hl') (h1.trans hdf) h2 h3 hcnt' ?_
   rw [hl', hlq]
   have : ¬ q = i := fun h => e h.symm
   simp [this]
theorem y_ops {Q : Exit → Act → World → Prop} (hL : ¬ LetsOut Q) (hQ : Beh N T ops.size p k Q) : ∀ (n i : Nat) (a : Act) (w : World) (γ : Nat → Value) (ι : Nat → Prop), i ≤ q → i + n = ops.size → a.defers = [] →
  (∀ k, k < ((T true).st 0).x.length → γ k = γ0 k) → Cn N C.W C.D C.ι0 (cur (T true) ops fun k => decide (k < i)) (curx (T true) ops fun k => decide (k < i)) γ ι a w → wpOpsIn (WF none) 0 P ops Q (List.range' i n) a w
 | 0, i, a, w, γ, ι, hiq, hi, hdf, hγ, hC => by
  have hq := (Array.getElem?_eq_some_iff.1 Y.ho).1
  omega
 | n + 1, i, a, w, γ, ι, hiq, hi, hdf, hγ, hC => by
  rw [List.range'_succ, wpOpsIn_cons]
  obtain ⟨o', ho'⟩ := (H true).get (show i < ops.size by omega)
  have hcls : Cls ops (fun k => decide (k < i)) := fun j oj hoj hj e he hb => by
   have := (H true).ok.low j oj hoj e he hb
   simp at hj ⊢; omega
  have hall : ∀ e ∈ o'.after, Region.binds .any e = true → (fun k => decide (k < i)) e.on = true := fun e he hb => by
   have := (H true).ok.low i o' ho' e he hb
   simpa using this
  have hl' : ∀ k, decide (k < i + 1) = (decide (k = i) || decide (k < i)) := fun k => by
   by_cases e : k = i
   ·subst e; simp
   ·have : (k < i + 1) ↔ k < i := by omega
    simp [e, this]
  by_cases e : i = q
  ·subst e
   have hoo : o' = o := by have := Y.ho; rw [ho'] at this; cases this; rfl
   subst hoo
   refine y_step H hp hA hk Y (l := fun k => decide (k < i)) (l' := fun k => decide (k < i + 1)) hcls (by simp) hall hl' (fun j hj => by simp; omega) (fun j hj => (hγ j (by omega)).trans (hγ0 j hj)) hC hdf fun b C' a' w' h1 h2 h3 => ?_
   refine ops_all ((H b).re (W' := C'.W) (D' := C'.D)) (dfs := []) hL (fun γ' ι' a2 w2 h4 h5 h6 => ?_) n (i + 1) a' w' γ ι (fun j oj hj hne => hS b _ _ j oj hj (by omega)) (by omega) h2 (by rw [y_st0 H hp hA hk Y hS hγ0 hm0 b]; exact hγ) h3
   exact hQ b C' γ' ι' a2 w2 h1 h4 (fun j hj => by rw [h5 j (by rw [y_st0 H hp hA hk Y hS hγ0 hm0 b]; omega)]; exact hγ0 j hj) h6 (told_kn (H b) h5)
  ·refine any_step ((H true).re (W' := C.W) (D' := C.D)) (l := fun k => decide (k < i)) (l' := fun k => decide (k < i + 1)) hcls ho' (hS true _ _ i o' ho' e) (by simp) hall hl' hγ hC hL fun γ' ι' a' w' h1 h2 h3 => ?_
   exact y_ops hL hQ n (i + 1) a' w' γ' ι' (by omega) (by omega) (h1.trans hdf) h2 h3
theorem y_reg (hm : P.follows .mixedOrders = true) {Q : Exit → Act → World → Prop} (hL : ¬ LetsOut Q) (hQ : Beh N T ops.size p k Q) {id : Nat} {dr : Bool} {η : Nat → Value} {ι : Nat → Prop} {a : Act} {w : World} (hdf : a.defers = []) (hγ : ∀ k, k < ((T true).st 0).x.length → η k = γ0 k)
  (hC : Cn N C.W C.D C.ι0 ((T true).st 0).at (fun k => ((T true).st 0).x[k]?) η ι a w) : (Code.region id ops dr).wpIn (WF none) 0 P Q a w := by
 cases dr with
 | true =>
  refine wpIn_region_any hm ?_
  have hl := none_lst (H true) ops.size
  have h1 : (cur (T true) ops fun k => (Array.replicate ops.size false).getD k false) = ((T true).st 0).at := funext fun t => (H true).curT0 hl t
  have h2 : (curx (T true) ops fun k => (Array.replicate ops.size false).getD k false) = fun k => ((T true).st 0).x[k]? := funext fun k => (H true).curX0 hl k
  refine y_any H hp hA hk Y hS hγ0 hm0 hL hQ ops.size _ a w.drew η ι (by simp) (fun j o ho hj => by have hj' := hl j; simp only at hj; rw [hj'] at hj; cases hj) hdf hγ ?_ (by omega) (hl q)
  rw [h1, h2]; exact hC.drew
 | false =>
  refine wpIn_region ?_
  rw [List.range_eq_range']
  have hl : ∀ k, decide (k < 0) = false := fun k => by simp
  have h1 : (cur (T true) ops fun k => decide (k < 0)) = ((T true).st 0).at := funext fun t => (H true).curT0 hl t
  have h2 : (curx (T true) ops fun k => decide (k < 0)) = fun k => ((T true).st 0).x[k]? := funext fun k => (H true).curX0 hl k
  refine y_ops H hp hA hk Y hS hγ0 hm0 hL hQ ops.size 0 a w η ι (Nat.zero_le _) (by omega) hdf hγ ?_
  rw [h1, h2]; exact hC
end
end
end Go.Eo
namespace Go.Eo
open Go Go.RowKit Go.Rg
def ryC (s : St) (o : Oper) : Option (AV × List AV × Nat) := match o.op, o.dst with
 | .call c, some d => match c.callee with
  | .value f => some (s.ov f, c.args.toList.map s.ov, d)
  | _ => none
 | _, _ => none
def ry (P : Program) (N : Nat) (ops : Array Oper) (q : Nat) (b : Bool) (js : List Nat) (s : St) (it : List It) : Option (RL × AV × List AV) :=
 match rl P N ops (ops.toList.take q) s it with
 | some T1 => match ops.toList[q]? with
  | some o => match ryC T1.s o with
   | some (f, vs, d) => match wt T1.s ops o && !Nat.ble N d with
    | true => match rl P N ops (ops.toList.drop (q + 1)) (T1.s.put d (.a (.v (.bool b)))) T1.it with
     | some T2 => some (⟨T1.l ++ (T1.s, ⟨js, []⟩) :: T2.l, T2.s, T2.it, T1.q ++ T2.q⟩, f, vs)
     | none => none
    | false => none
   | none => none
  | none => none
 | none => none
def ryS (P : Program) (N : Nat) (ops : Array Oper) (q : Nat) (js : List Nat) (s : St) (it : List It) (b : Bool) : St := match ry P N ops q b js s it with
 | some (T, _) => T.s
 | none => s
def dscB (ops : Array Oper) (q : Nat) : Bool := (rgF 0 ops.size).all fun i => Nat.ble i q || ((bs ops.toList []).getD i 0).testBit q
def eB (m0 : Nat) (e : List AV × List Ob) : Bool := e.1.all (fun v => inB (m0 + e.2.length) v.js) && e.2.all slB
def lhsY (ops : Array Oper) (q : Nat) (js : List Nat) (o : Option (RL × AV × List AV)) : List Cl × AV × List AV × List (Option Ob) × Bool := match o with
 | some (T, f, vs) => (T.q.map (·.1), f, vs, js.map (T.st q).ob, okR ops (T.l.map (·.2)) && dscB ops q)
 | none => ([], .a (.v undef), [], [], true)
def rhsY (l m0 : Nat) (e : List AV × List Ob) (js : List Nat) (o : Option (RL × AV × List AV)) : List Cl × AV × List AV × List (Option Ob) × Bool := match o with
 | some (T, f, vs) => (T.q.map (·.2), .a (.v (.func (.yield l) #[] #[])), e.1.map (·.rn (hs m0 js)), e.2.map some, true)
 | none => ([], .a (.v undef), [], [], false)
section
variable {P : Program} {N : Nat}
theorem ry_spec {ops : Array Oper} {q : Nat} {b : Bool} {js : List Nat} {s : St} {it : List It} {T : RL} {f : AV} {vs : List AV} (h : ry P N ops q b js s it = some (T, f, vs)) : ∃ (T1 T2 : RL) (o : Oper) (d : Nat),
  rl P N ops (ops.toList.take q) s it = some T1 ∧ ops[q]? = some o ∧ ryC T1.s o = some (f, vs, d) ∧ wt T1.s ops o = true ∧ d < N ∧ rl P N ops (ops.toList.drop (q + 1)) (T1.s.put d (.a (.v (.bool b)))) T1.it = some T2 ∧ T = ⟨T1.l ++ (T1.s, ⟨js, []⟩) :: T2.l, T2.s, T2.it, T1.q ++ T2.q⟩ := by
 unfold ry at h
 split at h
 ·rename_i T1 h1
  split at h
  ·rename_i o ho
   split at h
   ·rename_i f' vs' d hr
    split at h
    ·rename_i hw
     split at h
     ·rename_i T2 h2
      cases h
      simp only [Bool.and_eq_true, Bool.not_eq_true'] at hw
      exact ⟨T1, T2, o, d, h1, by simpa using ho, hr, hw.1, ble_lt hw.2, h2, rfl⟩
     ·cases h
    ·cases h
   ·cases h
  ·cases h
 ·cases h
theorem ryC_spec {s : St} {o : Oper} {f : AV} {vs : List AV} {d : Nat} (h : ryC s o = some (f, vs, d)) : ∃ x xs ts, o.op = .call { callee := .value x, args := xs, argTypes := ts } ∧ o.dst = some d ∧ s.ov x = f ∧ xs.toList.map s.ov = vs := by
 unfold ryC at h
 split at h
 ·rename_i c d' hop hd
  split at h
  ·rename_i x hc
   cases h
   obtain ⟨ce, xs, ts⟩ := c
   simp only at hc
   subst hc
   exact ⟨x, xs, ts, hop, hd, rfl, rfl⟩
  ·cases h
 ·cases h
variable {W : World} {D : Nat → Prop}
theorem ry_get {ops : Array Oper} {q : Nat} {js : List Nat} {T1 T2 : RL} (hq : q < ops.size) (h1 : T1.l.length = (ops.toList.take q).length) (h2 : T2.l.length = (ops.toList.drop (q + 1)).length) (qq : List (Cl × Cl)) :
  let T : RL := ⟨T1.l ++ (T1.s, ⟨js, []⟩) :: T2.l, T2.s, T2.it, qq⟩
  T.l.length = ops.size ∧ (∀ i, i < q → T.st i = T1.st i ∧ T.fp i = T1.fp i) ∧ T.st q = T1.s ∧ T1.st q = T1.s ∧ T.fp q = ⟨js, []⟩ ∧ ∀ i, T.st (q + 1 + i) = T2.st i ∧ T.fp (q + 1 + i) = T2.fp i := by
 have e1 : T1.l.length = q := by rw [h1, List.length_take]; simp; omega
 have e2 : T2.l.length = ops.size - (q + 1) := by rw [h2, List.length_drop]; simp
 refine ⟨by simp [e1, e2]; omega, fun i hi => ?_, ?_, ?_, ?_, fun i => ?_⟩
 ·have : (T1.l ++ (T1.s, (⟨js, []⟩ : Fp)) :: T2.l)[i]? = T1.l[i]? := List.getElem?_append_left (by omega)
  unfold RL.st RL.fp
  simp only [this]
  have hlt : i < T1.l.length := by omega
  rw [List.getElem?_eq_getElem hlt]
  constructor <;> first | rfl | trivial
 ·have : (T1.l ++ (T1.s, (⟨js, []⟩ : Fp)) :: T2.l)[q]? = some (T1.s, ⟨js, []⟩) := by rw [List.getElem?_append_right (by omega), e1]; simp
  unfold RL.st
  simp only [this]
 ·unfold RL.st; rw [List.getElem?_eq_none (by omega)]
 ·have : (T1.l ++ (T1.s, (⟨js, []⟩ : Fp)) :: T2.l)[q]? = some (T1.s, ⟨js, []⟩) := by rw [List.getElem?_append_right (by omega), e1]; simp
  unfold RL.fp
  simp only [this]
 ·have : (T1.l ++ (T1.s, (⟨js, []⟩ : Fp)) :: T2.l)[q + 1 + i]? = T2.l[i]? := by
   rw [List.getElem?_append_right (by omega), e1, show q + 1 + i - q = i + 1 by omega]; simp
  unfold RL.st RL.fp
  simp only [this]
  constructor <;> first | rfl | trivial
theorem yld {n0 : Nat} {F : Fx} (hm : P.follows .mixedOrders = true) {p : Pr} (hp : PrOk P p) (hF : ∀ C C', F.Q C = F.Q C') {C : Cx} {k : Nat} (hA : At p true k C) (hk : k < p.n) {id : Nat} {ops : Array Oper} {dr : Bool} {ks : List Kt} {s : St} (q : Nat) (js : List Nat) {it : List It} (hits : ∀ W D, Its P W D it)
  (hn0 : n0 = p.m0) (hl : Nat.ble n0 s.x.length = true) (he : eB p.m0 (p.enc k) = true) (h : ∀ b, lhsY ops q js (ry P N ops q b js s it) = rhsY p.l p.m0 (p.enc k) js (ry P N ops q b js s it))
  (hT : ∀ C' b, At p b (k + 1) C' → Good P N n0 F C' ks (ryS P N ops q js s it b)) : Good P N n0 F C (.c (.region id ops dr) :: ks) s := by
 subst hn0
 intro η ι a w hd hη hI
 have hl := Nat.le_of_ble_eq_true hl
 have all : ∀ b, ∃ T, (∃ f vs, ry P N ops q b js s it = some (T, f, vs)) ∧ Eqs T.q ∧ okR ops (T.l.map (·.2)) = true ∧ dscB ops q = true ∧ ∃ (T1 T2 : RL) (o : Oper) (d : Nat) (x : Operand) (xs : Array Operand) (ts : Array TypeId),
   rl P N ops (ops.toList.take q) s it = some T1 ∧ ops[q]? = some o ∧ o.op = .call { callee := .value x, args := xs, argTypes := ts } ∧ o.dst = some d ∧ T1.s.ov x = .a (.v (.func (.yield p.l) #[] #[])) ∧ xs.toList.map T1.s.ov = (p.enc k).1.map (·.rn (hs p.m0 js)) ∧ js.map T1.s.ob = (p.enc k).2.map some ∧
   wt T1.s ops o = true ∧ d < N ∧ rl P N ops (ops.toList.drop (q + 1)) (T1.s.put d (.a (.v (.bool b)))) T1.it = some T2 ∧ T = ⟨T1.l ++ (T1.s, ⟨js, []⟩) :: T2.l, T2.s, T2.it, T1.q ++ T2.q⟩ := fun b => by
  have hb := h b
  cases hr : ry P N ops q b js s it with
  | none => rw [hr] at hb; simp [lhsY, rhsY] at hb
  | some R =>
   obtain ⟨T, f, vs⟩ := R
   rw [hr] at hb
   simp only [lhsY, rhsY, Prod.mk.injEq, Bool.and_eq_true] at hb
   obtain ⟨g1, g2, g3, g4, g5, g6⟩ := hb
   obtain ⟨T1, T2, o, d, r1, r2, r3, r4, r5, r6, r7⟩ := ry_spec hr
   obtain ⟨x, xs, ts, o1, o2, o3, o4⟩ := ryC_spec r3
   have hq := (Array.getElem?_eq_some_iff.1 r2).1
   have l1 := (rl_spec (W := C.W) (D := C.D) _ _ _ _ (hits _ _).all r1).1
   have l2 := (rl_spec (W := C.W) (D := C.D) _ _ _ _ (fun i hi => (hits _ _).all i ((rl_spec (W := C.W) (D := C.D) _ _ _ _ (hits _ _).all r1).2.2.2 i hi)) r6).1
   have hst := (ry_get (js := js) hq l1 l2 (T1.q ++ T2.q)).2.2.1
   rw [← r7] at hst
   rw [hst] at g4
   exact ⟨T, ⟨f, vs, rfl⟩, eqs_of g1, g5, g6, T1, T2, o, d, x, xs, ts, r1, r2, o1, o2, by rw [o3, g2], by rw [o4, g3], g4, r4, r5, r6, r7⟩
 obtain ⟨Tt, ⟨ft, vt, ht0⟩, ht1, ht2, ht3, T1, T2t, o, d, x, xs, ts, r1, r2, r3, r4, r5, r6, r7, r8, r9, r10, r11⟩ := all true
 obtain ⟨Tf, ⟨ff, vf, hf0⟩, hf1, hf2, hf3, T1', T2f, o', d', x', xs', ts', s1, s2, s3, s4, s5, s6, s7, s8, s9, s10, s11⟩ := all false
 rw [r1] at s1; cases s1
 rw [r2] at s2; cases s2
 rw [r4] at s4; cases s4
 have hq := (Array.getElem?_eq_some_iff.1 r2).1
 let T : Bool → RL := fun b => match b with
  | true => Tt
  | false => Tf
 have sp1 : ∀ (W : World) (D : Nat → Prop), _ := fun W D => rl_spec (P := P) (N := N) (W := W) (D := D) _ _ _ _ (hits W D).all r1
 have sp2 : ∀ (W : World) (D : Nat → Prop) (b : Bool), _ := fun W D b => rl_spec (P := P) (N := N) (W := W) (D := D) (ops := ops) (ops.toList.drop (q + 1)) (T1.s.put d (.a (.v (.bool b)))) T1.it (match b with | true => T2t | false => T2f) (fun i hi => (hits W D).all i ((sp1 W D).2.2.2 i hi)) (by cases b <;> first | exact r10 | exact s10)
 have hT2 : ∀ b, T b = ⟨T1.l ++ (T1.s, ⟨js, []⟩) :: (match b with | true => T2t | false => T2f : RL).l, (match b with | true => T2t | false => T2f : RL).s, (match b with | true => T2t | false => T2f : RL).it, T1.q ++ (match b with | true => T2t | false => T2f : RL).q⟩ := fun b => by cases b <;> first | exact r11 | exact s11
 have gt : ∀ b, _ := fun b => ry_get (js := js) hq (sp1 C.W C.D).1 (sp2 C.W C.D b).1 (T1.q ++ (match b with | true => T2t | false => T2f : RL).q)
 have G : ∀ b, (T b).l.length = ops.size ∧ (∀ i, i < q → (T b).st i = T1.st i ∧ (T b).fp i = T1.fp i) ∧ (T b).st q = T1.s ∧ T1.st q = T1.s ∧ (T b).fp q = ⟨js, []⟩ ∧ ∀ i, (T b).st (q + 1 + i) = (match b with | true => T2t | false => T2f : RL).st i ∧ (T b).fp (q + 1 + i) = (match b with | true => T2t | false => T2f : RL).fp i := fun b => by
  rw [hT2 b]; exact gt b
 have hnx : ∀ b, (T b).st (q + 1) = T1.s.put d (.a (.v (.bool b))) := fun b => by
  have := ((G b).2.2.2.2.2 0).1
  rw [Nat.add_zero] at this
  rw [this]; exact (sp2 C.W C.D b).2.1
 have hst : ∀ b i, i ≤ q → (T b).st i = T1.st i := fun b i hi => by
  rcases Nat.lt_or_ge i q with h | h
  ·exact ((G b).2.1 i h).1
  ·have : i = q := by omega
   subst this; rw [(G b).2.2.1, (G b).2.2.2.1]
 have hfp : ∀ b i, i ≤ q → (T b).fp i = (T true).fp i := fun b i hi => by
  rcases Nat.lt_or_ge i q with h | h
  ·rw [((G b).2.1 i h).2, ((G true).2.1 i h).2]
  ·have : i = q := by omega
   subst this; rw [(G b).2.2.2.2.1, (G true).2.2.2.2.1]
 have hS : Oth P N ops T q := fun b W D i oi ho hne => by
  have hqq : (T b).q = T1.q ++ (match b with | true => T2t | false => T2f : RL).q := by rw [hT2 b]
  rcases Nat.lt_or_ge i q with h | h
  ·have := (sp1 W D).2.2.1 i oi (by rw [List.getElem?_take, if_pos h]; simpa using ho)
   rw [hst b i (by omega), ((G b).2.1 i h).2, hst b (i + 1) (by omega), hqq]
   rcases this with h1 | ⟨h1, it', R, h2, h3, h4, h5, h6⟩
   ·exact .inl h1
   ·exact .inr ⟨h1, it', R, h2, h3, h4, fun p hp => List.mem_append_left _ (h5 p hp), h6⟩
  ·obtain ⟨j, rfl⟩ : ∃ j, i = q + 1 + j := ⟨i - (q + 1), by omega⟩
   have := (sp2 W D b).2.2.1 j oi (by rw [List.getElem?_drop]; simpa using ho)
   rw [((G b).2.2.2.2.2 j).1, ((G b).2.2.2.2.2 j).2, show q + 1 + j + 1 = q + 1 + (j + 1) by omega, ((G b).2.2.2.2.2 (j + 1)).1, hqq]
   rcases this with h1 | ⟨h1, it', R, h2, h3, h4, h5, h6⟩
   ·exact .inl h1
   ·exact .inr ⟨h1, it', R, h2, h3, h4, fun p hp => List.mem_append_right _ (h5 p hp), h6⟩
 have hok : ∀ b, okR ops ((T b).l.map (·.2)) = true := fun b => by cases b <;> assumption
 have h0 : ∀ b, (T b).st 0 = s := fun b => by rw [hst b 0 (Nat.zero_le _)]; exact (sp1 C.W C.D).2.1
 have hpl : ∀ (i : Nat) (o : Oper), ops[i]? = some o → plainOp o = true := fun i o ho => by
  have hok := hok true
  unfold okR at hok
  simp only [Bool.and_eq_true, List.all_eq_true] at hok
  exact hok.2.2.1 o (by simpa using Array.mem_of_getElem? ho)
 have H : ∀ b, Hy P N C.W C.D ops (T b) (fun j i => ((bs ops.toList []).getD j 0).testBit i = true) η := fun b => by
  refine ⟨fun i oi ho => ?_, okR_spec (G b).1 (hok b), by cases b <;> assumption, by rw [h0 b]; exact hI.2, by rw [h0 b]; exact hI.sc, hpl⟩
  by_cases e : i = q
  ·subst e
   rw [r2] at ho; cases ho
   rw [(G b).2.2.1, hnx b, (G b).2.2.2.2.1]
   refine ⟨fun t ht => ?_, fun d2 e => by rw [r4] at e; cases e; exact r9, fun d2 e j hj => ?_, xs_id⟩
   ·rw [put_at, if_neg (fun e => ht (by rw [r4, e]))]
   ·rw [r4] at e; cases e
    rw [put_at, if_pos rfl] at hj
    simp [AV.js, AC.j] at hj
  ·exact (hS b C.W C.D i oi ho e).shape
 unfold eB at he
 simp only [Bool.and_eq_true] at he
 have Y : Yh P N ops T (fun j i => ((bs ops.toList []).getD j 0).testBit i = true) p k q o js := by
  refine ⟨r2, ⟨x, xs, ts, r3, ?_, ?_⟩, ⟨d, r4, r9, fun b => ?_⟩, hfp, (G true).2.2.2.2.1, fun b i hi => by rw [hst b i hi, hst true i hi], ?_, he.1, ?_, he.2, fun i hi hs => ?_⟩
  ·rw [(G true).2.2.1]; exact r5
  ·rw [(G true).2.2.1]; exact r6
  ·rw [(G true).2.2.1]; exact hnx b
  ·rw [(G true).2.2.1]; exact r8
  ·rw [(G true).2.2.1]; exact r7
  ·have := ht3
   unfold dscB at this
   rw [List.all_eq_true] at this
   have := this i (mem_rgF.2 ⟨Nat.zero_le _, by omega⟩)
   rcases Bool.or_eq_true_iff.1 this with h | h
   ·have := Nat.le_of_ble_eq_true h; omega
   ·exact h
 show (Code.region id ops dr).wpIn (WF C.r0) C.m P (Post P C.m C.r0 (F.Q C) ks) a w
 rw [hA.r, hA.m]
 refine y_reg H hp hA hk Y hS (fun j hj => by rw [hη j hj, hA.e]) (by rw [h0 true]; exact hl) hm (post_lets (P := P) (F.L C) ks) ?_ (by rw [hd, hA.df]) (fun _ _ => rfl) (by rw [h0 true]; exact hI.1)
 intro b C' η' ι' a' w' hA' hd' hη' hC' hK'
 have hend : (T b).st ops.size = ryS P N ops q js s it b := by
  have : (T b).st ops.size = (T b).s := by unfold RL.st; rw [List.getElem?_eq_none (by rw [(G b).1]; omega)]
  rw [this]
  unfold ryS
  cases b with
  | true => rw [ht0]
  | false => rw [hf0]
 rw [hend] at hC' hK'
 have := hT C' b hA' η' ι' a' w' (by rw [hd', hA'.df]) (fun j hj => by rw [hη' j hj, hA'.e]) ⟨hC', hK'⟩
 rw [hA'.m, hA'.r, hF C' C] at this
 exact this
def stK (o : Option RK) : List Kt := match o with
 | some ⟨.n, .c (.region _ _ _) :: k, _, _, _⟩ => k
 | _ => []
def stO (o : Option RK) : Array Oper := match o with
 | some ⟨.n, .c (.region _ ops _) :: _, _, _, _⟩ => ops
 | _ => #[]
def stS (s0 : St) (o : Option RK) : St := match o with
 | some ⟨.n, .c (.region _ _ _) :: _, s, _, _⟩ => s
 | _ => s0
def lhsG (o : Option RK) : List Cl × Bool := match o with
 | some ⟨.n, .c (.region _ _ _) :: _, _, _, q⟩ => (q.map (·.1), true)
 | _ => ([], true)
def rhsG (o : Option RK) : List Cl × Bool := match o with
 | some ⟨.n, .c (.region _ _ _) :: _, _, _, q⟩ => (q.map (·.2), true)
 | _ => ([], false)
theorem goY {n0 : Nat} {F : Fx} (hm : P.follows .mixedOrders = true) {p : Pr} (hp : PrOk P p) (hF : ∀ C C', F.Q C = F.Q C') {C : Cx} {k : Nat} (hA : At p true k C) (hk : k < p.n) {ks : List Kt} {s : St} (hl : Nat.ble n0 s.x.length = true) (t n : Nat) {it0 : List It} (hits0 : Its P C.W C.D it0) (q : Nat) (js : List Nat) {it : List It} (hits : ∀ W D, Its P W D it)
  (hn0 : n0 = p.m0) (h0 : lhsG (rk P N [t] n ks s it0) = rhsG (rk P N [t] n ks s it0)) (he : eB p.m0 (p.enc k) = true)
  (h : ∀ b, lhsY (stO (rk P N [t] n ks s it0)) q js (ry P N (stO (rk P N [t] n ks s it0)) q b js (stS s (rk P N [t] n ks s it0)) it) = rhsY p.l p.m0 (p.enc k) js (ry P N (stO (rk P N [t] n ks s it0)) q b js (stS s (rk P N [t] n ks s it0)) it))
  (hT : ∀ C' b, At p b (k + 1) C' → Good P N n0 F C' (stK (rk P N [t] n ks s it0)) (ryS P N (stO (rk P N [t] n ks s it0)) q js (stS s (rk P N [t] n ks s it0)) it b)) : Good P N n0 F C ks s := by
 cases hr : rk P N [t] n ks s it0 with
 | none => rw [hr] at h0; simp [lhsG, rhsG] at h0
 | some R =>
  rw [hr] at h0 h hT
  have hl := Nat.le_of_ble_eq_true hl
  obtain ⟨e, k1, s1, it1, q1⟩ := R
  have key : ∃ id ops dr k2, e = .n ∧ k1 = .c (.region id ops dr) :: k2 ∧ Eqs q1 := by
   unfold lhsG rhsG at h0
   split at h0
   ·rename_i id ops dr k2 s2 it2 q2 heq
    cases heq
    simp only [Prod.mk.injEq] at h0
    exact ⟨id, ops, dr, k2, rfl, rfl, eqs_of h0.1⟩
   ·simp at h0
  obtain ⟨id, ops, dr, k2, rfl, rfl, hq⟩ := key
  intro η ι a w hd hη hI
  refine rk_sound hm (F.L C) n ks s it0 _ hr hits0.all hq hI fun η' ι' a' w' hd' hlen hg hI' => ?_
  exact yld hm hp hF hA hk q js hits hn0 (Nat.ble_eq_true_of_le (Nat.le_trans hl hlen)) he h hT η' ι' a' w' (hd'.trans hd) (fun j hj => by rw [hg j (by omega)]; exact hη j hj) hI'
def itQ (P : Program) (fn : Func) (p : Pr) (e : Exit) (a : Act) (w : World) : Prop :=
 (e = .ret ∨ e = .normal) ∧ a.defers = [] ∧ (∃ v, (results fn a.tmps).run P w = .ok v w) ∧ Kept p.S p.W w ∧ ((∃ O M, Bd p.W.heap.size O M w ∧ p.J p.n O M w) ∨ ∃ k O M, 0 < k ∧ k ≤ p.n ∧ Bd p.W.heap.size O M w ∧ p.Jx k O M w)
def itF (P : Program) (fn : Func) (p : Pr) : Fx := ⟨fun _ => itQ P fn p, fun C ⟨a, w, h⟩ => by rcases h.1 with h | h <;> cases h⟩
def lhsI (P : Program) (o : Option RK) (res : List ResultVar) : List Cl × Bool := match o with
 | some R => (R.q.map (·.1), (resV P R.s res).isSome && endB R.e R.k)
 | none => ([], true)
def rhsI (o : Option RK) : List Cl × Bool := match o with
 | some R => (R.q.map (·.2), true)
 | none => ([], false)
def endK (p : Pr) (b : Bool) (k : Nat) : Prop := match b with
 | true => k = p.n
 | false => 0 < k ∧ k ≤ p.n
theorem doneI {n0 : Nat} {fn : Func} {C : Cx} {ks : List Kt} {s : St} {it : List It} (hm : P.follows .mixedOrders = true) {p : Pr} (hp : PrOk P p) {b : Bool} {k : Nat} (hA : At p b k C) (hk : endK p b k) (n : Nat) (hits : Its P C.W C.D it)
  (h : lhsI P (rk P N [] n ks s it) fn.results.toList = rhsI (rk P N [] n ks s it)) : Good P N n0 (itF P fn p) C ks s := by
 intro η ι a w hd hη hI
 cases hr : rk P N [] n ks s it with
 | none => rw [hr] at h; simp [lhsI, rhsI] at h
 | some R =>
  rw [hr] at h
  simp only [lhsI, rhsI, Prod.mk.injEq, Bool.and_eq_true] at h
  obtain ⟨h1, h2, h4⟩ := h
  refine rk_sound hm ((itF P fn p).L C) n ks s it R hr hits.all (eqs_of h1) hI fun η' ι' a' w' hd' hlen hg hI' => ?_
  obtain ⟨v, hv⟩ := Option.isSome_iff_exists.1 h2
  have hrun := res_run hI' hv
  obtain ⟨g1, g2, g3⟩ := at_on hp hA hI'.1
  have key : ∀ e, (e = .ret ∨ e = .normal) → itQ P fn p e a' w' := fun e he => by
   refine ⟨he, by rw [hd', hd, hA.df], ⟨_, hrun⟩, g1, ?_⟩
   cases b with
   | true =>
    have hk : k = p.n := hk
    subst hk
    exact .inl ⟨_, _, g2, g3⟩
   | false => exact .inr ⟨k, _, _, hk.1, hk.2, g2, g3⟩
  cases he : R.e with
  | r => exact key _ (.inl rfl)
  | n =>
   rw [he] at h4
   cases hk : R.k with
   | nil => exact key _ (.inr rfl)
   | cons x y => rw [hk] at h4; cases h4
  | e id => rw [he] at h4; cases h4
def prW (p : Pr) (n m0 : Nat) (enc : Nat → List AV × List Ob) : Pr := ⟨p.l, n, p.J, p.Jx, p.W, p.S, p.η, m0, enc⟩
def seqB (obs : List Ob) (lb : List AC) (N : Nat) : Bool := lb.all (fun x => inB obs.length x.j.toList) && (obs.all (fun o => inB obs.length o.js) && (obs.all isRo && Nat.ble (lb.length + 1) N))
theorem seqp {gf : FuncId} {fn : Func} {c : Code} {obs : List Ob} {lb : List AC} {n : Nat} {enc : Nat → List AV × List Ob} (hf : P.funcs[gf]? = some fn) (hb : fn.body = some c) (hB : seqB obs lb fn.ntmps = true)
  (h : ∀ (p0 : Pr) (C : Cx), PrOk P (prW p0 n obs.length enc) → At (prW p0 n obs.length enc) true 0 C → Good P fn.ntmps obs.length (itF P fn (prW p0 n obs.length enc)) C [.c c] (st0 (.a (.v (.func (.yield p0.l) #[] #[])) :: lb.map .a) obs)) : SeqP P gf lb obs n enc := by
 unfold seqB at hB
 simp only [Bool.and_eq_true, List.all_eq_true] at hB
 obtain ⟨b1, b2, b3, b4⟩ := hB
 have b4 := Nat.le_of_ble_eq_true b4
 refine ⟨fun x hx j hj => inB_lt (b1 x hx) j (by simp [hj]), fun ob ho j hj => inB_lt (b2 ob ho) j hj, b3, fun η ι w hM l J Jx W hk hsJ hsX hy h0 => ?_⟩
 have hM' : Mem η ι W obs := by
  refine ⟨fun j ob ho => (hM.ok j ob ho).seg (fun _ h => h) (fun g o hg ho _ => (hk.same g hg).trans ho) (fun g o hg => ?_) (fun _ _ => rfl), hM.ne, hM.ni, fun g hg => Nat.lt_of_lt_of_le (hM.il g hg) hk.size⟩
  rw [isRo_mb (b3 ob (List.mem_of_getElem? ho))] at hg; cases hg
 let p0 : Pr := ⟨l, n, J, Jx, W, ι, η, obs.length, enc⟩
 let C : Cx := ⟨W, Muts η obs, ι, η, [], 0, none⟩
 have hp : PrOk P (prW p0 n obs.length enc) := ⟨hM'.il, fun b => by cases b <;> assumption, hy⟩
 have hA : At (prW p0 n obs.length enc) true 0 C := ⟨rfl, rfl, rfl, rfl, Kept.refl _ _, fun _ h => h, fun _ => False, fun _ => False, ⟨fun _ h => h.elim, fun _ h => h.elim, fun _ h => h.elim⟩, h0, fun g h => .inl h, fun g ⟨j, ob, ho, hm⟩ => by
  rw [isRo_mb (b3 ob (List.mem_of_getElem? ho))] at hm; cases hm⟩
 have hI := im0 (N := fn.ntmps) (obs := obs) (args := .a (.v (.func (.yield l) #[] #[])) :: lb.map .a) (fun v hv => by
  rcases List.mem_cons.1 hv with rfl | hv
  ·rfl
  ·obtain ⟨x, hx, rfl⟩ := List.mem_map.1 hv
   exact b1 x hx) b2 (by simpa using b4) hM'
 have e1 : ((.a (.v (.func (.yield l) #[] #[])) :: lb.map AV.a).map (·.c η)).toArray = #[.func (.yield l) #[] #[]] ++ (lb.map (·.c η)).toArray := by
  apply Array.ext'
  simp [AV.c, AC.c, Function.comp_def]
 rw [e1] at hI
 have := h p0 C hp hA η ι _ W rfl (fun _ _ => rfl) hI
 refine callsIn_of_wp (F := WF none) hf hb trivial ?_
 refine wpIn_mono (P := P) (Q := itQ P fn (prW p0 n obs.length enc)) this ?_
 rintro e a' w' ⟨he, hd, ⟨v, hv⟩, hk', hr⟩
 rcases he with rfl | rfl
 ·exact ⟨hd, v, hv, ⟨v, rfl⟩, hk', hr⟩
 ·exact ⟨hd, v, hv, ⟨v, rfl⟩, hk', hr⟩
end
end Go.Eo
