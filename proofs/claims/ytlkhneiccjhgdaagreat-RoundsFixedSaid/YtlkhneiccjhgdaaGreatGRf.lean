/- The engine with objects is sound: code, up to where it stops. No program in sight. -/
import Derived.Test.YtlkhneiccjhgdaaGreatGRe
import Derived.Test.YtlkhneiccjhgdaaGreatGRa
import Derived.LoopNIn
import Derived.WalkMore
import Derived.Test.YtlkhneiccjhgdaaGreatProg
import Derived.KernelRfl
set_option linter.unusedVariables false
set_option linter.unusedSimpArgs false
namespace Go.Eo
open Go Go.RowKit Go.Rg
section
variable {P : Program} {N : Nat} {W : World} {D : Nat → Prop} {ι0 : Nat → Prop} {m : Nat} {r0 : Option Nat}
def Ex.x : Ex → Exit
 | .n => .normal
 | .e id => .exit id
 | .r => .ret
def Im (N : Nat) (W : World) (D : Nat → Prop) (ι0 : Nat → Prop) (s : St) (η : Nat → Value) (ι : Nat → Prop) (a : Act) (w : World) : Prop := Cn N W D ι0 s.at (fun k => s.x[k]?) η ι a w ∧ Kn s η
theorem OOk.drew {w : World} {ι : Nat → Prop} {η : Nat → Value} {v : Value} {ob : Ob} (h : OOk w ι η v ob) (hil : ∀ g, ι g → g < w.heap.size) : OOk w.drew ι η v ob :=
 h.stay (B := []) (Stay.refl [] w).drew (fun _ h => h) (fun g hg => ⟨by simp, hil g hg⟩) (fun g _ => by simp) (fun _ _ => rfl)
theorem Cn.drew {at_ : Nat → AV} {x : Nat → Option Bx} {η : Nat → Value} {ι : Nat → Prop} {a : Act} {w : World} (h : Cn N W D ι0 at_ x η ι a w) : Cn N W D ι0 at_ x η ι a w.drew :=
 ⟨h.tm, h.sc, fun k B hB => (h.ok k B hB).drew h.il, h.ob, h.ne, h.ni, h.il, h.ig, h.iu, h.st.drew, h.sz⟩
theorem Eqs.left {q q' : List (Cl × Cl)} (h : Eqs (q ++ q')) : Eqs q := fun p hp => h p (List.mem_append_left _ hp)
theorem Eqs.right {q q' : List (Cl × Cl)} (h : Eqs (q ++ q')) : Eqs q' := fun p hp => h p (List.mem_append_right _ hp)
theorem Im.sc {s : St} {η : Nat → Value} {ι : Nat → Prop} {a : Act} {w : World} (h : Im N W D ι0 s η ι a w) : Sc s := by
 refine ⟨fun t k hk => ?_, fun j ob ho k hk => ?_⟩
 ·obtain ⟨B, hB⟩ := h.1.sc t k hk
  exact (List.getElem?_eq_some_iff.1 hB).1
 ·obtain ⟨B, hB, rfl⟩ := ob_x ho
  obtain ⟨B', hB'⟩ := h.1.ob j B hB k hk
  exact (List.getElem?_eq_some_iff.1 hB').1
theorem reg_sound (hm : P.follows .mixedOrders = true) {id : Nat} {ops : Array Oper} {dr : Bool} {s : St} {it : List It} {T : RL} (h : rl P N ops ops.toList s it = some T) (hok : okR ops (T.l.map (·.2)) = true) (hit : ∀ i ∈ it, ItOk P W D (FnP P) i) (hq : Eqs T.q)
  {Q : Exit → Act → World → Prop} (hL : ¬ LetsOut Q) {η : Nat → Value} {ι : Nat → Prop} {a : Act} {w : World} (hI : Im N W D ι0 s η ι a w)
  (hQ : ∀ η' ι' a' w', a'.defers = a.defers → s.x.length ≤ T.s.x.length → (∀ k, k < s.x.length → η' k = η k) → Im N W D ι0 T.s η' ι' a' w' → Q .normal a' w') :
  (Code.region id ops dr).wpIn (WF r0) m P Q a w := by
 obtain ⟨h1, h2, h3, _⟩ := rl_spec _ _ _ _ hit h
 have h1' : T.l.length = ops.size := by simpa using h1
 have hp : ∀ (i : Nat) (o : Oper), ops[i]? = some o → plainOp o = true := fun i o ho => by
  unfold okR at hok
  simp only [Bool.and_eq_true, List.all_eq_true] at hok
  exact hok.2.2.1 o (by simpa using Array.mem_of_getElem? ho)
 have hS : ∀ (i : Nat) (o : Oper), ops[i]? = some o → Sp P N W D ops o (T.st i) (T.fp i) (T.st (i + 1)) T.q := fun i o ho => h3 i o (by simpa using ho)
 have H : Hy P N W D ops T _ η := ⟨fun i o ho => (hS i o ho).shape, okR_spec h1' hok, hq, by rw [h2]; exact hI.2, by rw [h2]; exact hI.sc, hp⟩
 have hend : T.st ops.size = T.s := by unfold RL.st; rw [List.getElem?_eq_none (by omega)]
 have hA : Aft N W D T ops.size η ι0 a.defers Q := fun η' ι' a' w' hd hg hc => by
  rw [hend] at hc
  have hlen := H.len 0 ops.size (by omega) (by omega)
  rw [hend, h2] at hlen
  refine hQ η' ι' a' w' hd hlen (by rw [h2] at hg; exact hg) ⟨hc, fun k B b hB hb => ?_⟩
  rw [← hend] at hB
  obtain ⟨B0, h4, h5⟩ := H.told ops.size (Nat.le_refl _) k B b hB hb
  rw [hg k (List.getElem?_eq_some_iff.1 h4).1]
  exact H.kn k B0 b h4 h5
 have hC : Cn N W D ι0 (T.st 0).at (fun k => (T.st 0).x[k]?) η ι a w := by rw [h2]; exact hI.1
 cases dr with
 | true => exact wpIn_region_any hm (any_reg H hS hL hA hC.drew)
 | false => exact wpIn_region (ops_reg H hS hL hA hC)
theorem pre_sound {t : Nat} {a : Act} {w : World} : ∀ (it : List It) (s : St) (η : Nat → Value) (ι : Nat → Prop), (∀ i ∈ it, ItOk P W D (FnP P) i) → Eqs (pre t s it).2.2 → Im N W D ι0 s η ι a w →
  (∃ η' ι', (∀ k, k < s.x.length → η' k = η k) ∧ Im N W D ι0 (pre t s it).1 η' ι' a w) ∧ s.x.length ≤ (pre t s it).1.x.length ∧ ∀ i ∈ (pre t s it).2.1, i ∈ it
 | [], s, η, ι, _, _, h => ⟨⟨η, ι, fun _ _ => rfl, h⟩, Nat.le_refl _, fun i hi => hi⟩
 | .z t' j :: r, s, η, ι, hit, hq, h => by
  have hr : ∀ i ∈ r, ItOk P W D (FnP P) i := fun i hi => hit i (List.mem_cons_of_mem _ hi)
  unfold pre at hq ⊢
  rw [cond_eq_ite] at hq ⊢
  split
  ·rename_i ht
   rw [if_pos ht] at hq
   split
   ·rename_i k T z es hj
    rw [hj] at hq
    simp only at hq
    let s' : St := { s with x := s.x.set j ⟨k, .sl z es⟩ }
    let ι' : Nat → Prop := fun g => ι g ∨ (η j).ownBlock = some g
    obtain ⟨hC, hK⟩ := h
    have hlt := (List.getElem?_eq_some_iff.1 hj).1
    have hgo : ∀ k' B', s'.x[k']? = some B' → (k' = j ∧ B' = ⟨k, .sl z es⟩) ∨ (k' ≠ j ∧ s.x[k']? = some B') := fun k' B' hB => by
     rcases set_get hB with ⟨h1, h2, _⟩ | h
     ·exact .inl ⟨h1, h2⟩
     ·exact .inr h
    have hex : ∀ k' B', s.x[k']? = some B' → ∃ B2, s'.x[k']? = some B2 := fun k' B' hB => by
     have := (List.getElem?_eq_some_iff.1 hB).1
     exact ⟨_, List.getElem?_eq_getElem (by simpa [s'] using this)⟩
    have hI : Im N W D ι0 s' η ι' a w := by
     refine ⟨⟨hC.tm, fun t k hk => ?_, fun k' B' hB => ?_, fun k' B' hB i hi => ?_, fun k' k2 B' B2 g hB hB2 hm hm2 => ?_, fun k' B' g hB hm => ?_, fun g hg => ?_, fun g hg => ?_, fun g hg => .inl (hC.iu g hg), hC.st, hC.sz⟩, fun k' B' v hB hv => ?_⟩
     ·obtain ⟨B, hB⟩ := hC.sc t k hk
      exact hex k B hB
     ·rcases hgo k' B' hB with ⟨rfl, rfl⟩ | ⟨hne, hB⟩
      ·exact own_rd (ι := ι) (ι' := ι') (hC.ok k' _ hj) (fun g hg => .inl hg) (fun g hg => .inr hg)
      ·exact (hC.ok k' B' hB).stay (B := []) (Stay.refl [] w) (fun g hg => .inl hg) (fun g hg => ⟨by simp, hC.il g hg⟩) (fun g _ => by simp) (fun _ _ => rfl)
     ·rcases hgo k' B' hB with ⟨rfl, rfl⟩ | ⟨hne, hB⟩
      ·cases hi
      ·obtain ⟨B2, hB2⟩ := hC.ob k' B' hB i hi
       exact hex i B2 hB2
     ·rcases hgo k' B' hB with ⟨rfl, rfl⟩ | ⟨hne, hB⟩
      ·cases hm
      ·rcases hgo k2 B2 hB2 with ⟨rfl, rfl⟩ | ⟨hne2, hB2⟩
       ·cases hm2
       ·exact hC.ne k' k2 B' B2 g hB hB2 hm hm2
     ·rcases hgo k' B' hB with ⟨rfl, rfl⟩ | ⟨hne, hB⟩
      ·cases hm
      ·obtain ⟨h1, h2⟩ := hC.ni k' B' g hB hm
       refine ⟨fun hg => ?_, h2⟩
       rcases hg with hg | hg
       ·exact h1 hg
       ·exact hne (hC.ne j k' _ B' g hj hB hg hm)
     ·rcases hg with hg | hg
      ·exact hC.il g hg
      ·exact mb_lt (hC.ok j _ hj) (ob := .row T z es) hg
     ·rcases hg with hg | hg
      ·exact hC.ig g hg
      ·exact .inr (hC.ni j _ g hj hg).2
     ·rcases hgo k' B' hB with ⟨rfl, rfl⟩ | ⟨hne, hB⟩
      ·exact hK k' _ v hj hv
      ·exact hK k' B' v hB hv
    obtain ⟨⟨η2, ι2, h0, h1⟩, h2, h3⟩ := pre_sound r s' η ι' hr hq hI
    have hl' : s'.x.length = s.x.length := by simp [s']
    exact ⟨⟨η2, ι2, fun k hk => h0 k (by rw [hl']; exact hk), h1⟩, Nat.le_trans (Nat.le_of_eq hl'.symm) h2, fun i hi => List.mem_cons_of_mem _ (h3 i hi)⟩
   ·rename_i k c T hj
    rw [hj] at hq
    simp only at hq
    let s' : St := { s with x := s.x.set j ⟨k, .ro c T⟩ }
    let ι' : Nat → Prop := fun g => ι g ∨ mb (η j) (.box c T) = some g
    obtain ⟨hC, hK⟩ := h
    have hlt := (List.getElem?_eq_some_iff.1 hj).1
    have hgo : ∀ k' B', s'.x[k']? = some B' → (k' = j ∧ B' = ⟨k, .ro c T⟩) ∨ (k' ≠ j ∧ s.x[k']? = some B') := fun k' B' hB => by
     rcases set_get hB with ⟨h1, h2, _⟩ | h
     ·exact .inl ⟨h1, h2⟩
     ·exact .inr h
    have hex : ∀ k' B', s.x[k']? = some B' → ∃ B2, s'.x[k']? = some B2 := fun k' B' hB => by
     have := (List.getElem?_eq_some_iff.1 hB).1
     exact ⟨_, List.getElem?_eq_getElem (by simpa [s'] using this)⟩
    have hI : Im N W D ι0 s' η ι' a w := by
     refine ⟨⟨hC.tm, fun t k hk => ?_, fun k' B' hB => ?_, fun k' B' hB i hi => ?_, fun k' k2 B' B2 g hB hB2 hm hm2 => ?_, fun k' B' g hB hm => ?_, fun g hg => ?_, fun g hg => ?_, fun g hg => .inl (hC.iu g hg), hC.st, hC.sz⟩, fun k' B' v hB hv => ?_⟩
     ·obtain ⟨B, hB⟩ := hC.sc t k hk
      exact hex k B hB
     ·rcases hgo k' B' hB with ⟨rfl, rfl⟩ | ⟨hne, hB⟩
      ·obtain ⟨b, h1, h2⟩ := hC.ok k' _ hj
       exact ⟨b, h1, .inr (by rw [h1]; rfl), h2⟩
      ·exact (hC.ok k' B' hB).stay (B := []) (Stay.refl [] w) (fun g hg => .inl hg) (fun g hg => ⟨by simp, hC.il g hg⟩) (fun g _ => by simp) (fun _ _ => rfl)
     ·rcases hgo k' B' hB with ⟨rfl, rfl⟩ | ⟨hne, hB⟩
      ·obtain ⟨B2, hB2⟩ := hC.ob k' _ hj i hi
       exact hex i B2 hB2
      ·obtain ⟨B2, hB2⟩ := hC.ob k' B' hB i hi
       exact hex i B2 hB2
     ·rcases hgo k' B' hB with ⟨rfl, rfl⟩ | ⟨hne, hB⟩
      ·cases hm
      ·rcases hgo k2 B2 hB2 with ⟨rfl, rfl⟩ | ⟨hne2, hB2⟩
       ·cases hm2
       ·exact hC.ne k' k2 B' B2 g hB hB2 hm hm2
     ·rcases hgo k' B' hB with ⟨rfl, rfl⟩ | ⟨hne, hB⟩
      ·cases hm
      ·obtain ⟨h1, h2⟩ := hC.ni k' B' g hB hm
       refine ⟨fun hg => ?_, h2⟩
       rcases hg with hg | hg
       ·exact h1 hg
       ·exact hne (hC.ne j k' _ B' g hj hB hg hm)
     ·rcases hg with hg | hg
      ·exact hC.il g hg
      ·exact mb_lt (hC.ok j _ hj) (ob := .box c T) hg
     ·rcases hg with hg | hg
      ·exact hC.ig g hg
      ·exact .inr (hC.ni j _ g hj hg).2
     ·rcases hgo k' B' hB with ⟨rfl, rfl⟩ | ⟨hne, hB⟩
      ·exact hK k' _ v hj hv
      ·exact hK k' B' v hB hv
    obtain ⟨⟨η2, ι2, h0, h1⟩, h2, h3⟩ := pre_sound r s' η ι' hr hq hI
    have hl' : s'.x.length = s.x.length := by simp [s']
    exact ⟨⟨η2, ι2, fun k hk => h0 k (by rw [hl']; exact hk), h1⟩, Nat.le_trans (Nat.le_of_eq hl'.symm) h2, fun i hi => List.mem_cons_of_mem _ (h3 i hi)⟩
   ·exact ⟨⟨η, ι, fun _ _ => rfl, h⟩, Nat.le_refl _, fun i hi => hi⟩
  ·exact ⟨⟨η, ι, fun _ _ => rfl, h⟩, Nat.le_refl _, fun i hi => hi⟩
 | .o t' j x y :: r, s, η, ι, hit, hq, h => by
  have hr : ∀ i ∈ r, ItOk P W D (FnP P) i := fun i hi => hit i (List.mem_cons_of_mem _ hi)
  have he : x = y := hit _ (List.mem_cons_self ..)
  unfold pre at hq ⊢
  rw [cond_eq_ite] at hq ⊢
  split
  ·rename_i ht
   rw [if_pos ht] at hq
   split
   ·rename_i k ob hj
    rw [hj] at hq
    simp only at hq
    have h1 := hq _ (List.mem_cons_self ..)
    simp only [Cl.o.injEq] at h1
    have hs : ({ s with x := s.x.set j ⟨k, y⟩ } : St) = s := by
     have : s.x.set j ⟨k, y⟩ = s.x := by
      rw [← he, ← h1]
      obtain ⟨hlt, hg⟩ := List.getElem?_eq_some_iff.1 hj
      apply List.ext_getElem? 
      intro i
      by_cases e : j = i
      ·subst e; rw [List.getElem?_set_self hlt, hj]
      ·rw [List.getElem?_set_ne e]
     rw [this]
    rw [hs] at hq ⊢
    obtain ⟨h2, h3, h4⟩ := pre_sound r s η ι hr (fun p hp => hq p (List.mem_cons_of_mem _ hp)) h
    exact ⟨h2, h3, fun i hi => List.mem_cons_of_mem _ (h4 i hi)⟩
   ·exact ⟨⟨η, ι, fun _ _ => rfl, h⟩, Nat.le_refl _, fun i hi => hi⟩
  ·exact ⟨⟨η, ι, fun _ _ => rfl, h⟩, Nat.le_refl _, fun i hi => hi⟩
 | .n t' u T z :: r, s, η, ι, hit, hq, h => by
  have hr : ∀ i ∈ r, ItOk P W D (FnP P) i := fun i hi => hit i (List.mem_cons_of_mem _ hi)
  unfold pre at hq ⊢
  rw [cond_eq_ite] at hq ⊢
  split
  ·rename_i ht
   rw [if_pos ht] at hq
   split
   ·rename_i hu
    rw [hu] at hq
    simp only at hq
    let s' : St := { s with u := (u, .a (.w s.x.length)) :: s.u, x := s.x ++ [⟨none, .row T z []⟩] }
    let η1 : Nat → Value := fun k => if k = s.x.length then .slice none 0 0 else η k
    have hη : ∀ k, k < s.x.length → η1 k = η k := fun k hk => by simp only [η1]; rw [if_neg (by omega)]
    obtain ⟨hC, hK⟩ := h
    have hgo : ∀ (k' : Nat) (B' : Bx), s'.x[k']? = some B' → (k' = s.x.length ∧ B' = ⟨none, .row T z []⟩) ∨ (k' < s.x.length ∧ s.x[k']? = some B') := fun k' B' hB => by
     rcases Nat.lt_trichotomy k' s.x.length with h | h | h
     ·refine .inr ⟨h, ?_⟩
      have : (s.x ++ [⟨none, .row T z []⟩])[k']? = some B' := hB
      rwa [List.getElem?_append_left h] at this
     ·subst h
      have : (s.x ++ [⟨none, .row T z []⟩])[s.x.length]? = some B' := hB
      simp at this
      exact .inl ⟨rfl, this.symm⟩
     ·have : (s.x ++ [⟨none, .row T z []⟩])[k']? = some B' := hB
      rw [List.getElem?_eq_none (by simp; omega)] at this; cases this
    have hex : ∀ (k' : Nat) (B' : Bx), s.x[k']? = some B' → ∃ B2, s'.x[k']? = some B2 := fun k' B' hB => by
     have := (List.getElem?_eq_some_iff.1 hB).1
     exact ⟨_, List.getElem?_eq_getElem (by simp [s']; omega)⟩
    have hput : ∀ t, s'.at t = if u = t then .a (.w s.x.length) else s.at t := fun t => put_at { s with x := s.x ++ [⟨none, .row T z []⟩] } u _ t
    have hlt : ∀ (k : Nat) (B : Bx), s.x[k]? = some B → k < s.x.length := fun k B h => (List.getElem?_eq_some_iff.1 h).1
    have hI : Im N W D ι0 s' η1 ι a w := by
     refine ⟨⟨fun t => ?_, fun t k hk => ?_, fun k' B' hB => ?_, fun k' B' hB i hi => ?_, fun k' k2 B' B2 g hB hB2 hm hm2 => ?_, fun k' B' g hB hm => ?_, hC.il, hC.ig, hC.iu, hC.st, hC.sz⟩, fun k' B' v hB hv => ?_⟩
     ·rw [hput]
      by_cases e : u = t
      ·rw [if_pos e, hC.tm t, ← e, hu]
       simp [AV.c, AC.c, η1, slV]
      ·rw [if_neg e, hC.tm t]
       refine (AV.c_congr fun k hk => ?_).symm
       obtain ⟨B, hB⟩ := hC.sc t k hk
       exact hη k (hlt k B hB)
     ·rw [hput] at hk
      by_cases e : u = t
      ·rw [if_pos e] at hk
       simp [AV.js, AC.j] at hk
       subst hk
       exact ⟨_, List.getElem?_eq_getElem (by simp [s'])⟩
      ·rw [if_neg e] at hk
       obtain ⟨B, hB⟩ := hC.sc t k hk
       exact hex k B hB
     ·rcases hgo k' B' hB with ⟨rfl, rfl⟩ | ⟨hne, hB⟩
      ·refine ⟨fun e he => (by cases he), [], ?_, fun i e j d he => (by cases he)⟩
       simp only [η1, if_true]
       exact ⟨by simp, .inl ⟨rfl, rfl⟩⟩
      ·rw [hη k' hne]
       exact (hC.ok k' B' hB).stay (B := []) (Stay.refl [] w) (fun g hg => hg) (fun g hg => ⟨by simp, hC.il g hg⟩) (fun g _ => by simp) (fun j hj => by
        obtain ⟨B2, hB2⟩ := hC.ob k' B' hB j hj
        exact hη j (hlt j B2 hB2))
     ·rcases hgo k' B' hB with ⟨rfl, rfl⟩ | ⟨hne, hB⟩
      ·cases hi
      ·obtain ⟨B2, hB2⟩ := hC.ob k' B' hB i hi
       exact hex i B2 hB2
     ·rcases hgo k' B' hB with ⟨rfl, rfl⟩ | ⟨hne, hB⟩
      ·simp [mb, η1, Value.ownBlock] at hm
      ·rcases hgo k2 B2 hB2 with ⟨rfl, rfl⟩ | ⟨hne2, hB2⟩
       ·simp [mb, η1, Value.ownBlock] at hm2
       ·rw [hη k' hne] at hm
        rw [hη k2 hne2] at hm2
        exact hC.ne k' k2 B' B2 g hB hB2 hm hm2
     ·rcases hgo k' B' hB with ⟨rfl, rfl⟩ | ⟨hne, hB⟩
      ·simp [mb, η1, Value.ownBlock] at hm
      ·rw [hη k' hne] at hm
       exact hC.ni k' B' g hB hm
     ·rcases hgo k' B' hB with ⟨rfl, rfl⟩ | ⟨hne, hB⟩
      ·cases hv
      ·rw [hη k' hne]; exact hK k' B' v hB hv
    obtain ⟨⟨η2, ι2, h0, h1⟩, h2, h3⟩ := pre_sound r s' η1 ι hr hq hI
    have hl' : s'.x.length = s.x.length + 1 := by simp [s']
    exact ⟨⟨η2, ι2, fun k hk => (h0 k (by rw [hl']; omega)).trans (hη k hk), h1⟩, Nat.le_trans (by omega) h2, fun i hi => List.mem_cons_of_mem _ (h3 i hi)⟩
   ·exact ⟨⟨η, ι, fun _ _ => rfl, h⟩, Nat.le_refl _, fun i hi => hi⟩
  ·exact ⟨⟨η, ι, fun _ _ => rfl, h⟩, Nat.le_refl _, fun i hi => hi⟩
 | .q t' j c T z :: r, s, η, ι, hit, hq, h => by
  have hr : ∀ i ∈ r, ItOk P W D (FnP P) i := fun i hi => hit i (List.mem_cons_of_mem _ hi)
  unfold pre at hq ⊢
  rw [cond_eq_ite] at hq ⊢
  split
  ·rename_i ht
   rw [if_pos ht] at hq
   split
   ·rename_i k cs T' hj
    rw [hj] at hq
    simp only at hq
    split
    ·rename_i hc
     rw [hc] at hq
     simp only at hq
     let s' : St := { s with x := s.x.set j ⟨k, .box (cs.set c (.w s.x.length)) T'⟩ ++ [⟨none, .row T z []⟩] }
     let η1 : Nat → Value := fun k => if k = s.x.length then .slice none 0 0 else η k
     have hη : ∀ k, k < s.x.length → η1 k = η k := fun k hk => by simp only [η1]; rw [if_neg (by omega)]
     obtain ⟨hC, hK⟩ := h
     have hlt : ∀ (k : Nat) (B : Bx), s.x[k]? = some B → k < s.x.length := fun k B h => (List.getElem?_eq_some_iff.1 h).1
     have hjl := hlt j _ hj
     have hgo : ∀ (k' : Nat) (B' : Bx), s'.x[k']? = some B' → (k' = s.x.length ∧ B' = ⟨none, .row T z []⟩) ∨ (k' = j ∧ B' = ⟨k, .box (cs.set c (.w s.x.length)) T'⟩) ∨ (k' < s.x.length ∧ s.x[k']? = some B') := fun k' B' hB => by
      have hB : (s.x.set j ⟨k, .box (cs.set c (.w s.x.length)) T'⟩ ++ [⟨none, .row T z []⟩])[k']? = some B' := hB
      rcases Nat.lt_trichotomy k' s.x.length with h | h | h
      ·rw [List.getElem?_append_left (by simpa using h)] at hB
       rcases set_get hB with ⟨h1, h2, _⟩ | ⟨_, h2⟩
       ·exact .inr (.inl ⟨h1, h2⟩)
       ·exact .inr (.inr ⟨h, h2⟩)
      ·subst h
       simp at hB
       exact .inl ⟨rfl, hB.symm⟩
      ·rw [List.getElem?_eq_none (by simp; omega)] at hB; cases hB
     have hex : ∀ (k' : Nat), k' ≤ s.x.length → ∃ B2, s'.x[k']? = some B2 := fun k' hk => ⟨_, List.getElem?_eq_getElem (by simp [s']; omega)⟩
     have hcs : (cs.set c (.w s.x.length)).map (·.c η1) = cs.map (·.c η) := by
      apply List.ext_getElem?
      intro i
      rw [List.getElem?_map, List.getElem?_map]
      by_cases e : c = i
      ·subst e
       rw [List.getElem?_set_self (List.getElem?_eq_some_iff.1 hc).1, hc]
       simp [AC.c, η1, slV]
      ·rw [List.getElem?_set_ne e]
       cases hi : cs[i]? with
       | none => rfl
       | some x =>
        simp only [Option.map_some, Option.some.injEq]
        refine AC.c_congr fun q hq' => ?_
        obtain ⟨B2, hB2⟩ := hC.ob j _ hj q (List.mem_filterMap.2 ⟨x, List.mem_of_getElem? hi, hq'⟩)
        exact hη q (hlt q B2 hB2)
     have hmb : ∀ (k' : Nat) (B' : Bx) (g : Nat), s'.x[k']? = some B' → mb (η1 k') B'.o = some g → ∃ B0 : Bx, s.x[k']? = some B0 ∧ mb (η k') B0.o = some g := fun k' B' g hB hm => by
      rcases hgo k' B' hB with ⟨rfl, rfl⟩ | ⟨rfl, rfl⟩ | ⟨hne, hB⟩
      ·simp [mb, η1, Value.ownBlock] at hm
      ·rw [hη k' hjl] at hm; exact ⟨_, hj, hm⟩
      ·rw [hη k' hne] at hm; exact ⟨_, hB, hm⟩
     have hI : Im N W D ι0 s' η1 ι a w := by
      refine ⟨⟨fun t => ?_, fun t q hk => ?_, fun k' B' hB => ?_, fun k' B' hB i hi => ?_, fun k' k2 B' B2 g hB hB2 hm hm2 => ?_, fun k' B' g hB hm => ?_, hC.il, hC.ig, hC.iu, hC.st, hC.sz⟩, fun k' B' v hB hv => ?_⟩
      ·show _ = (s.at t).c η1
       rw [hC.tm t]
       refine (AV.c_congr fun q hk => ?_).symm
       obtain ⟨B, hB⟩ := hC.sc t q hk
       exact hη q (hlt q B hB)
      ·obtain ⟨B, hB⟩ := hC.sc t q hk
       exact hex q (Nat.le_of_lt (hlt q B hB))
      ·rcases hgo k' B' hB with ⟨rfl, rfl⟩ | ⟨rfl, rfl⟩ | ⟨hne, hB⟩
       ·refine ⟨fun e he => (by cases he), [], ?_, fun i e j d he => (by cases he)⟩
        simp only [η1, if_true]
        exact ⟨by simp, .inl ⟨rfl, rfl⟩⟩
       ·obtain ⟨b, h1, h2⟩ := hC.ok k' _ hj
        exact ⟨b, by rw [hη k' hjl]; exact h1, by rw [hcs]; exact h2⟩
       ·rw [hη k' hne]
        exact (hC.ok k' B' hB).stay (B := []) (Stay.refl [] w) (fun g hg => hg) (fun g hg => ⟨by simp, hC.il g hg⟩) (fun g _ => by simp) (fun j hj => by
         obtain ⟨B2, hB2⟩ := hC.ob k' B' hB j hj
         exact hη j (hlt j B2 hB2))
      ·rcases hgo k' B' hB with ⟨rfl, rfl⟩ | ⟨rfl, rfl⟩ | ⟨hne, hB⟩
       ·cases hi
       ·obtain ⟨x, hx, hxj⟩ := List.mem_filterMap.1 hi
        rcases List.mem_or_eq_of_mem_set hx with hx | hx
        ·obtain ⟨B2, hB2⟩ := hC.ob k' _ hj i (List.mem_filterMap.2 ⟨x, hx, hxj⟩)
         exact hex i (Nat.le_of_lt (hlt i B2 hB2))
        ·subst hx
         simp only [AC.j, Option.some.injEq] at hxj
         exact hex i (by omega)
       ·obtain ⟨B2, hB2⟩ := hC.ob k' B' hB i hi
        exact hex i (Nat.le_of_lt (hlt i B2 hB2))
      ·obtain ⟨B0, h1, h2⟩ := hmb k' B' g hB hm
       obtain ⟨B0', h1', h2'⟩ := hmb k2 B2 g hB2 hm2
       exact hC.ne k' k2 B0 B0' g h1 h1' h2 h2'
      ·obtain ⟨B0, h1, h2⟩ := hmb k' B' g hB hm
       exact hC.ni k' B0 g h1 h2
      ·rcases hgo k' B' hB with ⟨rfl, rfl⟩ | ⟨rfl, rfl⟩ | ⟨hne, hB⟩
       ·cases hv
       ·rw [hη k' hjl]; exact hK k' _ v hj hv
       ·rw [hη k' hne]; exact hK k' B' v hB hv
     obtain ⟨⟨η2, ι2, h0, h1⟩, h2, h3⟩ := pre_sound r s' η1 ι hr hq hI
     have hl' : s'.x.length = s.x.length + 1 := by simp [s']
     exact ⟨⟨η2, ι2, fun k hk => (h0 k (by rw [hl']; omega)).trans (hη k hk), h1⟩, Nat.le_trans (by omega) h2, fun i hi => List.mem_cons_of_mem _ (h3 i hi)⟩
    ·exact ⟨⟨η, ι, fun _ _ => rfl, h⟩, Nat.le_refl _, fun i hi => hi⟩
   ·exact ⟨⟨η, ι, fun _ _ => rfl, h⟩, Nat.le_refl _, fun i hi => hi⟩
  ·exact ⟨⟨η, ι, fun _ _ => rfl, h⟩, Nat.le_refl _, fun i hi => hi⟩
 | .v .. :: r, s, η, ι, _, _, h => ⟨⟨η, ι, fun _ _ => rfl, h⟩, Nat.le_refl _, fun i hi => hi⟩
 | .c .. :: r, s, η, ι, _, _, h => ⟨⟨η, ι, fun _ _ => rfl, h⟩, Nat.le_refl _, fun i hi => hi⟩
 | .m .. :: r, s, η, ι, _, _, h => ⟨⟨η, ι, fun _ _ => rfl, h⟩, Nat.le_refl _, fun i hi => hi⟩
 | .i .. :: r, s, η, ι, _, _, h => ⟨⟨η, ι, fun _ _ => rfl, h⟩, Nat.le_refl _, fun i hi => hi⟩
 | .l .. :: r, s, η, ι, _, _, h => ⟨⟨η, ι, fun _ _ => rfl, h⟩, Nat.le_refl _, fun i hi => hi⟩
 | .b .. :: r, s, η, ι, _, _, h => ⟨⟨η, ι, fun _ _ => rfl, h⟩, Nat.le_refl _, fun i hi => hi⟩
 | .a .. :: r, s, η, ι, _, _, h => ⟨⟨η, ι, fun _ _ => rfl, h⟩, Nat.le_refl _, fun i hi => hi⟩
 | .k .. :: r, s, η, ι, _, _, h => ⟨⟨η, ι, fun _ _ => rfl, h⟩, Nat.le_refl _, fun i hi => hi⟩
 | .f .. :: r, s, η, ι, _, _, h => ⟨⟨η, ι, fun _ _ => rfl, h⟩, Nat.le_refl _, fun i hi => hi⟩
theorem stepR_scope {c : Code} {b : Frame} {k : List Item} {cs : List Frame} {a : Act} {w : World} : step P (lone (b.atR a (.code (.scope c) :: k)) cs w) = .next (lone (b.atR a (.code c :: .inScope c :: k)) cs w) :=
 step_lone_go (by simp [stepG, stepG.exec, Frame.atR])
theorem stepR_inScope {c : Code} {b : Frame} {k : List Item} {cs : List Frame} {a : Act} {w : World} : step P (lone (b.atR a (.inScope c :: k)) cs w) = .next (lone (b.atR a k) cs w) :=
 step_lone_go (by simp [stepG, stepG.exec, Frame.atR])
theorem wpIn_scope {F : Fence} {n : Nat} {Q : Exit → Act → World → Prop} {c : Code} {a : Act} {w : World} (h : c.wpIn F n P (Exit.noGoto Q) a w) : (Code.scope c).wpIn F n P Q a w := by
 intro b k cs hro hb hr
 have h0 : (lone (b.atR a (.code (.scope c) :: k)) cs w).fenced P F := fenced_calm hb hr rfl
 obtain ⟨e, a₁, w₁, hq, harr⟩ := h b (.inScope c :: k) cs hro hb hr
 cases e with
 | normal => exact ⟨.normal, a₁, w₁, hq, .head h0 stepR_scope (StepsIn.trans harr (.one (fenced_calm hb hr rfl) stepR_inScope))⟩
 | exit id =>
  have hx : exitTo id (.inScope c :: k) = exitTo id k := by simp [exitTo]
  exact ⟨.exit id, a₁, w₁, hq, ArrivesIn.of_steps (.one h0 stepR_scope) ⟨fun k' hk => harr.1 k' (by rw [hx]; exact hk), fun hs hn => harr.2 hs (by rw [hx]; exact hn)⟩⟩
 | goto l => exact hq.elim
 | ret => exact ⟨_, a₁, w₁, hq, .of_steps (.one h0 stepR_scope) harr⟩
 | panic ch => exact ⟨_, a₁, w₁, hq, .of_steps (.one h0 stepR_scope) harr⟩
 | outgrown => exact ⟨_, a₁, w₁, hq, .of_steps (.one h0 stepR_scope) harr⟩
def Post (P : Program) (m : Nat) (r0 : Option Nat) (Q : Exit → Act → World → Prop) : List Kt → Exit → Act → World → Prop
 | [] => Q
 | .c c :: k => Exit.then (fun a w => c.wpIn (WF r0) m P (Post P m r0 Q k) a w) (Post P m r0 Q k)
 | .b id :: k => Exit.inBlock id (Post P m r0 Q k)
 | .g :: k => Exit.noGoto (Post P m r0 Q k)
 | .a K :: k => Exit.then K (Post P m r0 Q k)
theorem post_lets {Q : Exit → Act → World → Prop} (h : ¬ LetsOut Q) : ∀ k, ¬ LetsOut (Post P m r0 Q k)
 | [] => h
 | .c c :: k => fun ⟨a, w, h1⟩ => post_lets h k ⟨a, w, h1⟩
 | .b id :: k => fun ⟨a, w, h1⟩ => post_lets h k ⟨a, w, h1⟩
 | .g :: k => fun ⟨a, w, h1⟩ => post_lets h k ⟨a, w, h1⟩
 | .a K :: k => fun ⟨a, w, h1⟩ => post_lets h k ⟨a, w, h1⟩
theorem post_ret {Q : Exit → Act → World → Prop} {a : Act} {w : World} (h : Q .ret a w) : ∀ k, Post P m r0 Q k .ret a w
 | [] => h
 | .c c :: k => post_ret h k
 | .b id :: k => post_ret h k
 | .g :: k => post_ret h k
 | .a K :: k => post_ret h k
theorem post_exit {Q : Exit → Act → World → Prop} {a : Act} {w : World} {id : Nat} : ∀ (k : List Kt), (∀ k', unw id k = some k' → Post P m r0 Q k' .normal a w → Post P m r0 Q k (.exit id) a w) ∧ (unw id k = none → Q (.exit id) a w → Post P m r0 Q k (.exit id) a w)
 | [] => ⟨fun k' h => (by cases h), fun _ h => h⟩
 | .c c :: k => ⟨fun k' h h' => (post_exit k).1 k' h h', fun h h' => (post_exit k).2 h h'⟩
 | .a K :: k => ⟨fun k' h h' => (post_exit k).1 k' h h', fun h h' => (post_exit k).2 h h'⟩
 | .g :: k => ⟨fun k' h h' => (post_exit k).1 k' h h', fun h h' => (post_exit k).2 h h'⟩
 | .b j :: k => by
  cases hj : Nat.beq j id with
  | true =>
   have e := Nat.eq_of_beq_eq_true hj
   subst e
   refine ⟨fun k' h h' => ?_, fun h _ => ?_⟩
   ·simp only [unw, hj, cond_true, Option.some.injEq] at h
    subst h
    simp only [Post, Exit.inBlock, if_true]; exact h'
   ·simp only [unw, hj, cond_true] at h; cases h
  | false =>
   have hne : ¬ id = j := fun e => by rw [e] at hj; simp at hj
   refine ⟨fun k' h h' => ?_, fun h h' => ?_⟩
   ·simp only [unw, hj, cond_false] at h
    simp only [Post, Exit.inBlock, hne, if_false]
    exact (post_exit k).1 k' h h'
   ·simp only [unw, hj, cond_false] at h
    simp only [Post, Exit.inBlock, hne, if_false]
    exact (post_exit k).2 h h'
def Stp (P : Program) (m : Nat) (r0 : Option Nat) (Q : Exit → Act → World → Prop) : Ex → List Kt → Act → World → Prop
 | .n, k, a, w => Post P m r0 Q k .normal a w
 | .e id, _, a, w => Q (.exit id) a w
 | .r, _, a, w => Q .ret a w
theorem rk_sound (hm : P.follows .mixedOrders = true) {tg : List Nat} {Q : Exit → Act → World → Prop} (hL : ¬ LetsOut Q) : ∀ (n : Nat) (ks : List Kt) (s : St) (it : List It) (R : RK), rk P N tg n ks s it = some R → (∀ i ∈ it, ItOk P W D (FnP P) i) → Eqs R.q →
  ∀ {η : Nat → Value} {ι : Nat → Prop} {a : Act} {w : World}, Im N W D ι0 s η ι a w → (∀ η' ι' a' w', a'.defers = a.defers → s.x.length ≤ R.s.x.length → (∀ k, k < s.x.length → η' k = η k) → Im N W D ι0 R.s η' ι' a' w' → Stp P m r0 Q R.e R.k a' w') → Post P m r0 Q ks .normal a w := by
 intro n
 induction n with
 | zero => intro ks s it R h; cases h
 | succ n ih =>
  intro ks s it R h hit hq η ι a w hI hQ
  have stop : ∀ {e : Ex} {k : List Kt}, stopK e k 1000 s it = some R → Stp P m r0 Q e k a w := fun {e k} h => by
   unfold stopK at h
   cases h
   obtain ⟨⟨η', ι', h0, h1⟩, h2, _⟩ := pre_sound it s η ι hit hq hI
   exact hQ η' ι' a w rfl h2 h0 h1
  cases ks with
  | nil => exact stop h
  | cons k0 k =>
   cases k0 with
   | b id =>
    simp only [rk] at h
    simp only [Post, Exit.inBlock]
    exact ih k s it R h hit hq hI hQ
   | g =>
    simp only [rk] at h
    exact ih k s it R h hit hq hI hQ
   | a K => exact stop h
   | c c =>
    have hLk := post_lets (P := P) (m := m) (r0 := r0) hL k
    simp only [rk] at h
    show c.wpIn (WF r0) m P (Post P m r0 Q k) a w
    cases c with
    | skip => exact wpIn_skip (ih k s it R h hit hq hI hQ)
    | ret => exact wpIn_ret (post_ret (stop h) k)
    | exit id =>
     refine wpIn_exit ?_
     simp only at h
     split at h
     ·rename_i k' hk'
      exact (post_exit k).1 k' hk' (ih k' s it R h hit hq hI hQ)
     ·rename_i hk'
      exact (post_exit k).2 hk' (stop h)
    | seq x y => exact wpIn_seq (ih (.c x :: .c y :: k) s it R h hit hq hI hQ)
    | block id b => exact wpIn_block (ih (.c b :: .b id :: k) s it R h hit hq hI hQ)
    | scope b => exact wpIn_scope (ih (.c b :: .g :: k) s it R h hit hq hI hQ)
    | label l => exact wpIn_label (ih k s it R h hit hq hI hQ)
    | cond x y z =>
     have hx : a.eval x = (s.ov x).c η := by
      cases x with
      | tmp t => exact hI.1.tm t
      | const v => rfl
      | global g => rfl
      | func f => rfl
     simp only at h
     split at h
     ·rename_i hv
      exact wpIn_cond_true (by rw [hx, hv]; rfl) (ih (.c y :: k) s it R h hit hq hI hQ)
     ·rename_i hv
      exact wpIn_cond_false (by rw [hx, hv]; rfl) (ih (.c z :: k) s it R h hit hq hI hQ)
     ·cases h
    | loop b =>
     simp only [cond_eq_ite] at h
     split at h
     ·exact stop h
     ·cases h
    | rangeFunc f ps x y =>
     simp only [cond_eq_ite] at h
     split at h
     ·exact stop h
     ·cases h
    | region id ops dr =>
     simp only [cond_eq_ite] at h
     split at h
     ·exact stop h
     ·split at h
      ·rename_i T hT
       split at h
       ·rename_i hok
        unfold addK at h
        split at h
        ·rename_i R1 hR1
         cases h
         obtain ⟨⟨η1, ι', h0, h1⟩, h2, h3⟩ := pre_sound it s η ι hit hq.left.left hI
         have hit' : ∀ i ∈ (pre id s it).2.1, ItOk P W D (FnP P) i := fun i hi => hit i (h3 i hi)
         refine reg_sound hm hT hok hit' hq.left.right hLk h1 fun η' ι2 a' w' hd hlen hg hI' => ?_
         refine ih k T.s T.it R1 hR1 (fun i hi => hit' i ((rl_spec _ _ _ _ hit' hT).2.2.2 i hi)) hq.right hI' fun η3 ι3 a3 w3 hd3 hl3 hg3 hI3 => ?_
         exact hQ η3 ι3 a3 w3 (hd3.trans hd) (Nat.le_trans h2 (Nat.le_trans hlen hl3)) (fun j hj => (hg3 j (Nat.lt_of_lt_of_le hj (Nat.le_trans h2 hlen))).trans ((hg j (Nat.lt_of_lt_of_le hj h2)).trans (h0 j hj))) hI3
        ·cases h
       ·cases h
      ·cases h
    | _ => simp only at h; cases h
end
end Go.Eo
namespace Go.Eo
open Go Go.RowKit Go.Rg
section
variable {P : Program} {W : World} {D : Nat → Prop}
inductive Its (P : Program) (W : World) (D : Nat → Prop) : List It → Prop where
 | nil : Its P W D []
 | v {l : List It} {x y : Value} (t : Nat) (h : x = y) (r : Its P W D l) : Its P W D (.v t x y :: l)
 | c {l : List It} {f : FuncId} {args : Array Value} {r : Value} (t : Nat) (h : ∀ w, Calls P f args w fun e w' => e = .returned r ∧ Below w.heap.size w w') (k : Its P W D l) : Its P W D (.c t f args r :: l)
 | m {l : List It} {q : Sem Next} {r : Value} (t : Nat) (h : ∀ w, Keep D W w → q.run P w = .ok (.value r) w) (k : Its P W D l) : Its P W D (.m t q r :: l)
 | i {l : List It} {z : Int} {n len : Nat} (t : Nat) (h : z = n) (h2 : n < len) (k : Its P W D l) : Its P W D (.i t z n len :: l)
 | l {l : List It} {es : List (List Dt)} {n : Nat} {e : List Dt} (t : Nat) (h : es[n]? = some e) (k : Its P W D l) : Its P W D (.l t es n e :: l)
 | b {k : List It} {lo hi : Int} {l h len : Nat} (t : Nat) (own : Bool) (h1 : lo = l) (h2 : hi = h) (h3 : l ≤ h) (h4 : h ≤ len) (r : Its P W D k) : Its P W D (.b t own lo hi l h len :: k)
 | a {l : List It} {n bytes : Nat} (t : Nat) (h1 : n ≤ maxLen) (h2 : n * bytes ≤ 140737488355328) (k : Its P W D l) : Its P W D (.a t n bytes :: l)
 | k {l : List It} {z : Int} {n bytes : Nat} (t len : Nat) (h0 : z = n) (h1 : n ≤ maxLen) (h2 : n * bytes ≤ 140737488355328) (h3 : len ≤ n) (k : Its P W D l) : Its P W D (.k t len z n bytes :: l)
 | z {l : List It} (t j : Nat) (k : Its P W D l) : Its P W D (.z t j :: l)
 | n {l : List It} (t u T z : Nat) (k : Its P W D l) : Its P W D (.n t u T z :: l)
 | q {l : List It} (t j c T z : Nat) (k : Its P W D l) : Its P W D (.q t j c T z :: l)
 | o {l : List It} {x y : Ob} (t j : Nat) (h : x = y) (k : Its P W D l) : Its P W D (.o t j x y :: l)
 | f {l : List It} {fid : FuncId} {obs : List Ob} {args : List AV} {obs' ns : List Ob} {r : AV} (t : Nat) (js ks : List Nat) (h : FnP P fid obs args obs' ns r) (k : Its P W D l) : Its P W D (.f t fid js ks obs args obs' ns r :: l)
theorem Its.all {it : List It} (h : Its P W D it) : ∀ i ∈ it, ItOk P W D (FnP P) i := by
 induction h with
 | nil => intro i hi; cases hi
 | v t h r ih => exact List.forall_mem_cons.2 ⟨h, ih⟩
 | c t h r ih => exact List.forall_mem_cons.2 ⟨fun w _ => h w, ih⟩
 | m t h r ih => exact List.forall_mem_cons.2 ⟨h, ih⟩
 | i t h h2 r ih => exact List.forall_mem_cons.2 ⟨⟨h, h2⟩, ih⟩
 | l t h r ih => exact List.forall_mem_cons.2 ⟨h, ih⟩
 | b t own h1 h2 h3 h4 r ih => exact List.forall_mem_cons.2 ⟨⟨h1, h2, h3, h4⟩, ih⟩
 | a t h1 h2 r ih => exact List.forall_mem_cons.2 ⟨⟨h1, h2⟩, ih⟩
 | k t len h0 h1 h2 h3 r ih => exact List.forall_mem_cons.2 ⟨⟨h0, h1, h2, h3⟩, ih⟩
 | z t j r ih => exact List.forall_mem_cons.2 ⟨trivial, ih⟩
 | n t u T z r ih => exact List.forall_mem_cons.2 ⟨trivial, ih⟩
 | q t j c T z r ih => exact List.forall_mem_cons.2 ⟨trivial, ih⟩
 | o t j h r ih => exact List.forall_mem_cons.2 ⟨h, ih⟩
 | f t js ks h r ih => exact List.forall_mem_cons.2 ⟨h, ih⟩
theorem eqs_of {q : List (Cl × Cl)} (h : q.map (·.1) = q.map (·.2)) : Eqs q := fun p hp => List.map_inj_left.1 h p hp
structure Cx where
 W : World
 D : Nat → Prop
 ι0 : Nat → Prop
 η0 : Nat → Value
 df : List Deferred
 m : Nat
 r0 : Option Nat
structure Fx where
 Q : Cx → Exit → Act → World → Prop
 L : ∀ C, ¬ LetsOut (Q C)
def Good (P : Program) (N n0 : Nat) (F : Fx) (C : Cx) (ks : List Kt) (s : St) : Prop := ∀ η ι a w, a.defers = C.df → (∀ k, k < n0 → η k = C.η0 k) → Im N C.W C.D C.ι0 s η ι a w → Post P C.m C.r0 (F.Q C) ks .normal a w
def mkX (X : List Ob) : List Bx := X.map fun o => ⟨none, o⟩
def sj (js : List Nat) (i : Nat) : Nat := js.getD i 0
def inB (n : Nat) (l : List Nat) : Bool := l.all fun k => Nat.ble (k + 1) n
def isDead : Ob → Bool
 | .dead => true
 | _ => false
def live : List Nat → List Ob → List Nat
 | j :: js, o :: X => bif isDead o then live js X else j :: live js X
 | _, _ => []
def obj (s : St) : List Nat → List Ob → List (Option Ob)
 | j :: js, o :: X => (bif isDead o then some .dead else s.ob j) :: obj s js X
 | _, _ => []
theorem live_inj : ∀ {js : List Nat} {X : List Ob}, nodupN (live js X) = true → ∀ (i i' j : Nat) (o o' : Ob), js[i]? = some j → js[i']? = some j → X[i]? = some o → X[i']? = some o' → isDead o = false → isDead o' = false → i = i'
 | [], _, _, i, i', j, o, o', h, _, _, _, _, _ => by cases h
 | _ :: _, [], _, i, i', j, o, o', _, _, h, _, _, _ => by cases h
 | x :: js, u :: X, hn, i, i', j, o, o', h, h', ho, ho', hd, hd' => by
  have mem : ∀ {js : List Nat} {X : List Ob} {i j : Nat} {o : Ob}, js[i]? = some j → X[i]? = some o → isDead o = false → j ∈ live js X := by
   intro js
   induction js with
   | nil => intro X i j o h; cases h
   | cons y js ih =>
    intro X i j o h ho hd
    cases X with
    | nil => cases ho
    | cons v X =>
     unfold live
     cases i with
     | zero =>
      simp only [List.getElem?_cons_zero, Option.some.injEq] at h ho
      subst h ho
      rw [hd]; exact List.mem_cons_self ..
     | succ i =>
      have := ih (X := X) (i := i) (by simpa using h) (by simpa using ho) hd
      rw [cond_eq_ite]
      split
      ·exact this
      ·exact List.mem_cons_of_mem _ this
  unfold live at hn
  have tl : nodupN (live js X) = true := by
   rw [cond_eq_ite] at hn
   split at hn
   ·exact hn
   ·simp only [nodupN, Bool.and_eq_true] at hn; exact hn.2
  have hx : isDead u = false → x ∉ live js X := fun hu hm => by
   rw [hu] at hn
   simp only [cond_false, nodupN, Bool.and_eq_true, List.all_eq_true, Bool.not_eq_true'] at hn
   have := hn.1 x hm
   simp at this
  cases i with
  | zero =>
   simp only [List.getElem?_cons_zero, Option.some.injEq] at h ho
   subst h ho
   cases i' with
   | zero => rfl
   | succ i' => exact absurd (mem (by simpa using h') (by simpa using ho') hd') (hx hd)
  | succ i =>
   cases i' with
   | zero =>
    simp only [List.getElem?_cons_zero, Option.some.injEq] at h' ho'
    subst h' ho'
    exact absurd (mem (by simpa using h) (by simpa using ho) hd) (hx hd')
   | succ i' => rw [live_inj tl i i' j o o' (by simpa using h) (by simpa using h') (by simpa using ho) (by simpa using ho') hd hd']
theorem obj_get {s : St} : ∀ {js : List Nat} {X Y : List Ob}, obj s js X = Y.map some → js.length = X.length → X.length = Y.length → ∀ (k j : Nat) (o o' : Ob), js[k]? = some j → X[k]? = some o → Y[k]? = some o' → isDead o = false → s.ob j = some o'
 | [], _, _, _, _, _, k, j, o, o', h, _, _, _ => by cases h
 | _ :: _, [], _, _, h, _, _, _, _, _, _, _, _, _ => by cases h
 | _ :: _, _ :: _, [], _, _, h, _, _, _, _, _, _, _, _ => by cases h
 | x :: js, u :: X, v :: Y, he, h1, h2, k, j, o, o', h, ho, ho', hd => by
  simp only [obj, List.map_cons, List.cons.injEq] at he
  cases k with
  | zero =>
   simp only [List.getElem?_cons_zero, Option.some.injEq] at h ho ho'
   subst h ho ho'
   rw [hd] at he
   exact he.1
  | succ k => exact obj_get he.2 (by simpa using h1) (by simpa using h2) k j o o' (by simpa using h) (by simpa using ho) (by simpa using ho') hd
def cutB (n0 : Nat) (js : List Nat) (L : List (Nat × AV)) (X : List Ob) : Bool :=
 nodupN (live js X) && (Nat.beq js.length X.length && (Nat.ble n0 js.length && ((js.take n0 == rgF 0 n0) && (L.all (fun p => inB X.length p.2.js) && X.all (fun o => inB X.length o.js)))))
def lhs (o : Option RK) (js : List Nat) (L : List (Nat × AV)) (X : List Ob) : List Cl × List Kt × List AV × List (Option Ob) × Bool := match o with
 | some R => (R.q.map (·.1), R.k, L.map (fun p => R.s.at p.1), obj R.s js X, true)
 | none => ([], [], [], [], true)
def rhs (o : Option RK) (js : List Nat) (ks : List Kt) (L : List (Nat × AV)) (X : List Ob) : List Cl × List Kt × List AV × List (Option Ob) × Bool := match o with
 | some R => (R.q.map (·.2), ks, L.map (fun p => p.2.rn (sj js)), (X.map (fun o => o.rn (sj js))).map some, match R.e with
  | .n => true
  | _ => false)
 | none => ([], [], [], [], false)
theorem inB_lt {n : Nat} {l : List Nat} (h : inB n l = true) : ∀ k ∈ l, k < n := fun k hk => by
 unfold inB at h
 rw [List.all_eq_true] at h
 exact Nat.le_of_ble_eq_true (h k hk)
theorem rgF_get : ∀ (n m i : Nat), i < n → (rgF m n)[i]? = some (m + i)
 | 0, _, _, h => by omega
 | n + 1, m, 0, _ => rfl
 | n + 1, m, i + 1, h => by rw [rgF, List.getElem?_cons_succ, rgF_get n (m + 1) i (by omega)]; congr 1; omega
theorem lk_in {d : Nat → Value} {t : Nat} : ∀ (L : List (Nat × AV)), (∃ v, (t, v) ∈ L ∧ lk d L t = v) ∨ lk d L t = .a (.v (d t))
 | [] => .inr rfl
 | (k, v) :: L => by
  simp only [lk]
  cases h : Nat.beq k t with
  | true => have := Nat.eq_of_beq_eq_true h; subst this; exact .inl ⟨v, List.mem_cons_self .., rfl⟩
  | false =>
   rcases lk_in (d := d) (t := t) L with ⟨v', h1, h2⟩ | h1
   ·exact .inl ⟨v', List.mem_cons_of_mem _ h1, h2⟩
   ·exact .inr h1
theorem map_mem {α β : Type} {f g : α → β} : ∀ {l : List α}, l.map f = l.map g → ∀ x ∈ l, f x = g x := fun h x hx => List.map_inj_left.1 h x hx
theorem cut_sound {N n0 : Nat} {ι0 : Nat → Prop} {s : St} {js : List Nat} {L : List (Nat × AV)} {X : List Ob} (hb : cutB n0 js L X = true) (h1 : L.map (fun p => s.at p.1) = L.map (fun p => p.2.rn (sj js))) (h2 : obj s js X = (X.map (fun o => o.rn (sj js))).map some)
  {η : Nat → Value} {ι : Nat → Prop} {a : Act} {w : World} (hI : Im N W D ι0 s η ι a w) : Im N W D ι0 ⟨fun t => a.tmps.getD t undef, L, mkX X⟩ (fun i => η (sj js i)) ι a w ∧ ∀ k, k < n0 → sj js k = k := by
 unfold cutB at hb
 simp only [Bool.and_eq_true, List.all_eq_true] at hb
 obtain ⟨b1, b2, b3, b4, b5, b6⟩ := hb
 have b2 := Nat.eq_of_beq_eq_true b2
 have b3 := Nat.le_of_ble_eq_true b3
 have b4 : js.take n0 = rgF 0 n0 := by simpa using b4
 obtain ⟨hC, hK⟩ := hI
 have hx : ∀ (k : Nat) (B : Bx), (mkX X)[k]? = some B → ∃ ob : Ob, X[k]? = some ob ∧ B = ⟨none, ob⟩ ∧ (isDead ob = true ∨ (isDead ob = false ∧ ∃ (j : Nat) (B0 : Bx), js[k]? = some j ∧ sj js k = j ∧ s.x[j]? = some B0 ∧ B0.o = ob.rn (sj js))) := fun k B hB => by
  unfold mkX at hB
  rw [List.getElem?_map] at hB
  cases ho : X[k]? with
  | none => rw [ho] at hB; cases hB
  | some ob =>
   rw [ho] at hB; cases hB
   refine ⟨ob, rfl, rfl, ?_⟩
   cases hd : isDead ob with
   | true => exact .inl rfl
   | false =>
    have hk := (List.getElem?_eq_some_iff.1 ho).1
    have hj : js[k]? = some js[k] := List.getElem?_eq_getElem (by omega)
    have := obj_get h2 b2 (by simp) k _ ob (ob.rn (sj js)) hj ho (by rw [List.getElem?_map, ho]; rfl) hd
    obtain ⟨B0, h3, h4⟩ := ob_x this
    exact .inr ⟨rfl, js[k], B0, hj, by simp [sj, List.getD_eq_getElem?_getD, hj], h3, h4⟩
 have dead : ∀ {ob : Ob}, isDead ob = true → ob = .dead := fun {ob} h => by cases ob <;> first | rfl | cases h
 have hex : ∀ k, k < X.length → ∃ B, (mkX X)[k]? = some B := fun k hk => ⟨_, List.getElem?_eq_getElem (by simpa [mkX] using hk)⟩
 refine ⟨⟨⟨fun t => ?_, fun t k hk => ?_, fun k B hB => ?_, fun k B hB j hj => ?_, fun k k' B B' g hB hB' hm hm' => ?_, fun k B g hB hm => ?_, hC.il, hC.ig, hC.iu, hC.st, hC.sz⟩, fun k B v hB hv => ?_⟩, fun k hk => ?_⟩
 ·show _ = (lk _ L t).c _
  rcases lk_in (d := fun t => a.tmps.getD t undef) (t := t) L with ⟨v, h3, h4⟩ | h3
  ·rw [h4, hC.tm t]
   have := map_mem h1 _ h3
   simp only at this
   rw [this, av_rn]
  ·rw [h3]; rfl
 ·have hk : k ∈ (lk (fun t => a.tmps.getD t undef) L t).js := hk
  rcases lk_in (d := fun t => a.tmps.getD t undef) (t := t) L with ⟨v, h3, h4⟩ | h3
  ·rw [h4] at hk
   exact hex k (inB_lt (b5 _ h3) k hk)
  ·rw [h3] at hk; simp [AV.js, AC.j] at hk
 ·obtain ⟨ob, e1, rfl, hd | ⟨hd, j, B0, e3, e4, e5, e6⟩⟩ := hx k B hB
  ·rw [dead hd]; trivial
  ·have := hC.ok j B0 e5
   rw [e6] at this
   simp only [e4]
   exact ook_rn.1 this
 ·obtain ⟨ob, e1, rfl, _⟩ := hx k B hB
  exact hex j (inB_lt (b6 ob (List.mem_of_getElem? e1)) j hj)
 ·obtain ⟨ob, e1, rfl, hd | ⟨hd, j, B0, e3, e4, e5, e6⟩⟩ := hx k B hB
  ·rw [dead hd] at hm; cases hm
  ·obtain ⟨ob', e1', rfl, hd' | ⟨hd', j', B0', e3', e4', e5', e6'⟩⟩ := hx k' B' hB'
   ·rw [dead hd'] at hm'; cases hm'
   ·simp only [e4] at hm
    simp only [e4'] at hm'
    have := hC.ne j j' B0 B0' g e5 e5' (by rw [e6, mb_rn]; exact hm) (by rw [e6', mb_rn]; exact hm')
    subst this
    exact live_inj b1 k' k j' ob' ob e3' e3 e1' e1 hd' hd
 ·obtain ⟨ob, e1, rfl, hd | ⟨hd, j, B0, e3, e4, e5, e6⟩⟩ := hx k B hB
  ·rw [dead hd] at hm; cases hm
  ·simp only [e4] at hm
   exact hC.ni j B0 g e5 (by rw [e6, mb_rn]; exact hm)
 ·obtain ⟨ob, e1, rfl, _⟩ := hx k B hB
  cases hv
 ·have : (js.take n0)[k]? = some k := by rw [b4, rgF_get n0 0 k hk, Nat.zero_add]
  rw [List.getElem?_take, if_pos hk] at this
  simp [sj, List.getD_eq_getElem?_getD, this]
theorem go {N n0 : Nat} {F : Fx} {C : Cx} {ks : List Kt} {s : St} {it : List It} (hm : P.follows .mixedOrders = true) (hl : Nat.ble n0 s.x.length = true) (tg : List Nat) (n : Nat) {ks' : List Kt} (hits : Its P C.W C.D it) (js : List Nat) (L : List (Nat × AV)) (X : List Ob)
  (h : lhs (rk P N tg n ks s it) js L X = rhs (rk P N tg n ks s it) js ks' L X) (hb : cutB n0 js L X = true) (hn : ∀ d, Good P N n0 F C ks' ⟨d, L, mkX X⟩) : Good P N n0 F C ks s := by
 intro η ι a w hd hη hI
 have hl := Nat.le_of_ble_eq_true hl
 cases hr : rk P N tg n ks s it with
 | none => rw [hr] at h; simp [lhs, rhs] at h
 | some R =>
  rw [hr] at h
  simp only [lhs, rhs, Prod.mk.injEq] at h
  obtain ⟨h1, h2, h3, h4, h5⟩ := h
  refine rk_sound hm (F.L C) n ks s it R hr hits.all (eqs_of h1) hI fun η' ι' a' w' hd' hlen hg hI' => ?_
  obtain ⟨h6, h7⟩ := cut_sound hb h3 h4 hI'
  have he : R.e = .n := by
   revert h5
   cases R.e <;> simp
  rw [he, h2]
  exact hn _ _ ι' a' w' (hd'.trans hd) (fun k hk => by simp only [h7 k hk]; rw [hg k (by omega)]; exact hη k hk) h6
def endB : Ex → List Kt → Bool
 | .r, _ => true
 | .n, [] => true
 | _, _ => false
def lhsR (P : Program) (o : Option RK) (res : List ResultVar) (js : List Nat) (X : List Ob) : List Cl × Option AV × List (Option Ob) × Bool := match o with
 | some R => (R.q.map (·.1), resV P R.s res, obj R.s js X, endB R.e R.k)
 | none => ([], none, [], true)
def rhsR (o : Option RK) (js : List Nat) (r : AV) (X : List Ob) : List Cl × Option AV × List (Option Ob) × Bool := match o with
 | some R => (R.q.map (·.2), some (r.rn (sj js)), (X.map (fun o => o.rn (sj js))).map some, true)
 | none => ([], none, [], false)
def res1 (a : Act) : ResultVar → Sem Value
 | .tmp t => pure (a.tmps.getD t undef)
 | .cell k T => do loadVar T (← asAddr (a.tmps.getD k undef))
theorem res1_run {N : Nat} {ι0 : Nat → Prop} {s : St} {η : Nat → Value} {ι : Nat → Prop} {a : Act} {w : World} (hI : Im N W D ι0 s η ι a w) {r : ResultVar} {v : AV} (hv : resOf P s r = some v) : (res1 a r).run P w = .ok (v.c η) w := by
 cases r with
 | tmp t =>
  simp only [resOf] at hv
  cases hv
  unfold res1
  rw [← hI.1.tm t]; rfl
 | cell t T =>
  simp only [resOf] at hv
  split at hv
  ·rename_i k o hk
   split at hv
   ·rename_i c T' hB
    have h1 := hI.1.tm t
    rw [hk] at h1
    obtain ⟨B, hB1, hB2⟩ := ob_x hB
    have hok := hI.1.ok k B hB1
    rw [hB2] at hok
    obtain ⟨b, hb1, hb2⟩ := hok
    have hrun := (run_ldv (P := P) (η := η) (b := b) (off := 0) (w := w) hv (fun j x hx => by rw [Nat.zero_add]; exact hb2.cell (by simp [hx]))).1
    rw [Nat.zero_add] at hrun
    generalize v.c η = vv at hrun ⊢
    unfold res1
    simp only [h1, AV.c, AC.c, ptrAt, hb1, blk, asAddr, Sem.run_bind]
    simpa [Instr.loadAt, Instr.sureAddr, Sem.run_bind] using hrun
   ·cases hv
  ·cases hv
theorem resL_run {N : Nat} {ι0 : Nat → Prop} {s : St} {η : Nat → Value} {ι : Nat → Prop} {a : Act} {w : World} (hI : Im N W D ι0 s η ι a w) : ∀ (l : List ResultVar) (vs : List AV), resL P s l = some vs → (l.mapM (res1 a)).run P w = .ok (vs.map (·.c η)) w
 | [], vs, h => by cases h; rfl
 | r :: l, vs, h => by
  unfold resL at h
  split at h
  ·rename_i v hv
   split at h
   ·rename_i vs' hl
    cases h
    rw [List.mapM_cons]
    simp only [Sem.run_bind, res1_run hI hv, Result.andThen_ok, resL_run hI l vs' hl]
    rfl
   ·cases h
  ·cases h
theorem vvL_c {η : Nat → Value} : ∀ {l : List AV} {xs : List Value}, vvL l = some xs → l.map (·.c η) = xs
 | [], xs, h => by cases h; rfl
 | .a (.v x) :: l, xs, h => by
  unfold vvL at h
  split at h
  ·rename_i r hr; cases h; rw [List.map_cons, vvL_c hr]; rfl
  ·cases h
 | .a (.p _ _) :: l, xs, h => by cases h
 | .a (.s _ _ _ _) :: l, xs, h => by cases h
 | .a (.w _) :: l, xs, h => by cases h
 | .a (.e _ _ _ _) :: l, xs, h => by cases h
 | .g _ :: l, xs, h => by cases h
 | .t _ :: l, xs, h => by cases h
 | .f _ _ _ :: l, xs, h => by cases h
theorem agL_c {η : Nat → Value} : ∀ {l : List AV} {xs : List AG}, agL l = some xs → l.map (·.c η) = xs.map (·.c η)
 | [], xs, h => by cases h; rfl
 | .a x :: l, xs, h => by
  unfold agL at h
  split at h
  ·rename_i r hr; cases h; rw [List.map_cons, List.map_cons, agL_c hr]; rfl
  ·cases h
 | .g x :: l, xs, h => by
  unfold agL at h
  split at h
  ·rename_i r hr; cases h; rw [List.map_cons, List.map_cons, agL_c hr]; rfl
  ·cases h
 | .t _ :: l, xs, h => by cases h
 | .f _ _ _ :: l, xs, h => by cases h
theorem res_run {N : Nat} {ι0 : Nat → Prop} {s : St} {η : Nat → Value} {ι : Nat → Prop} {a : Act} {w : World} (hI : Im N W D ι0 s η ι a w) {fn : Func} {v : AV} (h : resV P s fn.results.toList = some v) : (results fn a.tmps).run P w = .ok (v.c η) w := by
 have hr : results fn a.tmps = (do let vs ← fn.results.mapM (res1 a); pure (if h : vs.size = 1 then vs[0] else .tuple vs)) := by
  unfold results
  have : (fun r : ResultVar => (match r with | .tmp t => (pure (a.tmps.getD t undef) : Sem Value) | .cell k t => do loadVar t (← asAddr (a.tmps.getD k undef)))) = res1 a := funext fun r => by cases r <;> rfl
  rw [← this]
  rfl
 rw [hr, Array.mapM_eq_mapM_toList]
 unfold resV at h
 split at h
 ·rename_i v' hl
  cases h
  have := resL_run hI _ _ hl
  simp only [Sem.run_bind, Sem.run_map, this]
  simp
 ·rename_i vs hne hl
  have := resL_run hI _ _ hl
  have hsz : ¬ vs.length = 1 := fun e => by
   match vs, e with
   | [v], _ => exact hne v rfl
  have go : ∀ v : AV, v.c η = .tuple (vs.map (·.c η)).toArray → (do let vs ← (Array.mk <$> List.mapM (res1 a) fn.results.toList : Sem (Array Value)); pure (if h : vs.size = 1 then vs[0] else .tuple vs) : Sem Value).run P w = .ok (v.c η) w := fun v e => by
   simp only [Sem.run_bind, Sem.run_map, this]
   simp [hsz, e]
  split at h
  ·rename_i xs hx
   cases h
   exact go _ (by rw [vvL_c hx]; rfl)
  ·split at h
   ·rename_i r hr'
    cases h
    exact go _ (by rw [agL_c hr']; rfl)
   ·cases h
 ·cases h
end
end Go.Eo
namespace Go.Eo
open Go Go.RowKit Go.Rg
section
variable {P : Program}
def finQ (P : Program) (fn : Func) (n0 : Nat) (X : List Ob) (r : AV) (C : Cx) (e : Exit) (a : Act) (w : World) : Prop :=
 (e = .ret ∨ e = .normal) ∧ a.defers = C.df ∧ ∃ v, (results fn a.tmps).run P w = .ok v w ∧ ∃ η' ι', v = r.c η' ∧ (∀ j, j < n0 → η' j = C.η0 j) ∧ Mem η' ι' w X ∧ Keep C.D C.W w ∧ (∀ g, C.ι0 g → ι' g) ∧ (∀ g, ι' g → C.ι0 g ∨ C.D g ∨ C.W.heap.size ≤ g) ∧
  ∀ g, Muts η' X g → C.D g ∨ C.W.heap.size ≤ g
def finF (P : Program) (fn : Func) (n0 : Nat) (X : List Ob) (r : AV) : Fx := ⟨finQ P fn n0 X r, fun C ⟨a, w, h⟩ => by rcases h.1 with h | h <;> cases h⟩
theorem mkX_get {X : List Ob} {k : Nat} {ob : Ob} (h : X[k]? = some ob) : (mkX X)[k]? = some ⟨none, ob⟩ := by unfold mkX; rw [List.getElem?_map, h]; rfl
theorem done {N n0 : Nat} {fn : Func} {X : List Ob} {r : AV} {C : Cx} {ks : List Kt} {s : St} {it : List It} (hm : P.follows .mixedOrders = true) (hl : Nat.ble n0 s.x.length = true) (n : Nat) (hits : Its P C.W C.D it) (js : List Nat)
  (h : lhsR P (rk P N [] n ks s it) fn.results.toList js X = rhsR (rk P N [] n ks s it) js r X) (hb : cutB n0 js [(0, r)] X = true) : Good P N n0 (finF P fn n0 X r) C ks s := by
 intro η ι a w hd hη hI
 have hl := Nat.le_of_ble_eq_true hl
 cases hr : rk P N [] n ks s it with
 | none => rw [hr] at h; simp [lhsR, rhsR] at h
 | some R =>
  rw [hr] at h
  simp only [lhsR, rhsR, Prod.mk.injEq] at h
  obtain ⟨h1, h2, h3, h4⟩ := h
  refine rk_sound hm ((finF P fn n0 X r).L C) n ks s it R hr hits.all (eqs_of h1) hI fun η' ι' a' w' hd' hlen hg hI' => ?_
  have hb' : cutB n0 js [] X = true := by
   unfold cutB at hb ⊢
   simp only [Bool.and_eq_true] at hb ⊢
   exact ⟨hb.1, hb.2.1, hb.2.2.1, hb.2.2.2.1, rfl, hb.2.2.2.2.2⟩
  obtain ⟨h6, h7⟩ := cut_sound (L := []) hb' rfl h3 hI'
  have hrun := res_run hI' h2
  rw [av_rn] at hrun
  have hC := h6.1
  have key : ∀ e, (e = .ret ∨ e = .normal) → finQ P fn n0 X r C e a' w' := fun e he => by
   refine ⟨he, hd'.trans hd, _, hrun, _, ι', rfl, fun j hj => by simp only [h7 j hj]; rw [hg j (by omega)]; exact hη j hj, ⟨fun j ob ho => hC.ok j _ (mkX_get ho), fun j j' ob ob' g ho ho' hm hm' => hC.ne j j' _ _ g (mkX_get ho) (mkX_get ho') hm hm', fun j ob g ho hm => (hC.ni j _ g (mkX_get ho) hm).1, hC.il⟩, hC.st, hC.iu, hC.ig, ?_⟩
   rintro g ⟨j, ob, ho, hm⟩
   exact (hC.ni j _ g (mkX_get ho) hm).2
  cases he : R.e with
  | r => exact key _ (.inl rfl)
  | n =>
   rw [he] at h4
   cases hk : R.k with
   | nil => exact key _ (.inr rfl)
   | cons x y => rw [hk] at h4; cases h4
  | e id => rw [he] at h4; cases h4
theorem zip_at {args : List AV} (x : List Bx) (t : Nat) : (⟨fun _ => undef, args.zipIdx.map (fun a => (a.2, a.1)), x⟩ : St).at t = (args[t]?).getD (.a (.v undef)) := by
 have gen : ∀ (l : List AV) (k : Nat), lk (fun _ => undef) ((l.zipIdx k).map (fun a => (a.2, a.1))) t = if k ≤ t then (l[t - k]?).getD (.a (.v undef)) else .a (.v undef) := by
  intro l
  induction l with
  | nil => intro k; simp [lk]
  | cons a l ih =>
   intro k
   simp only [List.zipIdx_cons, List.map_cons, lk, ih]
   cases hb : Nat.beq k t with
   | true => have := Nat.eq_of_beq_eq_true hb; subst this; simp
   | false =>
    have hne : ¬ k = t := fun e => by rw [e] at hb; simp at hb
    simp only [cond_false]
    by_cases h : k ≤ t
    ·have h1 : k + 1 ≤ t := by omega
     have h2 : t - k = (t - (k + 1)) + 1 := by omega
     rw [if_pos h, if_pos h1, h2]; simp
    ·have h1 : ¬ k + 1 ≤ t := by omega
     rw [if_neg h, if_neg h1]
 have := gen args 0
 simp at this
 exact this
def st0 (args : List AV) (obs : List Ob) : St := ⟨fun _ => undef, args.zipIdx.map (fun a => (a.2, a.1)), mkX obs⟩
def fnB (obs : List Ob) (args : List AV) (obs' ns : List Ob) (r : AV) (N : Nat) : Bool :=
 inN (obs.length + ns.length) obs' ns r && (Nat.beq obs'.length obs.length && (args.all (fun v => inB obs.length v.js) && (obs.all (fun o => inB obs.length o.js) && Nat.ble args.length N)))
theorem im0 {N : Nat} {obs : List Ob} {args : List AV} (b3 : ∀ v ∈ args, inB obs.length v.js = true) (b4 : ∀ o ∈ obs, inB obs.length o.js = true) (b5 : args.length ≤ N) {η : Nat → Value} {ι : Nat → Prop} {w : World} (hM : Mem η ι w obs) :
  Im N w (Muts η obs) ι (st0 args obs) η ι { tmps := (args.map (·.c η)).toArray ++ Array.replicate (N - (args.map (·.c η)).toArray.size) undef, defers := [] } w := by
 have hX : ∀ (k : Nat) (B : Bx), (mkX obs)[k]? = some B → ∃ ob : Ob, obs[k]? = some ob ∧ B = ⟨none, ob⟩ := fun k B hB => by
  unfold mkX at hB
  rw [List.getElem?_map] at hB
  cases ho : obs[k]? with
  | none => rw [ho] at hB; cases hB
  | some ob => rw [ho] at hB; cases hB; exact ⟨ob, rfl, rfl⟩
 have hex : ∀ k, k < obs.length → ∃ B : Bx, (mkX obs)[k]? = some B := fun k hk => ⟨_, List.getElem?_eq_getElem (by simpa [mkX] using hk)⟩
 refine ⟨⟨fun t => ?_, fun t k hk => ?_, fun k B hB => ?_, fun k B hB j hj => ?_, fun k k' B B' g hB hB' hm hm' => ?_, fun k B g hB hm => ?_, hM.il, fun g hg => .inl hg, fun g hg => hg, Keep.refl _ _, ?_⟩, fun k B v hB hv => ?_⟩
 ·unfold st0
  rw [zip_at, Array.getD_eq_getD_getElem?]
  rcases Nat.lt_or_ge t args.length with h | h
  ·rw [Array.getElem?_append_left (by simpa using h)]
   simp [List.getElem?_eq_getElem h]
  ·rw [Array.getElem?_append_right (by simpa using h), List.getElem?_eq_none h]
   simp only [Array.getElem?_replicate]
   split <;> rfl
 ·unfold st0 at hk
  rw [zip_at] at hk
  cases ha : args[t]? with
  | none => rw [ha] at hk; simp [AV.js, AC.j] at hk
  | some av =>
   rw [ha] at hk
   exact hex k (inB_lt (b3 av (List.mem_of_getElem? ha)) k hk)
 ·obtain ⟨ob, ho, rfl⟩ := hX k B hB
  exact hM.ok k ob ho
 ·obtain ⟨ob, ho, rfl⟩ := hX k B hB
  exact hex j (inB_lt (b4 ob (List.mem_of_getElem? ho)) j hj)
 ·obtain ⟨ob, ho, rfl⟩ := hX k B hB
  obtain ⟨ob', ho', rfl⟩ := hX k' B' hB'
  exact hM.ne k k' ob ob' g ho ho' hm hm'
 ·obtain ⟨ob, ho, rfl⟩ := hX k B hB
  exact ⟨hM.ni k ob g ho hm, .inl ⟨k, ob, ho, hm⟩⟩
 ·simp; omega
 ·obtain ⟨ob, ho, rfl⟩ := hX k B hB
  cases hv
theorem fnpG {f : FuncId} {fn : Func} {c : Code} {obs : List Ob} {args : List AV} {obs' ns : List Ob} {r : AV} (hf : P.funcs[f]? = some fn) (hb : fn.body = some c) (hB : fnB obs args obs' ns r fn.ntmps = true)
  (h : ∀ η ι w, Mem η ι w obs → ∃ s, (∀ D a, Im fn.ntmps w D ι (st0 args obs) η ι a w → Im fn.ntmps w D ι s η ι a w) ∧ ∀ C : Cx, Good P fn.ntmps obs.length (finF P fn obs.length (obs' ++ ns) r) C [.c c] s) : FnP P f obs args obs' ns r := by
 unfold fnB at hB
 simp only [Bool.and_eq_true, List.all_eq_true] at hB
 obtain ⟨b1, b2, b3, b4, b5⟩ := hB
 have b2 := Nat.eq_of_beq_eq_true b2
 have b5 := Nat.le_of_ble_eq_true b5
 refine ⟨b1, b2, fun η ι w hM => ?_⟩
 let D := Muts η obs
 have hD : ∀ g, D g ↔ Muts η obs g := fun g => Iff.rfl
 let C : Cx := ⟨w, D, ι, η, [], 0, none⟩
 refine (calls_iff (r := none) (m := 0)).1 (callsIn_of_wp (F := WF none) hf hb trivial ?_)
 have hI := im0 (N := fn.ntmps) b3 b4 b5 hM
 obtain ⟨s, hs, h⟩ := h η ι w hM
 have := h C η ι _ w rfl (fun _ _ => rfl) (hs _ _ hI)
 refine wpIn_mono (P := P) (Q := finQ P fn obs.length (obs' ++ ns) r C) this ?_
 rintro e a' w' ⟨he, hd, v, hrun, η', ι', hv, hj, hMm, hS, hi1, hi2, hi3⟩
 have hR : (fun e w' => ∃ η' ι', e = Ending.returned (r.c η') ∧ (∀ j, j < obs.length → η' j = η j) ∧ Mem η' ι' w' (obs' ++ ns) ∧ Keep (Muts η obs) w w' ∧ (∀ g, ι g → ι' g) ∧ (∀ g, ι' g → ι g ∨ Muts η obs g ∨ w.heap.size ≤ g) ∧ ∀ g, Muts η' (obs' ++ ns) g → Muts η obs g ∨ w.heap.size ≤ g) (.returned v) w' := by
  refine ⟨η', ι', by rw [hv], hj, hMm, ⟨hS.os, hS.tape, hS.output, hS.size, fun k hk hlt => hS.same k (fun h => hk ((hD k).1 h)) hlt⟩, hi1, fun g hg => ?_, fun g hg => ?_⟩
  ·rcases hi2 g hg with h | h | h
   ·exact .inl h
   ·exact .inr (.inl ((hD g).1 h))
   ·exact .inr (.inr h)
  ·rcases hi3 g hg with h | h
   ·exact .inl ((hD g).1 h)
   ·exact .inr h
 rcases he with rfl | rfl
 ·exact ⟨hd, v, hrun, hR⟩
 ·exact ⟨hd, v, hrun, hR⟩
theorem fnp {f : FuncId} {fn : Func} {c : Code} {obs : List Ob} {args : List AV} {obs' ns : List Ob} {r : AV} (hf : P.funcs[f]? = some fn) (hb : fn.body = some c) (hB : fnB obs args obs' ns r fn.ntmps = true)
  (h : ∀ C : Cx, Good P fn.ntmps obs.length (finF P fn obs.length (obs' ++ ns) r) C [.c c] (st0 args obs)) : FnP P f obs args obs' ns r := fnpG hf hb hB fun η ι w hM => ⟨_, fun _ _ h => h, h⟩
theorem fnpN {f : FuncId} {fn : Func} {c : Code} {obs : List Ob} {args : List AV} {obs' ns : List Ob} {r : AV} (p j z : Nat) (es : List (List Dt)) (hp : args[p]? = some (.a (.w j))) (hj : obs[j]? = some (.sl z es)) (hf : P.funcs[f]? = some fn) (hb : fn.body = some c) (hB : fnB obs args obs' ns r fn.ntmps = true)
  (h1 : es = [] → ∀ C : Cx, Good P fn.ntmps obs.length (finF P fn obs.length (obs' ++ ns) r) C [.c c] (st0 (args.set p (.a (.v (.slice none 0 0)))) obs))
  (h2 : ∀ a n, ∀ C : Cx, Good P fn.ntmps obs.length (finF P fn obs.length (obs' ++ ns) r) C [.c c] { st0 args obs with x := (mkX obs).set j ⟨some (.slice (some a) es.length n), .sl z es⟩ }) : FnP P f obs args obs' ns r := fnpG hf hb hB fun η ι w hM => by
 have ho := hM.ok j _ hj
 obtain ⟨v, hv⟩ : ∃ v, η j = v := ⟨_, rfl⟩
 rw [hv] at ho
 cases ho with
 | s f h0 h3 h4 h5 h6 h7 h8 =>
  rename_i a c'
  cases a with
  | none =>
   have hc := h0 rfl
   have he : es = [] := by
    cases es with
    | nil => rfl
    | cons x y => obtain ⟨g, off, e, _⟩ := h6 (by simp); cases e
   refine ⟨st0 (args.set p (.a (.v (.slice none 0 0)))) obs, fun D a hI => ⟨⟨fun t => ?_, fun t k hk => ?_, hI.1.ok, hI.1.ob, hI.1.ne, hI.1.ni, hI.1.il, hI.1.ig, hI.1.iu, hI.1.st, hI.1.sz⟩, hI.2⟩, h1 he⟩
   ·rw [hI.1.tm t]
    unfold st0
    rw [zip_at, zip_at, List.getElem?_set]
    by_cases e : p = t
    ·subst e
     have hlt := (List.getElem?_eq_some_iff.1 hp).1
     rw [hp, if_pos rfl, if_pos hlt]
     subst hc he
     simp [AV.c, AC.c, hv, slV]
    ·rw [if_neg e]
   ·refine hI.1.sc t k ?_
    unfold st0 at hk ⊢
    rw [zip_at, List.getElem?_set] at hk
    rw [zip_at]
    by_cases e : p = t
    ·subst e
     have hlt := (List.getElem?_eq_some_iff.1 hp).1
     rw [if_pos rfl, if_pos hlt] at hk
     simp [AV.js, AC.j] at hk
    ·rw [if_neg e] at hk; exact hk
  | some a =>
   have hlt := (List.getElem?_eq_some_iff.1 hj).1
   have hget : ∀ (k : Nat) (B : Bx), ((mkX obs).set j ⟨some (.slice (some a) es.length c'), .sl z es⟩)[k]? = some B → ∃ B0 : Bx, (mkX obs)[k]? = some B0 ∧ B0.o = B.o ∧ (B.k = none ∨ (k = j ∧ B.k = some (.slice (some a) es.length c'))) := fun k B hB => by
    rw [List.getElem?_set] at hB
    by_cases e : j = k
    ·subst e
     rw [if_pos rfl] at hB
     split at hB
     ·cases hB; exact ⟨_, mkX_get hj, rfl, .inr ⟨rfl, rfl⟩⟩
     ·cases hB
    ·rw [if_neg e] at hB
     refine ⟨B, hB, rfl, .inl ?_⟩
     unfold mkX at hB
     rw [List.getElem?_map] at hB
     cases ho : obs[k]? with
     | none => rw [ho] at hB; cases hB
     | some ob => rw [ho] at hB; cases hB; rfl
   have hex : ∀ (k : Nat) (B : Bx), (mkX obs)[k]? = some B → ∃ B', ((mkX obs).set j ⟨some (.slice (some a) es.length c'), .sl z es⟩)[k]? = some B' := fun k B hB => ⟨_, List.getElem?_eq_getElem (by rw [List.length_set]; exact (List.getElem?_eq_some_iff.1 hB).1)⟩
   refine ⟨{ st0 args obs with x := (mkX obs).set j ⟨some (.slice (some a) es.length c'), .sl z es⟩ }, fun D a' hI => ⟨⟨hI.1.tm, fun t k hk => ?_, fun k B hB => ?_, fun k B hB i hi => ?_, fun k k' B B' g hB hB' hm hm' => ?_, fun k B g hB hm => ?_, hI.1.il, hI.1.ig, hI.1.iu, hI.1.st, hI.1.sz⟩, fun k B v' hB hv' => ?_⟩, h2 a c'⟩
   ·obtain ⟨B, hB⟩ := hI.1.sc t k hk
    exact hex k B hB
   ·obtain ⟨B0, h9, h10, _⟩ := hget k B hB
    rw [← h10]; exact hI.1.ok k B0 h9
   ·obtain ⟨B0, h9, h10, _⟩ := hget k B hB
    obtain ⟨B1, h11⟩ := hI.1.ob k B0 h9 i (by rw [h10]; exact hi)
    exact hex i B1 h11
   ·obtain ⟨B0, h9, h10, _⟩ := hget k B hB
    obtain ⟨B1, h11, h12, _⟩ := hget k' B' hB'
    exact hI.1.ne k k' B0 B1 g h9 h11 (by rw [h10]; exact hm) (by rw [h12]; exact hm')
   ·obtain ⟨B0, h9, h10, _⟩ := hget k B hB
    exact hI.1.ni k B0 g h9 (by rw [h10]; exact hm)
   ·obtain ⟨B0, h9, h10, h11⟩ := hget k B hB
    rcases h11 with h11 | ⟨rfl, h11⟩
    ·rw [h11] at hv'; cases hv'
    ·rw [h11] at hv'; cases hv'; exact hv
def kb (t : Nat) : Code → List (Act → World → Prop) → List Kt → Option (Code × List Kt)
 | .seq a b, Ks, k => match kb t a Ks (.c b :: k) with
  | some r => some r
  | none => kb t b Ks k
 | .cond _ a b, Ks, k => match kb t a Ks k with
  | some r => some r
  | none => kb t b Ks k
 | .block id b, Ks, k => kb t b Ks (.b id :: k)
 | .scope b, Ks, k => kb t b Ks (.g :: k)
 | .loop b, Ks, k => bif isReg t b then some (b, k) else match Ks with
  | K :: Ks' => kb t b Ks' (.a K :: k)
  | [] => none
 | _, _, _ => none
def lp (t : Nat) (c : Code) (Ks : List (Act → World → Prop)) : List Kt := match kb t c Ks [] with
 | some (b, k) => .c (.loop b) :: k
 | none => []
def lpB (t : Nat) (c : Code) (Ks : List (Act → World → Prop)) (K : Act → World → Prop) : List Kt := match kb t c Ks [] with
 | some (b, k) => .c b :: .a K :: k
 | none => []
def lpK (t : Nat) (c : Code) (Ks : List (Act → World → Prop)) (K : Act → World → Prop) : List Kt := match kb t c Ks [] with
 | some (b, k) => .a K :: k
 | none => []
theorem loop {N n0 : Nat} {F : Fx} {C : Cx} {β : Type} (S : β → (Nat → Value) → St) (μ : β → Nat) {t : Nat} {c : Code} {Ks : List (Act → World → Prop)} (hk : (kb t c Ks []).isSome = true)
  (body : ∀ x K, (∀ y d, μ y < μ x → Good P N n0 F C (lpK t c Ks K) (S y d)) → ∀ d, Good P N n0 F C (lpB t c Ks K) (S x d)) : ∀ x d, Good P N n0 F C (lp t c Ks) (S x d) := by
 unfold lp lpB lpK at *
 cases hkb : kb t c Ks [] with
 | none => rw [hkb] at hk; cases hk
 | some p =>
  obtain ⟨b, k⟩ := p
  rw [hkb] at body
  simp only at body ⊢
  have key : ∀ n x d, μ x < n → ∀ η ι a w, a.defers = C.df → (∀ k, k < n0 → η k = C.η0 k) → Im N C.W C.D C.ι0 (S x d) η ι a w → Code.roundsIn (WF C.r0) C.m P b (Post P C.m C.r0 (F.Q C) k) n a w := by
   intro n
   induction n with
   | zero => intro x d h; omega
   | succ n ih =>
    intro x d hx η ι a w hd hη hI
    rw [roundsIn_succ]
    exact body x (Code.roundsIn (WF C.r0) C.m P b (Post P C.m C.r0 (F.Q C) k) n) (fun y d' hy η' ι' a' w' h1 h2 h3 => ih y d' (by omega) η' ι' a' w' h1 h2 h3) d η ι a w hd hη hI
  exact fun x d η ι a w hd hη hI => wpIn_loop_rounds (μ x + 1) (key _ x d (Nat.lt_succ_self _) η ι a w hd hη hI)
end
end Go.Eo
set_option maxRecDepth 100000
namespace Go.Proofs.YtlkhneiccjhgdaaGreat
open Go.Eo Go.RowKit Go.Rg
theorem hm : Tryz.prog.follows .mixedOrders = true := by kernel_rfl
abbrev i6 (x : Int) : Value := .int .i64 x
abbrev vi (x : Int) : AV := .a (.v (.int .i64 x))
abbrev vb (x : Bool) : AV := .a (.v (.bool x))
structure Nd where
 v : Nat → Int
 a : Nat
 b : Nat
 d : Int
def spc (v : Nat → Int) : List Value := [.int .u64 (v 0), .int .u64 (v 1), .int .u64 (v 2), .int .u64 (v 3), .int .u64 (v 4), .int .u64 (v 5), .int .u64 (v 6), .int .u64 (v 7), .int .u64 (v 8), .int .u64 (v 9), .int .u64 (v 10), .int .u64 (v 11)]
def Nd.enc (x : Nd) : List Dt := [.v (.int .u64 (x.v 0)), .v (.int .u64 (x.v 1)), .v (.int .u64 (x.v 2)), .v (.int .u64 (x.v 3)), .v (.int .u64 (x.v 4)), .v (.int .u64 (x.v 5)), .v (.int .u64 (x.v 6)), .v (.int .u64 (x.v 7)), .v (.int .u64 (x.v 8)), .v (.int .u64 (x.v 9)), .v (.int .u64 (x.v 10)), .v (.int .u64 (x.v 11)), .v (i6 x.a), .v (i6 x.b), .v (i6 x.d)]
abbrev TB (f : Value) (root n : Int) : Ob := .box [.v f, .w 1, .w 2, .v (i6 root), .v (i6 n)] 351
abbrev NO (ns : List Nd) : Ob := .row 342 15 (ns.map Nd.enc)
abbrev FO (fs : List Nat) : Ob := .row 3 1 (fs.map fun x => [.v (i6 (x : Nat))])
abbrev Tr3 (f : Value) (root n : Int) (ns : List Nd) (fs : List Nat) : List Ob := [TB f root n, NO ns, FO fs]
def mxQ (a b : Int) : Sem Next := (do pure (.value (← Builtin.max_ #[3, 3] 3 #[i6 a, i6 b])))
theorem mx {P : Program} (a b : Int) (w : World) : (mxQ a b).run P w = .ok (.value (i6 (max a b))) w := by
 unfold mxQ
 rw [Sem.run_bind, run_max_int2]
 simp only [Result.andThen_ok, Sem.run_pure]
 congr 3
 split <;> omega
theorem w64 {z : Int} (h : -9223372036854775808 ≤ z ∧ z ≤ 9223372036854775807) : Value.int .i64 (IntKind.i64.wrap z) = i6 z := by
 have : IntKind.i64.wrap z = z := by
  unfold IntKind.wrap
  simp only [IntKind.signed, IntKind.bits]
  have e : (2 : Int) ^ 64 = 18446744073709551616 := by decide
  have e' : (2 : Int) ^ 63 = 9223372036854775808 := by decide
  first
   | (rw [e]; simp; omega)
   | (simp; omega)
 rw [this]
instance : Inhabited Nd := ⟨⟨fun _ => 0, 0, 0, 0⟩⟩
def nd (ns : List Nd) (i : Nat) : Nd := ns[i]?.getD default
theorem nd_enc {ns : List Nd} {i : Nat} (h : i < ns.length) : (ns.map Nd.enc)[i]? = some (nd ns i).enc := by simp [nd, h]
theorem set_enc (ns : List Nd) (i : Nat) (x : Nd) : (ns.map Nd.enc).set i x.enc = (ns.set i x).map Nd.enc := by rw [List.map_set]
def deepOf (ns : List Nd) (i : Nat) : Int := max (nd ns (nd ns i).a).d (nd ns (nd ns i).b).d + 1
def fitF (ns : List Nd) (i : Nat) : List Nd := ns.set i { nd ns i with d := deepOf ns i }
abbrev unit : AV := .a (.v (.tuple #[]))
def kid (ns : List Nd) (i : Nat) (b : Bool) : Nat := bif b then (nd ns i).b else (nd ns i).a
def sd (b : Bool) : Int := bif b then 1 else 0
def leanF (ns : List Nd) (i : Nat) (b : Bool) : Int := (nd ns (kid ns i b)).d - (nd ns (kid ns i !b)).d
def setKid (x : Nd) (b : Bool) (v : Nat) : Nd := bif b then { x with b := v } else { x with a := v }
def turn1 (ns : List Nd) (i : Nat) (b : Bool) : List Nd := ns.set i (setKid (nd ns i) b (kid ns (kid ns i b) !b))
def turn2 (ns : List Nd) (i : Nat) (b : Bool) : List Nd := (turn1 ns i b).set (kid ns i b) (setKid (nd (turn1 ns i b) (kid ns i b)) (!b) i)
def turnF (ns : List Nd) (i : Nat) (b : Bool) : List Nd := fitF (fitF (turn2 ns i b) i) (kid ns i b)
structure FitOk (ns : List Nd) (i : Nat) : Prop where
 hi : i < ns.length
 ha : (nd ns i).a < ns.length
 hb : (nd ns i).b < ns.length
 hd : -9223372036854775808 ≤ deepOf ns i ∧ deepOf ns i ≤ 9223372036854775807
theorem len1 (ns : List Nd) (i : Nat) (b : Bool) : (turn1 ns i b).length = ns.length := by simp [turn1]
section
variable (f : Value) (root n : Int) (ns : List Nd) (fs : List Nat)
theorem at_ok (i : Nat) (hi : i < ns.length) : FnP Tryz.prog 251 (Tr3 f root n ns fs) [.a (.p 0 0), vi i] (Tr3 f root n ns fs) [] (.a (.e 1 15 i 0)) :=
 fnp Tryz.func251 rfl (by kernel_rfl) fun C =>
  done hm (by kernel_rfl) 40 (.i (len := (ns.map Nd.enc).length) 10 rfl (by simpa using hi) .nil) [0, 1, 2] (by kernel_rfl) (by kernel_rfl)
theorem fit_ok (i : Nat) (hi : i < ns.length) (ha : (nd ns i).a < ns.length) (hb : (nd ns i).b < ns.length) (hd : -9223372036854775808 ≤ deepOf ns i ∧ deepOf ns i ≤ 9223372036854775807) :
  FnP Tryz.prog 275 (Tr3 f root n ns fs) [.a (.p 0 0), vi i] (Tr3 f root n (fitF ns i) fs) [] unit :=
 fnp Tryz.func275 rfl (by kernel_rfl) fun C =>
  done hm (by kernel_rfl) 60 (.f 7 [0, 1, 2] [0, 1, 2] (at_ok f root n ns fs i hi) <| .l 14 (nd_enc hi) <| .f 15 [0, 1, 2] [0, 1, 2] (at_ok f root n ns fs _ ha) <| .l 18 (nd_enc ha) <| .l 24 (nd_enc hi) <|
   .f 25 [0, 1, 2] [0, 1, 2] (at_ok f root n ns fs _ hb) <| .l 28 (nd_enc hb) <| .m 29 (fun w _ => mx (nd ns (nd ns i).a).d (nd ns (nd ns i).b).d w) <| .v 30 (w64 hd) <| .l 1 (nd_enc hi) <| .o (y := NO (fitF ns i)) 1000 1 (congrArg (Ob.row 342 15) (set_enc ns i { nd ns i with d := deepOf ns i })) .nil) [0, 1, 2] (by kernel_rfl) (by kernel_rfl)
theorem lean_ok (i : Nat) (b : Bool) (hi : i < ns.length) (ha : kid ns i b < ns.length) (hb : kid ns i (!b) < ns.length) (hd : -9223372036854775808 ≤ leanF ns i b ∧ leanF ns i b ≤ 9223372036854775807) :
  FnP Tryz.prog 276 (Tr3 f root n ns fs) [.a (.p 0 0), vi i, vi (sd b)] (Tr3 f root n ns fs) [] (vi (leanF ns i b)) := by
 cases b <;> exact
 fnp Tryz.func276 rfl (by kernel_rfl) fun C =>
  done hm (by kernel_rfl) 60 (.f 10 [0, 1, 2] [0, 1, 2] (at_ok f root n ns fs i hi) <| .l 17 (nd_enc hi) <| .f 18 [0, 1, 2] [0, 1, 2] (at_ok f root n ns fs _ ha) <| .l 21 (nd_enc ha) <| .l 29 (nd_enc hi) <|
   .f 30 [0, 1, 2] [0, 1, 2] (at_ok f root n ns fs _ hb) <| .l 33 (nd_enc hb) <| .v 34 (w64 hd) .nil) [0, 1, 2] (by kernel_rfl) (by kernel_rfl)
theorem turn_ok (i : Nat) (b : Bool) (hi : i < ns.length) (hk : kid ns i b < ns.length) (h1 : FitOk (turn2 ns i b) i) (h2 : FitOk (fitF (turn2 ns i b) i) (kid ns i b)) :
  FnP Tryz.prog 277 (Tr3 f root n ns fs) [.a (.p 0 0), vi i, vi (sd b)] (Tr3 f root n (turnF ns i b) fs) [] (vi (kid ns i b)) := by
 have hk1 : kid ns i b < (turn1 ns i b).length := by rw [len1]; exact hk
 have its := fun C : Cx => (.f 10 [0, 1, 2] [0, 1, 2] (at_ok f root n ns fs i hi) <| .l 15 (nd_enc hi) <| .f 18 [0, 1, 2] [0, 1, 2] (at_ok f root n ns fs _ hi) <| .f 22 [0, 1, 2] [0, 1, 2] (at_ok f root n ns fs _ hk) <| .l 28 (nd_enc hk) <|
   .l 1 (nd_enc hi) <| .o (y := NO (turn1 ns i b)) 3 1 (congrArg (Ob.row 342 15) (set_enc ns i _)) <| .f 34 [0, 1, 2] [0, 1, 2] (at_ok f root n (turn1 ns i b) fs _ hk1) <| .l 1 (nd_enc hk1) <| .o (y := NO (turn2 ns i b)) 4 1 (congrArg (Ob.row 342 15) (set_enc (turn1 ns i b) _ _)) <|
   .f 43 [0, 1, 2] [0, 2] (fit_ok f root n (turn2 ns i b) fs i h1.hi h1.ha h1.hb h1.hd) <| .f 46 [0, 1, 2] [0, 2] (fit_ok f root n (fitF (turn2 ns i b) i) fs _ h2.hi h2.ha h2.hb h2.hd) .nil : Its Tryz.prog C.W C.D _)
 cases b <;> exact fnp Tryz.func277 rfl (by kernel_rfl) fun C => done hm (by kernel_rfl) 60 (its C) [0, 1, 2] (by kernel_rfl) (by kernel_rfl)
end
end Go.Proofs.YtlkhneiccjhgdaaGreat
namespace Go.Eo
open Go Go.RowKit Go.Rg
section
variable {P : Program} {f : FuncId}
theorem fnp_of {args : List Value} {r : Value} (h : ∀ w, Calls P f args.toArray w fun e w' => e = .returned r ∧ Below w.heap.size w w') : FnP P f [] (args.map fun x => .a (.v x)) [] [] (.a (.v r)) := by
 refine ⟨rfl, rfl, fun η ι w hM => ?_⟩
 have e : ((args.map fun x => AV.a (.v x)).map (·.c η)).toArray = args.toArray := by
  congr 1
  rw [List.map_map]
  exact List.map_id'' (fun x => rfl) args
 rw [e]
 refine (h w).mono fun e w' ⟨h1, h2⟩ => ⟨η, ι, h1, fun j hj => (by cases hj), ⟨fun j ob h => (by cases h), fun j j' ob ob' g h => (by cases h), fun j ob g h => (by cases h), fun g hg => Nat.lt_of_lt_of_le (hM.il g hg) h2.size⟩, ⟨h2.os, h2.tape, h2.output, h2.size, fun k _ hk => h2.block k hk⟩, fun g hg => hg, fun g hg => .inl hg, ?_⟩
 rintro g ⟨j, ob, h, _⟩
 cases h
theorem calls_of {args : List Value} {r : Value} (h : FnP P f [] (args.map fun x => .a (.v x)) [] [] (.a (.v r))) (w : World) : Calls P f args.toArray w fun e w' => e = .returned r ∧ Below w.heap.size w w' := by
 obtain ⟨_, _, h⟩ := h
 have := h (fun _ => undef) (fun _ => False) w ⟨fun j ob h => (by cases h), fun j j' ob ob' g h => (by cases h), fun j ob g h => (by cases h), fun g hg => hg.elim⟩
 have e : ((args.map fun x => AV.a (.v x)).map (·.c fun _ => undef)).toArray = args.toArray := by
  congr 1
  rw [List.map_map]
  exact List.map_id'' (fun x => rfl) args
 rw [e] at this
 refine this.mono fun e w' ⟨η', ι', h1, _, _, h2, _⟩ => ⟨h1, ?_⟩
 exact ⟨h2.os, h2.tape, h2.output, h2.size, fun k hk => h2.same k (fun ⟨j, ob, h, _⟩ => (by cases h)) hk⟩
def rdo : List Bool → List Ob → List TypeId → List Ob
 | b :: bs, .sl z es :: X, T :: Ts => (bif b then .row T z es else .sl z es) :: rdo bs X Ts
 | _ :: bs, o :: X, _ :: Ts => o :: rdo bs X Ts
 | _, _, _ => []
theorem rdo_len : ∀ {bs : List Bool} {X : List Ob} {Ts : List TypeId}, bs.length = X.length → Ts.length = X.length → (rdo bs X Ts).length = X.length
 | [], [], [], _, _ => rfl
 | [], _ :: _, _, h, _ => by cases h
 | _ :: _, [], _, h, _ => by cases h
 | [], [], _ :: _, _, h => by cases h
 | _ :: _, _ :: _, [], _, h => by cases h
 | b :: bs, o :: X, T :: Ts, h1, h2 => by
  have := rdo_len (bs := bs) (X := X) (Ts := Ts) (by simpa using h1) (by simpa using h2)
  cases o <;> simp [rdo, this]
theorem rdo_get : ∀ {bs : List Bool} {X : List Ob} {Ts : List TypeId} {j : Nat} {ob : Ob}, (rdo bs X Ts)[j]? = some ob → ∃ o, X[j]? = some o ∧ (ob = o ∨ ∃ T z es, o = .sl z es ∧ ob = .row T z es)
 | [], _, _, j, ob, h => by cases h
 | _ :: _, [], _, j, ob, h => by cases h
 | _ :: _, _ :: _, [], j, ob, h => by
  rename_i o _
  cases o <;> cases h
 | b :: bs, o :: X, T :: Ts, 0, ob, h => by
  refine ⟨o, rfl, ?_⟩
  cases o with
  | sl z es =>
   simp only [rdo, List.getElem?_cons_zero, Option.some.injEq] at h
   cases b with
   | true => exact .inr ⟨T, z, es, rfl, h.symm⟩
   | false => exact .inl h.symm
  | _ => simp only [rdo, List.getElem?_cons_zero, Option.some.injEq] at h; exact .inl h.symm
 | b :: bs, o :: X, T :: Ts, j + 1, ob, h => by
  have : (rdo bs X Ts)[j]? = some ob := by cases o <;> simpa [rdo] using h
  obtain ⟨o', h1, h2⟩ := rdo_get this
  exact ⟨o', by simpa using h1, h2⟩
def allSl (X : List Ob) : Bool := X.all fun o => match o with
 | .sl _ _ => true
 | _ => false
theorem fnp_rd {X : List Ob} {args : List AV} {r : AV} (bs : List Bool) (Ts : List TypeId) (h : FnP P f X args X [] r) (hs : allSl X = true) (hr : r.js = []) (h1 : Nat.beq bs.length X.length = true) (h2 : Nat.beq Ts.length X.length = true) : FnP P f (rdo bs X Ts) args (rdo bs X Ts) [] r := by
 have h1 := Nat.eq_of_beq_eq_true h1
 have h2 := Nat.eq_of_beq_eq_true h2
 have hlen := rdo_len h1 h2
 obtain ⟨hin, _, hf⟩ := h
 have hsl : ∀ (j : Nat) (o : Ob), X[j]? = some o → ∃ z es, o = .sl z es := fun j o ho => by
  unfold allSl at hs
  rw [List.all_eq_true] at hs
  have := hs o (List.mem_of_getElem? ho)
  cases o with
  | sl z es => exact ⟨z, es, rfl⟩
  | _ => cases this
 have hjs : ∀ ob ∈ rdo bs X Ts, ob.js = [] := fun ob ho => by
  obtain ⟨j, hj⟩ := List.getElem?_of_mem ho
  obtain ⟨o, h3, h4⟩ := rdo_get hj
  obtain ⟨z, es, rfl⟩ := hsl j o h3
  rcases h4 with rfl | ⟨T, z, es, _, rfl⟩ <;> rfl
 refine ⟨?_, rfl, fun η ι w hM => ?_⟩
 ·unfold inN at hin ⊢
  simp only [Bool.and_eq_true, List.all_eq_true] at hin ⊢
  refine ⟨fun k hk => (by rw [hr] at hk; cases hk), fun ob hob k hk => ?_⟩
  rw [List.append_nil] at hob
  rw [hjs ob hob] at hk; cases hk
 ·let ι1 : Nat → Prop := fun g => ι g ∨ Muts η (rdo bs X Ts) g
  have hX : ∀ (j : Nat) (o : Ob), X[j]? = some o → ∃ ob, (rdo bs X Ts)[j]? = some ob := fun j o ho => ⟨_, List.getElem?_eq_getElem (by rw [hlen]; exact (List.getElem?_eq_some_iff.1 ho).1)⟩
  have hM1 : Mem η ι1 w X := by
   refine ⟨fun j o ho => ?_, fun j j' ob ob' g ho ho' hm hm' => ?_, fun j ob g ho hm => ?_, fun g hg => ?_⟩
   ·obtain ⟨z, es, rfl⟩ := hsl j o ho
    obtain ⟨ob, hob⟩ := hX j _ ho
    obtain ⟨o', h3, h4⟩ := rdo_get hob
    rw [ho] at h3; cases h3
    have hk := hM.ok j ob hob
    rcases h4 with rfl | ⟨T, z', es', e, rfl⟩
    ·exact Rd.mono (fun g hg => .inl hg) (fun _ _ => rfl) hk
    ·cases e
     exact own_rd (ι := ι) (ι' := ι1) hk (fun g hg => .inl hg) (fun g hg => .inr ⟨j, _, hob, hg⟩)
   ·obtain ⟨z, es, rfl⟩ := hsl j ob ho; cases hm
   ·obtain ⟨z, es, rfl⟩ := hsl j ob ho; cases hm
   ·rcases hg with hg | ⟨j, ob, ho, hm⟩
    ·exact hM.il g hg
    ·exact mb_lt (hM.ok j ob ho) hm
  have hno : ∀ g, ¬ Muts η X g := fun g ⟨j, o, ho, hm⟩ => by
   obtain ⟨z, es, rfl⟩ := hsl j o ho; cases hm
  refine (hf η ι1 w hM1).mono fun e w' ⟨η', ι', k1, k2, k3, k4, k5, k6, k7⟩ => ?_
  have hst : Stay [] w w' := ⟨k4.os, k4.tape, k4.output, k4.size, fun k _ hk => k4.same k (hno k) hk⟩
  refine ⟨η, ι, ?_, fun j hj => rfl, ⟨fun j ob ho => ?_, fun j j' ob ob' g ho ho' hm hm' => ?_, fun j ob g ho hm => ?_, fun g hg => Nat.lt_of_lt_of_le (hM.il g hg) k4.size⟩, ⟨k4.os, k4.tape, k4.output, k4.size, fun k _ hk => k4.same k (hno k) hk⟩, fun g hg => hg, fun g hg => .inl hg, fun g hg => ?_⟩
  ·rw [k1, AV.c_congr (η := η') (η' := η) (fun k hk => by rw [hr] at hk; cases hk)]
  ·rw [List.append_nil] at ho
   exact (hM.ok j ob ho).stay (B := []) hst (fun g hg => hg) (fun g hg => ⟨by simp, hM.il g hg⟩) (fun g _ => by simp) (fun k hk => rfl)
  ·rw [List.append_nil] at ho ho'; exact hM.ne j j' ob ob' g ho ho' hm hm'
  ·rw [List.append_nil] at ho; exact hM.ni j ob g ho hm
  ·rw [List.append_nil] at hg; exact .inl hg
theorem fnp_pad {args : List Value} {r : Value} (h : FnP P f [] (args.map fun x => .a (.v x)) [] [] (.a (.v r))) : FnP P f [.dead, .dead] (args.map fun x => .a (.v x)) [.dead, .dead] [] (.a (.v r)) := by
 refine ⟨rfl, rfl, fun η ι w hM => ?_⟩
 have h0 := h.2.2 η ι w ⟨fun j ob h => (by cases h), fun j j' ob ob' g h => (by cases h), fun j ob g h => (by cases h), hM.il⟩
 have hno : ∀ (η : Nat → Value) g, ¬ Muts η [Ob.dead, .dead] g := fun η g ⟨j, ob, ho, hm⟩ => by
  match j, ho with
  | 0, ho => cases ho; cases hm
  | 1, ho => cases ho; cases hm
 have hno' : ∀ (η : Nat → Value) g, ¬ Muts η [] g := fun η g ⟨j, ob, ho, hm⟩ => by cases ho
 have hd : ∀ (j : Nat) (ob : Ob), [Ob.dead, .dead][j]? = some ob → ob = .dead := fun j ob ho => by
  match j, ho with
  | 0, ho => cases ho; rfl
  | 1, ho => cases ho; rfl
 refine h0.mono fun e w' ⟨η', ι', h1, _, h3, h4, h5, h6, _⟩ => ⟨η, ι', h1, fun j hj => rfl, ⟨fun j ob h => ?_, fun j j' ob ob' g h h' hm => ?_, fun j ob g h hm => ?_, h3.il⟩, ⟨h4.os, h4.tape, h4.output, h4.size, fun k _ hk => h4.same k (hno' _ _) hk⟩, h5, fun g hg => ?_, fun g hg => ?_⟩
 ·rw [List.append_nil] at h; rw [hd j ob h]; trivial
 ·rw [List.append_nil] at h; rw [hd j ob h] at hm; cases hm
 ·rw [List.append_nil] at h; rw [hd j ob h] at hm; cases hm
 ·rcases h6 g hg with h | h | h
  ·exact .inl h
  ·exact (hno' _ _ h).elim
  ·exact .inr (.inr h)
 ·rw [List.append_nil] at hg; exact (hno _ _ hg).elim
theorem Rd.seg {w w' : World} {ι ι' : Nat → Prop} (hi : ∀ g, ι g → ι' g) (hs : ∀ g o, ι g → w.heap[g]? = some o → o.isCells = true → w'.heap[g]? = some o) {x : Value} {d : Dt} (h : Rd w ι x d) : Rd w' ι' x d := by
 induction h with
 | v x h => exact .v x h
 | s f h0 h1 h2 h3 h4 h5 h6 ih =>
  refine .s f h0 h1 h2 h3 (fun h => ?_) (fun g off ha i e j d hi' hj => ?_) ih
  ·obtain ⟨g, off, e, hg⟩ := h4 h
   exact ⟨g, off, e, hi g hg⟩
  ·rename_i es
   have hne : es ≠ [] := fun e' => by subst e'; cases hi'
   obtain ⟨g', off', e', hg⟩ := h4 hne
   rw [ha] at e'; cases e'
   have hc := h5 g off ha i e j d hi' hj
   obtain ⟨o, ho, hcs⟩ := cells_of_cell hc
   exact (World.cell?_of_block ((hs _ _ hg ho hcs).trans ho.symm)).trans hc
theorem OOk.seg {w w' : World} {ι ι' : Nat → Prop} {η η' : Nat → Value} {v : Value} {ob : Ob} (h : OOk w ι η v ob) (hi : ∀ g, ι g → ι' g) (hs : ∀ g o, ι g → w.heap[g]? = some o → o.isCells = true → w'.heap[g]? = some o)
  (hm : ∀ g o, mb v ob = some g → w.heap[g]? = some o → o.isCells = true → w'.heap[g]? = some o) (he : ∀ k ∈ ob.js, η' k = η k) : OOk w' ι' η' v ob := by
 cases ob with
 | box c T =>
  obtain ⟨b, h1, h2⟩ := h
  refine ⟨b, h1, ?_⟩
  rw [cl_congr (fun k hk => he k hk)]
  exact hm b _ (by rw [h1]; rfl) h2 rfl
 | row T z es =>
  obtain ⟨h1, xs, h2, h3⟩ := h
  refine ⟨h1, xs, ⟨h2.1, ?_⟩, fun i e j d he' hd => ?_⟩
  ·rcases h2.2 with h | ⟨g, cap, cur, e, hb, hg, r⟩
   ·exact .inl h
   ·exact .inr ⟨g, cap, cur, e, hb, hm g _ (by rw [e]; rfl) hg rfl, r⟩
  ·obtain ⟨x, hx, hr⟩ := h3 i e j d he' hd
   exact ⟨x, hx, hr.seg hi hs⟩
 | sl z es => exact Rd.seg hi hs h
 | dead => trivial
 | ro c T =>
  obtain ⟨b, h1, h2, h3⟩ := h
  refine ⟨b, h1, hi b h2, ?_⟩
  rw [cl_congr (fun k hk => he k hk)]
  exact hs b _ h2 h3 rfl
def rdb : List Bool → List Ob → List TypeId → List Ob
 | b :: bs, o :: X, T :: Ts => (bif b then (match o with
   | .sl z es => .row T z es
   | .ro c t => .box c t
   | o => o) else o) :: rdb bs X Ts
 | _, _, _ => []
def isRd : Ob → Bool
 | .sl _ _ => true
 | .ro _ _ => true
 | .dead => true
 | _ => false
def plainD : Dt → Bool
 | .v _ => true
 | _ => false
def Flat : Ob → Prop
 | .row _ _ es => ∀ e ∈ es, ∀ d ∈ e, plainD d = true
 | _ => False
theorem rdb_len : ∀ {bs : List Bool} {X : List Ob} {Ts : List TypeId}, bs.length = X.length → Ts.length = X.length → (rdb bs X Ts).length = X.length
 | [], [], [], _, _ => rfl
 | [], _ :: _, _, h, _ => by cases h
 | _ :: _, [], _, h, _ => by cases h
 | [], [], _ :: _, _, h => by cases h
 | _ :: _, _ :: _, [], _, h => by cases h
 | b :: bs, o :: X, T :: Ts, h1, h2 => by
  have := rdb_len (bs := bs) (X := X) (Ts := Ts) (by simpa using h1) (by simpa using h2)
  simp [rdb, this]
theorem rdb_get : ∀ {bs : List Bool} {X : List Ob} {Ts : List TypeId} {j : Nat} {ob : Ob}, (rdb bs X Ts)[j]? = some ob → ∃ o, X[j]? = some o ∧ (ob = o ∨ (∃ T z es, o = .sl z es ∧ ob = .row T z es) ∨ ∃ c T, o = .ro c T ∧ ob = .box c T)
 | [], _, _, j, ob, h => by cases h
 | _ :: _, [], _, j, ob, h => by cases h
 | _ :: _, _ :: _, [], j, ob, h => by cases h
 | b :: bs, o :: X, T :: Ts, 0, ob, h => by
  refine ⟨o, rfl, ?_⟩
  simp only [rdb, List.getElem?_cons_zero, Option.some.injEq] at h
  cases b with
  | false => exact .inl h.symm
  | true =>
   cases o with
   | sl z es => exact .inr (.inl ⟨T, z, es, rfl, h.symm⟩)
   | ro c t => exact .inr (.inr ⟨c, t, rfl, h.symm⟩)
   | _ => exact .inl h.symm
 | b :: bs, o :: X, T :: Ts, j + 1, ob, h => by
  obtain ⟨o', h1, h2⟩ := rdb_get (bs := bs) (X := X) (Ts := Ts) (j := j) (ob := ob) (by simpa [rdb] using h)
  exact ⟨o', by simpa using h1, h2⟩
theorem rdb_js {o ob : Ob} (h : ob = o ∨ (∃ T z es, o = .sl z es ∧ ob = .row T z es) ∨ ∃ c T, o = .ro c T ∧ ob = .box c T) : ob.js = o.js := by
 rcases h with rfl | ⟨T, z, es, rfl, rfl⟩ | ⟨c, T, rfl, rfl⟩ <;> rfl
theorem fnp_own {X ns : List Ob} {args : List AV} {r : AV} (bs : List Bool) (Ts : List TypeId) (h : FnP P f X args X ns r) (hs : X.all isRd = true) (hn : ∀ ob ∈ ns, Flat ob) (hj : X.all (fun o => inB X.length o.js) = true) (h1 : Nat.beq bs.length X.length = true) (h2 : Nat.beq Ts.length X.length = true) : FnP P f (rdb bs X Ts) args (rdb bs X Ts) ns r := by
 have h1 := Nat.eq_of_beq_eq_true h1
 have h2 := Nat.eq_of_beq_eq_true h2
 have hlen := rdb_len h1 h2
 rw [List.all_eq_true] at hs hj
 obtain ⟨hin, _, hf⟩ := h
 have hmbX : ∀ (j : Nat) (o : Ob) (v : Value), X[j]? = some o → mb v o = none := fun j o v ho => by
  have := hs o (List.mem_of_getElem? ho)
  cases o <;> first | rfl | cases this
 have hXj : ∀ (j : Nat), j < X.length → ∃ ob, (rdb bs X Ts)[j]? = some ob := fun j hj => ⟨_, List.getElem?_eq_getElem (by omega)⟩
 have hjs : ∀ (j : Nat) (ob : Ob), (rdb bs X Ts)[j]? = some ob → ∀ k ∈ ob.js, k < X.length := fun j ob ho k hk => by
  obtain ⟨o, h3, h4⟩ := rdb_get ho
  rw [rdb_js h4] at hk
  exact inB_lt (hj o (List.mem_of_getElem? h3)) k hk
 refine ⟨?_, rfl, fun η ι w hM => ?_⟩
 ·unfold inN at hin ⊢
  simp only [Bool.and_eq_true, List.all_eq_true] at hin ⊢
  rw [hlen]
  refine ⟨hin.1, fun ob hob k hk => ?_⟩
  rcases List.mem_append.1 hob with hob | hob
  ·obtain ⟨j, ho⟩ := List.getElem?_of_mem hob
   have := hjs j ob ho k hk
   exact Nat.ble_eq_true_of_le (by omega)
  ·exact hin.2 ob (List.mem_append_right _ hob) k hk
 ·let ι1 : Nat → Prop := fun g => ι g ∨ Muts η (rdb bs X Ts) g
  have hM1 : Mem η ι1 w X := by
   refine ⟨fun j o ho => ?_, fun j j' ob ob' g ho ho' hm hm' => ?_, fun j ob g ho hm => ?_, fun g hg => ?_⟩
   ·obtain ⟨ob, hob⟩ := hXj j (List.getElem?_eq_some_iff.1 ho).1
    obtain ⟨o', h3, h4⟩ := rdb_get hob
    rw [ho] at h3; cases h3
    have hk := hM.ok j ob hob
    rcases h4 with rfl | ⟨T, z, es, rfl, rfl⟩ | ⟨c, T, rfl, rfl⟩
    ·exact hk.seg (fun g hg => .inl hg) (fun _ _ _ h _ => h) (fun _ _ _ h _ => h) (fun _ _ => rfl)
    ·exact own_rd (ι := ι) (ι' := ι1) hk (fun g hg => .inl hg) (fun g hg => .inr ⟨j, _, hob, hg⟩)
    ·obtain ⟨b, h5, h6⟩ := hk
     exact ⟨b, h5, .inr ⟨j, _, hob, by rw [h5]; rfl⟩, h6⟩
   ·rw [hmbX j ob _ ho] at hm; cases hm
   ·rw [hmbX j ob _ ho] at hm; cases hm
   ·rcases hg with hg | ⟨j, ob, ho, hm⟩
    ·exact hM.il g hg
    ·exact mb_lt (hM.ok j ob ho) hm
  have hno : ∀ g, ¬ Muts η X g := fun g ⟨j, o, ho, hm⟩ => by rw [hmbX j o _ ho] at hm; cases hm
  refine (hf η ι1 w hM1).mono fun e w' ⟨η', ι', k1, k2, k3, k4, k5, k6, k7⟩ => ?_
  have hst : Stay [] w w' := ⟨k4.os, k4.tape, k4.output, k4.size, fun k _ hk => k4.same k (hno k) hk⟩
  have hget : ∀ (j : Nat) (ob : Ob), (rdb bs X Ts ++ ns)[j]? = some ob → (j < X.length ∧ (rdb bs X Ts)[j]? = some ob) ∨ (X.length ≤ j ∧ (X ++ ns)[j]? = some ob ∧ ob ∈ ns) := fun j ob ho => by
   rcases Nat.lt_or_ge j X.length with h | h
   ·rw [List.getElem?_append_left (by omega)] at ho; exact .inl ⟨h, ho⟩
   ·rw [List.getElem?_append_right (by omega), hlen] at ho
    exact .inr ⟨h, by rw [List.getElem?_append_right h]; exact ho, List.mem_of_getElem? ho⟩
  have hnew : ∀ (j : Nat) (ob : Ob) (g : Nat), X.length ≤ j → (X ++ ns)[j]? = some ob → mb (η' j) ob = some g → w.heap.size ≤ g := fun j ob g hj ho hm => by
   rcases k7 g ⟨j, ob, ho, hm⟩ with h | h
   ·exact (hno g h).elim
   ·exact h
  have hold : ∀ (j : Nat) (ob : Ob) (g : Nat), j < X.length → (rdb bs X Ts)[j]? = some ob → mb (η' j) ob = some g → mb (η j) ob = some g ∧ g < w.heap.size := fun j ob g hj ho hm => by
   rw [k2 j hj] at hm
   exact ⟨hm, mb_lt (hM.ok j ob ho) hm⟩
  refine ⟨η', ι, k1, fun j hj => k2 j (by omega), ⟨fun j ob ho => ?_, fun j j' ob ob' g ho ho' hm hm' => ?_, fun j ob g ho hm => ?_, fun g hg => Nat.lt_of_lt_of_le (hM.il g hg) k4.size⟩, ⟨k4.os, k4.tape, k4.output, k4.size, fun k _ hk => k4.same k (hno k) hk⟩, fun g hg => hg, fun g hg => .inl hg, fun g ⟨j, ob, ho, hm⟩ => ?_⟩
  ·rcases hget j ob ho with ⟨hj', ho⟩ | ⟨hj', ho, hmem⟩
   ·rw [k2 j hj']
    exact (hM.ok j ob ho).stay (B := []) hst (fun g hg => hg) (fun g hg => ⟨by simp, hM.il g hg⟩) (fun g _ => by simp) (fun k hk => k2 k (hjs j ob ho k hk))
   ·have hk := k3.ok j ob ho
    have hfl := hn ob hmem
    cases ob with
    | row T z es =>
     obtain ⟨q1, xs, q2, q3⟩ := hk
     refine ⟨q1, xs, q2, fun i e' j' d he hd => ?_⟩
     obtain ⟨x, hx, hr⟩ := q3 i e' j' d he hd
     refine ⟨x, hx, ?_⟩
     have := hfl e' (List.mem_of_getElem? he) d (List.mem_of_getElem? hd)
     cases d with
     | v y => cases hr with | v _ h => exact .v _ h
     | s z' es' => cases this
    | _ => exact hfl.elim
  ·rcases hget j ob ho with ⟨hj', ho⟩ | ⟨hj', ho, _⟩ <;> rcases hget j' ob' ho' with ⟨hj2, ho'⟩ | ⟨hj2, ho', _⟩
   ·exact hM.ne j j' ob ob' g ho ho' (hold j ob g hj' ho hm).1 (hold j' ob' g hj2 ho' hm').1
   ·have := (hold j ob g hj' ho hm).2
    have := hnew j' ob' g hj2 ho' hm'
    omega
   ·have := (hold j' ob' g hj2 ho' hm').2
    have := hnew j ob g hj' ho hm
    omega
   ·exact k3.ne j j' ob ob' g ho ho' hm hm'
  ·rcases hget j ob ho with ⟨hj', ho⟩ | ⟨hj', ho, _⟩
   ·exact hM.ni j ob g ho (hold j ob g hj' ho hm).1
   ·intro hg
    have := hnew j ob g hj' ho hm
    have := hM.il g hg
    omega
  ·rcases hget j ob ho with ⟨hj', ho⟩ | ⟨hj', ho, _⟩
   ·exact .inl ⟨j, ob, ho, (hold j ob g hj' ho hm).1⟩
   ·exact .inr (hnew j ob g hj' ho hm)
def fz : List Bool → List Ob → List Ob
 | b :: bs, o :: X => (bif b then (match o with
   | .row _ z es => .sl z es
   | o => o) else o) :: fz bs X
 | _, X => X
theorem fz_get : ∀ {bs : List Bool} {X : List Ob} {j : Nat} {ob : Ob}, (fz bs X)[j]? = some ob → ∃ o, X[j]? = some o ∧ (ob = o ∨ ∃ T z es, o = .row T z es ∧ ob = .sl z es)
 | [], X, j, ob, h => ⟨ob, by cases X <;> exact h, .inl rfl⟩
 | _ :: _, [], j, ob, h => by cases h
 | b :: bs, o :: X, 0, ob, h => by
  refine ⟨o, rfl, ?_⟩
  simp only [fz, List.getElem?_cons_zero, Option.some.injEq] at h
  cases b
  ·exact .inl h.symm
  ·cases o <;> first | exact .inl h.symm | exact .inr ⟨_, _, _, rfl, h.symm⟩
 | b :: bs, o :: X, j + 1, ob, h => by
  obtain ⟨o', h1, h2⟩ := fz_get (bs := bs) (X := X) (j := j) (ob := ob) (by simpa [fz] using h)
  exact ⟨o', by simpa using h1, h2⟩
theorem fz_len : ∀ (bs : List Bool) (X : List Ob), (fz bs X).length = X.length
 | [], X => by cases X <;> rfl
 | _ :: _, [] => rfl
 | b :: bs, o :: X => by show (fz bs X).length + 1 = _; rw [fz_len bs X]; rfl
theorem fnp_fz {obs obs' ns : List Ob} {args : List AV} {r : AV} (bs : List Bool) (h : FnP P f obs args obs' ns r) : FnP P f obs args obs' (fz bs ns) r := by
 obtain ⟨hin, hlen, hf⟩ := h
 have hget : ∀ (j : Nat) (ob : Ob), (obs' ++ fz bs ns)[j]? = some ob → ∃ o, (obs' ++ ns)[j]? = some o ∧ (ob = o ∨ ∃ T z es, o = .row T z es ∧ ob = .sl z es) := fun j ob ho => by
  rcases Nat.lt_or_ge j obs'.length with h | h
  ·rw [List.getElem?_append_left h] at ho ⊢; exact ⟨ob, ho, .inl rfl⟩
  ·rw [List.getElem?_append_right h] at ho ⊢; exact fz_get ho
 refine ⟨?_, hlen, fun η ι w hM => (hf η ι w hM).mono fun e w' ⟨η', ι', k1, k2, k3, k4, k5, k6, k7⟩ => ?_⟩
 ·unfold inN at hin ⊢
  simp only [Bool.and_eq_true, List.all_eq_true] at hin ⊢
  rw [fz_len]
  refine ⟨hin.1, fun ob hob k hk => ?_⟩
  obtain ⟨j, hj⟩ := List.getElem?_of_mem hob
  obtain ⟨o, h1, h2⟩ := hget j ob hj
  rcases h2 with rfl | ⟨T, z, es, rfl, rfl⟩
  ·exact hin.2 _ (List.mem_of_getElem? h1) k hk
  ·cases hk
 ·let ι2 : Nat → Prop := fun g => ι' g ∨ ∃ j T z es, (obs' ++ fz bs ns)[j]? = some (.sl z es) ∧ (obs' ++ ns)[j]? = some (.row T z es) ∧ (η' j).ownBlock = some g
  have hmu : ∀ g, (∃ j T z es, (obs' ++ fz bs ns)[j]? = some (.sl z es) ∧ (obs' ++ ns)[j]? = some (.row T z es) ∧ (η' j).ownBlock = some g) → Muts η' (obs' ++ ns) g := fun g ⟨j, T, z, es, _, h2, h3⟩ => ⟨j, _, h2, h3⟩
  refine ⟨η', ι2, k1, k2, ⟨fun j ob ho => ?_, fun j j' ob ob' g ho ho' hm hm' => ?_, fun j ob g ho hm => ?_, fun g hg => ?_⟩, k4, fun g hg => .inl (k5 g hg), fun g hg => ?_, fun g ⟨j, ob, ho, hm⟩ => ?_⟩
  ·obtain ⟨o, h1, h2⟩ := hget j ob ho
   have hk := k3.ok j o h1
   rcases h2 with rfl | ⟨T, z, es, rfl, rfl⟩
   ·exact hk.seg (fun g hg => .inl hg) (fun _ _ _ h _ => h) (fun _ _ _ h _ => h) (fun _ _ => rfl)
   ·exact own_rd (ι := ι') (ι' := ι2) hk (fun g hg => .inl hg) (fun g hg => .inr ⟨j, T, z, es, ho, h1, hg⟩)
  ·obtain ⟨o, h1, h2⟩ := hget j ob ho
   obtain ⟨o', h1', h2'⟩ := hget j' ob' ho'
   rcases h2 with rfl | ⟨T, z, es, rfl, rfl⟩
   ·rcases h2' with rfl | ⟨T, z, es, rfl, rfl⟩
    ·exact k3.ne j j' _ _ g h1 h1' hm hm'
    ·cases hm'
   ·cases hm
  ·obtain ⟨o, h1, h2⟩ := hget j ob ho
   rcases h2 with rfl | ⟨T, z, es, rfl, rfl⟩
   ·rintro (hg | ⟨j', T, z, es, h3, h4, h5⟩)
    ·exact k3.ni j _ g h1 hm hg
    ·have := k3.ne j j' _ _ g h1 h4 hm h5
     subst this
     rw [h1] at h4; cases h4
     rw [h3] at ho; cases ho
   ·cases hm
  ·rcases hg with hg | hg
   ·exact k3.il g hg
   ·obtain ⟨j, ob, h1, h2⟩ := hmu g hg
    exact mb_lt (k3.ok j ob h1) h2
  ·rcases hg with hg | hg
   ·exact k6 g hg
   ·exact .inr (k7 g (hmu g hg))
  ·obtain ⟨o, h1, h2⟩ := hget j ob ho
   rcases h2 with rfl | ⟨T, z, es, rfl, rfl⟩
   ·exact k7 g ⟨j, _, h1, hm⟩
   ·cases hm
end
end Go.Eo
namespace Go.Eo
open Go Go.RowKit Go.Rg
structure Seg (B : Nat) (M : Nat → Prop) (W W' : World) : Prop where
 below : Below B W W'
 cells : ∀ (k : Nat) (o : Obj), ¬ M k → W.heap[k]? = some o → o.isCells = true → W'.heap[k]? = some o
theorem Seg.of_ext {B : Nat} {M : Nat → Prop} {W W' : World} (h : Ext B W W') : Seg B M W W' := ⟨h.below, fun k o _ => h.cells k o⟩
theorem Seg.mono {B B' : Nat} {M M' : Nat → Prop} {X Y : World} (h : Seg B M X Y) (hB : B' ≤ B) (hM : ∀ k, M k → M' k) : Seg B' M' X Y := ⟨h.below.mono hB, fun k o hk => h.cells k o fun h => hk (hM k h)⟩
def tri (S O M : Nat → Prop) : Nat → Prop := fun j => S j ∨ O j ∨ M j
structure Bd (B : Nat) (O M : Nat → Prop) (X : World) : Prop where
 o : ∀ j, O j → B ≤ j ∧ j < X.heap.size
 m : ∀ j, M j → B ≤ j ∧ j < X.heap.size
 d : ∀ j, O j → ¬ M j
structure Nx (O M O' M' : Nat → Prop) (X Y : World) : Prop where
 o : ∀ j, O' j → O j ∨ M j ∨ (X.heap.size ≤ j ∧ j < Y.heap.size)
 m : ∀ j, M' j → M j ∨ (X.heap.size ≤ j ∧ j < Y.heap.size)
theorem Nx.refl (O M : Nat → Prop) (X Y : World) : Nx O M O M X Y := ⟨fun j h => .inl h, fun j h => .inl h⟩
def SeqJ (P : Program) (gf : Nat) (lb : Array Value) (n : Nat) (hand : Nat → Array Value → (Nat → Prop) → World → Prop) (S : Nat → Prop) (w : World) : Prop :=
 ∀ (l : Nat) (J Jx : Nat → (Nat → Prop) → (Nat → Prop) → World → Prop) (W : World), Kept S w W →
  (∀ k O M O' M' X Y, J k O M X → Seg W.heap.size M X Y → Nx O M O' M' X Y → J k O' M' Y) → (∀ k O M O' M' X Y, Jx k O M X → Seg W.heap.size M X Y → Nx O M O' M' X Y → Jx k O' M' Y) →
  (∀ k x O M X, k < n → hand k x O X → Kept S W X → Bd W.heap.size O M X → J k O M X → YieldAt (WF none) 0 P l x X fun e X' =>
   (e = .returned (.bool true) ∧ J (k + 1) O M X' ∧ Eff W.heap.size (tri S O M) X X') ∨ (e = .returned (.bool false) ∧ Jx (k + 1) O M X' ∧ Eff W.heap.size (tri S O M) X X')) →
  J 0 (fun _ => False) (fun _ => False) W →
  CallsIn (WF none) 0 P gf (#[.func (.yield l) #[] #[]] ++ lb) W fun e W' => (∃ v, e = .returned v) ∧ Kept S W W' ∧ ((∃ O M, Bd W.heap.size O M W' ∧ J n O M W') ∨ ∃ k O M, 0 < k ∧ k ≤ n ∧ Bd W.heap.size O M W' ∧ Jx k O M W')
section
variable {P : Program}
theorem wp_rangeJ {g : Operand} {ps : Array Tmp} {assign body : Code} {Q : Exit → Act → World → Prop} {a : Act} {w : World} {gf : Nat} {lb : Array Value}
  (hg : a.eval g = .func (.func gf) #[] lb) (eg : ∀ args w, (callFunc gf args).run P w = .ok (.enter gf args) w)
  {n : Nat} {hand : Nat → Array Value → (Nat → Prop) → World → Prop} {S : Nat → Prop} {w0 : World} (hseq : SeqJ P gf lb n hand S w0) (hw0 : Kept S w0 w) (hS : ∀ k, S k → k < w.heap.size) (hps : ∀ k x O X, hand k x O X → x.size = ps.size)
  (I : Nat → (Nat → Prop) → (Nat → Prop) → World → Prop) (Ix : Code → Nat → (Nat → Prop) → (Nat → Prop) → World → Prop)
  (hI : ∀ k O M O' M' X Y, I k O M X → w.heap.size ≤ X.heap.size → Seg w.heap.size M X Y → Nx O M O' M' X Y → I k O' M' Y) (hIx : ∀ c k O M O' M' X Y, Ix c k O M X → w.heap.size ≤ X.heap.size → Seg w.heap.size M X Y → Nx O M O' M' X Y → Ix c k O' M' Y) (h0 : I 0 (fun _ => False) (fun _ => False) w)
  (hround : ∀ (l k : Nat) (x : Array Value) (O M : Nat → Prop) (W : World), w.heap.size < l → l < W.heap.size → k < n → hand k x O W → Kept S w W → Bd (l + 1) O M W → I k O M W →
   assign.wpIn (WF (some l)) 0 P (Exit.then (fun a' Wa => Eff w.heap.size (tri S O M) W Wa ∧ ∀ Wb, Ext w.heap.size Wa Wb → Kept (tri S O M) Wa Wb → Wb.heap.size = Wa.heap.size → (∃ r, Wb.heap[l]? = some (.loop r)) → body.wpIn (WF (some l)) 0 P (roundEnd w.heap.size (tri S O M) (I (k + 1) O M) (fun c => Ix c (k + 1) O M) Wb) a' Wb) (fun _ _ _ => False))
    { tmps := (ps.zip x).foldl (fun t (p, v) => t.setIfInBounds p v) a.tmps, defers := [] } W)
  (hdone : ∀ (O M : Nat → Prop) (W : World), Kept S w W → w.heap.size < W.heap.size → I n O M W → W.heap[w.heap.size]? = some (.deferred (some [])) → Q .normal { a with defers := { target := .collected w.heap.size, args := #[] } :: a.defers } W)
  (hstop : ∀ (c : Code) (k : Nat) (O M : Nat → Prop) (W : World), Kept S w W → w.heap.size < W.heap.size → 0 < k → k ≤ n → Ix c k O M W → W.heap[w.heap.size]? = some (.deferred (some [])) → c.wpIn (WF none) 0 P Q { a with defers := { target := .collected w.heap.size, args := #[] } :: a.defers } W) :
  (Code.rangeFunc g ps assign body).wpIn (WF none) 0 P Q a w := by
 refine wpIn_rangeFunc ?_
 intro fn hfn
 obtain ⟨rec, hrec⟩ : ∃ rec : Loop, rec = { state := .ready, pending := none, fn, tmps := a.tmps, params := ps, assign, body, defers := w.heap.size } := ⟨_, rfl⟩
 obtain ⟨W1, hW1⟩ : ∃ W1, (w.alloc (.deferred (some []))).alloc (.loop rec) = W1 := ⟨_, rfl⟩
 have hsz : W1.heap.size = w.heap.size + 2 := by rw [← hW1]; simp
 have hL1 : W1.heap[w.heap.size + 1]? = some (.loop rec) := by
  rw [← hW1]; have := World.alloc_heap_new (w.alloc (.deferred (some []))) (.loop rec); rwa [World.size_alloc] at this
 have hK1 : W1.heap[w.heap.size]? = some (.deferred (some [])) := by
  rw [← hW1]; exact (Below.heap_alloc _ _ _ (by simp)).trans (World.alloc_heap_new w _)
 have hb1 : Below w.heap.size w W1 := by rw [← hW1]; exact ((Below.refl _ w).alloc (Nat.le_refl _) _).alloc (by simp) _
 have hk1 : Kept S w W1 := (Kept.of_below hb1).mono hS
 have hI1 : I 0 (fun _ => False) (fun _ => False) W1 := hI _ _ _ _ _ _ _ h0 (Nat.le_refl _) (Seg.of_ext (Ext.of_below hb1)) (Nx.refl _ _ _ _)
 have hput : ∀ (W : World) (o : Obj), Kept S W (W.putObj (w.heap.size + 1) o) := fun W o => ⟨rfl, rfl, rfl, by simp, fun k hk => World.putObj_heap_other (by have := hS k hk; omega)⟩
 refine ⟨w.heap.size + 1, [{ target := .collected w.heap.size, args := #[] }], W1, { target := .fn (.func gf) lb, args := #[.func (.yield (w.heap.size + 1)) #[] #[]] }, W1, gf,
  #[.func (.yield (w.heap.size + 1)) #[] #[]] ++ lb, W1, ?_, ?_, ?_, ?_, (fun h => absurd h (by simp)), ?_⟩
 ·rw [← hW1, hrec]; exact run_enterLoop_outer _ _ _ _ _
 ·simp only [resolve, hg]
  simp [go_sem]
 ·intro f' _; trivial
 ·simp [invoke, go_sem, eg]
 ·refine (hseq (w.heap.size + 1)
   (fun k O M W => I k O M W ∧ Kept S w W ∧ W.heap[w.heap.size + 1]? = some (.loop rec) ∧ W.heap[w.heap.size]? = some (.deferred (some [])))
   (fun k O M W => Kept S w W ∧ (∃ c, Ix c k O M W ∧ W.heap[w.heap.size + 1]? = some (.loop { rec with state := .done, pending := some c })) ∧ W.heap[w.heap.size]? = some (.deferred (some [])))
   W1 (hw0.trans hk1) ?_ ?_ ?_ ⟨hI1, hk1, hL1, hK1⟩).mono ?_
  ·rintro k O M O' M' X Y ⟨h1, h2, h3, h4⟩ hx hn
   have hXs := h2.size
   exact ⟨hI _ _ _ _ _ _ _ h1 hXs (hx.mono (by omega) (fun _ h => h)) hn, h2.trans ((Kept.of_below hx.below).mono (fun i hi => by have := hS i hi; omega)), (hx.below.block _ (by omega)).trans h3, (hx.below.block _ (by omega)).trans h4⟩
  ·rintro k O M O' M' X Y ⟨h2, ⟨c, h1, h3⟩, h4⟩ hx hn
   have hXs := h2.size
   exact ⟨h2.trans ((Kept.of_below hx.below).mono (fun i hi => by have := hS i hi; omega)), ⟨c, hIx _ _ _ _ _ _ _ _ h1 hXs (hx.mono (by omega) (fun _ h => h)) hn, (hx.below.block _ (by omega)).trans h3⟩, (hx.below.block _ (by omega)).trans h4⟩
  ·rintro k x O M X hx hh hk hbd ⟨h1, h2, h3, h4⟩
   have hps' := hps k x O X hh
   have hXs := h2.size
   have hOl : ¬ tri S O M (w.heap.size + 1) := by
    rintro (h | h | h)
    ·have := hS _ h; omega
    ·have := (hbd.o _ h).1; omega
    ·have := (hbd.m _ h).1; omega
   have hst : ∀ A X' Y, w.heap.size ≤ X'.heap.size → I A O M X' → Ext w.heap.size X' Y → I A O M Y := fun A X' Y hs h hx => hI _ _ _ _ _ _ _ h hs (Seg.of_ext hx) (Nx.refl _ _ _ _)
   have := round_law (P := P) (r0 := none) (fn := fn) (l := w.heap.size + 1) (m := 0) (rec := rec) (S := tri S O M) (x := x) (W := X) (I := fun Y => w.heap.size ≤ Y.heap.size ∧ I (k + 1) O M Y) (Ix := fun c Y => w.heap.size ≤ Y.heap.size ∧ Ix c (k + 1) O M Y) (B := w.heap.size) h3 (by rw [hrec]) (by rw [hrec]) (by rw [hrec]; exact hps') hOl (by omega)
    (fun X Y h hx => ⟨Nat.le_trans h.1 hx.size, hst _ _ _ h.1 h.2 hx⟩) (fun c X Y h hx => ⟨Nat.le_trans h.1 hx.size, hIx c _ _ _ _ _ _ _ h.2 h.1 (Seg.of_ext hx) (Nx.refl _ _ _ _)⟩)
    (by
     rw [hrec]
     refine wpIn_mono (hround _ k x O M X (by omega) (Array.getElem?_eq_some_iff.1 h3).1 hx hh h2 ⟨fun j hj => ⟨by have := (hbd.o j hj).1; omega, (hbd.o j hj).2⟩, fun j hj => ⟨by have := (hbd.m j hj).1; omega, (hbd.m j hj).2⟩, hbd.d⟩ h1) ?_
     rintro e a' Wa hq
     cases e with
     | normal =>
      refine ⟨hq.1, fun Wb e1 e2 e3 e4 => wpIn_mono (hq.2 Wb e1 e2 e3 e4) ?_⟩
      have hsb : w.heap.size ≤ Wb.heap.size := Nat.le_trans hXs (Nat.le_trans hq.1.kept.size e1.size)
      rintro e2 a2 Wc hq2
      cases e2 with
      | normal => exact ⟨hq2.1, Nat.le_trans hsb hq2.1.kept.size, hq2.2⟩
      | ret => exact ⟨hq2.1, Nat.le_trans hsb hq2.1.kept.size, hq2.2⟩
      | exit id => exact ⟨hq2.1, Nat.le_trans hsb hq2.1.kept.size, hq2.2⟩
      | goto t => exact ⟨hq2.1, Nat.le_trans hsb hq2.1.kept.size, hq2.2⟩
      | panic ch => exact hq2
      | outgrown => exact hq2
     | exit id => exact hq.elim
     | goto t => exact hq.elim
     | ret => exact hq.elim
     | panic ch => exact hq.elim
     | outgrown => exact hq.elim)
   obtain ⟨f1, t1, a1, b1, hy, hR⟩ := this
   refine ⟨f1, t1, a1, b1, hy, hR.mono ?_⟩
   have hSm : ∀ X', Kept (tri S O M) X X' → Kept S X X' := fun X' h => h.mono (fun j hj => .inl hj)
   rintro e X' (⟨rfl, hi, hl, hkk, ho⟩ | ⟨rfl, ⟨c, hc, hcl⟩, hkk, ho⟩)
   ·exact .inl ⟨rfl, ⟨hi.2, h2.trans (hSm _ hkk), hl, ho _ _ (by omega) (Nat.le_refl _) h4 rfl⟩, hkk, fun j o hj => ho j o (by omega) (by omega)⟩
   ·exact .inr ⟨rfl, ⟨h2.trans (hSm _ hkk), ⟨c, hc.2, hcl⟩, ho _ _ (by omega) (Nat.le_refl _) h4 rfl⟩, hkk, fun j o hj => ho j o (by omega) (by omega)⟩
  ·rintro e W2 ⟨⟨v, rfl⟩, hkk, (⟨O, M, hbd, hi, h2, hl, hk⟩ | ⟨k, O, M, hk0, hkl, hbd, h2, ⟨c, hi, hl⟩, hk⟩)⟩
   ·have hlt := (Array.getElem?_eq_some_iff.1 hl).1
    have hend := run_endLoop (P := P) hl (by rw [hrec]; simp)
    have hpe : rec.pending = none := by rw [hrec]
    rw [hpe] at hend
    exact ⟨none, W2.putObj (w.heap.size + 1) (.loop { rec with state := .exhausted, pending := none }), hend, hdone O M _ (h2.trans (hput _ _)) (by simp; omega) (hI _ _ _ _ _ _ _ hi h2.size (Seg.of_ext (Ext.putObj (by omega) hl rfl _)) (Nx.refl _ _ _ _)) ((World.putObj_heap_other (by omega)).trans hk)⟩
   ·have hlt := (Array.getElem?_eq_some_iff.1 hl).1
    have hend := run_endLoop (P := P) hl (by simp)
    exact ⟨some c, W2.putObj (w.heap.size + 1) (.loop { { rec with state := .done, pending := some c } with state := .exhausted }), hend, hstop c k O M _ (h2.trans (hput _ _)) (by simp; omega) hk0 hkl (hIx _ _ _ _ _ _ _ _ hi h2.size (Seg.of_ext (Ext.putObj (by omega) hl rfl _)) (Nx.refl _ _ _ _)) ((World.putObj_heap_other (by omega)).trans hk)⟩
end
end Go.Eo
