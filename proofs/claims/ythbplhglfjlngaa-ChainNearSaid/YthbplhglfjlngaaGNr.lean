/- A region whose last operation waits for all the others: these by whatever law, then the last one. No program in sight. -/
import Derived.Test.YthbplhglfjlngaaGNg
import Derived.Test.YthbplhglfjlngaaGNb
import Derived.Test.YthbplhglfjlngaaGNq
import Derived.Deep.Cut

set_option linter.unusedVariables false
set_option linter.unusedSimpArgs false
namespace Go.Rg
open Go Go.RowKit
section
variable {P : Program} {Q : Exit → Act → World → Prop} {l : List Oper} {s : Oper}
/-- behind the others: the last one -/
@[irreducible] def lastQ (P : Program) (s : Oper) (Q : Exit → Act → World → Prop) : Exit → Act → World → Prop
  | .normal, a, w => s.wp P a w (fun a' w' => Q .normal a' w') Q
  | e, a, w => Q e a w
theorem lastQ_normal {a : Act} {w : World} : lastQ P s Q .normal a w = s.wp P a w (fun a' w' => Q .normal a' w') Q := by unfold lastQ; rfl
theorem lastQ_panic {c : List PanicEntry} {a : Act} {w : World} : lastQ P s Q (.panic c) a w = Q (.panic c) a w := by unfold lastQ; rfl
theorem lastQ_out {a : Act} {w : World} : lastQ P s Q .outgrown a w = Q .outgrown a w := by unfold lastQ; rfl
theorem lets_lastQ : LetsOut (lastQ P s Q) → LetsOut Q := fun ⟨a, w, h⟩ => ⟨a, w, by rwa [lastQ_out] at h⟩
theorem wp_lastQ {o : Oper} {a : Act} {w : World} {K K' : Act → World → Prop} (hK : ∀ a w, K a w → K' a w) (h : o.wp P a w K (lastQ P s Q)) : o.wp P a w K' Q := by
  unfold Oper.wp at *
  generalize (execOp a.eval o).run P w = r at *
  cases r with
  | ok n w' =>
    cases n with
    | value v => exact hK _ _ h
    | skip => exact hK _ _ h
    | defer d => exact hK _ _ h
    | enter f args =>
      refine Calls.mono h fun e w'' he => ?_
      cases e with
      | returned v => exact hK _ _ he
      | panicked c => exact (lastQ_panic (P := P) (s := s) (Q := Q) (a := a)).mp he
      | outgrown => exact lets_lastQ he
    | row row args => exact fun c cs => let ⟨v, w', r, t⟩ := h c cs; ⟨v, w', hK _ _ r, t⟩
    | _ => exact h.elim
  | halt x w' =>
    cases x with
    | panic v => exact (lastQ_panic (P := P) (s := s) (Q := Q) (a := a)).mp h
    | _ => exact h.elim
theorem ready_mono2 {ops : Array Oper} {md : Region.Mode} {listed : Array Bool} {j n : Nat} (hj : j ∈ Region.ready md ops (listed.setIfInBounds n true)) (e : j ≠ n) (hlow : ∀ (j : Nat) (o : Oper), ops[j]? = some o → ∀ e ∈ o.after, Region.binds md e = true → e.on ≠ n ∨ j = n) : j ∈ Region.ready md ops listed := by
  obtain ⟨h1, o, ho, h2⟩ := mem_ready.1 hj
  refine mem_ready.2 ⟨?_, o, ho, fun e' he hb => ?_⟩
  · rwa [getD_set_ne true (Ne.symm e)] at h1
  · have := h2 e' he hb
    rcases hlow j o ho e' he hb with h | h
    · rwa [getD_set_ne false (Ne.symm h)] at this
    · exact absurd h e
def waitsAllB (l : List Oper) (s : Oper) : Bool :=
  s.guard.isNone && s.after.all (fun e => decide (e.on < l.length)) && l.all (fun o => o.guard.isNone && o.after.all fun e => !Region.binds .any e || decide (e.on < l.length)) && (List.range l.length).all fun k => waitB .any s k
theorem snoc_any (hB : waitsAllB l s = true) (hlex : ∀ (j : Nat) (o : Oper), l[j]? = some o → ∀ e ∈ o.after, Region.binds .any e = true → e.on < j) : ∀ (fuel : Nat) (listed : Array Bool) (a : Act) (w : World), listed.size = l.length →
    wpAny P .any l.toArray (lastQ P s Q) fuel listed a w → wpAny P .any (l ++ [s]).toArray Q (fuel + 1) (listed.push false) a w := by
  unfold waitsAllB at hB
  simp only [Bool.and_eq_true] at hB
  obtain ⟨⟨⟨hs, hsa⟩, hl⟩, hall⟩ := hB
  have hsg : s.guard = none := by simpa using hs
  have hlg : ∀ (j : Nat) (o : Oper), l[j]? = some o → o.guard = none := fun j o ho => by
    rw [List.all_eq_true] at hl
    have := hl o (List.mem_of_getElem? ho)
    simp only [Bool.and_eq_true] at this
    simpa using this.1
  have hops : ∀ j, j < l.length → (l ++ [s]).toArray[j]? = l.toArray[j]? := fun j hj => by simp [List.getElem?_append_left hj]
  have hopn : (l ++ [s]).toArray[l.length]? = some s := by simp
  have hw : ∀ o : Oper, o.guard = none → ∀ y, Region.wanted o y = true := fun o ho y => by unfold Region.wanted; rw [ho]
  -- which are ready
  have rdy : ∀ (listed : Array Bool), listed.size = l.length → ∀ i, i ∈ Region.ready .any (l ++ [s]).toArray (listed.push false) → (i < l.length ∧ i ∈ Region.ready .any l.toArray listed) ∨ (i = l.length ∧ Region.ready .any l.toArray listed = []) := fun listed hsz i hi => by
    obtain ⟨h1, o, ho, h2⟩ := mem_ready.1 hi
    have hil : i < l.length + 1 := by have := (Array.getElem?_eq_some_iff.1 ho).1; simpa using this
    by_cases e : i = l.length
    · right
      refine ⟨e, ?_⟩
      subst e
      rw [hopn] at ho; cases ho
      cases hr : Region.ready .any l.toArray listed with
      | nil => rfl
      | cons j r =>
        exfalso
        obtain ⟨hun, o', ho', _⟩ := mem_ready.1 (show j ∈ Region.ready .any l.toArray listed by rw [hr]; exact List.mem_cons_self ..)
        have hj : j < l.length := by have := (Array.getElem?_eq_some_iff.1 ho').1; simpa using this
        rw [List.all_eq_true] at hall
        obtain ⟨e, he, hb, hon⟩ := waitB_spec (hall j (List.mem_range.2 hj))
        have h3 := h2 e he hb
        rw [hon] at h3
        have hjs : j < listed.size := by omega
        have : (listed.push false).getD j false = listed.getD j true := by
          simp [Array.getD, hjs, Nat.lt_succ_of_lt hjs, Array.getElem_push_lt hjs]
        rw [this, hun] at h3; cases h3
    · left
      have hi2 : i < l.length := by omega
      refine ⟨hi2, mem_ready.2 ⟨?_, o, by rw [← hops i hi2]; exact ho, fun e he hb => ?_⟩⟩
      · have hjs : i < listed.size := by omega
        have : (listed.push false).getD i true = listed.getD i true := by
          simp [Array.getD, hjs, Nat.lt_succ_of_lt hjs, Array.getElem_push_lt hjs]
        rwa [this] at h1
      · have h3 := h2 e he hb
        rw [hops i hi2] at ho
        have hei := hlex i o (by simpa using ho) e he hb
        have hjs : e.on < listed.size := by omega
        have : (listed.push false).getD e.on false = listed.getD e.on false := by
          simp [Array.getD, hjs, Nat.lt_succ_of_lt hjs, Array.getElem_push_lt hjs]
        rwa [this] at h3
  have rdyn : ∀ (listed : Array Bool), listed.size = l.length → Region.ready .any l.toArray listed = [] → l.length ∈ Region.ready .any (l ++ [s]).toArray (listed.push false) := fun listed hsz hr => by
    refine mem_ready.2 ⟨by rw [← hsz]; simp [Array.getD], s, hopn, fun e he hb => ?_⟩
    have hall2 := all_listed (md := .any) (ops := l.toArray) (fun j o ho => hlex j o (by simpa using ho)) (by simpa using hsz) hr
    have hon : e.on < l.length := by
      rw [Array.all_eq_true'] at hsa
      simpa using hsa e he
    have hjs : e.on < listed.size := by omega
    have h3 := hall2 e.on (by simpa using hon)
    have : (listed.push false).getD e.on false = listed.getD e.on false := by
      simp [Array.getD, hjs, Nat.lt_succ_of_lt hjs, Array.getElem_push_lt hjs]
    rw [this]; exact h3
  have up : ∀ (listed : Array Bool), listed.size = l.length → ∀ j, j ∈ Region.ready .any l.toArray listed → j ∈ Region.ready .any (l ++ [s]).toArray (listed.push false) := fun listed hsz j hj => by
    obtain ⟨h1, o, ho, h2⟩ := mem_ready.1 hj
    have hjl : j < l.length := by have := (Array.getElem?_eq_some_iff.1 ho).1; simpa using this
    have hjs : j < listed.size := by omega
    refine mem_ready.2 ⟨?_, o, by rw [hops j hjl]; exact ho, fun e he hb => ?_⟩
    · have : (listed.push false).getD j true = listed.getD j true := by
        simp [Array.getD, hjs, Nat.lt_succ_of_lt hjs, Array.getElem_push_lt hjs]
      rw [this]; exact h1
    · have hei := hlex j o (by simpa using ho) e he hb
      have hes : e.on < listed.size := by omega
      have : (listed.push false).getD e.on false = listed.getD e.on false := by
        simp [Array.getD, hes, Nat.lt_succ_of_lt hes, Array.getElem_push_lt hes]
      rw [this]; exact h2 e he hb
  have setp : ∀ (listed : Array Bool) (i : Nat), i < listed.size → (listed.push false).setIfInBounds i true = (listed.setIfInBounds i true).push false := fun listed i hi => by
    apply Array.ext'
    rw [Array.toList_setIfInBounds, Array.toList_push, Array.toList_push, Array.toList_setIfInBounds, List.set_append_left _ _ (by simpa using hi)]
  have last : ∀ (fuel : Nat) (listed : Array Bool) (a : Act) (w : World), listed.size = l.length → Region.ready .any l.toArray listed = [] → lastQ P s Q .normal a w → wpOp P (l ++ [s]).toArray Q l.length (wpAny P .any (l ++ [s]).toArray Q fuel ((listed.push false).setIfInBounds l.length true)) a w := fun fuel listed a w hsz hr hq => by
    have hr2 : Region.ready .any (l ++ [s]).toArray ((listed.push false).setIfInBounds l.length true) = [] := by
      cases hr3 : Region.ready .any (l ++ [s]).toArray ((listed.push false).setIfInBounds l.length true) with
      | nil => rfl
      | cons j r =>
        exfalso
        have hj := show j ∈ Region.ready .any (l ++ [s]).toArray ((listed.push false).setIfInBounds l.length true) by rw [hr3]; exact List.mem_cons_self ..
        by_cases e : j = l.length
        · subst e
          obtain ⟨h1, _⟩ := mem_ready.1 hj
          rw [← hsz] at h1
          simp [Array.getD] at h1
        · have hj2 := ready_mono2 hj e (fun j o ho e' he hb => by
            by_cases hjl : j < l.length
            · left
              rw [hops j hjl] at ho
              have := hlex j o (by simpa using ho) e' he hb
              omega
            · right
              have := (Array.getElem?_eq_some_iff.1 ho).1
              simp at this
              omega)
          rcases rdy listed hsz j hj2 with ⟨_, h⟩ | ⟨h, _⟩
          · rw [hr] at h; cases h
          · exact e h
    unfold wpOp
    rw [hopn]
    simp only [hw s hsg, if_true]
    rw [lastQ_normal] at hq
    refine .inl (Oper.wp_mono (fun a' w' hq' => ?_) hq)
    cases fuel with
    | zero => exact ⟨hr2, hq'⟩
    | succ fuel => exact ⟨fun _ => hq', by rw [hr2]; simp⟩
  intro fuel
  induction fuel with
  | zero =>
    intro listed a w hsz h
    refine ⟨fun hr => ?_, fun i hi => ?_⟩
    · exfalso
      have := rdyn listed hsz h.1
      rw [hr] at this; cases this
    · rcases rdy listed hsz i hi with ⟨_, hm⟩ | ⟨rfl, _⟩
      · rw [h.1] at hm; cases hm
      · exact last 0 listed a w hsz h.1 h.2
  | succ fuel ih =>
    intro listed a w hsz h
    refine ⟨fun hr => ?_, fun i hi => ?_⟩
    · exfalso
      by_cases hr0 : Region.ready .any l.toArray listed = []
      · have := rdyn listed hsz hr0
        rw [hr] at this; cases this
      · cases hc : Region.ready .any l.toArray listed with
        | nil => exact hr0 hc
        | cons j r =>
          have hj : j ∈ Region.ready .any l.toArray listed := by rw [hc]; exact List.mem_cons_self ..
          have := up listed hsz j hj
          rw [hr] at this; cases this
    · rcases rdy listed hsz i hi with ⟨hi2, hm⟩ | ⟨rfl, hr⟩
      · have h2 := h.2 i hm
        obtain ⟨o, ho⟩ : ∃ o, l[i]? = some o := ⟨_, List.getElem?_eq_getElem hi2⟩
        unfold wpOp at h2 ⊢
        rw [hops i hi2]
        have ho' : l.toArray[i]? = some o := by simpa using ho
        rw [ho'] at h2 ⊢
        simp only [hw o (hlg i o ho), if_true] at h2 ⊢
        rcases h2 with h2 | h2
        · refine .inl (wp_lastQ (fun a' w' hk => ?_) h2)
          rw [setp listed i (by omega)]
          exact ih _ a' w' (by simpa using hsz) hk
        · exact .inr ⟨h2.1, lets_lastQ h2.2⟩
      · exact last (fuel + 1) listed a w hsz hr (h.1 hr)
/-- the last operation of a region waits for all the others -/
theorem every_last {L : List Oper} {a : Act} {w : World} (n : Nat) (hn : L[n]? = some s) (hlen : L.length = n + 1) (hB : waitsAllB (L.take n) s = true) (hlex : dagB (L.take n) a.tmps.size = true) (h : Every P (L.take n) (lastQ P s Q) a w) : Every P L Q a w := by
  intro w1 hw1
  have hL : L = L.take n ++ [s] := by
    have h1 : L.take (n + 1) = L := List.take_of_length_le (by omega)
    rw [← h1, List.take_add_one, hn]
    rw [List.take_append_of_le_length (by rw [List.length_take]; omega), List.take_take]
    simp
  have h2 := h w1 hw1
  obtain ⟨_, _, h3⟩ := dagB_spec hlex
  have hln : (L.take n).length = n := by rw [List.length_take]; omega
  have := snoc_any hB (fun j o ho => h3 j o (by simpa using ho)) (L.take n).toArray.size (Array.replicate (L.take n).toArray.size false) a w1 (by simp) h2
  rw [← hL] at this
  have e : Array.replicate L.toArray.size false = (Array.replicate (L.take n).toArray.size false).push false := by
    rw [List.size_toArray, List.size_toArray, hln, hlen, Array.replicate_succ]
  have e2 : L.toArray.size = (L.take n).toArray.size + 1 := by rw [List.size_toArray, List.size_toArray, hln, hlen]
  rw [e, e2]
  exact this
theorem lastQ_do {a : Act} {w w' : World} (hy : (execOp a.eval s).run P w = .ok .skip w') (h : Q .normal (a.put s.dst undef) w') : lastQ P s Q .normal a w := by
  rw [lastQ_normal]
  unfold Oper.wp
  rw [hy]; exact h
end
end Go.Rg

set_option linter.unusedVariables false
set_option linter.unusedSimpArgs false
namespace Go.Proofs.Ythbplhglfjlngaa
open Go.RowKit Go.Rg Go.Wd
attribute [local go_sem] Oper.semAt_some
theorem lmI {n : Int} (h : n.natAbs ≤ 9223372036854775808) : n.natAbs < lim := by
  have h3 : 9223372036854775808 < lim := by unfold lim; decide +kernel
  omega
/-- a number of moderate size -/
def Mid (z : Int) : Prop := z.natAbs ≤ 73786976294838206464
theorem lmZ {n : Int} (h : Mid n) : n.natAbs < lim := by
  have h3 : 73786976294838206464 < lim := by unfold lim; decide +kernel
  unfold Mid at h; omega
theorem lmP1 {x z : Int} (hx : x.natAbs ≤ 9223372036854775808) (h : Mid z) : (x * z).natAbs < lim := by
  have h3 : 9223372036854775808 * 73786976294838206464 < lim := by unfold lim; decide +kernel
  rw [Int.natAbs_mul]
  exact Nat.lt_of_le_of_lt (Nat.mul_le_mul hx h) h3
theorem lmP2 {y x z : Int} (hy : Mid y) (hx : x.natAbs ≤ 9223372036854775808) (h : Mid z) : (y - x * z).natAbs < lim := by
  have h3 : 73786976294838206464 + 9223372036854775808 * 73786976294838206464 < lim := by unfold lim; decide +kernel
  have h4 : (x * z).natAbs ≤ 9223372036854775808 * 73786976294838206464 := by rw [Int.natAbs_mul]; exact Nat.mul_le_mul hx h
  unfold Mid at hy
  omega
theorem midP {y x z : Int} (hy : Mid y) (hx : x.natAbs ≤ 9223372036854775808) (h : Mid z) : (y - x * z).natAbs ≤ 73786976294838206464 + 9223372036854775808 * 73786976294838206464 := by
  have h4 : (x * z).natAbs ≤ 9223372036854775808 * 73786976294838206464 := by rw [Int.natAbs_mul]; exact Nat.mul_le_mul hx h
  unfold Mid at hy
  omega
theorem midQ {y x z k : Int} (hy : Mid y) (hx : x.natAbs ≤ 9223372036854775808) (h : Mid z) (hk : k.natAbs ≤ 9223372036854775808) : (k * (y - x * z)).natAbs ≤ 9223372036854775808 * (73786976294838206464 + 9223372036854775808 * 73786976294838206464) := by
  rw [Int.natAbs_mul]; exact Nat.mul_le_mul hk (midP hy hx h)
theorem lmQ {y x z k : Int} (hy : Mid y) (hx : x.natAbs ≤ 9223372036854775808) (h : Mid z) (hk : k.natAbs ≤ 9223372036854775808) : (k * (y - x * z)).natAbs < lim := by
  have h3 : 9223372036854775808 * (73786976294838206464 + 9223372036854775808 * 73786976294838206464) < lim := by unfold lim; decide +kernel
  exact Nat.lt_of_le_of_lt (midQ hy hx h hk) h3
theorem lmQ2 {X Y Z a b k j : Int} (hX : Mid X) (hY : Mid Y) (hZ : Mid Z) (h1 : b.natAbs ≤ 9223372036854775808) (h2 : k.natAbs ≤ 9223372036854775808) (h3 : a.natAbs ≤ 9223372036854775808) (h4 : j.natAbs ≤ 9223372036854775808) : (k * (Y - b * Z) - j * (X - a * Z)).natAbs < lim := by
  have h5 : 9223372036854775808 * (73786976294838206464 + 9223372036854775808 * 73786976294838206464) + 9223372036854775808 * (73786976294838206464 + 9223372036854775808 * 73786976294838206464) < lim := by unfold lim; decide +kernel
  have h6 := midQ hY h1 hZ h2
  have h7 := midQ hX h3 hZ h4
  generalize k * (Y - b * Z) = A at *
  generalize j * (X - a * Z) = B at *
  omega
/-- the turn that a spot makes of a line -/
def sideZ (a b c d X Y Z : Int) : Int := (c - a) * (Y - b * Z) - (d - b) * (X - a * Z)

set_option maxRecDepth 100000 in
set_option maxHeartbeats 400000 in
theorem side_any (a b c d X Y Z : Int) (v1 v2 v3 : Value) (w : World) (h1 : Big w v1 X) (h2 : Big w v2 Y) (h3 : Big w v3 Z) (hX : Mid X) (hY : Mid Y) (hZ : Mid Z)
    (b1 : a.natAbs ≤ 4611686018427387904) (b2 : b.natAbs ≤ 4611686018427387904) (b3 : c.natAbs ≤ 4611686018427387903) (b4 : d.natAbs ≤ 4611686018427387903) :
    Calls Try.prog 20 #[.agg #[.int .i64 a, .int .i64 b], .agg #[.int .i64 c, .int .i64 d], .agg (v1.cells ++ v2.cells ++ v3.cells)] w fun e w' => e = .returned (.int .i64 (Bg.cmpI (sideZ a b c d X Y Z) 0)) ∧ Below w.heap.size w w' := by
  obtain ⟨n1, s1, k1, c1', rfl⟩ := h1.form
  obtain ⟨n2, s2, k2, c2', rfl⟩ := h2.form
  obtain ⟨n3, s3, k3, c3', rfl⟩ := h3.form
  have e0 : (Value.agg #[.bool n1, .slice s1 k1 c1']).cells ++ (Value.agg #[.bool n2, .slice s2 k2 c2']).cells ++ (Value.agg #[.bool n3, .slice s3 k3 c3']).cells = #[.bool n1, .slice s1 k1 c1', .bool n2, .slice s2 k2 c2', .bool n3, .slice s3 k3 c3'] := rfl
  rw [e0]
  obtain ⟨W0, hW0⟩ : ∃ W0, [.cells #[.int .i64 a, .int .i64 b] 30, .cells #[.int .i64 c, .int .i64 d] 30, .cells #[.bool n1, .slice s1 k1 c1', .bool n2, .slice s2 k2 c2', .bool n3, .slice s3 k3 c3'] 63].foldl World.alloc w = W0 := ⟨_, rfl⟩
  have B0 : Blk W0 w.heap.size [.int .i64 a, .int .i64 b] 30 := Blk.allocs _ hW0 0 rfl
  have B1 : Blk W0 (w.heap.size + 1) [.int .i64 c, .int .i64 d] 30 := Blk.allocs _ hW0 1 rfl
  have B2 : Blk W0 (w.heap.size + 1 + 1) [.bool n1, .slice s1 k1 c1', .bool n2, .slice s2 k2 c2', .bool n3, .slice s3 k3 c3'] 63 := Blk.allocs _ hW0 2 rfl
  have HB : Below w.heap.size w W0 := hW0 ▸ allocs_below _ w
  have hsz : W0.heap.size = w.heap.size + 3 := hW0 ▸ allocs_size _ w
  replace hsz : w.heap.size + 3 ≤ W0.heap.size := Nat.le_of_eq hsz.symm
  simp only [List.foldl_cons, List.foldl_nil] at hW0
  have HX := h1.call HB
  have HY := h2.call HB
  have HZ := h3.call HB
  clear h1 h2 h3 e0
  have t1 : IntKind.i64.wrap (c - a) = c - a := by rw [IntKind.wrap_i64]; omega
  have t2 : IntKind.i64.wrap (d - b) = d - b := by rw [IntKind.wrap_i64]; omega
  go_enter Try.func20, Try.ntmps20
  go_upto_region 1 with (fail)
  clear hW0
  refine calm_go (by kernel_rfl) ?_
  refine every_last 17 rfl rfl (by kernel_rfl) (by kernel_rfl) ?_
  simp only [List.take_succ_cons, List.take_zero]
  refine dag_every (S := nthS [(fun v _ => v = .pointer (some ⟨w.heap.size + 1, 0, none⟩)), (fun v _ => v = .int .i64 c), (fun v _ => v = .pointer (some ⟨w.heap.size, 0, none⟩)), (fun v _ => v = .int .i64 a), (fun v _ => v = .int .i64 (c - a)), (fun v w' => Big w' v ((c - a))), (fun v _ => v = .pointer (some ⟨w.heap.size + 1 + 1, 2, none⟩)), (fun v _ => v = .agg #[.bool n2, .slice s2 k2 c2']), (fun v _ => v = .pointer (some ⟨w.heap.size, 1, none⟩)), (fun v _ => v = .int .i64 b), (fun v w' => Big w' v (b)), (fun v _ => v = .pointer (some ⟨w.heap.size + 1 + 1, 4, none⟩)), (fun v _ => v = .agg #[.bool n3, .slice s3 k3 c3']), (fun v w' => Big w' v (b * Z)), (fun v w' => Big w' v (Y - b * Z)), (fun v w' => Big w' v ((c - a) * (Y - b * Z))), (fun v w' => ∃ q, v = .pointer (some ⟨q, 0, none⟩) ∧ W0.heap.size ≤ q ∧ Blk w' q [.bool false, .slice none 0 0] 61)]) (R := (fun u v => Below u.heap.size u v)) (C := (fun w' => Below W0.heap.size W0 w')) (by kernel_rfl) (stableL _ ⟨stable_eq, stable_eq, stable_eq, stable_eq, stable_eq, (fun v w w' h hr => h.call hr), stable_eq, stable_eq, stable_eq, stable_eq, (fun v w w' h hr => h.call hr), stable_eq, stable_eq, (fun v w w' h hr => h.call hr), (fun v w w' h hr => h.call hr), (fun v w w' h hr => h.call hr), (fun v w w' ⟨q, e, h0, h⟩ hr => ⟨q, e, h0, h.call hr⟩), trivial⟩) ?hC ?hR ?hC0 ?hC1 ⟨?st0, ?st1, ?st2, ?st3, ?st4, ?st5, ?st6, ?st7, ?st8, ?st9, ?st10, ?st11, ?st12, ?st13, ?st14, ?st15, ?st16, trivial⟩ ?_
  case st0 =>
    intro fa wz hp
    refine .inl ⟨by rfl, ?_⟩
    have e4 : fa.tmps[4]?.getD undef = .pointer (some ⟨w.heap.size + 1, 0, none⟩) := hp.old 4 (by kernel_rfl)
    have hb := hp.base
    exact dagUpon_val (by go_simp) (Below.refl _ _) rfl
  case st1 =>
    intro fa wz hp
    refine .inl ⟨by rfl, ?_⟩
    obtain ⟨v9, e9, hv9⟩ := hp.ev 0 _ 9 rfl rfl (by kernel_rfl)
    replace e9 : fa.tmps[9]?.getD undef = .pointer (some ⟨w.heap.size + 1, 0, none⟩) := e9.trans hv9
    clear hv9
    have hb := hp.base
    obtain ⟨q0, q1⟩ := c2 (B1.below hb B1.lt)
    exact dagUpon_val (by go_simp) (Below.refl _ _) rfl
  case st2 =>
    intro fa wz hp
    refine .inl ⟨by rfl, ?_⟩
    have e3 : fa.tmps[3]?.getD undef = .pointer (some ⟨w.heap.size, 0, none⟩) := hp.old 3 (by kernel_rfl)
    have hb := hp.base
    exact dagUpon_val (by go_simp) (Below.refl _ _) rfl
  case st3 =>
    intro fa wz hp
    refine .inl ⟨by rfl, ?_⟩
    obtain ⟨v11, e11, hv11⟩ := hp.ev 2 _ 11 rfl rfl (by kernel_rfl)
    replace e11 : fa.tmps[11]?.getD undef = .pointer (some ⟨w.heap.size, 0, none⟩) := e11.trans hv11
    clear hv11
    have hb := hp.base
    obtain ⟨q0, q1⟩ := c2 (B0.below hb B0.lt)
    exact dagUpon_val (by go_simp) (Below.refl _ _) rfl
  case st4 =>
    intro fa wz hp
    refine .inl ⟨by rfl, ?_⟩
    obtain ⟨v10, e10, hv10⟩ := hp.ev 1 _ 10 rfl rfl (by kernel_rfl)
    replace e10 : fa.tmps[10]?.getD undef = .int .i64 c := e10.trans hv10
    clear hv10
    obtain ⟨v12, e12, hv12⟩ := hp.ev 3 _ 12 rfl rfl (by kernel_rfl)
    replace e12 : fa.tmps[12]?.getD undef = .int .i64 a := e12.trans hv12
    clear hv12
    have hb := hp.base
    exact dagUpon_val (by go_simp) (Below.refl _ _) rfl
  case st5 =>
    intro fa wz hp
    refine .inl ⟨by rfl, ?_⟩
    obtain ⟨v13, e13, hv13⟩ := hp.ev 4 _ 13 rfl rfl (by kernel_rfl)
    replace e13 : fa.tmps[13]?.getD undef = .int .i64 (c - a) := e13.trans hv13
    clear hv13
    have hb := hp.base
    exact dagUpon_call (by go_simp) ((of_any _ wz (by omega) (by omega)).mono fun e w'' ⟨v, he, hv, hbb⟩ => ⟨v, he, hbb, hv⟩)
  case st6 =>
    intro fa wz hp
    refine .inl ⟨by rfl, ?_⟩
    have e5 : fa.tmps[5]?.getD undef = .pointer (some ⟨w.heap.size + 1 + 1, 0, none⟩) := hp.old 5 (by kernel_rfl)
    have hb := hp.base
    exact dagUpon_val (by go_simp) (Below.refl _ _) rfl
  case st7 =>
    intro fa wz hp
    refine .inl ⟨by rfl, ?_⟩
    obtain ⟨v15, e15, hv15⟩ := hp.ev 6 _ 15 rfl rfl (by kernel_rfl)
    replace e15 : fa.tmps[15]?.getD undef = .pointer (some ⟨w.heap.size + 1 + 1, 2, none⟩) := e15.trans hv15
    clear hv15
    have hb := hp.base
    obtain ⟨q0, q1, q2, q3, q4, q5⟩ := c6 (B2.below hb B2.lt)
    exact dagUpon_val (by go_simp) (Below.refl _ _) rfl
  case st8 =>
    intro fa wz hp
    refine .inl ⟨by rfl, ?_⟩
    have e3 : fa.tmps[3]?.getD undef = .pointer (some ⟨w.heap.size, 0, none⟩) := hp.old 3 (by kernel_rfl)
    have hb := hp.base
    exact dagUpon_val (by go_simp) (Below.refl _ _) rfl
  case st9 =>
    intro fa wz hp
    refine .inl ⟨by rfl, ?_⟩
    obtain ⟨v17, e17, hv17⟩ := hp.ev 8 _ 17 rfl rfl (by kernel_rfl)
    replace e17 : fa.tmps[17]?.getD undef = .pointer (some ⟨w.heap.size, 1, none⟩) := e17.trans hv17
    clear hv17
    have hb := hp.base
    obtain ⟨q0, q1⟩ := c2 (B0.below hb B0.lt)
    exact dagUpon_val (by go_simp) (Below.refl _ _) rfl
  case st10 =>
    intro fa wz hp
    refine .inl ⟨by rfl, ?_⟩
    obtain ⟨v18, e18, hv18⟩ := hp.ev 9 _ 18 rfl rfl (by kernel_rfl)
    replace e18 : fa.tmps[18]?.getD undef = .int .i64 b := e18.trans hv18
    clear hv18
    have hb := hp.base
    exact dagUpon_call (by go_simp) ((of_any _ wz (by omega) (by omega)).mono fun e w'' ⟨v, he, hv, hbb⟩ => ⟨v, he, hbb, hv⟩)
  case st11 =>
    intro fa wz hp
    refine .inl ⟨by rfl, ?_⟩
    have e5 : fa.tmps[5]?.getD undef = .pointer (some ⟨w.heap.size + 1 + 1, 0, none⟩) := hp.old 5 (by kernel_rfl)
    have hb := hp.base
    exact dagUpon_val (by go_simp) (Below.refl _ _) rfl
  case st12 =>
    intro fa wz hp
    refine .inl ⟨by rfl, ?_⟩
    obtain ⟨v20, e20, hv20⟩ := hp.ev 11 _ 20 rfl rfl (by kernel_rfl)
    replace e20 : fa.tmps[20]?.getD undef = .pointer (some ⟨w.heap.size + 1 + 1, 4, none⟩) := e20.trans hv20
    clear hv20
    have hb := hp.base
    obtain ⟨q0, q1, q2, q3, q4, q5⟩ := c6 (B2.below hb B2.lt)
    exact dagUpon_val (by go_simp) (Below.refl _ _) rfl
  case st13 =>
    intro fa wz hp
    refine .inl ⟨by rfl, ?_⟩
    obtain ⟨v19, e19, hv19⟩ := hp.ev 10 _ 19 rfl rfl (by kernel_rfl)
    have hv19 := show (fun v w' => Big w' v (b)) v19 wz from hv19
    replace e19 : fa.tmps[19]?.getD undef = v19 := e19
    obtain ⟨v21, e21, hv21⟩ := hp.ev 12 _ 21 rfl rfl (by kernel_rfl)
    replace e21 : fa.tmps[21]?.getD undef = .agg #[.bool n3, .slice s3 k3 c3'] := e21.trans hv21
    clear hv21
    have hb := hp.base
    exact dagUpon_call (by go_simp) ((mul_any _ _ _ _ wz hv19 (HZ.call hb) (lmI (by omega)) (lmZ hZ)).mono fun e w'' ⟨v, he, hv, hbb⟩ => ⟨v, he, hbb, hv⟩)
  case st14 =>
    intro fa wz hp
    refine .inl ⟨by rfl, ?_⟩
    obtain ⟨v16, e16, hv16⟩ := hp.ev 7 _ 16 rfl rfl (by kernel_rfl)
    replace e16 : fa.tmps[16]?.getD undef = .agg #[.bool n2, .slice s2 k2 c2'] := e16.trans hv16
    clear hv16
    obtain ⟨v22, e22, hv22⟩ := hp.ev 13 _ 22 rfl rfl (by kernel_rfl)
    have hv22 := show (fun v w' => Big w' v (b * Z)) v22 wz from hv22
    replace e22 : fa.tmps[22]?.getD undef = v22 := e22
    have hb := hp.base
    exact dagUpon_call (by go_simp) ((sub_any _ _ _ _ wz (HY.call hb) hv22 (lmZ hY) (lmP1 (by omega) hZ)).mono fun e w'' ⟨v, he, hv, hbb⟩ => ⟨v, he, hbb, hv⟩)
  case st15 =>
    intro fa wz hp
    refine .inl ⟨by rfl, ?_⟩
    obtain ⟨v14, e14, hv14⟩ := hp.ev 5 _ 14 rfl rfl (by kernel_rfl)
    have hv14 := show (fun v w' => Big w' v ((c - a))) v14 wz from hv14
    replace e14 : fa.tmps[14]?.getD undef = v14 := e14
    obtain ⟨v23, e23, hv23⟩ := hp.ev 14 _ 23 rfl rfl (by kernel_rfl)
    have hv23 := show (fun v w' => Big w' v (Y - b * Z)) v23 wz from hv23
    replace e23 : fa.tmps[23]?.getD undef = v23 := e23
    have hb := hp.base
    exact dagUpon_call (by go_simp) ((mul_any _ _ _ _ wz hv14 hv23 (lmI (by omega)) (lmP2 hY (by omega) hZ)).mono fun e w'' ⟨v, he, hv, hbb⟩ => ⟨v, he, hbb, hv⟩)
  case st16 =>
    intro fa wz hp
    refine .inl ⟨by rfl, ?_⟩
    have hb := hp.base
    exact dagUpon_new (w' := wz.alloc (.cells #[.bool false, .slice none 0 0] 61)) (u := .pointer (some ⟨wz.heap.size, 0, none⟩)) (by go_simp) ((Below.refl _ wz).alloc (Nat.le_refl _) _) ⟨_, rfl, hb.size, Blk.new _ _ _⟩
  case hC => exact fun w1 w2 h1 h2 => h1.trans (h2.mono h1.size)
  case hR => exact fun w => Below.refl _ _
  case hC0 => exact Below.refl _ _
  case hC1 => exact (Below.refl _ _).drew
  intro g w1 hb hg
  obtain ⟨bx1, hq1, hle1, hB1⟩ := hg 16 _ _ rfl rfl
  have hbig1 := hg 15 _ _ rfl rfl
  replace hbig1 : Big w1 (g 15) ((c - a) * (Y - b * Z)) := hbig1
  obtain ⟨m1, t1', j1, e1, hf1⟩ := hbig1.form
  simp only [putAll, Act.put, List.setIfInBounds_toArray, List.set_cons_zero, List.set_cons_succ]
  rw [hf1] at hbig1 ⊢
  rw [show g 16 = _ from hq1]
  clear hg hq1 hf1
  have z0 := hB1.cell (j := 0) rfl
  have z1 := hB1.cell (j := 1) rfl
  have zf0 := hB1.frozen 0
  have zf1 := hB1.frozen 1
  refine lastQ_do (w' := (w1.setCell ⟨bx1, 0, none⟩ (.bool m1)).setCell ⟨bx1, 1, none⟩ (.slice t1' j1 e1)) (by go_simp) ?_
  have hC1 := put2 (x := .bool m1) (y := .slice t1' j1 e1) hB1
  have hu1 : Below W0.heap.size W0 ((w1.setCell ⟨bx1, 0, none⟩ (.bool m1)).setCell ⟨bx1, 1, none⟩ (.slice t1' j1 e1)) := put2_below hb hle1
  have hbg1 := hbig1.put hB1 (.bool m1) (.slice t1' j1 e1)
  obtain ⟨y1, hy1⟩ : ∃ y, (w1.setCell ⟨bx1, 0, none⟩ (.bool m1)).setCell ⟨bx1, 1, none⟩ (.slice t1' j1 e1) = y := ⟨_, rfl⟩
  rw [hy1] at hC1 hu1 hbg1 ⊢
  clear hy1 z0 z1 zf0 zf1 hb hB1 hbig1
  have B0 := B0.below hu1 B0.lt
  have B1 := B1.below hu1 B1.lt
  have B2 := B2.below hu1 B2.lt
  have HX := HX.call hu1
  have HY := HY.call hu1
  have HZ := HZ.call hu1
  have hz1 : W0.heap.size ≤ y1.heap.size := hu1.size
  have HB := HB.trans (hu1.mono HB.size)
  go_upto_region 2 with (fail)
  refine calm_go (by kernel_rfl) ?_
  refine every_last 17 rfl rfl (by kernel_rfl) (by kernel_rfl) ?_
  simp only [List.take_succ_cons, List.take_zero]
  refine dag_every (S := nthS [(fun v _ => v = .pointer (some ⟨w.heap.size + 1, 1, none⟩)), (fun v _ => v = .int .i64 d), (fun v _ => v = .pointer (some ⟨w.heap.size, 1, none⟩)), (fun v _ => v = .int .i64 b), (fun v _ => v = .int .i64 (d - b)), (fun v w' => Big w' v ((d - b))), (fun v _ => v = .pointer (some ⟨w.heap.size + 1 + 1, 0, none⟩)), (fun v _ => v = .agg #[.bool n1, .slice s1 k1 c1']), (fun v _ => v = .pointer (some ⟨w.heap.size, 0, none⟩)), (fun v _ => v = .int .i64 a), (fun v w' => Big w' v (a)), (fun v _ => v = .pointer (some ⟨w.heap.size + 1 + 1, 4, none⟩)), (fun v _ => v = .agg #[.bool n3, .slice s3 k3 c3']), (fun v w' => Big w' v (a * Z)), (fun v w' => Big w' v (X - a * Z)), (fun v w' => Big w' v ((d - b) * (X - a * Z))), (fun v w' => ∃ q, v = .pointer (some ⟨q, 0, none⟩) ∧ y1.heap.size ≤ q ∧ Blk w' q [.bool false, .slice none 0 0] 61)]) (R := (fun u v => Below u.heap.size u v)) (C := (fun w' => Below y1.heap.size y1 w')) (by kernel_rfl) (stableL _ ⟨stable_eq, stable_eq, stable_eq, stable_eq, stable_eq, (fun v w w' h hr => h.call hr), stable_eq, stable_eq, stable_eq, stable_eq, (fun v w w' h hr => h.call hr), stable_eq, stable_eq, (fun v w w' h hr => h.call hr), (fun v w w' h hr => h.call hr), (fun v w w' h hr => h.call hr), (fun v w w' ⟨q, e, h0, h⟩ hr => ⟨q, e, h0, h.call hr⟩), trivial⟩) ?hC ?hR ?hC0 ?hC1 ⟨?st0, ?st1, ?st2, ?st3, ?st4, ?st5, ?st6, ?st7, ?st8, ?st9, ?st10, ?st11, ?st12, ?st13, ?st14, ?st15, ?st16, trivial⟩ ?_
  case st0 =>
    intro fa wz hp
    refine .inl ⟨by rfl, ?_⟩
    have e4 : fa.tmps[4]?.getD undef = .pointer (some ⟨w.heap.size + 1, 0, none⟩) := hp.old 4 (by kernel_rfl)
    have hb := hp.base
    exact dagUpon_val (by go_simp) (Below.refl _ _) rfl
  case st1 =>
    intro fa wz hp
    refine .inl ⟨by rfl, ?_⟩
    obtain ⟨v25, e25, hv25⟩ := hp.ev 0 _ 25 rfl rfl (by kernel_rfl)
    replace e25 : fa.tmps[25]?.getD undef = .pointer (some ⟨w.heap.size + 1, 1, none⟩) := e25.trans hv25
    clear hv25
    have hb := hp.base
    obtain ⟨q0, q1⟩ := c2 (B1.below hb B1.lt)
    exact dagUpon_val (by go_simp) (Below.refl _ _) rfl
  case st2 =>
    intro fa wz hp
    refine .inl ⟨by rfl, ?_⟩
    have e3 : fa.tmps[3]?.getD undef = .pointer (some ⟨w.heap.size, 0, none⟩) := hp.old 3 (by kernel_rfl)
    have hb := hp.base
    exact dagUpon_val (by go_simp) (Below.refl _ _) rfl
  case st3 =>
    intro fa wz hp
    refine .inl ⟨by rfl, ?_⟩
    obtain ⟨v27, e27, hv27⟩ := hp.ev 2 _ 27 rfl rfl (by kernel_rfl)
    replace e27 : fa.tmps[27]?.getD undef = .pointer (some ⟨w.heap.size, 1, none⟩) := e27.trans hv27
    clear hv27
    have hb := hp.base
    obtain ⟨q0, q1⟩ := c2 (B0.below hb B0.lt)
    exact dagUpon_val (by go_simp) (Below.refl _ _) rfl
  case st4 =>
    intro fa wz hp
    refine .inl ⟨by rfl, ?_⟩
    obtain ⟨v26, e26, hv26⟩ := hp.ev 1 _ 26 rfl rfl (by kernel_rfl)
    replace e26 : fa.tmps[26]?.getD undef = .int .i64 d := e26.trans hv26
    clear hv26
    obtain ⟨v28, e28, hv28⟩ := hp.ev 3 _ 28 rfl rfl (by kernel_rfl)
    replace e28 : fa.tmps[28]?.getD undef = .int .i64 b := e28.trans hv28
    clear hv28
    have hb := hp.base
    exact dagUpon_val (by go_simp) (Below.refl _ _) rfl
  case st5 =>
    intro fa wz hp
    refine .inl ⟨by rfl, ?_⟩
    obtain ⟨v29, e29, hv29⟩ := hp.ev 4 _ 29 rfl rfl (by kernel_rfl)
    replace e29 : fa.tmps[29]?.getD undef = .int .i64 (d - b) := e29.trans hv29
    clear hv29
    have hb := hp.base
    exact dagUpon_call (by go_simp) ((of_any _ wz (by omega) (by omega)).mono fun e w'' ⟨v, he, hv, hbb⟩ => ⟨v, he, hbb, hv⟩)
  case st6 =>
    intro fa wz hp
    refine .inl ⟨by rfl, ?_⟩
    have e5 : fa.tmps[5]?.getD undef = .pointer (some ⟨w.heap.size + 1 + 1, 0, none⟩) := hp.old 5 (by kernel_rfl)
    have hb := hp.base
    exact dagUpon_val (by go_simp) (Below.refl _ _) rfl
  case st7 =>
    intro fa wz hp
    refine .inl ⟨by rfl, ?_⟩
    obtain ⟨v31, e31, hv31⟩ := hp.ev 6 _ 31 rfl rfl (by kernel_rfl)
    replace e31 : fa.tmps[31]?.getD undef = .pointer (some ⟨w.heap.size + 1 + 1, 0, none⟩) := e31.trans hv31
    clear hv31
    have hb := hp.base
    obtain ⟨q0, q1, q2, q3, q4, q5⟩ := c6 (B2.below hb B2.lt)
    exact dagUpon_val (by go_simp) (Below.refl _ _) rfl
  case st8 =>
    intro fa wz hp
    refine .inl ⟨by rfl, ?_⟩
    have e3 : fa.tmps[3]?.getD undef = .pointer (some ⟨w.heap.size, 0, none⟩) := hp.old 3 (by kernel_rfl)
    have hb := hp.base
    exact dagUpon_val (by go_simp) (Below.refl _ _) rfl
  case st9 =>
    intro fa wz hp
    refine .inl ⟨by rfl, ?_⟩
    obtain ⟨v33, e33, hv33⟩ := hp.ev 8 _ 33 rfl rfl (by kernel_rfl)
    replace e33 : fa.tmps[33]?.getD undef = .pointer (some ⟨w.heap.size, 0, none⟩) := e33.trans hv33
    clear hv33
    have hb := hp.base
    obtain ⟨q0, q1⟩ := c2 (B0.below hb B0.lt)
    exact dagUpon_val (by go_simp) (Below.refl _ _) rfl
  case st10 =>
    intro fa wz hp
    refine .inl ⟨by rfl, ?_⟩
    obtain ⟨v34, e34, hv34⟩ := hp.ev 9 _ 34 rfl rfl (by kernel_rfl)
    replace e34 : fa.tmps[34]?.getD undef = .int .i64 a := e34.trans hv34
    clear hv34
    have hb := hp.base
    exact dagUpon_call (by go_simp) ((of_any _ wz (by omega) (by omega)).mono fun e w'' ⟨v, he, hv, hbb⟩ => ⟨v, he, hbb, hv⟩)
  case st11 =>
    intro fa wz hp
    refine .inl ⟨by rfl, ?_⟩
    have e5 : fa.tmps[5]?.getD undef = .pointer (some ⟨w.heap.size + 1 + 1, 0, none⟩) := hp.old 5 (by kernel_rfl)
    have hb := hp.base
    exact dagUpon_val (by go_simp) (Below.refl _ _) rfl
  case st12 =>
    intro fa wz hp
    refine .inl ⟨by rfl, ?_⟩
    obtain ⟨v36, e36, hv36⟩ := hp.ev 11 _ 36 rfl rfl (by kernel_rfl)
    replace e36 : fa.tmps[36]?.getD undef = .pointer (some ⟨w.heap.size + 1 + 1, 4, none⟩) := e36.trans hv36
    clear hv36
    have hb := hp.base
    obtain ⟨q0, q1, q2, q3, q4, q5⟩ := c6 (B2.below hb B2.lt)
    exact dagUpon_val (by go_simp) (Below.refl _ _) rfl
  case st13 =>
    intro fa wz hp
    refine .inl ⟨by rfl, ?_⟩
    obtain ⟨v35, e35, hv35⟩ := hp.ev 10 _ 35 rfl rfl (by kernel_rfl)
    have hv35 := show (fun v w' => Big w' v (a)) v35 wz from hv35
    replace e35 : fa.tmps[35]?.getD undef = v35 := e35
    obtain ⟨v37, e37, hv37⟩ := hp.ev 12 _ 37 rfl rfl (by kernel_rfl)
    replace e37 : fa.tmps[37]?.getD undef = .agg #[.bool n3, .slice s3 k3 c3'] := e37.trans hv37
    clear hv37
    have hb := hp.base
    exact dagUpon_call (by go_simp) ((mul_any _ _ _ _ wz hv35 (HZ.call hb) (lmI (by omega)) (lmZ hZ)).mono fun e w'' ⟨v, he, hv, hbb⟩ => ⟨v, he, hbb, hv⟩)
  case st14 =>
    intro fa wz hp
    refine .inl ⟨by rfl, ?_⟩
    obtain ⟨v32, e32, hv32⟩ := hp.ev 7 _ 32 rfl rfl (by kernel_rfl)
    replace e32 : fa.tmps[32]?.getD undef = .agg #[.bool n1, .slice s1 k1 c1'] := e32.trans hv32
    clear hv32
    obtain ⟨v38, e38, hv38⟩ := hp.ev 13 _ 38 rfl rfl (by kernel_rfl)
    have hv38 := show (fun v w' => Big w' v (a * Z)) v38 wz from hv38
    replace e38 : fa.tmps[38]?.getD undef = v38 := e38
    have hb := hp.base
    exact dagUpon_call (by go_simp) ((sub_any _ _ _ _ wz (HX.call hb) hv38 (lmZ hX) (lmP1 (by omega) hZ)).mono fun e w'' ⟨v, he, hv, hbb⟩ => ⟨v, he, hbb, hv⟩)
  case st15 =>
    intro fa wz hp
    refine .inl ⟨by rfl, ?_⟩
    obtain ⟨v30, e30, hv30⟩ := hp.ev 5 _ 30 rfl rfl (by kernel_rfl)
    have hv30 := show (fun v w' => Big w' v ((d - b))) v30 wz from hv30
    replace e30 : fa.tmps[30]?.getD undef = v30 := e30
    obtain ⟨v39, e39, hv39⟩ := hp.ev 14 _ 39 rfl rfl (by kernel_rfl)
    have hv39 := show (fun v w' => Big w' v (X - a * Z)) v39 wz from hv39
    replace e39 : fa.tmps[39]?.getD undef = v39 := e39
    have hb := hp.base
    exact dagUpon_call (by go_simp) ((mul_any _ _ _ _ wz hv30 hv39 (lmI (by omega)) (lmP2 hX (by omega) hZ)).mono fun e w'' ⟨v, he, hv, hbb⟩ => ⟨v, he, hbb, hv⟩)
  case st16 =>
    intro fa wz hp
    refine .inl ⟨by rfl, ?_⟩
    have hb := hp.base
    exact dagUpon_new (w' := wz.alloc (.cells #[.bool false, .slice none 0 0] 61)) (u := .pointer (some ⟨wz.heap.size, 0, none⟩)) (by go_simp) ((Below.refl _ wz).alloc (Nat.le_refl _) _) ⟨_, rfl, hb.size, Blk.new _ _ _⟩
  case hC => exact fun w1 w2 h1 h2 => h1.trans (h2.mono h1.size)
  case hR => exact fun w => Below.refl _ _
  case hC0 => exact Below.refl _ _
  case hC1 => exact (Below.refl _ _).drew
  intro g w2 hb hg
  obtain ⟨bx2, hq2, hle2, hB2⟩ := hg 16 _ _ rfl rfl
  have hbig2 := hg 15 _ _ rfl rfl
  replace hbig2 : Big w2 (g 15) ((d - b) * (X - a * Z)) := hbig2
  obtain ⟨m2, t2', j2, e2, hf2⟩ := hbig2.form
  simp only [putAll, Act.put, List.setIfInBounds_toArray, List.set_cons_zero, List.set_cons_succ]
  rw [hf2] at hbig2 ⊢
  rw [show g 16 = _ from hq2]
  clear hg hq2 hf2
  have z0 := hB2.cell (j := 0) rfl
  have z1 := hB2.cell (j := 1) rfl
  have zf0 := hB2.frozen 0
  have zf1 := hB2.frozen 1
  refine lastQ_do (w' := (w2.setCell ⟨bx2, 0, none⟩ (.bool m2)).setCell ⟨bx2, 1, none⟩ (.slice t2' j2 e2)) (by go_simp) ?_
  have hC2 := put2 (x := .bool m2) (y := .slice t2' j2 e2) hB2
  have hu2 : Below y1.heap.size y1 ((w2.setCell ⟨bx2, 0, none⟩ (.bool m2)).setCell ⟨bx2, 1, none⟩ (.slice t2' j2 e2)) := put2_below hb hle2
  have hbg2 := hbig2.put hB2 (.bool m2) (.slice t2' j2 e2)
  obtain ⟨y2, hy2⟩ : ∃ y, (w2.setCell ⟨bx2, 0, none⟩ (.bool m2)).setCell ⟨bx2, 1, none⟩ (.slice t2' j2 e2) = y := ⟨_, rfl⟩
  rw [hy2] at hC2 hu2 hbg2 ⊢
  clear hy2 z0 z1 zf0 zf1 hb hB2 hbig2
  have B0 := B0.below hu2 B0.lt
  have B1 := B1.below hu2 B1.lt
  have B2 := B2.below hu2 B2.lt
  have HX := HX.call hu2
  have HY := HY.call hu2
  have HZ := HZ.call hu2
  have hz2 : y1.heap.size ≤ y2.heap.size := hu2.size
  have HB := HB.trans (hu2.mono HB.size)
  have hC1 := hC1.below hu2 hC1.lt
  have hbg1 := hbg1.call hu2
  have q0 := hC1.cell (j := 0) rfl
  have q1 := hC1.cell (j := 1) rfl
  have q2 := hC2.cell (j := 0) rfl
  have q3 := hC2.cell (j := 1) rfl
  have HB := Lib.hid HB
  clear B0 B1 B2 hu1 hu2 hC1 hC2 hle1 hle2 HX HY HZ
  have hs := sub_any _ _ _ _ y2 hbg1 hbg2 (lmQ hY (by omega) hZ (by omega)) (lmQ hX (by omega) hZ (by omega))
  have Hs := Lib.hid hs
  clear hs hbg1 hbg2
  go_wp2_with fail
  refine Hs.out.mono ?_
  rintro e w3 ⟨v3, rfl, hv3, hb3⟩
  obtain ⟨n4, s4, k4, c4', rfl⟩ := hv3.form
  have HB3 := Lib.hid (HB.out.trans (hb3.mono HB.out.size))
  have Hg := Lib.hid (sign_any _ _ w3 hv3 (lmQ2 hX hY hZ (by omega) (by omega) (by omega) (by omega)))
  clear hv3 hb3 q0 q1 q2 q3
  go_wp2_with fail
  refine Hg.out.mono ?_
  rintro e w4 ⟨rfl, hb4⟩
  have HB4 := Lib.hid (HB3.out.trans (hb4.mono HB3.out.size))
  clear hb4
  go_wp2_with fail
  go_ret
  exact ⟨rfl, HB4.out⟩
end Go.Proofs.Ythbplhglfjlngaa

set_option linter.unusedVariables false
set_option linter.unusedSimpArgs false
namespace Go.Proofs.Ythbplhglfjlngaa
open Go.RowKit Go.Rg Go.Wd
attribute [local go_sem] Oper.semAt_some
theorem size_spot4 : (Try.prog.info? 63).map (·.size) = some 6 := by kernel_rfl

set_option maxRecDepth 100000 in
set_option maxHeartbeats 1000000 in
theorem corner_any (x y : Int) (w : World) (hx1 : -9223372036854775808 ≤ x) (hx2 : x ≤ 9223372036854775807) (hy1 : -9223372036854775808 ≤ y) (hy2 : y ≤ 9223372036854775807) :
    Calls Try.prog 21 #[.int .i64 x, .int .i64 y] w fun e w' => ∃ v1 v2 v3, e = .returned (.agg (v1.cells ++ v2.cells ++ v3.cells)) ∧ Big w' v1 x ∧ Big w' v2 y ∧ Big w' v3 2 ∧ Below w.heap.size w w' := by
  obtain ⟨W0, hW0⟩ : ∃ W0, w.alloc (.cells #[.bool false, .slice none 0 0, .bool false, .slice none 0 0, .bool false, .slice none 0 0] 63) = W0 := ⟨_, rfl⟩
  have B0 : Blk W0 w.heap.size [.bool false, .slice none 0 0, .bool false, .slice none 0 0, .bool false, .slice none 0 0] 63 := hW0 ▸ Blk.new _ _ _
  have HB : Below w.heap.size w W0 := hW0 ▸ (Below.refl _ w).alloc (Nat.le_refl _) _
  go_enter Try.func21, Try.ntmps21
  go_wp2_with fail
  (try rw [hW0])
  clear hW0
  refine (of_any x W0 hx1 hx2).mono ?_
  rintro e w1 ⟨v1, rfl, h1, hb1⟩
  obtain ⟨n1, s1, k1, c1', rfl⟩ := h1.form
  have B0 := B0.call hb1
  have HB := HB.trans (hb1.mono HB.size)
  have h1 := Lib.hid h1
  clear hb1
  go_wp2_with fail
  refine (of_any y w1 hy1 hy2).mono ?_
  rintro e w2 ⟨v2, rfl, h2, hb2⟩
  obtain ⟨n2, s2, k2, c2', rfl⟩ := h2.form
  have B0 := B0.call hb2
  have HB := HB.trans (hb2.mono HB.size)
  have h1 := Lib.hid (h1.out.call hb2)
  have h2 := Lib.hid h2
  clear hb2
  go_wp2_with fail
  refine (of_any 2 w2 (by decide) (by decide)).mono ?_
  rintro e w3 ⟨v3, rfl, h3, hb3⟩
  obtain ⟨n3, s3, k3, c3', rfl⟩ := h3.form
  have B0 := B0.call hb3
  have HB := HB.trans (hb3.mono HB.size)
  have h1 := Lib.hid (h1.out.call hb3)
  have h2 := Lib.hid (h2.out.call hb3)
  have h3 := Lib.hid h3
  have hlt := B0.lt
  clear hb3
  obtain ⟨z0, z1, z2, z3, z4, z5⟩ := c6 B0
  have f0 := B0.frozen 0
  have f1 := B0.frozen 1
  have f2 := B0.frozen 2
  have f3 := B0.frozen 3
  have f4 := B0.frozen 4
  have f5 := B0.frozen 5
  go_wp2_with fail
  have hC : Blk ((((((w3.setCell ⟨w.heap.size, 0, none⟩ (.bool n1)).setCell ⟨w.heap.size, 1, none⟩ (.slice s1 k1 c1')).setCell ⟨w.heap.size, 2, none⟩ (.bool n2)).setCell ⟨w.heap.size, 3, none⟩ (.slice s2 k2 c2')).setCell ⟨w.heap.size, 4, none⟩ (.bool n3)).setCell ⟨w.heap.size, 5, none⟩ (.slice s3 k3 c3')) w.heap.size [.bool n1, .slice s1 k1 c1', .bool n2, .slice s2 k2 c2', .bool n3, .slice s3 k3 c3'] 63 := ((((((B0.set 0 _).set 1 _).set 2 _).set 3 _).set 4 _).set 5 _)
  have hk : KeepT 3 w3 ((((((w3.setCell ⟨w.heap.size, 0, none⟩ (.bool n1)).setCell ⟨w.heap.size, 1, none⟩ (.slice s1 k1 c1')).setCell ⟨w.heap.size, 2, none⟩ (.bool n2)).setCell ⟨w.heap.size, 3, none⟩ (.slice s2 k2 c2')).setCell ⟨w.heap.size, 4, none⟩ (.bool n3)).setCell ⟨w.heap.size, 5, none⟩ (.slice s3 k3 c3')) :=
    (((((KeepT.set ⟨w.heap.size, 0, none⟩ B0 (by decide) _).trans (KeepT.set ⟨w.heap.size, 1, none⟩ (B0.set 0 _) (by decide) _)).trans (KeepT.set ⟨w.heap.size, 2, none⟩ ((B0.set 0 _).set 1 _) (by decide) _)).trans (KeepT.set ⟨w.heap.size, 3, none⟩ (((B0.set 0 _).set 1 _).set 2 _) (by decide) _)).trans (KeepT.set ⟨w.heap.size, 4, none⟩ ((((B0.set 0 _).set 1 _).set 2 _).set 3 _) (by decide) _)).trans (KeepT.set ⟨w.heap.size, 5, none⟩ (((((B0.set 0 _).set 1 _).set 2 _).set 3 _).set 4 _) (by decide) _)
  have hb : Below w.heap.size w ((((((w3.setCell ⟨w.heap.size, 0, none⟩ (.bool n1)).setCell ⟨w.heap.size, 1, none⟩ (.slice s1 k1 c1')).setCell ⟨w.heap.size, 2, none⟩ (.bool n2)).setCell ⟨w.heap.size, 3, none⟩ (.slice s2 k2 c2')).setCell ⟨w.heap.size, 4, none⟩ (.bool n3)).setCell ⟨w.heap.size, 5, none⟩ (.slice s3 k3 c3')) :=
    (((((HB.setCell (p := ⟨w.heap.size, 0, none⟩) (Nat.le_refl _) _).setCell (p := ⟨w.heap.size, 1, none⟩) (Nat.le_refl _) _).setCell (p := ⟨w.heap.size, 2, none⟩) (Nat.le_refl _) _).setCell (p := ⟨w.heap.size, 3, none⟩) (Nat.le_refl _) _).setCell (p := ⟨w.heap.size, 4, none⟩) (Nat.le_refl _) _).setCell (p := ⟨w.heap.size, 5, none⟩) (Nat.le_refl _) _
  refine bodyPost_ret (res_c Try.results21 rfl (row_load hC Try.underlying63 rfl size_spot4)) rfl ?_
  exact ⟨.agg #[.bool n1, .slice s1 k1 c1'], .agg #[.bool n2, .slice s2 k2 c2'], .agg #[.bool n3, .slice s3 k3 c3'], rfl, h1.out.keep hk, h2.out.keep hk, h3.out.keep hk, hb⟩
end Go.Proofs.Ythbplhglfjlngaa
