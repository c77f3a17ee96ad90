/- Fractions of numbers of any length as they lie in memory; stores of whole values; sizes. -/
import Derived.Test.YthbplhglfjlngaaGreatGPr
import Derived.Test.YthbplhglfjlngaaGreatGPb
import Derived.Test.YthbplhglfjlngaaGreatGPq
import Derived.Test.YthbplhglfjlngaaGreatGPg
import Derived.Deep.Cut
import Derived.Test.YthbplhglfjlngaaGreatGPh
import Derived.Deep.CutBlock
import Derived.Deep.DeepCutAuto
set_option linter.unusedVariables false
set_option linter.unusedSimpArgs false
set_option maxRecDepth 100000
namespace Go.Rg
open Go Go.RowKit
section
variable {P : Program} {Q : Exit → Act → World → Prop} {l rest : List Oper} {a : Act} {w : World} {o s : Oper}
theorem wanted_of {ops : Array Oper} {tmps : Array Value} {k d : Nat} {pol : Bool} {ok : Oper} (hg : o.guard = some (k, pol)) (hk : ops[k]? = some ok) (hd : ok.dst = some d) (e : tmps[d]?.getD undef = .bool pol) : Region.wanted o (yielded ops tmps) = true := by
 have e' : tmps[d]? = some (.bool pol) := by
  cases h : tmps[d]? with
  | none => rw [h] at e; simp [undef] at e
  | some v => rw [h] at e; simpa using e
 unfold Region.wanted yielded
 rw [hg]
 simp [hk, hd, e']
theorem unwanted_of {ops : Array Oper} {tmps : Array Value} {k d : Nat} {pol : Bool} {ok : Oper} (hg : o.guard = some (k, pol)) (hk : ops[k]? = some ok) (hd : ok.dst = some d) (e : tmps[d]?.getD undef = .bool (!pol)) : Region.wanted o (yielded ops tmps) = false := by
 have e' : tmps[d]? = some (.bool (!pol)) := by
  cases h : tmps[d]? with
  | none => rw [h] at e; simp [undef] at e
  | some v => rw [h] at e; simpa using e
 unfold Region.wanted yielded
 rw [hg]
 simp [hk, hd, e']
theorem Only.upd {b : Nat} {n : Obj} {w w' : World} (h : Only b n w w') : Upd b w w' := ⟨h.os, h.tape, h.output, Nat.le_of_eq h.size.symm, fun k hk _ => h.same k hk⟩
theorem run_store {t : TypeId} {d x : Operand} {b off : Nat} {u : Value} {cs : List Value} {T : TypeId} (hop : s.op = .store t d x) (hd : a.eval d = .pointer (some ⟨b, off, none⟩)) (hx : a.eval x = u) (hB : Blk w b cs T)
  (hi : (P.info? t).map (·.size) = some u.cells.size) (h1 : u.cells.all (·.oneCell') = true) (hl : off + u.cells.size ≤ cs.length) : ∃ w', (execOp a.eval s).run P w = .ok .skip w' ∧ Upd b w w' ∧ Blk w' b (putL cs off u.cells.toList) T := by
 obtain ⟨w', e, ho⟩ := store_only (P := P) (t := t) hi h1 hl w hB
 refine ⟨w', ?_, ho.upd, ho.new⟩
 unfold execOp
 simp only [hop, hd, hx, Sem.run_bind, e, Result.andThen_ok, Sem.run_pure]
theorem lastQ_store {t : TypeId} {d x : Operand} {b off : Nat} {u : Value} {cs : List Value} {T : TypeId} (hop : s.op = .store t d x) (hdst : s.dst = none) (hd : a.eval d = .pointer (some ⟨b, off, none⟩)) (hx : a.eval x = u) (hB : Blk w b cs T)
  (hi : (P.info? t).map (·.size) = some u.cells.size) (h1 : u.cells.all (·.oneCell') = true) (hl : off + u.cells.size ≤ cs.length)
  (h : ∀ w', Upd b w w' → Blk w' b (putL cs off u.cells.toList) T → Q .normal a w') : lastQ P s Q .normal a w := by
 obtain ⟨w', e, h2, h3⟩ := run_store (P := P) (s := s) hop hd hx hB hi h1 hl
 refine lastQ_do e ?_
 rw [hdst]
 exact h w' h2 h3
theorem pl_store {t : TypeId} {d x : Operand} {b off : Nat} {u : Value} {cs : List Value} {T : TypeId} (hop : o.op = .store t d x) (hdst : o.dst = none) (hg : o.guard = none) (hd : a.eval d = .pointer (some ⟨b, off, none⟩)) (hx : a.eval x = u) (hB : Blk w b cs T)
  (hi : (P.info? t).map (·.size) = some u.cells.size) (h1 : u.cells.all (·.oneCell') = true) (hl : off + u.cells.size ≤ cs.length)
  (h : ∀ w', Upd b w w' → Blk w' b (putL cs off u.cells.toList) T → plW P l Q rest a w') : plW P l Q (o :: rest) a w := by
 obtain ⟨w', e, h2, h3⟩ := run_store (P := P) (s := o) hop hd hx hB hi h1 hl
 refine pl_op hg fun K hK => ?_
 unfold Oper.wp
 rw [e]
 show K (a.put o.dst undef) w'
 rw [hdst]
 exact hK _ _ (h w' h2 h3)
end
end Go.Rg
namespace Go.Proofs.YthbplhglfjlngaaGreat
open Go.RowKit Go.Rg Go.Wd
def Sm (k : Nat) (z : Int) : Prop := z.natAbs ≤ 2 ^ k
theorem Sm.mul {i j : Nat} {x y : Int} (h : Sm i x) (k : Sm j y) : Sm (i + j) (x * y) := by
 unfold Sm at *; rw [Int.natAbs_mul, Nat.pow_add]; exact Nat.mul_le_mul h k
theorem Sm.mono {i j : Nat} {x : Int} (h : Sm i x) (k : i ≤ j) : Sm j x := Nat.le_trans h (Nat.pow_le_pow_right (by decide) k)
theorem Sm.add {k : Nat} {x y : Int} (h : Sm k x) (k' : Sm k y) : Sm (k + 1) (x + y) := by unfold Sm at *; rw [Nat.pow_succ]; omega
theorem Sm.sub {k : Nat} {x y : Int} (h : Sm k x) (k' : Sm k y) : Sm (k + 1) (x - y) := by unfold Sm at *; rw [Nat.pow_succ]; omega
theorem Sm.neg {k : Nat} {x : Int} (h : Sm k x) : Sm k (-x) := by unfold Sm at *; omega
theorem Sm.lim {k : Nat} {x : Int} (h : Sm k x) (hk : k ≤ 2999) : x.natAbs < lim := by
 have h1 : x.natAbs < 2 ^ 3000 := Nat.lt_of_le_of_lt (Nat.le_trans h (Nat.pow_le_pow_right (by decide) hk)) (by decide +kernel)
 have h2 : (2 : Nat) ^ 3000 = Go.Proofs.YthbplhglfjlngaaGreat.lim := by unfold Go.Proofs.YthbplhglfjlngaaGreat.lim; decide +kernel
 rwa [h2] at h1
theorem Sm.int {n : Int} (h1 : -9223372036854775808 ≤ n) (h2 : n ≤ 9223372036854775807) : Sm 63 n := by unfold Sm; omega
def RatV (w : World) (v : Value) (t : Fr) : Prop := ∃ v1 v2, v = .agg (v1.cells ++ v2.cells) ∧ Big w v1 t.1 ∧ Big w v2 t.2
theorem RatV.call {w w' : World} {v : Value} {t : Fr} (h : RatV w v t) (hb : Below w.heap.size w w') : RatV w' v t := by
 obtain ⟨v1, v2, e, h1, h2⟩ := h
 exact ⟨v1, v2, e, h1.call hb, h2.call hb⟩
theorem RatV.keep {w w' : World} {v : Value} {t : Fr} (h : RatV w v t) (hb : KeepT 3 w w') : RatV w' v t := by
 obtain ⟨v1, v2, e, h1, h2⟩ := h
 exact ⟨v1, v2, e, h1.keep hb, h2.keep hb⟩
theorem RatV.form {w : World} {v : Value} {t : Fr} (h : RatV w v t) : ∃ n1 s1 k1 c1 n2 s2 k2 c2, v = .agg #[.bool n1, .slice s1 k1 c1, .bool n2, .slice s2 k2 c2] ∧ Big w (.agg #[.bool n1, .slice s1 k1 c1]) t.1 ∧ Big w (.agg #[.bool n2, .slice s2 k2 c2]) t.2 := by
 obtain ⟨v1, v2, rfl, h1, h2⟩ := h
 obtain ⟨n1, s1, k1, c1, rfl⟩ := h1.form
 obtain ⟨n2, s2, k2, c2, rfl⟩ := h2.form
 exact ⟨n1, s1, k1, c1, n2, s2, k2, c2, rfl, h1, h2⟩
theorem RatV.mk {w : World} {n1 n2 : Bool} {s1 s2 : Option Addr} {k1 c1 k2 c2 : Nat} {x y : Int} (h1 : Big w (.agg #[.bool n1, .slice s1 k1 c1]) x) (h2 : Big w (.agg #[.bool n2, .slice s2 k2 c2]) y) : RatV w (.agg #[.bool n1, .slice s1 k1 c1, .bool n2, .slice s2 k2 c2]) (x, y) := ⟨_, _, rfl, h1, h2⟩
def SpotV (w : World) (v : Value) (X Y Z : Int) : Prop := ∃ v1 v2 v3, v = .agg (v1.cells ++ v2.cells ++ v3.cells) ∧ Big w v1 X ∧ Big w v2 Y ∧ Big w v3 Z
theorem SpotV.call {w w' : World} {v : Value} {X Y Z : Int} (h : SpotV w v X Y Z) (hb : Below w.heap.size w w') : SpotV w' v X Y Z := by
 obtain ⟨v1, v2, v3, e, h1, h2, h3⟩ := h
 exact ⟨v1, v2, v3, e, h1.call hb, h2.call hb, h3.call hb⟩
theorem SpotV.form {w : World} {v : Value} {X Y Z : Int} (h : SpotV w v X Y Z) : ∃ n1 s1 k1 c1 n2 s2 k2 c2 n3 s3 k3 c3, v = .agg #[.bool n1, .slice s1 k1 c1, .bool n2, .slice s2 k2 c2, .bool n3, .slice s3 k3 c3] ∧ Big w (.agg #[.bool n1, .slice s1 k1 c1]) X ∧ Big w (.agg #[.bool n2, .slice s2 k2 c2]) Y ∧ Big w (.agg #[.bool n3, .slice s3 k3 c3]) Z := by
 obtain ⟨v1, v2, v3, rfl, h1, h2, h3⟩ := h
 obtain ⟨n1, s1, k1, c1, rfl⟩ := h1.form
 obtain ⟨n2, s2, k2, c2, rfl⟩ := h2.form
 obtain ⟨n3, s3, k3, c3, rfl⟩ := h3.form
 exact ⟨n1, s1, k1, c1, n2, s2, k2, c2, n3, s3, k3, c3, rfl, h1, h2, h3⟩
theorem Big.upd {w w' : World} {v : Value} {x : Int} {b : Nat} {cs : List Value} {T : TypeId} (h : Big w v x) (hB : Blk w b cs T) (hu : Upd b w w') (hT : T ≠ 3 := by decide) : Big w' v x := h.keep (KeepT.upd hB hT hu)
theorem Upd.low {b n : Nat} {w0 w w' : World} (h : Below n w0 w) (hn : n ≤ b) (hs : n ≤ w0.heap.size) (hu : Upd b w w') : Below n w0 w' := h.trans (hu.below hn (Nat.le_trans hs h.size))
theorem size_bigS : (Tryz.prog.info? 75).map (·.size) = some 2 := by kernel_rfl
theorem size_ratS : (Tryz.prog.info? 77).map (·.size) = some 4 := by kernel_rfl
theorem size_spotS : (Tryz.prog.info? 118).map (·.size) = some 6 := by kernel_rfl
end Go.Proofs.YthbplhglfjlngaaGreat
namespace Go.Rg
open Go Go.RowKit
section
variable {md : Region.Mode} {ops : Array Oper} {a0 : Act} {ls : List (Value → World → Prop)} {C : World → Prop}
theorem Pre.q {j : Nat} {o : Oper} {a : Act} {w : World} (h : Pre md ops a0 (nthS ls) C j o a w) (k d : Nat) {ok : Oper} {v : Value} (hk : ops[k]? = some ok := by rfl) (hd : ok.dst = some d := by rfl) (hw : waitB md o k = true := by kernel_rfl)
  (hS : nthS ls k = (fun x _ => x = v) := by rfl) : a.tmps[d]?.getD undef = v := by
 obtain ⟨u, e, h⟩ := h.ev k ok d hk hd hw
 rw [hS] at h
 exact e.trans h
theorem Pre.p {j : Nat} {o : Oper} {a : Act} {w : World} (h : Pre md ops a0 (nthS ls) C j o a w) (k d : Nat) {ok : Oper} {V : Value → World → Prop} (hk : ops[k]? = some ok := by rfl) (hd : ok.dst = some d := by rfl) (hw : waitB md o k = true := by kernel_rfl)
  (hS : nthS ls k = V := by rfl) : ∃ v, a.tmps[d]?.getD undef = v ∧ V v w := by
 obtain ⟨u, e, h⟩ := h.ev k ok d hk hd hw
 rw [hS] at h
 exact ⟨u, e, h⟩
theorem Pre.o {S : Nat → Value → World → Prop} {j : Nat} {o : Oper} {a : Act} {w : World} (h : Pre md ops a0 S C j o a w) (t : Nat) (v : Value) (hy : yetB md ops j t = true := by kernel_rfl) (he : a0.tmps[t]?.getD undef = v := by rfl) : a.tmps[t]?.getD undef = v := (h.old t hy).trans he
theorem Blk.d {S : Nat → Value → World → Prop} {W : World} {j : Nat} {o : Oper} {a : Act} {w : World} {b : Nat} {cs : List Value} {T : TypeId} (hB : Blk W b cs T) (h : Pre md ops a0 S (fun w' => Below W.heap.size W w') j o a w) (i : Nat) {v : Value} (hv : cs[i]? = some v := by rfl) : w.cell? ⟨b, i, none⟩ = some v := (hB.call h.base).cell hv
section
variable {P : Program} {V : Value → World → Prop} {o : Oper} {a : Act} {w : World} {R : World → World → Prop}
theorem dW {u : Value} (hy : (execOp a.eval o).run P w = .ok (.value u) w) (hV : V u w) (hw : Region.wanted o (yielded ops a.tmps) = true := by rfl) :
  (Region.wanted o (yielded ops a.tmps) = true ∧ dagUpon P (fun u v => Below u.heap.size u v) V w ((execOp a.eval o).run P w)) ∨ (Region.wanted o (yielded ops a.tmps) = false ∧ V undef w) := .inl ⟨hw, dagUpon_val hy (Below.refl _ _) hV⟩
theorem dX {u : Value} (hV : V u w) (hw : Region.wanted o (yielded ops a.tmps) = true := by rfl) (hy : (execOp a.eval o).run P w = .ok (.value u) w := by go_simp) :
  (Region.wanted o (yielded ops a.tmps) = true ∧ dagUpon P (fun u v => Below u.heap.size u v) V w ((execOp a.eval o).run P w)) ∨ (Region.wanted o (yielded ops a.tmps) = false ∧ V undef w) := dW hy hV hw
theorem dU {k d : Nat} {pol : Bool} {ok : Oper} (hg : o.guard = some (k, pol)) (hk : ops[k]? = some ok) (hd : ok.dst = some d) (e : a.tmps[d]?.getD undef = .bool (!pol)) (hV : V undef w := by exact rfl) :
  (Region.wanted o (yielded ops a.tmps) = true ∧ dagUpon P R V w ((execOp a.eval o).run P w)) ∨ (Region.wanted o (yielded ops a.tmps) = false ∧ V undef w) := .inr ⟨unwanted_of hg hk hd e, hV⟩
theorem dC1 {f : FuncId} {args : Array Value} {u : Value} (hy : (execOp a.eval o).run P w = .ok (.enter f args) w) (hc : Calls P f args w fun e w'' => e = .returned u ∧ Below w.heap.size w w'') (hw : Region.wanted o (yielded ops a.tmps) = true := by rfl) (hV : ∀ w'', V u w'' := by exact fun _ => rfl) :
  (Region.wanted o (yielded ops a.tmps) = true ∧ dagUpon P (fun u v => Below u.heap.size u v) V w ((execOp a.eval o).run P w)) ∨ (Region.wanted o (yielded ops a.tmps) = false ∧ V undef w) :=
 .inl ⟨hw, dagUpon_call hy (hc.mono fun e w'' ⟨he, hb⟩ => ⟨_, he, hb, hV w''⟩)⟩
theorem dC2 {f : FuncId} {args : Array Value} (hy : (execOp a.eval o).run P w = .ok (.enter f args) w) (hc : Calls P f args w fun e w'' => ∃ v, e = .returned v ∧ V v w'' ∧ Below w.heap.size w w'') (hw : Region.wanted o (yielded ops a.tmps) = true := by rfl) :
  (Region.wanted o (yielded ops a.tmps) = true ∧ dagUpon P (fun u v => Below u.heap.size u v) V w ((execOp a.eval o).run P w)) ∨ (Region.wanted o (yielded ops a.tmps) = false ∧ V undef w) :=
 .inl ⟨hw, dagUpon_call hy (hc.mono fun e w'' ⟨v, he, hv, hb⟩ => ⟨v, he, hb, hv⟩)⟩
end
end
end Go.Rg
namespace Go.Proofs.YthbplhglfjlngaaGreat
open Go.RowKit Go.Rg Go.Wd
attribute [local go_sem] Oper.semAt_some
def SmF (k : Nat) (t : Fr) : Prop := Sm k t.1 ∧ Sm k t.2
def cmpF (t u : Fr) : Int := Bg.cmpI (t.1 * u.2) (u.1 * t.2)
set_option maxHeartbeats 1000000 in
theorem cmp02_any (t u : Fr) (vt vu : Value) (w : World) (ht : RatV w vt t) (hu : RatV w vu u) (st : SmF 100 t) (su : SmF 100 u) :
  Calls Tryz.prog 56 #[vt, vu] w fun e w' => e = .returned (.int .i64 (cmpF t u)) ∧ Below w.heap.size w w' := by
 obtain ⟨n1, s1, k1, c1, n2, s2, k2, c2, rfl, h1, h2⟩ := ht.form
 obtain ⟨n3, s3, k3, c3, n4, s4, k4, c4, rfl, h3, h4⟩ := hu.form
 clear ht hu
 obtain ⟨W0, hW0⟩ : ∃ W0, [.cells #[.bool n1, .slice s1 k1 c1, .bool n2, .slice s2 k2 c2] 77, .cells #[.bool n3, .slice s3 k3 c3, .bool n4, .slice s4 k4 c4] 77].foldl World.alloc w = W0 := ⟨_, rfl⟩
 have B0 : Blk W0 (w.heap.size) [.bool n1, .slice s1 k1 c1, .bool n2, .slice s2 k2 c2] 77 := Blk.allocs _ hW0 0 rfl
 have B1 : Blk W0 (w.heap.size + 1) [.bool n3, .slice s3 k3 c3, .bool n4, .slice s4 k4 c4] 77 := Blk.allocs _ hW0 1 rfl
 have HB := aB hW0
 have hsz : w.heap.size + 2 ≤ W0.heap.size := aZ hW0
 simp only [List.foldl_cons, List.foldl_nil] at hW0
 have h1 := h1.call HB
 have h2 := h2.call HB
 have h3 := h3.call HB
 have h4 := h4.call HB
 go_enter Tryz.func56, Tryz.ntmps56
 go_upto_region 1 with (fail)
 clear hW0
 refine cG ?_
 refine dB [(fun v _ => v = .pointer (some ⟨w.heap.size, 0, none⟩)), (fun v _ => v = .agg #[.bool n1, .slice s1 k1 c1]), (fun v _ => v = .pointer (some ⟨w.heap.size + 1, 2, none⟩)), (fun v _ => v = .agg #[.bool n4, .slice s4 k4 c4]), (fun v w' => Big w' v ((t.1) * (u.2))), (fun v _ => v = .pointer (some ⟨w.heap.size + 1, 0, none⟩)), (fun v _ => v = .agg #[.bool n3, .slice s3 k3 c3]), (fun v _ => v = .pointer (some ⟨w.heap.size, 2, none⟩)), (fun v _ => v = .agg #[.bool n2, .slice s2 k2 c2]), (fun v w' => Big w' v ((u.1) * (t.2))), (fun v _ => v = .int .i64 (Bg.cmpI ((t.1) * (u.2)) ((u.1) * (t.2)))), (fun v _ => v = .int .i64 (Bg.cmpI ((t.1) * (u.2)) ((u.1) * (t.2))))] ⟨sE, sE, sE, sE, (fun v w w' h hr => h.call hr), sE, sE, sE, sE, (fun v w w' h hr => h.call hr), sE, sE, trivial⟩ ⟨?st0, ?st1, ?st2, ?st3, ?st4, ?st5, ?st6, ?st7, ?st8, ?st9, ?st10, ?st11, trivial⟩ ?_
 case st0 => (intro fa wz hp; have e2 := hp.o 2 (.pointer (some ⟨w.heap.size, 0, none⟩)); exact dX rfl)
 case st1 => (intro fa wz hp; have e5 := hp.q 0 5; have q0 := B0.d hp 0; have q1 := B0.d hp 1; exact dX rfl)
 case st2 => (intro fa wz hp; have e3 := hp.o 3 (.pointer (some ⟨w.heap.size + 1, 0, none⟩)); exact dX rfl)
 case st3 => (intro fa wz hp; have e7 := hp.q 2 7; have q0 := B1.d hp 2; have q1 := B1.d hp 3; exact dX rfl)
 case st4 => (intro fa wz hp; have e6 := hp.q 1 6; have e8 := hp.q 3 8; have hb := hp.base; exact dC2 (by go_simp) (mul_any _ _ _ _ wz (h1.call hb) (h4.call hb) (Sm.lim (k := 100) (st.1) (by decide)) (Sm.lim (k := 100) (su.2) (by decide))))
 case st5 => (intro fa wz hp; have e3 := hp.o 3 (.pointer (some ⟨w.heap.size + 1, 0, none⟩)); exact dX rfl)
 case st6 => (intro fa wz hp; have e10 := hp.q 5 10; have q0 := B1.d hp 0; have q1 := B1.d hp 1; exact dX rfl)
 case st7 => (intro fa wz hp; have e2 := hp.o 2 (.pointer (some ⟨w.heap.size, 0, none⟩)); exact dX rfl)
 case st8 => (intro fa wz hp; have e12 := hp.q 7 12; have q0 := B0.d hp 2; have q1 := B0.d hp 3; exact dX rfl)
 case st9 => (intro fa wz hp; have e11 := hp.q 6 11; have e13 := hp.q 8 13; have hb := hp.base; exact dC2 (by go_simp) (mul_any _ _ _ _ wz (h3.call hb) (h2.call hb) (Sm.lim (k := 100) (su.1) (by decide)) (Sm.lim (k := 100) (st.2) (by decide))))
 case st10 => (intro fa wz hp; obtain ⟨v9, e9, hv9⟩ := hp.p 4 9; obtain ⟨v14, e14, hv14⟩ := hp.p 9 14; have hb := hp.base; exact dC1 (by go_simp) (cmp_any _ _ _ _ wz hv9 hv14 (Sm.lim (k := 200) (Sm.mul (st.1) (su.2)) (by decide)) (Sm.lim (k := 200) (Sm.mul (su.1) (st.2)) (by decide))))
 case st11 => (intro fa wz hp; have e15 := hp.q 10 15; exact dX rfl)
 intro g w1 hb hg
 simp only [putAll, td]
 rw [show g 11 = .int .i64 (Bg.cmpI ((t.1) * (u.2)) ((u.1) * (t.2))) from hg 11 _ _ rfl rfl]
 clear hg
 have B0 := B0.below hb B0.lt
 have B1 := B1.below hb B1.lt
 have h1 := h1.call hb
 have h2 := h2.call hb
 have h3 := h3.call hb
 have h4 := h4.call hb
 have hz1 : W0.heap.size ≤ w1.heap.size := hb.size
 have HB := HB.trans (hb.mono HB.size)
 clear hb
 go_wp2_with fail
 go_ret
 exact ⟨rfl, HB⟩
theorem cI_ge {x y : Int} : 0 ≤ Bg.cmpI x y ↔ y ≤ x := by unfold Bg.cmpI; split <;> (try split) <;> omega
theorem cI_lt {x y : Int} : Bg.cmpI x y < 0 ↔ x < y := by unfold Bg.cmpI; split <;> (try split) <;> omega
theorem cI_le {x y : Int} : Bg.cmpI x y ≤ 0 ↔ x ≤ y := by unfold Bg.cmpI; split <;> (try split) <;> omega
theorem cI_eq {x y : Int} : Bg.cmpI x y = 0 ↔ x = y := by unfold Bg.cmpI; split <;> (try split) <;> omega
set_option maxHeartbeats 4000000 in
theorem inside_any (n d k size : Int) (vn vd : Value) (w : World) (h1 : Big w vn n) (h2 : Big w vd d) (sn : Sm 200 n) (sd : Sm 120 d) (k1 : -4398046511104 ≤ k) (k2 : k ≤ 4398046511104) (z1 : 0 ≤ size) (z2 : size ≤ 1048576) :
  Calls Tryz.prog 81 #[vn, vd, .int .i64 k, .int .i64 size] w fun e w' => e = .returned (.bool (insideD n d k size)) ∧ Below w.heap.size w w' := by
 obtain ⟨n1, s1, k1, c1, rfl⟩ := h1.form
 obtain ⟨n2, s2, k2, c2, rfl⟩ := h2.form
 have tw : IntKind.i64.wrap (2 * k) = 2 * k := by rw [IntKind.wrap_i64]; omega
 obtain ⟨W0, hW0⟩ : ∃ W0, [.cells #[.bool n1, .slice s1 k1 c1] 75, .cells #[.bool n2, .slice s2 k2 c2] 75].foldl World.alloc w = W0 := ⟨_, rfl⟩
 have B0 : Blk W0 (w.heap.size) [.bool n1, .slice s1 k1 c1] 75 := Blk.allocs _ hW0 0 rfl
 have B1 : Blk W0 (w.heap.size + 1) [.bool n2, .slice s2 k2 c2] 75 := Blk.allocs _ hW0 1 rfl
 have HB := aB hW0
 have hsz : w.heap.size + 2 ≤ W0.heap.size := aZ hW0
 simp only [List.foldl_cons, List.foldl_nil] at hW0
 have h1 := h1.call HB
 have h2 := h2.call HB
 go_enter Tryz.func81, Tryz.ntmps81
 go_upto_region 1 with (fail)
 clear hW0
 refine cP ?_
 refine every_last 4 rfl rfl (by kernel_rfl) (by kernel_rfl) ?_
 simp only [List.take_succ_cons, List.take_zero]
 refine dB [(fun v _ => v = .agg #[.bool n1, .slice s1 k1 c1]), (fun v _ => v = .agg #[.bool n1, .slice s1 k1 c1]), (fun v w' => Big w' v ((n) + (n))), (fun v w' => ∃ q, v = .pointer (some ⟨q, 0, none⟩) ∧ W0.heap.size ≤ q ∧ Blk w' q [.bool false, .slice none 0 0] 75)] ⟨sE, sE, (fun v w w' h hr => h.call hr), (fun v w w' ⟨q, e, h0, h⟩ hr => ⟨q, e, h0, h.call hr⟩), trivial⟩ ⟨?st0, ?st1, ?st2, ?st3, trivial⟩ ?_
 case st0 => (intro fa wz hp; have e4 := hp.o 4 (.pointer (some ⟨w.heap.size, 0, none⟩)); have q0 := B0.d hp 0; have q1 := B0.d hp 1; exact dX rfl)
 case st1 => (intro fa wz hp; have e4 := hp.o 4 (.pointer (some ⟨w.heap.size, 0, none⟩)); have q0 := B0.d hp 0; have q1 := B0.d hp 1; exact dX rfl)
 case st2 => (intro fa wz hp; have e12 := hp.q 0 12; have e13 := hp.q 1 13; have hb := hp.base; exact dC2 (by go_simp) (add_any _ _ _ _ wz (h1.call hb) (h1.call hb) (Sm.lim (k := 200) (sn) (by decide)) (Sm.lim (k := 200) (sn) (by decide))))
 case st3 => (intro fa wz hp; have hb := hp.base; refine .inl ⟨by rfl, ?_⟩; exact dagUpon_new (w' := wz.alloc (.cells #[.bool false, .slice none 0 0] 75)) (u := .pointer (some ⟨wz.heap.size, 0, none⟩)) (by go_simp) ((Below.refl _ wz).alloc (Nat.le_refl _) _) ⟨_, rfl, hb.size, Blk.new _ _ _⟩)
 intro g w1 hb hg
 simp only [putAll, td]
 have hx1 := hg 2 _ _ rfl rfl
 replace hx1 := show (fun v w' => Big w' v ((n) + (n))) (g 2) w1 from hx1
 obtain ⟨m1, t1', j1, i1, hf1⟩ := hx1.form
 rw [hf1] at hx1 ⊢
 clear hf1
 obtain ⟨b1, hq1, hle1, hB1⟩ := hg 3 _ _ rfl rfl
 rw [show g 3 = _ from hq1]
 clear hq1
 clear hg
 refine lastQ_store (b := b1) (off := 0) (u := .agg #[.bool m1, .slice t1' j1 i1]) (by rfl) (by rfl) (by rfl) (by rfl) hB1 (by rw [size_bigS]; rfl) (by simp [Value.cells, Value.oneCell']) (by simp [Value.cells]) ?_
 intro y1 hu1 hc1
 have B0 := (B0.below hb B0.lt).upd hu1 (by have := B0.lt; omega)
 have B1 := (B1.below hb B1.lt).upd hu1 (by have := B1.lt; omega)
 have h1 := Big.upd (h1.call hb) hB1 hu1
 have h2 := Big.upd (h2.call hb) hB1 hu1
 have hx1 := Big.upd hx1 hB1 hu1
 have hz1 : W0.heap.size ≤ y1.heap.size := Nat.le_trans hb.size hu1.size
 have HB := Upd.low (HB.trans (hb.mono HB.size)) (by omega) (Nat.le_refl _) hu1
 have B101 : Blk y1 (b1) [.bool m1, .slice t1' j1 i1] 75 := hc1
 clear hb hu1 hc1 hB1
 go_upto_region 2 with (fail)
 refine cG ?_
 refine every_last 9 rfl rfl (by kernel_rfl) (by kernel_rfl) ?_
 simp only [List.take_succ_cons, List.take_zero]
 refine dB [(fun v _ => v = .int .i64 k), (fun v _ => v = .int .i64 (2 * k)), (fun v w' => Big w' v (2 * k)), (fun v _ => v = .int .i64 size), (fun v w' => Big w' v (size)), (fun v w' => Big w' v ((2 * k) * (size))), (fun v _ => v = .agg #[.bool n2, .slice s2 k2 c2]), (fun v w' => Big w' v (((2 * k) * (size)) * (d))), (fun v w' => ∃ q, v = .pointer (some ⟨q, 0, none⟩) ∧ y1.heap.size ≤ q ∧ Blk w' q [.bool false, .slice none 0 0] 75)] ⟨sE, sE, (fun v w w' h hr => h.call hr), sE, (fun v w w' h hr => h.call hr), (fun v w w' h hr => h.call hr), sE, (fun v w w' h hr => h.call hr), (fun v w w' ⟨q, e, h0, h⟩ hr => ⟨q, e, h0, h.call hr⟩), trivial⟩ ⟨?st0, ?st1, ?st2, ?st3, ?st4, ?st5, ?st6, ?st7, ?st8, trivial⟩ ?_
 case st0 => (intro fa wz hp; have e2 := hp.o 2 (.int .i64 k); exact dX rfl)
 case st1 => (intro fa wz hp; have e15 := hp.q 0 15; have nn := tw; exact dX rfl)
 case st2 => (intro fa wz hp; have e16 := hp.q 1 16; have hb := hp.base; exact dC2 (by go_simp) (of_any _ wz (by omega) (by omega)))
 case st3 => (intro fa wz hp; have e3 := hp.o 3 (.int .i64 size); exact dX rfl)
 case st4 => (intro fa wz hp; have e18 := hp.q 3 18; have hb := hp.base; exact dC2 (by go_simp) (of_any _ wz (by omega) (by omega)))
 case st5 => (intro fa wz hp; obtain ⟨v17, e17, hv17⟩ := hp.p 2 17; obtain ⟨v19, e19, hv19⟩ := hp.p 4 19; have hb := hp.base; exact dC2 (by go_simp) (mul_any _ _ _ _ wz hv17 hv19 (Sm.lim (k := 63) (Sm.int (by omega) (by omega)) (by decide)) (Sm.lim (k := 63) (Sm.int (by omega) (by omega)) (by decide))))
 case st6 => (intro fa wz hp; have e5 := hp.o 5 (.pointer (some ⟨w.heap.size + 1, 0, none⟩)); have q0 := B1.d hp 0; have q1 := B1.d hp 1; exact dX rfl)
 case st7 => (intro fa wz hp; obtain ⟨v20, e20, hv20⟩ := hp.p 5 20; have e21 := hp.q 6 21; have hb := hp.base; exact dC2 (by go_simp) (mul_any _ _ _ _ wz hv20 (h2.call hb) (Sm.lim (k := 126) (Sm.mul (Sm.int (by omega) (by omega)) (Sm.int (by omega) (by omega))) (by decide)) (Sm.lim (k := 120) (sd) (by decide))))
 case st8 => (intro fa wz hp; have hb := hp.base; refine .inl ⟨by rfl, ?_⟩; exact dagUpon_new (w' := wz.alloc (.cells #[.bool false, .slice none 0 0] 75)) (u := .pointer (some ⟨wz.heap.size, 0, none⟩)) (by go_simp) ((Below.refl _ wz).alloc (Nat.le_refl _) _) ⟨_, rfl, hb.size, Blk.new _ _ _⟩)
 intro g w2 hb hg
 simp only [putAll, td]
 have hx2 := hg 7 _ _ rfl rfl
 replace hx2 := show (fun v w' => Big w' v (((2 * k) * (size)) * (d))) (g 7) w2 from hx2
 obtain ⟨m2, t2', j2, i2, hf2⟩ := hx2.form
 rw [hf2] at hx2 ⊢
 clear hf2
 obtain ⟨b2, hq2, hle2, hB2⟩ := hg 8 _ _ rfl rfl
 rw [show g 8 = _ from hq2]
 clear hq2
 have hlt2_b1 : b1 < b2 := lL B101.lt hle2
 clear hg
 refine lastQ_store (b := b2) (off := 0) (u := .agg #[.bool m2, .slice t2' j2 i2]) (by rfl) (by rfl) (by rfl) (by rfl) hB2 (by rw [size_bigS]; rfl) (by simp [Value.cells, Value.oneCell']) (by simp [Value.cells]) ?_
 intro y2 hu2 hc2
 have B0 := (B0.below hb B0.lt).upd hu2 (by have := B0.lt; omega)
 have B1 := (B1.below hb B1.lt).upd hu2 (by have := B1.lt; omega)
 have B101 := (B101.below hb B101.lt).upd hu2 (by have := B101.lt; omega)
 have h1 := Big.upd (h1.call hb) hB2 hu2
 have h2 := Big.upd (h2.call hb) hB2 hu2
 have hx1 := Big.upd (hx1.call hb) hB2 hu2
 have hx2 := Big.upd hx2 hB2 hu2
 have hz2 : y1.heap.size ≤ y2.heap.size := Nat.le_trans hb.size hu2.size
 have HB := Upd.low (HB.trans (hb.mono HB.size)) (by omega) (Nat.le_refl _) hu2
 have B102 : Blk y2 (b2) [.bool m2, .slice t2' j2 i2] 75 := hc2
 clear hb hu2 hc2 hB2
 go_upto_region 3 with (fail)
 refine cG ?_
 refine every_last 5 rfl rfl (by kernel_rfl) (by kernel_rfl) ?_
 simp only [List.take_succ_cons, List.take_zero]
 refine dB [(fun v _ => v = .int .i64 size), (fun v w' => Big w' v (size)), (fun v _ => v = .agg #[.bool n2, .slice s2 k2 c2]), (fun v w' => Big w' v ((size) * (d))), (fun v w' => ∃ q, v = .pointer (some ⟨q, 0, none⟩) ∧ y2.heap.size ≤ q ∧ Blk w' q [.bool false, .slice none 0 0] 75)] ⟨sE, (fun v w w' h hr => h.call hr), sE, (fun v w w' h hr => h.call hr), (fun v w w' ⟨q, e, h0, h⟩ hr => ⟨q, e, h0, h.call hr⟩), trivial⟩ ⟨?st0, ?st1, ?st2, ?st3, ?st4, trivial⟩ ?_
 case st0 => (intro fa wz hp; have e3 := hp.o 3 (.int .i64 size); exact dX rfl)
 case st1 => (intro fa wz hp; have e23 := hp.q 0 23; have hb := hp.base; exact dC2 (by go_simp) (of_any _ wz (by omega) (by omega)))
 case st2 => (intro fa wz hp; have e5 := hp.o 5 (.pointer (some ⟨w.heap.size + 1, 0, none⟩)); have q0 := B1.d hp 0; have q1 := B1.d hp 1; exact dX rfl)
 case st3 => (intro fa wz hp; obtain ⟨v24, e24, hv24⟩ := hp.p 1 24; have e25 := hp.q 2 25; have hb := hp.base; exact dC2 (by go_simp) (mul_any _ _ _ _ wz hv24 (h2.call hb) (Sm.lim (k := 63) (Sm.int (by omega) (by omega)) (by decide)) (Sm.lim (k := 120) (sd) (by decide))))
 case st4 => (intro fa wz hp; have hb := hp.base; refine .inl ⟨by rfl, ?_⟩; exact dagUpon_new (w' := wz.alloc (.cells #[.bool false, .slice none 0 0] 75)) (u := .pointer (some ⟨wz.heap.size, 0, none⟩)) (by go_simp) ((Below.refl _ wz).alloc (Nat.le_refl _) _) ⟨_, rfl, hb.size, Blk.new _ _ _⟩)
 intro g w3 hb hg
 simp only [putAll, td]
 have hx3 := hg 3 _ _ rfl rfl
 replace hx3 := show (fun v w' => Big w' v ((size) * (d))) (g 3) w3 from hx3
 obtain ⟨m3, t3', j3, i3, hf3⟩ := hx3.form
 rw [hf3] at hx3 ⊢
 clear hf3
 obtain ⟨b3, hq3, hle3, hB3⟩ := hg 4 _ _ rfl rfl
 rw [show g 4 = _ from hq3]
 clear hq3
 have hlt3_b1 : b1 < b3 := lL B101.lt hle3
 have hlt3_b2 : b2 < b3 := lL B102.lt hle3
 clear hg
 refine lastQ_store (b := b3) (off := 0) (u := .agg #[.bool m3, .slice t3' j3 i3]) (by rfl) (by rfl) (by rfl) (by rfl) hB3 (by rw [size_bigS]; rfl) (by simp [Value.cells, Value.oneCell']) (by simp [Value.cells]) ?_
 intro y3 hu3 hc3
 have B0 := (B0.below hb B0.lt).upd hu3 (by have := B0.lt; omega)
 have B1 := (B1.below hb B1.lt).upd hu3 (by have := B1.lt; omega)
 have B101 := (B101.below hb B101.lt).upd hu3 (by have := B101.lt; omega)
 have B102 := (B102.below hb B102.lt).upd hu3 (by have := B102.lt; omega)
 have h1 := Big.upd (h1.call hb) hB3 hu3
 have h2 := Big.upd (h2.call hb) hB3 hu3
 have hx1 := Big.upd (hx1.call hb) hB3 hu3
 have hx2 := Big.upd (hx2.call hb) hB3 hu3
 have hx3 := Big.upd hx3 hB3 hu3
 have hz3 : y2.heap.size ≤ y3.heap.size := Nat.le_trans hb.size hu3.size
 have HB := Upd.low (HB.trans (hb.mono HB.size)) (by omega) (Nat.le_refl _) hu3
 have B103 : Blk y3 (b3) [.bool m3, .slice t3' j3 i3] 75 := hc3
 clear hb hu3 hc3 hB3
 obtain ⟨B2, HB2⟩ : ∃ bq : Bool, Hid (decide (Bg.cmpI ((n) + (n)) ((((2 * k) * (size)) * (d)) + ((size) * (d))) < 0) = bq) := ⟨_, hH rfl⟩
 by_cases hc : 2 * k * size * d - size * d ≤ n + n
 ·have HR : Hid (insideD n d k size = B2) := hH (by unfold insideD; rw [← HB2.out]; simp [hc, cI_lt])
  have hA : 0 ≤ Bg.cmpI ((n) + (n)) ((((2 * k) * (size)) * (d)) - ((size) * (d))) := cI_ge.2 hc
  go_upto_region 4 with (fail)
  refine cG ?_
  refine dB [(fun v _ => v = .agg #[.bool m1, .slice t1' j1 i1]), (fun v _ => v = .agg #[.bool m2, .slice t2' j2 i2]), (fun v _ => v = .agg #[.bool m3, .slice t3' j3 i3]), (fun v w' => Big w' v ((((2 * k) * (size)) * (d)) - ((size) * (d)))), (fun v _ => v = .int .i64 (Bg.cmpI ((n) + (n)) ((((2 * k) * (size)) * (d)) - ((size) * (d))))), (fun v _ => v = .bool true), (fun v _ => v = .bool true), (fun v _ => v = .agg #[.bool m1, .slice t1' j1 i1]), (fun v _ => v = .agg #[.bool m2, .slice t2' j2 i2]), (fun v _ => v = .agg #[.bool m3, .slice t3' j3 i3]), (fun v w' => Big w' v ((((2 * k) * (size)) * (d)) + ((size) * (d)))), (fun v _ => v = .int .i64 (Bg.cmpI ((n) + (n)) ((((2 * k) * (size)) * (d)) + ((size) * (d))))), (fun v _ => v = .bool B2), (fun v _ => v = .bool B2), (fun v _ => v = .bool B2)] ⟨sE, sE, sE, (fun v w w' h hr => h.call hr), sE, sE, sE, sE, sE, sE, (fun v w w' h hr => h.call hr), sE, sE, sE, sE, trivial⟩ ⟨?st0, ?st1, ?st2, ?st3, ?st4, ?st5, ?st6, ?st7, ?st8, ?st9, ?st10, ?st11, ?st12, ?st13, ?st14, trivial⟩ ?_
  case st0 => (intro fa wz hp; have e9 := hp.o 9 (.pointer (some ⟨b1, 0, none⟩)); have q0 := B101.d hp 0; have q1 := B101.d hp 1; exact dX rfl)
  case st1 => (intro fa wz hp; have e10 := hp.o 10 (.pointer (some ⟨b2, 0, none⟩)); have q0 := B102.d hp 0; have q1 := B102.d hp 1; exact dX rfl)
  case st2 => (intro fa wz hp; have e11 := hp.o 11 (.pointer (some ⟨b3, 0, none⟩)); have q0 := B103.d hp 0; have q1 := B103.d hp 1; exact dX rfl)
  case st3 => (intro fa wz hp; have e28 := hp.q 1 28; have e29 := hp.q 2 29; have hb := hp.base; exact dC2 (by go_simp) (sub_any _ _ _ _ wz (hx2.call hb) (hx3.call hb) (Sm.lim (k := 246) (Sm.mul (Sm.mul (Sm.int (by omega) (by omega)) (Sm.int (by omega) (by omega))) (sd)) (by decide)) (Sm.lim (k := 183) (Sm.mul (Sm.int (by omega) (by omega)) (sd)) (by decide))))
  case st4 => (intro fa wz hp; have e27 := hp.q 0 27; obtain ⟨v30, e30, hv30⟩ := hp.p 3 30; have hb := hp.base; exact dC1 (by go_simp) (cmp_any _ _ _ _ wz (hx1.call hb) hv30 (Sm.lim (k := 201) ((Sm.add (k := 200) (sn) (sn))) (by decide)) (Sm.lim (k := 247) ((Sm.sub (k := 246) (Sm.mul (Sm.mul (Sm.int (by omega) (by omega)) (Sm.int (by omega) (by omega))) (sd)) ((Sm.mul (Sm.int (by omega) (by omega)) (sd)).mono (by decide)))) (by decide))))
  case st5 => (intro fa wz hp; have e31 := hp.q 4 31; have nn := hA; exact dX rfl)
  case st6 => (intro fa wz hp; have e32 := hp.q 5 32; exact dX rfl)
  case st7 => (intro fa wz hp; have e9 := hp.o 9 (.pointer (some ⟨b1, 0, none⟩)); have q0 := B101.d hp 0; have q1 := B101.d hp 1; exact dX rfl (wanted_of rfl rfl rfl (hp.q 6 33)))
  case st8 => (intro fa wz hp; have e10 := hp.o 10 (.pointer (some ⟨b2, 0, none⟩)); have q0 := B102.d hp 0; have q1 := B102.d hp 1; exact dX rfl (wanted_of rfl rfl rfl (hp.q 6 33)))
  case st9 => (intro fa wz hp; have e11 := hp.o 11 (.pointer (some ⟨b3, 0, none⟩)); have q0 := B103.d hp 0; have q1 := B103.d hp 1; exact dX rfl (wanted_of rfl rfl rfl (hp.q 6 33)))
  case st10 => (intro fa wz hp; have e35 := hp.q 8 35; have e36 := hp.q 9 36; have hb := hp.base; exact dC2 (by go_simp) (add_any _ _ _ _ wz (hx2.call hb) (hx3.call hb) (Sm.lim (k := 246) (Sm.mul (Sm.mul (Sm.int (by omega) (by omega)) (Sm.int (by omega) (by omega))) (sd)) (by decide)) (Sm.lim (k := 183) (Sm.mul (Sm.int (by omega) (by omega)) (sd)) (by decide))) (wanted_of rfl rfl rfl (hp.q 6 33)))
  case st11 => (intro fa wz hp; have e34 := hp.q 7 34; obtain ⟨v37, e37, hv37⟩ := hp.p 10 37; have hb := hp.base; exact dC1 (by go_simp) (cmp_any _ _ _ _ wz (hx1.call hb) hv37 (Sm.lim (k := 201) ((Sm.add (k := 200) (sn) (sn))) (by decide)) (Sm.lim (k := 247) ((Sm.add (k := 246) (Sm.mul (Sm.mul (Sm.int (by omega) (by omega)) (Sm.int (by omega) (by omega))) (sd)) ((Sm.mul (Sm.int (by omega) (by omega)) (sd)).mono (by decide)))) (by decide))) (wanted_of rfl rfl rfl (hp.q 6 33)))
  case st12 => (intro fa wz hp; have e38 := hp.q 11 38; have nn := HB2.out; exact dX rfl (wanted_of rfl rfl rfl (hp.q 6 33)))
  case st13 => (intro fa wz hp; have e33 := hp.q 6 33; have e39 := hp.q 12 39; exact dX rfl)
  case st14 => (intro fa wz hp; have e40 := hp.q 13 40; exact dX rfl)
  intro g w4 hb hg
  simp only [putAll, td]
  rw [show g 14 = .bool B2 from hg 14 _ _ rfl rfl]
  clear hg
  have B0 := B0.below hb B0.lt
  have B1 := B1.below hb B1.lt
  have B101 := B101.below hb B101.lt
  have B102 := B102.below hb B102.lt
  have B103 := B103.below hb B103.lt
  have h1 := h1.call hb
  have h2 := h2.call hb
  have hx1 := hx1.call hb
  have hx2 := hx2.call hb
  have hx3 := hx3.call hb
  have hz4 : y3.heap.size ≤ w4.heap.size := hb.size
  have HB := HB.trans (hb.mono HB.size)
  clear hb
  go_wp2_with fail
  go_ret
  exact ⟨by rw [HR.out]; rfl, HB⟩
 ·have HR : Hid (insideD n d k size = false) := hH (by unfold insideD; simp [hc])
  have hA : ¬ 0 ≤ Bg.cmpI ((n) + (n)) ((((2 * k) * (size)) * (d)) - ((size) * (d))) := fun h => hc (cI_ge.1 h)
  go_upto_region 4 with (fail)
  refine cG ?_
  refine dB [(fun v _ => v = .agg #[.bool m1, .slice t1' j1 i1]), (fun v _ => v = .agg #[.bool m2, .slice t2' j2 i2]), (fun v _ => v = .agg #[.bool m3, .slice t3' j3 i3]), (fun v w' => Big w' v ((((2 * k) * (size)) * (d)) - ((size) * (d)))), (fun v _ => v = .int .i64 (Bg.cmpI ((n) + (n)) ((((2 * k) * (size)) * (d)) - ((size) * (d))))), (fun v _ => v = .bool false), (fun v _ => v = .bool false), (fun v _ => v = undef), (fun v _ => v = undef), (fun v _ => v = undef), (fun v _ => v = undef), (fun v _ => v = undef), (fun v _ => v = undef), (fun v _ => v = .bool false), (fun v _ => v = .bool false)] ⟨sE, sE, sE, (fun v w w' h hr => h.call hr), sE, sE, sE, sE, sE, sE, sE, sE, sE, sE, sE, trivial⟩ ⟨?st0, ?st1, ?st2, ?st3, ?st4, ?st5, ?st6, ?st7, ?st8, ?st9, ?st10, ?st11, ?st12, ?st13, ?st14, trivial⟩ ?_
  case st0 => (intro fa wz hp; have e9 := hp.o 9 (.pointer (some ⟨b1, 0, none⟩)); have q0 := B101.d hp 0; have q1 := B101.d hp 1; exact dX rfl)
  case st1 => (intro fa wz hp; have e10 := hp.o 10 (.pointer (some ⟨b2, 0, none⟩)); have q0 := B102.d hp 0; have q1 := B102.d hp 1; exact dX rfl)
  case st2 => (intro fa wz hp; have e11 := hp.o 11 (.pointer (some ⟨b3, 0, none⟩)); have q0 := B103.d hp 0; have q1 := B103.d hp 1; exact dX rfl)
  case st3 => (intro fa wz hp; have e28 := hp.q 1 28; have e29 := hp.q 2 29; have hb := hp.base; exact dC2 (by go_simp) (sub_any _ _ _ _ wz (hx2.call hb) (hx3.call hb) (Sm.lim (k := 246) (Sm.mul (Sm.mul (Sm.int (by omega) (by omega)) (Sm.int (by omega) (by omega))) (sd)) (by decide)) (Sm.lim (k := 183) (Sm.mul (Sm.int (by omega) (by omega)) (sd)) (by decide))))
  case st4 => (intro fa wz hp; have e27 := hp.q 0 27; obtain ⟨v30, e30, hv30⟩ := hp.p 3 30; have hb := hp.base; exact dC1 (by go_simp) (cmp_any _ _ _ _ wz (hx1.call hb) hv30 (Sm.lim (k := 201) ((Sm.add (k := 200) (sn) (sn))) (by decide)) (Sm.lim (k := 247) ((Sm.sub (k := 246) (Sm.mul (Sm.mul (Sm.int (by omega) (by omega)) (Sm.int (by omega) (by omega))) (sd)) ((Sm.mul (Sm.int (by omega) (by omega)) (sd)).mono (by decide)))) (by decide))))
  case st5 => (intro fa wz hp; have e31 := hp.q 4 31; have nn := hA; exact dX rfl)
  case st6 => (intro fa wz hp; have e32 := hp.q 5 32; exact dX rfl)
  case st7 => (intro fa wz hp; exact dU rfl rfl rfl (hp.q 6 33))
  case st8 => (intro fa wz hp; exact dU rfl rfl rfl (hp.q 6 33))
  case st9 => (intro fa wz hp; exact dU rfl rfl rfl (hp.q 6 33))
  case st10 => (intro fa wz hp; exact dU rfl rfl rfl (hp.q 6 33))
  case st11 => (intro fa wz hp; exact dU rfl rfl rfl (hp.q 6 33))
  case st12 => (intro fa wz hp; exact dU rfl rfl rfl (hp.q 6 33))
  case st13 => (intro fa wz hp; have e33 := hp.q 6 33; have e39 := hp.q 12 39; exact dX rfl)
  case st14 => (intro fa wz hp; have e40 := hp.q 13 40; exact dX rfl)
  intro g w4 hb hg
  simp only [putAll, td]
  rw [show g 14 = .bool false from hg 14 _ _ rfl rfl]
  clear hg
  have B0 := B0.below hb B0.lt
  have B1 := B1.below hb B1.lt
  have B101 := B101.below hb B101.lt
  have B102 := B102.below hb B102.lt
  have B103 := B103.below hb B103.lt
  have h1 := h1.call hb
  have h2 := h2.call hb
  have hx1 := hx1.call hb
  have hx2 := hx2.call hb
  have hx3 := hx3.call hb
  have hz4 : y3.heap.size ≤ w4.heap.size := hb.size
  have HB := HB.trans (hb.mono HB.size)
  clear hb
  go_wp2_with fail
  go_ret
  exact ⟨by rw [HR.out]; rfl, HB⟩
theorem size_p3S : (Tryz.prog.info? 37).map (·.size) = some 2 := by kernel_rfl
set_option maxHeartbeats 4000000 in
theorem at15_any (a b c d : Int) (t : Fr) (vt : Value) (w : World) (ht : RatV w vt t) (st : SmF 92 t) (a1 : a.natAbs ≤ 2199023255552) (a2 : b.natAbs ≤ 2199023255552) (a3 : c.natAbs ≤ 2199023255552) (a4 : d.natAbs ≤ 2199023255552) :
  Calls Tryz.prog 54 #[.agg #[.int .i64 a, .int .i64 b], .agg #[.int .i64 c, .int .i64 d], vt] w fun e w' => ∃ v, e = .returned v ∧ SpotV w' v (a * t.2 + (c - a) * t.1) (b * t.2 + (d - b) * t.1) t.2 ∧ Below w.heap.size w w' := by
 have tw1 : IntKind.i64.wrap (c - a) = c - a := by rw [IntKind.wrap_i64]; omega
 have tw2 : IntKind.i64.wrap (d - b) = d - b := by rw [IntKind.wrap_i64]; omega
 obtain ⟨n1, s1, k1, c1, n2, s2, k2, c2, rfl, h1, h2⟩ := ht.form
 clear ht
 obtain ⟨W0, hW0⟩ : ∃ W0, [.cells #[.int .i64 a, .int .i64 b] 37, .cells #[.int .i64 c, .int .i64 d] 37, .cells #[.bool n1, .slice s1 k1 c1, .bool n2, .slice s2 k2 c2] 77, .cells #[.bool false, .slice none 0 0, .bool false, .slice none 0 0, .bool false, .slice none 0 0] 118].foldl World.alloc w = W0 := ⟨_, rfl⟩
 have B0 : Blk W0 (w.heap.size) [.int .i64 a, .int .i64 b] 37 := Blk.allocs _ hW0 0 rfl
 have B1 : Blk W0 (w.heap.size + 1) [.int .i64 c, .int .i64 d] 37 := Blk.allocs _ hW0 1 rfl
 have B2 : Blk W0 (w.heap.size + 1 + 1) [.bool n1, .slice s1 k1 c1, .bool n2, .slice s2 k2 c2] 77 := Blk.allocs _ hW0 2 rfl
 have B3 : Blk W0 (w.heap.size + 1 + 1 + 1) [.bool false, .slice none 0 0, .bool false, .slice none 0 0, .bool false, .slice none 0 0] 118 := Blk.allocs _ hW0 3 rfl
 have HB := aB hW0
 have hsz : w.heap.size + 4 ≤ W0.heap.size := aZ hW0
 simp only [List.foldl_cons, List.foldl_nil] at hW0
 have h1 := h1.call HB
 have h2 := h2.call HB
 go_enter Tryz.func54, Tryz.ntmps54
 go_upto_region 1 with (fail)
 clear hW0
 refine cG ?_
 refine every_last 17 rfl rfl (by kernel_rfl) (by kernel_rfl) ?_
 simp only [List.take_succ_cons, List.take_zero]
 refine dB [(fun v _ => v = .pointer (some ⟨w.heap.size, 0, none⟩)), (fun v _ => v = .int .i64 a), (fun v w' => Big w' v (a)), (fun v _ => v = .pointer (some ⟨w.heap.size + 1 + 1, 2, none⟩)), (fun v _ => v = .agg #[.bool n2, .slice s2 k2 c2]), (fun v w' => Big w' v ((a) * (t.2))), (fun v _ => v = .pointer (some ⟨w.heap.size + 1, 0, none⟩)), (fun v _ => v = .int .i64 c), (fun v _ => v = .pointer (some ⟨w.heap.size, 0, none⟩)), (fun v _ => v = .int .i64 a), (fun v _ => v = .int .i64 (c - a)), (fun v w' => Big w' v (c - a)), (fun v _ => v = .pointer (some ⟨w.heap.size + 1 + 1, 0, none⟩)), (fun v _ => v = .agg #[.bool n1, .slice s1 k1 c1]), (fun v w' => Big w' v ((c - a) * (t.1))), (fun v w' => Big w' v (((a) * (t.2)) + ((c - a) * (t.1)))), (fun v w' => ∃ q, v = .pointer (some ⟨q, 0, none⟩) ∧ W0.heap.size ≤ q ∧ Blk w' q [.bool false, .slice none 0 0] 75)] ⟨sE, sE, (fun v w w' h hr => h.call hr), sE, sE, (fun v w w' h hr => h.call hr), sE, sE, sE, sE, sE, (fun v w w' h hr => h.call hr), sE, sE, (fun v w w' h hr => h.call hr), (fun v w w' h hr => h.call hr), (fun v w w' ⟨q, e, h0, h⟩ hr => ⟨q, e, h0, h.call hr⟩), trivial⟩ ⟨?st0, ?st1, ?st2, ?st3, ?st4, ?st5, ?st6, ?st7, ?st8, ?st9, ?st10, ?st11, ?st12, ?st13, ?st14, ?st15, ?st16, trivial⟩ ?_
 case st0 => (intro fa wz hp; have e3 := hp.o 3 (.pointer (some ⟨w.heap.size, 0, none⟩)); exact dX rfl)
 case st1 => (intro fa wz hp; have e9 := hp.q 0 9; have q0 := B0.d hp 0; exact dX rfl)
 case st2 => (intro fa wz hp; have e10 := hp.q 1 10; have hb := hp.base; exact dC2 (by go_simp) (of_any _ wz (by omega) (by omega)))
 case st3 => (intro fa wz hp; have e5 := hp.o 5 (.pointer (some ⟨w.heap.size + 1 + 1, 0, none⟩)); exact dX rfl)
 case st4 => (intro fa wz hp; have e12 := hp.q 3 12; have q0 := B2.d hp 2; have q1 := B2.d hp 3; exact dX rfl)
 case st5 => (intro fa wz hp; obtain ⟨v11, e11, hv11⟩ := hp.p 2 11; have e13 := hp.q 4 13; have hb := hp.base; exact dC2 (by go_simp) (mul_any _ _ _ _ wz hv11 (h2.call hb) (Sm.lim (k := 63) (Sm.int (by omega) (by omega)) (by decide)) (Sm.lim (k := 92) (st.2) (by decide))))
 case st6 => (intro fa wz hp; have e4 := hp.o 4 (.pointer (some ⟨w.heap.size + 1, 0, none⟩)); exact dX rfl)
 case st7 => (intro fa wz hp; have e15 := hp.q 6 15; have q0 := B1.d hp 0; exact dX rfl)
 case st8 => (intro fa wz hp; have e3 := hp.o 3 (.pointer (some ⟨w.heap.size, 0, none⟩)); exact dX rfl)
 case st9 => (intro fa wz hp; have e17 := hp.q 8 17; have q0 := B0.d hp 0; exact dX rfl)
 case st10 => (intro fa wz hp; have e16 := hp.q 7 16; have e18 := hp.q 9 18; have nn := tw1; exact dX rfl)
 case st11 => (intro fa wz hp; have e19 := hp.q 10 19; have hb := hp.base; exact dC2 (by go_simp) (of_any _ wz (by omega) (by omega)))
 case st12 => (intro fa wz hp; have e5 := hp.o 5 (.pointer (some ⟨w.heap.size + 1 + 1, 0, none⟩)); exact dX rfl)
 case st13 => (intro fa wz hp; have e21 := hp.q 12 21; have q0 := B2.d hp 0; have q1 := B2.d hp 1; exact dX rfl)
 case st14 => (intro fa wz hp; obtain ⟨v20, e20, hv20⟩ := hp.p 11 20; have e22 := hp.q 13 22; have hb := hp.base; exact dC2 (by go_simp) (mul_any _ _ _ _ wz hv20 (h1.call hb) (Sm.lim (k := 63) (Sm.int (by omega) (by omega)) (by decide)) (Sm.lim (k := 92) (st.1) (by decide))))
 case st15 => (intro fa wz hp; obtain ⟨v14, e14, hv14⟩ := hp.p 5 14; obtain ⟨v23, e23, hv23⟩ := hp.p 14 23; have hb := hp.base; exact dC2 (by go_simp) (add_any _ _ _ _ wz hv14 hv23 (Sm.lim (k := 155) (Sm.mul (Sm.int (by omega) (by omega)) (st.2)) (by decide)) (Sm.lim (k := 155) (Sm.mul (Sm.int (by omega) (by omega)) (st.1)) (by decide))))
 case st16 => (intro fa wz hp; have hb := hp.base; refine .inl ⟨by rfl, ?_⟩; exact dagUpon_new (w' := wz.alloc (.cells #[.bool false, .slice none 0 0] 75)) (u := .pointer (some ⟨wz.heap.size, 0, none⟩)) (by go_simp) ((Below.refl _ wz).alloc (Nat.le_refl _) _) ⟨_, rfl, hb.size, Blk.new _ _ _⟩)
 intro g w1 hb hg
 simp only [putAll, td]
 have hx1 := hg 15 _ _ rfl rfl
 replace hx1 := show (fun v w' => Big w' v (((a) * (t.2)) + ((c - a) * (t.1)))) (g 15) w1 from hx1
 obtain ⟨m1, t1', j1, i1, hf1⟩ := hx1.form
 rw [hf1] at hx1 ⊢
 clear hf1
 obtain ⟨b1, hq1, hle1, hB1⟩ := hg 16 _ _ rfl rfl
 rw [show g 16 = _ from hq1]
 clear hq1
 clear hg
 refine lastQ_store (b := b1) (off := 0) (u := .agg #[.bool m1, .slice t1' j1 i1]) (by rfl) (by rfl) (by rfl) (by rfl) hB1 (by rw [size_bigS]; rfl) (by simp [Value.cells, Value.oneCell']) (by simp [Value.cells]) ?_
 intro y1 hu1 hc1
 have B0 := (B0.below hb B0.lt).upd hu1 (by have := B0.lt; omega)
 have B1 := (B1.below hb B1.lt).upd hu1 (by have := B1.lt; omega)
 have B2 := (B2.below hb B2.lt).upd hu1 (by have := B2.lt; omega)
 have B3 := (B3.below hb B3.lt).upd hu1 (by have := B3.lt; omega)
 have h1 := Big.upd (h1.call hb) hB1 hu1
 have h2 := Big.upd (h2.call hb) hB1 hu1
 have hx1 := Big.upd hx1 hB1 hu1
 have hz1 : W0.heap.size ≤ y1.heap.size := Nat.le_trans hb.size hu1.size
 have HB := Upd.low (HB.trans (hb.mono HB.size)) (by omega) (Nat.le_refl _) hu1
 have B101 : Blk y1 (b1) [.bool m1, .slice t1' j1 i1] 75 := hc1
 clear hb hu1 hc1 hB1
 go_upto_region 2 with (fail)
 refine cG ?_
 refine every_last 17 rfl rfl (by kernel_rfl) (by kernel_rfl) ?_
 simp only [List.take_succ_cons, List.take_zero]
 refine dB [(fun v _ => v = .pointer (some ⟨w.heap.size, 1, none⟩)), (fun v _ => v = .int .i64 b), (fun v w' => Big w' v (b)), (fun v _ => v = .pointer (some ⟨w.heap.size + 1 + 1, 2, none⟩)), (fun v _ => v = .agg #[.bool n2, .slice s2 k2 c2]), (fun v w' => Big w' v ((b) * (t.2))), (fun v _ => v = .pointer (some ⟨w.heap.size + 1, 1, none⟩)), (fun v _ => v = .int .i64 d), (fun v _ => v = .pointer (some ⟨w.heap.size, 1, none⟩)), (fun v _ => v = .int .i64 b), (fun v _ => v = .int .i64 (d - b)), (fun v w' => Big w' v (d - b)), (fun v _ => v = .pointer (some ⟨w.heap.size + 1 + 1, 0, none⟩)), (fun v _ => v = .agg #[.bool n1, .slice s1 k1 c1]), (fun v w' => Big w' v ((d - b) * (t.1))), (fun v w' => Big w' v (((b) * (t.2)) + ((d - b) * (t.1)))), (fun v w' => ∃ q, v = .pointer (some ⟨q, 0, none⟩) ∧ y1.heap.size ≤ q ∧ Blk w' q [.bool false, .slice none 0 0] 75)] ⟨sE, sE, (fun v w w' h hr => h.call hr), sE, sE, (fun v w w' h hr => h.call hr), sE, sE, sE, sE, sE, (fun v w w' h hr => h.call hr), sE, sE, (fun v w w' h hr => h.call hr), (fun v w w' h hr => h.call hr), (fun v w w' ⟨q, e, h0, h⟩ hr => ⟨q, e, h0, h.call hr⟩), trivial⟩ ⟨?st0, ?st1, ?st2, ?st3, ?st4, ?st5, ?st6, ?st7, ?st8, ?st9, ?st10, ?st11, ?st12, ?st13, ?st14, ?st15, ?st16, trivial⟩ ?_
 case st0 => (intro fa wz hp; have e3 := hp.o 3 (.pointer (some ⟨w.heap.size, 0, none⟩)); exact dX rfl)
 case st1 => (intro fa wz hp; have e25 := hp.q 0 25; have q0 := B0.d hp 1; exact dX rfl)
 case st2 => (intro fa wz hp; have e26 := hp.q 1 26; have hb := hp.base; exact dC2 (by go_simp) (of_any _ wz (by omega) (by omega)))
 case st3 => (intro fa wz hp; have e5 := hp.o 5 (.pointer (some ⟨w.heap.size + 1 + 1, 0, none⟩)); exact dX rfl)
 case st4 => (intro fa wz hp; have e28 := hp.q 3 28; have q0 := B2.d hp 2; have q1 := B2.d hp 3; exact dX rfl)
 case st5 => (intro fa wz hp; obtain ⟨v27, e27, hv27⟩ := hp.p 2 27; have e29 := hp.q 4 29; have hb := hp.base; exact dC2 (by go_simp) (mul_any _ _ _ _ wz hv27 (h2.call hb) (Sm.lim (k := 63) (Sm.int (by omega) (by omega)) (by decide)) (Sm.lim (k := 92) (st.2) (by decide))))
 case st6 => (intro fa wz hp; have e4 := hp.o 4 (.pointer (some ⟨w.heap.size + 1, 0, none⟩)); exact dX rfl)
 case st7 => (intro fa wz hp; have e31 := hp.q 6 31; have q0 := B1.d hp 1; exact dX rfl)
 case st8 => (intro fa wz hp; have e3 := hp.o 3 (.pointer (some ⟨w.heap.size, 0, none⟩)); exact dX rfl)
 case st9 => (intro fa wz hp; have e33 := hp.q 8 33; have q0 := B0.d hp 1; exact dX rfl)
 case st10 => (intro fa wz hp; have e32 := hp.q 7 32; have e34 := hp.q 9 34; have nn := tw2; exact dX rfl)
 case st11 => (intro fa wz hp; have e35 := hp.q 10 35; have hb := hp.base; exact dC2 (by go_simp) (of_any _ wz (by omega) (by omega)))
 case st12 => (intro fa wz hp; have e5 := hp.o 5 (.pointer (some ⟨w.heap.size + 1 + 1, 0, none⟩)); exact dX rfl)
 case st13 => (intro fa wz hp; have e37 := hp.q 12 37; have q0 := B2.d hp 0; have q1 := B2.d hp 1; exact dX rfl)
 case st14 => (intro fa wz hp; obtain ⟨v36, e36, hv36⟩ := hp.p 11 36; have e38 := hp.q 13 38; have hb := hp.base; exact dC2 (by go_simp) (mul_any _ _ _ _ wz hv36 (h1.call hb) (Sm.lim (k := 63) (Sm.int (by omega) (by omega)) (by decide)) (Sm.lim (k := 92) (st.1) (by decide))))
 case st15 => (intro fa wz hp; obtain ⟨v30, e30, hv30⟩ := hp.p 5 30; obtain ⟨v39, e39, hv39⟩ := hp.p 14 39; have hb := hp.base; exact dC2 (by go_simp) (add_any _ _ _ _ wz hv30 hv39 (Sm.lim (k := 155) (Sm.mul (Sm.int (by omega) (by omega)) (st.2)) (by decide)) (Sm.lim (k := 155) (Sm.mul (Sm.int (by omega) (by omega)) (st.1)) (by decide))))
 case st16 => (intro fa wz hp; have hb := hp.base; refine .inl ⟨by rfl, ?_⟩; exact dagUpon_new (w' := wz.alloc (.cells #[.bool false, .slice none 0 0] 75)) (u := .pointer (some ⟨wz.heap.size, 0, none⟩)) (by go_simp) ((Below.refl _ wz).alloc (Nat.le_refl _) _) ⟨_, rfl, hb.size, Blk.new _ _ _⟩)
 intro g w2 hb hg
 simp only [putAll, td]
 have hx2 := hg 15 _ _ rfl rfl
 replace hx2 := show (fun v w' => Big w' v (((b) * (t.2)) + ((d - b) * (t.1)))) (g 15) w2 from hx2
 obtain ⟨m2, t2', j2, i2, hf2⟩ := hx2.form
 rw [hf2] at hx2 ⊢
 clear hf2
 obtain ⟨b2, hq2, hle2, hB2⟩ := hg 16 _ _ rfl rfl
 rw [show g 16 = _ from hq2]
 clear hq2
 have hlt2_b1 : b1 < b2 := lL B101.lt hle2
 clear hg
 refine lastQ_store (b := b2) (off := 0) (u := .agg #[.bool m2, .slice t2' j2 i2]) (by rfl) (by rfl) (by rfl) (by rfl) hB2 (by rw [size_bigS]; rfl) (by simp [Value.cells, Value.oneCell']) (by simp [Value.cells]) ?_
 intro y2 hu2 hc2
 have B0 := (B0.below hb B0.lt).upd hu2 (by have := B0.lt; omega)
 have B1 := (B1.below hb B1.lt).upd hu2 (by have := B1.lt; omega)
 have B2 := (B2.below hb B2.lt).upd hu2 (by have := B2.lt; omega)
 have B3 := (B3.below hb B3.lt).upd hu2 (by have := B3.lt; omega)
 have B101 := (B101.below hb B101.lt).upd hu2 (by have := B101.lt; omega)
 have h1 := Big.upd (h1.call hb) hB2 hu2
 have h2 := Big.upd (h2.call hb) hB2 hu2
 have hx1 := Big.upd (hx1.call hb) hB2 hu2
 have hx2 := Big.upd hx2 hB2 hu2
 have hz2 : y1.heap.size ≤ y2.heap.size := Nat.le_trans hb.size hu2.size
 have HB := Upd.low (HB.trans (hb.mono HB.size)) (by omega) (Nat.le_refl _) hu2
 have B102 : Blk y2 (b2) [.bool m2, .slice t2' j2 i2] 75 := hc2
 clear hb hu2 hc2 hB2
 go_upto_region 3 with (fail)
 refine cP ?_
 refine every_last 5 rfl rfl (by kernel_rfl) (by kernel_rfl) ?_
 simp only [List.take_succ_cons, List.take_zero]
 refine dB [(fun v _ => v = .agg #[.bool m1, .slice t1' j1 i1]), (fun v _ => v = .agg #[.bool m2, .slice t2' j2 i2]), (fun v _ => v = .pointer (some ⟨w.heap.size + 1 + 1, 2, none⟩)), (fun v _ => v = .agg #[.bool n2, .slice s2 k2 c2]), (fun v _ => v = .agg #[.bool m1, .slice t1' j1 i1, .bool m2, .slice t2' j2 i2, .bool n2, .slice s2 k2 c2])] ⟨sE, sE, sE, sE, sE, trivial⟩ ⟨?st0, ?st1, ?st2, ?st3, ?st4, trivial⟩ ?_
 case st0 => (intro fa wz hp; have e7 := hp.o 7 (.pointer (some ⟨b1, 0, none⟩)); have q0 := B101.d hp 0; have q1 := B101.d hp 1; exact dX rfl)
 case st1 => (intro fa wz hp; have e8 := hp.o 8 (.pointer (some ⟨b2, 0, none⟩)); have q0 := B102.d hp 0; have q1 := B102.d hp 1; exact dX rfl)
 case st2 => (intro fa wz hp; have e5 := hp.o 5 (.pointer (some ⟨w.heap.size + 1 + 1, 0, none⟩)); exact dX rfl)
 case st3 => (intro fa wz hp; have e43 := hp.q 2 43; have q0 := B2.d hp 2; have q1 := B2.d hp 3; exact dX rfl)
 case st4 => (intro fa wz hp; have e41 := hp.q 0 41; have e42 := hp.q 1 42; have e44 := hp.q 3 44; exact dX rfl)
 intro g w3 hb hg
 simp only [putAll, td]
 have hx3 := hg 4 _ _ rfl rfl
 rw [show g 4 = .agg #[.bool m1, .slice t1' j1 i1, .bool m2, .slice t2' j2 i2, .bool n2, .slice s2 k2 c2] from hx3]
 clear hx3
 clear hg
 refine lastQ_store (b := w.heap.size + 1 + 1 + 1) (off := 0) (u := .agg #[.bool m1, .slice t1' j1 i1, .bool m2, .slice t2' j2 i2, .bool n2, .slice s2 k2 c2]) (by rfl) (by rfl) (by rfl) (by rfl) (B3.below hb B3.lt) (by rw [size_spotS]; rfl) (by simp [Value.cells, Value.oneCell']) (by simp [Value.cells]) ?_
 intro y3 hu3 hc3
 have B0 := (B0.below hb B0.lt).upd hu3 (by have := B0.lt; omega)
 have B1 := (B1.below hb B1.lt).upd hu3 (by have := B1.lt; omega)
 have B2 := (B2.below hb B2.lt).upd hu3 (by have := B2.lt; omega)
 have B101 := (B101.below hb B101.lt).upd hu3 (by have := B101.lt; omega)
 have B102 := (B102.below hb B102.lt).upd hu3 (by have := B102.lt; omega)
 have h1 := Big.upd (h1.call hb) (B3.below hb B3.lt) hu3
 have h2 := Big.upd (h2.call hb) (B3.below hb B3.lt) hu3
 have hx1 := Big.upd (hx1.call hb) (B3.below hb B3.lt) hu3
 have hx2 := Big.upd (hx2.call hb) (B3.below hb B3.lt) hu3
 have hz3 : y2.heap.size ≤ y3.heap.size := Nat.le_trans hb.size hu3.size
 have HB := Upd.low (HB.trans (hb.mono HB.size)) (by omega) (Nat.le_refl _) hu3
 have B3 : Blk y3 (w.heap.size + 1 + 1 + 1) [.bool m1, .slice t1' j1 i1, .bool m2, .slice t2' j2 i2, .bool n2, .slice s2 k2 c2] 118 := hc3
 clear hb hu3 hc3
 go_wp2_with fail
 refine bodyPost_ret (res_c Tryz.results54 rfl (row_load B3 Tryz.underlying118 rfl size_spotS)) rfl ⟨_, rfl, ⟨_, _, _, rfl, hx1, hx2, h2⟩, HB⟩
set_option maxHeartbeats 4000000 in
theorem middle_any (t u : Fr) (vt vu : Value) (w : World) (ht : RatV w vt t) (hu : RatV w vu u) (st : SmF 44 t) (su : SmF 44 u) :
  Calls Tryz.prog 55 #[vt, vu] w fun e w' => ∃ v, e = .returned v ∧ RatV w' v (midD t u) ∧ Below w.heap.size w w' := by
 obtain ⟨n1, s1, k1, c1, n2, s2, k2, c2, rfl, h1, h2⟩ := ht.form
 obtain ⟨n3, s3, k3, c3, n4, s4, k4, c4, rfl, h3, h4⟩ := hu.form
 clear ht hu
 obtain ⟨W0, hW0⟩ : ∃ W0, [.cells #[.bool n1, .slice s1 k1 c1, .bool n2, .slice s2 k2 c2] 77, .cells #[.bool n3, .slice s3 k3 c3, .bool n4, .slice s4 k4 c4] 77, .cells #[.bool false, .slice none 0 0, .bool false, .slice none 0 0] 77].foldl World.alloc w = W0 := ⟨_, rfl⟩
 have B0 : Blk W0 (w.heap.size) [.bool n1, .slice s1 k1 c1, .bool n2, .slice s2 k2 c2] 77 := Blk.allocs _ hW0 0 rfl
 have B1 : Blk W0 (w.heap.size + 1) [.bool n3, .slice s3 k3 c3, .bool n4, .slice s4 k4 c4] 77 := Blk.allocs _ hW0 1 rfl
 have B2 : Blk W0 (w.heap.size + 1 + 1) [.bool false, .slice none 0 0, .bool false, .slice none 0 0] 77 := Blk.allocs _ hW0 2 rfl
 have HB := aB hW0
 have hsz : w.heap.size + 3 ≤ W0.heap.size := aZ hW0
 simp only [List.foldl_cons, List.foldl_nil] at hW0
 have h1 := h1.call HB
 have h2 := h2.call HB
 have h3 := h3.call HB
 have h4 := h4.call HB
 go_enter Tryz.func55, Tryz.ntmps55
 go_upto_region 1 with (fail)
 clear hW0
 refine cG ?_
 refine every_last 12 rfl rfl (by kernel_rfl) (by kernel_rfl) ?_
 simp only [List.take_succ_cons, List.take_zero]
 refine dB [(fun v _ => v = .pointer (some ⟨w.heap.size, 0, none⟩)), (fun v _ => v = .agg #[.bool n1, .slice s1 k1 c1]), (fun v _ => v = .pointer (some ⟨w.heap.size + 1, 2, none⟩)), (fun v _ => v = .agg #[.bool n4, .slice s4 k4 c4]), (fun v w' => Big w' v ((t.1) * (u.2))), (fun v _ => v = .pointer (some ⟨w.heap.size + 1, 0, none⟩)), (fun v _ => v = .agg #[.bool n3, .slice s3 k3 c3]), (fun v _ => v = .pointer (some ⟨w.heap.size, 2, none⟩)), (fun v _ => v = .agg #[.bool n2, .slice s2 k2 c2]), (fun v w' => Big w' v ((u.1) * (t.2))), (fun v w' => Big w' v (((t.1) * (u.2)) + ((u.1) * (t.2)))), (fun v w' => ∃ q, v = .pointer (some ⟨q, 0, none⟩) ∧ W0.heap.size ≤ q ∧ Blk w' q [.bool false, .slice none 0 0] 75)] ⟨sE, sE, sE, sE, (fun v w w' h hr => h.call hr), sE, sE, sE, sE, (fun v w w' h hr => h.call hr), (fun v w w' h hr => h.call hr), (fun v w w' ⟨q, e, h0, h⟩ hr => ⟨q, e, h0, h.call hr⟩), trivial⟩ ⟨?st0, ?st1, ?st2, ?st3, ?st4, ?st5, ?st6, ?st7, ?st8, ?st9, ?st10, ?st11, trivial⟩ ?_
 case st0 => (intro fa wz hp; have e2 := hp.o 2 (.pointer (some ⟨w.heap.size, 0, none⟩)); exact dX rfl)
 case st1 => (intro fa wz hp; have e7 := hp.q 0 7; have q0 := B0.d hp 0; have q1 := B0.d hp 1; exact dX rfl)
 case st2 => (intro fa wz hp; have e3 := hp.o 3 (.pointer (some ⟨w.heap.size + 1, 0, none⟩)); exact dX rfl)
 case st3 => (intro fa wz hp; have e9 := hp.q 2 9; have q0 := B1.d hp 2; have q1 := B1.d hp 3; exact dX rfl)
 case st4 => (intro fa wz hp; have e8 := hp.q 1 8; have e10 := hp.q 3 10; have hb := hp.base; exact dC2 (by go_simp) (mul_any _ _ _ _ wz (h1.call hb) (h4.call hb) (Sm.lim (k := 44) (st.1) (by decide)) (Sm.lim (k := 44) (su.2) (by decide))))
 case st5 => (intro fa wz hp; have e3 := hp.o 3 (.pointer (some ⟨w.heap.size + 1, 0, none⟩)); exact dX rfl)
 case st6 => (intro fa wz hp; have e12 := hp.q 5 12; have q0 := B1.d hp 0; have q1 := B1.d hp 1; exact dX rfl)
 case st7 => (intro fa wz hp; have e2 := hp.o 2 (.pointer (some ⟨w.heap.size, 0, none⟩)); exact dX rfl)
 case st8 => (intro fa wz hp; have e14 := hp.q 7 14; have q0 := B0.d hp 2; have q1 := B0.d hp 3; exact dX rfl)
 case st9 => (intro fa wz hp; have e13 := hp.q 6 13; have e15 := hp.q 8 15; have hb := hp.base; exact dC2 (by go_simp) (mul_any _ _ _ _ wz (h3.call hb) (h2.call hb) (Sm.lim (k := 44) (su.1) (by decide)) (Sm.lim (k := 44) (st.2) (by decide))))
 case st10 => (intro fa wz hp; obtain ⟨v11, e11, hv11⟩ := hp.p 4 11; obtain ⟨v16, e16, hv16⟩ := hp.p 9 16; have hb := hp.base; exact dC2 (by go_simp) (add_any _ _ _ _ wz hv11 hv16 (Sm.lim (k := 88) (Sm.mul (st.1) (su.2)) (by decide)) (Sm.lim (k := 88) (Sm.mul (su.1) (st.2)) (by decide))))
 case st11 => (intro fa wz hp; have hb := hp.base; refine .inl ⟨by rfl, ?_⟩; exact dagUpon_new (w' := wz.alloc (.cells #[.bool false, .slice none 0 0] 75)) (u := .pointer (some ⟨wz.heap.size, 0, none⟩)) (by go_simp) ((Below.refl _ wz).alloc (Nat.le_refl _) _) ⟨_, rfl, hb.size, Blk.new _ _ _⟩)
 intro g w1 hb hg
 simp only [putAll, td]
 have hx1 := hg 10 _ _ rfl rfl
 replace hx1 := show (fun v w' => Big w' v (((t.1) * (u.2)) + ((u.1) * (t.2)))) (g 10) w1 from hx1
 obtain ⟨m1, t1', j1, i1, hf1⟩ := hx1.form
 rw [hf1] at hx1 ⊢
 clear hf1
 obtain ⟨b1, hq1, hle1, hB1⟩ := hg 11 _ _ rfl rfl
 rw [show g 11 = _ from hq1]
 clear hq1
 clear hg
 refine lastQ_store (b := b1) (off := 0) (u := .agg #[.bool m1, .slice t1' j1 i1]) (by rfl) (by rfl) (by rfl) (by rfl) hB1 (by rw [size_bigS]; rfl) (by simp [Value.cells, Value.oneCell']) (by simp [Value.cells]) ?_
 intro y1 hu1 hc1
 have B0 := (B0.below hb B0.lt).upd hu1 (by have := B0.lt; omega)
 have B1 := (B1.below hb B1.lt).upd hu1 (by have := B1.lt; omega)
 have B2 := (B2.below hb B2.lt).upd hu1 (by have := B2.lt; omega)
 have h1 := Big.upd (h1.call hb) hB1 hu1
 have h2 := Big.upd (h2.call hb) hB1 hu1
 have h3 := Big.upd (h3.call hb) hB1 hu1
 have h4 := Big.upd (h4.call hb) hB1 hu1
 have hx1 := Big.upd hx1 hB1 hu1
 have hz1 : W0.heap.size ≤ y1.heap.size := Nat.le_trans hb.size hu1.size
 have HB := Upd.low (HB.trans (hb.mono HB.size)) (by omega) (Nat.le_refl _) hu1
 have B101 : Blk y1 (b1) [.bool m1, .slice t1' j1 i1] 75 := hc1
 clear hb hu1 hc1 hB1
 go_upto_region 2 with (fail)
 refine cP ?_
 refine every_last 6 rfl rfl (by kernel_rfl) (by kernel_rfl) ?_
 simp only [List.take_succ_cons, List.take_zero]
 refine dB [(fun v _ => v = .pointer (some ⟨w.heap.size, 2, none⟩)), (fun v _ => v = .agg #[.bool n2, .slice s2 k2 c2]), (fun v _ => v = .pointer (some ⟨w.heap.size + 1, 2, none⟩)), (fun v _ => v = .agg #[.bool n4, .slice s4 k4 c4]), (fun v w' => Big w' v ((t.2) * (u.2))), (fun v w' => ∃ q, v = .pointer (some ⟨q, 0, none⟩) ∧ y1.heap.size ≤ q ∧ Blk w' q [.bool false, .slice none 0 0] 75)] ⟨sE, sE, sE, sE, (fun v w w' h hr => h.call hr), (fun v w w' ⟨q, e, h0, h⟩ hr => ⟨q, e, h0, h.call hr⟩), trivial⟩ ⟨?st0, ?st1, ?st2, ?st3, ?st4, ?st5, trivial⟩ ?_
 case st0 => (intro fa wz hp; have e2 := hp.o 2 (.pointer (some ⟨w.heap.size, 0, none⟩)); exact dX rfl)
 case st1 => (intro fa wz hp; have e18 := hp.q 0 18; have q0 := B0.d hp 2; have q1 := B0.d hp 3; exact dX rfl)
 case st2 => (intro fa wz hp; have e3 := hp.o 3 (.pointer (some ⟨w.heap.size + 1, 0, none⟩)); exact dX rfl)
 case st3 => (intro fa wz hp; have e20 := hp.q 2 20; have q0 := B1.d hp 2; have q1 := B1.d hp 3; exact dX rfl)
 case st4 => (intro fa wz hp; have e19 := hp.q 1 19; have e21 := hp.q 3 21; have hb := hp.base; exact dC2 (by go_simp) (mul_any _ _ _ _ wz (h2.call hb) (h4.call hb) (Sm.lim (k := 44) (st.2) (by decide)) (Sm.lim (k := 44) (su.2) (by decide))))
 case st5 => (intro fa wz hp; have hb := hp.base; refine .inl ⟨by rfl, ?_⟩; exact dagUpon_new (w' := wz.alloc (.cells #[.bool false, .slice none 0 0] 75)) (u := .pointer (some ⟨wz.heap.size, 0, none⟩)) (by go_simp) ((Below.refl _ wz).alloc (Nat.le_refl _) _) ⟨_, rfl, hb.size, Blk.new _ _ _⟩)
 intro g w2 hb hg
 simp only [putAll, td]
 have hx2 := hg 4 _ _ rfl rfl
 replace hx2 := show (fun v w' => Big w' v ((t.2) * (u.2))) (g 4) w2 from hx2
 obtain ⟨m2, t2', j2, i2, hf2⟩ := hx2.form
 rw [hf2] at hx2 ⊢
 clear hf2
 obtain ⟨b2, hq2, hle2, hB2⟩ := hg 5 _ _ rfl rfl
 rw [show g 5 = _ from hq2]
 clear hq2
 have hlt2_b1 : b1 < b2 := lL B101.lt hle2
 clear hg
 refine lastQ_store (b := b2) (off := 0) (u := .agg #[.bool m2, .slice t2' j2 i2]) (by rfl) (by rfl) (by rfl) (by rfl) hB2 (by rw [size_bigS]; rfl) (by simp [Value.cells, Value.oneCell']) (by simp [Value.cells]) ?_
 intro y2 hu2 hc2
 have B0 := (B0.below hb B0.lt).upd hu2 (by have := B0.lt; omega)
 have B1 := (B1.below hb B1.lt).upd hu2 (by have := B1.lt; omega)
 have B2 := (B2.below hb B2.lt).upd hu2 (by have := B2.lt; omega)
 have B101 := (B101.below hb B101.lt).upd hu2 (by have := B101.lt; omega)
 have h1 := Big.upd (h1.call hb) hB2 hu2
 have h2 := Big.upd (h2.call hb) hB2 hu2
 have h3 := Big.upd (h3.call hb) hB2 hu2
 have h4 := Big.upd (h4.call hb) hB2 hu2
 have hx1 := Big.upd (hx1.call hb) hB2 hu2
 have hx2 := Big.upd hx2 hB2 hu2
 have hz2 : y1.heap.size ≤ y2.heap.size := Nat.le_trans hb.size hu2.size
 have HB := Upd.low (HB.trans (hb.mono HB.size)) (by omega) (Nat.le_refl _) hu2
 have B102 : Blk y2 (b2) [.bool m2, .slice t2' j2 i2] 75 := hc2
 clear hb hu2 hc2 hB2
 go_upto_region 3 with (fail)
 refine cG ?_
 refine every_last 5 rfl rfl (by kernel_rfl) (by kernel_rfl) ?_
 simp only [List.take_succ_cons, List.take_zero]
 refine dB [(fun v _ => v = .agg #[.bool m1, .slice t1' j1 i1]), (fun v _ => v = .agg #[.bool m2, .slice t2' j2 i2]), (fun v _ => v = .agg #[.bool m2, .slice t2' j2 i2]), (fun v w' => Big w' v (((t.2) * (u.2)) + ((t.2) * (u.2)))), (fun v w' => RatV w' v (((t.1) * (u.2)) + ((u.1) * (t.2)), ((t.2) * (u.2)) + ((t.2) * (u.2))))] ⟨sE, sE, sE, (fun v w w' h hr => h.call hr), (fun v w w' h hr => h.call hr), trivial⟩ ⟨?st0, ?st1, ?st2, ?st3, ?st4, trivial⟩ ?_
 case st0 => (intro fa wz hp; have e5 := hp.o 5 (.pointer (some ⟨b1, 0, none⟩)); have q0 := B101.d hp 0; have q1 := B101.d hp 1; exact dX rfl)
 case st1 => (intro fa wz hp; have e6 := hp.o 6 (.pointer (some ⟨b2, 0, none⟩)); have q0 := B102.d hp 0; have q1 := B102.d hp 1; exact dX rfl)
 case st2 => (intro fa wz hp; have e6 := hp.o 6 (.pointer (some ⟨b2, 0, none⟩)); have q0 := B102.d hp 0; have q1 := B102.d hp 1; exact dX rfl)
 case st3 => (intro fa wz hp; have e24 := hp.q 1 24; have e25 := hp.q 2 25; have hb := hp.base; exact dC2 (by go_simp) (add_any _ _ _ _ wz (hx2.call hb) (hx2.call hb) (Sm.lim (k := 88) (Sm.mul (st.2) (su.2)) (by decide)) (Sm.lim (k := 88) (Sm.mul (st.2) (su.2)) (by decide))))
 case st4 => (intro fa wz hp; have e23 := hp.q 0 23; obtain ⟨v26, e26, hv26⟩ := hp.p 3 26; have hb := hp.base; obtain ⟨m1, t1', j1, i1, z1⟩ := hv26.form; rw [z1] at e26 hv26; exact dW (by go_simp) ⟨_, _, rfl, (hx1.call hb), hv26⟩)
 intro g w3 hb hg
 simp only [putAll, td]
 have hx3 := hg 4 _ _ rfl rfl
 replace hx3 := show (fun v w' => RatV w' v (((t.1) * (u.2)) + ((u.1) * (t.2)), ((t.2) * (u.2)) + ((t.2) * (u.2)))) (g 4) w3 from hx3
 obtain ⟨m3a, t3a', j3a, i3a, m3b, t3b', j3b, i3b, hf3, hx3a, hx3b⟩ := hx3.form
 rw [hf3]
 clear hf3 hx3
 clear hg
 refine lastQ_store (b := w.heap.size + 1 + 1) (off := 0) (u := .agg #[.bool m3a, .slice t3a' j3a i3a, .bool m3b, .slice t3b' j3b i3b]) (by rfl) (by rfl) (by rfl) (by rfl) (B2.below hb B2.lt) (by rw [size_ratS]; rfl) (by simp [Value.cells, Value.oneCell']) (by simp [Value.cells]) ?_
 intro y3 hu3 hc3
 have B0 := (B0.below hb B0.lt).upd hu3 (by have := B0.lt; omega)
 have B1 := (B1.below hb B1.lt).upd hu3 (by have := B1.lt; omega)
 have B101 := (B101.below hb B101.lt).upd hu3 (by have := B101.lt; omega)
 have B102 := (B102.below hb B102.lt).upd hu3 (by have := B102.lt; omega)
 have h1 := Big.upd (h1.call hb) (B2.below hb B2.lt) hu3
 have h2 := Big.upd (h2.call hb) (B2.below hb B2.lt) hu3
 have h3 := Big.upd (h3.call hb) (B2.below hb B2.lt) hu3
 have h4 := Big.upd (h4.call hb) (B2.below hb B2.lt) hu3
 have hx1 := Big.upd (hx1.call hb) (B2.below hb B2.lt) hu3
 have hx2 := Big.upd (hx2.call hb) (B2.below hb B2.lt) hu3
 have hx3a := Big.upd hx3a (B2.below hb B2.lt) hu3
 have hx3b := Big.upd hx3b (B2.below hb B2.lt) hu3
 have hz3 : y2.heap.size ≤ y3.heap.size := Nat.le_trans hb.size hu3.size
 have HB := Upd.low (HB.trans (hb.mono HB.size)) (by omega) (Nat.le_refl _) hu3
 have B2 : Blk y3 (w.heap.size + 1 + 1) [.bool m3a, .slice t3a' j3a i3a, .bool m3b, .slice t3b' j3b i3b] 77 := hc3
 clear hb hu3 hc3
 go_wp2_with fail
 have e : Big y3 (.agg #[.bool m3b, .slice t3b' j3b i3b]) (midD t u).2 := by
  have e : (midD t u).2 = t.2 * u.2 + t.2 * u.2 := by unfold midD; simp only; omega
  rw [e]; exact hx3b
 refine bodyPost_ret (res_c Tryz.results55 rfl (row_load B2 Tryz.underlying77 rfl size_ratS)) rfl ⟨_, rfl, RatV.mk hx3a e, HB⟩
set_option maxHeartbeats 4000000 in
theorem in_any (X Y Z x y size : Int) (vp : Value) (w : World) (hp : SpotV w vp X Y Z) (sX : Sm 200 X) (sY : Sm 200 Y) (sZ : Sm 120 Z) (x1 : x.natAbs ≤ 2199023255552) (y1 : y.natAbs ≤ 2199023255552) (z1 : 0 ≤ size) (z2 : size ≤ 1048576) :
  Calls Tryz.prog 53 #[vp, .agg #[.int .i64 x, .int .i64 y], .int .i64 size] w fun e w' => e = .returned (.bool (insideD X Z x size && insideD Y Z y size)) ∧ Below w.heap.size w w' := by
 obtain ⟨n1, s1, k1, c1, n2, s2, k2, c2, n3, s3, k3, c3, rfl, h1, h2, h3⟩ := hp.form
 clear hp
 obtain ⟨B2, HB2⟩ : ∃ bq : Bool, Hid (insideD Y Z y size = bq) := ⟨_, hH rfl⟩
 cases hA : insideD X Z x size with
 | true =>
  have HR : Hid ((true && insideD Y Z y size) = B2) := hH (by rw [← HB2.out]; rfl)
  obtain ⟨W0, hW0⟩ : ∃ W0, [.cells #[.bool n1, .slice s1 k1 c1, .bool n2, .slice s2 k2 c2, .bool n3, .slice s3 k3 c3] 118, .cells #[.int .i64 x, .int .i64 y] 37].foldl World.alloc w = W0 := ⟨_, rfl⟩
  have B0 : Blk W0 (w.heap.size) [.bool n1, .slice s1 k1 c1, .bool n2, .slice s2 k2 c2, .bool n3, .slice s3 k3 c3] 118 := Blk.allocs _ hW0 0 rfl
  have B1 : Blk W0 (w.heap.size + 1) [.int .i64 x, .int .i64 y] 37 := Blk.allocs _ hW0 1 rfl
  have HB := aB hW0
  have hsz : w.heap.size + 2 ≤ W0.heap.size := aZ hW0
  simp only [List.foldl_cons, List.foldl_nil] at hW0
  have h1 := h1.call HB
  have h2 := h2.call HB
  have h3 := h3.call HB
  go_enter Tryz.func53, Tryz.ntmps53
  go_upto_region 1 with (fail)
  clear hW0
  refine cP ?_
  refine dB [(fun v _ => v = .pointer (some ⟨w.heap.size, 0, none⟩)), (fun v _ => v = .agg #[.bool n1, .slice s1 k1 c1]), (fun v _ => v = .pointer (some ⟨w.heap.size, 4, none⟩)), (fun v _ => v = .agg #[.bool n3, .slice s3 k3 c3]), (fun v _ => v = .pointer (some ⟨w.heap.size + 1, 0, none⟩)), (fun v _ => v = .int .i64 x), (fun v _ => v = .int .i64 size), (fun v _ => v = .bool true), (fun v _ => v = .bool true), (fun v _ => v = .pointer (some ⟨w.heap.size, 2, none⟩)), (fun v _ => v = .agg #[.bool n2, .slice s2 k2 c2]), (fun v _ => v = .pointer (some ⟨w.heap.size, 4, none⟩)), (fun v _ => v = .agg #[.bool n3, .slice s3 k3 c3]), (fun v _ => v = .pointer (some ⟨w.heap.size + 1, 1, none⟩)), (fun v _ => v = .int .i64 y), (fun v _ => v = .int .i64 size), (fun v _ => v = .bool B2), (fun v _ => v = .bool B2), (fun v _ => v = .bool B2)] ⟨sE, sE, sE, sE, sE, sE, sE, sE, sE, sE, sE, sE, sE, sE, sE, sE, sE, sE, sE, trivial⟩ ⟨?st0, ?st1, ?st2, ?st3, ?st4, ?st5, ?st6, ?st7, ?st8, ?st9, ?st10, ?st11, ?st12, ?st13, ?st14, ?st15, ?st16, ?st17, ?st18, trivial⟩ ?_
  case st0 => (intro fa wz hp; have e3 := hp.o 3 (.pointer (some ⟨w.heap.size, 0, none⟩)); exact dX rfl)
  case st1 => (intro fa wz hp; have e7 := hp.q 0 7; have q0 := B0.d hp 0; have q1 := B0.d hp 1; exact dX rfl)
  case st2 => (intro fa wz hp; have e3 := hp.o 3 (.pointer (some ⟨w.heap.size, 0, none⟩)); exact dX rfl)
  case st3 => (intro fa wz hp; have e9 := hp.q 2 9; have q0 := B0.d hp 4; have q1 := B0.d hp 5; exact dX rfl)
  case st4 => (intro fa wz hp; have e4 := hp.o 4 (.pointer (some ⟨w.heap.size + 1, 0, none⟩)); exact dX rfl)
  case st5 => (intro fa wz hp; have e11 := hp.q 4 11; have q0 := B1.d hp 0; exact dX rfl)
  case st6 => (intro fa wz hp; have e2 := hp.o 2 (.int .i64 size); exact dX rfl)
  case st7 => (intro fa wz hp; have e8 := hp.q 1 8; have e10 := hp.q 3 10; have e12 := hp.q 5 12; have e13 := hp.q 6 13; have hb := hp.base; exact dC1 (by go_simp) (inside_any X Z x size _ _ wz (h1.call hb) (h3.call hb) sX sZ (by omega) (by omega) z1 z2) rfl (fun _ => congrArg Value.bool hA))
  case st8 => (intro fa wz hp; have e14 := hp.q 7 14; exact dX rfl)
  case st9 => (intro fa wz hp; have e3 := hp.o 3 (.pointer (some ⟨w.heap.size, 0, none⟩)); exact dX rfl (wanted_of rfl rfl rfl (hp.q 8 15)))
  case st10 => (intro fa wz hp; have e16 := hp.q 9 16; have q0 := B0.d hp 2; have q1 := B0.d hp 3; exact dX rfl (wanted_of rfl rfl rfl (hp.q 8 15)))
  case st11 => (intro fa wz hp; have e3 := hp.o 3 (.pointer (some ⟨w.heap.size, 0, none⟩)); exact dX rfl (wanted_of rfl rfl rfl (hp.q 8 15)))
  case st12 => (intro fa wz hp; have e18 := hp.q 11 18; have q0 := B0.d hp 4; have q1 := B0.d hp 5; exact dX rfl (wanted_of rfl rfl rfl (hp.q 8 15)))
  case st13 => (intro fa wz hp; have e4 := hp.o 4 (.pointer (some ⟨w.heap.size + 1, 0, none⟩)); exact dX rfl (wanted_of rfl rfl rfl (hp.q 8 15)))
  case st14 => (intro fa wz hp; have e20 := hp.q 13 20; have q0 := B1.d hp 1; exact dX rfl (wanted_of rfl rfl rfl (hp.q 8 15)))
  case st15 => (intro fa wz hp; have e2 := hp.o 2 (.int .i64 size); exact dX rfl (wanted_of rfl rfl rfl (hp.q 8 15)))
  case st16 => (intro fa wz hp; have e17 := hp.q 10 17; have e19 := hp.q 12 19; have e21 := hp.q 14 21; have e22 := hp.q 15 22; have hb := hp.base; exact dC1 (by go_simp) (inside_any Y Z y size _ _ wz (h2.call hb) (h3.call hb) sY sZ (by omega) (by omega) z1 z2) (wanted_of rfl rfl rfl (hp.q 8 15)) (fun _ => congrArg Value.bool HB2.out))
  case st17 => (intro fa wz hp; have e15 := hp.q 8 15; have e23 := hp.q 16 23; exact dX rfl)
  case st18 => (intro fa wz hp; have e24 := hp.q 17 24; exact dX rfl)
  intro g w1 hb hg
  simp only [putAll, td]
  rw [show g 18 = .bool B2 from hg 18 _ _ rfl rfl]
  clear hg
  have B0 := B0.below hb B0.lt
  have B1 := B1.below hb B1.lt
  have h1 := h1.call hb
  have h2 := h2.call hb
  have h3 := h3.call hb
  have hz1 : W0.heap.size ≤ w1.heap.size := hb.size
  have HB := HB.trans (hb.mono HB.size)
  clear hb
  go_wp2_with fail
  go_ret
  exact ⟨by rw [HR.out]; rfl, HB⟩
 | false =>
  have HR : Hid ((false && insideD Y Z y size) = false) := hH rfl
  obtain ⟨W0, hW0⟩ : ∃ W0, [.cells #[.bool n1, .slice s1 k1 c1, .bool n2, .slice s2 k2 c2, .bool n3, .slice s3 k3 c3] 118, .cells #[.int .i64 x, .int .i64 y] 37].foldl World.alloc w = W0 := ⟨_, rfl⟩
  have B0 : Blk W0 (w.heap.size) [.bool n1, .slice s1 k1 c1, .bool n2, .slice s2 k2 c2, .bool n3, .slice s3 k3 c3] 118 := Blk.allocs _ hW0 0 rfl
  have B1 : Blk W0 (w.heap.size + 1) [.int .i64 x, .int .i64 y] 37 := Blk.allocs _ hW0 1 rfl
  have HB := aB hW0
  have hsz : w.heap.size + 2 ≤ W0.heap.size := aZ hW0
  simp only [List.foldl_cons, List.foldl_nil] at hW0
  have h1 := h1.call HB
  have h2 := h2.call HB
  have h3 := h3.call HB
  go_enter Tryz.func53, Tryz.ntmps53
  go_upto_region 1 with (fail)
  clear hW0
  refine cP ?_
  refine dB [(fun v _ => v = .pointer (some ⟨w.heap.size, 0, none⟩)), (fun v _ => v = .agg #[.bool n1, .slice s1 k1 c1]), (fun v _ => v = .pointer (some ⟨w.heap.size, 4, none⟩)), (fun v _ => v = .agg #[.bool n3, .slice s3 k3 c3]), (fun v _ => v = .pointer (some ⟨w.heap.size + 1, 0, none⟩)), (fun v _ => v = .int .i64 x), (fun v _ => v = .int .i64 size), (fun v _ => v = .bool false), (fun v _ => v = .bool false), (fun v _ => v = undef), (fun v _ => v = undef), (fun v _ => v = undef), (fun v _ => v = undef), (fun v _ => v = undef), (fun v _ => v = undef), (fun v _ => v = undef), (fun v _ => v = undef), (fun v _ => v = .bool false), (fun v _ => v = .bool false)] ⟨sE, sE, sE, sE, sE, sE, sE, sE, sE, sE, sE, sE, sE, sE, sE, sE, sE, sE, sE, trivial⟩ ⟨?st0, ?st1, ?st2, ?st3, ?st4, ?st5, ?st6, ?st7, ?st8, ?st9, ?st10, ?st11, ?st12, ?st13, ?st14, ?st15, ?st16, ?st17, ?st18, trivial⟩ ?_
  case st0 => (intro fa wz hp; have e3 := hp.o 3 (.pointer (some ⟨w.heap.size, 0, none⟩)); exact dX rfl)
  case st1 => (intro fa wz hp; have e7 := hp.q 0 7; have q0 := B0.d hp 0; have q1 := B0.d hp 1; exact dX rfl)
  case st2 => (intro fa wz hp; have e3 := hp.o 3 (.pointer (some ⟨w.heap.size, 0, none⟩)); exact dX rfl)
  case st3 => (intro fa wz hp; have e9 := hp.q 2 9; have q0 := B0.d hp 4; have q1 := B0.d hp 5; exact dX rfl)
  case st4 => (intro fa wz hp; have e4 := hp.o 4 (.pointer (some ⟨w.heap.size + 1, 0, none⟩)); exact dX rfl)
  case st5 => (intro fa wz hp; have e11 := hp.q 4 11; have q0 := B1.d hp 0; exact dX rfl)
  case st6 => (intro fa wz hp; have e2 := hp.o 2 (.int .i64 size); exact dX rfl)
  case st7 => (intro fa wz hp; have e8 := hp.q 1 8; have e10 := hp.q 3 10; have e12 := hp.q 5 12; have e13 := hp.q 6 13; have hb := hp.base; exact dC1 (by go_simp) (inside_any X Z x size _ _ wz (h1.call hb) (h3.call hb) sX sZ (by omega) (by omega) z1 z2) rfl (fun _ => congrArg Value.bool hA))
  case st8 => (intro fa wz hp; have e14 := hp.q 7 14; exact dX rfl)
  case st9 => (intro fa wz hp; exact dU rfl rfl rfl (hp.q 8 15))
  case st10 => (intro fa wz hp; exact dU rfl rfl rfl (hp.q 8 15))
  case st11 => (intro fa wz hp; exact dU rfl rfl rfl (hp.q 8 15))
  case st12 => (intro fa wz hp; exact dU rfl rfl rfl (hp.q 8 15))
  case st13 => (intro fa wz hp; exact dU rfl rfl rfl (hp.q 8 15))
  case st14 => (intro fa wz hp; exact dU rfl rfl rfl (hp.q 8 15))
  case st15 => (intro fa wz hp; exact dU rfl rfl rfl (hp.q 8 15))
  case st16 => (intro fa wz hp; exact dU rfl rfl rfl (hp.q 8 15))
  case st17 => (intro fa wz hp; have e15 := hp.q 8 15; have e23 := hp.q 16 23; exact dX rfl)
  case st18 => (intro fa wz hp; have e24 := hp.q 17 24; exact dX rfl)
  intro g w1 hb hg
  simp only [putAll, td]
  rw [show g 18 = .bool false from hg 18 _ _ rfl rfl]
  clear hg
  have B0 := B0.below hb B0.lt
  have B1 := B1.below hb B1.lt
  have h1 := h1.call hb
  have h2 := h2.call hb
  have h3 := h3.call hb
  have hz1 : W0.heap.size ≤ w1.heap.size := hb.size
  have HB := HB.trans (hb.mono HB.size)
  clear hb
  go_wp2_with fail
  go_ret
  exact ⟨by rw [HR.out]; rfl, HB⟩
end Go.Proofs.YthbplhglfjlngaaGreat
namespace Go.Rg
open Go Go.RowKit
section
variable {P : Program} {o : Oper} {a : Act} {w : World} {T E : TypeId}
theorem evt {t : Tmp} {v : Value} (h : a.tmps[t]?.getD undef = v) : a.eval (.tmp t) = v := by simpa [Act.eval] using h
theorem x_head {x hi : Operand} {ad : Option Addr} {n c m sz : Nat} {kh : IntKind} (ho : o.op = .slice T x none (some hi) none) (hx : a.eval x = .slice ad n c) (hhi : a.eval hi = .int kh (m : Int)) (hm : m ≤ c) (hu : P.underlying T = some (.slice E)) (hs : (P.info? E).map (·.size) = some sz) :
  (execOp a.eval o).run P w = .ok (.value (.slice (if c = 0 then ad else ad.map (·.add (0 * sz))) (m - 0) (c - 0))) w := by
 cases hq : P.info? E with
 | none => simp [hq] at hs
 | some ie =>
  simp [hq] at hs
  have hb2 : (0 : Int) ≤ (m : Int) ∧ (m : Int) ≤ (c : Int) := by omega
  unfold execOp
  simp only [ho, hx, hhi]
  have r2 := fun w => run_sliceBound (P := P) (w := w) kh (m : Int) c .sliceAcap hb2.1 (by omega)
  simp [Instr.sliceAt, Instr.slice, Instr.sliceBounds, run_underlying hu, sizeOf, typeInfo, hq, hs, hhi, r2]
theorem x_arr {x ix : Operand} {g n i sz : Nat} {k : IntKind} (ho : o.op = .indexAddr T x ix) (hx : a.eval x = .pointer (some ⟨g, 0, none⟩)) (hi : a.eval ix = .int k (i : Int)) (hlt : i < n) (hu : P.underlying T = some (.array n E)) (hs : (P.info? E).map (·.size) = some sz) :
  (execOp a.eval o).run P w = .ok (.value (.pointer (some ⟨g, i * sz, none⟩))) w := by
 cases hq : P.info? E with
 | none => simp [hq] at hs
 | some ie =>
  simp [hq] at hs
  have hb : (0 : Int) ≤ (i : Int) ∧ (i : Int) < (n : Int) := by omega
  unfold execOp
  simp only [ho, hx, hi]
  simp [Instr.indexAt, Instr.sureAddr, asIntOf, run_underlying hu, hb, sizeOf, typeInfo, hq, hs, addr_add, hlt]
section
variable {Q : Exit → Act → World → Prop} {l rest : List Oper}
theorem pl_mv {x : Operand} (v : Value) (hop : o.op = .move x ∨ o.op = .assign x) (hg : o.guard = none) (hv : a.eval x = v) (h : plW P l Q rest (a.put o.dst v) w) : plW P l Q (o :: rest) a w := by
 refine pl_op hg fun K hK => ?_
 unfold Oper.wp execOp
 rcases hop with e | e <;> (rw [e]; simp only [hv]; exact hK _ _ h)
theorem pM {x : Operand} (v : Value) (h : plW P l Q rest (a.put o.dst v) w) (hop : o.op = .move x ∨ o.op = .assign x := by first | exact .inl rfl | exact .inr rfl) (hg : o.guard = none := by rfl) (hv : a.eval x = v := by rfl) : plW P l Q (o :: rest) a w := pl_mv v hop hg hv h
end
end
theorem tw_at {α : Type} {p : α → Bool} : ∀ {l : List α} {k : Nat}, (∀ j x, j < k → l[j]? = some x → p x = true) → (∀ x, l[k]? = some x → p x = false) → k ≤ l.length → l.takeWhile p = l.take k ∧ l.dropWhile p = l.drop k
 | [], k, _, _, h3 => by simp
 | x :: l, 0, _, h2, _ => by
  have := h2 x rfl
  simp [this]
 | x :: l, k + 1, h1, h2, h3 => by
  have h0 := h1 0 x (by omega) rfl
  have ih := tw_at (l := l) (k := k) (fun j y hj hy => h1 (j + 1) y (by omega) hy) (fun y hy => h2 y hy) (by simpa using h3)
  simp [h0, ih.1, ih.2]
structure EsW {α : Type} (R : World → List Value → α → Prop) (w : World) (es : List (List Value)) (l : List α) : Prop where
 len : es.length = l.length
 at' : ∀ (i : Nat) (e : List Value) (x : α), es[i]? = some e → l[i]? = some x → R w e x
section
variable {α : Type} {R : World → List Value → α → Prop} {w : World} {es fs : List (List Value)} {l m : List α}
theorem EsW.nil : EsW R w [] ([] : List α) := ⟨rfl, fun i e x h => by simp at h⟩
theorem EsW.get (h : EsW R w es l) {i : Nat} {x : α} (hx : l[i]? = some x) : ∃ e, es[i]? = some e ∧ R w e x := by
 have hi := (List.getElem?_eq_some_iff.1 hx).1
 obtain ⟨e, he⟩ : ∃ e, es[i]? = some e := ⟨_, List.getElem?_eq_getElem (by rw [h.len]; exact hi)⟩
 exact ⟨e, he, h.at' i e x he hx⟩
theorem EsW.take (h : EsW R w es l) (k : Nat) : EsW R w (es.take k) (l.take k) :=
 ⟨by simp [h.len], fun i e x he hx => by
  rw [List.getElem?_take] at he hx
  split at he
  ·rw [if_pos (by assumption)] at hx; exact h.at' i e x he hx
  ·cases he⟩
theorem EsW.drop (h : EsW R w es l) (k : Nat) : EsW R w (es.drop k) (l.drop k) :=
 ⟨by simp [h.len], fun i e x he hx => by rw [List.getElem?_drop] at he hx; exact h.at' _ e x he hx⟩
theorem EsW.append (h : EsW R w es l) (k : EsW R w fs m) : EsW R w (es ++ fs) (l ++ m) :=
 ⟨by simp [h.len, k.len], fun i e x he hx => by
  by_cases hi : i < es.length
  ·rw [List.getElem?_append_left hi] at he
   rw [List.getElem?_append_left (by rw [← h.len]; exact hi)] at hx
   exact h.at' i e x he hx
  ·rw [List.getElem?_append_right (by omega)] at he
   rw [List.getElem?_append_right (by rw [← h.len]; omega), ← h.len] at hx
   exact k.at' _ e x he hx⟩
theorem EsW.one {e : List Value} {x : α} (h : R w e x) : EsW R w [e] [x] := ⟨rfl, fun i e' x' he hx => by
 cases i with
 | zero => simp at he hx; subst he hx; exact h
 | succ i => simp at he⟩
theorem EsW.mono {w' : World} (h : EsW R w es l) (hk : ∀ e x, R w e x → R w' e x) : EsW R w' es l := ⟨h.len, fun i e x he hx => hk e x (h.at' i e x he hx)⟩
theorem EsW.all (h : EsW R w es l) {p : List Value → Prop} (hp : ∀ e x, R w e x → p e) : ∀ e ∈ es, p e := fun e he => by
 obtain ⟨i, hi⟩ := List.getElem?_of_mem he
 have hl := (List.getElem?_eq_some_iff.1 hi).1
 obtain ⟨x, hx⟩ : ∃ x, l[i]? = some x := ⟨_, List.getElem?_eq_getElem (by rw [← h.len]; exact hl)⟩
 exact hp e x (h.at' i e x hi hx)
end
structure OwS (w : World) (base t sz : Nat) (v : Value) (es : List (List Value)) : Prop where
 own : w.ownsRow base t sz v es.length es.flatten
 each : ∀ e ∈ es, e.length = sz
theorem OwS.call {w w' : World} {base t sz : Nat} {v : Value} {es : List (List Value)} (h : OwS w base t sz v es) (hb : Below w.heap.size w w') : OwS w' base t sz v es := ⟨own_call h.own hb, h.each⟩
theorem OwS.slc {w : World} {base t sz : Nat} {v : Value} {es : List (List Value)} (h : OwS w base t sz v es) : SlC w v sz es := SlC.of_own h.own h.each
theorem OwS.keep {w w' : World} {base t sz : Nat} {v : Value} {es : List (List Value)} (h : OwS w base t sz v es) (hk : KeepT t w w') : OwS w' base t sz v es := by
 obtain ⟨⟨h1, h2⟩, h3⟩ := h
 refine ⟨⟨h1, ?_⟩, h3⟩
 rcases h2 with h2 | ⟨g, cap, cur, e, hb, hg, r⟩
 ·exact .inl h2
 ·exact .inr ⟨g, cap, cur, e, hb, hk g _ _ hg, r⟩
theorem OwS.none (w : World) (base t sz : Nat) : OwS w base t sz (.slice none 0 0) [] := ⟨⟨by simp, .inl ⟨rfl, rfl⟩⟩, fun e h => by cases h⟩
theorem one_flat {es : List (List Value)} (h : ∀ e ∈ es, ∀ u ∈ e, u.oneCell' = true) : ∀ u ∈ es.flatten, u.oneCell' = true := fun u hu => by
 obtain ⟨e, he, hu⟩ := List.mem_flatten.1 hu
 exact h e he u hu
section
variable {P : Program} {o : Oper} {a : Act} {Q : Exit → Act → World → Prop} {l rest : List Oper}
theorem pl_app (w0 w : World) (hB : Below w0.heap.size w0 w) (hg : o.guard = none) (s x : Operand) (t : TypeId) (hop : o.op = Op.call { callee := Callee.builtin Builtin.append, args := #[s, x], argTypes := #[t, t] })
  (e : TypeId) (z : Value) (size bytes : Nat) (h1 : P.underlying t = some (.slice e)) (hinfo : (P.info? e).map (fun i => (i.zero, i.size, i.bytes)) = some (some z, size, bytes)) (h6 : z.cells.size = size) (h7 : 0 < size)
  (v : Value) (es0 : List (List Value)) (hs : a.eval s = v) (hown : OwS w w0.heap.size e size v es0) (xv : Value) (es : List (List Value)) (hx : a.eval x = xv) (hr : SlC w xv size es)
  (h1c : ∀ f ∈ es, ∀ u ∈ f, u.oneCell' = true) (b1 : (es0.length + es.length) * bytes ≤ 140737488355328) (b2 : 0 < bytes)
  (hK : ∀ a' n' c' w', n' = es0.length + es.length → OwS w' w0.heap.size e size (.slice a' n' c') (es0 ++ es) → Below w0.heap.size w0 w' → (∀ T, e ≠ T → KeepT T w w') → plW P l Q rest (a.put o.dst (.slice a' n' c')) w') : plW P l Q (o :: rest) a w := by
 have b3 : es0.length + es.length ≤ maxLen := by
  have : (es0.length + es.length) * 1 ≤ (es0.length + es.length) * bytes := Nat.mul_le_mul_left _ b2
  unfold maxLen; omega
 refine pl_appendS w hg s x t hop w0.heap.size e z size bytes h1 hinfo h6 h7 v es0.length es0.flatten hs hown.own xv es hx hr (one_flat h1c) b3 b1 hB.size ?_
 intro v' w' own' hgrow
 obtain ⟨a', c', rfl⟩ := own_form own'
 refine hK a' _ c' w' rfl ⟨?_, fun f hf => ?_⟩ (hB.grown hgrow hB.size (fun k e => (hown.own.lt k e).1)) (fun T hT => KeepT.grown hown.own hT hgrow)
 ·rw [List.length_append, List.flatten_append]; exact own'
 ·rcases List.mem_append.1 hf with h | h
  ·exact hown.each f h
  ·obtain ⟨_, _, _, _, _, h4, _⟩ := hr
   exact h4 f h
theorem pl_one (w : World) (hg : o.guard = none) (t e : TypeId) (x : Operand) (xv z : Value) (cs : List Value) (ho : o.op = .buildSlice t 1 #[(0, x)]) (hu : P.underlying t = some (.slice e)) (hs : (P.info? e).map (fun i => (i.zero, i.size)) = some (some z, cs.length)) (hv : a.eval x = xv) (hx : xv.cells = cs.toArray) (hpos : 0 < cs.length) (hsm : cs.length ≤ 2 ^ 24)
  (hK : ∀ g w', SlC w' (.slice (some ⟨g, 0, none⟩) 1 1) cs.length [cs] → Below w.heap.size w w' → plW P l Q rest (a.put o.dst (.slice (some ⟨g, 0, none⟩) 1 1)) w') : plW P l Q (o :: rest) a w := by
 refine pl_op hg fun K' hK' => ?_
 refine wp_buildOne w t e x xv z cs ho hu hs hv hx hpos hsm ?_
 refine hK' _ _ (hK _ _ ?_ ((Below.refl _ w).alloc (Nat.le_refl _) _))
 have h := own_one w w.heap.size e cs (Nat.le_refl _)
 refine SlC.of_own (base := w.heap.size) (t := e) (es := [cs]) ?_ (fun f hf => by rw [List.mem_singleton.1 hf])
 simpa using h
end
end Go.Rg
namespace Go.Proofs.YthbplhglfjlngaaGreat
open Go.RowKit Go.Rg Go.Wd
def RtE (w : World) (e : List Value) (t : Fr) : Prop := RatV w (.agg e.toArray) t
theorem RtE.form {w : World} {e : List Value} {t : Fr} (h : RtE w e t) : ∃ n1 s1 k1 c1 n2 s2 k2 c2, e = [.bool n1, .slice s1 k1 c1, .bool n2, .slice s2 k2 c2] := by
 obtain ⟨n1, s1, k1, c1, n2, s2, k2, c2, he, _⟩ := RatV.form h
 exact ⟨n1, s1, k1, c1, n2, s2, k2, c2, by simpa using he⟩
theorem RtE.len {w : World} {e : List Value} {t : Fr} (h : RtE w e t) : e.length = 4 := by obtain ⟨n1, s1, k1, c1, n2, s2, k2, c2, rfl⟩ := h.form; rfl
theorem RtE.one {w : World} {e : List Value} {t : Fr} (h : RtE w e t) : ∀ u ∈ e, u.oneCell' = true := by
 obtain ⟨n1, s1, k1, c1, n2, s2, k2, c2, rfl⟩ := h.form
 intro u hu
 simp only [List.mem_cons, List.not_mem_nil, or_false] at hu
 rcases hu with rfl | rfl | rfl | rfl <;> rfl
def RtS (w : World) (v : Value) (l : List Fr) : Prop := ∃ es, SlC w v 4 es ∧ EsW RtE w es l
theorem RtS.call {w w' : World} {v : Value} {l : List Fr} (h : RtS w v l) (hb : Below w.heap.size w w') : RtS w' v l := by
 obtain ⟨es, h1, h2⟩ := h
 exact ⟨es, h1.call hb, h2.mono fun e x h => RatV.call h hb⟩
theorem cmpF_neg {t u : Fr} : cmpF t u < 0 ↔ LtT t u := by unfold cmpF LtT ltF; exact cI_lt
theorem cmpF_zero {t u : Fr} : cmpF t u = 0 ↔ EqT t u := by unfold cmpF EqT eqF; exact cI_eq
theorem putD_at (t : Fr) : ∀ (l : List Fr) (k : Nat), (∀ j x, j < k → l[j]? = some x → cmpF x t < 0) → (∀ x, l[k]? = some x → ¬ cmpF x t < 0) → k ≤ l.length →
  putD l t = match l[k]? with | some x => if cmpF x t = 0 then l else l.take k ++ t :: l.drop k | none => l.take k ++ t :: l.drop k
 | [], 0, _, _, _ => rfl
 | x :: l, 0, _, h2, _ => by
  have := h2 x rfl
  rw [cmpF_neg] at this
  rw [putD, if_neg this]
  simp only [List.getElem?_cons_zero, List.take_zero, List.nil_append, List.drop_zero, cmpF_zero]
 | x :: l, k + 1, h1, h2, h3 => by
  have h0 := h1 0 x (by omega) rfl
  rw [cmpF_neg] at h0
  rw [putD, if_pos h0, putD_at t l k (fun j y hj hy => h1 (j + 1) y (by omega) hy) (fun y hy => h2 y hy) (by simpa using h3)]
  simp only [List.getElem?_cons_succ, List.take_succ_cons, List.cons_append, List.drop_succ_cons]
  split
  ·split <;> rfl
  ·rfl
theorem info_rtI : (Tryz.prog.info? 77).map (fun i => (i.zero, i.size, i.bytes)) = some (some (.agg #[.bool false, .slice none 0 0, .bool false, .slice none 0 0]), 4, 64) := by kernel_rfl
end Go.Proofs.YthbplhglfjlngaaGreat
namespace Go.Proofs.YthbplhglfjlngaaGreat
open Go.RowKit Go.Rg Go.Wd
attribute [local go_sem] Oper.semAt_some
set_option maxHeartbeats 4000000 in
theorem put_any (v vt : Value) (l : List Fr) (t : Fr) (w : World) (hls : RtS w v l) (ht : RatV w vt t) (hs : ∀ u ∈ l, SmF 100 u) (hst : SmF 100 t) (hb : l.length ≤ 1000000) :
  Calls Tryz.prog 80 #[v, vt] w fun e w' => ∃ v', e = .returned v' ∧ RtS w' v' (putD l t) ∧ Below w.heap.size w w' := by
 obtain ⟨es, hv, he⟩ := hls
 obtain ⟨n1, s1, k1, i1, n2, s2, k2, i2, rfl, h1, h2⟩ := ht.form
 obtain ⟨al, cl, e, hn, hcm⟩ := hv.form
 subst e
 obtain ⟨n, Hn⟩ : ∃ n, Hid (n = es.length) := ⟨_, hH rfl⟩
 have Hnl : Hid (n = l.length) := hH (Hn.out.trans he.len)
 rw [← Hn.out] at hv hn ⊢
 have hnb : n ≤ 1000000 := by rw [Hnl.out]; exact hb
 unfold maxLen at hcm
 obtain ⟨W0, hW0⟩ : ∃ W0, w.alloc (.cells #[.bool n1, .slice s1 k1 i1, .bool n2, .slice s2 k2 i2] 77) = W0 := ⟨_, rfl⟩
 have B0 : Blk W0 w.heap.size [.bool n1, .slice s1 k1 i1, .bool n2, .slice s2 k2 i2] 77 := hW0 ▸ Blk.new _ _ _
 have hb0 : Below w.heap.size w W0 := hW0 ▸ (Below.refl _ w).alloc (Nat.le_refl _) _
 have HBw := hH hb0
 have hsz : w.heap.size < W0.heap.size := B0.lt
 have HV := hH (hv.call hb0)
 have HE := hH (he.mono (fun e x h => RatV.call h hb0))
 have HT : Hid (∀ X, Below W0.heap.size W0 X → RatV X (.agg #[.bool n1, .slice s1 k1 i1, .bool n2, .slice s2 k2 i2]) t) := hH (fun X hX => (ht.call hb0).call hX)
 have HSt := hH hst
 have HS := hH hs
 have HB0 := hH B0
 clear hv he ht h1 h2 hb0 hs hst B0 hb
 go_enter Tryz.func80, Tryz.ntmps80
 go_upto_block 0 with (fail)
 (try rw [hW0])
 clear hW0
 go_cut [5] from 6 (fun s5 wx => ∃ i : Nat, i ≤ n ∧ s5 = .int .i64 (i : Int) ∧ Hid (∀ j x, j < i → l[j]? = some x → cmpF x t < 0) ∧ Hid (∀ x, l[i]? = some x → ¬ cmpF x t < 0) ∧ Hid (Below W0.heap.size W0 wx))
 case first =>
  go_wp2_with fail
  go_loopg [5] n (fun q s5 wx => ∃ i : Nat, i + q = n ∧ s5 = .int .i64 (i : Int) ∧ Hid (∀ j x, j < i → l[j]? = some x → cmpF x t < 0) ∧ Hid (Below W0.heap.size W0 wx))
  case atStart => exact ⟨0, by omega, by first | rfl | simp, hH (fun j x h => by omega), hH (Below.refl _ _)⟩
  case round =>
   obtain ⟨i, hq, rfl, Hlow, HBr⟩ := hrel
   have B0 := HB0.out.below HBr.out HB0.out.lt
   have HB := HBr.out
   have hwz := HB.size
   cases gk with
   | zero =>
    have t0 : ¬ (i : Int) < (n : Int) := by omega
    go_upto_region 2 with (fail)
    go_upto_region 2 with (fail)
    refine cG ?_
    refine cN ?_
    refine cW ?_ ?_ ?_
    refine cW ?_ ?_ ?_
    refine cW ?_ ?_ ?_
    refine cX ?_ ?_ (by intro wz hSw; have nn := t0; go_simp; all_goals with_reducible rfl) ?_
    refine cW ?_ ?_ ?_
    refine cS ?_ ?_
    refine cS ?_ ?_
    refine cS ?_ ?_
    refine cS ?_ ?_
    refine cS ?_ ?_
    refine cS ?_ ?_
    refine cS ?_ ?_
    refine cW ?_ ?_ ?_
    refine calm_end ?_
    intro w1 hS
    have hS := sO hS
    have B0 := B0.y hS
    have hz1 : wr.heap.size ≤ w1.heap.size := hS.size
    have HB := gS HB hS
    have HE9 := hH hS.all
    clear hS
    go_wp2_with fail
    go_meet
    exact ⟨i, by omega, rfl, Hlow, hH (fun x hx => by have := (List.getElem?_eq_some_iff.1 hx).1; have := Hnl.out; omega), hH HB⟩
   | succ q =>
    have t0 : (i : Int) < (n : Int) := by omega
    obtain ⟨et, Het0⟩ : ∃ et, l[i]? = some et := ⟨_, List.getElem?_eq_getElem (by rw [← Hnl.out]; omega)⟩
    obtain ⟨ee, hee, hre⟩ := HE.out.get Het0
    obtain ⟨gl, ol, rfl, hgl, hrl, hle⟩ := HV.out.elem hee
    have HLe := hH hle
    have HRl : Hid (∀ X, Below wr.heap.size wr X → X.rangeAt gl (ol + i * 4) ee) := hH (fun X hX => rangeAt_below hrl (HBr.out.trans (hX.mono HBr.out.size)) hgl)
    have HRe : Hid (∀ X, Below wr.heap.size wr X → RatV X (.agg ee.toArray) et) := hH (fun X hX => RatV.call hre (HBr.out.trans (hX.mono HBr.out.size)))
    have HT : Hid (∀ X, Below wr.heap.size wr X → RatV X (.agg #[.bool n1, .slice s1 k1 i1, .bool n2, .slice s2 k2 i2]) t) := hH (fun X hX => HT.out X (HBr.out.trans (hX.mono HBr.out.size)))
    have HSe := hH (HS.out et (List.mem_of_getElem? Het0))
    have Het := hH Het0
    clear hee hre hgl hrl hle Het0
    obtain ⟨bq, Hbq⟩ : ∃ bq : Bool, Hid (decide (cmpF et t < 0) = bq) := ⟨_, hH rfl⟩
    go_upto_region 2 with (fail)
    go_upto_region 2 with (fail)
    refine cG ?_
    refine cN ?_
    refine cW ?_ ?_ ?_
    refine cW ?_ ?_ ?_
    refine cW ?_ ?_ ?_
    refine cX ?_ ?_ (by intro wz hSw; have nn := t0; go_simp; all_goals with_reducible rfl) ?_
    refine cW ?_ ?_ ?_
    refine cW ?_ ?_ ?_
    refine cW ?_ ?_ ?_
    refine cX (.pointer (some ⟨gl, ol + i * 4, none⟩)) ?_ (by intro wz hSw; exact x_index (i := i) (E := 77) (sz := 4) rfl (by rfl) (by rfl) (by omega) Tryz.underlying114 size_ratS) ?_
    refine cX (.agg ee.toArray) ?_ (by intro wz hSw; exact x_row (cs := ee) rfl (by rfl) (HRl.out _ (Stay.all hSw.1)) Tryz.underlying77 rfl (by rw [HLe.out]; exact size_ratS)) ?_
    refine cX ?_ ?_ (by intro wz hSw; obtain ⟨q0, q1, q2, q3⟩ := c4 (B0.y hSw.1); go_simp; all_goals with_reducible rfl) ?_
    refine cC ?_ ?_ ?_ ?_ ?hc4_10 ?_
    case hc4_10 => (intro w hSw; exact cmp02_any et t _ _ w (HRe.out _ (Stay.all hSw.1)) (HT.out _ (Stay.all hSw.1)) HSe.out HSt.out)
    refine cX (.bool bq) ?_ (by intro wz hSw; exact (by have nn := Hbq.out; go_simp)) ?_
    refine cW ?_ ?_ ?_
    refine calm_end ?_
    intro w1 hS
    have hS := sO hS
    have B0 := B0.y hS
    have hz1 : wr.heap.size ≤ w1.heap.size := hS.size
    have HB := gS HB hS
    have HE9 := hH hS.all
    clear hS
    cases bq with
    | true =>
     have hlt : cmpF et t < 0 := by simpa using Hbq.out
     go_wp2_with fail
     go_roundg q
     case measure => omega
     case rel => exact ⟨i + 1, by omega, by go_num, hH (fun j x hj hx => by
      by_cases h : j < i
      ·exact Hlow.out j x h hx
      ·obtain rfl : j = i := by omega
       rw [Het.out] at hx; cases hx; exact hlt), hH HB⟩
    | false =>
     have hlt : ¬ cmpF et t < 0 := by simpa using Hbq.out
     go_wp2_with fail
     go_meet
     exact ⟨i, by omega, rfl, Hlow, hH (fun x hx => by rw [Het.out] at hx; cases hx; exact hlt), hH HB⟩
 case rest =>
  obtain ⟨i, hin, rfl, Hlow, Hup, HBr⟩ := hcut
  rename World => wr
  have HP := hH (putD_at t l i Hlow.out Hup.out (by rw [← Hnl.out]; exact hin))
  clear Hlow Hup
  go_upto_region 4 with (fail)
  go_cut [34] from 6 (fun s34 wx => ∃ bq : Bool, s34 = .bool bq ∧ Hid (bq = true → putD l t = l) ∧ Hid (bq = false → putD l t = l.take i ++ t :: l.drop i) ∧ Hid (Below W0.heap.size W0 wx))
  case first =>
   have B0 := HB0.out.below HBr.out HB0.out.lt
   have HB := HBr.out
   have hwz := HB.size
   by_cases hlt : i < n
   ·have t0 : (i : Int) < (n : Int) := by omega
    obtain ⟨et, Het0⟩ : ∃ et, l[i]? = some et := ⟨_, List.getElem?_eq_getElem (by rw [← Hnl.out]; omega)⟩
    obtain ⟨ee, hee, hre⟩ := HE.out.get Het0
    obtain ⟨gl, ol, rfl, hgl, hrl, hle⟩ := HV.out.elem hee
    have HLe := hH hle
    have HRl : Hid (∀ X, Below wr.heap.size wr X → X.rangeAt gl (ol + i * 4) ee) := hH (fun X hX => rangeAt_below hrl (HBr.out.trans (hX.mono HBr.out.size)) hgl)
    have HRe : Hid (∀ X, Below wr.heap.size wr X → RatV X (.agg ee.toArray) et) := hH (fun X hX => RatV.call hre (HBr.out.trans (hX.mono HBr.out.size)))
    have HT : Hid (∀ X, Below wr.heap.size wr X → RatV X (.agg #[.bool n1, .slice s1 k1 i1, .bool n2, .slice s2 k2 i2]) t) := hH (fun X hX => HT.out X (HBr.out.trans (hX.mono HBr.out.size)))
    have HSe := hH (HS.out et (List.mem_of_getElem? Het0))
    have Het := hH Het0
    clear hee hre hgl hrl hle Het0
    obtain ⟨bq, Hbq⟩ : ∃ bq : Bool, Hid (decide (cmpF et t = 0) = bq) := ⟨_, hH rfl⟩
    skip
    refine cG ?_
    refine cN ?_
    refine cW ?_ ?_ ?_
    refine cW ?_ ?_ ?_
    refine cW ?_ ?_ ?_
    refine cX ?_ ?_ (by intro wz hSw; have nn := t0; go_simp; all_goals with_reducible rfl) ?_
    refine cW ?_ ?_ ?_
    refine cW ?_ ?_ ?_
    refine cW ?_ ?_ ?_
    refine cX (.pointer (some ⟨gl, ol + i * 4, none⟩)) ?_ (by intro wz hSw; exact x_index (i := i) (E := 77) (sz := 4) rfl (by rfl) (by rfl) (by omega) Tryz.underlying114 size_ratS) ?_
    refine cX (.agg ee.toArray) ?_ (by intro wz hSw; exact x_row (cs := ee) rfl (by rfl) (HRl.out _ (Stay.all hSw.1)) Tryz.underlying77 rfl (by rw [HLe.out]; exact size_ratS)) ?_
    refine cX ?_ ?_ (by intro wz hSw; obtain ⟨q0, q1, q2, q3⟩ := c4 (B0.y hSw.1); go_simp; all_goals with_reducible rfl) ?_
    refine cC ?_ ?_ ?_ ?_ ?hc1_10 ?_
    case hc1_10 => (intro w hSw; exact cmp02_any et t _ _ w (HRe.out _ (Stay.all hSw.1)) (HT.out _ (Stay.all hSw.1)) HSe.out HSt.out)
    refine cX (.bool bq) ?_ (by intro wz hSw; exact (by have nn := Hbq.out; have nn2 : (cmpF et t == 0) = bq := Hbq.out; go_simp)) ?_
    refine cW ?_ ?_ ?_
    refine calm_end ?_
    intro w1 hS
    have hS := sO hS
    have B0 := B0.y hS
    have hz1 : wr.heap.size ≤ w1.heap.size := hS.size
    have HB := gS HB hS
    have HE9 := hH hS.all
    clear hS
    have HP1 := HP.out
    rw [Het.out] at HP1
    simp only at HP1
    have Q1 : Hid (bq = true → putD l t = l) := hH (fun h => by rw [h] at Hbq; have h0 : cmpF et t = 0 := of_decide_eq_true Hbq.out; rw [HP1, if_pos h0])
    have Q2 : Hid (bq = false → putD l t = l.take i ++ t :: l.drop i) := hH (fun h => by rw [h] at Hbq; have h0 : ¬ cmpF et t = 0 := of_decide_eq_false Hbq.out; rw [HP1, if_neg h0])
    clear HP1
    go_wp2_with fail
    go_meet
    exact ⟨bq, rfl, Q1, Q2, hH HB⟩
   ·have t0 : ¬ (i : Int) < (n : Int) := by omega
    have hno : l[i]? = none := List.getElem?_eq_none (by rw [← Hnl.out]; omega)
    skip
    refine cG ?_
    refine cN ?_
    refine cW ?_ ?_ ?_
    refine cW ?_ ?_ ?_
    refine cW ?_ ?_ ?_
    refine cX ?_ ?_ (by intro wz hSw; have nn := t0; go_simp; all_goals with_reducible rfl) ?_
    refine cW ?_ ?_ ?_
    refine cS ?_ ?_
    refine cS ?_ ?_
    refine cS ?_ ?_
    refine cS ?_ ?_
    refine cS ?_ ?_
    refine cS ?_ ?_
    refine cS ?_ ?_
    refine cW ?_ ?_ ?_
    refine calm_end ?_
    intro w1 hS
    have hS := sO hS
    have B0 := B0.y hS
    have hz1 : wr.heap.size ≤ w1.heap.size := hS.size
    have HB := gS HB hS
    have HE9 := hH hS.all
    clear hS
    have HP1 := HP.out
    rw [hno] at HP1
    simp only at HP1
    have Q2 := hH HP1
    clear HP1
    go_wp2_with fail
    go_meet
    exact ⟨false, rfl, hH (fun h => by cases h), hH (fun _ => Q2.out), hH HB⟩
  case rest =>
   clear HBr HP
   obtain ⟨bq, rfl, Q1, Q2, HBr⟩ := hcut
   cases bq with
   | true =>
    have HB := HBr.out
    have HQ := hH (Q1.out rfl)
    clear Q1 Q2
    go_wp2_with fail
    go_ret
    exact ⟨_, rfl, ⟨es, HV.out.call HB, (by rw [HQ.out]; exact HE.out.mono (fun e x h => RatV.call h HB))⟩, HBw.out.trans (HB.mono HBw.out.size)⟩
   | false =>
    have HP := hH (Q2.out rfl)
    clear Q1 Q2
    have HB := HBr.out
    have hwz := HB.size
    have HO0 := hH (OwS.none wc W0.heap.size 77 4)
    have h1e := HE.out.all (fun e x h => RtE.one h)
    have hsub1 := (HV.out.call HB).sub 0 i (Nat.zero_le _) (by rw [← Hn.out]; exact hin)
    have hsub2 := (HV.out.call HB).sub i n hin (by rw [← Hn.out]; exact Nat.le_refl _)
    rw [List.drop_zero] at hsub1
    rw [Hn.out, List.take_length, ← Hn.out] at hsub2
    have HL1 : Hid ((es.take i).length = i) := hH (by rw [List.length_take, ← Hn.out]; omega)
    have HL2 : Hid ((es.drop i).length = n - i) := hH (by rw [List.length_drop, ← Hn.out])
    have H1a : Hid (∀ e ∈ es.take i, ∀ u ∈ e, u.oneCell' = true) := hH (fun e he => h1e e (List.mem_of_mem_take he))
    have H1b : Hid (∀ e ∈ es.drop i, ∀ u ∈ e, u.oneCell' = true) := hH (fun e he => h1e e (List.mem_of_mem_drop he))
    have HS1 := hH hsub1
    have HS2 := hH hsub2
    clear h1e hsub1 hsub2
    go_upto_region 7 with (fail)
    refine pl_start ?_
    refine pM (.slice none 0 0) ?_
    (try simp only [td])
    refine pM (.slice al n cl) ?_
    (try simp only [td])
    refine pM (.int .i64 (i : Int)) ?_
    (try simp only [td])
    obtain ⟨v1, Hv1⟩ : ∃ v1 : Value, Hid (v1 = .slice (if cl = 0 then al else al.map (·.add (0 * 4))) (i - 0) (cl - 0)) := ⟨_, hH rfl⟩
    refine pl_val (v := v1) (by rfl) (by rw [Hv1.out]; exact x_head (n := n) (E := 77) (sz := 4) rfl (by rfl) (by rfl) (by omega) Tryz.underlying114 size_ratS) ?_
    (try simp only [td])
    refine pl_app W0 wc HB rfl (.tmp 36) (.tmp 39) 114 rfl 77 (.agg #[.bool false, .slice none 0 0, .bool false, .slice none 0 0]) 4 64 Tryz.underlying114 info_rtI rfl (by decide) (.slice none 0 0) [] rfl HO0.out _ (es.take i) rfl (by rw [Hv1.out]; exact HS1.out) H1a.out (by rw [HL1.out, List.length_nil]; omega) (by decide) ?_
    intro aa na ca wa hna hoa hba _
    have HOa := hH hoa
    have HNa := hH hna
    have HBa := hH hba
    clear hna hoa hba
    (try simp only [td])
    refine pM (.slice aa na ca) ?_
    (try simp only [td])
    refine pl_end ?_
    have B0 := HB0.out.below HBa.out HB0.out.lt
    go_upto_region 8 with (fail)
    refine pl_start ?_
    refine pM (.slice aa na ca) ?_
    (try simp only [td])
    refine pl_val (v := .agg #[.bool n1, .slice s1 k1 i1, .bool n2, .slice s2 k2 i2]) (by rfl) (load_row rfl (by rfl) B0 Tryz.underlying77 rfl size_ratS) ?_
    (try simp only [td])
    refine pl_one wa rfl 114 77 (.tmp 42) (.agg #[.bool n1, .slice s1 k1 i1, .bool n2, .slice s2 k2 i2]) (.agg #[.bool false, .slice none 0 0, .bool false, .slice none 0 0]) [.bool n1, .slice s1 k1 i1, .bool n2, .slice s2 k2 i2] rfl Tryz.underlying114 (info_small info_rtI) (by rfl) rfl (by simp) (by simp) ?_
    intro gb wb hsb hbb
    have HOb := hH (HOa.out.call hbb)
    have HBb := hH (HBa.out.trans (hbb.mono HBa.out.size))
    have HSb := hH hsb
    clear hsb hbb B0
    (try simp only [td])
    refine pl_app W0 wb HBb.out rfl (.tmp 41) (.tmp 43) 114 rfl 77 (.agg #[.bool false, .slice none 0 0, .bool false, .slice none 0 0]) 4 64 Tryz.underlying114 info_rtI rfl (by decide) (.slice aa na ca) _ rfl HOb.out _ _ rfl HSb.out (by intro f hf u hu; rw [List.mem_singleton.1 hf] at hu; simp only [List.mem_cons, List.not_mem_nil, or_false] at hu; rcases hu with rfl | rfl | rfl | rfl <;> rfl) (by rw [List.length_append, HL1.out, List.length_nil, List.length_singleton]; omega) (by decide) ?_
    intro ad nd cd wd hnd hod hbd _
    have HOd := hH hod
    have HBd := hH hbd
    clear hnd hod hbd
    (try simp only [td])
    refine pM (.slice ad nd cd) ?_
    (try simp only [td])
    refine pl_end ?_
    go_upto_region 9 with (fail)
    refine pl_start ?_
    refine pM (.slice ad nd cd) ?_
    (try simp only [td])
    refine pM (.slice al n cl) ?_
    (try simp only [td])
    refine pM (.int .i64 (i : Int)) ?_
    (try simp only [td])
    obtain ⟨v2, Hv2⟩ : ∃ v2 : Value, Hid (v2 = .slice (if cl = i then al else al.map (·.add (i * 4))) (n - i) (cl - i)) := ⟨_, hH rfl⟩
    refine pl_val (v := v2) (by rfl) (by rw [Hv2.out]; exact x_tail (E := 77) (sz := 4) rfl (by rfl) (by rfl) hin Tryz.underlying114 size_ratS) ?_
    (try simp only [td])
    have HS2d := hH (((HV.out.call HBd.out).sub i n hin (by rw [← Hn.out]; exact Nat.le_refl _)))
    have HDd : Hid ((es.take n).drop i = es.drop i) := hH (by rw [Hn.out, List.take_length])
    refine pl_app W0 wd HBd.out rfl (.tmp 45) (.tmp 48) 114 rfl 77 (.agg #[.bool false, .slice none 0 0, .bool false, .slice none 0 0]) 4 64 Tryz.underlying114 info_rtI rfl (by decide) (.slice ad nd cd) _ rfl HOd.out _ (es.drop i) rfl (by rw [← HDd.out, Hv2.out]; exact HS2d.out) H1b.out (by rw [List.length_append, List.length_append, HL1.out, HL2.out, List.length_nil, List.length_singleton]; omega) (by decide) ?_
    intro af nf cf wf hnf hof hbf _
    have HOf := hH hof
    have HBf := hH hbf
    clear hnf hof hbf
    (try simp only [td])
    refine pM (.slice af nf cf) ?_
    (try simp only [td])
    refine pl_end ?_
    go_wp2_with fail
    go_ret
    refine ⟨_, rfl, ⟨_, HOf.out.slc, ?_⟩, HBw.out.trans (HBf.out.mono HBw.out.size)⟩
    rw [HP.out, List.nil_append, List.append_assoc]
    have hh := HE.out.mono (w' := wf) (fun e x h => RatV.call h HBf.out)
    exact (hh.take i).append ((EsW.one (HT.out wf HBf.out)).append (hh.drop i))
end Go.Proofs.YthbplhglfjlngaaGreat
