/- Division of numbers of four words, bit by bit: plain laws. No program in sight. -/
import Derived.Test.YthbplhglfjlngaaGreatGPd
import Derived.Test.YthbplhglfjlngaaGreatGPb
import Derived.Deep.Cut
import Derived.Laws.Bits64b
set_option linter.unusedVariables false
set_option linter.unusedSimpArgs false
set_option maxRecDepth 100000
namespace Go.Wd
open Go
def zi (n : Nat) : Int := if n < H4 then (n : Int) else (n : Int) - B4
theorem zi_fit {n : Nat} (h : n < B4) : Fit (zi n) := by
 unfold zi Fit
 simp only [B4, H4] at h ⊢
 split <;> omega
theorem zi_tc {n : Nat} (h : n < B4) : tc (zi n) = n := by
 have h1 := tc_cast (zi n)
 unfold zi at h1 ⊢
 simp only [B4, H4] at h h1 ⊢
 split at h1 <;> split <;> omega
theorem zi_neg {n : Nat} (h : n < B4) : decide (zi n < 0) = decide (H4 ≤ n) := by
 unfold zi
 rw [decide_eq_decide]
 simp only [B4, H4] at h ⊢
 split <;> omega
theorem U_zi {n : Nat} (h : n < B4) : U n = wI (zi n) := by unfold wI; rw [zi_tc h]
def bit (a i : Nat) : Nat := a / 2 ^ i % 2
theorem bit_lb (a i : Nat) : lb a (i / 64) / 2 ^ (i % 64) % 2 = bit a i := by
 unfold lb bit
 have e1 : i = 64 * (i / 64) + i % 64 := (Nat.div_add_mod i 64).symm
 have e2 : B ^ (i / 64) = 2 ^ (64 * (i / 64)) := by rw [Nat.pow_mul]
 rw [e2]
 conv => rhs; rw [e1, Nat.pow_add, ← Nat.div_div_eq_div_mul]
 generalize a / 2 ^ (64 * (i / 64)) = x
 have hs : i % 64 < 64 := Nat.mod_lt _ (by decide)
 generalize i % 64 = s at hs
 have e3 : B = 2 ^ s * 2 ^ (64 - s) := by rw [← Nat.pow_add, show s + (64 - s) = 64 by omega]
 rw [e3, Nat.mod_mul_right_div_self]
 obtain ⟨d, hd⟩ : ∃ d, 64 - s = d + 1 := ⟨63 - s, by omega⟩
 rw [hd, Nat.pow_succ, Nat.mul_comm, Nat.mod_mul_right_mod]
def qA (a b i : Nat) : Nat := a / 2 ^ i / b
def rA (a b i : Nat) : Nat := a / 2 ^ i % b
theorem shift_succ (a i : Nat) : a / 2 ^ i = 2 * (a / 2 ^ (i + 1)) + bit a i := by
 unfold bit
 rw [Nat.pow_succ, ← Nat.div_div_eq_div_mul]
 have := Nat.div_add_mod (a / 2 ^ i) 2
 omega
theorem bit_le (a i : Nat) : bit a i ≤ 1 := by unfold bit; omega
theorem rA_lt (a b i : Nat) (h : 0 < b) : rA a b i < b := Nat.mod_lt _ h
theorem step_eq (a b i : Nat) (h : 0 < b) : 2 * rA a b (i + 1) + bit a i + b * (2 * qA a b (i + 1)) = a / 2 ^ i := by
 unfold rA qA
 have := Nat.div_add_mod (a / 2 ^ (i + 1)) b
 have h2 := shift_succ a i
 rw [h2]
 have e : b * (2 * (a / 2 ^ (i + 1) / b)) = 2 * (b * (a / 2 ^ (i + 1) / b)) := by ac_rfl
 rw [e]; omega
theorem step_more (a b i : Nat) (h : 0 < b) (hge : b ≤ 2 * rA a b (i + 1) + bit a i) : qA a b i = 2 * qA a b (i + 1) + 1 ∧ rA a b i = 2 * rA a b (i + 1) + bit a i - b := by
 have e := step_eq a b i h
 have hr := rA_lt a b (i + 1) h
 have hb := bit_le a i
 have e2 : a / 2 ^ i = (2 * rA a b (i + 1) + bit a i - b) + b * (2 * qA a b (i + 1) + 1) := by rw [Nat.mul_add, Nat.mul_one]; omega
 constructor
 ·unfold qA at e2 ⊢
  rw [e2, Nat.add_mul_div_left _ _ h, Nat.div_eq_of_lt (by omega)]; omega
 ·unfold rA at e2 hr ⊢
  rw [e2, Nat.add_mul_mod_self_left, Nat.mod_eq_of_lt (by omega)]
theorem step_less (a b i : Nat) (h : 0 < b) (hlt : 2 * rA a b (i + 1) + bit a i < b) : qA a b i = 2 * qA a b (i + 1) ∧ rA a b i = 2 * rA a b (i + 1) + bit a i := by
 have e := step_eq a b i h
 constructor
 ·unfold qA at e ⊢
  rw [← e, Nat.add_mul_div_left _ _ h, Nat.div_eq_of_lt hlt]; omega
 ·unfold rA at e hlt ⊢
  rw [← e, Nat.add_mul_mod_self_left, Nat.mod_eq_of_lt hlt]
theorem qA_two (a b i : Nat) (hb : 0 < b) : 2 * qA a b (i + 1) ≤ a := by
 have h := step_eq a b i hb
 have h2 : a / 2 ^ i ≤ a := Nat.div_le_self _ _
 have h3 : 2 * qA a b (i + 1) ≤ b * (2 * qA a b (i + 1)) := Nat.le_mul_of_pos_left _ hb
 omega
theorem qA_top (a b : Nat) (h : a < B4) : qA a b 256 = 0 ∧ rA a b 256 = 0 := by
 have e : a / 2 ^ 256 = 0 := Nat.div_eq_of_lt (by
   have : B4 = 2 ^ 256 := by decide
   omega)
 unfold qA rA
 rw [e]; simp
theorem qA_zero (a b : Nat) : qA a b 0 = a / b ∧ rA a b 0 = a % b := by unfold qA rA; simp
theorem lb_odd0 (q : Nat) : lb (2 * q + 1) 0 = lb (2 * q) 0 + 1 := by
 unfold lb; simp only [B, Nat.reducePow, Nat.div_one]; omega
theorem lb_odd (q i : Nat) (hi : 0 < i) : lb (2 * q + 1) i = lb (2 * q) i := by
 unfold lb
 obtain ⟨d, rfl⟩ : ∃ d, i = d + 1 := ⟨i - 1, by omega⟩
 have e : B ^ (d + 1) = 2 * (9223372036854775808 * B ^ d) := by
  rw [Nat.pow_succ, ← Nat.mul_assoc, Nat.mul_comm]
 have h : (2 * q + 1) / B ^ (d + 1) = 2 * q / B ^ (d + 1) := by
  have t : ∀ n, n / (2 * (9223372036854775808 * B ^ d)) = n / 2 / (9223372036854775808 * B ^ d) := fun n => (Nat.div_div_eq_div_mul n 2 _).symm
  rw [e, t, t, show (2 * q + 1) / 2 = 2 * q / 2 by omega]
 rw [h]
theorem uL_odd (q : Nat) : (uL (2 * q)).set 0 (u64 (lb (2 * q) 0 + 1)) = uL (2 * q + 1) := by
 unfold uL
 rw [lb_odd0, lb_odd q 1 (by omega), lb_odd q 2 (by omega), lb_odd q 3 (by omega)]
 rfl
end Go.Wd
namespace Go.Proofs.YthbplhglfjlngaaGreat
open Go.RowKit Go.Rg Go.Wd
attribute [local go_sem] Oper.semAt_some
theorem wideNeg_U (n : Nat) (b : Bool) (hn : n < B4) (h : decide (H4 ≤ n) = b) (w : World) :
  Calls Tryz.prog 86 #[U n] w fun e w' => e = .returned (.bool b) ∧ Below w.heap.size w w' := by
 rw [U_zi hn]; exact wideNeg_b _ b (zi_fit hn) (by rw [zi_neg hn]; exact h) w
theorem wideTurned_U (n : Nat) (hn : n < B4) (w : World) :
  Calls Tryz.prog 109 #[U n] w fun e w' => e = .returned (U (B4 - 1 - n)) ∧ Below w.heap.size w w' := by
 have e := tc_not (zi n)
 rw [zi_tc hn] at e
 rw [U_zi hn, e]; exact wideTurned_any _ w
theorem widePlus_U (a b c n : Nat) (hc : c ≤ 1) (h : (a + b + c) % B4 = n % B4) (w : World) :
  Calls Tryz.prog 108 #[U a, U b, u64 c] w fun e w' => e = .returned (U n) ∧ Below w.heap.size w w' := by
 rw [← U_eq h]; exact widePlus_any a b c hc w
theorem wideBelow_U (a b : Nat) (r : Bool) (ha : a < B4) (hb : b < B4) (h : decide (a < b) = r) (w : World) :
  Calls Tryz.prog 88 #[U a, U b] w fun e w' => e = .returned (.bool r) ∧ Below w.heap.size w w' := by
 rw [← h]; exact wideBelow_any a b ha hb w
theorem and_one (x s : Nat) (hx : x < 18446744073709551616) : bits .and .u64 ((x : Int) / 2 ^ s) 1 = ((x / 2 ^ s % 2 : Nat) : Int) := by
 have e : (x : Int) / 2 ^ s = ((x / 2 ^ s : Nat) : Int) := by simp
 have := bits_and_u64_nat (x / 2 ^ s) 1 (Nat.lt_of_le_of_lt (Nat.div_le_self _ _) hx) (by decide)
 rw [e, show (1 : Int) = ((1 : Nat) : Int) from rfl, this, Nat.and_one_is_mod]
theorem or_one (q : Nat) : bits .or .u64 ((lb (2 * q) 0 : Nat) : Int) 1 = ((lb (2 * q) 0 + 1 : Nat) : Int) := by
 have h := lb_lt (2 * q) 0
 have := bits_or_u64_nat (lb (2 * q) 0) 1 h (by decide)
 rw [show (1 : Int) = ((1 : Nat) : Int) from rfl, this]
 have e : lb (2 * q) 0 = 2 ^ 1 * (lb (2 * q) 0 / 2) := by unfold lb; simp only [B, Nat.reducePow, Nat.div_one]; omega
 rw [e, Nat.two_pow_add_eq_or_of_lt (by decide)]
set_option maxHeartbeats 2000000 in
theorem wideDivided_any (a b : Nat) (ha : a < B4) (hb : b < B4) (h0 : 0 < b) (w : World) :
  Calls Tryz.prog 107 #[U a, U b] w fun e w' => e = .returned (.tuple #[U (a / b), U (a % b)]) ∧ Below w.heap.size w w' := by
 obtain ⟨W0, hW0⟩ : ∃ W0, [.cells #[u64 (lb a 0), u64 (lb a 1), u64 (lb a 2), u64 (lb a 3)] 60, .cells #[u64 (lb b 0), u64 (lb b 1), u64 (lb b 2), u64 (lb b 3)] 60, .cells #[.int .u64 0, .int .u64 0, .int .u64 0, .int .u64 0] 60, .cells #[.int .u64 0, .int .u64 0, .int .u64 0, .int .u64 0] 60].foldl World.alloc w = W0 := ⟨_, rfl⟩
 have B0 : Blk W0 (w.heap.size) (uL a) 60 := Blk.allocs _ hW0 0 rfl
 have B1 : Blk W0 (w.heap.size + 1) (uL b) 60 := Blk.allocs _ hW0 1 rfl
 have B2 : Blk W0 (w.heap.size + 1 + 1) (uL 0) 60 := Blk.allocs _ hW0 2 rfl
 have B3 : Blk W0 (w.heap.size + 1 + 1 + 1) (uL 0) 60 := Blk.allocs _ hW0 3 rfl
 have HB := aB hW0
 have hsz : w.heap.size + 4 ≤ W0.heap.size := aZ hW0
 simp only [List.foldl_cons, List.foldl_nil] at hW0
 have HA := hH ha
 have HB4 := hH hb
 have H0 := hH h0
 have HT := hH (qA_top a b ha)
 clear ha hb h0
 unfold U
 go_enter Tryz.func107, Tryz.ntmps107
 go_wp2_with fail
 go_loopg [6] 256 (fun i s6 wx => i ≤ 256 ∧ s6 = .int .i64 ((i : Int) - 1) ∧ Hid (Blk wx w.heap.size (uL a) 60) ∧ Hid (Blk wx (w.heap.size + 1) (uL b) 60) ∧ Hid (Blk wx (w.heap.size + 1 + 1) (uL (qA a b i)) 60) ∧ Hid (Blk wx (w.heap.size + 1 + 1 + 1) (uL (rA a b i)) 60) ∧ Hid (Below w.heap.size w wx) ∧ w.heap.size + 4 ≤ wx.heap.size)
 case atStart => exact ⟨by omega, rfl, B0, B1, by rw [HT.out.1]; exact B2, by rw [HT.out.2]; exact B3, HB, hsz⟩
 case round =>
  clear B0 B1 B2 B3 HB hsz hW0
  obtain ⟨hi6, rfl, G0, G1, G2, G3, HB, hsz⟩ := hrel
  have B0 := G0.out
  have B1 := G1.out
  have HB := HB.out
  cases gk with
  | zero =>
   have e := qA_zero a b
   have B2 : Blk wr (w.heap.size + 1 + 1) (uL (a / b)) 60 := by have := G2.out; rwa [e.1] at this
   have B3 : Blk wr (w.heap.size + 1 + 1 + 1) (uL (a % b)) 60 := by have := G3.out; rwa [e.2] at this
   clear G0 G1 G2 G3 e
   go_upto_region 10 with (fail)
   refine cG ?_
   refine calm_kk (b := w.heap.size + 1 + 1) (o := 0) (st := 2) (ado := .tmp 4) (x := (.tmp 43)) (u := U (a / b)) (b' := w.heap.size + 1 + 1 + 1) (o' := 0) (st' := 3) (ado' := .tmp 5) (x' := (.tmp 44)) (u' := U (a % b)) (by kernel_rfl) B2 B3 (by omega) (by rfl) size_wide (by first | exact wI_one _ | exact U_one _) (by first | exact Nat.le_refl _ | (simp; done) | decide) (by rfl) size_wide (by first | exact wI_one _ | exact U_one _) (by first | exact Nat.le_refl _ | (simp; done) | decide) ?_
   refine cX ?_ ?_ (by intro wz hSw; obtain ⟨q0, q1, q2, q3⟩ := c4 (show Blk wz (w.heap.size + 1 + 1) (uL (a / b)) 60 from hSw.2 _ (List.mem_cons_self ..) rfl ⟨_, rfl, by kernel_rfl⟩); go_simp; all_goals with_reducible rfl) ?_
   refine cX ?_ ?_ (by intro wz hSw; obtain ⟨q0, q1, q2, q3⟩ := c4 (show Blk wz (w.heap.size + 1 + 1 + 1) (uL (a % b)) 60 from hSw.2 _ (List.mem_cons_of_mem _ (List.mem_singleton.2 rfl)) rfl ⟨_, rfl, by kernel_rfl⟩); go_simp; all_goals with_reducible rfl) ?_
   refine cB ?_
   refine cB ?_
   refine calm_end ?_
   refine ⟨⟨⟨(by rfl), (by rfl)⟩, ⟨(by rfl), (by rfl)⟩⟩, fun w1 hS D0 D1 => ?_⟩
   have B0 := B0.y hS
   have B1 := B1.y hS
   have B2 : Blk w1 (w.heap.size + 1 + 1) (uL (a / b)) 60 := blk_whole D0 rfl
   have B3 : Blk w1 (w.heap.size + 1 + 1 + 1) (uL (a % b)) 60 := blk_whole D1 rfl
   have hz1 : wr.heap.size ≤ w1.heap.size := hS.size
   have HB := gS HB hS
   clear hS D0 D1
   go_wp2_with fail
   obtain ⟨s0_0, s0_1, s0_2, s0_3⟩ := c4 (B2)
   obtain ⟨s1_0, s1_1, s1_2, s1_3⟩ := c4 (B3)
   refine bodyPost_ret (v := .tuple #[U (a / b), U (a % b)]) (by simp [results, Tryz.results107, go_sem, s0_0, s0_1, s0_2, s0_3, s1_0, s1_1, s1_2, s1_3]) rfl ⟨rfl, HB⟩
  | succ i =>
   have hir : i < 256 := by omega
   have e1 : ((i + 1 : Nat) : Int) - 1 = (i : Int) := by omega
   rw [e1]
   obtain ⟨q, Hq⟩ : ∃ q, Hid (q = qA a b (i + 1)) := ⟨_, hH rfl⟩
   obtain ⟨r, Hr0⟩ : ∃ r, Hid (r = rA a b (i + 1)) := ⟨_, hH rfl⟩
   obtain ⟨bt, Hb0⟩ : ∃ bt, Hid (bt = bit a i) := ⟨_, hH rfl⟩
   have B2 : Blk wr (w.heap.size + 1 + 1) (uL q) 60 := by rw [Hq.out]; exact G2.out
   have B3 : Blk wr (w.heap.size + 1 + 1 + 1) (uL r) 60 := by rw [Hr0.out]; exact G3.out
   have hrb : r < b := by rw [Hr0.out]; exact rA_lt _ _ _ H0.out
   have hb1 : bt ≤ 1 := by rw [Hb0.out]; exact bit_le _ _
   have hbB := HB4.out
   have h2q := qA_two a b i H0.out
   have haB := HA.out
   rw [← Hq.out] at h2q
   simp only [B4] at hbB haB
   have Hr : Hid (r < B4) := hH (by simp only [B4]; omega)
   have Hbt : Hid (bt ≤ 1) := hH hb1
   obtain ⟨rr, Hr1⟩ : ∃ rr, Hid (rr = (r + r + bt) % B4) := ⟨_, hH rfl⟩
   have Hrl : Hid (rr < B4) := hH (by rw [Hr1.out]; exact Nat.mod_lt _ (by decide))
   have Hrr : Hid ((r + r + bt) % B4 = rr % B4) := hH (by rw [Hr1.out, Nat.mod_mod])
   have Hqq : Hid ((q + q + 0) % B4 = (2 * q) % B4) := hH (by rw [Nat.add_zero, Nat.two_mul])
   obtain ⟨wd, Hwd⟩ : ∃ wd, Hid (wd = i / 64) := ⟨_, hH rfl⟩
   obtain ⟨sh, Hsh⟩ : ∃ sh, Hid (sh = i % 64) := ⟨_, hH rfl⟩
   have hwd : wd < 4 := by rw [Hwd.out]; omega
   have t0 : (0 : Int) ≤ (i : Int) := by omega
   have t1 : (i : Int) / 64 = (wd : Int) := by rw [Hwd.out]; omega
   have t2 : (i : Int) % 64 = (sh : Int) := by rw [Hsh.out]; omega
   have t1' : (i : Int).tdiv 64 = (wd : Int) := by rw [Hwd.out]; exact (Int.ofNat_tdiv i 64).symm
   have t2' : (i : Int).tmod 64 = (sh : Int) := by rw [Hsh.out]; exact (Int.ofNat_tmod i 64).symm
   have t3 : (0 : Int) ≤ (wd : Int) := by omega
   have t4 : (wd : Int) < 4 := by omega
   have t5 : (0 : Int) ≤ (sh : Int) := by omega
   have t6 : (sh : Int) ≤ 64 := by rw [Hsh.out]; omega
   have hbit := bit_lb a i
   rw [← Hwd.out, ← Hsh.out, ← Hb0.out] at hbit
   have t7 : bits .and .u64 ((lb a wd : Int) / 2 ^ sh) 1 = (bt : Int) := by rw [and_one _ _ (lb_lt _ _), hbit]
   have hmo : 2 * r + bt < 231584178474632390847141970017375815706539969331281128078915168015826259279872 := by omega
   have Hr1' : Hid (rr = if 2 * r + bt < 115792089237316195423570985008687907853269984665640564039457584007913129639936 then 2 * r + bt else 2 * r + bt - 115792089237316195423570985008687907853269984665640564039457584007913129639936) := hH (by
    rw [Hr1.out]; simp only [B4]; split <;> omega)
   have t8 : IntKind.i64.wrap (wd : Int) = (wd : Int) := IntWalk.i64_in _ (by omega)
   have t9 : IntKind.i64.wrap (sh : Int) = (sh : Int) := IntWalk.i64_in _ (by omega)
   clear G0 G1 G2 G3 hbit hmo
   by_cases hov : H4 ≤ r
   ·have Hov : Hid (decide (H4 ≤ r) = true) := hH (by simpa using hov)
    have hmm := step_more a b i H0.out (by rw [← Hr0.out, ← Hb0.out]; simp only [H4] at hov; omega)
    rw [← Hr0.out, ← Hb0.out, ← Hq.out] at hmm
    obtain ⟨r2, Hr20⟩ : ∃ r2, Hid (r2 = 2 * r + bt - b) := ⟨_, hH rfl⟩
    have Hr2 : Hid ((rr + (B4 - 1 - b) + 1) % B4 = r2 % B4) := hH (by
     have := Hr1'.out; simp only [H4] at hov; simp only [B4]; rw [Hr20.out]; split at this <;> omega)
    have HM := hH hmm
    clear hmm hov
    go_upto_region 4 with (fail)
    refine cP ?_
    refine cN ?_
    refine cX ?_ ?_ (by intro wz hSw; obtain ⟨q0, q1, q2, q3⟩ := c4 (B3.y hSw.1); go_simp; all_goals with_reducible rfl) ?_
    refine cC ?_ ?_ ?_ ?_ ?hc2_1 ?_
    case hc2_1 => (intro w hSw; exact wideNeg_U r true Hr.out Hov.out w)
    refine cW ?_ ?_ ?_
    refine calm_end ?_
    intro w1 hS
    have hS := sO hS
    have B0 := B0.y hS
    have B1 := B1.y hS
    have B2 := B2.y hS
    have B3 := B3.y hS
    have hz1 : wr.heap.size ≤ w1.heap.size := hS.size
    have HB := gS HB hS
    clear hS
    go_upto_region 5 with (fail)
    refine cG ?_
    refine calm_k (b := w.heap.size + 1 + 1 + 1) (o := 0) (st := 11) (ado := .tmp 5) (x := (.tmp 24)) (u := U rr) (by kernel_rfl) B3 (by rfl) size_wide (by first | exact wI_one _ | exact U_one _) (by first | exact Nat.le_refl _ | (simp; done) | decide) ?_
    refine cX ?_ ?_ (by intro wz hSw; obtain ⟨q0, q1, q2, q3⟩ := c4 (show Blk wz (w.heap.size + 1 + 1 + 1) (uL r) 60 from hSw.2 _ (List.mem_cons_self ..) rfl ⟨_, rfl, by kernel_rfl⟩); go_simp; all_goals with_reducible rfl) ?_
    refine cX ?_ ?_ (by intro wz hSw; obtain ⟨q0, q1, q2, q3⟩ := c4 (show Blk wz (w.heap.size + 1 + 1 + 1) (uL r) 60 from hSw.2 _ (List.mem_cons_self ..) rfl ⟨_, rfl, by kernel_rfl⟩); go_simp; all_goals with_reducible rfl) ?_
    refine cW ?_ ?_ ?_
    refine cW ?_ ?_ ?_
    refine cW ?_ ?_ ?_
    refine cX ?_ ?_ (by intro wz hSw; have q0 := (B0.y hSw.1).cell (uL_at a wd hwd); go_simp; all_goals with_reducible rfl) ?_
    refine cW ?_ ?_ ?_
    refine cW ?_ ?_ ?_
    refine cW ?_ ?_ ?_
    refine cW ?_ ?_ ?_
    refine cC ?_ ?_ ?_ ?_ ?hc3_10 ?_
    case hc3_10 => (intro w hSw; exact widePlus_U r r bt rr Hbt.out Hrr.out w)
    refine cB ?_
    refine calm_end ?_
    refine ⟨(by rfl), (by rfl), fun w2 hS D0 => ?_⟩
    have B0 := B0.y hS
    have B1 := B1.y hS
    have B2 := B2.y hS
    have B3 : Blk w2 (w.heap.size + 1 + 1 + 1) (uL rr) 60 := blk_whole D0 rfl
    have hz2 : w1.heap.size ≤ w2.heap.size := hS.size
    have HB := gS HB hS
    clear hS D0
    go_upto_region 6 with (fail)
    refine cP ?_
    refine calm_k (b := w.heap.size + 1 + 1) (o := 0) (st := 3) (ado := .tmp 4) (x := (.tmp 27)) (u := U (2 * q)) (by kernel_rfl) B2 (by rfl) size_wide (by first | exact wI_one _ | exact U_one _) (by first | exact Nat.le_refl _ | (simp; done) | decide) ?_
    refine cX ?_ ?_ (by intro wz hSw; obtain ⟨q0, q1, q2, q3⟩ := c4 (show Blk wz (w.heap.size + 1 + 1) (uL q) 60 from hSw.2 _ (List.mem_cons_self ..) rfl ⟨_, rfl, by kernel_rfl⟩); go_simp; all_goals with_reducible rfl) ?_
    refine cX ?_ ?_ (by intro wz hSw; obtain ⟨q0, q1, q2, q3⟩ := c4 (show Blk wz (w.heap.size + 1 + 1) (uL q) 60 from hSw.2 _ (List.mem_cons_self ..) rfl ⟨_, rfl, by kernel_rfl⟩); go_simp; all_goals with_reducible rfl) ?_
    refine cC ?_ ?_ ?_ ?_ ?hc4_2 ?_
    case hc4_2 => (intro w hSw; exact widePlus_U q q 0 (2 * q) (by omega) Hqq.out w)
    refine cB ?_
    refine calm_end ?_
    refine ⟨(by rfl), (by rfl), fun w3 hS D0 => ?_⟩
    have B0 := B0.y hS
    have B1 := B1.y hS
    have B3 := B3.y hS
    have B2 : Blk w3 (w.heap.size + 1 + 1) (uL (2 * q)) 60 := blk_whole D0 rfl
    have hz3 : w2.heap.size ≤ w3.heap.size := hS.size
    have HB := gS HB hS
    clear hS D0
    go_upto_region 7 with (fail)
    refine cP ?_
    refine cN ?_
    refine cW ?_ ?_ ?_
    refine cW ?_ ?_ ?_
    refine cS ?_ ?_
    refine cS ?_ ?_
    refine cS ?_ ?_
    refine cS ?_ ?_
    refine cW ?_ ?_ ?_
    refine calm_end ?_
    intro w4 hS
    have hS := sO hS
    have B0 := B0.y hS
    have B1 := B1.y hS
    have B2 := B2.y hS
    have B3 := B3.y hS
    have hz4 : w3.heap.size ≤ w4.heap.size := hS.size
    have HB := gS HB hS
    clear hS
    go_upto_region 8 with (fail)
    refine cG ?_
    refine calm_k (b := w.heap.size + 1 + 1 + 1) (o := 0) (st := 4) (ado := .tmp 5) (x := (.tmp 38)) (u := U r2) (by kernel_rfl) B3 (by rfl) size_wide (by first | exact wI_one _ | exact U_one _) (by first | exact Nat.le_refl _ | (simp; done) | decide) ?_
    refine cX ?_ ?_ (by intro wz hSw; obtain ⟨q0, q1, q2, q3⟩ := c4 (show Blk wz (w.heap.size + 1 + 1 + 1) (uL rr) 60 from hSw.2 _ (List.mem_cons_self ..) rfl ⟨_, rfl, by kernel_rfl⟩); go_simp; all_goals with_reducible rfl) ?_
    refine cX ?_ ?_ (by intro wz hSw; obtain ⟨q0, q1, q2, q3⟩ := c4 (B1.y hSw.1); go_simp; all_goals with_reducible rfl) ?_
    refine cC ?_ ?_ ?_ ?_ ?hc6_2 ?_
    case hc6_2 => (intro w hSw; exact wideTurned_U b HB4.out w)
    refine cC ?_ ?_ ?_ ?_ ?hc6_3 ?_
    case hc6_3 => (intro w hSw; exact widePlus_U rr (B4 - 1 - b) 1 r2 (by omega) Hr2.out w)
    refine cB ?_
    refine calm_end ?_
    refine ⟨(by rfl), (by rfl), fun w5 hS D0 => ?_⟩
    have B0 := B0.y hS
    have B1 := B1.y hS
    have B2 := B2.y hS
    have B3 : Blk w5 (w.heap.size + 1 + 1 + 1) (uL r2) 60 := blk_whole D0 rfl
    have hz5 : w4.heap.size ≤ w5.heap.size := hS.size
    have HB := gS HB hS
    clear hS D0
    obtain ⟨q0, q1, q2, q3⟩ := c4 B2
    have f0 : ∀ j, w5.frozen? ⟨w.heap.size + 1 + 1, j, none⟩ = false := fun j => B2.frozen j
    have hor := or_one q
    go_wp2_with fail
    have K2 := B2.set 0 (u64 (lb (2 * q) 0 + 1))
    rw [uL_odd] at K2
    have K0 := B0.other ⟨w.heap.size + 1 + 1, 0, none⟩ (by show w.heap.size ≠ w.heap.size + 1 + 1; omega) (u64 (lb (2 * q) 0 + 1))
    have K1 := B1.other ⟨w.heap.size + 1 + 1, 0, none⟩ (by show w.heap.size + 1 ≠ w.heap.size + 1 + 1; omega) (u64 (lb (2 * q) 0 + 1))
    have K3 := B3.other ⟨w.heap.size + 1 + 1, 0, none⟩ (by show w.heap.size + 1 + 1 + 1 ≠ w.heap.size + 1 + 1; omega) (u64 (lb (2 * q) 0 + 1))
    have KB := HB.setCell (p := ⟨w.heap.size + 1 + 1, 0, none⟩) (by show w.heap.size ≤ w.heap.size + 1 + 1; omega) (u64 (lb (2 * q) 0 + 1))
    go_roundg i
    case measure => omega
    case rel => exact ⟨by omega, rfl, K0, K1, by rw [HM.out.1]; exact K2, by rw [HM.out.2, ← Hr20.out]; exact K3, KB, by simp [World.setCell]; omega⟩
   ·have Hov : Hid (decide (H4 ≤ r) = false) := hH (by simpa using hov)
    simp only [H4] at hov
    have hrr : rr = 2 * r + bt := by have := Hr1'.out; split at this <;> omega
    by_cases hlt : rr < b
    ·have Hlt : Hid (decide (rr < b) = true) := hH (by simpa using hlt)
     have hmm := step_less a b i H0.out (by rw [← Hr0.out, ← Hb0.out]; omega)
     rw [← Hr0.out, ← Hb0.out, ← Hq.out] at hmm
     have HM := hH hmm
     have HRR := hH hrr
     clear hmm hov hlt hrr
     go_upto_region 4 with (fail)
     refine cP ?_
     refine cN ?_
     refine cX ?_ ?_ (by intro wz hSw; obtain ⟨q0, q1, q2, q3⟩ := c4 (B3.y hSw.1); go_simp; all_goals with_reducible rfl) ?_
     refine cC ?_ ?_ ?_ ?_ ?hc12_1 ?_
     case hc12_1 => (intro w hSw; exact wideNeg_U r false Hr.out Hov.out w)
     refine cW ?_ ?_ ?_
     refine calm_end ?_
     intro w1 hS
     have hS := sO hS
     have B0 := B0.y hS
     have B1 := B1.y hS
     have B2 := B2.y hS
     have B3 := B3.y hS
     have hz1 : wr.heap.size ≤ w1.heap.size := hS.size
     have HB := gS HB hS
     clear hS
     go_upto_region 5 with (fail)
     refine cG ?_
     refine calm_k (b := w.heap.size + 1 + 1 + 1) (o := 0) (st := 11) (ado := .tmp 5) (x := (.tmp 24)) (u := U rr) (by kernel_rfl) B3 (by rfl) size_wide (by first | exact wI_one _ | exact U_one _) (by first | exact Nat.le_refl _ | (simp; done) | decide) ?_
     refine cX ?_ ?_ (by intro wz hSw; obtain ⟨q0, q1, q2, q3⟩ := c4 (show Blk wz (w.heap.size + 1 + 1 + 1) (uL r) 60 from hSw.2 _ (List.mem_cons_self ..) rfl ⟨_, rfl, by kernel_rfl⟩); go_simp; all_goals with_reducible rfl) ?_
     refine cX ?_ ?_ (by intro wz hSw; obtain ⟨q0, q1, q2, q3⟩ := c4 (show Blk wz (w.heap.size + 1 + 1 + 1) (uL r) 60 from hSw.2 _ (List.mem_cons_self ..) rfl ⟨_, rfl, by kernel_rfl⟩); go_simp; all_goals with_reducible rfl) ?_
     refine cW ?_ ?_ ?_
     refine cW ?_ ?_ ?_
     refine cW ?_ ?_ ?_
     refine cX ?_ ?_ (by intro wz hSw; have q0 := (B0.y hSw.1).cell (uL_at a wd hwd); go_simp; all_goals with_reducible rfl) ?_
     refine cW ?_ ?_ ?_
     refine cW ?_ ?_ ?_
     refine cW ?_ ?_ ?_
     refine cW ?_ ?_ ?_
     refine cC ?_ ?_ ?_ ?_ ?hc13_10 ?_
     case hc13_10 => (intro w hSw; exact widePlus_U r r bt rr Hbt.out Hrr.out w)
     refine cB ?_
     refine calm_end ?_
     refine ⟨(by rfl), (by rfl), fun w2 hS D0 => ?_⟩
     have B0 := B0.y hS
     have B1 := B1.y hS
     have B2 := B2.y hS
     have B3 : Blk w2 (w.heap.size + 1 + 1 + 1) (uL rr) 60 := blk_whole D0 rfl
     have hz2 : w1.heap.size ≤ w2.heap.size := hS.size
     have HB := gS HB hS
     clear hS D0
     go_upto_region 6 with (fail)
     refine cP ?_
     refine calm_k (b := w.heap.size + 1 + 1) (o := 0) (st := 3) (ado := .tmp 4) (x := (.tmp 27)) (u := U (2 * q)) (by kernel_rfl) B2 (by rfl) size_wide (by first | exact wI_one _ | exact U_one _) (by first | exact Nat.le_refl _ | (simp; done) | decide) ?_
     refine cX ?_ ?_ (by intro wz hSw; obtain ⟨q0, q1, q2, q3⟩ := c4 (show Blk wz (w.heap.size + 1 + 1) (uL q) 60 from hSw.2 _ (List.mem_cons_self ..) rfl ⟨_, rfl, by kernel_rfl⟩); go_simp; all_goals with_reducible rfl) ?_
     refine cX ?_ ?_ (by intro wz hSw; obtain ⟨q0, q1, q2, q3⟩ := c4 (show Blk wz (w.heap.size + 1 + 1) (uL q) 60 from hSw.2 _ (List.mem_cons_self ..) rfl ⟨_, rfl, by kernel_rfl⟩); go_simp; all_goals with_reducible rfl) ?_
     refine cC ?_ ?_ ?_ ?_ ?hc14_2 ?_
     case hc14_2 => (intro w hSw; exact widePlus_U q q 0 (2 * q) (by omega) Hqq.out w)
     refine cB ?_
     refine calm_end ?_
     refine ⟨(by rfl), (by rfl), fun w3 hS D0 => ?_⟩
     have B0 := B0.y hS
     have B1 := B1.y hS
     have B3 := B3.y hS
     have B2 : Blk w3 (w.heap.size + 1 + 1) (uL (2 * q)) 60 := blk_whole D0 rfl
     have hz3 : w2.heap.size ≤ w3.heap.size := hS.size
     have HB := gS HB hS
     clear hS D0
     go_upto_region 7 with (fail)
     refine cP ?_
     refine cN ?_
     refine cW ?_ ?_ ?_
     refine cW ?_ ?_ ?_
     refine cX ?_ ?_ (by intro wz hSw; obtain ⟨q0, q1, q2, q3⟩ := c4 (B3.y hSw.1); go_simp; all_goals with_reducible rfl) ?_
     refine cX ?_ ?_ (by intro wz hSw; obtain ⟨q0, q1, q2, q3⟩ := c4 (B1.y hSw.1); go_simp; all_goals with_reducible rfl) ?_
     refine cC ?_ ?_ ?_ ?_ ?hc15_4 ?_
     case hc15_4 => (intro w hSw; exact wideBelow_U rr b true Hrl.out HB4.out Hlt.out w)
     refine cW ?_ ?_ ?_
     refine cW ?_ ?_ ?_
     refine calm_end ?_
     intro w4 hS
     have hS := sO hS
     have B0 := B0.y hS
     have B1 := B1.y hS
     have B2 := B2.y hS
     have B3 := B3.y hS
     have hz4 : w3.heap.size ≤ w4.heap.size := hS.size
     have HB := gS HB hS
     clear hS
     go_wp2_with fail
     go_roundg i
     case measure => omega
     case rel => exact ⟨by omega, rfl, B0, B1, by rw [HM.out.1]; exact B2, by rw [HM.out.2, ← HRR.out]; exact B3, HB, by omega⟩
    ·have Hlt : Hid (decide (rr < b) = false) := hH (by simpa using hlt)
     have hmm := step_more a b i H0.out (by rw [← Hr0.out, ← Hb0.out]; omega)
     rw [← Hr0.out, ← Hb0.out, ← Hq.out] at hmm
     obtain ⟨r2, Hr20⟩ : ∃ r2, Hid (r2 = 2 * r + bt - b) := ⟨_, hH rfl⟩
     have Hr2 : Hid ((rr + (B4 - 1 - b) + 1) % B4 = r2 % B4) := hH (by
      simp only [B4]; rw [Hr20.out]; omega)
     have HM := hH hmm
     clear hmm hov hlt hrr
     go_upto_region 4 with (fail)
     refine cP ?_
     refine cN ?_
     refine cX ?_ ?_ (by intro wz hSw; obtain ⟨q0, q1, q2, q3⟩ := c4 (B3.y hSw.1); go_simp; all_goals with_reducible rfl) ?_
     refine cC ?_ ?_ ?_ ?_ ?hc7_1 ?_
     case hc7_1 => (intro w hSw; exact wideNeg_U r false Hr.out Hov.out w)
     refine cW ?_ ?_ ?_
     refine calm_end ?_
     intro w1 hS
     have hS := sO hS
     have B0 := B0.y hS
     have B1 := B1.y hS
     have B2 := B2.y hS
     have B3 := B3.y hS
     have hz1 : wr.heap.size ≤ w1.heap.size := hS.size
     have HB := gS HB hS
     clear hS
     go_upto_region 5 with (fail)
     refine cG ?_
     refine calm_k (b := w.heap.size + 1 + 1 + 1) (o := 0) (st := 11) (ado := .tmp 5) (x := (.tmp 24)) (u := U rr) (by kernel_rfl) B3 (by rfl) size_wide (by first | exact wI_one _ | exact U_one _) (by first | exact Nat.le_refl _ | (simp; done) | decide) ?_
     refine cX ?_ ?_ (by intro wz hSw; obtain ⟨q0, q1, q2, q3⟩ := c4 (show Blk wz (w.heap.size + 1 + 1 + 1) (uL r) 60 from hSw.2 _ (List.mem_cons_self ..) rfl ⟨_, rfl, by kernel_rfl⟩); go_simp; all_goals with_reducible rfl) ?_
     refine cX ?_ ?_ (by intro wz hSw; obtain ⟨q0, q1, q2, q3⟩ := c4 (show Blk wz (w.heap.size + 1 + 1 + 1) (uL r) 60 from hSw.2 _ (List.mem_cons_self ..) rfl ⟨_, rfl, by kernel_rfl⟩); go_simp; all_goals with_reducible rfl) ?_
     refine cW ?_ ?_ ?_
     refine cW ?_ ?_ ?_
     refine cW ?_ ?_ ?_
     refine cX ?_ ?_ (by intro wz hSw; have q0 := (B0.y hSw.1).cell (uL_at a wd hwd); go_simp; all_goals with_reducible rfl) ?_
     refine cW ?_ ?_ ?_
     refine cW ?_ ?_ ?_
     refine cW ?_ ?_ ?_
     refine cW ?_ ?_ ?_
     refine cC ?_ ?_ ?_ ?_ ?hc8_10 ?_
     case hc8_10 => (intro w hSw; exact widePlus_U r r bt rr Hbt.out Hrr.out w)
     refine cB ?_
     refine calm_end ?_
     refine ⟨(by rfl), (by rfl), fun w2 hS D0 => ?_⟩
     have B0 := B0.y hS
     have B1 := B1.y hS
     have B2 := B2.y hS
     have B3 : Blk w2 (w.heap.size + 1 + 1 + 1) (uL rr) 60 := blk_whole D0 rfl
     have hz2 : w1.heap.size ≤ w2.heap.size := hS.size
     have HB := gS HB hS
     clear hS D0
     go_upto_region 6 with (fail)
     refine cP ?_
     refine calm_k (b := w.heap.size + 1 + 1) (o := 0) (st := 3) (ado := .tmp 4) (x := (.tmp 27)) (u := U (2 * q)) (by kernel_rfl) B2 (by rfl) size_wide (by first | exact wI_one _ | exact U_one _) (by first | exact Nat.le_refl _ | (simp; done) | decide) ?_
     refine cX ?_ ?_ (by intro wz hSw; obtain ⟨q0, q1, q2, q3⟩ := c4 (show Blk wz (w.heap.size + 1 + 1) (uL q) 60 from hSw.2 _ (List.mem_cons_self ..) rfl ⟨_, rfl, by kernel_rfl⟩); go_simp; all_goals with_reducible rfl) ?_
     refine cX ?_ ?_ (by intro wz hSw; obtain ⟨q0, q1, q2, q3⟩ := c4 (show Blk wz (w.heap.size + 1 + 1) (uL q) 60 from hSw.2 _ (List.mem_cons_self ..) rfl ⟨_, rfl, by kernel_rfl⟩); go_simp; all_goals with_reducible rfl) ?_
     refine cC ?_ ?_ ?_ ?_ ?hc9_2 ?_
     case hc9_2 => (intro w hSw; exact widePlus_U q q 0 (2 * q) (by omega) Hqq.out w)
     refine cB ?_
     refine calm_end ?_
     refine ⟨(by rfl), (by rfl), fun w3 hS D0 => ?_⟩
     have B0 := B0.y hS
     have B1 := B1.y hS
     have B3 := B3.y hS
     have B2 : Blk w3 (w.heap.size + 1 + 1) (uL (2 * q)) 60 := blk_whole D0 rfl
     have hz3 : w2.heap.size ≤ w3.heap.size := hS.size
     have HB := gS HB hS
     clear hS D0
     go_upto_region 7 with (fail)
     refine cP ?_
     refine cN ?_
     refine cW ?_ ?_ ?_
     refine cW ?_ ?_ ?_
     refine cX ?_ ?_ (by intro wz hSw; obtain ⟨q0, q1, q2, q3⟩ := c4 (B3.y hSw.1); go_simp; all_goals with_reducible rfl) ?_
     refine cX ?_ ?_ (by intro wz hSw; obtain ⟨q0, q1, q2, q3⟩ := c4 (B1.y hSw.1); go_simp; all_goals with_reducible rfl) ?_
     refine cC ?_ ?_ ?_ ?_ ?hc10_4 ?_
     case hc10_4 => (intro w hSw; exact wideBelow_U rr b false Hrl.out HB4.out Hlt.out w)
     refine cW ?_ ?_ ?_
     refine cW ?_ ?_ ?_
     refine calm_end ?_
     intro w4 hS
     have hS := sO hS
     have B0 := B0.y hS
     have B1 := B1.y hS
     have B2 := B2.y hS
     have B3 := B3.y hS
     have hz4 : w3.heap.size ≤ w4.heap.size := hS.size
     have HB := gS HB hS
     clear hS
     go_upto_region 8 with (fail)
     refine cG ?_
     refine calm_k (b := w.heap.size + 1 + 1 + 1) (o := 0) (st := 4) (ado := .tmp 5) (x := (.tmp 38)) (u := U r2) (by kernel_rfl) B3 (by rfl) size_wide (by first | exact wI_one _ | exact U_one _) (by first | exact Nat.le_refl _ | (simp; done) | decide) ?_
     refine cX ?_ ?_ (by intro wz hSw; obtain ⟨q0, q1, q2, q3⟩ := c4 (show Blk wz (w.heap.size + 1 + 1 + 1) (uL rr) 60 from hSw.2 _ (List.mem_cons_self ..) rfl ⟨_, rfl, by kernel_rfl⟩); go_simp; all_goals with_reducible rfl) ?_
     refine cX ?_ ?_ (by intro wz hSw; obtain ⟨q0, q1, q2, q3⟩ := c4 (B1.y hSw.1); go_simp; all_goals with_reducible rfl) ?_
     refine cC ?_ ?_ ?_ ?_ ?hc11_2 ?_
     case hc11_2 => (intro w hSw; exact wideTurned_U b HB4.out w)
     refine cC ?_ ?_ ?_ ?_ ?hc11_3 ?_
     case hc11_3 => (intro w hSw; exact widePlus_U rr (B4 - 1 - b) 1 r2 (by omega) Hr2.out w)
     refine cB ?_
     refine calm_end ?_
     refine ⟨(by rfl), (by rfl), fun w5 hS D0 => ?_⟩
     have B0 := B0.y hS
     have B1 := B1.y hS
     have B2 := B2.y hS
     have B3 : Blk w5 (w.heap.size + 1 + 1 + 1) (uL r2) 60 := blk_whole D0 rfl
     have hz5 : w4.heap.size ≤ w5.heap.size := hS.size
     have HB := gS HB hS
     clear hS D0
     obtain ⟨q0, q1, q2, q3⟩ := c4 B2
     have f0 : ∀ j, w5.frozen? ⟨w.heap.size + 1 + 1, j, none⟩ = false := fun j => B2.frozen j
     have hor := or_one q
     go_wp2_with fail
     have K2 := B2.set 0 (u64 (lb (2 * q) 0 + 1))
     rw [uL_odd] at K2
     have K0 := B0.other ⟨w.heap.size + 1 + 1, 0, none⟩ (by show w.heap.size ≠ w.heap.size + 1 + 1; omega) (u64 (lb (2 * q) 0 + 1))
     have K1 := B1.other ⟨w.heap.size + 1 + 1, 0, none⟩ (by show w.heap.size + 1 ≠ w.heap.size + 1 + 1; omega) (u64 (lb (2 * q) 0 + 1))
     have K3 := B3.other ⟨w.heap.size + 1 + 1, 0, none⟩ (by show w.heap.size + 1 + 1 + 1 ≠ w.heap.size + 1 + 1; omega) (u64 (lb (2 * q) 0 + 1))
     have KB := HB.setCell (p := ⟨w.heap.size + 1 + 1, 0, none⟩) (by show w.heap.size ≤ w.heap.size + 1 + 1; omega) (u64 (lb (2 * q) 0 + 1))
     go_roundg i
     case measure => omega
     case rel => exact ⟨by omega, rfl, K0, K1, by rw [HM.out.1]; exact K2, by rw [HM.out.2, ← Hr20.out]; exact K3, KB, by simp [World.setCell]; omega⟩
end Go.Proofs.YthbplhglfjlngaaGreat
namespace Go.Proofs.YthbplhglfjlngaaGreat
open Go.RowKit Go.Rg Go.Wd
attribute [local go_sem] Oper.semAt_some
theorem eqIn_UZ (n : Nat) (hn : n < B4) (b : Bool) (h : decide (n = 0) = b) (w : World) : (Op.equalIn 10000 60 (U n) (.agg #[.int .u64 0, .int .u64 0, .int .u64 0, .int .u64 0])).run Tryz.prog w = .ok b w := by
 have := eqIn_U n 0 hn (by decide) w
 rw [h] at this; exact this
theorem divided_b (a b q r : Nat) (ha : a < B4) (hb : b < B4) (h0 : 0 < b) (hq : q = a / b) (hr : r = a % b) (w : World) :
  Calls Tryz.prog 107 #[U a, U b] w fun e w' => e = .returned (.tuple #[U q, U r]) ∧ Below w.heap.size w w' := by
 subst hq hr; exact wideDivided_any a b ha hb h0 w
theorem size_b (z : Int) (n : Nat) (hz : Fit z) (h : n = z.natAbs) (w : World) :
  Calls Tryz.prog 101 #[wI z] w fun e w' => e = .returned (U n) ∧ Below w.heap.size w w' := by
 subst h; exact wideSize_any z hz w
set_option maxHeartbeats 1000000 in
theorem wideDiv_pos (x y z r : Int) (hx : Fit x) (hy : Fit y) (h0 : 0 < y) (hx0 : 0 ≤ x) (hz : z = x / y) (hr : r = x % y) (w : World) :
  Calls Tryz.prog 93 #[wI x, wI y] w fun e w' => e = .returned (.tuple #[wI z, wI r, .bool true]) ∧ Below w.heap.size w w' := by
 obtain ⟨W0, hW0⟩ : ∃ W0, [.cells #[u64 (lb (tc x) 0), u64 (lb (tc x) 1), u64 (lb (tc x) 2), u64 (lb (tc x) 3)] 60, .cells #[u64 (lb (tc y) 0), u64 (lb (tc y) 1), u64 (lb (tc y) 2), u64 (lb (tc y) 3)] 60, .cells #[.int .u64 0, .int .u64 0, .int .u64 0, .int .u64 0] 60, .cells #[.int .u64 0, .int .u64 0, .int .u64 0, .int .u64 0] 60].foldl World.alloc w = W0 := ⟨_, rfl⟩
 have B0 : Blk W0 (w.heap.size) (uL (tc x)) 60 := Blk.allocs _ hW0 0 rfl
 have B1 : Blk W0 (w.heap.size + 1) (uL (tc y)) 60 := Blk.allocs _ hW0 1 rfl
 have B2 : Blk W0 (w.heap.size + 1 + 1) (uL 0) 60 := Blk.allocs _ hW0 2 rfl
 have B3 : Blk W0 (w.heap.size + 1 + 1 + 1) (uL 0) 60 := Blk.allocs _ hW0 3 rfl
 have HB := aB hW0
 have hsz : w.heap.size + 4 ≤ W0.heap.size := aZ hW0
 simp only [List.foldl_cons, List.foldl_nil] at hW0
 obtain ⟨a, Ha⟩ : ∃ a : Nat, Hid (a = x.natAbs) := ⟨_, hH rfl⟩
 obtain ⟨b, Hb⟩ : ∃ b : Nat, Hid (b = y.natAbs) := ⟨_, hH rfl⟩
 have HA : Hid (a < B4) := hH (by rw [Ha.out]; exact natAbs_lt hx)
 have HB4 : Hid (b < B4) := hH (by rw [Hb.out]; exact natAbs_lt hy)
 have Hb0 : Hid (0 < b) := hH (by have := Hb.out; omega)
 obtain ⟨n, Hn⟩ : ∃ n : Nat, Hid (n = a / b) := ⟨_, hH rfl⟩
 obtain ⟨m, Hm⟩ : ∃ m : Nat, Hid (m = a % b) := ⟨_, hH rfl⟩
 have hdm : b * n + m = a := by rw [Hn.out, Hm.out]; exact Nat.div_add_mod a b
 have hmb : m < b := by rw [Hm.out]; exact Nat.mod_lt _ Hb0.out
 have hna : n ≤ a := by rw [Hn.out]; exact Nat.div_le_self _ _
 have hab : (b : Int) = y := by have := Hb.out; omega
 have haa : (a : Int) = x := by have := Ha.out; omega
 have hcast : (b : Int) * (n : Int) + (m : Int) = (a : Int) := by exact_mod_cast hdm
 have haB := HA.out
 have hbB := HB4.out
 have hfx := hx
 have hfy := hy
 unfold Fit at hfx hfy
 simp only [H4, B4] at hfx hfy haB hbB
 have hnb : n + 1 ≤ a + 1 := by omega
 have Hz : Hid (z = (n : Int) ∧ r = (m : Int)) := hH (by
  have e : x = (m : Int) + y * (n : Int) := by rw [← hab, ← haa]; omega
  have hm0 : (0 : Int) ≤ (m : Int) := by omega
  have hmy : (m : Int) < y := by omega
  refine ⟨?_, ?_⟩
  ·rw [hz, e, Int.add_mul_ediv_left _ _ (by omega), Int.ediv_eq_zero_of_lt hm0 hmy]; omega
  ·rw [hr, e, Int.add_mul_emod_self_left, Int.emod_eq_of_lt hm0 hmy])
 have Hsz : Hid (Fit z) := hH (by rw [Hz.out.1]; unfold Fit; simp only [H4]; omega)
 have Hsr : Hid (Fit r) := hH (by rw [Hz.out.2]; unfold Fit; simp only [H4]; omega)
 have HnB : Hid (n < B4) := hH (by simp only [B4]; omega)
 have HmB : Hid (m < B4) := hH (by simp only [B4]; omega)
 have Hm1 : Hid (m < B4) := hH (by simp only [B4]; omega)
 have HnB1 : Hid (n < B4) := hH (by simp only [B4]; omega)
 have hbx : decide (x < 0) = false := by simp; omega
 have hby : decide (y < 0) = false := by simp; omega
 have hy0 : decide (y = 0) = false := by simp; omega
 have HX := hH hx
 have HY := hH hy
 clear hdm hmb hna hab haa hcast haB hbB hfx hfy hnb hx hy h0 hx0 hz hr
 go_enter Tryz.func93, Tryz.ntmps93
 unfold wI U
 go_upto_region 1 with (fail)
 clear hW0
 refine cP ?_
 refine cN ?_
 refine cX ?_ ?_ (by intro wz hSw; obtain ⟨q0, q1, q2, q3⟩ := c4 (B1.y hSw.1); go_simp; all_goals with_reducible rfl) ?_
 refine cW ?_ ?_ ?_
 refine cX ?_ ?_ (by intro wz hSw; have he := eqIn_Z y HY.out false hy0 wz; go_simp; all_goals with_reducible rfl) ?_
 refine calm_end ?_
 intro w1 hS
 have hS := sO hS
 have B0 := B0.y hS
 have B1 := B1.y hS
 have B2 := B2.y hS
 have B3 := B3.y hS
 have hz1 : W0.heap.size ≤ w1.heap.size := hS.size
 have HB := gS HB hS
 clear hS
 go_upto_region 3 with (fail)
 refine cG ?_
 refine calm_aa (k := 8) (d := 7) (st := 10) (x := (.tmp 21)) (u := U n) (T := 60) (k' := 9) (d' := 8) (st' := 11) (x' := (.tmp 22)) (u' := U m) (T' := 60) (by kernel_rfl) (by rfl) (by rfl) info_wide rfl rfl (by first | exact wI_one _ | exact U_one _) (by rfl) (by rfl) info_wide rfl rfl (by first | exact wI_one _ | exact U_one _) ?_
 refine cX ?_ ?_ (by intro wz hSw; obtain ⟨q0, q1, q2, q3⟩ := c4 (B0.y hSw.1); go_simp; all_goals with_reducible rfl) ?_
 refine cC ?_ ?_ ?_ ?_ ?hc2_1 ?_
 case hc2_1 => (intro w hSw; exact size_b x a HX.out Ha.out w)
 refine cX ?_ ?_ (by intro wz hSw; obtain ⟨q0, q1, q2, q3⟩ := c4 (B1.y hSw.1); go_simp; all_goals with_reducible rfl) ?_
 refine cC ?_ ?_ ?_ ?_ ?hc2_3 ?_
 case hc2_3 => (intro w hSw; exact size_b y b HY.out Hb.out w)
 refine cC ?_ ?_ ?_ ?_ ?hc2_4 ?_
 case hc2_4 => (intro w hSw; exact divided_b a b n m HA.out HB4.out Hb0.out Hn.out Hm.out w)
 refine cW ?_ ?_ ?_
 refine cW ?_ ?_ ?_
 refine cW ?_ ?_ ?_
 refine cB ?_
 refine cB ?_
 refine cB ?_
 refine cB ?_
 refine calm_end ?_
 refine ⟨⟨(by rfl), (by rfl)⟩, fun b5 b6 w2 hb5 hb6 hbne6 hS D0 D1 => ?_⟩
 have hl5_0 : w.heap.size < b5 := lL B0.lt hb5
 have hl6_0 : w.heap.size < b6 := lL B0.lt hb6
 have hl5_1 : w.heap.size + 1 < b5 := lL B1.lt hb5
 have hl6_1 : w.heap.size + 1 < b6 := lL B1.lt hb6
 have hl5_2 : w.heap.size + 1 + 1 < b5 := lL B2.lt hb5
 have hl6_2 : w.heap.size + 1 + 1 < b6 := lL B2.lt hb6
 have hl5_3 : w.heap.size + 1 + 1 + 1 < b5 := lL B3.lt hb5
 have hl6_3 : w.heap.size + 1 + 1 + 1 < b6 := lL B3.lt hb6
 have hS := sO hS
 have B0 := B0.y hS
 have B1 := B1.y hS
 have B2 := B2.y hS
 have B3 := B3.y hS
 have B5 : Blk w2 b5 (uL n) 60 := D0
 have B6 : Blk w2 b6 (uL m) 60 := D1
 have hz2 : w1.heap.size ≤ w2.heap.size := hS.size
 have HB := gS HB hS
 clear hS D0 D1
 go_upto_region 4 with (fail)
 refine cG ?_
 refine cN ?_
 refine cX ?_ ?_ (by intro wz hSw; obtain ⟨q0, q1, q2, q3⟩ := c4 (B0.y hSw.1); go_simp; all_goals with_reducible rfl) ?_
 refine cC ?_ ?_ ?_ ?_ ?hc3_1 ?_
 case hc3_1 => (intro w hSw; exact wideNeg_b x false HX.out hbx w)
 refine cX ?_ ?_ (by intro wz hSw; obtain ⟨q0, q1, q2, q3⟩ := c4 (B1.y hSw.1); go_simp; all_goals with_reducible rfl) ?_
 refine cC ?_ ?_ ?_ ?_ ?hc3_3 ?_
 case hc3_3 => (intro w hSw; exact wideNeg_b y false HY.out hby w)
 refine cW ?_ ?_ ?_
 refine cW ?_ ?_ ?_
 refine calm_end ?_
 intro w3 hS
 have hS := sO hS
 have B0 := B0.y hS
 have B1 := B1.y hS
 have B2 := B2.y hS
 have B3 := B3.y hS
 have B5 := B5.y hS
 have B6 := B6.y hS
 have hz3 : w2.heap.size ≤ w3.heap.size := hS.size
 have HB := gS HB hS
 clear hS
 go_upto_region 5 with (fail)
 refine cP ?_
 refine cN ?_
 refine cW ?_ ?_ ?_
 refine cW ?_ ?_ ?_
 refine cS ?_ ?_
 refine cS ?_ ?_
 refine cS ?_ ?_
 refine cW ?_ ?_ ?_
 refine calm_end ?_
 intro w4 hS
 have hS := sO hS
 have B0 := B0.y hS
 have B1 := B1.y hS
 have B2 := B2.y hS
 have B3 := B3.y hS
 have B5 := B5.y hS
 have B6 := B6.y hS
 have hz4 : w3.heap.size ≤ w4.heap.size := hS.size
 have HB := gS HB hS
 clear hS
 go_upto_region 8 with (fail)
 refine cP ?_
 refine calm_k (b := w.heap.size + 1 + 1) (o := 0) (st := 6) (ado := .tmp 4) (x := (.tmp 46)) (u := wI z) (by kernel_rfl) B2 (by rfl) size_wide (by first | exact wI_one _ | exact U_one _) (by first | exact Nat.le_refl _ | (simp; done) | decide) ?_
 refine cX ?_ ?_ (by intro wz hSw; obtain ⟨q0, q1, q2, q3⟩ := c4 (B5.y hSw.1); go_simp; all_goals with_reducible rfl) ?_
 refine cW ?_ ?_ ?_
 refine cC ?_ ?_ ?_ ?_ ?hc5_2 ?_
 case hc5_2 => (intro w hSw; exact wideSigned_any (n) false z HnB.out Hsz.out Hz.out.1 w)
 refine cW ?_ ?_ ?_
 refine cW ?_ ?_ ?_
 refine cW ?_ ?_ ?_
 refine cB ?_
 refine cW ?_ ?_ ?_
 refine calm_end ?_
 refine ⟨(by rfl), (by rfl), fun w5 hS D0 => ?_⟩
 have B0 := B0.y hS
 have B1 := B1.y hS
 have B3 := B3.y hS
 have B5 := B5.y hS
 have B6 := B6.y hS
 have B2 : Blk w5 (w.heap.size + 1 + 1) (uL (tc z)) 60 := blk_whole D0 rfl
 have hz5 : w4.heap.size ≤ w5.heap.size := hS.size
 have HB := gS HB hS
 clear hS D0
 go_upto_region 11 with (fail)
 refine cG ?_
 refine calm_k (b := w.heap.size + 1 + 1 + 1) (o := 0) (st := 7) (ado := .tmp 5) (x := (.tmp 57)) (u := wI r) (by kernel_rfl) B3 (by rfl) size_wide (by first | exact wI_one _ | exact U_one _) (by first | exact Nat.le_refl _ | (simp; done) | decide) ?_
 refine cX ?_ ?_ (by intro wz hSw; obtain ⟨q0, q1, q2, q3⟩ := c4 (B6.y hSw.1); go_simp; all_goals with_reducible rfl) ?_
 refine cX ?_ ?_ (by intro wz hSw; obtain ⟨q0, q1, q2, q3⟩ := c4 (B1.y hSw.1); go_simp; all_goals with_reducible rfl) ?_
 refine cC ?_ ?_ ?_ ?_ ?hc6_2 ?_
 case hc6_2 => (intro w hSw; exact wideNeg_b y false HY.out hby w)
 refine cC ?_ ?_ ?_ ?_ ?hc6_3 ?_
 case hc6_3 => (intro w hSw; exact wideSigned_any m false r HmB.out Hsr.out Hz.out.2 w)
 refine cW ?_ ?_ ?_
 refine cW ?_ ?_ ?_
 refine cW ?_ ?_ ?_
 refine cB ?_
 refine cW ?_ ?_ ?_
 refine calm_end ?_
 refine ⟨(by rfl), (by rfl), fun w6 hS D0 => ?_⟩
 have B0 := B0.y hS
 have B1 := B1.y hS
 have B2 := B2.y hS
 have B5 := B5.y hS
 have B6 := B6.y hS
 have B3 : Blk w6 (w.heap.size + 1 + 1 + 1) (uL (tc r)) 60 := blk_whole D0 rfl
 have hz6 : w5.heap.size ≤ w6.heap.size := hS.size
 have HB := gS HB hS
 clear hS D0
 go_upto_region 12 with (fail)
 refine cG ?_
 refine calm_kk (b := w.heap.size + 1 + 1) (o := 0) (st := 3) (ado := .tmp 4) (x := (.tmp 59)) (u := wI z) (b' := w.heap.size + 1 + 1 + 1) (o' := 0) (st' := 4) (ado' := .tmp 5) (x' := (.tmp 60)) (u' := wI r) (by kernel_rfl) B2 B3 (by omega) (by rfl) size_wide (by first | exact wI_one _ | exact U_one _) (by first | exact Nat.le_refl _ | (simp; done) | decide) (by rfl) size_wide (by first | exact wI_one _ | exact U_one _) (by first | exact Nat.le_refl _ | (simp; done) | decide) ?_
 refine cX ?_ ?_ (by intro wz hSw; obtain ⟨q0, q1, q2, q3⟩ := c4 (show Blk wz (w.heap.size + 1 + 1) (uL (tc z)) 60 from hSw.2 _ (List.mem_cons_self ..) rfl ⟨_, rfl, by kernel_rfl⟩); go_simp; all_goals with_reducible rfl) ?_
 refine cX ?_ ?_ (by intro wz hSw; obtain ⟨q0, q1, q2, q3⟩ := c4 (show Blk wz (w.heap.size + 1 + 1 + 1) (uL (tc r)) 60 from hSw.2 _ (List.mem_cons_of_mem _ (List.mem_singleton.2 rfl)) rfl ⟨_, rfl, by kernel_rfl⟩); go_simp; all_goals with_reducible rfl) ?_
 refine cW ?_ ?_ ?_
 refine cB ?_
 refine cB ?_
 refine cW ?_ ?_ ?_
 refine calm_end ?_
 refine ⟨⟨⟨(by rfl), (by rfl)⟩, ⟨(by rfl), (by rfl)⟩⟩, fun w7 hS D0 D1 => ?_⟩
 have B0 := B0.y hS
 have B1 := B1.y hS
 have B5 := B5.y hS
 have B6 := B6.y hS
 have B2 : Blk w7 (w.heap.size + 1 + 1) (uL (tc z)) 60 := blk_whole D0 rfl
 have B3 : Blk w7 (w.heap.size + 1 + 1 + 1) (uL (tc r)) 60 := blk_whole D1 rfl
 have hz7 : w6.heap.size ≤ w7.heap.size := hS.size
 have HB := gS HB hS
 clear hS D0 D1
 go_wp2_with fail
 obtain ⟨s0_0, s0_1, s0_2, s0_3⟩ := c4 (B2)
 obtain ⟨s1_0, s1_1, s1_2, s1_3⟩ := c4 (B3)
 refine bodyPost_ret (v := .tuple #[wI z, wI r, .bool true]) (by simp [results, Tryz.results93, go_sem, s0_0, s0_1, s0_2, s0_3, s1_0, s1_1, s1_2, s1_3]) rfl ⟨rfl, HB⟩
set_option maxHeartbeats 1000000 in
theorem wideDiv_even (x y z r : Int) (hx : Fit x) (hy : Fit y) (h0 : 0 < y) (hx0 : x < 0) (hm : x.natAbs % y.natAbs = 0) (hz : z = x / y) (hr : r = x % y) (w : World) :
  Calls Tryz.prog 93 #[wI x, wI y] w fun e w' => e = .returned (.tuple #[wI z, wI r, .bool true]) ∧ Below w.heap.size w w' := by
 obtain ⟨W0, hW0⟩ : ∃ W0, [.cells #[u64 (lb (tc x) 0), u64 (lb (tc x) 1), u64 (lb (tc x) 2), u64 (lb (tc x) 3)] 60, .cells #[u64 (lb (tc y) 0), u64 (lb (tc y) 1), u64 (lb (tc y) 2), u64 (lb (tc y) 3)] 60, .cells #[.int .u64 0, .int .u64 0, .int .u64 0, .int .u64 0] 60, .cells #[.int .u64 0, .int .u64 0, .int .u64 0, .int .u64 0] 60].foldl World.alloc w = W0 := ⟨_, rfl⟩
 have B0 : Blk W0 (w.heap.size) (uL (tc x)) 60 := Blk.allocs _ hW0 0 rfl
 have B1 : Blk W0 (w.heap.size + 1) (uL (tc y)) 60 := Blk.allocs _ hW0 1 rfl
 have B2 : Blk W0 (w.heap.size + 1 + 1) (uL 0) 60 := Blk.allocs _ hW0 2 rfl
 have B3 : Blk W0 (w.heap.size + 1 + 1 + 1) (uL 0) 60 := Blk.allocs _ hW0 3 rfl
 have HB := aB hW0
 have hsz : w.heap.size + 4 ≤ W0.heap.size := aZ hW0
 simp only [List.foldl_cons, List.foldl_nil] at hW0
 obtain ⟨a, Ha⟩ : ∃ a : Nat, Hid (a = x.natAbs) := ⟨_, hH rfl⟩
 obtain ⟨b, Hb⟩ : ∃ b : Nat, Hid (b = y.natAbs) := ⟨_, hH rfl⟩
 have HA : Hid (a < B4) := hH (by rw [Ha.out]; exact natAbs_lt hx)
 have HB4 : Hid (b < B4) := hH (by rw [Hb.out]; exact natAbs_lt hy)
 have Hb0 : Hid (0 < b) := hH (by have := Hb.out; omega)
 obtain ⟨n, Hn⟩ : ∃ n : Nat, Hid (n = a / b) := ⟨_, hH rfl⟩
 obtain ⟨m, Hm⟩ : ∃ m : Nat, Hid (m = a % b) := ⟨_, hH rfl⟩
 have hmm := hm
 rw [← Ha.out, ← Hb.out, ← Hm.out] at hmm
 have hdm : b * n + m = a := by rw [Hn.out, Hm.out]; exact Nat.div_add_mod a b
 have hmb : m < b := by rw [Hm.out]; exact Nat.mod_lt _ Hb0.out
 have hna : n ≤ a := by rw [Hn.out]; exact Nat.div_le_self _ _
 have hab : (b : Int) = y := by have := Hb.out; omega
 have haa : (a : Int) = -x := by have := Ha.out; omega
 have hcast : (b : Int) * (n : Int) + (m : Int) = (a : Int) := by exact_mod_cast hdm
 have haB := HA.out
 have hbB := HB4.out
 have hfx := hx
 have hfy := hy
 unfold Fit at hfx hfy
 simp only [H4, B4] at hfx hfy haB hbB
 have hnb : n + 1 ≤ a + 1 := by omega
 have Hz : Hid (z = -(n : Int) ∧ r = (m : Int)) := hH (by
  have e : x = 0 + y * (-(n : Int)) := by
   have h3 : m = 0 := by omega
   rw [Int.mul_neg, ← hab]; subst h3; omega
  refine ⟨?_, ?_⟩
  ·rw [hz, e, Int.add_mul_ediv_left _ _ (by omega)]; simp
  ·rw [hr, e, Int.add_mul_emod_self_left]; simp; omega)
 have Hsz : Hid (Fit z) := hH (by rw [Hz.out.1]; unfold Fit; simp only [H4]; omega)
 have Hsr : Hid (Fit r) := hH (by rw [Hz.out.2]; unfold Fit; simp only [H4]; omega)
 have HnB : Hid (n < B4) := hH (by simp only [B4]; omega)
 have HmB : Hid (m < B4) := hH (by simp only [B4]; omega)
 have Hm1 : Hid (m < B4) := hH (by simp only [B4]; omega)
 have HnB1 : Hid (n < B4) := hH (by simp only [B4]; omega)
 have hbx : decide (x < 0) = true := by simp; omega
 have hby : decide (y < 0) = false := by simp; omega
 have hy0 : decide (y = 0) = false := by simp; omega
 have HX := hH hx
 have HY := hH hy
 have hm0 : decide (m = 0) = true := by simp; omega
 clear hmm hdm hmb hna hab haa hcast haB hbB hfx hfy hnb hx hy h0 hx0 hz hr hm
 go_enter Tryz.func93, Tryz.ntmps93
 unfold wI U
 go_upto_region 1 with (fail)
 clear hW0
 refine cP ?_
 refine cN ?_
 refine cX ?_ ?_ (by intro wz hSw; obtain ⟨q0, q1, q2, q3⟩ := c4 (B1.y hSw.1); go_simp; all_goals with_reducible rfl) ?_
 refine cW ?_ ?_ ?_
 refine cX ?_ ?_ (by intro wz hSw; have he := eqIn_Z y HY.out false hy0 wz; go_simp; all_goals with_reducible rfl) ?_
 refine calm_end ?_
 intro w1 hS
 have hS := sO hS
 have B0 := B0.y hS
 have B1 := B1.y hS
 have B2 := B2.y hS
 have B3 := B3.y hS
 have hz1 : W0.heap.size ≤ w1.heap.size := hS.size
 have HB := gS HB hS
 clear hS
 go_upto_region 3 with (fail)
 refine cG ?_
 refine calm_aa (k := 8) (d := 7) (st := 10) (x := (.tmp 21)) (u := U n) (T := 60) (k' := 9) (d' := 8) (st' := 11) (x' := (.tmp 22)) (u' := U m) (T' := 60) (by kernel_rfl) (by rfl) (by rfl) info_wide rfl rfl (by first | exact wI_one _ | exact U_one _) (by rfl) (by rfl) info_wide rfl rfl (by first | exact wI_one _ | exact U_one _) ?_
 refine cX ?_ ?_ (by intro wz hSw; obtain ⟨q0, q1, q2, q3⟩ := c4 (B0.y hSw.1); go_simp; all_goals with_reducible rfl) ?_
 refine cC ?_ ?_ ?_ ?_ ?hc9_1 ?_
 case hc9_1 => (intro w hSw; exact size_b x a HX.out Ha.out w)
 refine cX ?_ ?_ (by intro wz hSw; obtain ⟨q0, q1, q2, q3⟩ := c4 (B1.y hSw.1); go_simp; all_goals with_reducible rfl) ?_
 refine cC ?_ ?_ ?_ ?_ ?hc9_3 ?_
 case hc9_3 => (intro w hSw; exact size_b y b HY.out Hb.out w)
 refine cC ?_ ?_ ?_ ?_ ?hc9_4 ?_
 case hc9_4 => (intro w hSw; exact divided_b a b n m HA.out HB4.out Hb0.out Hn.out Hm.out w)
 refine cW ?_ ?_ ?_
 refine cW ?_ ?_ ?_
 refine cW ?_ ?_ ?_
 refine cB ?_
 refine cB ?_
 refine cB ?_
 refine cB ?_
 refine calm_end ?_
 refine ⟨⟨(by rfl), (by rfl)⟩, fun b5 b6 w2 hb5 hb6 hbne6 hS D0 D1 => ?_⟩
 have hl5_0 : w.heap.size < b5 := lL B0.lt hb5
 have hl6_0 : w.heap.size < b6 := lL B0.lt hb6
 have hl5_1 : w.heap.size + 1 < b5 := lL B1.lt hb5
 have hl6_1 : w.heap.size + 1 < b6 := lL B1.lt hb6
 have hl5_2 : w.heap.size + 1 + 1 < b5 := lL B2.lt hb5
 have hl6_2 : w.heap.size + 1 + 1 < b6 := lL B2.lt hb6
 have hl5_3 : w.heap.size + 1 + 1 + 1 < b5 := lL B3.lt hb5
 have hl6_3 : w.heap.size + 1 + 1 + 1 < b6 := lL B3.lt hb6
 have hS := sO hS
 have B0 := B0.y hS
 have B1 := B1.y hS
 have B2 := B2.y hS
 have B3 := B3.y hS
 have B5 : Blk w2 b5 (uL n) 60 := D0
 have B6 : Blk w2 b6 (uL m) 60 := D1
 have hz2 : w1.heap.size ≤ w2.heap.size := hS.size
 have HB := gS HB hS
 clear hS D0 D1
 go_upto_region 4 with (fail)
 refine cG ?_
 refine cN ?_
 refine cX ?_ ?_ (by intro wz hSw; obtain ⟨q0, q1, q2, q3⟩ := c4 (B0.y hSw.1); go_simp; all_goals with_reducible rfl) ?_
 refine cC ?_ ?_ ?_ ?_ ?hc10_1 ?_
 case hc10_1 => (intro w hSw; exact wideNeg_b x true HX.out hbx w)
 refine cX ?_ ?_ (by intro wz hSw; obtain ⟨q0, q1, q2, q3⟩ := c4 (B1.y hSw.1); go_simp; all_goals with_reducible rfl) ?_
 refine cC ?_ ?_ ?_ ?_ ?hc10_3 ?_
 case hc10_3 => (intro w hSw; exact wideNeg_b y false HY.out hby w)
 refine cW ?_ ?_ ?_
 refine cW ?_ ?_ ?_
 refine calm_end ?_
 intro w3 hS
 have hS := sO hS
 have B0 := B0.y hS
 have B1 := B1.y hS
 have B2 := B2.y hS
 have B3 := B3.y hS
 have B5 := B5.y hS
 have B6 := B6.y hS
 have hz3 : w2.heap.size ≤ w3.heap.size := hS.size
 have HB := gS HB hS
 clear hS
 go_upto_region 5 with (fail)
 refine cP ?_
 refine cN ?_
 refine cW ?_ ?_ ?_
 refine cW ?_ ?_ ?_
 refine cX ?_ ?_ (by intro wz hSw; obtain ⟨q0, q1, q2, q3⟩ := c4 (B6.y hSw.1); go_simp; all_goals with_reducible rfl) ?_
 refine cW ?_ ?_ ?_
 refine cX ?_ ?_ (by intro wz hSw; have he := eqIn_UZ m Hm1.out true hm0 wz; go_simp; all_goals with_reducible rfl) ?_
 refine cW ?_ ?_ ?_
 refine calm_end ?_
 intro w4 hS
 have hS := sO hS
 have B0 := B0.y hS
 have B1 := B1.y hS
 have B2 := B2.y hS
 have B3 := B3.y hS
 have B5 := B5.y hS
 have B6 := B6.y hS
 have hz4 : w3.heap.size ≤ w4.heap.size := hS.size
 have HB := gS HB hS
 clear hS
 go_upto_region 8 with (fail)
 refine cP ?_
 refine calm_k (b := w.heap.size + 1 + 1) (o := 0) (st := 6) (ado := .tmp 4) (x := (.tmp 46)) (u := wI z) (by kernel_rfl) B2 (by rfl) size_wide (by first | exact wI_one _ | exact U_one _) (by first | exact Nat.le_refl _ | (simp; done) | decide) ?_
 refine cX ?_ ?_ (by intro wz hSw; obtain ⟨q0, q1, q2, q3⟩ := c4 (B5.y hSw.1); go_simp; all_goals with_reducible rfl) ?_
 refine cW ?_ ?_ ?_
 refine cC ?_ ?_ ?_ ?_ ?hc12_2 ?_
 case hc12_2 => (intro w hSw; exact wideSigned_any (n) true z HnB.out Hsz.out Hz.out.1 w)
 refine cW ?_ ?_ ?_
 refine cW ?_ ?_ ?_
 refine cW ?_ ?_ ?_
 refine cB ?_
 refine cW ?_ ?_ ?_
 refine calm_end ?_
 refine ⟨(by rfl), (by rfl), fun w5 hS D0 => ?_⟩
 have B0 := B0.y hS
 have B1 := B1.y hS
 have B3 := B3.y hS
 have B5 := B5.y hS
 have B6 := B6.y hS
 have B2 : Blk w5 (w.heap.size + 1 + 1) (uL (tc z)) 60 := blk_whole D0 rfl
 have hz5 : w4.heap.size ≤ w5.heap.size := hS.size
 have HB := gS HB hS
 clear hS D0
 go_upto_region 11 with (fail)
 refine cG ?_
 refine calm_k (b := w.heap.size + 1 + 1 + 1) (o := 0) (st := 7) (ado := .tmp 5) (x := (.tmp 57)) (u := wI r) (by kernel_rfl) B3 (by rfl) size_wide (by first | exact wI_one _ | exact U_one _) (by first | exact Nat.le_refl _ | (simp; done) | decide) ?_
 refine cX ?_ ?_ (by intro wz hSw; obtain ⟨q0, q1, q2, q3⟩ := c4 (B6.y hSw.1); go_simp; all_goals with_reducible rfl) ?_
 refine cX ?_ ?_ (by intro wz hSw; obtain ⟨q0, q1, q2, q3⟩ := c4 (B1.y hSw.1); go_simp; all_goals with_reducible rfl) ?_
 refine cC ?_ ?_ ?_ ?_ ?hc13_2 ?_
 case hc13_2 => (intro w hSw; exact wideNeg_b y false HY.out hby w)
 refine cC ?_ ?_ ?_ ?_ ?hc13_3 ?_
 case hc13_3 => (intro w hSw; exact wideSigned_any m false r HmB.out Hsr.out Hz.out.2 w)
 refine cW ?_ ?_ ?_
 refine cW ?_ ?_ ?_
 refine cW ?_ ?_ ?_
 refine cB ?_
 refine cW ?_ ?_ ?_
 refine calm_end ?_
 refine ⟨(by rfl), (by rfl), fun w6 hS D0 => ?_⟩
 have B0 := B0.y hS
 have B1 := B1.y hS
 have B2 := B2.y hS
 have B5 := B5.y hS
 have B6 := B6.y hS
 have B3 : Blk w6 (w.heap.size + 1 + 1 + 1) (uL (tc r)) 60 := blk_whole D0 rfl
 have hz6 : w5.heap.size ≤ w6.heap.size := hS.size
 have HB := gS HB hS
 clear hS D0
 go_upto_region 12 with (fail)
 refine cG ?_
 refine calm_kk (b := w.heap.size + 1 + 1) (o := 0) (st := 3) (ado := .tmp 4) (x := (.tmp 59)) (u := wI z) (b' := w.heap.size + 1 + 1 + 1) (o' := 0) (st' := 4) (ado' := .tmp 5) (x' := (.tmp 60)) (u' := wI r) (by kernel_rfl) B2 B3 (by omega) (by rfl) size_wide (by first | exact wI_one _ | exact U_one _) (by first | exact Nat.le_refl _ | (simp; done) | decide) (by rfl) size_wide (by first | exact wI_one _ | exact U_one _) (by first | exact Nat.le_refl _ | (simp; done) | decide) ?_
 refine cX ?_ ?_ (by intro wz hSw; obtain ⟨q0, q1, q2, q3⟩ := c4 (show Blk wz (w.heap.size + 1 + 1) (uL (tc z)) 60 from hSw.2 _ (List.mem_cons_self ..) rfl ⟨_, rfl, by kernel_rfl⟩); go_simp; all_goals with_reducible rfl) ?_
 refine cX ?_ ?_ (by intro wz hSw; obtain ⟨q0, q1, q2, q3⟩ := c4 (show Blk wz (w.heap.size + 1 + 1 + 1) (uL (tc r)) 60 from hSw.2 _ (List.mem_cons_of_mem _ (List.mem_singleton.2 rfl)) rfl ⟨_, rfl, by kernel_rfl⟩); go_simp; all_goals with_reducible rfl) ?_
 refine cW ?_ ?_ ?_
 refine cB ?_
 refine cB ?_
 refine cW ?_ ?_ ?_
 refine calm_end ?_
 refine ⟨⟨⟨(by rfl), (by rfl)⟩, ⟨(by rfl), (by rfl)⟩⟩, fun w7 hS D0 D1 => ?_⟩
 have B0 := B0.y hS
 have B1 := B1.y hS
 have B5 := B5.y hS
 have B6 := B6.y hS
 have B2 : Blk w7 (w.heap.size + 1 + 1) (uL (tc z)) 60 := blk_whole D0 rfl
 have B3 : Blk w7 (w.heap.size + 1 + 1 + 1) (uL (tc r)) 60 := blk_whole D1 rfl
 have hz7 : w6.heap.size ≤ w7.heap.size := hS.size
 have HB := gS HB hS
 clear hS D0 D1
 go_wp2_with fail
 obtain ⟨s0_0, s0_1, s0_2, s0_3⟩ := c4 (B2)
 obtain ⟨s1_0, s1_1, s1_2, s1_3⟩ := c4 (B3)
 refine bodyPost_ret (v := .tuple #[wI z, wI r, .bool true]) (by simp [results, Tryz.results93, go_sem, s0_0, s0_1, s0_2, s0_3, s1_0, s1_1, s1_2, s1_3]) rfl ⟨rfl, HB⟩
set_option maxHeartbeats 1000000 in
theorem wideDiv_odd (x y z r : Int) (hx : Fit x) (hy : Fit y) (h0 : 0 < y) (hx0 : x < 0) (hm : x.natAbs % y.natAbs ≠ 0) (hz : z = x / y) (hr : r = x % y) (w : World) :
  Calls Tryz.prog 93 #[wI x, wI y] w fun e w' => e = .returned (.tuple #[wI z, wI r, .bool true]) ∧ Below w.heap.size w w' := by
 have Hbm : Hid (∀ (b m : Nat), b < B4 → m < b → (b + (B4 - 1 - m) + 1) % B4 = (b - m) % B4) := hH (fun b m h1 h2 => by simp only [B4] at h1 ⊢; omega)
 obtain ⟨W0, hW0⟩ : ∃ W0, [.cells #[u64 (lb (tc x) 0), u64 (lb (tc x) 1), u64 (lb (tc x) 2), u64 (lb (tc x) 3)] 60, .cells #[u64 (lb (tc y) 0), u64 (lb (tc y) 1), u64 (lb (tc y) 2), u64 (lb (tc y) 3)] 60, .cells #[.int .u64 0, .int .u64 0, .int .u64 0, .int .u64 0] 60, .cells #[.int .u64 0, .int .u64 0, .int .u64 0, .int .u64 0] 60].foldl World.alloc w = W0 := ⟨_, rfl⟩
 have B0 : Blk W0 (w.heap.size) (uL (tc x)) 60 := Blk.allocs _ hW0 0 rfl
 have B1 : Blk W0 (w.heap.size + 1) (uL (tc y)) 60 := Blk.allocs _ hW0 1 rfl
 have B2 : Blk W0 (w.heap.size + 1 + 1) (uL 0) 60 := Blk.allocs _ hW0 2 rfl
 have B3 : Blk W0 (w.heap.size + 1 + 1 + 1) (uL 0) 60 := Blk.allocs _ hW0 3 rfl
 have HB := aB hW0
 have hsz : w.heap.size + 4 ≤ W0.heap.size := aZ hW0
 simp only [List.foldl_cons, List.foldl_nil] at hW0
 obtain ⟨a, Ha⟩ : ∃ a : Nat, Hid (a = x.natAbs) := ⟨_, hH rfl⟩
 obtain ⟨b, Hb⟩ : ∃ b : Nat, Hid (b = y.natAbs) := ⟨_, hH rfl⟩
 have HA : Hid (a < B4) := hH (by rw [Ha.out]; exact natAbs_lt hx)
 have HB4 : Hid (b < B4) := hH (by rw [Hb.out]; exact natAbs_lt hy)
 have Hb0 : Hid (0 < b) := hH (by have := Hb.out; omega)
 obtain ⟨n, Hn⟩ : ∃ n : Nat, Hid (n = a / b) := ⟨_, hH rfl⟩
 obtain ⟨m, Hm⟩ : ∃ m : Nat, Hid (m = a % b) := ⟨_, hH rfl⟩
 have hmm := hm
 rw [← Ha.out, ← Hb.out, ← Hm.out] at hmm
 have hdm : b * n + m = a := by rw [Hn.out, Hm.out]; exact Nat.div_add_mod a b
 have hmb : m < b := by rw [Hm.out]; exact Nat.mod_lt _ Hb0.out
 have hna : n ≤ a := by rw [Hn.out]; exact Nat.div_le_self _ _
 have hab : (b : Int) = y := by have := Hb.out; omega
 have haa : (a : Int) = -x := by have := Ha.out; omega
 have hcast : (b : Int) * (n : Int) + (m : Int) = (a : Int) := by exact_mod_cast hdm
 have haB := HA.out
 have hbB := HB4.out
 have hfx := hx
 have hfy := hy
 unfold Fit at hfx hfy
 simp only [H4, B4] at hfx hfy haB hbB
 have hnb : n + 1 ≤ a + 1 := by omega
 have Hz : Hid (z = -((n + 1 : Nat) : Int) ∧ r = ((b - m : Nat) : Int)) := hH (by
  have e : x = ((b : Int) - (m : Int)) + y * (-((n + 1 : Nat) : Int)) := by
   rw [Int.mul_neg, ← hab, Int.natCast_add, Int.mul_add]; omega
  have hm0 : (0 : Int) ≤ (b : Int) - (m : Int) := by omega
  have hmy : (b : Int) - (m : Int) < y := by omega
  refine ⟨?_, ?_⟩
  ·rw [hz, e, Int.add_mul_ediv_left _ _ (by omega), Int.ediv_eq_zero_of_lt hm0 hmy]; omega
  ·rw [hr, e, Int.add_mul_emod_self_left, Int.emod_eq_of_lt hm0 hmy]; omega)
 have hna2 : n + 1 ≤ a := by
  have : n ≤ b * n := Nat.le_mul_of_pos_left _ Hb0.out
  omega
 have Hsz : Hid (Fit z) := hH (by rw [Hz.out.1]; unfold Fit; simp only [H4]; omega)
 have Hsr : Hid (Fit r) := hH (by rw [Hz.out.2]; unfold Fit; simp only [H4]; omega)
 have HnB : Hid (n + 1 < B4) := hH (by simp only [B4]; omega)
 have HmB : Hid (b - m < B4) := hH (by simp only [B4]; omega)
 have Hm1 : Hid (m < B4) := hH (by simp only [B4]; omega)
 have HnB1 : Hid (n < B4) := hH (by simp only [B4]; omega)
 have Hmb2 : Hid (m < b) := hH hmb
 have hbx : decide (x < 0) = true := by simp; omega
 have hby : decide (y < 0) = false := by simp; omega
 have hy0 : decide (y = 0) = false := by simp; omega
 have HX := hH hx
 have HY := hH hy
 have hm0 : decide (m = 0) = false := by simp; omega
 clear hmm hdm hmb hna hab haa hcast haB hbB hfx hfy hnb hx hy h0 hx0 hz hr hm hna2
 go_enter Tryz.func93, Tryz.ntmps93
 unfold wI U
 go_upto_region 1 with (fail)
 clear hW0
 refine cP ?_
 refine cN ?_
 refine cX ?_ ?_ (by intro wz hSw; obtain ⟨q0, q1, q2, q3⟩ := c4 (B1.y hSw.1); go_simp; all_goals with_reducible rfl) ?_
 refine cW ?_ ?_ ?_
 refine cX ?_ ?_ (by intro wz hSw; have he := eqIn_Z y HY.out false hy0 wz; go_simp; all_goals with_reducible rfl) ?_
 refine calm_end ?_
 intro w1 hS
 have hS := sO hS
 have B0 := B0.y hS
 have B1 := B1.y hS
 have B2 := B2.y hS
 have B3 := B3.y hS
 have hz1 : W0.heap.size ≤ w1.heap.size := hS.size
 have HB := gS HB hS
 clear hS
 go_upto_region 3 with (fail)
 refine cG ?_
 refine calm_aa (k := 8) (d := 7) (st := 10) (x := (.tmp 21)) (u := U n) (T := 60) (k' := 9) (d' := 8) (st' := 11) (x' := (.tmp 22)) (u' := U m) (T' := 60) (by kernel_rfl) (by rfl) (by rfl) info_wide rfl rfl (by first | exact wI_one _ | exact U_one _) (by rfl) (by rfl) info_wide rfl rfl (by first | exact wI_one _ | exact U_one _) ?_
 refine cX ?_ ?_ (by intro wz hSw; obtain ⟨q0, q1, q2, q3⟩ := c4 (B0.y hSw.1); go_simp; all_goals with_reducible rfl) ?_
 refine cC ?_ ?_ ?_ ?_ ?hc16_1 ?_
 case hc16_1 => (intro w hSw; exact size_b x a HX.out Ha.out w)
 refine cX ?_ ?_ (by intro wz hSw; obtain ⟨q0, q1, q2, q3⟩ := c4 (B1.y hSw.1); go_simp; all_goals with_reducible rfl) ?_
 refine cC ?_ ?_ ?_ ?_ ?hc16_3 ?_
 case hc16_3 => (intro w hSw; exact size_b y b HY.out Hb.out w)
 refine cC ?_ ?_ ?_ ?_ ?hc16_4 ?_
 case hc16_4 => (intro w hSw; exact divided_b a b n m HA.out HB4.out Hb0.out Hn.out Hm.out w)
 refine cW ?_ ?_ ?_
 refine cW ?_ ?_ ?_
 refine cW ?_ ?_ ?_
 refine cB ?_
 refine cB ?_
 refine cB ?_
 refine cB ?_
 refine calm_end ?_
 refine ⟨⟨(by rfl), (by rfl)⟩, fun b5 b6 w2 hb5 hb6 hbne6 hS D0 D1 => ?_⟩
 have hl5_0 : w.heap.size < b5 := lL B0.lt hb5
 have hl6_0 : w.heap.size < b6 := lL B0.lt hb6
 have hl5_1 : w.heap.size + 1 < b5 := lL B1.lt hb5
 have hl6_1 : w.heap.size + 1 < b6 := lL B1.lt hb6
 have hl5_2 : w.heap.size + 1 + 1 < b5 := lL B2.lt hb5
 have hl6_2 : w.heap.size + 1 + 1 < b6 := lL B2.lt hb6
 have hl5_3 : w.heap.size + 1 + 1 + 1 < b5 := lL B3.lt hb5
 have hl6_3 : w.heap.size + 1 + 1 + 1 < b6 := lL B3.lt hb6
 have hS := sO hS
 have B0 := B0.y hS
 have B1 := B1.y hS
 have B2 := B2.y hS
 have B3 := B3.y hS
 have B5 : Blk w2 b5 (uL n) 60 := D0
 have B6 : Blk w2 b6 (uL m) 60 := D1
 have hz2 : w1.heap.size ≤ w2.heap.size := hS.size
 have HB := gS HB hS
 clear hS D0 D1
 go_upto_region 4 with (fail)
 refine cG ?_
 refine cN ?_
 refine cX ?_ ?_ (by intro wz hSw; obtain ⟨q0, q1, q2, q3⟩ := c4 (B0.y hSw.1); go_simp; all_goals with_reducible rfl) ?_
 refine cC ?_ ?_ ?_ ?_ ?hc17_1 ?_
 case hc17_1 => (intro w hSw; exact wideNeg_b x true HX.out hbx w)
 refine cX ?_ ?_ (by intro wz hSw; obtain ⟨q0, q1, q2, q3⟩ := c4 (B1.y hSw.1); go_simp; all_goals with_reducible rfl) ?_
 refine cC ?_ ?_ ?_ ?_ ?hc17_3 ?_
 case hc17_3 => (intro w hSw; exact wideNeg_b y false HY.out hby w)
 refine cW ?_ ?_ ?_
 refine cW ?_ ?_ ?_
 refine calm_end ?_
 intro w3 hS
 have hS := sO hS
 have B0 := B0.y hS
 have B1 := B1.y hS
 have B2 := B2.y hS
 have B3 := B3.y hS
 have B5 := B5.y hS
 have B6 := B6.y hS
 have hz3 : w2.heap.size ≤ w3.heap.size := hS.size
 have HB := gS HB hS
 clear hS
 go_upto_region 5 with (fail)
 refine cP ?_
 refine cN ?_
 refine cW ?_ ?_ ?_
 refine cW ?_ ?_ ?_
 refine cX ?_ ?_ (by intro wz hSw; obtain ⟨q0, q1, q2, q3⟩ := c4 (B6.y hSw.1); go_simp; all_goals with_reducible rfl) ?_
 refine cW ?_ ?_ ?_
 refine cX ?_ ?_ (by intro wz hSw; have he := eqIn_UZ m Hm1.out false hm0 wz; go_simp; all_goals with_reducible rfl) ?_
 refine cW ?_ ?_ ?_
 refine calm_end ?_
 intro w4 hS
 have hS := sO hS
 have B0 := B0.y hS
 have B1 := B1.y hS
 have B2 := B2.y hS
 have B3 := B3.y hS
 have B5 := B5.y hS
 have B6 := B6.y hS
 have hz4 : w3.heap.size ≤ w4.heap.size := hS.size
 have HB := gS HB hS
 clear hS
 go_upto_region 6 with (fail)
 refine cP ?_
 refine calm_k (b := b5) (o := 0) (st := 3) (ado := .tmp 7) (x := (.tmp 36)) (u := U (n + 1)) (by kernel_rfl) B5 (by rfl) size_wide (by first | exact wI_one _ | exact U_one _) (by first | exact Nat.le_refl _ | (simp; done) | decide) ?_
 refine cX ?_ ?_ (by intro wz hSw; obtain ⟨q0, q1, q2, q3⟩ := c4 (show Blk wz (b5) (uL n) 60 from hSw.2 _ (List.mem_cons_self ..) rfl ⟨_, rfl, by kernel_rfl⟩); go_simp; all_goals with_reducible rfl) ?_
 refine cW ?_ ?_ ?_
 refine cC ?_ ?_ ?_ ?_ ?hc19_2 ?_
 case hc19_2 => (intro w hSw; exact widePlus_U n 0 1 (n + 1) (by omega) rfl w)
 refine cB ?_
 refine calm_end ?_
 refine ⟨(by rfl), (by rfl), fun w5 hS D0 => ?_⟩
 have B0 := B0.y hS
 have B1 := B1.y hS
 have B2 := B2.y hS
 have B3 := B3.y hS
 have B6 := B6.y hS
 have B5 : Blk w5 (b5) (uL (n + 1)) 60 := blk_whole D0 rfl
 have hz5 : w4.heap.size ≤ w5.heap.size := hS.size
 have HB := gS HB hS
 clear hS D0
 go_upto_region 7 with (fail)
 refine cG ?_
 refine calm_k (b := b6) (o := 0) (st := 5) (ado := .tmp 8) (x := (.tmp 41)) (u := U (b - m)) (by kernel_rfl) B6 (by rfl) size_wide (by first | exact wI_one _ | exact U_one _) (by first | exact Nat.le_refl _ | (simp; done) | decide) ?_
 refine cX ?_ ?_ (by intro wz hSw; obtain ⟨q0, q1, q2, q3⟩ := c4 (B1.y hSw.1); go_simp; all_goals with_reducible rfl) ?_
 refine cC ?_ ?_ ?_ ?_ ?hc20_1 ?_
 case hc20_1 => (intro w hSw; exact size_b y b HY.out Hb.out w)
 refine cX ?_ ?_ (by intro wz hSw; obtain ⟨q0, q1, q2, q3⟩ := c4 (show Blk wz (b6) (uL m) 60 from hSw.2 _ (List.mem_cons_self ..) rfl ⟨_, rfl, by kernel_rfl⟩); go_simp; all_goals with_reducible rfl) ?_
 refine cC ?_ ?_ ?_ ?_ ?hc20_3 ?_
 case hc20_3 => (intro w hSw; exact wideTurned_U m Hm1.out w)
 refine cC ?_ ?_ ?_ ?_ ?hc20_4 ?_
 case hc20_4 => (intro w hSw; exact widePlus_U b (B4 - 1 - m) 1 (b - m) (by omega) (Hbm.out b m HB4.out Hmb2.out) w)
 refine cB ?_
 refine calm_end ?_
 refine ⟨(by rfl), (by rfl), fun w6 hS D0 => ?_⟩
 have B0 := B0.y hS
 have B1 := B1.y hS
 have B2 := B2.y hS
 have B3 := B3.y hS
 have B5 := B5.y hS
 have B6 : Blk w6 (b6) (uL (b - m)) 60 := blk_whole D0 rfl
 have hz6 : w5.heap.size ≤ w6.heap.size := hS.size
 have HB := gS HB hS
 clear hS D0
 go_upto_region 8 with (fail)
 refine cP ?_
 refine calm_k (b := w.heap.size + 1 + 1) (o := 0) (st := 6) (ado := .tmp 4) (x := (.tmp 46)) (u := wI z) (by kernel_rfl) B2 (by rfl) size_wide (by first | exact wI_one _ | exact U_one _) (by first | exact Nat.le_refl _ | (simp; done) | decide) ?_
 refine cX ?_ ?_ (by intro wz hSw; obtain ⟨q0, q1, q2, q3⟩ := c4 (B5.y hSw.1); go_simp; all_goals with_reducible rfl) ?_
 refine cW ?_ ?_ ?_
 refine cC ?_ ?_ ?_ ?_ ?hc21_2 ?_
 case hc21_2 => (intro w hSw; exact wideSigned_any (n + 1) true z HnB.out Hsz.out Hz.out.1 w)
 refine cW ?_ ?_ ?_
 refine cW ?_ ?_ ?_
 refine cW ?_ ?_ ?_
 refine cB ?_
 refine cW ?_ ?_ ?_
 refine calm_end ?_
 refine ⟨(by rfl), (by rfl), fun w7 hS D0 => ?_⟩
 have B0 := B0.y hS
 have B1 := B1.y hS
 have B3 := B3.y hS
 have B5 := B5.y hS
 have B6 := B6.y hS
 have B2 : Blk w7 (w.heap.size + 1 + 1) (uL (tc z)) 60 := blk_whole D0 rfl
 have hz7 : w6.heap.size ≤ w7.heap.size := hS.size
 have HB := gS HB hS
 clear hS D0
 go_upto_region 11 with (fail)
 refine cG ?_
 refine calm_k (b := w.heap.size + 1 + 1 + 1) (o := 0) (st := 7) (ado := .tmp 5) (x := (.tmp 57)) (u := wI r) (by kernel_rfl) B3 (by rfl) size_wide (by first | exact wI_one _ | exact U_one _) (by first | exact Nat.le_refl _ | (simp; done) | decide) ?_
 refine cX ?_ ?_ (by intro wz hSw; obtain ⟨q0, q1, q2, q3⟩ := c4 (B6.y hSw.1); go_simp; all_goals with_reducible rfl) ?_
 refine cX ?_ ?_ (by intro wz hSw; obtain ⟨q0, q1, q2, q3⟩ := c4 (B1.y hSw.1); go_simp; all_goals with_reducible rfl) ?_
 refine cC ?_ ?_ ?_ ?_ ?hc22_2 ?_
 case hc22_2 => (intro w hSw; exact wideNeg_b y false HY.out hby w)
 refine cC ?_ ?_ ?_ ?_ ?hc22_3 ?_
 case hc22_3 => (intro w hSw; exact wideSigned_any (b - m) false r HmB.out Hsr.out Hz.out.2 w)
 refine cW ?_ ?_ ?_
 refine cW ?_ ?_ ?_
 refine cW ?_ ?_ ?_
 refine cB ?_
 refine cW ?_ ?_ ?_
 refine calm_end ?_
 refine ⟨(by rfl), (by rfl), fun w8 hS D0 => ?_⟩
 have B0 := B0.y hS
 have B1 := B1.y hS
 have B2 := B2.y hS
 have B5 := B5.y hS
 have B6 := B6.y hS
 have B3 : Blk w8 (w.heap.size + 1 + 1 + 1) (uL (tc r)) 60 := blk_whole D0 rfl
 have hz8 : w7.heap.size ≤ w8.heap.size := hS.size
 have HB := gS HB hS
 clear hS D0
 go_upto_region 12 with (fail)
 refine cG ?_
 refine calm_kk (b := w.heap.size + 1 + 1) (o := 0) (st := 3) (ado := .tmp 4) (x := (.tmp 59)) (u := wI z) (b' := w.heap.size + 1 + 1 + 1) (o' := 0) (st' := 4) (ado' := .tmp 5) (x' := (.tmp 60)) (u' := wI r) (by kernel_rfl) B2 B3 (by omega) (by rfl) size_wide (by first | exact wI_one _ | exact U_one _) (by first | exact Nat.le_refl _ | (simp; done) | decide) (by rfl) size_wide (by first | exact wI_one _ | exact U_one _) (by first | exact Nat.le_refl _ | (simp; done) | decide) ?_
 refine cX ?_ ?_ (by intro wz hSw; obtain ⟨q0, q1, q2, q3⟩ := c4 (show Blk wz (w.heap.size + 1 + 1) (uL (tc z)) 60 from hSw.2 _ (List.mem_cons_self ..) rfl ⟨_, rfl, by kernel_rfl⟩); go_simp; all_goals with_reducible rfl) ?_
 refine cX ?_ ?_ (by intro wz hSw; obtain ⟨q0, q1, q2, q3⟩ := c4 (show Blk wz (w.heap.size + 1 + 1 + 1) (uL (tc r)) 60 from hSw.2 _ (List.mem_cons_of_mem _ (List.mem_singleton.2 rfl)) rfl ⟨_, rfl, by kernel_rfl⟩); go_simp; all_goals with_reducible rfl) ?_
 refine cW ?_ ?_ ?_
 refine cB ?_
 refine cB ?_
 refine cW ?_ ?_ ?_
 refine calm_end ?_
 refine ⟨⟨⟨(by rfl), (by rfl)⟩, ⟨(by rfl), (by rfl)⟩⟩, fun w9 hS D0 D1 => ?_⟩
 have B0 := B0.y hS
 have B1 := B1.y hS
 have B5 := B5.y hS
 have B6 := B6.y hS
 have B2 : Blk w9 (w.heap.size + 1 + 1) (uL (tc z)) 60 := blk_whole D0 rfl
 have B3 : Blk w9 (w.heap.size + 1 + 1 + 1) (uL (tc r)) 60 := blk_whole D1 rfl
 have hz9 : w8.heap.size ≤ w9.heap.size := hS.size
 have HB := gS HB hS
 clear hS D0 D1
 go_wp2_with fail
 obtain ⟨s0_0, s0_1, s0_2, s0_3⟩ := c4 (B2)
 obtain ⟨s1_0, s1_1, s1_2, s1_3⟩ := c4 (B3)
 refine bodyPost_ret (v := .tuple #[wI z, wI r, .bool true]) (by simp [results, Tryz.results93, go_sem, s0_0, s0_1, s0_2, s0_3, s1_0, s1_1, s1_2, s1_3]) rfl ⟨rfl, HB⟩
theorem wideDiv_any (x y : Int) (hx : Fit x) (hy : Fit y) (h0 : 0 < y) (w : World) :
  Calls Tryz.prog 93 #[wI x, wI y] w fun e w' => e = .returned (.tuple #[wI (x / y), wI (x % y), .bool true]) ∧ Below w.heap.size w w' := by
 by_cases h : 0 ≤ x
 ·exact wideDiv_pos x y _ _ hx hy h0 h rfl rfl w
 ·by_cases hm : x.natAbs % y.natAbs = 0
  ·exact wideDiv_even x y _ _ hx hy h0 (by omega) hm rfl rfl w
  ·exact wideDiv_odd x y _ _ hx hy h0 (by omega) hm rfl rfl w
end Go.Proofs.YthbplhglfjlngaaGreat
