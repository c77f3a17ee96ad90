/- Parts of the proof. -/
import Derived.Test.YthbplhglfjlngaaGreatGPv
set_option linter.unusedVariables false
set_option linter.unusedSimpArgs false
set_option maxRecDepth 100000
namespace Go.Proofs.YthbplhglfjlngaaGreat
open Go.RowKit Go.Rg Go.Wd Go.Mg
attribute [local go_sem] Oper.semAt_some
theorem nodup_len {α : Type} [DecidableEq α] : ∀ {l m : List α}, l.Nodup → (∀ x ∈ l, x ∈ m) → l.length ≤ m.length
 | [], m, _, _ => Nat.zero_le _
 | x :: l, m, hn, hm => by
  obtain ⟨h1, h2⟩ := List.nodup_cons.1 hn
  have hx := hm x (List.mem_cons_self ..)
  have ih := nodup_len (l := l) (m := m.erase x) h2 (fun y hy => (List.mem_erase_of_ne (fun e => h1 (by rw [← e]; exact hy))).2 (hm y (List.mem_cons_of_mem _ hy)))
  rw [List.length_erase_of_mem hx] at ih
  have := List.length_pos_of_mem hx
  simp only [List.length_cons]; omega
theorem nearS_mem {a b c d size : Int} {ps : List (Int × Int)} {p : Int × Int} (h : p ∈ nearS a b c d size (setR ps)) : p ∈ ps := by
 unfold nearS at h
 obtain ⟨x, y⟩ := p
 have := (mem_nearB (setR_rising ps).1 (setR_rising ps).2).1 h
 exact (setR_mem ps (x, y)).1 (by obtain ⟨⟨r, h1, h2, h3⟩, _⟩ := this; exact ⟨r, h1, h2, h3⟩)
theorem nearS_nodup (a b c d size : Int) (ps : List (Int × Int)) : (nearS a b c d size (setR ps)).Nodup := nearB_nodup (setR_strict ps).1 (setR_strict ps).2 _ _ _ _
theorem ofS_any (a b c d size : Int) (R : Nat) (ps L : List (Int × Int)) (w : World) (hL : ofB a b c d size (setR ps) = L) (hg : sgB a b c d = true) (hs : szB size = true) (hset : SetW w R ps) (hpt : ∀ p ∈ ps, ptB p.1 p.2 = true) (hlen : ps.length ≤ 1048576) :
  Calls Tryz.prog 8 #[gV a b c d, .pointer (some ⟨R, 0, none⟩), .int .i64 size] w fun e w' => ∃ v, e = .returned (.tuple #[v, .int .i64 0]) ∧ SlC w' v 2 (ptE L) ∧ Below w.heap.size w w' := by
 subst hL
 have h1 := nodup_len (nearS_nodup a b c d size ps) (fun p hp => nearS_mem hp)
 exact ofC_any a b c d size R ps w hg hs hset (setR_rising ps).1 (setR_rising ps).2 (fun p hp => hpt p (nearS_mem hp)) (by omega)
theorem sg_abs {a b c d : Int} (h : sgB a b c d = true) : a.natAbs ≤ 2199023255552 ∧ b.natAbs ≤ 2199023255552 ∧ c.natAbs ≤ 2199023255552 ∧ d.natAbs ≤ 2199023255552 := by
 unfold sgB ptB at h
 simp only [Bool.and_eq_true, inB_iff] at h
 omega
theorem of17L (a b c d size : Int) (v : Value) (ps L : List (Int × Int)) (w : World) (hv : SlC w v 2 (ptE (srtD ps))) (hg : sgB a b c d = true) (hs : szB size = true) (hpt : ∀ p ∈ ps, ptB p.1 p.2 = true) (hlen : ps.length ≤ 1048576) (hW : (dOf (cutD a b c d size) [] (srtD ps)).map (·.1) = L) :
  Calls Tryz.prog 11 #[.agg #[.int .i64 a, .int .i64 b], .agg #[.int .i64 c, .int .i64 d], v, .int .i64 size] w fun e w' => ∃ v', e = .returned v' ∧ SlC w' v' 2 (ptE L) ∧ Below w.heap.size w w' := by
 subst hW
 obtain ⟨h1, h2, h3, h4⟩ := sg_abs hg
 rw [szB_iff] at hs
 exact of17_any a b c d size v (srtD ps) w hv h1 h2 h3 h4 hs.1 hs.2 (fun p hp => hpt p (((srtD_law ps).2 p).1 hp)) (Nat.le_trans (srtD_len ps) hlen)
theorem of_plain1 {a b c d size : Int} (ps : List (Int × Int)) (hs : 1 ≤ size) : (dOf (cutD a b c d size) [] (srtD ps)).map (·.1) = ofB a b c d size (setR ps) := by
 obtain ⟨k1, k2⟩ := srtD_law ps
 exact dOf_eq hs (cutD a b c d size) ps (srtD ps) (k1.imp (fun h e => by subst e; unfold LtP at h; omega)) k2 (fun p _ => cut_ok a b c d size p)
end Go.Proofs.YthbplhglfjlngaaGreat
