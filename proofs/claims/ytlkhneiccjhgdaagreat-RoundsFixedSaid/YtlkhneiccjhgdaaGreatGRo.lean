/- slices.Grow of nothing, slices.Concat, on whole numbers. -/
import Derived.Test.YtlkhneiccjhgdaaGreatGRh
import Derived.Test.YtlkhneiccjhgdaaGreatGRn
import Derived.Lib.AppendZerosOnto
set_option linter.unusedVariables false
set_option linter.unusedSimpArgs false
set_option maxRecDepth 100000
namespace Go.Proofs.YtlkhneiccjhgdaaGreat
open Go.Eo Go.RowKit Go.Rg
abbrev S3 := Int × Int × Int
def spf (p : S3) : Nat → Int
 | 0 => (Wd.lb (Wd.tc p.1) 0 : Nat)
 | 1 => (Wd.lb (Wd.tc p.1) 1 : Nat)
 | 2 => (Wd.lb (Wd.tc p.1) 2 : Nat)
 | 3 => (Wd.lb (Wd.tc p.1) 3 : Nat)
 | 4 => (Wd.lb (Wd.tc p.2.1) 0 : Nat)
 | 5 => (Wd.lb (Wd.tc p.2.1) 1 : Nat)
 | 6 => (Wd.lb (Wd.tc p.2.1) 2 : Nat)
 | 7 => (Wd.lb (Wd.tc p.2.1) 3 : Nat)
 | 8 => (Wd.lb (Wd.tc p.2.2) 0 : Nat)
 | 9 => (Wd.lb (Wd.tc p.2.2) 1 : Nat)
 | 10 => (Wd.lb (Wd.tc p.2.2) 2 : Nat)
 | 11 => (Wd.lb (Wd.tc p.2.2) 3 : Nat)
 | _ => 0
abbrev sp3 (p : S3) : AV := .a (.v (spA (spf p)))
def Ok3 (p : S3) : Prop := Wd.SpotOk p.1 p.2.1 p.2.2
def sc3 (p q : S3) : Int := scm p.1 p.2.1 p.2.2 q.1 q.2.1 q.2.2
theorem cmp3_ok {p q : S3} (h : Ok3 p) (k : Ok3 q) : FnP Tryz.prog 243 [] [sp3 p, sp3 q] [] [] (vi (sc3 p q)) := spcmp_ok p.1 p.2.1 p.2.2 q.1 q.2.1 q.2.2 h k
theorem cmpIs {p q : S3} (h : Ok3 p) (k : Ok3 q) : CmpIs (spf p) (spf q) (sc3 p q) := fun w => calls_of (args := [spA (spf p), spA (spf q)]) (cmp3_ok h k) w
abbrev gl (l : List E4) : List (List Dt) := l.map fun s => [.v (i6 s.1), .v (i6 s.2.1), .v (i6 s.2.2.1), .v (i6 s.2.2.2)]
theorem gl_len (l : List E4) : (gl l).length = l.length := List.length_map _
theorem gl_at (l : List E4) {k : Nat} (h : k < l.length) : (gl l)[k]? = some [.v (i6 (l.getD k (0, 0, 0, 0)).1), .v (i6 (l.getD k (0, 0, 0, 0)).2.1), .v (i6 (l.getD k (0, 0, 0, 0)).2.2.1), .v (i6 (l.getD k (0, 0, 0, 0)).2.2.2)] :=
 map_at (fun s : E4 => [Dt.v (i6 s.1), Dt.v (i6 s.2.1), Dt.v (i6 s.2.2.1), Dt.v (i6 s.2.2.2)]) l (0, 0, 0, 0) h
abbrev gA4 (s : E4) : AV := gA s.1 s.2.1 s.2.2.1 s.2.2.2
def Sr4 (s : E4) : Prop := Sr s.1 s.2.1 s.2.2.1 s.2.2.2
def ends4 (s : E4) : E4 := endsF s.1 s.2.1 s.2.2.1 s.2.2.2
def lowS (s : E4) : S3 := ((ends4 s).1, (ends4 s).2.1, 1)
def highS (s : E4) : S3 := ((ends4 s).2.2.1, (ends4 s).2.2.2, 1)
theorem lowS_ok {s : E4} (h : Sr4 s) : Ok3 (lowS s) := spot1 (Sr.e h).a (Sr.e h).b
theorem highS_ok {s : E4} (h : Sr4 s) : Ok3 (highS s) := spot1 (Sr.e h).c (Sr.e h).d
theorem low_ok {s : E4} (h : Sr4 s) : FnP Tryz.prog 245 [] [gA4 s] [] [] (sp3 (lowS s)) :=
 fq Tryz.func245 fun C => dn (.f 7 [] [] (ends_ok s.1 s.2.1 s.2.2.1 s.2.2.2) <| .c 11 (at_pt (Sr.e h).a (Sr.e h).b) .nil) []
theorem high_ok {s : E4} (h : Sr4 s) : FnP Tryz.prog 246 [] [gA4 s] [] [] (sp3 (highS s)) :=
 fq Tryz.func246 fun C => dn (.f 7 [] [] (ends_ok s.1 s.2.1 s.2.2.1 s.2.2.2) <| .c 11 (at_pt (Sr.e h).c (Sr.e h).d) .nil) []
def sg (segs : List E4) (x : Int) : E4 := segs.getD x.toNat (0, 0, 0, 0)
def Num (segs : List E4) (x : Int) : Prop := 0 ≤ x ∧ x.toNat < segs.length
def Segs (segs : List E4) : Prop := ∀ k, k < segs.length → Sr4 (segs.getD k (0, 0, 0, 0))
theorem Segs.at {segs : List E4} (h : Segs segs) {x : Int} (hx : Num segs x) : Sr4 (sg segs x) := h _ hx.2
def oB (segs : List E4) (x y : Int) : Int := sc3 (lowS (sg segs x)) (lowS (sg segs y))
def oS (segs : List E4) (x y : Int) : Int := orF [slopeS (sg segs x).1 (sg segs x).2.1 (sg segs x).2.2.1 (sg segs x).2.2.2 (sg segs y).1 (sg segs y).2.1 (sg segs y).2.2.1 (sg segs y).2.2.2, cm x y]
theorem begun1_ok {segs : List E4} (h : Segs segs) {x y : Int} (hx : Num segs x) (hy : Num segs y) : FnP Tryz.prog 248 [.ro [.w 1] 23, .sl 4 (gl segs)] [vi x, vi y, .a (.p 0 0)] [.ro [.w 1] 23, .sl 4 (gl segs)] [] (vi (oB segs x y)) :=
 fq Tryz.func248 fun C => dn (.i (z := x) (n := x.toNat) (len := (gl segs).length) 8 (by have := hx.1; omega) (by rw [gl_len]; exact hx.2) <| .l 9 (gl_at segs hx.2) <| .f 10 [] [] (low_ok (h.at hx)) <| .i (z := y) (n := y.toNat) (len := (gl segs).length) 13 (by have := hy.1; omega) (by rw [gl_len]; exact hy.2) <| .l 14 (gl_at segs hy.2) <| .f 15 [] [] (low_ok (h.at hy)) <|
  .f 16 [] [] (cmp3_ok (lowS_ok (h.at hx)) (lowS_ok (h.at hy))) .nil) [0, 1]
theorem steep1_ok {segs : List E4} (h : Segs segs) {x y : Int} (hx : Num segs x) (hy : Num segs y) : FnP Tryz.prog 279 [.ro [.w 1] 23, .sl 4 (gl segs)] [vi x, vi y, .a (.p 0 0)] [.ro [.w 1] 23, .sl 4 (gl segs)] [] (vi (oS segs x y)) :=
 fq Tryz.func279 fun C => dn (.i (z := x) (n := x.toNat) (len := (gl segs).length) 8 (by have := hx.1; omega) (by rw [gl_len]; exact hx.2) <| .l 9 (gl_at segs hx.2) <| .i (z := y) (n := y.toNat) (len := (gl segs).length) 12 (by have := hy.1; omega) (by rw [gl_len]; exact hy.2) <| .l 13 (gl_at segs hy.2) <|
  .f 14 [] [] (Slope_ok _ _ _ _ _ _ _ _ (h.at hx) (h.at hy)) <| .f 17 [] [] (cmp_ok x y) <| .f 19 [2] [0] (or2_ok (slopeS (sg segs x).1 (sg segs x).2.1 (sg segs x).2.2.1 (sg segs x).2.2.2 (sg segs y).1 (sg segs y).2.1 (sg segs y).2.2.1 (sg segs y).2.2.2) (cm x y)) .nil) [0, 1]
theorem ordB {segs : List E4} (h : Segs segs) {a b : List Int} (ha : ∀ x ∈ a, Num segs x) (hb : ∀ x ∈ b, Num segs x) : Ords .b (gl segs) (oB segs) a b := fun x hx y hy => begun1_ok h (hb y hy) (ha x hx)
theorem ordS {segs : List E4} (h : Segs segs) {a b : List Int} (ha : ∀ x ∈ a, Num segs x) (hb : ∀ x ∈ b, Num segs x) : Ords .s (gl segs) (oS segs) a b := fun x hx y hy => steep1_ok h (hb y hy) (ha x hx)
theorem ordN (es : List (List Dt)) (a b : List Int) : Ords .n es cm a b := fun x _ y _ => fnp_pad (args := [i6 y, i6 x]) (cmp_ok y x)
theorem steeper_ok (segs : List E4) : FnP Tryz.prog 272 [.sl 4 (gl segs)] [.a (.w 0)] [.sl 4 (gl segs)] [.box [.w 0] 23] (.f (.func 279) [] [.p 1 0]) :=
 fq Tryz.func272 fun C => dn .nil [0, 1]
end Go.Proofs.YtlkhneiccjhgdaaGreat
set_option maxRecDepth 100000
namespace Go.Proofs.YtlkhneiccjhgdaaGreat
open Go.Eo Go.RowKit Go.Rg
theorem half_eq {a b : Nat} (h : a ≤ b) (h2 : b < 1000000000000) : Value.int .i64 (IntKind.i64.wrap (((b : Int) - a).tdiv 2)) = i6 (((b - a) / 2 : Nat) : Int) := by
 have e : ((b : Int) - a).tdiv 2 = (((b - a) / 2 : Nat) : Int) := by
  rw [show (b : Int) - a = ((b - a : Nat) : Int) by omega, Int.ofNat_tdiv]; rfl
 rw [e]; exact w64 (by omega)
abbrev LN (segs : List E4) (root : Nat) (n : Int) (ns : List Nd) (fs : List Nat) (st ss : List Int) : List Ob :=
 [.box [.w 1, .p 2 0, .w 5, .w 6] 310, .sl 4 (gl segs), TBx cmpV 3 4 root n, NO ns, FO fs, .sl 1 (il st), .sl 1 (il ss)]
abbrev spB3 (p : S3) : Ob := .box ((spA (spf p)).cells.toList.map .v) 78
def bsF (f : Nat → Bool) : Nat → Nat → Nat → Nat
 | 0, a, _ => a
 | n + 1, a, b => if a < b then (if f (a + (b - a) / 2) then bsF f n (a + (b - a) / 2 + 1) b else bsF f n a (a + (b - a) / 2)) else a
theorem bsF_end (f : Nat → Bool) (n : Nat) {a b : Nat} (h : ¬ a < b) : bsF f n a b = a := by
 cases n with
 | zero => rfl
 | succ n => unfold bsF; rw [if_neg h]
theorem bsF_in (f : Nat → Bool) : ∀ (n a b : Nat), a ≤ b → a ≤ bsF f n a b ∧ bsF f n a b ≤ b
 | 0, a, b, h => ⟨Nat.le_refl _, h⟩
 | n + 1, a, b, h => by
  unfold bsF
  split
  ·split
   ·have := bsF_in f n (a + (b - a) / 2 + 1) b (by omega); omega
   ·have := bsF_in f n a (a + (b - a) / 2) (by omega); omega
  ·exact ⟨Nat.le_refl _, h⟩
theorem bsF_mono {f g : Nat → Bool} (h : ∀ k, f k = true → g k = true) : ∀ (n a b : Nat), a ≤ b → bsF f n a b ≤ bsF g n a b
 | 0, a, b, _ => Nat.le_refl _
 | n + 1, a, b, hab => by
  unfold bsF
  split
  ·cases hf : f (a + (b - a) / 2) with
   | true => rw [h _ hf]; simp only [if_true]; exact bsF_mono h n _ _ (by omega)
   | false =>
    cases hg : g (a + (b - a) / 2) with
    | false => simp only [Bool.false_eq_true, if_false]; exact bsF_mono h n _ _ (by omega)
    | true =>
     simp only [Bool.false_eq_true, if_false, if_true]
     have h1 := bsF_in f n a (a + (b - a) / 2) (by omega)
     have h2 := bsF_in g n (a + (b - a) / 2 + 1) b (by omega)
     omega
  ·exact Nat.le_refl _
def sideP (s : E4) (p : S3) : Int := sideS s.1 s.2.1 s.2.2.1 s.2.2.2 p.1 p.2.1 p.2.2
def upB (segs : List E4) (ss : List Int) (p : S3) (least : Int) (k : Nat) : Bool := decide (sideP (sg segs (ss.getD k 0)) p > least)
def bd (segs : List E4) (ss : List Int) (p : S3) (least : Int) : Nat := bsF (upB segs ss p least) ss.length 0 ss.length
theorem bd_le (segs : List E4) (ss : List Int) (p : S3) : bd segs ss p 0 ≤ bd segs ss p (-1) ∧ bd segs ss p (-1) ≤ ss.length :=
 ⟨bsF_mono (fun k h => by unfold upB at *; simp only [decide_eq_true_eq] at *; omega) _ _ _ (Nat.zero_le _), (bsF_in _ _ _ _ (Nat.zero_le _)).2⟩
noncomputable abbrev bndB : Code := Tryz.f269.body.getD .skip
section
variable {segs : List E4} {root : Nat} {n : Int} {ns : List Nd} {fs : List Nat} {st ss : List Int} {p : S3}
theorem bounds1_ok (hs : Segs segs) (hss : ∀ k, k < ss.length → Num segs (ss.getD k 0)) (hl : ss.length < 10000000000) (hp : Ok3 p) (least : Int) :
  FnP Tryz.prog 269 (LN segs root n ns fs st ss ++ [.box [.p 0 0] 305, spB3 p]) [vi least, .a (.p 7 0), .a (.p 8 0)] (LN segs root n ns fs st ss ++ [.box [.p 0 0] 305, spB3 p]) [] (vi (bd segs ss p least : Nat)) := by
 obtain ⟨r, hr⟩ : ∃ r, r = bd segs ss p least := ⟨_, rfl⟩
 rw [← hr]
 refine fq Tryz.func269 fun C => ?_
 have hlen := il_len ss
 have hv : (Value.int .i64 ((il ss).length : Int)) = i6 ss.length := by rw [hlen]
 refine gq [2] (lp 2 bndB []) (.v 12 hv .nil) [0, 1, 2, 3, 4, 5, 6, 7, 8] [(0, vi least), (1, .a (.p 7 0)), (2, .a (.p 8 0)), (5, vi ((0 : Nat) : Int)), (6, vi ss.length)] (LN segs root n ns fs st ss ++ [.box [.p 0 0] 305, spB3 p]) fun d => ?_
 refine loop (β := { x : Nat × Nat // ∃ m, x.2 - x.1 ≤ m ∧ bsF (upB segs ss p least) m x.1 x.2 = r ∧ x.1 ≤ x.2 ∧ x.2 ≤ ss.length }) (fun x d => ⟨d, [(0, vi least), (1, .a (.p 7 0)), (2, .a (.p 8 0)), (5, vi (x.1.1 : Nat)), (6, vi (x.1.2 : Nat))], mkX (LN segs root n ns fs st ss ++ [.box [.p 0 0] 305, spB3 p])⟩) (fun x => x.1.2 - x.1.1) (by kernel_rfl) (fun x K ih d => ?_) ⟨(0, ss.length), ss.length, Nat.le_refl _, hr.symm, Nat.zero_le _, Nat.le_refl _⟩ d
 obtain ⟨⟨a, b⟩, m, h1, h2, h3, h4⟩ := x
 simp only at h1 h2 h3 h4
 by_cases h : a < b
 ·obtain ⟨m', rfl⟩ : ∃ m', m = m' + 1 := ⟨m - 1, by omega⟩
  unfold bsF at h2
  rw [if_pos h] at h2
  obtain ⟨k, hk⟩ : ∃ k, k = a + (b - a) / 2 := ⟨_, rfl⟩
  rw [← hk] at h2
  have hkl : k < ss.length := by omega
  have hn := hss k hkl
  have hs1 := hs.at hn
  have its := fun (r : List It) (R : Its Tryz.prog C.W C.D r) => (.v 15 (bt (show (a : Int) < (b : Nat) by omega)) <| .v 19 (w64 (z := (b : Int) - a) (by omega)) <| .v 20 (x := .int .i64 (IntKind.i64.wrap (((b : Int) - a).tdiv 2))) (y := i6 (((b - a) / 2 : Nat) : Int)) (half_eq (show a ≤ b by omega) (by omega)) <| .v 21 (x := .int .i64 (IntKind.i64.wrap ((a : Int) + (((b - a) / 2 : Nat) : Int)))) (y := i6 (k : Nat)) (by rw [w64 (by omega)]; exact congrArg i6 (by omega)) <|
   .i (z := (k : Int)) (n := k) (len := (il ss).length) 31 rfl (by rw [hlen]; exact hkl) <| .l 32 (il_at ss hkl) <| .i (z := ss.getD k 0) (n := (ss.getD k 0).toNat) (len := (gl segs).length) 33 (by have := hn.1; omega) (by rw [gl_len]; exact hn.2) <| .l 34 (gl_at segs hn.2) <| .f 36 [] [] (Side_ok _ _ _ _ p.1 p.2.1 p.2.2 hs1 hp) R : Its Tryz.prog C.W C.D _)
  by_cases c : sideP (sg segs (ss.getD k 0)) p > least
  ·have hu : upB segs ss p least k = true := by unfold upB; rw [decide_eq_true c]
   rw [hu, if_pos rfl] at h2
   refine gq [] (lpK 2 bndB [] K) (its _ <| .v 38 (x := .bool (decide (sideP (sg segs (ss.getD k 0)) p > least))) (bt c) <| .v 40 (x := .int .i64 (IntKind.i64.wrap ((k : Int) + 1))) (y := i6 ((k + 1 : Nat) : Int)) (w64 (z := (k : Int) + 1) (by omega)) .nil) [0, 1, 2, 3, 4, 5, 6, 7, 8] [(0, vi least), (1, .a (.p 7 0)), (2, .a (.p 8 0)), (5, vi ((k + 1 : Nat) : Int)), (6, vi (b : Nat))] (LN segs root n ns fs st ss ++ [.box [.p 0 0] 305, spB3 p]) fun d => ?_
   exact ih ⟨(k + 1, b), m', by simp only; omega, h2, by simp only; omega, h4⟩ d (by simp only; omega)
  ·have hu : upB segs ss p least k = false := by unfold upB; rw [decide_eq_false c]
   rw [hu, if_neg (by simp)] at h2
   refine gq [] (lpK 2 bndB [] K) (its _ <| .v 38 (x := .bool (decide (sideP (sg segs (ss.getD k 0)) p > least))) (bf c) .nil) [0, 1, 2, 3, 4, 5, 6, 7, 8] [(0, vi least), (1, .a (.p 7 0)), (2, .a (.p 8 0)), (5, vi (a : Nat)), (6, vi (k : Nat))] (LN segs root n ns fs st ss ++ [.box [.p 0 0] 305, spB3 p]) fun d => ?_
   exact ih ⟨(a, k), m', by simp only; omega, h2, by simp only; omega, by simp only; omega⟩ d (by simp only; omega)
 ·have e : r = a := by rw [← h2, bsF_end _ _ h]
  subst e
  exact dn (.v 15 (bf (show ¬ (r : Int) < (b : Nat) by omega)) .nil) [0, 1, 2, 3, 4, 5, 6, 7, 8]
theorem bounds_ok (hs : Segs segs) (hss : ∀ k, k < ss.length → Num segs (ss.getD k 0)) (hl : ss.length < 10000000000) (hp : Ok3 p) :
  FnP Tryz.prog 254 (LN segs root n ns fs st ss) [.a (.p 0 0), sp3 p] (LN segs root n ns fs st ss) [] (.a (.v (.tuple #[i6 (bd segs ss p 0 : Nat), i6 (bd segs ss p (-1) : Nat)]))) := by
 have b := fun least => bounds1_ok (root := root) (n := n) (ns := ns) (fs := fs) (st := st) hs hss hl hp least
 exact fq Tryz.func254 fun C => dn (.f 9 [0, 1, 2, 3, 4, 5, 6, 7, 8] [0, 1, 2, 3, 4, 5, 6, 7, 8] (b 0) <| .f 11 [0, 1, 2, 3, 4, 5, 6, 7, 8] [0, 1, 2, 3, 4, 5, 6, 7, 8] (b (-1)) .nil) [0, 1, 2, 3, 4, 5, 6]
end
end Go.Proofs.YtlkhneiccjhgdaaGreat
set_option maxRecDepth 100000
namespace Go.Proofs.YtlkhneiccjhgdaaGreat
open Go.Eo Go.RowKit Go.Rg
theorem orF2 (a b : Int) : orF [a, b] = if a = 0 then b else a := by
 show (if a = 0 then (if b = 0 then 0 else b) else a) = _
 split
 ·split <;> omega
 ·rfl
theorem orF2_lt {a b : Int} : orF [a, b] < 0 ↔ a < 0 ∨ (a = 0 ∧ b < 0) := by rw [orF2]; split <;> omega
theorem orF2_gt {a b : Int} : 0 < orF [a, b] ↔ 0 < a ∨ (a = 0 ∧ 0 < b) := by rw [orF2]; split <;> omega
theorem orF2_eq {a b : Int} : orF [a, b] = 0 ↔ a = 0 ∧ b = 0 := by rw [orF2]; split <;> omega
theorem sc3_lt {p q : S3} : sc3 p q < 0 ↔ p.1 * q.2.2 < q.1 * p.2.2 ∨ (p.1 * q.2.2 = q.1 * p.2.2 ∧ p.2.1 * q.2.2 < q.2.1 * p.2.2) := by
 unfold sc3 scm; rw [orF2_lt, cm_lt0, cm_0, cm_lt0]
theorem sc3_gt {p q : S3} : 0 < sc3 p q ↔ q.1 * p.2.2 < p.1 * q.2.2 ∨ (p.1 * q.2.2 = q.1 * p.2.2 ∧ q.2.1 * p.2.2 < p.2.1 * q.2.2) := by
 unfold sc3 scm; rw [orF2_gt, cm_0]
 constructor
 ·rintro (h | ⟨h1, h2⟩)
  ·exact .inl (cm_gt0.1 h)
  ·exact .inr ⟨h1, cm_gt0.1 h2⟩
 ·rintro (h | ⟨h1, h2⟩)
  ·exact .inl (cm_gt0.2 h)
  ·exact .inr ⟨h1, cm_gt0.2 h2⟩
theorem sc3_eq {p q : S3} : sc3 p q = 0 ↔ p.1 * q.2.2 = q.1 * p.2.2 ∧ p.2.1 * q.2.2 = q.2.1 * p.2.2 := by
 unfold sc3 scm; rw [orF2_eq, cm_0, cm_0]
theorem sc3_flip {p q : S3} : sc3 p q < 0 ↔ 0 < sc3 q p := by
 rw [sc3_lt, sc3_gt]
 constructor
 ·rintro (h | ⟨h1, h2⟩)
  ·exact .inl h
  ·exact .inr ⟨h1.symm, h2⟩
 ·rintro (h | ⟨h1, h2⟩)
  ·exact .inl h
  ·exact .inr ⟨h1.symm, h2⟩
theorem sc3_self (p : S3) : sc3 p p = 0 := sc3_eq.2 ⟨rfl, rfl⟩
theorem fr_lt {x1 w1 x2 w2 x3 w3 : Int} (h1 : 0 < w1) (h2 : 0 < w2) (h3 : 0 < w3) (a : x1 * w2 ≤ x2 * w1) (b : x2 * w3 < x3 * w2) : x1 * w3 < x3 * w1 := by
 have e1 := Int.mul_le_mul_of_nonneg_right a (Int.le_of_lt h3)
 have e2 := Int.mul_lt_mul_of_pos_right b h1
 refine Int.lt_of_mul_lt_mul_right (a := w2) ?_ (Int.le_of_lt h2)
 have p1 : x1 * w3 * w2 = x1 * w2 * w3 := Int.mul_right_comm ..
 have p2 : x3 * w1 * w2 = x3 * w2 * w1 := Int.mul_right_comm ..
 have p3 : x2 * w1 * w3 = x2 * w3 * w1 := Int.mul_right_comm ..
 omega
theorem fr_lt' {x1 w1 x2 w2 x3 w3 : Int} (h1 : 0 < w1) (h2 : 0 < w2) (h3 : 0 < w3) (a : x1 * w2 < x2 * w1) (b : x2 * w3 ≤ x3 * w2) : x1 * w3 < x3 * w1 := by
 have e1 := Int.mul_lt_mul_of_pos_right a h3
 have e2 := Int.mul_le_mul_of_nonneg_right b (Int.le_of_lt h1)
 refine Int.lt_of_mul_lt_mul_right (a := w2) ?_ (Int.le_of_lt h2)
 have p1 : x1 * w3 * w2 = x1 * w2 * w3 := Int.mul_right_comm ..
 have p2 : x3 * w1 * w2 = x3 * w2 * w1 := Int.mul_right_comm ..
 have p3 : x2 * w1 * w3 = x2 * w3 * w1 := Int.mul_right_comm ..
 omega
theorem fr_eq {x1 w1 x2 w2 x3 w3 : Int} (h2 : 0 < w2) (a : x1 * w2 = x2 * w1) (b : x2 * w3 = x3 * w2) : x1 * w3 = x3 * w1 := by
 refine Int.eq_of_mul_eq_mul_right (a := w2) (by omega) ?_
 have p1 : x1 * w3 * w2 = x1 * w2 * w3 := Int.mul_right_comm ..
 have p2 : x3 * w1 * w2 = x3 * w2 * w1 := Int.mul_right_comm ..
 have p3 : x2 * w1 * w3 = x2 * w3 * w1 := Int.mul_right_comm ..
 rw [p1, a, p3, b, p2]
theorem sc3_trans {p q r : S3} (hp : Ok3 p) (hq : Ok3 q) (hr : Ok3 r) (h : sc3 p q ≤ 0) (k : sc3 q r < 0) : sc3 p r < 0 := by
 have w1 := hp.w1
 have w2 := hq.w1
 have w3 := hr.w1
 rw [sc3_lt] at k ⊢
 rcases Int.lt_or_eq_of_le h with h | h
 ·rw [sc3_lt] at h
  rcases h with h | ⟨h, h'⟩
  ·rcases k with k | ⟨k, k'⟩
   ·exact .inl (fr_lt' w1 w2 w3 h (Int.le_of_lt k))
   ·exact .inl (fr_lt' w1 w2 w3 h (Int.le_of_eq k))
  ·rcases k with k | ⟨k, k'⟩
   ·exact .inl (fr_lt w1 w2 w3 (Int.le_of_eq h) k)
   ·exact .inr ⟨fr_eq w2 h k, fr_lt' w1 w2 w3 h' (Int.le_of_lt k')⟩
 ·rw [sc3_eq] at h
  rcases k with k | ⟨k, k'⟩
  ·exact .inl (fr_lt w1 w2 w3 (Int.le_of_eq h.1) k)
  ·exact .inr ⟨fr_eq w2 h.1 k, fr_lt w1 w2 w3 (Int.le_of_eq h.2) k'⟩
theorem fit_of {p : S3} (h : Ok3 p) : Wd.Fit p.1 ∧ Wd.Fit p.2.1 ∧ Wd.Fit p.2.2 := ⟨(pr3 h).x.fit rfl, (pr3 h).y.fit rfl, (pr3 h).w.fit rfl⟩
theorem tc_inj {x y : Int} (hx : Wd.Fit x) (hy : Wd.Fit y) (h : ∀ i, i < 4 → Wd.lb (Wd.tc x) i = Wd.lb (Wd.tc y) i) : x = y := by
 have e := Wd.lb_ext h
 rw [Nat.mod_eq_of_lt (Wd.tc_lt x), Nat.mod_eq_of_lt (Wd.tc_lt y)] at e
 have e' : ((Wd.tc x : Nat) : Int) = Wd.tc y := by rw [e]
 rw [Wd.tc_cast, Wd.tc_cast] at e'
 unfold Wd.Fit at hx hy
 have hB : (Wd.B4 : Int) = 115792089237316195423570985008687907853269984665640564039457584007913129639936 := by rfl
 rw [hB] at e'
 simp only [Wd.H4] at hx hy
 omega
theorem spf_inj {p q : S3} (h : Ok3 p) (k : Ok3 q) (e : spf p = spf q) : p = q := by
 obtain ⟨h1, h2, h3⟩ := fit_of h
 obtain ⟨k1, k2, k3⟩ := fit_of k
 have g := fun i => congrFun e i
 have n : ∀ {a b : Nat}, ((a : Nat) : Int) = b → a = b := fun h => Int.ofNat.inj h
 obtain ⟨p1, p2, p3⟩ := p
 obtain ⟨q1, q2, q3⟩ := q
 have e1 : p1 = q1 := tc_inj h1 k1 fun i hi => by
  match i, hi with
  | 0, _ => exact n (g 0)
  | 1, _ => exact n (g 1)
  | 2, _ => exact n (g 2)
  | 3, _ => exact n (g 3)
 have e2 : p2 = q2 := tc_inj h2 k2 fun i hi => by
  match i, hi with
  | 0, _ => exact n (g 4)
  | 1, _ => exact n (g 5)
  | 2, _ => exact n (g 6)
  | 3, _ => exact n (g 7)
 have e3 : p3 = q3 := tc_inj h3 k3 fun i hi => by
  match i, hi with
  | 0, _ => exact n (g 8)
  | 1, _ => exact n (g 9)
  | 2, _ => exact n (g 10)
  | 3, _ => exact n (g 11)
 rw [e1, e2, e3]
noncomputable def cQ (v : S3) (qs : List S3) (u : Nat → Int) : Int := by
 classical exact if h : ∃ s ∈ qs, spf s = u then sc3 v h.choose else 0
theorem cQ_eq {v : S3} {qs : List S3} (hq : ∀ s ∈ qs, Ok3 s) {s : S3} (hs : s ∈ qs) : cQ v qs (spf s) = sc3 v s := by
 unfold cQ
 have h : ∃ s' ∈ qs, spf s' = spf s := ⟨s, hs, rfl⟩
 rw [dif_pos h]
 have := h.choose_spec
 rw [spf_inj (hq _ this.1) (hq _ hs) this.2]
def Srt (qs : List S3) : Prop := qs.Pairwise fun a b => sc3 a b < 0
def PutR (v : S3) (qs q' : List S3) : Prop := (q' = qs ∧ ∃ u ∈ qs, sc3 v u = 0) ∨ ∃ A B, qs = A ++ B ∧ (∀ a ∈ A, 0 < sc3 v a) ∧ (∀ b ∈ B, sc3 v b < 0) ∧ q' = A ++ v :: B
section
variable {root : Nat} {n : Int} {ns : List Nd} {fs : List Nat}
def Put3 (root : Nat) (n : Int) (ns : List Nd) (fs : List Nat) (v : S3) (qs : List S3) : Prop :=
 ∃ (root' : Nat) (n' : Int) (ns' : List Nd) (fs' : List Nat) (q' : List S3) (b : Bool), PutR v qs q' ∧ Q root' n' ns' fs' (q'.map spf) ∧ ns'.length ≤ ns.length + 1 ∧
  FnP Tryz.prog 244 (Tr3 cmpV root n ns fs) [.a (.p 0 0), sp3 v] [TBx cmpV 3 4 root' n', .dead, .dead] [NO ns', FO fs'] (vb b)
theorem put3 {v : S3} {qs : List S3} (h : Q root n ns fs (qs.map spf)) (hq : ∀ s ∈ qs, Ok3 s) (hs : Srt qs) (hv : Ok3 v) (hl : ns.length < 10000000000) : Put3 root n ns fs v qs := by
 have hc : ∀ u ∈ qs.map spf, CmpIs (spf v) u (cQ v qs u) := fun u hu => by
  obtain ⟨s, hs, rfl⟩ := List.mem_map.1 hu
  rw [cQ_eq hq hs]; exact cmpIs hv (hq s hs)
 have hm : (qs.map spf).Pairwise fun a b => cQ v qs a ≤ 0 → cQ v qs b < 0 := by
  rw [List.pairwise_map]
  refine hs.imp_of_mem fun {a b} ha hb hab h => ?_
  rw [cQ_eq hq ha] at h
  rw [cQ_eq hq hb]
  exact sc3_trans hv (hq a ha) (hq b hb) h hab
 rcases put_any h (spf v) (cQ v qs) hc hm hl with ⟨⟨u, hu, h0⟩, hf⟩ | ⟨root', n', ns', fs', A, B, e, hA, hB, hQ, hl', hf⟩
 ·obtain ⟨s, hs', rfl⟩ := List.mem_map.1 hu
  rw [cQ_eq hq hs'] at h0
  exact ⟨root, n, ns, fs, qs, false, .inl ⟨rfl, s, hs', h0⟩, h, by omega, hf⟩
 ·obtain ⟨A', B', e', eA, eB⟩ := List.map_eq_append_iff.1 e
  subst e' eA eB
  refine ⟨root', n', ns', fs', A' ++ v :: B', true, .inr ⟨A', B', rfl, fun a ha => ?_, fun b hb => ?_, rfl⟩, by rw [List.map_append, List.map_cons]; exact hQ, hl', hf⟩
  ·have := hA _ (List.mem_map_of_mem ha)
   rwa [cQ_eq hq (by simp [ha])] at this
  ·have := hB _ (List.mem_map_of_mem hb)
   rwa [cQ_eq hq (by simp [hb])] at this
theorem PutR.srt {v : S3} {qs q' : List S3} (h : PutR v qs q') (hs : Srt qs) : Srt q' := by
 rcases h with ⟨rfl, _⟩ | ⟨A, B, rfl, hA, hB, rfl⟩
 ·exact hs
 ·obtain ⟨h1, h2, h3⟩ := List.pairwise_append.1 hs
  refine List.pairwise_append.2 ⟨h1, List.pairwise_cons.2 ⟨hB, h2⟩, fun a ha b hb => ?_⟩
  rcases List.mem_cons.1 hb with rfl | hb
  ·exact sc3_flip.2 (hA a ha)
  ·exact h3 a ha b hb
theorem PutR.mem {v : S3} {qs q' : List S3} (h : PutR v qs q') {s : S3} (hs : s ∈ q') : s = v ∨ s ∈ qs := by
 rcases h with ⟨rfl, _⟩ | ⟨A, B, rfl, hA, hB, rfl⟩
 ·exact .inr hs
 ·simp at hs ⊢; rcases hs with h | h | h <;> simp [h]
theorem PutR.sub {v : S3} {qs q' : List S3} (h : PutR v qs q') {s : S3} (hs : s ∈ qs) : s ∈ q' := by
 rcases h with ⟨rfl, _⟩ | ⟨A, B, rfl, hA, hB, rfl⟩
 ·exact hs
 ·simp at hs ⊢; rcases hs with h | h <;> simp [h]
theorem PutR.has {v : S3} {qs q' : List S3} (h : PutR v qs q') : ∃ u ∈ q', sc3 v u = 0 := by
 rcases h with ⟨rfl, u, h1, h2⟩ | ⟨A, B, rfl, hA, hB, rfl⟩
 ·exact ⟨u, h1, h2⟩
 ·exact ⟨v, by simp, sc3_self v⟩
end
end Go.Proofs.YtlkhneiccjhgdaaGreat
set_option maxRecDepth 100000
namespace Go.Proofs.YtlkhneiccjhgdaaGreat
open Go.Eo Go.RowKit Go.Rg
abbrev LNd (segs : List E4) (root : Nat) (n : Int) (st ss : List Int) : List Ob :=
 [.box [.w 1, .p 2 0, .w 5, .w 6] 310, .sl 4 (gl segs), TBx cmpV 7 8 root n, .dead, .dead, .sl 1 (il st), .sl 1 (il ss)]
def meet4 (s t : E4) : E4 := meetF s.1 s.2.1 s.2.2.1 s.2.2.2 t.1 t.2.1 t.2.2.1 t.2.2.2
def m3 (m : E4) : S3 := m.2
theorem pbif {α : Type} {P : α → Prop} {b : Bool} {x y : α} (hx : b = true → P x) (hy : b = false → P y) : P (bif b then x else y) := by
 cases b with
 | true => exact hx rfl
 | false => exact hy rfl
theorem meetF_ok {s t : E4} (h : Sr4 s) (k : Sr4 t) : (meet4 s t).1 = 1 → Ok3 (m3 (meet4 s t)) := by
 let P : E4 → Prop := fun m => m.1 = 1 → Ok3 (m3 m)
 have z : P (0, 0, 0, 0) := fun e => absurd e (by decide)
 have he := Sr.e h
 have ke := Sr.e k
 show P (meet4 s t)
 unfold meet4 meetF
 refine pbif (P := P) (fun _ _ => spot1 h.a h.b) fun _ => pbif (P := P) (fun _ _ => spot1 k.a k.b) fun _ => pbif (P := P) (fun _ => z) fun _ => pbif (P := P) (fun _ => pbif (P := P) (fun _ => ?_) fun _ => z) fun hsl => pbif (P := P) (fun hb => ?_) fun _ => z
 ·unfold sharedF shK
  refine pbif (P := P) (fun _ _ => ?_) fun _ => pbif (P := P) (fun _ e => absurd e (by decide)) fun _ => z
  have hf : Ab (frF (endsF s.1 s.2.1 s.2.2.1 s.2.2.2) (endsF t.1 t.2.1 t.2.2.1 t.2.2.2)).1 A1 ∧ Ab (frF (endsF s.1 s.2.1 s.2.2.1 s.2.2.2) (endsF t.1 t.2.1 t.2.2.1 t.2.2.2)).2 A1 := by
   unfold frF
   exact pbif (P := fun f : Int × Int => Ab f.1 A1 ∧ Ab f.2 A1) (fun _ => ⟨ke.a, ke.b⟩) fun _ => ⟨he.a, he.b⟩
  exact spot1 hf.1 hf.2
 ·intro _
  simp only [Bool.and_eq_true] at hb
  have hc := cross4_w h k (fun e => by rw [decide_eq_true e] at hsl; cases hsl)
  exact spB_ok hc.1 hc.2.1 hb.1
section
variable {segs : List E4} {root : Nat} {n : Int} {ns : List Nd} {fs : List Nat} {st ss : List Int} {p : S3} {qs : List S3}
def LookR (segs : List E4) (ss : List Int) (i k : Int) (p : S3) (qs q' : List S3) : Prop :=
 if i < 0 ∨ (ss.length : Int) ≤ k then q' = qs else
  if (meet4 (sg segs (ss.getD i.toNat 0)) (sg segs (ss.getD k.toNat 0))).1 = 1 ∧ 0 < sc3 (m3 (meet4 (sg segs (ss.getD i.toNat 0)) (sg segs (ss.getD k.toNat 0)))) p then PutR (m3 (meet4 (sg segs (ss.getD i.toNat 0)) (sg segs (ss.getD k.toNat 0)))) qs q' else q' = qs
def Look3 (segs : List E4) (root : Nat) (n : Int) (ns : List Nd) (fs : List Nat) (st ss : List Int) (i k : Int) (p : S3) (qs : List S3) : Prop :=
 ∃ (root' : Nat) (n' : Int) (ns' : List Nd) (fs' : List Nat) (q' : List S3), LookR segs ss i k p qs q' ∧ Q root' n' ns' fs' (q'.map spf) ∧ ns'.length ≤ ns.length + 1 ∧
  FnP Tryz.prog 258 (LN segs root n ns fs st ss) [.a (.p 0 0), vi i, vi k, sp3 p] (LNd segs root' n' st ss) [NO ns', FO fs'] unit
theorem look_ok (hQ : Q root n ns fs (qs.map spf)) (hq : ∀ s ∈ qs, Ok3 s) (hsq : Srt qs) (hs : Segs segs) (hss : ∀ k, k < ss.length → Num segs (ss.getD k 0)) (hl : ss.length < 10000000000) (hp : Ok3 p) (i k : Int) (hi : i < ss.length) (hk : 0 ≤ k) (hnl : ns.length < 10000000000) :
  Look3 segs root n ns fs st ss i k p qs := by
 have hlen := il_len ss
 have hv : (Value.int .i64 ((il ss).length : Int)) = i6 ss.length := by rw [hlen]
 by_cases c1 : i < 0
 ·exact ⟨root, n, ns, fs, qs, by unfold LookR; rw [if_pos (.inl c1)], hQ, by omega, fq Tryz.func258 fun C => dn (.v 11 (bt c1) .nil) [0, 1, 2, 3, 4, 5, 6, 3, 4] (by kernel_rfl) (by kernel_rfl)⟩
 ·by_cases c2 : (ss.length : Int) ≤ k
  ·exact ⟨root, n, ns, fs, qs, by unfold LookR; rw [if_pos (.inr c2)], hQ, by omega, fq Tryz.func258 fun C => dn (.v 11 (bf c1) <| .v 18 hv <| .v 19 (bt (show k ≥ (ss.length : Int) from c2)) .nil) [0, 1, 2, 3, 4, 5, 6, 3, 4] (by kernel_rfl) (by kernel_rfl)⟩
  ·have hi' : i.toNat < ss.length := by omega
   have hk' : k.toNat < ss.length := by omega
   have n1 := hss _ hi'
   have n2 := hss _ hk'
   have M := Meet_ok _ _ _ _ _ _ _ _ (hs.at n1) (hs.at n2)
   have hmo := meetF_ok (hs.at n1) (hs.at n2)
   have its : True := trivial
   have hR : ∀ q', (if (meet4 (sg segs (ss.getD i.toNat 0)) (sg segs (ss.getD k.toNat 0))).1 = 1 ∧ 0 < sc3 (m3 (meet4 (sg segs (ss.getD i.toNat 0)) (sg segs (ss.getD k.toNat 0)))) p then PutR (m3 (meet4 (sg segs (ss.getD i.toNat 0)) (sg segs (ss.getD k.toNat 0)))) qs q' else q' = qs) → LookR segs ss i k p qs q' := fun q' h => by
    unfold LookR; rw [if_neg (fun h => h.elim c1 c2)]; exact h
   have M' : FnP Tryz.prog 273 [] [gA4 (sg segs (ss.getD i.toNat 0)), gA4 (sg segs (ss.getD k.toNat 0))] [] [] (mA (meet4 (sg segs (ss.getD i.toNat 0)) (sg segs (ss.getD k.toNat 0)))) := M
   clear M
   revert hR M' hmo
   generalize meet4 (sg segs (ss.getD i.toNat 0)) (sg segs (ss.getD k.toNat 0)) = m
   intro hmo hR M'
   replace its := fun (C : Cx) (r : List It) (R : Its Tryz.prog C.W C.D r) => (.v 11 (bf c1) <| .v 18 hv <| .v 19 (bf (show ¬ k ≥ (ss.length : Int) from c2)) <| .i (z := i) (n := i.toNat) (len := (il ss).length) 31 (by omega) (by rw [hlen]; exact hi') <| .l 32 (il_at ss hi') <|
    .i (z := ss.getD i.toNat 0) (n := (ss.getD i.toNat 0).toNat) (len := (gl segs).length) 33 (by have := n1.1; omega) (by rw [gl_len]; exact n1.2) <| .l 34 (gl_at segs n1.2) <| .i (z := k) (n := k.toNat) (len := (il ss).length) 44 (by omega) (by rw [hlen]; exact hk') <| .l 45 (il_at ss hk') <|
    .i (z := ss.getD k.toNat 0) (n := (ss.getD k.toNat 0).toNat) (len := (gl segs).length) 46 (by have := n2.1; omega) (by rw [gl_len]; exact n2.2) <| .l 47 (gl_at segs n2.2) <| .f 48 [] [] M' R : Its Tryz.prog C.W C.D _)
   by_cases e1 : m.1 = 1
   ·have hok := hmo e1
    have Cm := cmp3_ok hok hp
    by_cases e2 : 0 < sc3 (m3 m) p
    ·obtain ⟨root', n', ns', fs', q', b, r1, r2, r3, r4⟩ := put3 hQ hq hsq hok hnl
     exact ⟨root', n', ns', fs', q', hR q' (by rw [if_pos ⟨e1, e2⟩]; exact r1), r2, r3, fq Tryz.func258 fun C => dn (its C _ <| .v 52 (et e1) <| .f 56 [] [] Cm <| .v 57 (gt_t e2) <| .f 64 [2, 3, 4] [] r4 .nil) [0, 1, 2, 3, 4, 5, 6, 9, 10] (by kernel_rfl) (by kernel_rfl)⟩
    ·exact ⟨root, n, ns, fs, qs, hR qs (by rw [if_neg (fun h => e2 h.2)]), hQ, by omega, fq Tryz.func258 fun C => dn (its C _ <| .v 52 (et e1) <| .f 56 [] [] Cm <| .v 57 (gt_f e2) .nil) [0, 1, 2, 3, 4, 5, 6, 3, 4] (by kernel_rfl) (by kernel_rfl)⟩
   ·exact ⟨root, n, ns, fs, qs, hR qs (by rw [if_neg (fun h => e1 h.1)]), hQ, by omega, fq Tryz.func258 fun C => dn (its C _ <| .v 52 (ef e1) .nil) [0, 1, 2, 3, 4, 5, 6, 3, 4] (by kernel_rfl) (by kernel_rfl)⟩
end
end Go.Proofs.YtlkhneiccjhgdaaGreat
set_option maxRecDepth 100000
namespace Go.Proofs.YtlkhneiccjhgdaaGreat
open Go.RowKit Go.Rg
attribute [local go_sem] Oper.semAt_some
theorem growI_any (n : Nat) (w : World) (hn : n ≤ 100000000000) :
  Calls Tryz.prog 271 #[.slice none 0 0, .int .i64 n] w fun e w' => ∃ u, e = .returned u ∧ w'.ownsRow w.heap.size 3 1 u 0 [] ∧ Below w.heap.size w w' := by
 go_enter Tryz.func271, Tryz.ntmps271
 rcases Nat.eq_zero_or_pos n with rfl | h0
 ·go_wp2_with fail
  go_ret
  exact ⟨_, rfl, World.ownsRow_nil _ _ _ _, Below.refl _ _⟩
 ·have hb : Tryz.t3.bytes = 8 := rfl
  have h1 : (n:Int) * 8 ≤ 281474976710656 := by omega
  have h2 : ¬ n = 0 := by omega
  have h3 : (n:Int) ≤ 9223372036854775807 := by omega
  have hfit : Builtin.nextslicecap n 0 * 8 ≤ 281474976710656 := by
   have := Go.growslice_fits (need := n) (old := 0) (bytes := 8) (by omega) (by omega)
   omega
  go_wp2_with fail
  go_ret
  refine ⟨_, rfl, World.ownsRow_made w _ _ (Nat.le_refl _) (grownCap_le_maxLen w n 0 3 (by simp only [maxLen]; omega)) ?_, ?_⟩
  ·have hge := grownCap_ge w n 0 3
   simp only [grownCap] at hge
   simp only [Array.size_append, size_zeroCells]
   simp only [Array.size, List.length_cons, List.length_nil]
   omega
  ·exact ((Below.refl _ w).alloc (Nat.le_refl _) _).drew
end Go.Proofs.YtlkhneiccjhgdaaGreat
set_option maxRecDepth 100000
namespace Go.Proofs.YtlkhneiccjhgdaaGreat
open Go.Eo Go.RowKit Go.Rg
theorem grow_ok (n : Nat) (hn : n ≤ 100000000000) : FnP Tryz.prog 271 [] [.a (.v (.slice none 0 0)), vi n] [] [.row 3 1 (il [])] (.a (.w 0)) := by
 refine ⟨rfl, rfl, fun η ι w hM => (growI_any n w hn).mono ?_⟩
 rintro e w' ⟨u, he, ho, hb⟩
 have hob : ∀ g, u.ownBlock = some g → w.heap.size ≤ g := fun g hg => (ho.lt g hg).1
 have hu : slV u = u := by
  rcases ho.2 with ⟨rfl, _⟩ | ⟨g, cap, cur, rfl, _⟩ <;> rfl
 have hx : ∀ (j : Nat) (ob : Ob), ([] ++ [Ob.row 3 1 (il [])])[j]? = some ob → ob = .row 3 1 [] ∧ j = 0 := fun j ob h => by
  cases j with
  | zero => cases h; exact ⟨rfl, rfl⟩
  | succ j => cases h
 refine ⟨fun _ => u, ι, by rw [he]; simp [AV.c, AC.c, hu], fun j hj => (by cases hj), ⟨fun j ob h => ?_, fun j j' ob ob' g h h' hm hm' => ?_, fun j ob g h hm => ?_, fun g hg => Nat.lt_of_lt_of_le (hM.il g hg) hb.size⟩, ⟨hb.os, hb.tape, hb.output, hb.size, fun k _ hk => hb.block k hk⟩, fun g hg => hg, fun g hg => .inl hg, fun g ⟨j, ob, h, hm⟩ => ?_⟩
 ·obtain ⟨rfl, rfl⟩ := hx j ob h
  refine ⟨fun e he => (by cases he), [], ⟨ho.1, ?_⟩, fun i e j d he => (by cases he)⟩
  rcases ho.2 with h | ⟨g, cap, cur, h1, _, h3⟩
  ·exact .inl h
  ·exact .inr ⟨g, cap, cur, h1, Nat.zero_le _, h3⟩
 ·rw [(hx j ob h).2, (hx j' ob' h').2]
 ·obtain ⟨rfl, rfl⟩ := hx j ob h
  intro hg
  have := hob g hm
  have := hM.il g hg
  omega
 ·obtain ⟨rfl, rfl⟩ := hx j ob h
  exact .inr (hob g hm)
abbrev cl (ls : List (List Int)) : List (List Dt) := ls.map fun l => [.s 1 (il l)]
theorem cl_len (ls : List (List Int)) : (cl ls).length = ls.length := List.length_map _
theorem cl_at (ls : List (List Int)) {k : Nat} (h : k < ls.length) : (cl ls)[k]? = some [.s 1 (il (ls.getD k []))] := map_at (fun l => [Dt.s 1 (il l)]) ls [] h
theorem flat_succ (ls : List (List Int)) {k : Nat} (h : k < ls.length) : (ls.take (k + 1)).flatten = (ls.take k).flatten ++ ls.getD k [] := by
 rw [List.take_add_one, List.flatten_append, List.getD_eq_getElem?_getD, List.getElem?_eq_getElem h]; simp
theorem flat_le (ls : List (List Int)) (k : Nat) : (ls.take k).flatten.length ≤ ls.flatten.length := by
 have : ls.flatten = (ls.take k).flatten ++ (ls.drop k).flatten := by rw [← List.flatten_append, List.take_append_drop]
 rw [this, List.length_append]; omega
noncomputable abbrev concB : Code := Tryz.f255.body.getD .skip
theorem concat_ok (ls : List (List Int)) (h1 : ls.length < 10000000000) (h2 : ls.flatten.length < 10000000000) : FnP Tryz.prog 255 [.sl 1 (cl ls)] [.a (.w 0)] [.sl 1 (cl ls)] [.row 3 1 (il ls.flatten)] (.a (.w 1)) := by
 refine fq Tryz.func255 fun C => ?_
 have hlen := cl_len ls
 have hv : (Value.int .i64 ((cl ls).length : Int)) = i6 ls.length := by rw [hlen]
 refine gq [3] (lp 3 concB []) (.v 10 hv .nil) [0] [(0, .a (.w 0)), (3, vi ((([] : List Int).length : Nat) : Int)), (9, .a (.w 0)), (10, vi ls.length), (11, vi ((0 : Nat) : Int))] [.sl 1 (cl ls)] fun d => ?_
 refine loop (β := { k : Nat // k ≤ ls.length }) (fun k d => ⟨d, [(0, .a (.w 0)), (3, vi ((ls.take k.1).flatten.length : Nat)), (9, .a (.w 0)), (10, vi ls.length), (11, vi (k.1 : Nat))], mkX [.sl 1 (cl ls)]⟩) (fun k => ls.length - k.1) (by kernel_rfl) (fun x K ih d => ?_) ⟨0, Nat.zero_le _⟩ d
 obtain ⟨k, hk⟩ := x
 by_cases h : k < ls.length
 ·have fs := flat_succ ls h
  have fl := flat_le ls (k + 1)
  have e : (ls.take (k + 1)).flatten.length = (ls.take k).flatten.length + (ls.getD k []).length := by rw [fs, List.length_append]
  refine gq [] (lpK 3 concB [] K) (.v 12 (bt (show (k : Int) < (ls.length : Nat) by omega)) <| .i (z := (k : Int)) (n := k) (len := (cl ls).length) 13 rfl (by rw [hlen]; exact h) <| .l 14 (cl_at ls h) <| .v 17 (x := .int .i64 ((il (ls.getD k [])).length : Int)) (y := i6 ((ls.getD k []).length : Nat)) (by rw [il_len]) <|
   .v 18 (x := .int .i64 (IntKind.i64.wrap (((ls.take k).flatten.length : Nat) + ((ls.getD k []).length : Nat) : Int))) (y := i6 ((ls.take (k + 1)).flatten.length : Nat)) (by rw [w64 (by omega)]; exact congrArg i6 (by omega)) <| .v 20 (bf (show ¬ (((ls.take (k + 1)).flatten.length : Nat) : Int) < 0 by omega)) <| .v 22 (x := .int .i64 (IntKind.i64.wrap ((k : Int) + 1))) (y := i6 ((k + 1 : Nat) : Int)) (w64 (z := (k : Int) + 1) (by omega)) .nil)
   [0] [(0, .a (.w 0)), (3, vi ((ls.take (k + 1)).flatten.length : Nat)), (9, .a (.w 0)), (10, vi ls.length), (11, vi ((k + 1 : Nat) : Int))] [.sl 1 (cl ls)] fun d => ?_
  exact ih ⟨k + 1, h⟩ d (by simp only; omega)
 ·have hk' : k = ls.length := by omega
  subst hk'
  have et : ls.take ls.length = ls := List.take_length
  rw [et]
  refine gq [11] (lp 11 concB []) (.v 12 (bf (show ¬ ((ls.length : Nat) : Int) < (ls.length : Nat) by omega)) <| .f 24 [] [] (grow_ok ls.flatten.length (by omega)) <| .v 26 hv .nil) [0, 1] [(0, .a (.w 0)), (6, .a (.w 1)), (25, .a (.w 0)), (26, vi ls.length), (27, vi ((0 : Nat) : Int))] [.sl 1 (cl ls), .row 3 1 (il [])] fun d => ?_
  refine loop (β := { k : Nat // k ≤ ls.length }) (fun k d => ⟨d, [(0, .a (.w 0)), (6, .a (.w 1)), (25, .a (.w 0)), (26, vi ls.length), (27, vi (k.1 : Nat))], mkX [.sl 1 (cl ls), .row 3 1 (il (ls.take k.1).flatten)]⟩) (fun k => ls.length - k.1) (by kernel_rfl) (fun x K' ih' d => ?_) ⟨0, Nat.zero_le _⟩ d
  obtain ⟨k, hk⟩ := x
  by_cases h : k < ls.length
  ·have fs := flat_succ ls h
   have fl := flat_le ls (k + 1)
   have e : (ls.take (k + 1)).flatten.length = (ls.take k).flatten.length + (ls.getD k []).length := by rw [fs, List.length_append]
   have z1 := il_len (ls.take k).flatten
   have z2 := il_len (ls.getD k [])
   refine gq [] (lpK 11 concB [] K') (.v 28 (bt (show (k : Int) < (ls.length : Nat) by omega)) <| .i (z := (k : Int)) (n := k) (len := (cl ls).length) 29 rfl (by rw [hlen]; exact h) <| .l 30 (cl_at ls h) <| .a (n := (il (ls.take k).flatten).length + (il (ls.getD k [])).length) (bytes := 8) 33 (by unfold maxLen; omega) (by omega) <|
    .v 34 (x := .int .i64 (IntKind.i64.wrap ((k : Int) + 1))) (y := i6 ((k + 1 : Nat) : Int)) (w64 (z := (k : Int) + 1) (by omega)) <| .o (x := .row 3 1 (il (ls.take k).flatten ++ il (ls.getD k []))) (y := .row 3 1 (il (ls.take (k + 1)).flatten)) 1000 3 (by rw [fs, ← List.map_append]) .nil)
    [0, 3] [(0, .a (.w 0)), (6, .a (.w 1)), (25, .a (.w 0)), (26, vi ls.length), (27, vi ((k + 1 : Nat) : Int))] [.sl 1 (cl ls), .row 3 1 (il (ls.take (k + 1)).flatten)] fun d => ?_
   exact ih' ⟨k + 1, h⟩ d (by simp only; omega)
  ·have hk' : k = ls.length := by omega
   subst hk'
   have et' : il (ls.take ls.length).flatten = il ls.flatten := by rw [et]
   exact dn (.v 28 (bf (show ¬ ((ls.length : Nat) : Int) < (ls.length : Nat) by omega)) <| .o (x := .row 3 1 (il (ls.take ls.length).flatten)) (y := .row 3 1 (il ls.flatten)) 1000 1 (by rw [et']) .nil) [0, 1]
end Go.Proofs.YtlkhneiccjhgdaaGreat
set_option maxRecDepth 100000
namespace Go.Proofs.YtlkhneiccjhgdaaGreat
open Go.Eo Go.RowKit Go.Rg
theorem flat_il (l : List Int) : ∀ ob ∈ [Ob.row 3 1 (il l)], Flat ob := fun ob h => by
 simp only [List.mem_singleton] at h
 subst h
 intro e he d hd
 obtain ⟨x, _, rfl⟩ := List.mem_map.1 he
 simp only [List.mem_singleton] at hd
 subst hd; rfl
def gon (segs : List E4) (p : S3) (x : Int) : Bool := decide (0 < sc3 (highS (sg segs x)) p)
def goesF (segs : List E4) (p : S3) (on : List Int) : List Int := Mg.sortB (leO (oS segs)) (on.filter (gon segs p))
noncomputable abbrev goesB : Code := Tryz.f257.body.getD .skip
theorem filter_succ (f : Int → Bool) (l : List Int) {k : Nat} (h : k < l.length) : (l.take (k + 1)).filter f = (l.take k).filter f ++ (if f (l.getD k 0) then [l.getD k 0] else []) := by
 rw [List.take_add_one, List.filter_append, List.getD_eq_getElem?_getD, List.getElem?_eq_getElem h]
 simp only [Option.toList_some, Option.getD_some]
 cases hf : f l[k] <;> simp [hf]
theorem goes_ok {segs : List E4} {p : S3} {on : List Int} (hs : Segs segs) (hn : ∀ x ∈ on, Num segs x) (hl : on.length < 10000000000) (hp : Ok3 p) :
  FnP Tryz.prog 257 [.sl 4 (gl segs), .sl 1 (il on)] [sp3 p, .a (.w 0), .a (.w 1)] [.sl 4 (gl segs), .sl 1 (il on)] [.row 3 1 (il (goesF segs p on))] (.a (.w 2)) := by
 refine fq Tryz.func257 fun C => ?_
 have hlen := il_len on
 have hv : (Value.int .i64 ((il on).length : Int)) = i6 on.length := by rw [hlen]
 refine gq [3] (lp 3 goesB []) (.v 11 hv <| .n 1000 7 3 1 .nil) [0, 1, 2, 3] [(1, .a (.w 0)), (3, .a (.p 2 0)), (7, .a (.w 3)), (10, .a (.w 1)), (11, vi on.length), (12, vi ((0 : Nat) : Int))] [.sl 4 (gl segs), .sl 1 (il on), spB3 p, .row 3 1 (il [])] fun d => ?_
 refine loop (β := { k : Nat // k ≤ on.length }) (fun k d => ⟨d, [(1, .a (.w 0)), (3, .a (.p 2 0)), (7, .a (.w 3)), (10, .a (.w 1)), (11, vi on.length), (12, vi (k.1 : Nat))], mkX [.sl 4 (gl segs), .sl 1 (il on), spB3 p, .row 3 1 (il ((on.take k.1).filter (gon segs p)))]⟩) (fun k => on.length - k.1) (by kernel_rfl) (fun x K ih d => ?_) ⟨0, Nat.zero_le _⟩ d
 obtain ⟨k, hk⟩ := x
 by_cases h : k < on.length
 ·have hm' : on.getD k 0 ∈ on := by rw [List.getD_eq_getElem?_getD, List.getElem?_eq_getElem h]; exact List.getElem_mem _
  have hx := hn _ hm'
  have fl : ((on.take k).filter (gon segs p)).length ≤ k := Nat.le_trans (List.length_filter_le _ _) (by simp; omega)
  have z := il_len ((on.take k).filter (gon segs p))
  have fs := filter_succ (gon segs p) on h
  have its := fun (r : List It) (R : Its Tryz.prog C.W C.D r) => (.v 13 (bt (show (k : Int) < (on.length : Nat) by omega)) <| .i (z := (k : Int)) (n := k) (len := (il on).length) 14 rfl (by rw [hlen]; exact h) <| .l 15 (il_at on h) <| .i (z := on.getD k 0) (n := (on.getD k 0).toNat) (len := (gl segs).length) 18 (by have := hx.1; omega) (by rw [gl_len]; exact hx.2) <| .l 19 (gl_at segs hx.2) <|
   .f 20 [] [] (high_ok (hs.at hx)) <| .f 22 [] [] (cmp3_ok (highS_ok (hs.at hx)) hp) R : Its Tryz.prog C.W C.D _)
  have hv28 : Value.int .i64 (IntKind.i64.wrap ((k : Int) + 1)) = i6 ((k + 1 : Nat) : Int) := w64 (z := (k : Int) + 1) (by omega)
  by_cases c : 0 < sc3 (highS (sg segs (on.getD k 0))) p
  ·rw [show gon segs p (on.getD k 0) = true by unfold gon; rw [decide_eq_true c], if_pos rfl] at fs
   refine gq [] (lpK 3 goesB [] K) (its _ <| .v 23 (gt_t c) <| .a (n := (il ((on.take k).filter (gon segs p))).length + 1) (bytes := 8) 27 (by unfold maxLen; omega) (by omega) <| .v 28 hv28 <| .o (x := .row 3 1 (il ((on.take k).filter (gon segs p)) ++ [[.v (i6 (on.getD k 0))]])) (y := .row 3 1 (il ((on.take (k + 1)).filter (gon segs p)))) 1000 5 (by rw [fs]; simp) .nil)
    [0, 1, 2, 5] [(1, .a (.w 0)), (3, .a (.p 2 0)), (7, .a (.w 3)), (10, .a (.w 1)), (11, vi on.length), (12, vi ((k + 1 : Nat) : Int))] [.sl 4 (gl segs), .sl 1 (il on), spB3 p, .row 3 1 (il ((on.take (k + 1)).filter (gon segs p)))] fun d => ?_
   exact ih ⟨k + 1, h⟩ d (by simp only; omega)
  ·rw [show gon segs p (on.getD k 0) = false by unfold gon; rw [decide_eq_false c], if_neg (by simp), List.append_nil] at fs
   refine gq [] (lpK 3 goesB [] K) (its _ <| .v 23 (gt_f c) <| .v 28 hv28 <| .o (x := .row 3 1 (il ((on.take k).filter (gon segs p)))) (y := .row 3 1 (il ((on.take (k + 1)).filter (gon segs p)))) 1000 3 (by rw [fs]) .nil)
    [0, 1, 2, 3] [(1, .a (.w 0)), (3, .a (.p 2 0)), (7, .a (.w 3)), (10, .a (.w 1)), (11, vi on.length), (12, vi ((k + 1 : Nat) : Int))] [.sl 4 (gl segs), .sl 1 (il on), spB3 p, .row 3 1 (il ((on.take (k + 1)).filter (gon segs p)))] fun d => ?_
   exact ih ⟨k + 1, h⟩ d (by simp only; omega)
 ·have hk' : k = on.length := by omega
  subst hk'
  have et : on.take on.length = on := List.take_length
  have hf : ∀ x ∈ (on.take on.length).filter (gon segs p), Num segs x := fun x hx => hn x (by rw [et] at hx; exact (List.mem_filter.1 hx).1)
  have fl : ((on.take on.length).filter (gon segs p)).length ≤ on.length := Nat.le_trans (List.length_filter_le _ _) (by rw [et]; exact Nat.le_refl _)
  have S := fnp_own [true, false, true] [0, 0, 3] (sort_ok .s (gl segs) (oS segs) ((on.take on.length).filter (gon segs p)) (by omega) (ordS hs hf hf)) rfl (flat_il _) rfl rfl rfl
  exact dn (.v 13 (bf (show ¬ ((on.length : Nat) : Int) < (on.length : Nat) by omega)) <| .f 31 [0] [0] (steeper_ok segs) <| .f 32 [4, 0, 3] [0, 1, 2] S <| .o (x := .row 3 1 (il (Mg.sortB (leO (oS segs)) ((on.take on.length).filter (gon segs p))))) (y := .row 3 1 (il (goesF segs p on))) 1000 5 (by rw [et]; rfl) .nil) [0, 1, 5]
end Go.Proofs.YtlkhneiccjhgdaaGreat
set_option maxRecDepth 100000
namespace Go.Proofs.YtlkhneiccjhgdaaGreat
open Go.Eo Go.RowKit Go.Rg
def atB (segs : List E4) (p : S3) (x : Int) : Bool := decide (sc3 (lowS (sg segs x)) p = 0)
def bgF (segs : List E4) (st : List Int) (p : S3) : Nat := (st.takeWhile (atB segs p)).length
theorem tw_len (f : Int → Bool) : ∀ (l : List Int) (k : Nat), k ≤ l.length → (∀ i, i < k → f (l.getD i 0) = true) → (k = l.length ∨ f (l.getD k 0) = false) → (l.takeWhile f).length = k
 | [], k, h, _, _ => by simp at h; simp [h]
 | x :: l, 0, _, _, h => by
  rcases h with h | h
  ·cases h
  ·have : f x = false := h
   simp [List.takeWhile, this]
 | x :: l, k + 1, h1, h2, h3 => by
  have hx : f x = true := h2 0 (Nat.succ_pos _)
  have := tw_len f l k (by simpa using h1) (fun i hi => h2 (i + 1) (by omega)) (h3.imp (fun h => by simpa using h) id)
  simp [List.takeWhile, hx, this]
theorem bgF_le (segs : List E4) (st : List Int) (p : S3) : bgF segs st p ≤ st.length := by
 unfold bgF
 have := congrArg List.length (List.takeWhile_append_dropWhile (p := atB segs p) (l := st))
 rw [List.length_append] at this; omega
noncomputable abbrev begB : Code := Tryz.f256.body.getD .skip
section
variable {segs : List E4} {root : Nat} {n : Int} {ns : List Nd} {fs : List Nat} {st ss : List Int} {p : S3}
abbrev LNb (segs : List E4) (root : Nat) (n : Int) (ns : List Nd) (fs : List Nat) (st ss : List Int) : List Ob :=
 [.box [.w 1, .p 2 0, .w 7, .w 6] 310, .sl 4 (gl segs), TBx cmpV 3 4 root n, NO ns, FO fs, .sl 1 (il st), .sl 1 (il ss)]
theorem begin_ok (hs : Segs segs) (hst : ∀ x ∈ st, Num segs x) (hl : st.length < 10000000000) (hp : Ok3 p) :
  FnP Tryz.prog 256 (LN segs root n ns fs st ss) [.a (.p 0 0), sp3 p] (LNb segs root n ns fs st ss) [.sl 1 (il (st.drop (bgF segs st p))), .sl 1 (il (st.take (bgF segs st p)))] (.a (.w 8)) := by
 refine fq Tryz.func256 fun C => ?_
 have hlen := il_len st
 have hv : (Value.int .i64 ((il st).length : Int)) = i6 st.length := by rw [hlen]
 refine gq [2] (lp 2 begB []) .nil [0, 1, 2, 3, 4, 5, 6, 7] [(0, .a (.p 0 0)), (3, .a (.p 7 0)), (5, vi ((0 : Nat) : Int))] (LN segs root n ns fs st ss ++ [spB3 p]) fun d => ?_
 refine loop (β := { k : Nat // k ≤ st.length ∧ ∀ i, i < k → atB segs p (st.getD i 0) = true }) (fun k d => ⟨d, [(0, .a (.p 0 0)), (3, .a (.p 7 0)), (5, vi (k.1 : Nat))], mkX (LN segs root n ns fs st ss ++ [spB3 p])⟩) (fun k => st.length - k.1) (by kernel_rfl) (fun x K ih d => ?_) ⟨0, Nat.zero_le _, fun i hi => absurd hi (Nat.not_lt_zero _)⟩ d
 obtain ⟨k, hk, hb⟩ := x
 have fin : ∀ k, k = bgF segs st p → k ≤ st.length → (((il st).take k).drop 0 = il (st.take (bgF segs st p))) ∧ ((il st).take (il st).length).drop k = il (st.drop (bgF segs st p)) := fun k e _ => by
  subst e
  refine ⟨by rw [List.drop_zero]; exact List.map_take.symm, by rw [List.take_length]; exact List.map_drop.symm⟩
 by_cases h : k < st.length
 ·have hm' : st.getD k 0 ∈ st := by rw [List.getD_eq_getElem?_getD, List.getElem?_eq_getElem h]; exact List.getElem_mem _
  have hx := hst _ hm'
  have its := fun (r : List It) (R : Its Tryz.prog C.W C.D r) => (.v 12 hv <| .v 13 (bt (show (k : Int) < (st.length : Nat) by omega)) <| .i (z := (k : Int)) (n := k) (len := (il st).length) 24 rfl (by rw [hlen]; exact h) <| .l 25 (il_at st h) <| .i (z := st.getD k 0) (n := (st.getD k 0).toNat) (len := (gl segs).length) 26 (by have := hx.1; omega) (by rw [gl_len]; exact hx.2) <| .l 27 (gl_at segs hx.2) <|
   .f 28 [] [] (low_ok (hs.at hx)) <| .f 30 [] [] (cmp3_ok (lowS_ok (hs.at hx)) hp) R : Its Tryz.prog C.W C.D _)
  by_cases c : sc3 (lowS (sg segs (st.getD k 0))) p = 0
  ·refine gq [] (lpK 2 begB [] K) (its _ <| .v 31 (et c) <| .v 34 (w64 (z := (k : Int) + 1) (by omega)) .nil) [0, 1, 2, 3, 4, 5, 6, 7] [(0, .a (.p 0 0)), (3, .a (.p 7 0)), (5, vi ((k + 1 : Nat) : Int))] (LN segs root n ns fs st ss ++ [spB3 p]) fun d => ?_
   exact ih ⟨k + 1, h, fun i hi => by
    by_cases e : i = k
    ·subst e; unfold atB; rw [decide_eq_true c]
    ·exact hb i (by omega)⟩ d (by simp only; omega)
  ·have hkb : k = bgF segs st p := (tw_len _ st k hk hb (.inr (by unfold atB; rw [decide_eq_false c]))).symm
   obtain ⟨g1, g2⟩ := fin k hkb hk
   exact dn (its _ <| .v 31 (ef c) <| .b (lo := 0) (hi := (k : Int)) (l := 0) (h := k) (len := (il st).length) 41 false rfl rfl (Nat.zero_le _) (by rw [hlen]; omega) <| .b (lo := (k : Int)) (hi := ((il st).length : Int)) (l := k) (h := (il st).length) (len := (il st).length) 48 false rfl rfl (by rw [hlen]; omega) (Nat.le_refl _) <|
    .o 1000 8 (congrArg (Ob.sl 1) g1) <| .o 1000 9 (congrArg (Ob.sl 1) g2) .nil) [0, 1, 2, 3, 4, 5, 6, 9, 8]
 ·have hke : k = st.length := by omega
  have hkb : k = bgF segs st p := (tw_len _ st k hk hb (.inl hke)).symm
  obtain ⟨g1, g2⟩ := fin k hkb hk
  exact dn (.v 12 hv <| .v 13 (bf (show ¬ (k : Int) < (st.length : Nat) by omega)) <| .b (lo := 0) (hi := (k : Int)) (l := 0) (h := k) (len := (il st).length) 41 false rfl rfl (Nat.zero_le _) (by rw [hlen]; omega) <| .b (lo := (k : Int)) (hi := ((il st).length : Int)) (l := k) (h := (il st).length) (len := (il st).length) 48 false rfl rfl (by rw [hlen]; omega) (Nat.le_refl _) <|
   .o 1000 8 (congrArg (Ob.sl 1) g1) <| .o 1000 9 (congrArg (Ob.sl 1) g2) .nil) [0, 1, 2, 3, 4, 5, 6, 9, 8]
end
end Go.Proofs.YtlkhneiccjhgdaaGreat
set_option maxRecDepth 100000
namespace Go.Proofs.YtlkhneiccjhgdaaGreat
open Go.Eo Go.RowKit Go.Rg
theorem num_getD {segs : List E4} {l : List Int} (h : ∀ x ∈ l, Num segs x) : ∀ k, k < l.length → Num segs (l.getD k 0) := fun k hk => h _ (by rw [List.getD_eq_getElem?_getD, List.getElem?_eq_getElem hk]; exact List.getElem_mem _)
def onF (segs : List E4) (st ss : List Int) (p : S3) : List Int := (ss.take (bd segs ss p (-1))).drop (bd segs ss p 0) ++ st.take (bgF segs st p)
def nxF (segs : List E4) (st ss : List Int) (p : S3) : List Int := goesF segs p (onF segs st ss p)
def ssF (segs : List E4) (st ss : List Int) (p : S3) : List Int := ss.take (bd segs ss p 0) ++ nxF segs st ss p ++ ss.drop (bd segs ss p (-1))
noncomputable abbrev stepB : Code := Tryz.f226.body.getD .skip
section
variable {segs : List E4} {root : Nat} {n : Int} {ns : List Nd} {fs : List Nat} {st ss : List Int} {p : S3} {qs : List S3}
theorem look_keep {i k : Int} {q' : List S3} (h : LookR segs ss i k p qs q') (hq : ∀ s ∈ qs, Ok3 s) (hsq : Srt qs) (hs : Segs segs) (hss : ∀ k, k < ss.length → Num segs (ss.getD k 0)) (hi : i < ss.length) (hk : 0 ≤ k) : (∀ s ∈ q', Ok3 s) ∧ Srt q' := by
 unfold LookR at h
 split at h
 ·subst h; exact ⟨hq, hsq⟩
 ·rename_i c
  split at h
  ·rename_i c2
   have n1 := hss i.toNat (by omega)
   have n2 := hss k.toNat (by omega)
   have hok := meetF_ok (hs.at n1) (hs.at n2) c2.1
   exact ⟨fun s hs' => (h.mem hs').elim (fun e => by rw [e]; exact hok) (hq s), h.srt hsq⟩
  ·subst h; exact ⟨hq, hsq⟩
def Step3 (segs : List E4) (root : Nat) (n : Int) (ns : List Nd) (fs : List Nat) (st ss : List Int) (p : S3) (qs : List S3) : Prop :=
 ∃ (root' : Nat) (n' : Int) (ns' : List Nd) (fs' : List Nat) (q1 q2 : List S3), LookR segs (ssF segs st ss p) ((bd segs ss p 0 : Nat) - 1) (bd segs ss p 0 : Nat) p qs q1 ∧
  (if nxF segs st ss p = [] then q2 = q1 else LookR segs (ssF segs st ss p) ((bd segs ss p 0 : Nat) + ((nxF segs st ss p).length : Nat) - 1) ((bd segs ss p 0 : Nat) + ((nxF segs st ss p).length : Nat)) p q1 q2) ∧ Q root' n' ns' fs' (q2.map spf) ∧ ns'.length ≤ ns.length + 2 ∧
  FnP Tryz.prog 226 (LN segs root n ns fs st ss) [.a (.p 0 0), sp3 p] [.box [.w 1, .p 2 0, .w 9, .w 10] 310, .sl 4 (gl segs), TBx cmpV 7 8 root' n', .dead, .dead, .sl 1 (il st), .sl 1 (il ss)]
   [NO ns', FO fs', .sl 1 (il (st.drop (bgF segs st p))), .sl 1 (il (ssF segs st ss p)), .row 3 1 (il (Mg.sortB (leO cm) (onF segs st ss p)))] (.g ((spA (spf p)).cells.toList.map AC.v ++ [.w 11]))
theorem step_ok (hQ : Q root n ns fs (qs.map spf)) (hq : ∀ s ∈ qs, Ok3 s) (hsq : Srt qs) (hs : Segs segs) (hst : ∀ x ∈ st, Num segs x) (hss : ∀ x ∈ ss, Num segs x) (hl : st.length + ss.length < 1000000000) (hp : Ok3 p) (hnl : ns.length < 1000000000) : Step3 segs root n ns fs st ss p qs := by
 obtain ⟨b1, b2⟩ := bd_le segs ss p
 obtain ⟨fr, hfr⟩ : ∃ fr, fr = bd segs ss p 0 := ⟨_, rfl⟩
 obtain ⟨to, hto⟩ : ∃ to, to = bd segs ss p (-1) := ⟨_, rfl⟩
 obtain ⟨bg, hbg⟩ : ∃ bg, bg = bgF segs st p := ⟨_, rfl⟩
 obtain ⟨on, hon⟩ : ∃ on, on = onF segs st ss p := ⟨_, rfl⟩
 obtain ⟨nx, hnx⟩ : ∃ nx, nx = nxF segs st ss p := ⟨_, rfl⟩
 obtain ⟨s2, hs2⟩ : ∃ s2, s2 = ssF segs st ss p := ⟨_, rfl⟩
 have BO := bounds_ok (root := root) (n := n) (ns := ns) (fs := fs) (st := st) hs (num_getD hss) (by omega) hp
 have BE := begin_ok (root := root) (n := n) (ns := ns) (fs := fs) (ss := ss) hs hst (by omega) hp
 have eon : on = (ss.take to).drop fr ++ st.take bg := by rw [hon, hfr, hto, hbg]; rfl
 have enx : nx = goesF segs p on := by rw [hnx, hon]; rfl
 have es2 : s2 = ss.take fr ++ nx ++ ss.drop to := by rw [hs2, hnx, hfr, hto]; rfl
 have hbgl := bgF_le segs st p
 rw [← hfr, ← hto] at b1
 rw [← hto] at b2
 rw [← hbg] at hbgl
 have lon : on.length ≤ ss.length + st.length := by rw [eon]; simp; omega
 have non : ∀ x ∈ on, Num segs x := fun x hx => by
  rw [eon] at hx
  rcases List.mem_append.1 hx with h | h
  ·exact hss x (List.mem_of_mem_take (List.mem_of_mem_drop h))
  ·exact hst x (List.mem_of_mem_take h)
 have pnx : ∀ x ∈ nx, x ∈ on := fun x hx => by
  rw [enx] at hx
  unfold goesF at hx
  exact (List.mem_filter.1 ((Mg.sortB_perm _ _).mem_iff.1 hx)).1
 have lnx : nx.length ≤ on.length := by
  rw [enx]; unfold goesF; rw [Mg.sortB_len]; exact List.length_filter_le _ _
 have ls2 : s2.length = fr + nx.length + (ss.length - to) := by rw [es2]; simp; omega
 have ns2 : ∀ x ∈ s2, Num segs x := fun x hx => by
  rw [es2] at hx
  rcases List.mem_append.1 hx with h | h
  ·rcases List.mem_append.1 h with h | h
   ·exact hss x (List.mem_of_mem_take h)
   ·exact non x (pnx x h)
  ·exact hss x (List.mem_of_mem_drop h)
 have CC1 := fnp_own [true] [97] (concat_ok [(ss.take to).drop fr, st.take bg] (by simp) (by simp; omega)) rfl (flat_il _) rfl rfl rfl
 have e1 : [(ss.take to).drop fr, st.take bg].flatten = on := by rw [eon]; simp
 have e2 : il ((ss.take to).drop fr) = ((il ss).take to).drop fr := by rw [← List.map_take, ← List.map_drop]
 have C1 : FnP Tryz.prog 255 [.row 97 1 [[.s 1 (((il ss).take to).drop fr)], [.s 1 (il (st.take bg))]]] [.a (.w 0)] [.row 97 1 [[.s 1 (((il ss).take to).drop fr)], [.s 1 (il (st.take bg))]]] [.row 3 1 (il on)] (.a (.w 1)) := by
  rw [e1] at CC1
  rw [← e2]; exact CC1
 have CC2 := fnp_own [true] [97] (concat_ok [ss.take fr, nx, ss.drop to] (by simp) (by simp; omega)) rfl (flat_il _) rfl rfl rfl
 have e3 : [ss.take fr, nx, ss.drop to].flatten = s2 := by rw [es2]; simp
 have e4 : il (ss.take fr) = ((il ss).take fr).drop 0 := by rw [List.drop_zero, ← List.map_take]
 have e5 : il (ss.drop to) = ((il ss).take (il ss).length).drop to := by rw [List.take_length, ← List.map_drop]
 have C2 : FnP Tryz.prog 255 [.row 97 1 [[.s 1 (((il ss).take fr).drop 0)], [.s 1 (il nx)], [.s 1 (((il ss).take (il ss).length).drop to)]]] [.a (.w 0)] [.row 97 1 [[.s 1 (((il ss).take fr).drop 0)], [.s 1 (il nx)], [.s 1 (((il ss).take (il ss).length).drop to)]]] [.row 3 1 (il s2)] (.a (.w 1)) := by
  rw [e3] at CC2
  rw [← e4, ← e5]; exact CC2
 have GO := goes_ok (p := p) hs non (by omega) hp
 rw [← enx] at GO
 have SO := sort_ok .n [] cm on (by omega) (ordN [] on on)
 obtain ⟨root1, n1, ns1, fs1, q1, r1, r2, r3, r4⟩ := look_ok (st := st.drop bg) (p := p) hQ hq hsq hs (num_getD ns2) (by omega) hp ((fr : Nat) - 1) (fr : Nat) (by omega) (by omega) (by omega)
 rw [← hfr, ← hto] at BO
 rw [← hbg] at BE
 unfold Step3
 rw [← hfr, ← hbg, ← hon, ← hnx, ← hs2]
 have hnl : ((il nx).length : Int) = (nx.length : Nat) := by rw [il_len]
 have hlv : Value.int .i64 ((il nx).length : Int) = i6 (nx.length : Nat) := by rw [il_len]
 have hss' := il_len ss
 obtain ⟨k1, k2⟩ := look_keep r1 hq hsq hs (num_getD ns2) (by omega) (by omega)
 have it1 := fun (C : Cx) => (.f 12 [0, 1, 2, 3, 4, 5, 6] [0, 1, 2, 3, 4, 5, 6] BO .nil : Its Tryz.prog C.W C.D _)
 have it2 := fun (C : Cx) (r : List It) (R : Its Tryz.prog C.W C.D r) => (.b (lo := (fr : Int)) (hi := (to : Int)) (l := fr) (h := to) (len := (il ss).length) 21 false rfl rfl b1 (by rw [hss']; exact b2) <| .f 26 [12] [0] C1 R : Its Tryz.prog C.W C.D _)
 have it3 := fun (C : Cx) (r : List It) (R : Its Tryz.prog C.W C.D r) => (.z 3 13 <| .f 33 [1, 13] [0, 1] GO <| .z 4 14 <| .b (lo := 0) (hi := (fr : Int)) (l := 0) (h := fr) (len := (il ss).length) 40 false rfl rfl (Nat.zero_le _) (by rw [hss']; omega) <| .b (lo := (to : Int)) (hi := ((il ss).length : Int)) (l := to) (h := (il ss).length) (len := (il ss).length) 47 false rfl rfl (by rw [hss']; exact b2) (Nat.le_refl _) <|
  .f 49 [17] [0] C2 <| .z 5 18 <| .v 54 (w64 (z := (fr : Int) - 1) (by omega)) <| .f 57 [0, 1, 2, 3, 4, 9, 18] [0, 1, 5, 6] r4 <| .v 59 hlv R : Its Tryz.prog C.W C.D _)
 by_cases hne : nx = []
 ·have h0 : ((nx.length : Nat) : Int) = 0 := by rw [hne]; rfl
  refine ⟨root1, n1, ns1, fs1, q1, q1, r1, by rw [if_pos hne], r2, by omega, fq Tryz.func226 fun C => ?_⟩
  refine goC hm (by kernel_rfl) 2 80 (it1 C) 9 [0, 1, 2, 3, 4, 5, 6] BE (it2 C _ .nil) (by kernel_rfl) (by kernel_rfl) (by kernel_rfl) (by kernel_rfl) (by kernel_rfl) ?_
  exact dn (it3 C _ <| .v 60 (gt_f (show ¬ (0 : Int) < (nx.length : Nat) by omega)) <| .f 75 [3, 4, 13] [0, 1, 2] SO .nil) [0, 1, 2, 3, 4, 5, 6, 19, 20, 9, 18, 21]
 ·have hp' : 0 < nx.length := List.length_pos_iff.2 hne
  obtain ⟨root2, n2, ns2', fs2, q2, t1, t2, t3, t4⟩ := look_ok (st := st.drop bg) (ss := s2) (p := p) (segs := segs) r2 k1 k2 hs (num_getD ns2) (by omega) hp ((fr : Nat) + (nx.length : Nat) - 1) ((fr : Nat) + (nx.length : Nat)) (by omega) (by omega) (by omega)
  refine ⟨root2, n2, ns2', fs2, q1, q2, r1, by rw [if_neg hne]; exact t1, t2, by omega, fq Tryz.func226 fun C => ?_⟩
  refine goC hm (by kernel_rfl) 2 80 (it1 C) 9 [0, 1, 2, 3, 4, 5, 6] BE (it2 C _ .nil) (by kernel_rfl) (by kernel_rfl) (by kernel_rfl) (by kernel_rfl) (by kernel_rfl) ?_
  exact dn (it3 C _ <| .v 60 (gt_t (show (0 : Int) < (nx.length : Nat) by omega)) <| .v 64 hlv <| .v 65 (w64 (z := (fr : Int) + (nx.length : Nat)) (by omega)) <| .v 66 (w64 (z := (fr : Int) + (nx.length : Nat) - 1) (by omega)) <| .v 69 hlv <| .v 70 (w64 (z := (fr : Int) + (nx.length : Nat)) (by omega)) <| .f 72 [0, 1, 2, 19, 20, 9, 18] [0, 1, 5, 6] t4 <| .f 75 [3, 4, 13] [0, 1, 2] SO .nil) [0, 1, 2, 3, 4, 5, 6, 21, 22, 9, 18, 23]
end
end Go.Proofs.YtlkhneiccjhgdaaGreat
set_option maxRecDepth 100000
namespace Go.Proofs.YtlkhneiccjhgdaaGreat
open Go.Eo Go.RowKit Go.Rg
def uB (n : Int) : Bool := decide (n ≥ -1099511627775) && decide (n ≤ 1099511627775)
theorem unit_ok (n : Int) : FnP Tryz.prog 217 [] [vi n] [] [] (vb (uB n)) := by
 unfold uB
 by_cases c1 : n ≥ -1099511627775
 ·by_cases c2 : n ≤ 1099511627775
  ·rw [decide_eq_true c1, decide_eq_true c2]
   exact fq Tryz.func217 fun C => dn (.v 4 (bt c1) <| .v 7 (bt c2) .nil) []
  ·rw [decide_eq_true c1, decide_eq_false c2]
   exact fq Tryz.func217 fun C => dn (.v 4 (bt c1) <| .v 7 (bf c2) .nil) []
 ·rw [decide_eq_false c1]
  exact fq Tryz.func217 fun C => dn (.v 4 (bf c1) .nil) []
def wiB (x y : Int) : Bool := uB x && uB y
theorem within_ok (x y : Int) : FnP Tryz.prog 171 [] [pA x y] [] [] (vb (wiB x y)) := by
 have u1 := unit_ok x
 have u2 := unit_ok y
 unfold wiB
 revert u1 u2
 generalize uB x = a
 generalize uB y = b
 intro u1 u2
 cases a
 ·exact fq Tryz.func171 fun C => dn (.f 5 [] [] u1 .nil) []
 ·exact fq Tryz.func171 fun C => dn (.f 5 [] [] u1 <| .f 9 [] [] u2 .nil) []
inductive Pk where
 | m
 | h
 | b
abbrev fPk (κ : Pk) : Nat := match κ with
 | .m => 219
 | .h => 74
 | .b => 170
def tPk (κ : Pk) (p : Int × Int) : Bool := match κ with
 | .b => !wiB p.1 p.2
 | _ => !Wd.ptB p.1 p.2
theorem pk_ok (κ : Pk) (p : Int × Int) : FnP Tryz.prog (fPk κ) [] [pA p.1 p.2] [] [] (vb (tPk κ p)) := by
 obtain ⟨x, y⟩ := p
 have u1 := ptRight_any x y _ rfl
 have u2 := within_ok x y
 unfold tPk
 simp only
 revert u1 u2
 generalize Wd.ptB x y = a
 generalize wiB x y = b
 intro u1 u2
 cases κ
 ·exact fq Tryz.func219 fun C => dn (.c 4 u1 .nil) []
 ·exact fq Tryz.func74 fun C => dn (.c 4 u1 .nil) []
 ·exact fq Tryz.func170 fun C => dn (.f 4 [] [] u2 .nil) []
inductive Sk where
 | m
 | b
abbrev fSk (κ : Sk) : Nat := match κ with
 | .m => 220
 | .b => 173
def tSk (κ : Sk) (s : E4) : Bool := match κ with
 | .m => !Wd.sgB s.1 s.2.1 s.2.2.1 s.2.2.2
 | .b => !wiB s.1 s.2.1 || !wiB s.2.2.1 s.2.2.2
theorem sk_ok (κ : Sk) (s : E4) : FnP Tryz.prog (fSk κ) [] [gA4 s] [] [] (vb (tSk κ s)) := by
 obtain ⟨x, y, z, w⟩ := s
 have u1 := sgRight_any x y z w _ rfl
 have u2 := within_ok x y
 have u3 := within_ok z w
 unfold tSk
 simp only
 revert u1 u2 u3
 generalize Wd.sgB x y z w = a
 generalize wiB x y = b
 generalize wiB z w = c
 intro u1 u2 u3
 cases κ
 ·exact fq Tryz.func220 fun C => dn (.c 4 u1 .nil) []
 ·cases b
  ·exact fq Tryz.func173 fun C => dn (.f 5 [] [] u2 .nil) []
  ·exact fq Tryz.func173 fun C => dn (.f 5 [] [] u2 <| .f 10 [] [] u3 .nil) []
def ixF {α : Type} (f : α → Bool) (l : List α) : Int := if l.findIdx f < l.length then l.findIdx f else -1
theorem ixF_any {α : Type} (f : α → Bool) (l : List α) : decide (ixF f l ≥ 0) = l.any f := by
 unfold ixF
 by_cases h : l.findIdx f < l.length
 ·rw [if_pos h, decide_eq_true (by omega)]
  obtain ⟨x, hx, hf⟩ := List.findIdx_lt_length.1 h
  exact (List.any_eq_true.2 ⟨x, hx, hf⟩).symm
 ·rw [if_neg h, decide_eq_false (by omega)]
  refine (Bool.eq_false_iff.2 fun e => h ?_).symm
  obtain ⟨x, hx, hf⟩ := List.any_eq_true.1 e
  exact List.findIdx_lt_length.2 ⟨x, hx, hf⟩
theorem pl_len (l : List (Int × Int)) : (pl l).length = l.length := List.length_map _
noncomputable abbrev ixpB : Code := Tryz.f137.body.getD .skip
noncomputable abbrev ixsB : Code := Tryz.f218.body.getD .skip
abbrev fv (i : Nat) : AV := .a (.v (.func (.func i) #[] #[]))
abbrev fvH {F : Nat} {a : Nat → List AV} {r : Nat → AV} (_ : ∀ k : Nat, FnP Tryz.prog F [] (a k) [] [] (r k)) : AV := fv F
theorem ixp_ok (κ : Pk) (l : List (Int × Int)) (hl : l.length < 100000000000) : FnP Tryz.prog 137 [.sl 2 (pl l)] [.a (.w 0), fv (fPk κ)] [.sl 2 (pl l)] [] (vi (ixF (tPk κ) l)) := by
 obtain ⟨n, hn⟩ : ∃ n, n = l.findIdx (tPk κ) := ⟨_, rfl⟩
 have hle : n ≤ l.length := hn ▸ List.findIdx_le_length
 have hv : (Value.int .i64 ((pl l).length : Int)) = i6 l.length := by rw [pl_len]
 have hp := fun k => pk_ok κ (l.getD k (0, 0))
 have t1 : ∀ k, k < n → tPk κ (l.getD k (0, 0)) = false := fun k h => by
  have hk : k < l.length := by omega
  rw [List.getD_eq_getElem?_getD, List.getElem?_eq_getElem hk]
  exact List.not_of_lt_findIdx (hn ▸ h)
 have t2 : n < l.length → tPk κ (l.getD n (0, 0)) = true := fun h => by
  rw [List.getD_eq_getElem?_getD, List.getElem?_eq_getElem h]
  subst hn
  exact List.findIdx_getElem
 have hr : ixF (tPk κ) l = if n < l.length then (n : Int) else -1 := by unfold ixF; rw [← hn]
 rw [hr]
 clear hr hn
 cases κ
 all_goals
  refine fq Tryz.func137 fun C => ?_
  refine gq [2] (lp 2 ixpB []) (.v 7 hv .nil) [0] [(0, .a (.w 0)), (1, fvH hp), (4, vi 0), (7, vi l.length), (8, vi ((0 : Nat) : Int))] [.sl 2 (pl l)] fun d => ?_
  refine loop (β := { k : Nat // k ≤ n }) (fun k d => ⟨d, [(0, .a (.w 0)), (1, fvH hp), (4, vi 0), (7, vi l.length), (8, vi (k.1 : Nat))], mkX [.sl 2 (pl l)]⟩) (fun k => l.length - k.1) (by kernel_rfl) (fun x K ih d => ?_) ⟨0, Nat.zero_le _⟩ d
  obtain ⟨k, hk⟩ := x
  by_cases h : k < l.length
  ·have h1 := hp k
   by_cases h' : k < n
   ·rw [t1 k h'] at h1
    refine gq [] (lpK 2 ixpB [] K) (.v 9 (bt (show (k : Int) < (l.length : Nat) by omega)) <| .i (z := (k : Int)) (n := k) (len := (pl l).length) 14 rfl (by rw [pl_len]; exact h) <| .l 15 (pl_at l h) <| .f 16 [] [] h1 <| .v 18 (w64 (z := (k : Int) + 1) (by omega)) .nil) [0] [(0, .a (.w 0)), (1, fvH hp), (4, vi 0), (7, vi l.length), (8, vi ((k + 1 : Nat) : Int))] [.sl 2 (pl l)] fun d => ?_
    exact ih ⟨k + 1, h'⟩ d (by simp only; omega)
   ·have e : k = n := by omega
    subst e
    rw [t2 h] at h1
    rw [if_pos h]
    exact dn (.v 9 (bt (show (k : Int) < (l.length : Nat) by omega)) <| .i (z := (k : Int)) (n := k) (len := (pl l).length) 14 rfl (by rw [pl_len]; exact h) <| .l 15 (pl_at l h) <| .f 16 [] [] h1 .nil) [0]
  ·have e : k = l.length := by omega
   subst e
   rw [if_neg (by omega)]
   exact dn (.v 9 (bf (show ¬ ((l.length : Nat) : Int) < (l.length : Nat) by omega)) .nil) [0]
theorem ixs_ok (κ : Sk) (l : List E4) (hl : l.length < 100000000000) : FnP Tryz.prog 218 [.sl 4 (gl l)] [.a (.w 0), fv (fSk κ)] [.sl 4 (gl l)] [] (vi (ixF (tSk κ) l)) := by
 obtain ⟨n, hn⟩ : ∃ n, n = l.findIdx (tSk κ) := ⟨_, rfl⟩
 have hle : n ≤ l.length := hn ▸ List.findIdx_le_length
 have hv : (Value.int .i64 ((gl l).length : Int)) = i6 l.length := by rw [gl_len]
 have hp := fun k => sk_ok κ (l.getD k (0, 0, 0, 0))
 have t1 : ∀ k, k < n → tSk κ (l.getD k (0, 0, 0, 0)) = false := fun k h => by
  have hk : k < l.length := by omega
  rw [List.getD_eq_getElem?_getD, List.getElem?_eq_getElem hk]
  exact List.not_of_lt_findIdx (hn ▸ h)
 have t2 : n < l.length → tSk κ (l.getD n (0, 0, 0, 0)) = true := fun h => by
  rw [List.getD_eq_getElem?_getD, List.getElem?_eq_getElem h]
  subst hn
  exact List.findIdx_getElem
 have hr : ixF (tSk κ) l = if n < l.length then (n : Int) else -1 := by unfold ixF; rw [← hn]
 rw [hr]
 clear hr hn
 cases κ
 all_goals
  refine fq Tryz.func218 fun C => ?_
  refine gq [2] (lp 2 ixsB []) (.v 7 hv .nil) [0] [(0, .a (.w 0)), (1, fvH hp), (4, vi 0), (7, vi l.length), (8, vi ((0 : Nat) : Int))] [.sl 4 (gl l)] fun d => ?_
  refine loop (β := { k : Nat // k ≤ n }) (fun k d => ⟨d, [(0, .a (.w 0)), (1, fvH hp), (4, vi 0), (7, vi l.length), (8, vi (k.1 : Nat))], mkX [.sl 4 (gl l)]⟩) (fun k => l.length - k.1) (by kernel_rfl) (fun x K ih d => ?_) ⟨0, Nat.zero_le _⟩ d
  obtain ⟨k, hk⟩ := x
  by_cases h : k < l.length
  ·have h1 := hp k
   by_cases h' : k < n
   ·rw [t1 k h'] at h1
    refine gq [] (lpK 2 ixsB [] K) (.v 9 (bt (show (k : Int) < (l.length : Nat) by omega)) <| .i (z := (k : Int)) (n := k) (len := (gl l).length) 14 rfl (by rw [gl_len]; exact h) <| .l 15 (gl_at l h) <| .f 16 [] [] h1 <| .v 18 (w64 (z := (k : Int) + 1) (by omega)) .nil) [0] [(0, .a (.w 0)), (1, fvH hp), (4, vi 0), (7, vi l.length), (8, vi ((k + 1 : Nat) : Int))] [.sl 4 (gl l)] fun d => ?_
    exact ih ⟨k + 1, h'⟩ d (by simp only; omega)
   ·have e : k = n := by omega
    subst e
    rw [t2 h] at h1
    rw [if_pos h]
    exact dn (.v 9 (bt (show (k : Int) < (l.length : Nat) by omega)) <| .i (z := (k : Int)) (n := k) (len := (gl l).length) 14 rfl (by rw [gl_len]; exact h) <| .l 15 (gl_at l h) <| .f 16 [] [] h1 .nil) [0]
  ·have e : k = l.length := by omega
   subst e
   rw [if_neg (by omega)]
   exact dn (.v 9 (bf (show ¬ ((l.length : Nat) : Int) < (l.length : Nat) by omega)) .nil) [0]
theorem cop_ok (κ : Pk) (l : List (Int × Int)) (hl : l.length < 100000000000) : FnP Tryz.prog 73 [.sl 2 (pl l)] [.a (.w 0), fv (fPk κ)] [.sl 2 (pl l)] [] (vb (l.any (tPk κ))) := by
 have h := ixp_ok κ l hl
 rw [← ixF_any]
 cases κ
 all_goals exact fq Tryz.func73 fun C => dn (.f 7 [0] [0] h .nil) [0]
theorem cos_ok (κ : Sk) (l : List E4) (hl : l.length < 100000000000) : FnP Tryz.prog 172 [.sl 4 (gl l)] [.a (.w 0), fv (fSk κ)] [.sl 4 (gl l)] [] (vb (l.any (tSk κ))) := by
 have h := ixs_ok κ l hl
 rw [← ixF_any]
 cases κ
 all_goals exact fq Tryz.func172 fun C => dn (.f 7 [0] [0] h .nil) [0]
def mayF (ps : List (Int × Int)) (ss : List E4) : Nat := if ps.length > 4096 ∨ ss.length > 4096 then 12 else if ps.any (tPk .m) || ss.any (tSk .m) then 11 else 0
theorem may_ok (ps : List (Int × Int)) (ss : List E4) (hp : ps.length < 100000000000) (hs : ss.length < 100000000000) : FnP Tryz.prog 174 [.sl 2 (pl ps), .sl 4 (gl ss)] [.a (.w 0), .a (.w 1)] [.sl 2 (pl ps), .sl 4 (gl ss)] [] (vi (mayF ps ss : Nat)) := by
 have v1 : (Value.int .i64 ((pl ps).length : Int)) = i6 ps.length := by rw [pl_len]
 have v2 : (Value.int .i64 ((gl ss).length : Int)) = i6 ss.length := by rw [gl_len]
 have u1 := cop_ok .m ps hp
 have u2 := cos_ok .m ss hs
 unfold mayF
 revert u1 u2
 generalize ps.any (tPk .m) = a
 generalize ss.any (tSk .m) = b
 intro u1 u2
 by_cases c1 : (ps.length : Int) > 4096
 ·rw [if_pos (.inl (by omega))]
  exact fq Tryz.func174 fun C => dn (.v 7 v1 <| .v 8 (bt c1) .nil) [0, 1]
 ·by_cases c2 : (ss.length : Int) > 4096
  ·rw [if_pos (.inr (by omega))]
   exact fq Tryz.func174 fun C => dn (.v 7 v1 <| .v 8 (bf c1) <| .v 11 v2 <| .v 12 (bt c2) .nil) [0, 1]
  ·rw [if_neg (by omega)]
   have its := fun (C : Cx) (r : List It) (R : Its Tryz.prog C.W C.D r) => (.v 7 v1 <| .v 8 (bf c1) <| .v 11 v2 <| .v 12 (bf c2) <| .f 16 [0] [0] u1 R : Its Tryz.prog C.W C.D _)
   cases a
   ·cases b
    ·exact fq Tryz.func174 fun C => dn (its C _ <| .f 19 [1] [0] u2 .nil) [0, 1]
    ·exact fq Tryz.func174 fun C => dn (its C _ <| .f 19 [1] [0] u2 .nil) [0, 1]
   ·exact fq Tryz.func174 fun C => dn (its C _ .nil) [0, 1]
end Go.Proofs.YtlkhneiccjhgdaaGreat
set_option maxRecDepth 100000
namespace Go.Proofs.YtlkhneiccjhgdaaGreat
open Go.Eo Go.RowKit Go.Rg
theorem seq_ex {α : Type} (P : Nat → α → Prop) (R : Nat → α → α → Prop) : ∀ (n : Nat) (x0 : α), P 0 x0 → (∀ k x, k < n → P k x → ∃ y, R k x y ∧ P (k + 1) y) → ∃ S : Nat → α, S 0 = x0 ∧ (∀ k, k ≤ n → P k (S k)) ∧ ∀ k, k < n → R k (S k) (S (k + 1))
 | 0, x0, h0, _ => ⟨fun _ => x0, rfl, fun k hk => (Nat.le_zero.1 hk) ▸ h0, fun k hk => absurd hk (Nat.not_lt_zero _)⟩
 | n + 1, x0, h0, h => by
  obtain ⟨S, s0, s1, s2⟩ := seq_ex P R n x0 h0 fun k x hk => h k x (by omega)
  obtain ⟨y, hy1, hy2⟩ := h n (S n) (Nat.lt_succ_self n) (s1 n (Nat.le_refl _))
  refine ⟨fun k => if k ≤ n then S k else y, (if_pos (Nat.zero_le _)).trans s0, fun k hk => ?_, fun k hk => ?_⟩
  ·by_cases c : k ≤ n
   ·simp only; rw [if_pos c]; exact s1 k c
   ·have : k = n + 1 := by omega
    subst this
    simp only; rw [if_neg c]; exact hy2
  ·by_cases c : k + 1 ≤ n
   ·simp only; rw [if_pos c, if_pos (show k ≤ n by omega)]; exact s2 k (by omega)
   ·have : k = n := by omega
    subst this
    simp only; rw [if_neg c, if_pos (Nat.le_refl _)]; exact hy1
structure QS where
 root : Nat
 n : Int
 ns : List Nd
 fs : List Nat
 qs : List S3
structure QS.Ok (s : QS) (m : Nat) : Prop where
 q : Q s.root s.n s.ns s.fs (s.qs.map spf)
 ok : ∀ p ∈ s.qs, Ok3 p
 srt : Srt s.qs
 len : s.ns.length ≤ m
structure PutS (v : S3) (s s' : QS) : Prop where
 r : PutR v s.qs s'.qs
 f : ∃ b, FnP Tryz.prog 244 (Tr3 cmpV s.root s.n s.ns s.fs) [.a (.p 0 0), sp3 v] [TBx cmpV 3 4 s'.root s'.n, .dead, .dead] [NO s'.ns, FO s'.fs] (vb b)
theorem put_S {v : S3} {s : QS} {m : Nat} (h : s.Ok m) (hv : Ok3 v) (hm : m < 10000000000) : ∃ s', PutS v s s' ∧ s'.Ok (m + 1) := by
 have := h.len
 obtain ⟨root', n', ns', fs', q', b, r1, r2, r3, r4⟩ := put3 h.q h.ok h.srt hv (by omega)
 exact ⟨⟨root', n', ns', fs', q'⟩, ⟨r1, b, r4⟩, ⟨r2, fun p hp => (r1.mem hp).elim (fun e => e ▸ hv) (h.ok p), r1.srt h.srt, by show ns'.length ≤ _; omega⟩⟩
structure Kn (l qs : List S3) : Prop where
 m : ∀ p ∈ qs, p ∈ l
 h : ∀ v ∈ l, ∃ u ∈ qs, sc3 v u = 0
theorem Kn.put {l qs q' : List S3} {v : S3} (h : Kn l qs) (k : PutR v qs q') : Kn (l ++ [v]) q' :=
 ⟨fun p hp => (k.mem hp).elim (fun e => by simp [e]) fun hp => by simp [h.m p hp], fun u hu => by
  rcases List.mem_append.1 hu with hu | hu
  ·obtain ⟨w, h1, h2⟩ := h.h u hu
   exact ⟨w, k.sub h1, h2⟩
  ·rw [List.mem_singleton.1 hu]; exact k.has⟩
def pt3 (p : Int × Int) : S3 := (p.1, p.2, 1)
def vsF (ps : List (Int × Int)) (segs : List E4) : List S3 := ps.map pt3 ++ segs.flatMap fun s => [lowS s, highS s]
def nums (k : Nat) : List Int := (List.range k).map fun i : Nat => (i : Int)
theorem nums_succ (k : Nat) : nums (k + 1) = nums k ++ [(k : Int)] := by unfold nums; rw [List.range_succ]; simp
theorem nums_len (k : Nat) : (nums k).length = k := by unfold nums; simp
theorem nums_num {segs : List E4} : ∀ x ∈ nums segs.length, Num segs x := fun x hx => by
 unfold nums at hx
 obtain ⟨i, h1, rfl⟩ := List.mem_map.1 hx
 exact ⟨by omega, by simpa using h1⟩
def st0 (segs : List E4) : List Int := Mg.sortB (leO (oB segs)) (nums segs.length)
def Begun (ps : List (Int × Int)) (segs : List E4) : Prop :=
 ∃ s : QS, s.Ok (1 + ps.length + 2 * segs.length) ∧ Kn (vsF ps segs) s.qs ∧
  FnP Tryz.prog 223 [.sl 2 (pl ps), .sl 4 (gl segs)] [.a (.w 0), .a (.w 1)] [.sl 2 (pl ps), .sl 4 (gl segs)]
   [.box [.w 1, .p 3 0, .w 6, .w 7] 310, TBx cmpV 4 5 s.root s.n, NO s.ns, FO s.fs, .sl 1 (il (st0 segs)), .sl 1 (il [])] (.a (.p 2 0))
theorem take_map_succ {α β : Type} (f : α → β) (l : List α) (d : α) {k : Nat} (h : k < l.length) : (l.take (k + 1)).map f = (l.take k).map f ++ [f (l.getD k d)] := by
 rw [List.take_add_one, List.map_append, List.getD_eq_getElem?_getD, List.getElem?_eq_getElem h]; rfl
theorem take_flat_succ {α β : Type} (f : α → List β) (l : List α) (d : α) {k : Nat} (h : k < l.length) : (l.take (k + 1)).flatMap f = (l.take k).flatMap f ++ f (l.getD k d) := by
 rw [List.take_add_one, List.flatMap_append, List.getD_eq_getElem?_getD, List.getElem?_eq_getElem h]; simp
abbrev nilS : AC := .v (.slice none 0 0)
abbrev bX (ps : List (Int × Int)) (segs : List E4) (s : QS) : List Ob := [.sl 2 (pl ps), .sl 4 (gl segs), .box [.w 1] 23, TBx cmpV 4 5 s.root s.n, NO s.ns, FO s.fs, .box [.w 1, .p 3 0, nilS, nilS] 310]
noncomputable abbrev begunB : Code := Tryz.f223.body.getD .skip
theorem begun_ok {ps : List (Int × Int)} {segs : List E4} (hp : ∀ k, k < ps.length → Pa (ps.getD k (0, 0))) (hs : Segs segs) (hl : ps.length < 1000000000) (hl' : segs.length < 1000000000) : Begun ps segs := by
 obtain ⟨A, a0, a1, a2⟩ := seq_ex (fun k (s : QS) => s.Ok (1 + k) ∧ Kn ((ps.take k).map pt3) s.qs) (fun k s s' => PutS (pt3 (ps.getD k (0, 0))) s s') ps.length ⟨0, 0, [default], [], []⟩
  ⟨⟨Q.new, fun p hp => (by cases hp), List.Pairwise.nil, by simp⟩, ⟨fun p hp => (by cases hp), fun v hv => (by simp at hv)⟩⟩ fun k s hk ⟨h1, h2⟩ => by
   obtain ⟨s', r1, r2⟩ := put_S h1 (v := pt3 (ps.getD k (0, 0))) (spot1 (hp k hk).x (hp k hk).y) (by omega)
   refine ⟨s', r1, r2, ?_⟩
   rw [take_map_succ pt3 ps (0, 0) hk]; exact h2.put r1.r
 obtain ⟨B, b0, b1, b2⟩ := seq_ex (fun k (s : QS) => s.Ok (1 + ps.length + 2 * k) ∧ Kn (ps.map pt3 ++ (segs.take k).flatMap fun s => [lowS s, highS s]) s.qs) (fun k s s'' => ∃ s', PutS (lowS (segs.getD k (0, 0, 0, 0))) s s' ∧ PutS (highS (segs.getD k (0, 0, 0, 0))) s' s'') segs.length (A ps.length)
  (by
   obtain ⟨h1, h2⟩ := a1 ps.length (Nat.le_refl _)
   rw [List.take_length] at h2
   exact ⟨h1, by simpa using h2⟩) fun k s hk ⟨h1, h2⟩ => by
   obtain ⟨s', r1, r2⟩ := put_S h1 (lowS_ok (hs k hk)) (by omega)
   obtain ⟨s'', t1, t2⟩ := put_S r2 (highS_ok (hs k hk)) (by omega)
   refine ⟨s'', ⟨s', r1, t1⟩, t2, ?_⟩
   have := (h2.put r1.r).put t1.r
   rw [take_flat_succ _ segs (0, 0, 0, 0) hk]
   simpa [List.append_assoc] using this
 obtain ⟨c1, c2⟩ := b1 segs.length (Nat.le_refl _)
 rw [List.take_length] at c2
 refine ⟨B segs.length, c1, c2, fq Tryz.func223 fun C => ?_⟩
 have v1 : (Value.int .i64 ((pl ps).length : Int)) = i6 ps.length := by rw [pl_len]
 have v2 : (Value.int .i64 ((gl segs).length : Int)) = i6 segs.length := by rw [gl_len]
 have hX0 : bX ps segs (A 0) = [.sl 2 (pl ps), .sl 4 (gl segs), .box [.w 1] 23, TBx cmpV 4 5 (0 : Nat) 0, NO [default], FO [], .box [.w 1, .p 3 0, nilS, nilS] 310] := by unfold bX; rw [a0]
 refine gq [3] (lp 3 begunB []) (.f 12 [] [] new_ok <| .v 16 v1 .nil) [0, 1, 2, 3, 4, 5, 6] [(3, .a (.p 2 0)), (5, .a (.p 6 0)), (15, .a (.w 0)), (16, vi ps.length), (17, vi ((0 : Nat) : Int))]
  [.sl 2 (pl ps), .sl 4 (gl segs), .box [.w 1] 23, TBx cmpV 4 5 (0 : Nat) 0, NO [default], FO [], .box [.w 1, .p 3 0, nilS, nilS] 310] fun d => ?_
 rw [← hX0]
 refine loop (β := { k : Nat // k ≤ ps.length }) (fun k d => ⟨d, [(3, .a (.p 2 0)), (5, .a (.p 6 0)), (15, .a (.w 0)), (16, vi ps.length), (17, vi (k.1 : Nat))], mkX (bX ps segs (A k.1))⟩) (fun k => ps.length - k.1) (by kernel_rfl) (fun x K ih d => ?_) ⟨0, Nat.zero_le _⟩ d
 obtain ⟨k, hk⟩ := x
 by_cases h : k < ps.length
 ·obtain ⟨r, b, f⟩ := a2 k h
  have P := hp k h
  have ih' := ih ⟨k + 1, h⟩
  revert f ih'
  show _ → _ → _
  generalize A k = s
  generalize A (k + 1) = s'
  intro f ih'
  refine gq [] (lpK 3 begunB [] K) (.v 18 (bt (show (k : Int) < (ps.length : Nat) by omega)) <| .i (z := (k : Int)) (n := k) (len := (pl ps).length) 19 rfl (by rw [pl_len]; exact h) <| .l 20 (pl_at ps h) <| .c 26 (at_pt P.x P.y) <| .f 27 [3, 4, 5] [] f <| .v 28 (w64 (z := (k : Int) + 1) (by omega)) .nil)
   [0, 1, 2, 3, 8, 9, 6] [(3, .a (.p 2 0)), (5, .a (.p 6 0)), (15, .a (.w 0)), (16, vi ps.length), (17, vi ((k + 1 : Nat) : Int))] (bX ps segs s') fun d => ?_
  exact ih' d (by simp only; omega)
 ·have e : k = ps.length := by omega
  subst e
  have hX1 : bX ps segs (A ps.length) ++ [.row 3 1 (il (nums 0))] = [.sl 2 (pl ps), .sl 4 (gl segs), .box [.w 1] 23, TBx cmpV 4 5 (B 0).root (B 0).n, NO (B 0).ns, FO (B 0).fs, .box [.w 1, .p 3 0, nilS, nilS] 310, .row 3 1 (il (nums 0))] := by unfold bX; rw [b0]; rfl
  refine gq [9] (lp 9 begunB []) (.v 18 (bf (show ¬ ((ps.length : Nat) : Int) < (ps.length : Nat) by omega)) <| .v 30 v2 <| .n 1000 8 3 1 .nil) [0, 1, 2, 3, 4, 5, 6, 7] [(3, .a (.p 2 0)), (5, .a (.p 6 0)), (8, .a (.w 7)), (29, .a (.w 1)), (30, vi segs.length), (31, vi ((0 : Nat) : Int))]
   (bX ps segs (A ps.length) ++ [.row 3 1 (il (nums 0))]) fun d => ?_
  rw [← b0]
  refine loop (β := { k : Nat // k ≤ segs.length }) (fun k d => ⟨d, [(3, .a (.p 2 0)), (5, .a (.p 6 0)), (8, .a (.w 7)), (29, .a (.w 1)), (30, vi segs.length), (31, vi (k.1 : Nat))], mkX (bX ps segs (B k.1) ++ [.row 3 1 (il (nums k.1))])⟩) (fun k => segs.length - k.1) (by kernel_rfl) (fun x K' ih d => ?_) ⟨0, Nat.zero_le _⟩ d
  obtain ⟨k, hk⟩ := x
  by_cases h : k < segs.length
  ·obtain ⟨s1, ⟨r, b, f⟩, ⟨r', b', f'⟩⟩ := b2 k h
   have P := hs k h
   have ih' := ih ⟨k + 1, h⟩
   have z : (il (nums k)).length = k := by rw [il_len, nums_len]
   have zs := nums_succ k
   revert f f' ih'
   show _ → _ → _ → _
   generalize B k = s
   generalize B (k + 1) = s'
   intro f f' ih'
   refine gq [] (lpK 9 begunB [] K') (.v 32 (bt (show (k : Int) < (segs.length : Nat) by omega)) <| .i (z := (k : Int)) (n := k) (len := (gl segs).length) 34 rfl (by rw [gl_len]; exact h) <| .l 35 (gl_at segs h) <| .f 41 [] [] (low_ok P) <| .f 42 [3, 4, 5] [] f <| .f 48 [] [] (high_ok P) <| .f 49 [3, 9, 10] [] f' <|
    .a (n := (il (nums k)).length + 1) (bytes := 8) 53 (by rw [z]; unfold maxLen; omega) (by rw [z]; omega) <| .v 54 (w64 (z := (k : Int) + 1) (by omega)) <| .o (x := .row 3 1 (il (nums k) ++ [[.v (i6 (k : Nat))]])) (y := .row 3 1 (il (nums (k + 1)))) 1000 14 (by rw [zs]; simp) .nil)
    [0, 1, 2, 3, 11, 12, 6, 14] [(3, .a (.p 2 0)), (5, .a (.p 6 0)), (8, .a (.w 7)), (29, .a (.w 1)), (30, vi segs.length), (31, vi ((k + 1 : Nat) : Int))] (bX ps segs s' ++ [.row 3 1 (il (nums (k + 1)))]) fun d => ?_
   exact ih' d (by simp only; omega)
  ·have e : k = segs.length := by omega
   subst e
   have S := fnp_own [true, false, true] [23, 0, 3] (sort_ok .b (gl segs) (oB segs) (nums segs.length) (by rw [nums_len]; omega) (ordB hs nums_num nums_num)) rfl (flat_il _) rfl rfl rfl
   exact dn (.v 32 (bf (show ¬ ((segs.length : Nat) : Int) < (segs.length : Nat) by omega)) <| .f 58 [2, 1, 7] [0, 1, 2] S <| .z 1000 8 <| .q 1000 6 3 3 1 <| .z 1000 9 .nil) [0, 1, 6, 3, 4, 5, 8, 9]
end Go.Proofs.YtlkhneiccjhgdaaGreat
set_option maxRecDepth 100000
namespace Go.Proofs.YtlkhneiccjhgdaaGreat
open Go.Eo Go.RowKit Go.Rg
structure LS where
 s : QS
 st : List Int
 ss : List Int
def LS.hd (x : LS) : S3 := x.s.qs.headD (0, 0, 0)
def LS.ev (segs : List E4) (x : LS) : S3 × List Int := (x.hd, Mg.sortB (leO cm) (onF segs x.st x.ss x.hd))
structure StepL (segs : List E4) (x y : LS) : Prop where
 ne : x.s.qs = x.hd :: x.s.qs.tail
 st : y.st = x.st.drop (bgF segs x.st x.hd)
 ss : y.ss = ssF segs x.st x.ss x.hd
 lk : ∃ q1, LookR segs y.ss ((bd segs x.ss x.hd 0 : Nat) - 1) (bd segs x.ss x.hd 0 : Nat) x.hd x.s.qs.tail q1 ∧
  (if nxF segs x.st x.ss x.hd = [] then y.s.qs = q1 else LookR segs y.ss ((bd segs x.ss x.hd 0 : Nat) + ((nxF segs x.st x.ss x.hd).length : Nat) - 1) ((bd segs x.ss x.hd 0 : Nat) + ((nxF segs x.st x.ss x.hd).length : Nat)) x.hd q1 y.s.qs)
 f : ∃ (root : Nat) (n : Int) (ns : List Nd) (fs : List Nat),
  FnP Tryz.prog 225 (Tr3 cmpV x.s.root x.s.n x.s.ns x.s.fs) [.a (.p 0 0), sp3 x.hd] [TBx cmpV 1 3 root n, NO ns, .dead] [FO fs] (vb true) ∧
  FnP Tryz.prog 226 (LN segs root n ns fs x.st x.ss) [.a (.p 0 0), sp3 x.hd] [.box [.w 1, .p 2 0, .w 9, .w 10] 310, .sl 4 (gl segs), TBx cmpV 7 8 y.s.root y.s.n, .dead, .dead, .sl 1 (il x.st), .sl 1 (il x.ss)]
   [NO y.s.ns, FO y.s.fs, .sl 1 (il y.st), .sl 1 (il y.ss), .sl 1 (il (x.ev segs).2)] (.g ((spA (spf x.hd)).cells.toList.map AC.v ++ [.w 11]))
def meets (segs : List E4) : List S3 := segs.flatMap fun s => (segs.filter fun t => decide ((meet4 s t).1 = 1)).map fun t => m3 (meet4 s t)
def cand (ps : List (Int × Int)) (segs : List E4) : List S3 := vsF ps segs ++ meets segs
structure LS.Ok (segs : List E4) (c : List S3) (x : LS) (m : Nat) : Prop where
 s : x.s.Ok m
 c : ∀ q ∈ x.s.qs, q ∈ c
 st : ∀ a ∈ x.st, Num segs a
 ss : ∀ a ∈ x.ss, Num segs a
 len : x.st.length + x.ss.length ≤ segs.length
def mu (c : List S3) (qs : List S3) : Nat := match qs with
 | [] => 0
 | p :: _ => c.countP fun a => decide (0 ≤ sc3 a p)
theorem mu_lt {c qs q' : List S3} {p : S3} (hc : ∀ a ∈ c, Ok3 a) (hp : p ∈ c) (hq : ∀ q ∈ q', q ∈ c ∧ 0 < sc3 q p) : mu c q' < mu c (p :: qs) := by
 have hpos : 0 < mu c (p :: qs) := List.countP_pos_iff.2 ⟨p, hp, by rw [sc3_self]; rfl⟩
 cases q' with
 | nil => exact hpos
 | cons r q' =>
  obtain ⟨hr, hrp⟩ := hq r (List.mem_cons_self ..)
  unfold mu
  simp only
  obtain ⟨A, B, e⟩ := List.append_of_mem hp
  rw [e, List.countP_append, List.countP_append, List.countP_cons, List.countP_cons]
  have k1 : decide (0 ≤ sc3 p p) = true := by rw [sc3_self]; rfl
  have k2 : decide (0 ≤ sc3 p r) = false := decide_eq_false (by have := sc3_flip.2 hrp; omega)
  rw [k1, k2]
  have sub : ∀ l : List S3, (∀ a ∈ l, a ∈ c) → l.countP (fun a => decide (0 ≤ sc3 a r)) ≤ l.countP (fun a => decide (0 ≤ sc3 a p)) := fun l hl => List.countP_mono_left fun a ha h => by
   simp only [decide_eq_true_eq] at h ⊢
   refine Int.not_lt.1 fun h' => ?_
   have := sc3_trans (hc a (hl a ha)) (hc p hp) (hc r hr) (Int.le_of_lt h') (sc3_flip.2 hrp)
   omega
  have s1 := sub A fun a ha => by rw [e]; simp [ha]
  have s2 := sub B fun a ha => by rw [e]; simp [ha]
  simp only [if_true, Bool.false_eq_true, if_false]
  omega
section
variable {segs : List E4} {c : List S3}
theorem sg_mem {x : Int} (h : Num segs x) : sg segs x ∈ segs := by
 unfold sg; rw [List.getD_eq_getElem?_getD, List.getElem?_eq_getElem h.2]; exact List.getElem_mem _
theorem meets_mem {x y : Int} (hx : Num segs x) (hy : Num segs y) (h : (meet4 (sg segs x) (sg segs y)).1 = 1) : m3 (meet4 (sg segs x) (sg segs y)) ∈ meets segs :=
 List.mem_flatMap.2 ⟨_, sg_mem hx, List.mem_map.2 ⟨_, List.mem_filter.2 ⟨sg_mem hy, by simpa using h⟩, rfl⟩⟩
theorem look_in {ss : List Int} {i k : Int} {p : S3} {qs q' : List S3} (h : LookR segs ss i k p qs q') (hss : ∀ a ∈ ss, Num segs a) (hi : i < ss.length) (hk : 0 ≤ k) {q : S3} (hq : q ∈ q') : q ∈ qs ∨ (q ∈ meets segs ∧ 0 < sc3 q p) := by
 unfold LookR at h
 split at h
 ·subst h; exact .inl hq
 ·rename_i c1
  split at h
  ·rename_i c2
   rcases h.mem hq with e | e
   ·subst e
    exact .inr ⟨meets_mem (num_getD hss _ (by omega)) (num_getD hss _ (by omega)) c2.1, c2.2⟩
   ·exact .inl e
  ·subst h; exact .inl hq
theorem stepL_ex (hs : Segs segs) (hc : ∀ a ∈ c, Ok3 a) (hm : ∀ a ∈ meets segs, a ∈ c) (hl : segs.length < 100000000) {x : LS} {m : Nat} (h : x.Ok segs c m) (hne : x.s.qs ≠ []) (hml : m < 1000000000) :
  ∃ y, StepL segs x y ∧ y.Ok segs c (m + 2) ∧ mu c y.s.qs < mu c x.s.qs := by
 obtain ⟨⟨root, n, ns, fs, qs⟩, st, ss⟩ := x
 obtain ⟨⟨hQ, hok, hsrt, hln⟩, hqc, hst, hss, hlen⟩ := h
 simp only at hne hQ hok hsrt hln hqc hst hss hlen
 obtain ⟨p, q, rfl⟩ := List.exists_cons_of_ne_nil hne
 have hp := hok p (List.mem_cons_self ..)
 have hq : ∀ u ∈ q, Ok3 u := fun u hu => hok u (List.mem_cons_of_mem _ hu)
 obtain ⟨hpq, hsq⟩ := List.pairwise_cons.1 hsrt
 obtain ⟨root1, n1, ns1, fs1, d1, d2, d3⟩ := del_any (v := spf p) (q := q.map spf) hQ (cQ p (p :: q)) (fun u hu => by
   have : u ∈ (p :: q).map spf := hu
   obtain ⟨s, hs', rfl⟩ := List.mem_map.1 this
   rw [cQ_eq hok hs']; exact cmpIs hp (hok s hs')) (by rw [cQ_eq hok (List.mem_cons_self ..)]; exact sc3_self p) (fun u hu => by
   obtain ⟨s, hs', rfl⟩ := List.mem_map.1 hu
   rw [cQ_eq hok (List.mem_cons_of_mem _ hs')]; exact hpq s hs') (by omega)
 obtain ⟨root', n', ns', fs', q1, q2, r1, r2, r3, r4, r5⟩ := step_ok (p := p) (qs := q) d1 hq hsq hs hst hss (by omega) hp (by omega)
 have fz := fnp_fz [false, false, false, false, true] r5
 obtain ⟨b1, b2⟩ := bd_le segs ss p
 have hbg := bgF_le segs st p
 have lon : (onF segs st ss p).length = (bd segs ss p (-1) - bd segs ss p 0) + bgF segs st p := by unfold onF; simp; omega
 have lnx : (nxF segs st ss p).length ≤ (onF segs st ss p).length := by unfold nxF goesF; rw [Mg.sortB_len]; exact List.length_filter_le _ _
 have ls2 : (ssF segs st ss p).length = bd segs ss p 0 + (nxF segs st ss p).length + (ss.length - bd segs ss p (-1)) := by unfold ssF; simp; omega
 have non : ∀ a ∈ onF segs st ss p, Num segs a := fun a ha => by
  unfold onF at ha
  rcases List.mem_append.1 ha with h | h
  ·exact hss a (List.mem_of_mem_take (List.mem_of_mem_drop h))
  ·exact hst a (List.mem_of_mem_take h)
 have ns2 : ∀ a ∈ ssF segs st ss p, Num segs a := fun a ha => by
  unfold ssF at ha
  rcases List.mem_append.1 ha with h | h
  ·rcases List.mem_append.1 h with h | h
   ·exact hss a (List.mem_of_mem_take h)
   ·unfold nxF goesF at h
    exact non a (List.mem_filter.1 ((Mg.sortB_perm _ _).mem_iff.1 h)).1
  ·exact hss a (List.mem_of_mem_drop h)
 obtain ⟨k1, k2⟩ := look_keep r1 hq hsq hs (num_getD ns2) (by omega) (by omega)
 have in1 : ∀ u ∈ q1, u ∈ q ∨ (u ∈ meets segs ∧ 0 < sc3 u p) := fun u hu => look_in r1 ns2 (by omega) (by omega) hu
 have key : (∀ s ∈ q2, Ok3 s) ∧ Srt q2 ∧ ∀ u ∈ q2, u ∈ q ∨ (u ∈ meets segs ∧ 0 < sc3 u p) := by
  split at r2
  ·subst r2; exact ⟨k1, k2, in1⟩
  ·rename_i hnx
   have : 0 < (nxF segs st ss p).length := List.length_pos_iff.2 hnx
   obtain ⟨g1, g2⟩ := look_keep r2 k1 k2 hs (num_getD ns2) (by omega) (by omega)
   refine ⟨g1, g2, fun u hu => (look_in r2 ns2 (by omega) (by omega) hu).elim (in1 u) .inr⟩
 obtain ⟨g1, g2, g3⟩ := key
 refine ⟨⟨⟨root', n', ns', fs', q2⟩, st.drop (bgF segs st p), ssF segs st ss p⟩, ⟨rfl, rfl, rfl, ⟨q1, r1, r2⟩, root1, n1, ns1, fs1, d3, fz⟩, ⟨⟨r3, g1, g2, by show ns'.length ≤ _; omega⟩, fun u hu => (g3 u hu).elim (fun h => hqc u (List.mem_cons_of_mem _ h)) fun h => hm u h.1, fun a ha => hst a (List.mem_of_mem_drop ha), ns2, ?_⟩, ?_⟩
 ·show (st.drop (bgF segs st p)).length + (ssF segs st ss p).length ≤ _
  rw [List.length_drop]; omega
 ·exact mu_lt hc (hqc p (List.mem_cons_self ..)) fun u hu => (g3 u hu).elim (fun h => ⟨hqc u (List.mem_cons_of_mem _ h), sc3_flip.1 (hpq u h)⟩) fun h => ⟨hm u h.1, h.2⟩
structure Run (segs : List E4) (c : List S3) (x0 : LS) (N : Nat) (S : Nat → LS) : Prop where
 z : S 0 = x0
 st : ∀ k, k < N → StepL segs (S k) (S (k + 1))
 e : (S N).s.qs = []
 ok : ∀ k, k ≤ N → ∃ m, (S k).Ok segs c m ∧ m < 1000000000
theorem run_ex (hs : Segs segs) (hc : ∀ a ∈ c, Ok3 a) (hm : ∀ a ∈ meets segs, a ∈ c) (hl : segs.length < 100000000) : ∀ (f : Nat) {x : LS} {m : Nat}, mu c x.s.qs ≤ f → x.Ok segs c m → m + 2 * f < 1000000000 → ∃ N S, N ≤ f ∧ Run segs c x N S
 | f, x, m, hf, h, hb => by
  by_cases hne : x.s.qs = []
  ·exact ⟨0, fun _ => x, Nat.zero_le _, rfl, fun k hk => absurd hk (Nat.not_lt_zero _), hne, fun k _ => ⟨m, h, by omega⟩⟩
  ·obtain ⟨y, h1, h2, h3⟩ := stepL_ex hs hc hm hl h hne (by omega)
   match f, hf with
   | 0, hf => omega
   | f + 1, hf =>
    obtain ⟨N, S, g0, g1, g2, g3, g4⟩ := run_ex hs hc hm hl f (x := y) (m := m + 2) (by omega) h2 (by omega)
    refine ⟨N + 1, fun k => match k with
     | 0 => x
     | k + 1 => S k, by omega, rfl, fun k hk => ?_, g3, fun k hk => ?_⟩
    ·cases k with
     | zero => show StepL segs x (S 0); rw [g1]; exact h1
     | succ k => exact g2 k (by omega)
    ·cases k with
     | zero => exact ⟨m, h, by omega⟩
     | succ k => exact g4 k (by omega)
end
end Go.Proofs.YtlkhneiccjhgdaaGreat
set_option maxRecDepth 100000
namespace Go.Proofs.YtlkhneiccjhgdaaGreat
open Go.Eo Go.RowKit Go.Rg
theorem may_zero {ps : List (Int × Int)} {segs : List E4} (h : mayF ps segs = 0) : ps.length ≤ 4096 ∧ segs.length ≤ 4096 ∧ (∀ k, k < ps.length → Pa (ps.getD k (0, 0))) ∧ Segs segs := by
 unfold mayF at h
 split at h
 ·cases h
 ·rename_i c1
  split at h
  ·cases h
  ·rename_i c2
   simp only [Bool.or_eq_true, not_or, Bool.not_eq_true, List.any_eq_false] at c2
   refine ⟨by omega, by omega, fun k hk => ?_, fun k hk => ?_⟩
   ·have hm' : ps.getD k (0, 0) ∈ ps := by rw [List.getD_eq_getElem?_getD, List.getElem?_eq_getElem hk]; exact List.getElem_mem _
    have := c2.1 _ hm'
    revert this
    generalize ps.getD k (0, 0) = q
    intro this
    have : Wd.ptB q.1 q.2 = true := by simpa [tPk] using this
    unfold Wd.ptB Wd.inB at this
    simp only [Bool.and_eq_true, decide_eq_true_eq] at this
    constructor <;> (unfold Ab A1; omega)
   ·have hm' : segs.getD k (0, 0, 0, 0) ∈ segs := by rw [List.getD_eq_getElem?_getD, List.getElem?_eq_getElem hk]; exact List.getElem_mem _
    have := c2.2 _ hm'
    revert this
    generalize segs.getD k (0, 0, 0, 0) = q
    intro this
    have : Wd.sgB q.1 q.2.1 q.2.2.1 q.2.2.2 = true := by simpa [tSk] using this
    unfold Wd.sgB Wd.ptB Wd.inB at this
    simp only [Bool.and_eq_true, decide_eq_true_eq] at this
    unfold Sr4
    constructor <;> (unfold Ab A1; omega)
structure EachR (ps : List (Int × Int)) (segs : List E4) (N : Nat) (S : Nat → LS) : Prop where
 kn : Kn (vsF ps segs) (S 0).s.qs
 st : (S 0).st = st0 segs
 ss : (S 0).ss = []
 bg : FnP Tryz.prog 223 [.sl 2 (pl ps), .sl 4 (gl segs)] [.a (.w 0), .a (.w 1)] [.sl 2 (pl ps), .sl 4 (gl segs)]
   [.box [.w 1, .p 3 0, .w 6, .w 7] 310, TBx cmpV 4 5 (S 0).s.root (S 0).s.n, NO (S 0).s.ns, FO (S 0).s.fs, .sl 1 (il (S 0).st), .sl 1 (il (S 0).ss)] (.a (.p 2 0))
 run : Run segs (cand ps segs) (S 0) N S
theorem each_ex {ps : List (Int × Int)} {segs : List E4} (h : mayF ps segs = 0) : ∃ N S, EachR ps segs N S ∧ N ≤ 100000000 ∧ N ≤ ps.length + 2 * segs.length + segs.length * segs.length := by
 obtain ⟨h1, h2, h3, h4⟩ := may_zero h
 obtain ⟨s, k1, k2, k3⟩ := begun_ok h3 h4 (by omega) (by omega)
 have hc : ∀ a ∈ cand ps segs, Ok3 a := fun a ha => by
  unfold cand vsF at ha
  rcases List.mem_append.1 ha with ha | ha
  ·rcases List.mem_append.1 ha with ha | ha
   ·obtain ⟨p, hp, rfl⟩ := List.mem_map.1 ha
    obtain ⟨k, hk, e⟩ := List.mem_iff_getElem.1 hp
    have := h3 k hk
    rw [List.getD_eq_getElem?_getD, List.getElem?_eq_getElem hk, Option.getD_some, e] at this
    exact spot1 this.x this.y
   ·obtain ⟨t, ht, hu⟩ := List.mem_flatMap.1 ha
    obtain ⟨k, hk, e⟩ := List.mem_iff_getElem.1 ht
    have := h4 k hk
    rw [List.getD_eq_getElem?_getD, List.getElem?_eq_getElem hk, Option.getD_some, e] at this
    simp only [List.mem_cons, List.not_mem_nil, or_false] at hu
    rcases hu with rfl | rfl
    ·exact lowS_ok this
    ·exact highS_ok this
  ·obtain ⟨t, ht, hu⟩ := List.mem_flatMap.1 ha
   obtain ⟨u, hu1, rfl⟩ := List.mem_map.1 hu
   obtain ⟨hu2, hm'⟩ := List.mem_filter.1 hu1
   obtain ⟨k, hk, e⟩ := List.mem_iff_getElem.1 ht
   obtain ⟨k', hk', e'⟩ := List.mem_iff_getElem.1 hu2
   have g := h4 k hk
   have g' := h4 k' hk'
   rw [List.getD_eq_getElem?_getD, List.getElem?_eq_getElem hk, Option.getD_some, e] at g
   rw [List.getD_eq_getElem?_getD, List.getElem?_eq_getElem hk', Option.getD_some, e'] at g'
   exact meetF_ok g g' (by simpa using hm')
 have lm : ∀ l : List E4, (l.flatMap fun s => (segs.filter fun t => decide ((meet4 s t).1 = 1)).map fun t => m3 (meet4 s t)).length ≤ l.length * segs.length := fun l => by
  induction l with
  | nil => simp
  | cons a l ih =>
   rw [List.flatMap_cons, List.length_append, List.length_map, List.length_cons, Nat.succ_mul]
   have := List.length_filter_le (fun t => decide ((meet4 a t).1 = 1)) segs
   omega
 have lv : ∀ l : List E4, (l.flatMap fun s => [lowS s, highS s]).length = 2 * l.length := fun l => by
  induction l with
  | nil => rfl
  | cons a l ih => rw [List.flatMap_cons, List.length_append, ih]; simp; omega
 have lc : (cand ps segs).length ≤ ps.length + 2 * segs.length + segs.length * segs.length := by
  unfold cand vsF meets
  rw [List.length_append, List.length_append, List.length_map, lv]
  have g := lm segs
  omega
 have lc2 : ps.length + 2 * segs.length + segs.length * segs.length ≤ 20000000 := by
  have := Nat.mul_le_mul h2 h2
  omega
 have hmu : mu (cand ps segs) s.qs ≤ (cand ps segs).length := by
  unfold mu
  split
  ·exact Nat.zero_le _
  ·exact List.countP_le_length
 obtain ⟨N, S, g1, g2⟩ := run_ex (c := cand ps segs) h4 hc (fun a ha => List.mem_append_right _ ha) (by omega) (cand ps segs).length (x := ⟨s, st0 segs, []⟩) (m := 1 + ps.length + 2 * segs.length) hmu
  ⟨k1, fun q hq => List.mem_append_left _ (k2.m q hq), fun a ha => nums_num a ((Mg.sortB_perm _ _).mem_iff.1 ha), fun a ha => (by cases ha), by show (st0 segs).length + 0 ≤ _; unfold st0; rw [Mg.sortB_len, nums_len]; omega⟩ (by omega)
 have e := g2.z
 exact ⟨N, S, ⟨by rw [e]; exact k2, by rw [e], by rw [e], by rw [e]; exact k3, by rw [e]; exact g2⟩, by omega, by omega⟩
def QS.v (s : QS) : Nat → Int := match s.qs with
 | [] => (nd s.ns 0).v
 | p :: _ => spf p
def QS.b (s : QS) : Bool := match s.qs with
 | [] => false
 | _ => true
theorem first_S {s : QS} {m : Nat} (h : s.Ok m) (hm : m < 10000000000) : FnP Tryz.prog 224 (Tr3 cmpV s.root s.n s.ns s.fs) [.a (.p 0 0)] (Tr3 cmpV s.root s.n s.ns s.fs) [] (.a (.v (.tuple #[spA s.v, .bool s.b]))) := by
 obtain ⟨root, n, ns, fs, qs⟩ := s
 have hq := h.q
 have hl := h.len
 cases qs with
 | nil => exact first_none hq
 | cons p q => exact first_some hq (Nat.lt_of_le_of_lt hl hm)
def evE (segs : List E4) (S : Nat → LS) (k : Nat) : List AV × List Ob := ([.g ((spA (spf (S k).hd)).cells.toList.map AC.v ++ [.w 4])], [.sl 1 (il ((S k).ev segs).2)])
abbrev eX (ps : List (Int × Int)) (segs : List E4) (x : LS) : List Ob := [.ro [.w 2] 22, .ro [.w 3] 23, .sl 2 (pl ps), .sl 4 (gl segs), .box [.w 3, .p 5 0, .w 8, .w 9] 310, TBx cmpV 6 7 x.s.root x.s.n, NO x.s.ns, FO x.s.fs, .sl 1 (il x.st), .sl 1 (il x.ss), .box ((spA x.s.v).cells.toList.map .v) 78]
abbrev eL (l : Nat) (x : LS) : List (Nat × AV) := [(0, yv l), (1, .a (.p 0 0)), (2, .a (.p 1 0)), (4, .a (.p 4 0)), (5, .a (.p 10 0)), (6, vb x.s.b)]
noncomputable abbrev eachB : Code := Tryz.f222.body.getD .skip
theorem each1_ok {ps : List (Int × Int)} {segs : List E4} {N : Nat} {S : Nat → LS} (hmay : mayF ps segs = 0) (hR : EachR ps segs N S) (hN : N ≤ 100000000) : SeqP Tryz.prog 222 [.p 0 0, .p 1 0] [.ro [.w 2] 22, .ro [.w 3] 23, .sl 2 (pl ps), .sl 4 (gl segs)] N (evE segs S) := by
 refine sq Tryz.func222 fun p0 C hp hA => ?_
 obtain ⟨h1, h2, h3, h4⟩ := may_zero hmay
 have M := may_ok ps segs (by omega) (by omega)
 rw [hmay] at M
 have BG := hR.bg
 have fst : ∀ k, k ≤ N → FnP Tryz.prog 224 (Tr3 cmpV (S k).s.root (S k).s.n (S k).s.ns (S k).s.fs) [.a (.p 0 0)] (Tr3 cmpV (S k).s.root (S k).s.n (S k).s.ns (S k).s.fs) [] (.a (.v (.tuple #[spA (S k).s.v, .bool (S k).s.b]))) := fun k hk => by
  obtain ⟨m, h, hm'⟩ := hR.run.ok k hk
  exact first_S h.s (by omega)
 have F0 := fst 0 (Nat.zero_le _)
 refine gq [3] (lpA 3 eachB [] []) (.f 9 [2, 3] [0, 1] M <| .f 13 [2, 3] [0, 1] BG <| .f 19 [5, 6, 7] [0, 1, 2] F0 .nil) [0, 1, 2, 3, 4, 5, 6, 7, 8, 9, 10] (eL p0.l (S 0)) (eX ps segs (S 0)) fun d => ?_
 let p := prW p0 N 4 (evE segs S)
 have start : ∀ x C, (At p true x C ∧ x ≤ N) → ∀ d, Eo.Good Tryz.prog Tryz.f222.ntmps 4 (itF Tryz.prog Tryz.f222 p) C (lpA 3 eachB [] []) ⟨d, eL p0.l (S x), mkX (eX ps segs (S x))⟩ := by
  refine loopA (fun x C => At p true x C ∧ x ≤ N) (fun x C h => ⟨h.1.m, h.1.r, rfl⟩) (fun x d => ⟨d, eL p0.l (S x), mkX (eX ps segs (S x))⟩) (fun x => N - x) (by kernel_rfl) fun x K ih C hx d => ?_
  obtain ⟨hA, hx⟩ := hx
  by_cases h : x < N
  ·obtain ⟨ne, st, ss, lk, root, n, ns, fs, fd, fs'⟩ := hR.run.st x h
   have hb : (S x).s.b = true := by unfold QS.b; rw [ne]
   have hv : (S x).s.v = spf (S x).hd := by unfold QS.v; rw [ne]
   have F1 := fst (x + 1) h
   unfold eL eX
   rw [hb, hv]
   refine goY hm hp (fun _ _ => rfl) hA h (by kernel_rfl) 6 80 (.f 36 [5, 6, 7] [] fd .nil) 4 [16] (fun W D => .f 40 [4, 3, 5, 6, 11, 8, 9] [] fs' .nil) rfl (by kernel_rfl) (by kernel_rfl) (fun b => by kernel_rfl) fun C' b hA' => ?_
   cases b with
   | false => exact dnI hp hA' ⟨by omega, h⟩ .nil
   | true =>
    refine gq [] (lpKA 3 eachB [] [] K) (.f 28 [5, 12, 13] [0, 1, 2] F1 .nil) [0, 1, 2, 3, 4, 5, 12, 13, 14, 15, 17] (eL p0.l (S (x + 1))) (eX ps segs (S (x + 1))) fun d => ?_
    exact ih (x + 1) C' ⟨hA', h⟩ (by omega) d
  ·have e : x = N := by omega
   subst e
   have hb : (S x).s.b = false := by unfold QS.b; rw [hR.run.e]
   unfold eL
   rw [hb]
   exact dnI hp hA rfl .nil
 exact start 0 C ⟨hA, Nat.zero_le _⟩ d
end Go.Proofs.YtlkhneiccjhgdaaGreat
set_option maxRecDepth 100000
namespace Go.Proofs.YtlkhneiccjhgdaaGreat
open Go.Eo Go.RowKit Go.Rg
theorem each_ok (ps : List (Int × Int)) (segs : List E4) : FnP Tryz.prog 176 [.sl 2 (pl ps), .sl 4 (gl segs)] [.a (.w 0), .a (.w 1)] [.sl 2 (pl ps), .sl 4 (gl segs)] [.ro [.w 0] 22, .ro [.w 1] 23] (.f (.func 222) [] [.p 2 0, .p 3 0]) :=
 fq Tryz.func176 fun C => dn (.z 1000 2 <| .z 1000 3 .nil) [0, 1, 2, 3]
def evD (e : S3 × List Int) : List Dt := (spA (spf e.1)).cells.toList.map Dt.v ++ [.s 1 (il e.2)]
abbrev evl (l : List (S3 × List Int)) : List (List Dt) := l.map evD
def evs (segs : List E4) (S : Nat → LS) (k : Nat) : List (S3 × List Int) := (List.range k).map fun i => (S i).ev segs
theorem evs_succ (segs : List E4) (S : Nat → LS) (k : Nat) : evs segs S (k + 1) = evs segs S k ++ [(S k).ev segs] := by unfold evs; rw [List.range_succ]; simp
theorem evs_len (segs : List E4) (S : Nat → LS) (k : Nat) : (evs segs S k).length = k := by unfold evs; simp
noncomputable abbrev apqB : Code := Tryz.f221.body.getD .skip
section
variable {ps : List (Int × Int)} {segs : List E4} {N : Nat} {S : Nat → LS}
abbrev apX (ps : List (Int × Int)) (segs : List E4) (e : List (S3 × List Int)) : List Ob := [.ro [.w 2] 22, .ro [.w 3] 23, .sl 2 (pl ps), .sl 4 (gl segs), .box [.w 5] 190, .row 194 13 (evl e)]
theorem appseq_ok (hmay : mayF ps segs = 0) (hR : EachR ps segs N S) (hN : N ≤ 100000000) :
  FnP Tryz.prog 221 [.ro [.w 2] 22, .ro [.w 3] 23, .sl 2 (pl ps), .sl 4 (gl segs)] [.a nilS, .f (.func 222) [] [.p 0 0, .p 1 0]] [.ro [.w 2] 22, .ro [.w 3] 23, .sl 2 (pl ps), .sl 4 (gl segs)] [.row 194 13 (evl (evs segs S N))] (.a (.w 4)) := by
 refine fqM Tryz.func221 fun C hC => ?_
 refine gq [2] (rgK 2 apqB []) (.q 1000 4 0 194 13 .nil) [0, 1, 2, 3, 4, 5] [(2, .a (.p 4 0)), (6, .f (.func 222) [] [.p 0 0, .p 1 0])] (apX ps segs (evs segs S 0)) fun d => ?_
 refine rng hm (reb_finM _ _ _ _) hC (each1_ok hmay hR hN) 5 [0, 1, 2, 3] (fun k => apX ps segs (evs segs S k)) (by kernel_rfl) (by kernel_rfl) (by kernel_rfl) (fun k => by kernel_rfl) (fun k => by kernel_rfl) (fun k => by kernel_rfl) (fun k C' K hk hdf ih => ?_) (fun C' hC' _ => ?_)
 ·have z : (evl (evs segs S k)).length = k := by rw [List.length_map, evs_len]
  have es := evs_succ segs S k
  exact gq [] ([.a K]) (.a (n := (evl (evs segs S k)).length + 1) (bytes := 120) 11 (by rw [z]; unfold maxLen; omega) (by rw [z]; omega) <| .o (x := .row 194 13 (evl (evs segs S k) ++ [evD ((S k).ev segs)])) (y := .row 194 13 (evl (evs segs S (k + 1)))) 1000 9 (by rw [es]; simp) .nil) [0, 1, 2, 3, 4, 9] [] (apX ps segs (evs segs S (k + 1))) ih
 ·exact dnM .nil [0, 1, 2, 3, 5]
theorem collect_ok (hmay : mayF ps segs = 0) (hR : EachR ps segs N S) (hN : N ≤ 100000000) :
  FnP Tryz.prog 175 [.ro [.w 2] 22, .ro [.w 3] 23, .sl 2 (pl ps), .sl 4 (gl segs)] [.f (.func 222) [] [.p 0 0, .p 1 0]] [.ro [.w 2] 22, .ro [.w 3] 23, .sl 2 (pl ps), .sl 4 (gl segs)] [.row 194 13 (evl (evs segs S N))] (.a (.w 4)) :=
 fq Tryz.func175 fun C => dn (.f 4 [0, 1, 2, 3] [0, 1, 2, 3] (appseq_ok hmay hR hN) .nil) [0, 1, 2, 3, 4]
theorem events_ok (hmay : mayF ps segs = 0) (hR : EachR ps segs N S) (hN : N ≤ 100000000) :
  FnP Tryz.prog 120 [.sl 2 (pl ps), .sl 4 (gl segs)] [.a (.w 0), .a (.w 1)] [.sl 2 (pl ps), .sl 4 (gl segs)] [.row 194 13 (evl (evs segs S N))] (.t [.a (.w 2), .a (.v (i6 0))]) := by
 obtain ⟨h1, h2, h3, h4⟩ := may_zero hmay
 have M := may_ok ps segs (by omega) (by omega)
 rw [hmay] at M
 exact fq Tryz.func120 fun C => dn (.f 9 [0, 1] [0, 1] M <| .f 15 [0, 1] [0, 1] (each_ok ps segs) <| .f 16 [2, 3, 0, 1] [0, 1, 2, 3] (collect_ok hmay hR hN) .nil) [0, 1, 4]
end
end Go.Proofs.YtlkhneiccjhgdaaGreat
