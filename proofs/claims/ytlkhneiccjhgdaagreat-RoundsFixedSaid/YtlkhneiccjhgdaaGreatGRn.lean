/- Parts of the proof. -/
import Derived.Test.YtlkhneiccjhgdaaGreatGRh
import Derived.Test.YtlkhneiccjhgdaaGreatGRm
import Derived.Laws.StructEq
import Derived.Test.YtlkhneiccjhgdaaGreatGRk
import Derived.Test.YtlkhneiccjhgdaaGreatGRl
set_option linter.unusedVariables false
set_option linter.unusedSimpArgs false
set_option maxRecDepth 100000
namespace Go.Proofs.YtlkhneiccjhgdaaGreat
open Go.Eo Go.RowKit Go.Rg
section
variable (n : Int) (root : Nat) (ns : List Nd) (fs : List Nat)
theorem put0_ok (v : Nat → Int) (c : Nat → Int) (l : List (Nat × Bool)) (e : Nat) (he : e ≠ 0) (hw : Way ns c root l e) (hc : ∀ i, (i ∈ l.map (·.1) ∨ i = e ∧ e ≠ 0) → CmpIs v (nd ns i).v (c i)) (hl : l.length < 1000000000000) :
  FnP Tryz.prog 244 (Tr3 cmpV root n ns fs) [.a (.p 0 0), .a (.v (spA v))] [TBx cmpV 3 4 root n, .dead, .dead] [NO ns, FO fs] (vb false) :=
 fq Tryz.func244 fun C =>
  dn (.f 10 [0, 1, 2] [0, 1, 2] (way_ok n root ns fs v c l e hw hc hl) <| .v 14 (nt (show ((e : Nat) : Int) ≠ 0 by omega)) .nil) [0, 1, 2, 1, 2]
theorem put1_ok (v : Nat → Int) (c : Nat → Int) (l : List (Nat × Bool)) (hw : Way ns c root l 0) (hc : ∀ i, (i ∈ l.map (·.1) ∨ i = 0 ∧ 0 ≠ 0) → CmpIs v (nd ns i).v (c i)) (hl : l.length < 1000000000000) (ns1 : List Nd) (fs1 : List Nat) (i : Nat)
  (hf : FnP Tryz.prog 261 (Tr3 cmpV root n ns fs) [.a (.p 0 0), .a (.v (spA v))] [TBx cmpV 3 4 root n, .dead, .dead] [NO ns1, FO fs1] (vi i)) (h : HangOk l (ns1, i)) (hn : -9223372036854775808 ≤ n + 1 ∧ n + 1 ≤ 9223372036854775807) :
  FnP Tryz.prog 244 (Tr3 cmpV root n ns fs) [.a (.p 0 0), .a (.v (spA v))] [TBx cmpV 3 4 (hangF l (ns1, i)).2 (n + 1), .dead, .dead] [NO (hangF l (ns1, i)).1, FO fs1] (vb true) :=
 fq Tryz.func244 fun C =>
  dn (.f 10 [0, 1, 2] [0, 1, 2] (way_ok n root ns fs v c l 0 hw hc hl) <| .v 14 (nf (show ((0 : Nat) : Int) = 0 from rfl)) <| .z 4 4 <| .f 19 [0, 1, 2] [] hf <| .f 20 [0, 5, 6, 4] [3] (hang_ok n root fs1 l ns1 i hl h) <| .v 25 (w64 hn) .nil) [0, 1, 2, 5, 6]
theorem len_half (ns : List Nd) (i : Nat) (b : Bool) : (half ns i b).length = ns.length := by unfold half; cases decide (0 < leanF ns (kid ns i b) !b) <;> simp [lenT]
theorem len_level (ns : List Nd) (i : Nat) : (levelF ns i).1.length = ns.length := by
 unfold levelF up
 cases decide (leanF (fitF ns i) i false < 2) <;> cases decide (leanF (fitF ns i) i true < 2) <;> simp [lenT, len_half, lenF]
theorem len_hang (l : List (Nat × Bool)) (ns : List Nd) (i : Nat) : (hangF l (ns, i)).1.length = ns.length := by
 induction l with
 | nil => rfl
 | cons s l ih =>
  show (hang1 s (hangF l (ns, i))).1.length = _
  unfold hang1
  rw [len_level, List.length_set, ih]
theorem del_ok (v : Nat → Int) (c : Nat → Int) (l : List (Nat × Bool)) (e : Nat) (he : e ≠ 0) (hi : e < ns.length) (hk : (nd ns e).a = 0) (hw : Way ns c root l e) (hc : ∀ i, (i ∈ l.map (·.1) ∨ i = e ∧ e ≠ 0) → CmpIs v (nd ns i).v (c i)) (hl : l.length < 1000000000000) (h : HangOk l (ns, (nd ns e).b))
  (hf : fs.length < 100000000000) (hn : -9223372036854775808 ≤ n - 1 ∧ n - 1 ≤ 9223372036854775807) :
  FnP Tryz.prog 225 (Tr3 cmpV root n ns fs) [.a (.p 0 0), .a (.v (spA v))] [TBx cmpV 1 3 (hangF l (ns, (nd ns e).b)).2 (n - 1), NO ((hangF l (ns, (nd ns e).b)).1.set e default), .dead] [FO (fs ++ [e])] (vb true) := by
 have he' : e < (hangF l (ns, (nd ns e).b)).1.length := by rw [len_hang]; exact hi
 have hm' : ((hangF l (ns, (nd ns e).b)).1.map Nd.enc).length = (hangF l (ns, (nd ns e).b)).1.length := List.length_map _
 have hfl : (fs.map fun x => [Dt.v (i6 (x : Nat))]).length = fs.length := List.length_map _
 exact fq Tryz.func225 fun C =>
  dn (.f 14 [0, 1, 2] [0, 1, 2] (way_ok n root ns fs v c l e hw hc hl) <| .v 18 (ef (show ((e : Nat) : Int) ≠ 0 by omega)) <| .f 22 [0, 1, 2] [0, 1, 2] (at_ok cmpV root n ns fs e hi) <| .l 25 (nd_enc hi) <| .v 30 (et (show (((nd ns e).a : Nat) : Int) = 0 by omega)) <|
   .z 14 4 <| .f 80 [0, 1, 2, 4] [2, 3] (hang_ok n root fs l ns (nd ns e).b hl h) <| .i (z := ((e : Nat) : Int)) (n := e) (len := ((hangF l (ns, (nd ns e).b)).1.map Nd.enc).length) 87 rfl (by rw [hm']; exact he') <| .l 1 (nd_enc he') <| .o (y := NO ((hangF l (ns, (nd ns e).b)).1.set e default)) 16 1 (congrArg (Ob.row 342 15) (set_enc _ e default)) <|
   .a (n := (fs.map fun x => [Dt.v (i6 (x : Nat))]).length + 1) (bytes := 8) 95 (by rw [hfl]; unfold maxLen; omega) (by rw [hfl]; omega) <| .v 102 (w64 hn) <| .o (x := .row 3 1 ((fs.map fun x => [Dt.v (i6 (x : Nat))]) ++ [[.v (i6 (e : Nat))]])) (y := FO (fs ++ [e])) 1000 7 (by simp [FO]) .nil) [0, 1, 2, 7]
end
end Go.Proofs.YtlkhneiccjhgdaaGreat
set_option maxRecDepth 100000
namespace Go.Proofs.YtlkhneiccjhgdaaGreat
open Go.Eo Go.RowKit Go.Rg
inductive Tr where
 | nil
 | node (i : Nat) (l r : Tr)
def Tr.root : Tr → Nat
 | .nil => 0
 | .node i _ _ => i
def Tr.ht : Tr → Nat
 | .nil => 0
 | .node _ l r => max l.ht r.ht + 1
def Tr.idx : Tr → List Nat
 | .nil => []
 | .node i l r => l.idx ++ i :: r.idx
def mkT (b : Bool) (i : Nat) (x y : Tr) : Tr := bif b then .node i y x else .node i x y
theorem mkT_mem (b : Bool) (i : Nat) (x y : Tr) (j : Nat) : j ∈ (mkT b i x y).idx ↔ j = i ∨ j ∈ x.idx ∨ j ∈ y.idx := by
 cases b <;> simp [mkT, Tr.idx] <;> constructor <;> rintro (h | h | h) <;> simp [h]
theorem mkT_root (b : Bool) (i : Nat) (x y : Tr) : (mkT b i x y).root = i := by cases b <;> rfl
theorem rot_idx (b : Bool) (i k : Nat) (x y z : Tr) : (mkT b k x (mkT b i y z)).idx = (mkT b i (mkT b k x y) z).idx := by cases b <;> simp [mkT, Tr.idx]
inductive Rep (ns : List Nd) : Tr → Prop where
 | nil : Rep ns .nil
 | node (i : Nat) {l r : Tr} (h0 : i ≠ 0) (hi : i < ns.length) (ha : (nd ns i).a = l.root) (hb : (nd ns i).b = r.root) (hd : (nd ns i).d = ((max l.ht r.ht + 1 : Nat) : Int)) (hl : Rep ns l) (hr : Rep ns r) : Rep ns (.node i l r)
theorem Rep.lt {ns : List Nd} {t : Tr} (h : Rep ns t) : ∀ j ∈ t.idx, j ≠ 0 ∧ j < ns.length := by
 induction h with
 | nil => intro j hj; cases hj
 | node i h0 hi ha hb hd hl hr ihl ihr =>
  intro j hj
  simp only [Tr.idx, List.mem_append, List.mem_cons] at hj
  rcases hj with hj | rfl | hj
  ·exact ihl j hj
  ·exact ⟨h0, hi⟩
  ·exact ihr j hj
theorem Rep.congr {ns ns' : List Nd} {t : Tr} (h : Rep ns t) (hl : ns'.length = ns.length) (he : ∀ j ∈ t.idx, nd ns' j = nd ns j) : Rep ns' t := by
 induction h with
 | nil => exact .nil
 | node i h0 hi ha hb hd hl' hr ihl ihr =>
  have e := he i (by simp [Tr.idx])
  exact .node i h0 (by omega) (by rw [e]; exact ha) (by rw [e]; exact hb) (by rw [e]; exact hd) (ihl fun j hj => he j (by simp [Tr.idx, hj])) (ihr fun j hj => he j (by simp [Tr.idx, hj]))
theorem Rep.root_lt {ns : List Nd} {t : Tr} (h : Rep ns t) (h0 : 0 < ns.length) : t.root < ns.length := by
 cases h with
 | nil => exact h0
 | node i _ hi => exact hi
theorem Rep.d {ns : List Nd} {t : Tr} (h : Rep ns t) (h0 : (nd ns 0).d = 0) : (nd ns t.root).d = t.ht := by
 cases h with
 | nil => exact h0
 | node i _ hi ha hb hd => exact hd
theorem ht_le (t : Tr) : t.ht ≤ t.idx.length := by
 induction t with
 | nil => exact Nat.le_refl _
 | node i l r ihl ihr => simp only [Tr.ht, Tr.idx, List.length_append, List.length_cons]; omega
theorem nodup_le : ∀ (n : Nat) (l : List Nat), l.Nodup → (∀ j ∈ l, j < n) → l.length ≤ n
 | 0, l, _, h => by
  cases l with
  | nil => exact Nat.le_refl _
  | cons x l => exact absurd (h x (List.mem_cons_self ..)) (Nat.not_lt_zero _)
 | n + 1, l, hn, h => by
  have := nodup_le n (l.erase n) (hn.erase n) fun j hj => by
   have h1 := h j (List.mem_of_mem_erase hj)
   have h2 : j ≠ n := ((hn.mem_erase_iff).1 hj).1
   omega
  rw [List.length_erase] at this
  split at this <;> omega
theorem idx_le {ns : List Nd} {t : Tr} (h : Rep ns t) (hn : t.idx.Nodup) : t.idx.length ≤ ns.length := nodup_le _ _ hn fun j hj => (h.lt j hj).2
theorem nd_set {ns : List Nd} {i : Nat} {x : Nd} (hi : i < ns.length) (j : Nat) : nd (ns.set i x) j = if j = i then x else nd ns j := by
 unfold nd
 rw [List.getElem?_set]
 by_cases h : i = j
 ·subst h; simp [hi]
 ·rw [if_neg h, if_neg (fun e => h e.symm)]
theorem kid_mk {ns : List Nd} {b : Bool} {i : Nat} {x y : Tr} (h : Rep ns (mkT b i x y)) : i ≠ 0 ∧ i < ns.length ∧ kid ns i b = x.root ∧ kid ns i (!b) = y.root ∧ Rep ns x ∧ Rep ns y := by
 cases b <;> (simp only [mkT, cond_true, cond_false] at h; cases h with | node i h0 hi ha hb hd hl hr => exact ⟨h0, hi, by assumption, by assumption, by assumption, by assumption⟩)
theorem fit_rep {ns : List Nd} {b : Bool} {i : Nat} {x y : Tr} (hz : (nd ns 0).d = 0) (h0 : i ≠ 0) (hi : i < ns.length) (hx : kid ns i b = x.root) (hy : kid ns i (!b) = y.root) (rx : Rep ns x) (ry : Rep ns y) (ix : i ∉ x.idx) (iy : i ∉ y.idx) :
  Rep (fitF ns i) (mkT b i x y) := by
 have hs := fun j => nd_set (ns := ns) (x := { nd ns i with d := deepOf ns i }) hi j
 have hl : (fitF ns i).length = ns.length := lenF ns i
 have rx' : Rep (fitF ns i) x := rx.congr hl fun j hj => by unfold fitF; rw [hs j, if_neg (fun e : j = i => ix (e ▸ hj))]
 have ry' : Rep (fitF ns i) y := ry.congr hl fun j hj => by unfold fitF; rw [hs j, if_neg (fun e : j = i => iy (e ▸ hj))]
 have e : nd (fitF ns i) i = { nd ns i with d := deepOf ns i } := by unfold fitF; rw [hs i, if_pos rfl]
 have dx := rx.d hz
 have dy := ry.d hz
 cases b with
 | true =>
  have hx : (nd ns i).b = x.root := hx
  have hy : (nd ns i).a = y.root := hy
  refine .node i h0 (by rw [hl]; exact hi) (by rw [e]; exact hy) (by rw [e]; exact hx) ?_ ry' rx'
  rw [e]; show deepOf ns i = _
  unfold deepOf; rw [hx, hy, dx, dy]; omega
 | false =>
  have hx : (nd ns i).a = x.root := hx
  have hy : (nd ns i).b = y.root := hy
  refine .node i h0 (by rw [hl]; exact hi) (by rw [e]; exact hx) (by rw [e]; exact hy) ?_ rx' ry'
  rw [e]; show deepOf ns i = _
  unfold deepOf; rw [hx, hy, dx, dy]; omega
theorem fit_ok' {ns : List Nd} {b : Bool} {i : Nat} {x y : Tr} (hz : (nd ns 0).d = 0) (hi : i < ns.length) (hx : kid ns i b = x.root) (hy : kid ns i (!b) = y.root) (rx : Rep ns x) (ry : Rep ns y) (hb : x.ht ≤ 100000000000 ∧ y.ht ≤ 100000000000) : FitOk ns i := by
 have dx := rx.d hz
 have dy := ry.d hz
 have lx := rx.root_lt (by omega)
 have ly := ry.root_lt (by omega)
 cases b with
 | true =>
  have hx : (nd ns i).b = x.root := hx
  have hy : (nd ns i).a = y.root := hy
  exact ⟨hi, by rw [hy]; exact ly, by rw [hx]; exact lx, by unfold deepOf; rw [hx, hy, dx, dy]; omega⟩
 | false =>
  have hx : (nd ns i).a = x.root := hx
  have hy : (nd ns i).b = y.root := hy
  exact ⟨hi, by rw [hx]; exact lx, by rw [hy]; exact ly, by unfold deepOf; rw [hx, hy, dx, dy]; omega⟩
def kidOf (x : Nd) (b : Bool) : Nat := bif b then x.b else x.a
theorem kid_of (ns : List Nd) (i : Nat) (b : Bool) : kid ns i b = kidOf (nd ns i) b := rfl
theorem set_b (x : Nd) (b : Bool) (v : Nat) : kidOf (setKid x b v) b = v := by cases b <;> rfl
theorem set_o (x : Nd) (b : Bool) (v : Nat) : kidOf (setKid x b v) (!b) = kidOf x (!b) := by cases b <;> rfl
theorem set_p (x : Nd) (b : Bool) (v : Nat) : kidOf (setKid x (!b) v) b = kidOf x b := by cases b <;> rfl
theorem set_q (x : Nd) (b : Bool) (v : Nat) : kidOf (setKid x (!b) v) (!b) = v := by cases b <;> rfl
theorem set_v (x : Nd) (b : Bool) (v : Nat) : (setKid x b v).v = x.v := by cases b <;> rfl
structure Fr (ns ns' : List Nd) (S : List Nat) : Prop where
 len : ns'.length = ns.length
 oth : ∀ j, j ∉ S → nd ns' j = nd ns j
 v : ∀ j, (nd ns' j).v = (nd ns j).v
theorem Fr.refl (ns : List Nd) (S : List Nat) : Fr ns ns S := ⟨rfl, fun _ _ => rfl, fun _ => rfl⟩
theorem Fr.trans {a b c : List Nd} {S : List Nat} (h : Fr a b S) (k : Fr b c S) : Fr a c S := ⟨k.len.trans h.len, fun j hj => (k.oth j hj).trans (h.oth j hj), fun j => (k.v j).trans (h.v j)⟩
theorem Fr.mono {a b : List Nd} {S T : List Nat} (h : Fr a b S) (hs : ∀ j ∈ S, j ∈ T) : Fr a b T := ⟨h.len, fun j hj => h.oth j fun h' => hj (hs j h'), h.v⟩
theorem fr_set {ns : List Nd} {i : Nat} {x : Nd} (hi : i < ns.length) (hv : x.v = (nd ns i).v) {S : List Nat} (hS : i ∈ S) : Fr ns (ns.set i x) S := ⟨by simp, fun j hj => by rw [nd_set hi, if_neg (fun e : j = i => hj (e ▸ hS))], fun j => by
 rw [nd_set hi]
 split
 ·rename_i e; subst e; exact hv
 ·rfl⟩
theorem fr_fit {ns : List Nd} {i : Nat} (hi : i < ns.length) {S : List Nat} (hS : i ∈ S) : Fr ns (fitF ns i) S := fr_set (x := { nd ns i with d := deepOf ns i }) hi rfl hS
theorem turn_rep {ns : List Nd} {b : Bool} {i k : Nat} {x y z : Tr} (hz : (nd ns 0).d = 0) (h0 : i ≠ 0) (hi : i < ns.length) (hk : kid ns i b = k) (hy : kid ns i (!b) = z.root) (rk : Rep ns (mkT b k x y)) (rz : Rep ns z) (hn : (mkT b i (mkT b k x y) z).idx.Nodup) (hlen : ns.length ≤ 100000000000) :
  TurnOk ns i b ∧ Rep (turnF ns i b) (mkT b k x (mkT b i y z)) ∧ Fr ns (turnF ns i b) [i, k] := by
 obtain ⟨k0, kl, kx, ky, rx, ry⟩ := kid_mk rk
 have hperm : (i :: k :: (x.idx ++ (y.idx ++ z.idx))).Nodup := by
  refine (List.Perm.nodup_iff ?_).1 hn
  cases b
  ·simp only [mkT, cond_false, Tr.idx]
   refine (List.perm_middle).trans (List.Perm.cons _ ?_)
   rw [List.append_assoc]
   refine (List.perm_middle).trans (List.Perm.cons _ ?_)
   exact List.Perm.refl _
  ·simp only [mkT, cond_true, Tr.idx]
   refine (List.perm_middle).trans (List.Perm.cons _ ?_)
   rw [← List.append_assoc]
   refine (List.perm_middle).trans (List.Perm.cons _ ?_)
   rw [List.append_assoc]
   refine (List.perm_append_comm).trans ?_
   refine (List.Perm.append_right _ List.perm_append_comm).trans ?_
   rw [List.append_assoc]
 simp only [List.nodup_cons, List.mem_cons, List.mem_append, not_or] at hperm
 obtain ⟨⟨hik, ix, iy, iz⟩, ⟨kx', ky', kz'⟩, hrest⟩ := hperm
 have nsy : y.idx.Nodup := (List.nodup_append.1 (List.nodup_append.1 hrest).2.1).1
 have nsz : z.idx.Nodup := (List.nodup_append.1 (List.nodup_append.1 hrest).2.1).2.1
 have nsx : x.idx.Nodup := (List.nodup_append.1 hrest).1
 have bx := Nat.le_trans (ht_le x) (idx_le rx nsx)
 have by' := Nat.le_trans (ht_le y) (idx_le ry nsy)
 have bz := Nat.le_trans (ht_le z) (idx_le rz nsz)
 -- the two sets
 obtain ⟨n1, hn1⟩ : ∃ n1, n1 = turn1 ns i b := ⟨_, rfl⟩
 obtain ⟨n2, hn2⟩ : ∃ n2, n2 = turn2 ns i b := ⟨_, rfl⟩
 have e1 : n1 = ns.set i (setKid (nd ns i) b y.root) := by rw [hn1]; unfold turn1; rw [hk, ky]
 have l1 : n1.length = ns.length := by rw [hn1]; exact len1 ns i b
 have e2 : n2 = n1.set k (setKid (nd n1 k) (!b) i) := by rw [hn2, hn1]; unfold turn2; rw [hk]
 have l2 : n2.length = ns.length := by rw [hn2]; exact len2 ns i b
 have g1 : ∀ j, nd n1 j = if j = i then setKid (nd ns i) b y.root else nd ns j := fun j => by rw [e1]; exact nd_set hi j
 have g2 : ∀ j, nd n2 j = if j = k then setKid (nd n1 k) (!b) i else nd n1 j := fun j => by rw [e2]; exact nd_set (by omega) j
 have ei : nd n2 i = setKid (nd ns i) b y.root := by rw [g2, if_neg hik, g1, if_pos rfl]
 have ek : nd n2 k = setKid (nd ns k) (!b) i := by rw [g2, if_pos rfl, g1, if_neg (fun e => hik e.symm)]
 have eo : ∀ j, j ≠ i → j ≠ k → nd n2 j = nd ns j := fun j h h' => by rw [g2, if_neg h', g1, if_neg h]
 have z2 : (nd n2 0).d = 0 := by rw [eo 0 (fun e => h0 e.symm) (fun e => k0 e.symm)]; exact hz
 have rx2 : Rep n2 x := rx.congr l2 fun j hj => eo j (fun e => ix (e ▸ hj)) (fun e => kx' (e ▸ hj))
 have ry2 : Rep n2 y := ry.congr l2 fun j hj => eo j (fun e => iy (e ▸ hj)) (fun e => ky' (e ▸ hj))
 have rz2 : Rep n2 z := rz.congr l2 fun j hj => eo j (fun e => iz (e ▸ hj)) (fun e => kz' (e ▸ hj))
 have kb : kid n2 i b = y.root := by rw [kid_of, ei]; exact set_b _ _ _
 have ko : kid n2 i (!b) = z.root := by rw [kid_of, ei, set_o]; exact hy
 have r3 := fit_rep z2 h0 (by omega) kb ko ry2 rz2 iy iz
 have f3 := fit_ok' z2 (by omega) kb ko ry2 rz2 (by omega)
 -- the second fit
 obtain ⟨n3, hn3⟩ : ∃ n3, n3 = fitF n2 i := ⟨_, rfl⟩
 rw [← hn3] at r3
 have l3 : n3.length = ns.length := by rw [hn3, lenF]; exact l2
 have fr3 : Fr n2 n3 [i] := by rw [hn3]; exact fr_fit (by omega) (by simp)
 have ek3 : nd n3 k = nd n2 k := fr3.oth k (by simp; exact fun e => hik e.symm)
 have z3 : (nd n3 0).d = 0 := by rw [fr3.oth 0 (by simp; exact fun e => h0 e.symm)]; exact z2
 have rx3 : Rep n3 x := rx2.congr (by omega) fun j hj => fr3.oth j (by simp; exact fun e => ix (e ▸ hj))
 have kb3 : kid n3 k b = x.root := by rw [kid_of, ek3, ek, set_p]; exact kx
 have ko3 : kid n3 k (!b) = (mkT b i y z).root := by rw [kid_of, ek3, ek, set_q, mkT_root]
 have kni : k ∉ (mkT b i y z).idx := by
  rw [mkT_mem]
  rintro (h | h | h)
  ·exact hik h.symm
  ·exact ky' h
  ·exact kz' h
 have r4 := fit_rep z3 k0 (by omega) kb3 ko3 rx3 r3 kx' kni
 have hb4 : (mkT b i y z).ht ≤ 100000000000 := by
  have := idx_le r3 (by
   have : (i :: (y.idx ++ z.idx)).Nodup := List.nodup_cons.2 ⟨by simp [iy, iz], (List.nodup_append.1 hrest).2.1⟩
   refine (List.Perm.nodup_iff ?_).1 this
   cases b
   ·simp only [mkT, cond_false, Tr.idx]; exact List.perm_middle.symm
   ·simp only [mkT, cond_true, Tr.idx]
    exact (List.Perm.cons _ List.perm_append_comm).trans List.perm_middle.symm)
  have := ht_le (mkT b i y z)
  omega
 have f4 := fit_ok' z3 (by omega) kb3 ko3 rx3 r3 (by omega)
 have et : turnF ns i b = fitF n3 k := by rw [hn3, hn2]; unfold turnF; rw [hk]
 refine ⟨⟨hi, by rw [hk]; exact kl, by rw [← hn2]; exact f3, by rw [← hn2, ← hn3, hk]; exact f4⟩, by rw [et]; exact r4, ?_⟩
 rw [et]
 have fr1 : Fr ns n1 [i, k] := by rw [e1]; exact fr_set hi (set_v _ _ _) (by simp)
 have fr2 : Fr n1 n2 [i, k] := by rw [e2]; exact fr_set (by omega) (set_v _ _ _) (by simp)
 exact ((fr1.trans fr2).trans (fr3.mono (by simp))).trans (fr_fit (by omega) (by simp))
end Go.Proofs.YtlkhneiccjhgdaaGreat
set_option maxRecDepth 100000
namespace Go.Proofs.YtlkhneiccjhgdaaGreat
open Go.Eo Go.RowKit Go.Rg
theorem mkT_not (b : Bool) (i : Nat) (x y : Tr) : mkT (!b) i y x = mkT b i x y := by cases b <;> rfl
theorem mkT_of (b : Bool) {t : Tr} (h : 0 < t.ht) : ∃ k x y, t = mkT b k x y := by
 cases t with
 | nil => cases h
 | node i l r => cases b with
  | true => exact ⟨i, r, l, rfl⟩
  | false => exact ⟨i, l, r, rfl⟩
theorem mkT_idx (b : Bool) (i : Nat) {x y x' y' : Tr} (hx : x'.idx = x.idx) (hy : y'.idx = y.idx) : (mkT b i x' y').idx = (mkT b i x y).idx := by cases b <;> simp [mkT, Tr.idx, hx, hy]
theorem lean_eq {ns : List Nd} {b : Bool} {i : Nat} {x y : Tr} (hz : (nd ns 0).d = 0) (h : Rep ns (mkT b i x y)) : leanF ns i b = (x.ht : Int) - y.ht := by
 obtain ⟨_, _, hx, hy, rx, ry⟩ := kid_mk h
 unfold leanF
 rw [hx, hy, rx.d hz, ry.d hz]
theorem mkT_nodup {b : Bool} {i : Nat} {x y : Tr} (h : (mkT b i x y).idx.Nodup) : x.idx.Nodup ∧ y.idx.Nodup ∧ i ∉ x.idx ∧ i ∉ y.idx ∧ ∀ j ∈ x.idx, j ∉ y.idx := by
 cases b with
 | false =>
  simp only [mkT, cond_false, Tr.idx] at h
  obtain ⟨h1, h2, h3⟩ := List.nodup_append.1 h
  obtain ⟨h4, h5⟩ := List.nodup_cons.1 h2
  exact ⟨h1, h5, fun hi => h3 i hi i (by simp) rfl, h4, fun j hj hj' => h3 j hj j (by simp [hj']) rfl⟩
 | true =>
  simp only [mkT, cond_true, Tr.idx] at h
  obtain ⟨h1, h2, h3⟩ := List.nodup_append.1 h
  obtain ⟨h4, h5⟩ := List.nodup_cons.1 h2
  exact ⟨h5, h1, h4, fun hi => h3 i hi i (by simp) rfl, fun j hj hj' => h3 j hj' j (by simp [hj]) rfl⟩
theorem ht_bound {ns : List Nd} {t : Tr} (h : Rep ns t) (hn : t.idx.Nodup) (hl : ns.length ≤ 100000000000) : t.ht ≤ 100000000000 := by
 have := ht_le t
 have := idx_le h hn
 omega
theorem lean_ok' {ns : List Nd} {b : Bool} {i : Nat} {x y : Tr} (hz : (nd ns 0).d = 0) (h : Rep ns (mkT b i x y)) (hn : (mkT b i x y).idx.Nodup) (hl : ns.length ≤ 100000000000) : LeanOk ns i b := by
 obtain ⟨_, hi, hx, hy, rx, ry⟩ := kid_mk h
 obtain ⟨n1, n2, _⟩ := mkT_nodup hn
 have b1 := ht_bound rx n1 hl
 have b2 := ht_bound ry n2 hl
 exact ⟨hi, by rw [hx]; exact rx.root_lt (by omega), by rw [hy]; exact ry.root_lt (by omega), by rw [lean_eq hz h]; omega⟩
theorem up_rep {ns : List Nd} {b : Bool} {i : Nat} {X Z : Tr} (hz : (nd ns 0).d = 0) (h : Rep ns (mkT b i X Z)) (hn : (mkT b i X Z).idx.Nodup) (hl : ns.length ≤ 100000000000) (hd : ¬ leanF ns i b < 2) :
  UpOk ns i b ∧ ∃ t, Rep (up ns i b).1 t ∧ t.root = (up ns i b).2 ∧ t.idx = (mkT b i X Z).idx ∧ Fr ns (up ns i b).1 (mkT b i X Z).idx := by
 obtain ⟨h0, hi, kX, kZ, rX, rZ⟩ := kid_mk h
 obtain ⟨nX, nZ, iX, iZ, dXZ⟩ := mkT_nodup hn
 rw [lean_eq hz h] at hd
 obtain ⟨k, x, y, rfl⟩ := mkT_of b (t := X) (by omega)
 rw [mkT_root] at kX
 have lk := lean_ok' (b := !b) (i := k) (x := y) (y := x) hz (by rw [mkT_not]; exact rX) (by rw [mkT_not]; exact nX) hl
 have el := lean_eq (b := !b) (i := k) (x := y) (y := x) hz (by rw [mkT_not]; exact rX)
 obtain ⟨k0, hk, kx, ky, rx, ry⟩ := kid_mk rX
 have km : k ∈ (mkT b k x y).idx := (mkT_mem ..).2 (.inl rfl)
 by_cases hp : 0 < leanF ns (kid ns i b) !b
 ·have hp' := hp
  rw [kX, el] at hp'
  obtain ⟨p, u, v, rfl⟩ := mkT_of (!b) (t := y) (by omega)
  -- the lower turn
  have hn1 : (mkT (!b) k (mkT (!b) p u v) x).idx.Nodup := by rw [mkT_not]; exact nX
  obtain ⟨t1, r1, f1⟩ := turn_rep (b := !b) (i := k) (k := p) (x := u) (y := v) (z := x) hz k0 hk (by rw [ky, mkT_root]) (by rw [Bool.not_not]; exact kx) ry rx hn1 hl
  obtain ⟨n1, e1⟩ : ∃ n1, n1 = turnF ns k (!b) := ⟨_, rfl⟩
  rw [← e1] at r1 f1
  have pm : p ∈ (mkT b k x (mkT (!b) p u v)).idx := by rw [mkT_mem, mkT_mem]; simp
  have hip : i ≠ p := fun e => iX (e ▸ pm)
  have hik : i ≠ k := fun e => iX (e ▸ km)
  have nd1i : nd n1 i = nd ns i := f1.oth i (by simp; exact ⟨hik, hip⟩)
  obtain ⟨n2, e2⟩ : ∃ n2, n2 = n1.set i (setKid (nd n1 i) b p) := ⟨_, rfl⟩
  have eh : half ns i b = n2 := by
   unfold half
   rw [decide_eq_true hp, e2, e1, kX, ky, mkT_root]; rfl
  have g2 : ∀ j, nd n2 j = if j = i then setKid (nd n1 i) b p else nd n1 j := fun j => by rw [e2]; exact nd_set (by rw [f1.len]; exact hi) j
  have l2 : n2.length = ns.length := by rw [e2, List.length_set, f1.len]
  have fr2 : Fr n1 n2 [i] := by rw [e2]; exact fr_set (by rw [f1.len]; exact hi) (set_v _ _ _) (by simp)
  have nni : i ∉ (mkT (!b) p u (mkT (!b) k v x)).idx := by rw [rot_idx, mkT_not]; exact iX
  have r2 := r1.congr (ns' := n2) (by rw [l2, f1.len]) fun j hj => by rw [g2, if_neg (fun e : j = i => nni (e ▸ hj))]
  have z1 : (nd n1 0).d = 0 := by rw [f1.oth 0 (by simp; exact ⟨fun e => k0 e.symm, fun e => (rX.lt p pm).1 e.symm⟩)]; exact hz
  have z2 : (nd n2 0).d = 0 := by rw [g2, if_neg (fun e => h0 e.symm)]; exact z1
  have rZ1 : Rep n1 Z := rZ.congr f1.len fun j hj => f1.oth j (by
   simp only [List.mem_cons, List.not_mem_nil, or_false, not_or]
   exact ⟨fun e => dXZ k km (e ▸ hj), fun e => dXZ p pm (e ▸ hj)⟩)
  have rZ2 : Rep n2 Z := rZ1.congr (by rw [l2, f1.len]) fun j hj => by rw [g2, if_neg (fun e : j = i => iZ (e ▸ hj))]
  have kb2 : kid n2 i b = p := by rw [kid_of, g2, if_pos rfl]; exact set_b _ _ _
  have ko2 : kid n2 i (!b) = Z.root := by rw [kid_of, g2, if_pos rfl, set_o, nd1i]; exact kZ
  have hidx : (mkT b p (mkT (!b) k v x) u).idx = (mkT b k x (mkT (!b) p u v)).idx := by rw [← mkT_not b p, rot_idx, mkT_not]
  have hn2 : (mkT b i (mkT b p (mkT (!b) k v x) u) Z).idx.Nodup := by rw [mkT_idx b i hidx rfl]; exact hn
  obtain ⟨t3, r3, f3⟩ := turn_rep (b := b) (i := i) (k := p) (x := mkT (!b) k v x) (y := u) (z := Z) z2 h0 (by omega) kb2 ko2 (by rw [← mkT_not]; exact r2) rZ2 hn2 (by omega)
  refine ⟨⟨by rw [kX]; exact lk, fun _ => by rw [kX]; exact t1, by rw [eh]; exact t3⟩, _, by unfold up; rw [eh]; exact r3, by unfold up; rw [eh, mkT_root]; exact kb2.symm, by rw [rot_idx, mkT_idx b i hidx rfl], ?_⟩
  unfold up; rw [eh]
  have mem : ∀ j, j = i ∨ j = k ∨ j = p → j ∈ (mkT b i (mkT b k x (mkT (!b) p u v)) Z).idx := fun j hj => by
   rw [mkT_mem]
   rcases hj with rfl | rfl | rfl
   ·exact .inl rfl
   ·exact .inr (.inl km)
   ·exact .inr (.inl pm)
  exact ((f1.mono fun j hj => mem j (by simp at hj; rcases hj with h | h <;> simp [h])).trans (fr2.mono fun j hj => mem j (by simp at hj; simp [hj]))).trans (f3.mono fun j hj => mem j (by simp at hj; rcases hj with h | h <;> simp [h]))
 ·have eh : half ns i b = ns := by unfold half; rw [decide_eq_false hp]; rfl
  obtain ⟨t3, r3, f3⟩ := turn_rep (b := b) (i := i) (k := k) (x := x) (y := y) (z := Z) hz h0 hi kX kZ rX rZ hn hl
  refine ⟨⟨by rw [kX]; exact lk, fun h => absurd h hp, by rw [eh]; exact t3⟩, _, by unfold up; rw [eh]; exact r3, by unfold up; rw [eh, mkT_root]; exact kX.symm, rot_idx .., ?_⟩
  unfold up; rw [eh]
  refine f3.mono fun j hj => ?_
  rw [mkT_mem]
  simp at hj
  rcases hj with rfl | rfl
  ·exact .inl rfl
  ·exact .inr (.inl km)
end Go.Proofs.YtlkhneiccjhgdaaGreat
set_option maxRecDepth 100000
namespace Go.Proofs.YtlkhneiccjhgdaaGreat
open Go.Eo Go.RowKit Go.Rg
theorem level_rep0 {ns : List Nd} {i : Nat} {l r : Tr} (hz : (nd ns 0).d = 0) (h0 : i ≠ 0) (hi : i < ns.length) (ha : kid ns i false = l.root) (hb : kid ns i true = r.root) (rl : Rep ns l) (rr : Rep ns r) (hn : (Tr.node i l r).idx.Nodup) (hl : ns.length ≤ 100000000000) :
  LevelOk ns i ∧ ∃ t, Rep (levelF ns i).1 t ∧ t.root = (levelF ns i).2 ∧ t.idx = (Tr.node i l r).idx ∧ Fr ns (levelF ns i).1 (Tr.node i l r).idx := by
 obtain ⟨n1, n2, i1, i2, _⟩ := mkT_nodup (b := false) (i := i) (x := l) (y := r) hn
 have b1 := ht_bound rl n1 hl
 have b2 := ht_bound rr n2 hl
 have hf := fit_ok' (b := false) hz hi ha hb rl rr ⟨b1, b2⟩
 have hr := fit_rep (b := false) hz h0 hi ha hb rl rr i1 i2
 have hm : i ∈ (Tr.node i l r).idx := by simp [Tr.idx]
 have fr := fr_fit (S := (Tr.node i l r).idx) hi hm
 have hz' : (nd (fitF ns i) 0).d = 0 := by
  rw [fr.oth 0 (fun h => by
   have := (hr.lt 0 h).1
   exact this rfl)]
  exact hz
 have hl' : (fitF ns i).length ≤ 100000000000 := by rw [lenF]; exact hl
 have hrt : Rep (fitF ns i) (mkT true i r l) := hr
 have hnt : (mkT true i r l).idx.Nodup := hn
 have lf := lean_ok' hz' hr hn hl'
 have lt := lean_ok' hz' hrt hnt hl'
 refine ⟨⟨hf, lf, lt, fun h => (up_rep hz' hr hn hl' h).1, fun _ h => (up_rep hz' hrt hnt hl' h).1⟩, ?_⟩
 unfold levelF
 by_cases c1 : leanF (fitF ns i) i false < 2
 ·by_cases c2 : leanF (fitF ns i) i true < 2
  ·rw [decide_eq_true c1, decide_eq_true c2]
   exact ⟨_, hr, rfl, rfl, fr⟩
  ·rw [decide_eq_true c1, decide_eq_false c2]
   obtain ⟨t, h1, h2, h3, h4⟩ := (up_rep hz' hrt hnt hl' c2).2
   exact ⟨t, h1, h2, h3, fr.trans h4⟩
 ·rw [decide_eq_false c1]
  obtain ⟨t, h1, h2, h3, h4⟩ := (up_rep hz' hr hn hl' c1).2
  exact ⟨t, h1, h2, h3, fr.trans h4⟩
theorem level_rep {ns : List Nd} {b : Bool} {i : Nat} {x y : Tr} (hz : (nd ns 0).d = 0) (h0 : i ≠ 0) (hi : i < ns.length) (ha : kid ns i b = x.root) (hb : kid ns i (!b) = y.root) (rx : Rep ns x) (ry : Rep ns y) (hn : (mkT b i x y).idx.Nodup) (hl : ns.length ≤ 100000000000) :
  LevelOk ns i ∧ ∃ t, Rep (levelF ns i).1 t ∧ t.root = (levelF ns i).2 ∧ t.idx = (mkT b i x y).idx ∧ Fr ns (levelF ns i).1 (mkT b i x y).idx := by
 cases b with
 | false => exact level_rep0 hz h0 hi ha hb rx ry hn hl
 | true => exact level_rep0 hz h0 hi hb ha ry rx hn hl
abbrev Pth := List (Nat × Bool × Tr)
def plug : Pth → Tr → Tr
 | [], t => t
 | (i, b, z) :: p, t => mkT b i (plug p t) z
def pw (p : Pth) : List (Nat × Bool) := p.map fun s => (s.1, s.2.1)
structure POk (ns : List Nd) (p : Pth) : Prop where
 h : ∀ s ∈ p, s.1 ≠ 0 ∧ s.1 < ns.length ∧ kid ns s.1 (!s.2.1) = s.2.2.root ∧ Rep ns s.2.2
theorem hang_rep {ns : List Nd} {t : Tr} (hz : (nd ns 0).d = 0) (hl : ns.length ≤ 100000000000) (ht : Rep ns t) : ∀ (p : Pth), POk ns p → (plug p t).idx.Nodup →
  HangOk (pw p) (ns, t.root) ∧ ∃ t', Rep (hangF (pw p) (ns, t.root)).1 t' ∧ t'.root = (hangF (pw p) (ns, t.root)).2 ∧ t'.idx = (plug p t).idx ∧ Fr ns (hangF (pw p) (ns, t.root)).1 (plug p t).idx
 | [], _, _ => ⟨fun k hk => (by cases hk), t, ht, rfl, rfl, Fr.refl _ _⟩
 | (i, b, z) :: p, hp, hn => by
  obtain ⟨h0, hi, hk, rz⟩ := hp.h _ (List.mem_cons_self ..)
  simp only at h0 hi hk rz
  have hn : (mkT b i (plug p t) z).idx.Nodup := hn
  obtain ⟨n1, n2, i1, i2, d12⟩ := mkT_nodup hn
  obtain ⟨hok, t', r1, r2, r3, f1⟩ := hang_rep hz hl ht p ⟨fun s hs => hp.h s (List.mem_cons_of_mem _ hs)⟩ n1
  obtain ⟨m, hm⟩ : ∃ m, m = (hangF (pw p) (ns, t.root)).1 := ⟨_, rfl⟩
  obtain ⟨c, hc⟩ : ∃ c, c = (hangF (pw p) (ns, t.root)).2 := ⟨_, rfl⟩
  rw [← hm] at r1 f1
  rw [← hc] at r2
  have zz : (0 : Nat) ∉ (plug p t).idx := fun h => by rw [← r3] at h; exact (r1.lt 0 h).1 rfl
  have zm : (nd m 0).d = 0 := by rw [f1.oth 0 zz]; exact hz
  have hmi : nd m i = nd ns i := f1.oth i i1
  have rzm : Rep m z := rz.congr f1.len fun j hj => f1.oth j fun h => d12 j h hj
  obtain ⟨m2, hm2⟩ : ∃ m2, m2 = m.set i (setKid (nd m i) b c) := ⟨_, rfl⟩
  have hi' : i < m.length := by rw [f1.len]; exact hi
  have g2 : ∀ j, nd m2 j = if j = i then setKid (nd m i) b c else nd m j := fun j => by rw [hm2]; exact nd_set hi' j
  have l2 : m2.length = ns.length := by rw [hm2, List.length_set, f1.len]
  have z2 : (nd m2 0).d = 0 := by rw [g2, if_neg (fun e => h0 e.symm)]; exact zm
  have i1' : i ∉ t'.idx := by rw [r3]; exact i1
  have rt2 : Rep m2 t' := r1.congr (by rw [l2, f1.len]) fun j hj => by rw [g2, if_neg (fun e : j = i => i1' (e ▸ hj))]
  have rz2 : Rep m2 z := rzm.congr (by rw [l2, f1.len]) fun j hj => by rw [g2, if_neg (fun e : j = i => i2 (e ▸ hj))]
  have ka : kid m2 i b = t'.root := by rw [kid_of, g2, if_pos rfl, set_b, r2]
  have kb : kid m2 i (!b) = z.root := by rw [kid_of, g2, if_pos rfl, set_o, hmi]; exact hk
  have hidx : (mkT b i t' z).idx = (mkT b i (plug p t) z).idx := mkT_idx b i r3 rfl
  obtain ⟨lv, t3, q1, q2, q3, q4⟩ := level_rep z2 h0 (by omega) ka kb rt2 rz2 (by rw [hidx]; exact hn) (by omega)
  have eF : hangF (pw ((i, b, z) :: p)) (ns, t.root) = levelF m2 i := by rw [hm2, hm, hc]; rfl
  have fr2 : Fr m m2 (mkT b i (plug p t) z).idx := by rw [hm2]; exact fr_set hi' (set_v _ _ _) ((mkT_mem ..).2 (.inl rfl))
  refine ⟨fun k hk s hs => ?_, t3, by rw [eF]; exact q1, by rw [eF]; exact q2, by rw [q3, hidx]; rfl, ?_⟩
  ·have hlen : (pw ((i, b, z) :: p)).length = (pw p).length + 1 := by simp [pw]
   rw [hlen] at hk hs
   by_cases e : k = (pw p).length
   ·subst e
    have hK : hangK (pw ((i, b, z) :: p)) (ns, t.root) (pw p).length = hangF (pw p) (ns, t.root) := by
     unfold hangK
     rw [hlen, show (pw p).length + 1 - (pw p).length = 1 by omega]; rfl
    have hs' : s = (i, b) := by rw [hs, show (pw p).length + 1 - 1 - (pw p).length = 0 by omega]; rfl
    rw [hK, hs', ← hm, ← hc, ← hm2]
    exact ⟨hi', lv⟩
   ·have hK : hangK (pw ((i, b, z) :: p)) (ns, t.root) k = hangK (pw p) (ns, t.root) k := by
     unfold hangK
     rw [hlen, show (pw p).length + 1 - k = ((pw p).length - k) + 1 by omega]; rfl
    rw [hK]
    refine hok k (by omega) s ?_
    rw [hs, show (pw p).length + 1 - 1 - k = ((pw p).length - 1 - k) + 1 by omega]
    rfl
  ·rw [eF]
   refine (f1.mono fun j hj => (mkT_mem ..).2 (.inr (.inl hj))).trans (fr2.trans ?_)
   rw [hidx] at q4
   exact q4
end Go.Proofs.YtlkhneiccjhgdaaGreat
set_option maxRecDepth 100000
namespace Go.Proofs.YtlkhneiccjhgdaaGreat
open Go.Eo Go.RowKit Go.Rg
def wayT (c : Nat → Int) : Tr → Pth × Tr
 | .nil => ([], .nil)
 | .node i l r => if c i < 0 then ((i, false, r) :: (wayT c l).1, (wayT c l).2) else if 0 < c i then ((i, true, l) :: (wayT c r).1, (wayT c r).2) else ([], .node i l r)
def pfA : Pth → List Nat
 | [] => []
 | (i, b, z) :: p => bif b then z.idx ++ i :: pfA p else pfA p
def pfB : Pth → List Nat
 | [] => []
 | (i, b, z) :: p => bif b then pfB p else pfB p ++ i :: z.idx
theorem plug_idx (t : Tr) : ∀ p : Pth, (plug p t).idx = pfA p ++ t.idx ++ pfB p
 | [] => by simp [plug, pfA, pfB]
 | (i, b, z) :: p => by
  have ih := plug_idx t p
  cases b <;> simp [plug, mkT, Tr.idx, pfA, pfB, ih]
theorem way_plug (c : Nat → Int) : ∀ t : Tr, plug (wayT c t).1 (wayT c t).2 = t
 | .nil => rfl
 | .node i l r => by
  unfold wayT
  split
  ·show mkT false i (plug _ _) r = _; rw [way_plug c l]; rfl
  ·split
   ·show mkT true i (plug _ _) l = _; rw [way_plug c r]; rfl
   ·rfl
theorem way_rep (c : Nat → Int) {ns : List Nd} : ∀ {t : Tr}, Rep ns t → Way ns c t.root (pw (wayT c t).1) (wayT c t).2.root ∧ POk ns (wayT c t).1 ∧ Rep ns (wayT c t).2 ∧ ((wayT c t).2 = .nil ∨ ∃ i l r, (wayT c t).2 = .node i l r ∧ c i = 0)
 | .nil, _ => ⟨.out, ⟨fun s hs => by cases hs⟩, .nil, .inl rfl⟩
 | .node i l r, h => by
  cases h with
  | node _ h0 hi ha hb hd hl hr =>
  unfold wayT
  by_cases c1 : c i < 0
  ·rw [if_pos c1]
   obtain ⟨w, p, q, z⟩ := way_rep c hl
   refine ⟨.on i h0 hi false (by unfold sideF; rw [decide_eq_true c1]; rfl) ?_, ⟨fun s hs => ?_⟩, q, z⟩
   ·have : kid ns i false = l.root := ha
    rw [this]; exact w
   ·rcases List.mem_cons.1 hs with rfl | hs
    ·exact ⟨h0, hi, hb, hr⟩
    ·exact p.h s hs
  ·rw [if_neg c1]
   by_cases c2 : 0 < c i
   ·rw [if_pos c2]
    obtain ⟨w, p, q, z⟩ := way_rep c hr
    refine ⟨.on i h0 hi true (by unfold sideF; rw [decide_eq_false c1, decide_eq_true c2]; rfl) ?_, ⟨fun s hs => ?_⟩, q, z⟩
    ·have : kid ns i true = r.root := hb
     rw [this]; exact w
    ·rcases List.mem_cons.1 hs with rfl | hs
     ·exact ⟨h0, hi, ha, hl⟩
     ·exact p.h s hs
   ·rw [if_neg c2]
    have c3 : c i = 0 := by omega
    exact ⟨.hit i h0 hi c3, ⟨fun s hs => by cases hs⟩, .node i h0 hi ha hb hd hl hr, .inr ⟨i, l, r, rfl, c3⟩⟩
def Mono (c : Nat → Int) (l : List Nat) : Prop := l.Pairwise fun a b => c a ≤ 0 → c b < 0
theorem way_sides (c : Nat → Int) : ∀ t : Tr, Mono c t.idx → (∀ a ∈ pfA (wayT c t).1, 0 < c a) ∧ ∀ b ∈ pfB (wayT c t).1, c b < 0
 | .nil, _ => ⟨fun a ha => (by cases ha), fun b hb => (by cases hb)⟩
 | .node i l r, h => by
  have h' := h
  unfold Mono at h'
  simp only [Tr.idx] at h'
  obtain ⟨hl, hr, hx⟩ := List.pairwise_append.1 h'
  obtain ⟨hi, hr⟩ := List.pairwise_cons.1 hr
  unfold wayT
  by_cases c1 : c i < 0
  ·rw [if_pos c1]
   obtain ⟨q1, q2⟩ := way_sides c l hl
   refine ⟨q1, fun b hb => ?_⟩
   simp only [pfB, cond_false, List.mem_append, List.mem_cons] at hb
   rcases hb with hb | rfl | hb
   ·exact q2 b hb
   ·exact c1
   ·exact hi b hb (by omega)
  ·rw [if_neg c1]
   by_cases c2 : 0 < c i
   ·rw [if_pos c2]
    obtain ⟨q1, q2⟩ := way_sides c r hr
    refine ⟨fun a ha => ?_, q2⟩
    simp only [pfA, cond_true, List.mem_append, List.mem_cons] at ha
    rcases ha with ha | rfl | ha
    ·have := hx a ha i (List.mem_cons_self ..)
     rcases Int.lt_or_le 0 (c a) with h | h
     ·exact h
     ·have := this h; omega
    ·exact c2
    ·exact q1 a ha
   ·rw [if_neg c2]
    exact ⟨fun a ha => (by cases ha), fun b hb => (by cases hb)⟩
theorem way_mem (c : Nat → Int) : ∀ t : Tr, ∀ i, (i ∈ (pw (wayT c t).1).map (·.1)) ∨ (i = (wayT c t).2.root ∧ (wayT c t).2.root ≠ 0) → i ∈ t.idx
 | .nil, i, h => by
  rcases h with h | ⟨_, h⟩
  ·cases h
  ·exact absurd rfl h
 | .node j l r, i, h => by
  unfold wayT at h
  by_cases c1 : c j < 0
  ·rw [if_pos c1] at h
   simp only [pw, List.map_cons, List.mem_cons] at h
   rcases h with (rfl | h) | h
   ·simp [Tr.idx]
   ·have := way_mem c l i (.inl h); simp [Tr.idx, this]
   ·have := way_mem c l i (.inr h); simp [Tr.idx, this]
  ·rw [if_neg c1] at h
   by_cases c2 : 0 < c j
   ·rw [if_pos c2] at h
    simp only [pw, List.map_cons, List.mem_cons] at h
    rcases h with (rfl | h) | h
    ·simp [Tr.idx]
    ·have := way_mem c r i (.inl h); simp [Tr.idx, this]
    ·have := way_mem c r i (.inr h); simp [Tr.idx, this]
   ·rw [if_neg c2] at h
    rcases h with h | ⟨h, _⟩
    ·cases h
    ·rw [h]; simp [Tr.idx, Tr.root]
theorem way_len (c : Nat → Int) : ∀ t : Tr, (pw (wayT c t).1).length ≤ t.idx.length
 | .nil => Nat.le_refl _
 | .node j l r => by
  unfold wayT
  by_cases c1 : c j < 0
  ·rw [if_pos c1]; have := way_len c l; simp only [pw, List.map_cons, List.length_cons, Tr.idx, List.length_append] at *; omega
  ·rw [if_neg c1]
   by_cases c2 : 0 < c j
   ·rw [if_pos c2]; have := way_len c r; simp only [pw, List.map_cons, List.length_cons, Tr.idx, List.length_append] at *; omega
   ·rw [if_neg c2]; exact Nat.zero_le _
structure TOk (root : Nat) (n : Int) (ns : List Nd) (fs : List Nat) (t : Tr) : Prop where
 rep : Rep ns t
 rt : t.root = root
 dp : t.idx.Nodup
 z : (nd ns 0).d = 0
 p : 0 < ns.length
 n : n = t.idx.length
 f : ∀ j ∈ fs, j ≠ 0 ∧ j < ns.length ∧ j ∉ t.idx
 fn : fs.Nodup
def Q (root : Nat) (n : Int) (ns : List Nd) (fs : List Nat) (q : List (Nat → Int)) : Prop := ∃ t, TOk root n ns fs t ∧ t.idx.map (fun j => (nd ns j).v) = q
theorem Q.len {root : Nat} {n : Int} {ns : List Nd} {fs : List Nat} {q : List (Nat → Int)} (h : Q root n ns fs q) : n = q.length := by
 obtain ⟨t, ht, rfl⟩ := h
 rw [List.length_map]; exact ht.n
theorem Q.new : Q 0 0 [default] [] [] := ⟨.nil, ⟨.nil, rfl, List.nodup_nil, rfl, by simp, rfl, fun j hj => (by cases hj), List.nodup_nil⟩, rfl⟩
theorem Rep.more {ns ns' : List Nd} {t : Tr} (h : Rep ns t) (hl : ns.length ≤ ns'.length) (he : ∀ j ∈ t.idx, nd ns' j = nd ns j) : Rep ns' t := by
 induction h with
 | nil => exact .nil
 | node i h0 hi ha hb hd hl' hr ihl ihr =>
  have e := he i (by simp [Tr.idx])
  exact .node i h0 (by omega) (by rw [e]; exact ha) (by rw [e]; exact hb) (by rw [e]; exact hd) (ihl fun j hj => he j (by simp [Tr.idx, hj])) (ihr fun j hj => he j (by simp [Tr.idx, hj]))
theorem plug_mem (t : Tr) : ∀ (p : Pth), ∀ s ∈ p, ∀ j, (j = s.1 ∨ j ∈ s.2.2.idx) → j ∈ pfA p ∨ j ∈ pfB p
 | (i, b, z) :: p, s, hs, j, hj => by
  rcases List.mem_cons.1 hs with rfl | hs
  ·cases b <;> simp only [pfA, pfB, cond_true, cond_false, List.mem_append, List.mem_cons] <;> rcases hj with rfl | hj <;> simp [*]
  ·have := plug_mem t p s hs j hj
   cases b <;> simp only [pfA, pfB, cond_true, cond_false, List.mem_append, List.mem_cons] <;> rcases this with h | h <;> simp [h]
theorem TOk.short {root : Nat} {n : Int} {ns : List Nd} {fs : List Nat} {t : Tr} (h : TOk root n ns fs t) : t.idx.length ≤ ns.length := idx_le h.rep h.dp
def PutNew (root : Nat) (n : Int) (ns : List Nd) (fs : List Nat) (q : List (Nat → Int)) (v : Nat → Int) (c : (Nat → Int) → Int) : Prop :=
 ∃ (root' : Nat) (n' : Int) (ns' : List Nd) (fs' : List Nat) (A B : List (Nat → Int)), q = A ++ B ∧ (∀ a ∈ A, 0 < c a) ∧ (∀ b ∈ B, c b < 0) ∧ Q root' n' ns' fs' (A ++ v :: B) ∧ ns'.length ≤ ns.length + 1 ∧
   FnP Tryz.prog 244 (Tr3 cmpV root n ns fs) [.a (.p 0 0), .a (.v (spA v))] [TBx cmpV 3 4 root' n', .dead, .dead] [NO ns', FO fs'] (vb true)
theorem put_any {root : Nat} {n : Int} {ns : List Nd} {fs : List Nat} {q : List (Nat → Int)} (h : Q root n ns fs q) (v : Nat → Int) (c : (Nat → Int) → Int) (hc : ∀ u ∈ q, CmpIs v u (c u)) (hm : q.Pairwise fun a b => c a ≤ 0 → c b < 0) (hl : ns.length < 10000000000) :
  ((∃ u ∈ q, c u = 0) ∧ FnP Tryz.prog 244 (Tr3 cmpV root n ns fs) [.a (.p 0 0), .a (.v (spA v))] [TBx cmpV 3 4 root n, .dead, .dead] [NO ns, FO fs] (vb false)) ∨
  PutNew root n ns fs q v c := by
 obtain ⟨t, ht, rfl⟩ := h
 let C : Nat → Int := fun i => c (nd ns i).v
 have hmono : Mono C t.idx := List.pairwise_map.1 hm
 obtain ⟨w, po, rs, hsub⟩ := way_rep C ht.rep
 have hpl := way_plug C t
 obtain ⟨sA, sB⟩ := way_sides C t hmono
 have hmem := way_mem C t
 have hlen := way_len C t
 have hsh := ht.short
 have hidx := plug_idx (wayT C t).2 (wayT C t).1
 rw [hpl] at hidx
 rw [ht.rt] at w
 have hcm : ∀ i ∈ t.idx, CmpIs v (nd ns i).v (C i) := fun i hi => hc _ (List.mem_map_of_mem hi)
 rcases hsub with hs | ⟨i, l, r, hs, h0⟩
 ·right
  rw [hs] at w hidx hmem hpl
  simp only [Tr.idx, List.append_nil] at hidx
  obtain ⟨p, hp⟩ : ∃ p, p = (wayT C t).1 := ⟨_, rfl⟩
  rw [← hp] at w po hidx sA sB hmem hlen hpl
  have key : ∀ (ns1 : List Nd) (fs1 : List Nat) (j : Nat), FnP Tryz.prog 261 (Tr3 cmpV root n ns fs) [.a (.p 0 0), .a (.v (spA v))] [TBx cmpV 3 4 root n, .dead, .dead] [NO ns1, FO fs1] (vi j) →
    nd ns1 j = newNd v → (∀ i, i ≠ j → nd ns1 i = nd ns i) → j ≠ 0 → j < ns1.length → j ∉ t.idx → ns.length ≤ ns1.length → ns1.length ≤ ns.length + 1 → (∀ k ∈ fs1, k ∈ fs ∧ k ≠ j) → fs1.Nodup → PutNew root n ns fs (t.idx.map fun j => (nd ns j).v) v c := fun ns1 fs1 j hf e1 e2 j0 jl jt l1 l2 hfs hfn => by
   have eo : ∀ i ∈ t.idx, nd ns1 i = nd ns i := fun i hi => e2 i fun e => jt (e ▸ hi)
   have z1 : (nd ns1 0).d = 0 := by rw [e2 0 (fun e => j0 e.symm)]; exact ht.z
   have pm : ∀ s ∈ p, ∀ k, (k = s.1 ∨ k ∈ s.2.2.idx) → k ∈ t.idx := fun s hs k hk => by
    rw [hidx, List.mem_append]; exact plug_mem .nil p s hs k hk
   have po1 : POk ns1 p := ⟨fun s hs => by
    obtain ⟨g1, g2, g3, g4⟩ := po.h s hs
    refine ⟨g1, by omega, ?_, g4.more l1 fun k hk => eo k (pm s hs k (.inr hk))⟩
    rw [← g3, kid_of, kid_of, eo s.1 (pm s hs s.1 (.inl rfl))]⟩
   have rj : Rep ns1 (.node j .nil .nil) := .node j j0 jl (by rw [e1]; rfl) (by rw [e1]; rfl) (by rw [e1]; rfl) .nil .nil
   have hpj := plug_idx (.node j .nil .nil) p
   simp only [Tr.idx, List.nil_append] at hpj
   have hperm : List.Perm (pfA p ++ [j] ++ pfB p) (j :: t.idx) := by
    rw [hidx, List.append_assoc]; exact List.perm_middle
   have hnd : (plug p (.node j .nil .nil)).idx.Nodup := by
    rw [hpj, hperm.nodup_iff]; exact List.nodup_cons.2 ⟨jt, ht.dp⟩
   obtain ⟨hok, t', r1, r2, r3, f1⟩ := hang_rep z1 (by omega) rj p po1 hnd
   have hn : n = t.idx.length := ht.n
   have P := put1_ok n root ns fs v C (pw p) w (fun i hi => hcm i (hmem i (by
    rcases hi with hi | ⟨_, hi⟩
    ·exact .inl hi
    ·exact absurd rfl hi))) (by omega) ns1 fs1 j hf hok (by omega)
   refine ⟨_, n + 1, _, fs1, (pfA p).map (fun j => (nd ns j).v), (pfB p).map (fun j => (nd ns j).v), by rw [← List.map_append, ← hidx], ?_, ?_, ⟨t', ⟨r1, r2, by rw [r3]; exact hnd, ?_, by rw [f1.len]; omega, ?_, ?_, hfn⟩, ?_⟩, by rw [f1.len]; exact l2, P⟩
   ·intro a ha
    obtain ⟨k, hk, rfl⟩ := List.mem_map.1 ha
    exact sA k hk
   ·intro a ha
    obtain ⟨k, hk, rfl⟩ := List.mem_map.1 ha
    exact sB k hk
   ·rw [f1.oth 0 (fun h => by rw [← r3] at h; exact (r1.lt 0 h).1 rfl)]; exact z1
   ·rw [r3, hpj, hperm.length_eq, List.length_cons, hn]; omega
   ·intro k hk
    obtain ⟨g1, g2⟩ := hfs k hk
    obtain ⟨g3, g4, g5⟩ := ht.f k g1
    refine ⟨g3, by rw [f1.len]; omega, fun h => ?_⟩
    rw [r3, hpj, hperm.mem_iff, List.mem_cons] at h
    rcases h with h | h
    ·exact g2 h
    ·exact g5 h
   ·rw [r3, hpj]
    have hv : ∀ k ∈ t.idx, (nd (hangF (pw p) (ns1, (Tr.node j .nil .nil).root)).1 k).v = (nd ns k).v := fun k hk => by rw [f1.v k, eo k hk]
    have hvj : (nd (hangF (pw p) (ns1, (Tr.node j .nil .nil).root)).1 j).v = v := by rw [f1.v j, e1]; rfl
    rw [List.append_assoc, List.map_append, List.singleton_append, List.map_cons, hvj]
    congr 1
    ·exact List.map_congr_left fun k hk => hv k (by rw [hidx]; exact List.mem_append_left _ hk)
    ·congr 1
     exact List.map_congr_left fun k hk => hv k (by rw [hidx]; exact List.mem_append_right _ hk)
  rcases List.eq_nil_or_concat fs with hfs | ⟨gs, j, hfs⟩
  ·subst hfs
   refine key (ns ++ [newNd v]) [] ns.length (fresh0_ok cmpV root n ns v (by omega)) ?_ (fun i hi => ?_) (by have := ht.p; omega) (by simp) (fun h => by have := (ht.rep.lt _ h).2; omega) (by simp) (by simp) (fun k hk => by cases hk) List.nodup_nil
   ·unfold nd; simp
   ·unfold nd
    rcases Nat.lt_or_ge i ns.length with h | h
    ·rw [List.getElem?_append_left h]
    ·rw [List.getElem?_eq_none (by simp; omega), List.getElem?_eq_none h]
  ·rw [List.concat_eq_append] at hfs
   subst hfs
   obtain ⟨j0, jl, jt⟩ := ht.f j (by simp)
   have hnd := List.nodup_append.1 ht.fn
   have gl : gs.length ≤ ns.length := nodup_le _ _ hnd.1 fun k hk => (ht.f k (by simp [hk])).2.1
   refine key (ns.set j (newNd v)) gs j (fresh1_ok cmpV root n ns v gs j jl (by omega)) (by rw [nd_set jl, if_pos rfl]) (fun i hi => by rw [nd_set jl, if_neg hi]) j0 (by simpa using jl) jt (by simp) (by simp) (fun k hk => ⟨by simp [hk], fun e => hnd.2.2 k hk j (by simp) e⟩) hnd.1
 ·left
  rw [hs] at w hidx hmem
  have hi : i ∈ t.idx := by rw [hidx]; simp [Tr.idx]
  have hi0 := (ht.rep.lt i hi).1
  exact ⟨⟨_, List.mem_map_of_mem hi, h0⟩, put0_ok n root ns fs v C _ i hi0 w (fun k hk => hcm k (hmem k hk)) (by omega)⟩
end Go.Proofs.YtlkhneiccjhgdaaGreat
set_option maxRecDepth 100000
namespace Go.Proofs.YtlkhneiccjhgdaaGreat
open Go.Eo Go.RowKit Go.Rg
theorem left_most {ns : List Nd} : ∀ {t : Tr}, Rep ns t → t ≠ .nil → ∃ l i is, Dw ns false t.root (l ++ [(i, false)]) ∧ t.idx = i :: is ∧ l.length + 1 ≤ t.idx.length
 | .nil, _, h => absurd rfl h
 | .node i l r, h, _ => by
  cases h with
  | node _ h0 hi ha hb hd hl hr =>
  have ka : kid ns i false = l.root := ha
  cases l with
  | nil => exact ⟨[], i, r.idx, .out i hi (by rw [ka]; rfl), rfl, by simp [Tr.idx]⟩
  | node j l' r' =>
   obtain ⟨w, k, is, h1, h2, h3⟩ := left_most hl (by simp)
   refine ⟨(i, false) :: w, k, is ++ i :: r.idx, ?_, by simp only [Tr.idx] at h2 ⊢; rw [h2]; rfl, by simp only [Tr.idx, List.length_append, List.length_cons] at *; omega⟩
   have hj0 : j ≠ 0 := by cases hl; assumption
   exact .on i hi (by rw [ka]; exact hj0) (by rw [ka]; exact h1)
section
variable {root : Nat} {n : Int} {ns : List Nd} {fs : List Nat}
theorem first_none (h : Q root n ns fs []) : FnP Tryz.prog 224 (Tr3 cmpV root n ns fs) [.a (.p 0 0)] (Tr3 cmpV root n ns fs) [] (.a (.v (.tuple #[spA (nd ns 0).v, .bool false]))) := by
 obtain ⟨t, ht, hq⟩ := h
 have : t = .nil := by
  cases t with
  | nil => rfl
  | node i l r => have := congrArg List.length hq; simp [Tr.idx] at this
 subst this
 have := ht.rt
 subst this
 exact first0_ok cmpV n ns fs ht.p
theorem first_some {v : Nat → Int} {q : List (Nat → Int)} (h : Q root n ns fs (v :: q)) (hl : ns.length < 10000000000) : FnP Tryz.prog 224 (Tr3 cmpV root n ns fs) [.a (.p 0 0)] (Tr3 cmpV root n ns fs) [] (.a (.v (.tuple #[spA v, .bool true]))) := by
 obtain ⟨t, ht, hq⟩ := h
 have hne : t ≠ .nil := fun e => by subst e; cases hq
 obtain ⟨l, i, is, h1, h2, h3⟩ := left_most ht.rep hne
 rw [h2, List.map_cons] at hq
 have hv : (nd ns i).v = v := (List.cons.inj hq).1
 obtain ⟨i0, il⟩ := ht.rep.lt i (by rw [h2]; simp)
 have hsh := ht.short
 have hr : root ≠ 0 := by
  rw [← ht.rt]
  cases t with
  | nil => exact absurd rfl hne
  | node j l r => have := ht.rep; cases this; assumption
 rw [ht.rt] at h1
 have := first_ok cmpV n root ns fs hr l i il i0 h1 (by omega)
 rw [hv] at this
 exact this
def DelNew (root : Nat) (n : Int) (ns : List Nd) (fs : List Nat) (v : Nat → Int) (q : List (Nat → Int)) : Prop :=
 ∃ (root' : Nat) (n' : Int) (ns' : List Nd) (fs' : List Nat), Q root' n' ns' fs' q ∧ ns'.length = ns.length ∧
  FnP Tryz.prog 225 (Tr3 cmpV root n ns fs) [.a (.p 0 0), .a (.v (spA v))] [TBx cmpV 1 3 root' n', NO ns', .dead] [FO fs'] (vb true)
theorem del_any {v : Nat → Int} {q : List (Nat → Int)} (h : Q root n ns fs (v :: q)) (c : (Nat → Int) → Int) (hc : ∀ u ∈ v :: q, CmpIs v u (c u)) (c0 : c v = 0) (cq : ∀ u ∈ q, c u < 0) (hl : ns.length < 10000000000) : DelNew root n ns fs v q := by
 obtain ⟨t, ht, hq⟩ := h
 let C : Nat → Int := fun i => c (nd ns i).v
 obtain ⟨i0, is, hi0⟩ : ∃ i is, t.idx = i :: is := by
  cases hi : t.idx with
  | nil => rw [hi] at hq; cases hq
  | cons i is => exact ⟨i, is, rfl⟩
 have hq' := hq
 rw [hi0, List.map_cons] at hq'
 obtain ⟨hv, hqs⟩ := List.cons.inj hq'
 have hC0 : C i0 = 0 := by show c (nd ns i0).v = 0; rw [hv]; exact c0
 have hCs : ∀ j ∈ is, C j < 0 := fun j hj => cq _ (by rw [← hqs]; exact List.mem_map_of_mem hj)
 have hmono : Mono C t.idx := by
  rw [hi0]
  refine List.pairwise_cons.2 ⟨fun b hb _ => hCs b hb, ?_⟩
  have : ∀ (l : List Nat), (∀ j ∈ l, C j < 0) → l.Pairwise fun a b => C a ≤ 0 → C b < 0 := fun l => by
   induction l with
   | nil => intro _; exact .nil
   | cons x l ih => intro h; exact List.pairwise_cons.2 ⟨fun b hb _ => h b (by simp [hb]), ih fun j hj => h j (by simp [hj])⟩
  exact this is hCs
 obtain ⟨w, po, rs, hsub⟩ := way_rep C ht.rep
 have hpl := way_plug C t
 obtain ⟨sA, sB⟩ := way_sides C t hmono
 have hmem := way_mem C t
 have hlen := way_len C t
 have hsh := ht.short
 have hidx := plug_idx (wayT C t).2 (wayT C t).1
 rw [hpl] at hidx
 rw [ht.rt] at w
 have hcm : ∀ i ∈ t.idx, CmpIs v (nd ns i).v (C i) := fun i hi => hc _ (by rw [← hq]; exact List.mem_map_of_mem hi)
 obtain ⟨p, hp⟩ : ∃ p, p = (wayT C t).1 := ⟨_, rfl⟩
 rw [← hp] at w po hidx sA sB hmem hlen
 rcases hsub with hs | ⟨i, l, r, hs, h0⟩
 ·exfalso
  rw [hs] at hidx
  simp only [Tr.idx, List.append_nil] at hidx
  have : i0 ∈ pfA p ++ pfB p := by rw [← hidx, hi0]; simp
  rcases List.mem_append.1 this with h | h
  ·have := sA i0 h; omega
  ·have := sB i0 h; omega
 ·rw [hs] at w hidx hmem rs
  have him : i ∈ t.idx := by rw [hidx]; simp [Tr.idx]
  have ei : i = i0 := by
   rw [hi0] at him
   rcases List.mem_cons.1 him with h | h
   ·exact h
   ·have := hCs i h; omega
  have hpfA : pfA p = [] := by
   cases hA : pfA p with
   | nil => rfl
   | cons a tl =>
    exfalso
    rw [hA, hi0] at hidx
    have : i0 = a := (List.cons.inj hidx).1
    have := sA a (by rw [hA]; simp)
    have : C a = 0 := by rw [← ‹i0 = a›]; exact hC0
    omega
  have hln : l = .nil := by
   cases l with
   | nil => rfl
   | node k l1 l2 =>
    exfalso
    have hne : (Tr.node k l1 l2).idx ≠ [] := by simp [Tr.idx]
    obtain ⟨a, tl, ha⟩ := List.exists_cons_of_ne_nil hne
    rw [hpfA, hi0] at hidx
    simp only [Tr.idx, List.nil_append] at hidx ha
    rw [ha] at hidx
    have e1 : i0 = a := (List.cons.inj hidx).1
    have hd := ht.dp
    rw [hi0] at hd
    have : i0 ∈ is := by
     have := (List.cons.inj hidx).2
     rw [this]; simp [ei]
    exact (List.nodup_cons.1 hd).1 this
  subst hln
  subst ei
  cases rs with
  | node _ i00 ilt ha hb hd hl' hr =>
  have hk : (nd ns i).a = 0 := ha
  have his : is = r.idx ++ pfB p := by
   rw [hpfA, hi0] at hidx
   simp only [Tr.idx, List.nil_append, List.cons_append] at hidx
   exact (List.cons.inj hidx).2
  have hpr : (plug p r).idx = is := by rw [plug_idx, hpfA, his]; rfl
  have hdp := ht.dp
  rw [hi0] at hdp
  obtain ⟨ini, isn⟩ := List.nodup_cons.1 hdp
  obtain ⟨hok, t', r1, r2, r3, f1⟩ := hang_rep ht.z (by omega) hr p po (by rw [hpr]; exact isn)
  rw [hpr] at r3 f1
  have fl : fs.length ≤ ns.length := nodup_le _ _ ht.fn fun k hk => (ht.f k hk).2.1
  have hn := ht.n
  have hlt : t.idx.length = is.length + 1 := by rw [hi0]; rfl
  have P := del_ok n root ns fs v C (pw p) i i00 ilt hk w (fun k hk => hcm k (hmem k hk)) (by omega) (by rw [hb]; exact hok) (by omega) (by omega)
  rw [hb] at P
  have ilt' : i < (hangF (pw p) (ns, r.root)).1.length := by rw [f1.len]; exact ilt
  have it' : i ∉ t'.idx := by rw [r3]; exact ini
  have hset := fun j => nd_set (x := default) ilt' j
  refine ⟨_, n - 1, _, _, ⟨t', ⟨r1.congr (by simp) fun j hj => by rw [hset, if_neg (fun e : j = i => it' (e ▸ hj))], r2, by rw [r3]; exact isn, ?_, by simp; omega, ?_, ?_, ?_⟩, ?_⟩, by simp [f1.len], P⟩
  ·rw [hset, if_neg (fun e => i00 e.symm), f1.oth 0 (fun h => by rw [← r3] at h; exact (r1.lt 0 h).1 rfl)]; exact ht.z
  ·rw [r3]; omega
  ·intro j hj
   rw [List.length_set, f1.len, r3]
   rcases List.mem_append.1 hj with hj | hj
   ·obtain ⟨g1, g2, g3⟩ := ht.f j hj
    exact ⟨g1, g2, fun h => g3 (by rw [hi0]; simp [h])⟩
   ·simp only [List.mem_singleton] at hj
    subst hj
    exact ⟨i00, ilt, ini⟩
  ·refine List.nodup_append.2 ⟨ht.fn, by simp, fun x hx b hb' e => ?_⟩
   simp only [List.mem_singleton] at hb'
   rw [hb'] at e
   rw [e] at hx
   exact (ht.f i hx).2.2 (by rw [hi0]; simp)
  ·rw [r3, ← hqs]
   refine List.map_congr_left fun j hj => ?_
   rw [hset, if_neg (fun e : j = i => ini (e ▸ hj)), f1.v]
end
end Go.Proofs.YtlkhneiccjhgdaaGreat
set_option maxRecDepth 100000
namespace Go.Proofs.YtlkhneiccjhgdaaGreat
open Go.Eo Go.RowKit Go.Rg
def cm (x y : Int) : Int := if x < y then -1 else if x = y then 0 else 1
theorem cm_lt {x y : Int} (h : x < y) : cm x y = -1 := if_pos h
theorem cm_eq {x y : Int} (h : x = y) : cm x y = 0 := by unfold cm; rw [if_neg (by omega), if_pos h]
theorem cm_gt {x y : Int} (h : y < x) : cm x y = 1 := by unfold cm; rw [if_neg (by omega), if_neg (by omega)]
theorem gt_f {x y : Int} (h : ¬ y < x) : Value.bool (decide (x > y)) = .bool false := by rw [decide_eq_false (show ¬ x > y from h)]
abbrev pA (x y : Int) : AV := .a (.v (.agg #[i6 x, i6 y]))
abbrev gA (a b c d : Int) : AV := .a (.v (.agg #[i6 a, i6 b, i6 c, i6 d]))
theorem isNaN_ok (x : Int) : FnP Tryz.prog 199 [] [vi x] [] [] (vb false) :=
 fq Tryz.func199 fun C => dn (.v 5 (nf (rfl : x = x)) .nil) []
theorem cmp_ok (x y : Int) : FnP Tryz.prog 141 [] [vi x, vi y] [] [] (vi (cm x y)) := by
 refine fq Tryz.func141 fun C => ?_
 have a := isNaN_ok x
 have b := isNaN_ok y
 rcases Int.lt_trichotomy x y with h | h | h
 ·rw [cm_lt h]; exact dn (.f 8 [] [] a <| .f 10 [] [] b <| .v 16 (bt h) .nil) []
 ·rw [cm_eq h]; exact dn (.f 8 [] [] a <| .f 10 [] [] b <| .v 16 (bf (show ¬ x < y by omega)) <| .v 19 (gt_f (show ¬ y < x by omega)) .nil) []
 ·rw [cm_gt h]; exact dn (.f 8 [] [] a <| .f 10 [] [] b <| .v 16 (bf (show ¬ x < y by omega)) <| .v 19 (gt_t h) .nil) []
def orF : List Int → Int
 | [] => 0
 | x :: l => if x = 0 then orF l else x
abbrev il (l : List Int) : List (List Dt) := l.map fun z => [.v (i6 z)]
noncomputable abbrev orB : Code := Tryz.f140.body.getD .skip
theorem il_at (l : List Int) {k : Nat} (h : k < l.length) : (il l)[k]? = some [.v (i6 (l.getD k 0))] := map_at (fun z => [Dt.v (i6 z)]) l 0 h
theorem orF_drop {l : List Int} {k : Nat} (h : k < l.length) : orF (l.drop k) = if l.getD k 0 = 0 then orF (l.drop (k + 1)) else l.getD k 0 := by
 rw [List.drop_eq_getElem_cons h, List.getD_eq_getElem?_getD, List.getElem?_eq_getElem h]; rfl
theorem or_ok (l : List Int) (hl : l.length < 1000000000000) : FnP Tryz.prog 140 [.sl 1 (il l)] [.a (.w 0)] [.sl 1 (il l)] [] (vi (orF l)) := by
 obtain ⟨r, hr⟩ : ∃ r, r = orF l := ⟨_, rfl⟩
 rw [← hr]
 refine fq Tryz.func140 fun C => ?_
 have hlen : (il l).length = l.length := List.length_map _
 have hv : (Value.int .i64 ((il l).length : Int)) = i6 l.length := by rw [hlen]
 refine gq [3] (lp 3 orB []) (.v 7 hv .nil) [0] [(3, vi 0), (6, .a (.w 0)), (7, vi l.length), (8, vi ((0 : Nat) : Int))] [.sl 1 (il l)] fun d => ?_
 refine loop (β := { k : Nat // k ≤ l.length ∧ orF (l.drop k) = r }) (fun k d => ⟨d, [(3, vi 0), (6, .a (.w 0)), (7, vi l.length), (8, vi (k.1 : Nat))], mkX [.sl 1 (il l)]⟩) (fun k => l.length - k.1) (by kernel_rfl) (fun x K ih d => ?_) ⟨0, Nat.zero_le _, hr.symm⟩ d
 obtain ⟨k, hk, ho⟩ := x
 by_cases h : k < l.length
 ·have hs := orF_drop h
  by_cases h0 : l.getD k 0 = 0
  ·rw [if_pos h0] at hs
   refine gq [] (lpK 3 orB [] K) (.v 9 (bt (show (k : Int) < (l.length : Nat) by omega)) <| .i (z := (k : Int)) (n := k) (len := (il l).length) 10 rfl (by rw [hlen]; exact h) <| .l 11 (il_at l h) <| .v 14 (nf h0) <| .v 16 (w64 (z := (k : Int) + 1) (by omega)) .nil) [0] [(3, vi 0), (6, .a (.w 0)), (7, vi l.length), (8, vi ((k + 1 : Nat) : Int))] [.sl 1 (il l)] fun d => ?_
   exact ih ⟨k + 1, h, by rw [← hs]; exact ho⟩ d (by simp; omega)
  ·rw [if_neg h0] at hs
   have e : r = l.getD k 0 := by rw [← ho, hs]
   subst e
   exact dn (.v 9 (bt (show (k : Int) < (l.length : Nat) by omega)) <| .i (z := (k : Int)) (n := k) (len := (il l).length) 10 rfl (by rw [hlen]; exact h) <| .l 11 (il_at l h) <| .v 14 (nt h0) .nil) [0]
 ·have : l.drop k = [] := List.drop_eq_nil_of_le (by omega)
  have e : r = 0 := by rw [← ho, this]; rfl
  subst e
  exact dn (.v 9 (bf (show ¬ (k : Int) < (l.length : Nat) by omega)) .nil) [0]
theorem or2_ok (a b : Int) : FnP Tryz.prog 140 [.row 3 1 (il [a, b])] [.a (.w 0)] [.row 3 1 (il [a, b])] [] (vi (orF [a, b])) := fnp_rd [true] [3] (or_ok [a, b] (by simp)) rfl rfl rfl rfl
def pcm (a b c d : Int) : Int := orF [cm a c, cm b d]
theorem ptcmp_ok (a b c d : Int) : FnP Tryz.prog 77 [] [pA a b, pA c d] [] [] (vi (pcm a b c d)) :=
 fq Tryz.func77 fun C => dn (.f 9 [] [] (cmp_ok a c) <| .f 14 [] [] (cmp_ok b d) <| .f 16 [2] [0] (or2_ok (cm a c) (cm b d)) .nil) []
def endsF (a b c d : Int) : Int × Int × Int × Int := bif decide (pcm c d a b < 0) then (c, d, a, b) else (a, b, c, d)
theorem ends_ok (a b c d : Int) : FnP Tryz.prog 262 [] [gA a b c d] [] [] (.a (.v (.tuple #[.agg #[i6 (endsF a b c d).1, i6 (endsF a b c d).2.1], .agg #[i6 (endsF a b c d).2.2.1, i6 (endsF a b c d).2.2.2]]))) := by
 refine fq Tryz.func262 fun C => ?_
 by_cases h : pcm c d a b < 0
 ·have e : endsF a b c d = (c, d, a, b) := by unfold endsF; rw [decide_eq_true h]; rfl
  rw [e]; exact dn (.f 8 [] [] (ptcmp_ok c d a b) <| .v 9 (bt h) .nil) []
 ·have e : endsF a b c d = (a, b, c, d) := by unfold endsF; rw [decide_eq_false h]; rfl
  rw [e]; exact dn (.f 8 [] [] (ptcmp_ok c d a b) <| .v 9 (bf h) .nil) []
end Go.Proofs.YtlkhneiccjhgdaaGreat
set_option maxRecDepth 100000
namespace Go.Proofs.YtlkhneiccjhgdaaGreat
open Go.Eo Go.RowKit Go.Rg
def eqQ (op : BinOp) (x y : Operand) (a b : Value) : Sem Next := do pure (.value (← (do eqGuard op 41 x y a b; binOp op 41 a b)))
theorem part_pt (x y : Int) (w : World) : (part 3 #[i6 x, i6 y] 0).run Tryz.prog w = .ok (i6 x) w ∧ (part 3 #[i6 x, i6 y] 1).run Tryz.prog w = .ok (i6 y) w := by
 have k : (isAgg 3).run Tryz.prog w = .ok false w := by
  unfold isAgg
  have k : Tryz.prog.underlying 3 = some (.int .i64) := by kernel_rfl
  rw [Sem.run_bind, run_underlying k]; rfl
 constructor <;> simp [part, Sem.run_bind, k]
theorem eq_in (a b c d : Int) (w : World) : (Op.equalIn 10000 41 (.agg #[i6 a, i6 b]) (.agg #[i6 c, i6 d])).run Tryz.prog w = .ok (decide (a = c) && decide (b = d)) w := by
 rw [run_equalIn_struct w 9999 41 _ _ (by kernel_rfl) (by kernel_rfl)]
 have hf : ((Tryz.prog.fieldsOf 41).toList.map fun f => (f.name == "_", f.type, f.offset)) = [(false, 3, 0), (false, 3, 1)] := by kernel_rfl
 revert hf
 generalize (Tryz.prog.fieldsOf 41).toList = fs
 intro hf
 cases fs with
 | nil => cases hf
 | cons f fs =>
 cases fs with
 | nil => simp at hf
 | cons g fs =>
 cases fs with
 | cons _ _ => simp at hf
 | nil =>
  simp only [List.map_cons, List.map_nil, List.cons.injEq, Prod.mk.injEq, and_true] at hf
  obtain ⟨⟨h1, h2, h3⟩, h4, h5, h6⟩ := hf
  have k : Tryz.prog.underlying 3 = some (.int .i64) := by kernel_rfl
  have n1 : f.name ≠ "_" := by simpa using h1
  have n2 : g.name ≠ "_" := by simpa using h4
  simp only [Op.eqFields, n1, n2, ne_eq, not_false_eq_true, if_true, h2, h3, h5, h6, Sem.run_bind, (part_pt _ _ _).1, (part_pt _ _ _).2, Result.andThen_ok, run_equalIn_int w 9998 3 .i64 .i64 _ _ k]
  by_cases e1 : a = c <;> by_cases e2 : b = d <;> simp [e1, e2, (part_pt _ _ w).1, (part_pt _ _ w).2, run_equalIn_int w 9998 3 .i64 .i64 _ _ k]
theorem eqp_t (x y : Operand) (a b c d : Int) (w : World) : (eqQ .eql x y (.agg #[i6 a, i6 b]) (.agg #[i6 c, i6 d])).run Tryz.prog w = .ok (.value (.bool (decide (a = c) && decide (b = d)))) w := by
 unfold eqQ
 simp only [Sem.run_bind, run_eqGuard_agg w .eql 41 x y _ _ (by kernel_rfl : Tryz.prog.eqGuardType Tryz.prog.depth 41 = false), Result.andThen_ok, run_eql_struct, eq_in, Sem.run_pure]
theorem nep_t (x y : Operand) (a b c d : Int) (w : World) : (eqQ .neq x y (.agg #[i6 a, i6 b]) (.agg #[i6 c, i6 d])).run Tryz.prog w = .ok (.value (.bool !(decide (a = c) && decide (b = d)))) w := by
 unfold eqQ
 simp only [Sem.run_bind, run_eqGuard_agg w .neq 41 x y _ _ (by kernel_rfl : Tryz.prog.eqGuardType Tryz.prog.depth 41 = false), Result.andThen_ok, run_neq_struct, eq_in, Sem.run_pure]
theorem dot_ok (a b c d : Int) : FnP Tryz.prog 281 [] [gA a b c d] [] [] (vb (decide (a = c) && decide (b = d))) :=
 fq Tryz.func281 fun C => dn (.m 7 (fun w _ => eqp_t (.tmp 4) (.tmp 6) a b c d w) .nil) []
end Go.Proofs.YtlkhneiccjhgdaaGreat
set_option maxRecDepth 100000
namespace Go.Proofs.YtlkhneiccjhgdaaGreat
open Go.Eo Go.RowKit Go.Rg
abbrev wA (z : Int) : AV := .a (.v (Wd.wI z))
abbrev sA (x y w : Int) : AV := .a (.v (Wd.sV x y w))
def Ab (z : Int) (n : Nat) : Prop := z.natAbs ≤ n
theorem Ab.mul {x y : Int} {m n : Nat} (h : Ab x m) (k : Ab y n) : Ab (x * y) (m * n) := by unfold Ab; rw [Int.natAbs_mul]; exact Nat.mul_le_mul h k
theorem Ab.sub {x y : Int} {m n : Nat} (h : Ab x m) (k : Ab y n) : Ab (x - y) (m + n) := by unfold Ab at *; omega
theorem Ab.add {x y : Int} {m n : Nat} (h : Ab x m) (k : Ab y n) : Ab (x + y) (m + n) := by unfold Ab at *; omega
theorem Ab.fit {x : Int} {m : Nat} (h : Ab x m) (k : Nat.ble (m + 1) Wd.H4 = true) : Wd.Fit x := by
 have := Nat.le_of_ble_eq_true k
 unfold Ab at h; unfold Wd.Fit
 simp only [Wd.H4] at *; omega
theorem Ab.i64 {x : Int} {m : Nat} (h : Ab x m) (k : Nat.ble m 9223372036854775807 = true) : -9223372036854775808 ≤ x ∧ x ≤ 9223372036854775807 := by
 have := Nat.le_of_ble_eq_true k
 unfold Ab at h; omega
abbrev A1 : Nat := 2199023255552
abbrev A2 : Nat := 4398046511104
theorem of_ok {m : Nat} (x : Int) (h : Ab x m) (k : Nat.ble m 9223372036854775807 = true) (w : World) : Calls Tryz.prog 88 #[i6 x] w fun e w' => e = .returned (Wd.wI x) ∧ Below w.heap.size w w' := wideOf_any x (h.i64 k).1 (h.i64 k).2 w
theorem sign_ok (x : Int) (h : Wd.Fit x) (w : World) : Calls Tryz.prog 147 #[Wd.wI x] w fun e w' => e = .returned (i6 (cm x 0)) ∧ Below w.heap.size w w' := wideSign_any x h w
theorem wcmp_ok (x y : Int) (h : Wd.Fit x) (k : Wd.Fit y) (w : World) : Calls Tryz.prog 148 #[Wd.wI x, Wd.wI y] w fun e w' => e = .returned (i6 (cm x y)) ∧ Below w.heap.size w w' := wideCmp_any x y h k w
theorem times_ok {m n : Nat} (x y : Int) (h : Ab x m) (k : Ab y n) (hm : Nat.ble (m + 1) Wd.H4 = true) (hn : Nat.ble (n + 1) Wd.H4 = true) (hmn : Nat.ble (m * n + 1) Wd.H4 = true) (w : World) : Calls Tryz.prog 149 #[Wd.wI x, Wd.wI y] w fun e w' => e = .returned (Wd.wI (x * y)) ∧ Below w.heap.size w w' := cross_times x y _ (h.fit hm) (k.fit hn) ((h.mul k).fit hmn) rfl w
theorem less_ok {m n : Nat} (x y : Int) (h : Ab x m) (k : Ab y n) (hm : Nat.ble (m + 1) Wd.H4 = true) (hn : Nat.ble (n + 1) Wd.H4 = true) (hmn : Nat.ble (m + n + 1) Wd.H4 = true) (w : World) : Calls Tryz.prog 150 #[Wd.wI x, Wd.wI y] w fun e w' => e = .returned (Wd.wI (x - y)) ∧ Below w.heap.size w w' := cross_less x y _ (h.fit hm) (k.fit hn) ((h.sub k).fit hmn) rfl w
theorem plus_ok {m n : Nat} (x y : Int) (h : Ab x m) (k : Ab y n) (h1 : Nat.ble (m + 1) Wd.H4 = true) (hn : Nat.ble (n + 1) Wd.H4 = true) (hmn : Nat.ble (m + n + 1) Wd.H4 = true) : FnP Tryz.prog 289 [] [wA x, wA y] [] [] (wA (x + y)) :=
 fq Tryz.func289 fun C => dn (.c 10 (fun w => wideAdd_any x y (h.fit h1) (k.fit hn) ((h.add k).fit hmn) w) .nil) []
theorem ptimes_ok {m n : Nat} (x y : Int) (h : Ab x m) (k : Ab y n) (h1 : Nat.ble (m + 1) Wd.H4 = true) (hn : Nat.ble (n + 1) Wd.H4 = true) (hmn : Nat.ble (m * n + 1) Wd.H4 = true) : FnP Tryz.prog 291 [] [wA x, wA y] [] [] (wA (x * y)) :=
 fq Tryz.func291 fun C => dn (.c 10 (fun w => wideMul_any x y (h.fit h1) (k.fit hn) ((h.mul k).fit hmn) w) .nil) []
theorem pless_ok {m n : Nat} (x y : Int) (h : Ab x m) (k : Ab y n) (h1 : Nat.ble (m + 1) Wd.H4 = true) (hn : Nat.ble (n + 1) Wd.H4 = true) (hmn : Nat.ble (m + n + 1) Wd.H4 = true) : FnP Tryz.prog 290 [] [wA x, wA y] [] [] (wA (x - y)) :=
 fq Tryz.func290 fun C => dn (.c 10 (fun w => wideSub_any x y (h.fit h1) (k.fit hn) ((h.sub k).fit hmn) w) .nil) []
structure Sr (a b c d : Int) : Prop where
 a : Ab a A1
 b : Ab b A1
 c : Ab c A1
 d : Ab d A1
structure Er (e : Int × Int × Int × Int) : Prop where
 a : Ab e.1 A1
 b : Ab e.2.1 A1
 c : Ab e.2.2.1 A1
 d : Ab e.2.2.2 A1
theorem Sr.e {a b c d : Int} (h : Sr a b c d) : Er (endsF a b c d) := by
 unfold endsF
 cases decide (pcm c d a b < 0)
 ·exact ⟨h.a, h.b, h.c, h.d⟩
 ·exact ⟨h.c, h.d, h.a, h.b⟩
def wayF (a b c d : Int) : Int × Int := ((endsF a b c d).2.2.1 - (endsF a b c d).1, (endsF a b c d).2.2.2 - (endsF a b c d).2.1)
theorem Sr.w {a b c d : Int} (h : Sr a b c d) : Ab (wayF a b c d).1 A2 ∧ Ab (wayF a b c d).2 A2 := ⟨h.e.c.sub h.e.a, h.e.d.sub h.e.b⟩
theorem segway_ok (a b c d : Int) (h : Sr a b c d) : FnP Tryz.prog 286 [] [gA a b c d] [] [] (.a (.v (.tuple #[Wd.wI (wayF a b c d).1, Wd.wI (wayF a b c d).2]))) :=
 fq Tryz.func286 fun C => dn (.f 8 [] [] (ends_ok a b c d) <| .v 15 (w64 (h.w.1.i64 rfl)) <| .c 16 (of_ok _ h.w.1 rfl) <| .v 21 (w64 (h.w.2.i64 rfl)) <| .c 22 (of_ok _ h.w.2 rfl) .nil) []
abbrev S1 : Nat := 1237940039285380274899124224
abbrev S2 : Nat := 2722258935367507707706996859454145691648
structure Pr3 (x y w : Int) : Prop where
 x : Ab x S2
 y : Ab y S2
 w : Ab w S1
theorem pr3 {x y w : Int} (h : Wd.SpotOk x y w) : Pr3 x y w := by
 obtain ⟨h1, h2, h3, h4, h5, h6⟩ := h
 exact ⟨show x.natAbs ≤ 2722258935367507707706996859454145691648 by omega, show y.natAbs ≤ 2722258935367507707706996859454145691648 by omega, show w.natAbs ≤ 1237940039285380274899124224 by omega⟩
def sideN (a b c d x y w : Int) : Int := (wayF a b c d).1 * (y - (endsF a b c d).2.1 * w) - (wayF a b c d).2 * (x - (endsF a b c d).1 * w)
def sideS (a b c d x y w : Int) : Int := cm (sideN a b c d x y w) 0
theorem side4_ok (a b c d x y w : Int) (h : Sr a b c d) (k : Pr3 x y w) : FnP Tryz.prog 278 [] [gA a b c d, sA x y w] [] [] (vi (sideS a b c d x y w)) := by
 have l1 := h.e.b.mul k.w
 have l2 := h.e.a.mul k.w
 have d1 := k.y.sub l1
 have d2 := k.x.sub l2
 have m1 := h.w.1.mul d1
 have m2 := h.w.2.mul d2
 exact fq Tryz.func278 fun C => dn (.f 11 [] [] (ends_ok a b c d) <| .f 16 [] [] (segway_ok a b c d h) <| .c 24 (of_ok _ h.e.b rfl) <| .c 27 (times_ok _ _ h.e.b k.w rfl rfl rfl) <| .c 28 (less_ok _ _ k.y l1 rfl rfl rfl) <| .c 29 (times_ok _ _ h.w.1 d1 rfl rfl rfl) <|
  .c 35 (of_ok _ h.e.a rfl) <| .c 38 (times_ok _ _ h.e.a k.w rfl rfl rfl) <| .c 39 (less_ok _ _ k.x l2 rfl rfl rfl) <| .c 40 (times_ok _ _ h.w.2 d2 rfl rfl rfl) <| .c 41 (less_ok _ _ m1 m2 rfl rfl rfl) <| .c 42 (sign_ok _ ((m1.sub m2).fit rfl)) .nil) []
theorem sr_right {a b c d : Int} (h : Sr a b c d) (w : World) : Calls Tryz.prog 89 #[.agg #[i6 a, i6 b, i6 c, i6 d]] w fun e w' => e = .returned (.bool true) ∧ Below w.heap.size w w' := sgRight_any a b c d true (by
 obtain ⟨h1, h2, h3, h4⟩ := h
 unfold Ab A1 at *
 simp only [Wd.sgB, Wd.ptB, Wd.inB, Bool.and_eq_true, decide_eq_true_eq]
 omega) w
theorem sp_right {x y v : Int} (h : Wd.SpotOk x y v) (w : World) : Calls Tryz.prog 86 #[Wd.sV x y v] w fun e w' => e = .returned (.bool true) ∧ Below w.heap.size w w' := spotRight_any x y v h w
theorem Side_ok (a b c d x y w : Int) (h : Sr a b c d) (k : Wd.SpotOk x y w) : FnP Tryz.prog 270 [] [gA a b c d, sA x y w] [] [] (vi (sideS a b c d x y w)) :=
 fq Tryz.func270 fun C => dn (.c 6 (sr_right h) <| .c 10 (sp_right k) <| .f 15 [] [] (side4_ok a b c d x y w h (pr3 k)) .nil) []
def slopeN (a b c d a' b' c' d' : Int) : Int := (wayF a' b' c' d').1 * (wayF a b c d).2 - (wayF a' b' c' d').2 * (wayF a b c d).1
def slopeS (a b c d a' b' c' d' : Int) : Int := cm (slopeN a b c d a' b' c' d') 0
theorem Slope_ok (a b c d a' b' c' d' : Int) (h : Sr a b c d) (k : Sr a' b' c' d') : FnP Tryz.prog 280 [] [gA a b c d, gA a' b' c' d'] [] [] (vi (slopeS a b c d a' b' c' d')) := by
 have m1 := k.w.1.mul h.w.2
 have m2 := k.w.2.mul h.w.1
 exact fq Tryz.func280 fun C => dn (.c 10 (sr_right h) <| .c 14 (sr_right k) <| .f 19 [] [] (segway_ok a b c d h) <| .f 24 [] [] (segway_ok a' b' c' d' k) <| .c 29 (times_ok _ _ k.w.1 h.w.2 rfl rfl rfl) <| .c 32 (times_ok _ _ k.w.2 h.w.1 rfl rfl rfl) <| .c 33 (less_ok _ _ m1 m2 rfl rfl rfl) <| .c 34 (sign_ok _ ((m1.sub m2).fit rfl)) .nil) []
def scm (x y w x' y' w' : Int) : Int := orF [cm (x * w') (x' * w), cm (y * w') (y' * w)]
theorem spcmp_ok (x y w x' y' w' : Int) (h : Wd.SpotOk x y w) (k : Wd.SpotOk x' y' w') : FnP Tryz.prog 243 [] [sA x y w, sA x' y' w'] [] [] (vi (scm x y w x' y' w')) := by
 have h' := pr3 h
 have k' := pr3 k
 have m1 := (h'.x.mul k'.w).fit rfl
 have m2 := (k'.x.mul h'.w).fit rfl
 have m3 := (h'.y.mul k'.w).fit rfl
 have m4 := (k'.y.mul h'.w).fit rfl
 exact fq Tryz.func243 fun C => dn (.c 6 (sp_right h) <| .c 10 (sp_right k) <| .c 17 (times_ok _ _ h'.x k'.w rfl rfl rfl) <| .c 22 (times_ok _ _ k'.x h'.w rfl rfl rfl) <| .c 23 (wcmp_ok _ _ m1 m2) <| .c 28 (times_ok _ _ h'.y k'.w rfl rfl rfl) <| .c 33 (times_ok _ _ k'.y h'.w rfl rfl rfl) <| .c 34 (wcmp_ok _ _ m3 m4) <|
  .f 36 [2] [0] (or2_ok (cm (x * w') (x' * w)) (cm (y * w') (y' * w))) .nil) []
end Go.Proofs.YtlkhneiccjhgdaaGreat
set_option maxRecDepth 100000
namespace Go.Proofs.YtlkhneiccjhgdaaGreat
open Go.Eo Go.RowKit Go.Rg
theorem cm_lt0 {x y : Int} : cm x y < 0 ↔ x < y := by unfold cm; split <;> (try split) <;> omega
theorem cm_le0 {x y : Int} : cm x y ≤ 0 ↔ x ≤ y := by unfold cm; split <;> (try split) <;> omega
theorem cm_ge0 {x y : Int} : cm x y ≥ 0 ↔ x ≥ y := by unfold cm; split <;> (try split) <;> omega
theorem cm_gt0 {x y : Int} : cm x y > 0 ↔ x > y := by unfold cm; split <;> (try split) <;> omega
theorem cm_0 {x y : Int} : cm x y = 0 ↔ x = y := by unfold cm; split <;> (try split) <;> omega
def spB (x y w : Int) : Bool := decide (0 - w * 2199023255552 ≤ x) && (decide (x ≤ w * 2199023255552) && (decide (0 - w * 2199023255552 ≤ y) && decide (y ≤ w * 2199023255552)))
theorem spB_ok {x y w : Int} (h1 : 0 < w) (h2 : w ≤ 1237940039285380274899124224) (h : spB x y w = true) : Wd.SpotOk x y w := by
 unfold spB at h
 simp only [Bool.and_eq_true, decide_eq_true_eq] at h
 exact ⟨h1, h2, by omega, by omega, by omega, by omega⟩
theorem Right_ok (x y w : Int) (h1 : 0 < w) (h2 : w ≤ 1237940039285380274899124224) (hx : Wd.Fit x) (hy : Wd.Fit y) : FnP Tryz.prog 86 [] [sA x y w] [] [] (vb (spB x y w)) := by
 have hw : Ab w S1 := show w.natAbs ≤ 1237940039285380274899124224 by omega
 have k0 : Ab 35184372088832 35184372088832 := Nat.le_refl _
 have k1 : Ab 2199023255552 A1 := Nat.le_refl _
 have k2 : Ab 0 0 := Nat.le_refl _
 have hh := hw.mul k1
 have hl := k2.sub hh
 have e1 : ¬ cm w 0 ≤ 0 := by rw [cm_le0]; omega
 have e2 : ¬ 0 < cm w (35184372088832 * 35184372088832) := fun h => by have := cm_gt0.1 h; omega
 have its := fun (C : Cx) (r : List It) (R : Its Tryz.prog C.W C.D r) => (.c 7 (sign_ok w (hw.fit rfl)) <| .v 8 (bf e1) <| .c 12 (of_ok _ k0 rfl) <| .c 13 (of_ok _ k0 rfl) <| .c 14 (times_ok _ _ k0 k0 rfl rfl rfl) <| .c 15 (wcmp_ok w (35184372088832 * 35184372088832) (hw.fit rfl) ((k0.mul k0).fit rfl)) <| .v 16 (gt_f e2) <|
  .c 20 (of_ok _ k1 rfl) <| .c 21 (times_ok _ _ hw k1 rfl rfl rfl) <| .c 24 (less_ok 0 (w * 2199023255552) k2 hh rfl rfl rfl) <| .c 28 (wcmp_ok x (0 - w * 2199023255552) hx (hl.fit rfl)) R : Its Tryz.prog C.W C.D _)
 refine fq Tryz.func86 fun C => ?_
 by_cases c1 : 0 - w * 2199023255552 ≤ x
 ·by_cases c2 : x ≤ w * 2199023255552
  ·by_cases c3 : 0 - w * 2199023255552 ≤ y
   ·by_cases c4 : y ≤ w * 2199023255552
    ·have e : spB x y w = true := by unfold spB; simp only [decide_eq_true c1, decide_eq_true c2, decide_eq_true c3, decide_eq_true c4, Bool.and_self]
     rw [e]
     exact dn (its C _ <| .v 29 (bt (cm_ge0.2 c1)) <| .c 34 (wcmp_ok x (w * 2199023255552) hx (hh.fit rfl)) <| .v 35 (bt (cm_le0.2 c2)) <| .c 41 (wcmp_ok y (0 - w * 2199023255552) hy (hl.fit rfl)) <| .v 42 (bt (cm_ge0.2 c3)) <| .c 48 (wcmp_ok y (w * 2199023255552) hy (hh.fit rfl)) <| .v 49 (bt (cm_le0.2 c4)) .nil) []
    ·have e : spB x y w = false := by unfold spB; simp only [decide_eq_false c4, Bool.and_false]
     rw [e]
     exact dn (its C _ <| .v 29 (bt (cm_ge0.2 c1)) <| .c 34 (wcmp_ok x (w * 2199023255552) hx (hh.fit rfl)) <| .v 35 (bt (cm_le0.2 c2)) <| .c 41 (wcmp_ok y (0 - w * 2199023255552) hy (hl.fit rfl)) <| .v 42 (bt (cm_ge0.2 c3)) <| .c 48 (wcmp_ok y (w * 2199023255552) hy (hh.fit rfl)) <| .v 49 (bf fun h => c4 (cm_le0.1 h)) .nil) []
   ·have e : spB x y w = false := by unfold spB; simp only [decide_eq_false c3, Bool.and_false, Bool.false_and]
    rw [e]
    exact dn (its C _ <| .v 29 (bt (cm_ge0.2 c1)) <| .c 34 (wcmp_ok x (w * 2199023255552) hx (hh.fit rfl)) <| .v 35 (bt (cm_le0.2 c2)) <| .c 41 (wcmp_ok y (0 - w * 2199023255552) hy (hl.fit rfl)) <| .v 42 (bf fun h => c3 (cm_ge0.1 h)) .nil) []
  ·have e : spB x y w = false := by unfold spB; simp only [decide_eq_false c2, Bool.and_false, Bool.false_and]
   rw [e]
   exact dn (its C _ <| .v 29 (bt (cm_ge0.2 c1)) <| .c 34 (wcmp_ok x (w * 2199023255552) hx (hh.fit rfl)) <| .v 35 (bf fun h => c2 (cm_le0.1 h)) .nil) []
 ·have e : spB x y w = false := by unfold spB; simp only [decide_eq_false c1, Bool.false_and]
  rw [e]
  exact dn (its C _ <| .v 29 (bf fun h => c1 (cm_ge0.1 h)) .nil) []
theorem at_pt {x y : Int} (hx : Ab x A1) (hy : Ab y A1) (w : World) : Calls Tryz.prog 38 #[.agg #[i6 x, i6 y]] w fun e w' => e = .returned (Wd.sV x y 1) ∧ Below w.heap.size w w' := at_any x y (by
 unfold Ab A1 at *
 simp only [Wd.ptB, Wd.inB, Bool.and_eq_true, decide_eq_true_eq]
 omega) w
theorem spot1 {x y : Int} (hx : Ab x A1) (hy : Ab y A1) : Wd.SpotOk x y 1 := by
 unfold Ab A1 at *
 exact ⟨by omega, by omega, by omega, by omega, by omega, by omega⟩
def holdsB (a b c d x y w : Int) : Bool := decide (sideS a b c d x y w = 0) && (decide (scm (endsF a b c d).1 (endsF a b c d).2.1 1 x y w ≤ 0) && decide (scm x y w (endsF a b c d).2.2.1 (endsF a b c d).2.2.2 1 ≤ 0))
theorem Holds_ok (a b c d x y w : Int) (h : Sr a b c d) (k : Wd.SpotOk x y w) : FnP Tryz.prog 282 [] [gA a b c d, sA x y w] [] [] (vb (holdsB a b c d x y w)) := by
 have its := fun (C : Cx) (r : List It) (R : Its Tryz.prog C.W C.D r) => (.c 8 (sr_right h) <| .c 12 (sp_right k) <| .f 18 [] [] (side4_ok a b c d x y w h (pr3 k)) R : Its Tryz.prog C.W C.D _)
 have s1 := spcmp_ok _ _ 1 x y w (spot1 h.e.a h.e.b) k
 have s2 := spcmp_ok x y w _ _ 1 k (spot1 h.e.c h.e.d)
 refine fq Tryz.func282 fun C => ?_
 by_cases c1 : sideS a b c d x y w = 0
 ·have its2 := fun (r : List It) (R : Its Tryz.prog C.W C.D r) => its C _ (.v 19 (nf c1) <| .f 23 [] [] (ends_ok a b c d) <| .c 27 (at_pt h.e.a h.e.b) <| .f 29 [] [] s1 R)
  by_cases c2 : scm (endsF a b c d).1 (endsF a b c d).2.1 1 x y w ≤ 0
  ·by_cases c3 : scm x y w (endsF a b c d).2.2.1 (endsF a b c d).2.2.2 1 ≤ 0
   ·have e : holdsB a b c d x y w = true := by unfold holdsB; simp [c1, c2, c3]
    rw [e]; exact dn (its2 _ <| .v 30 (bt c2) <| .c 34 (at_pt h.e.c h.e.d) <| .f 35 [] [] s2 <| .v 36 (bt c3) .nil) []
   ·have e : holdsB a b c d x y w = false := by unfold holdsB; simp [c1, c2, c3]
    rw [e]; exact dn (its2 _ <| .v 30 (bt c2) <| .c 34 (at_pt h.e.c h.e.d) <| .f 35 [] [] s2 <| .v 36 (bf c3) .nil) []
  ·have e : holdsB a b c d x y w = false := by unfold holdsB; simp [c1, c2]
   rw [e]; exact dn (its2 _ <| .v 30 (bf c2) .nil) []
 ·have e : holdsB a b c d x y w = false := by unfold holdsB; simp [c1]
  rw [e]; exact dn (its C _ <| .v 19 (nt c1) .nil) []
end Go.Proofs.YtlkhneiccjhgdaaGreat
set_option maxRecDepth 100000
namespace Go.Proofs.YtlkhneiccjhgdaaGreat
open Go.Eo Go.RowKit Go.Rg
abbrev pl (l : List (Int × Int)) : List (List Dt) := l.map fun p => [.v (i6 p.1), .v (i6 p.2)]
theorem pl_at (l : List (Int × Int)) {k : Nat} (h : k < l.length) : (pl l)[k]? = some [.v (i6 (l.getD k (0, 0)).1), .v (i6 (l.getD k (0, 0)).2)] := map_at (fun p : Int × Int => [Dt.v (i6 p.1), Dt.v (i6 p.2)]) l (0, 0) h
noncomputable abbrev rightB : Code := Tryz.f287.body.getD .skip
structure Pa (p : Int × Int) : Prop where
 x : Ab p.1 A1
 y : Ab p.2 A1
theorem pt_right {p : Int × Int} (h : Pa p) (w : World) : Calls Tryz.prog 75 #[.agg #[i6 p.1, i6 p.2]] w fun e w' => e = .returned (.bool true) ∧ Below w.heap.size w w' := ptRight_any p.1 p.2 true (by
 obtain ⟨h1, h2⟩ := h
 unfold Ab A1 at *
 simp only [Wd.ptB, Wd.inB, Bool.and_eq_true, decide_eq_true_eq]
 omega) w
theorem right_ok (l : List (Int × Int)) (hl : l.length < 1000000000000) (hp : ∀ k, k < l.length → Pa (l.getD k (0, 0))) : FnP Tryz.prog 287 [.sl 2 (pl l)] [.a (.w 0)] [.sl 2 (pl l)] [] (vb true) := by
 refine fq Tryz.func287 fun C => ?_
 have hlen : (pl l).length = l.length := List.length_map _
 have hv : (Value.int .i64 ((pl l).length : Int)) = i6 l.length := by rw [hlen]
 refine gq [2] (lp 2 rightB []) (.v 6 hv .nil) [0] [(2, vb false), (5, .a (.w 0)), (6, vi l.length), (7, vi ((0 : Nat) : Int))] [.sl 2 (pl l)] fun d => ?_
 refine loop (β := { k : Nat // k ≤ l.length }) (fun k d => ⟨d, [(2, vb false), (5, .a (.w 0)), (6, vi l.length), (7, vi (k.1 : Nat))], mkX [.sl 2 (pl l)]⟩) (fun k => l.length - k.1) (by kernel_rfl) (fun x K ih d => ?_) ⟨0, Nat.zero_le _⟩ d
 obtain ⟨k, hk⟩ := x
 by_cases h : k < l.length
 ·refine gq [] (lpK 2 rightB [] K) (.v 8 (bt (show (k : Int) < (l.length : Nat) by omega)) <| .i (z := (k : Int)) (n := k) (len := (pl l).length) 9 rfl (by rw [hlen]; exact h) <| .l 10 (pl_at l h) <| .c 12 (pt_right (hp k h)) <| .v 14 (w64 (z := (k : Int) + 1) (by omega)) .nil) [0] [(2, vb false), (5, .a (.w 0)), (6, vi l.length), (7, vi ((k + 1 : Nat) : Int))] [.sl 2 (pl l)] fun d => ?_
  exact ih ⟨k + 1, h⟩ d (by simp; omega)
 ·exact dn (.v 8 (bf (show ¬ (k : Int) < (l.length : Nat) by omega)) .nil) [0]
def turnN (a b c : Int × Int) : Int := (b.1 - a.1) * (c.2 - a.2) - (b.2 - a.2) * (c.1 - a.1)
theorem turn3_ok (a b c : Int × Int) (ha : Pa a) (hb : Pa b) (hc : Pa c) : FnP Tryz.prog 288 [] [pA a.1 a.2, pA b.1 b.2, pA c.1 c.2] [] [] (wA (turnN a b c)) := by
 have d1 := hb.x.sub ha.x
 have d2 := hc.y.sub ha.y
 have d3 := hb.y.sub ha.y
 have d4 := hc.x.sub ha.x
 exact fq Tryz.func288 fun C => dn (.v 11 (w64 (d1.i64 rfl)) <| .c 12 (of_ok _ d1 rfl) <| .v 17 (w64 (d2.i64 rfl)) <| .c 18 (of_ok _ d2 rfl) <| .f 19 [] [] (ptimes_ok _ _ d1 d2 rfl rfl rfl) <| .v 24 (w64 (d3.i64 rfl)) <| .c 25 (of_ok _ d3 rfl) <| .v 30 (w64 (d4.i64 rfl)) <| .c 31 (of_ok _ d4 rfl) <|
  .f 32 [] [] (ptimes_ok _ _ d3 d4 rfl rfl rfl) <| .f 33 [] [] (pless_ok _ _ (d1.mul d2) (d3.mul d4) rfl rfl rfl) .nil) []
theorem Turn_ok (a b c : Int × Int) (ha : Pa a) (hb : Pa b) (hc : Pa c) : FnP Tryz.prog 283 [] [pA a.1 a.2, pA b.1 b.2, pA c.1 c.2] [] [] (vi (cm (turnN a b c) 0)) := by
 have hr := fnp_rd [true] [41] (right_ok [a, b, c] (by simp) (fun k hk => by
  simp only [List.length_cons, List.length_nil] at hk
  match k, hk with
  | 0, _ => exact ha
  | 1, _ => exact hb
  | 2, _ => exact hc)) rfl rfl rfl rfl
 have ht := ((hb.x.sub ha.x).mul (hc.y.sub ha.y)).sub ((hb.y.sub ha.y).mul (hc.x.sub ha.x))
 exact fq Tryz.func283 fun C => dn (.f 11 [3] [0] hr <| .f 16 [] [] (turn3_ok a b c ha hb hc) <| .c 17 (sign_ok _ (ht.fit rfl)) .nil) []
abbrev E4 := Int × Int × Int × Int
def frF (e e' : E4) : Int × Int := bif decide (pcm e'.1 e'.2.1 e.1 e.2.1 > 0) then (e'.1, e'.2.1) else (e.1, e.2.1)
def toF (e e' : E4) : Int × Int := bif decide (pcm e'.2.2.1 e'.2.2.2 e.2.2.1 e.2.2.2 < 0) then (e'.2.2.1, e'.2.2.2) else (e.2.2.1, e.2.2.2)
def shK (f t : Int × Int) : E4 := bif decide (pcm f.1 f.2 t.1 t.2 = 0) then (1, f.1, f.2, 1) else bif decide (pcm f.1 f.2 t.1 t.2 = -1) then (2, 0, 0, 0) else (0, 0, 0, 0)
def sharedF (e e' : E4) : E4 := shK (frF e e') (toF e e')
abbrev mA (m : E4) : AV := .a (.v (.tuple #[i6 m.1, Wd.sV m.2.1 m.2.2.1 m.2.2.2]))
noncomputable abbrev sharedB : Code := Tryz.f284.body.getD .skip
abbrev z12 : List AC := List.replicate 12 (.v (.int .u64 0))
theorem shared_ok (a b c d a' b' c' d' : Int) (h : Sr a b c d) (k : Sr a' b' c' d') : FnP Tryz.prog 284 [] [gA a b c d, gA a' b' c' d'] [] [] (mA (sharedF (endsF a b c d) (endsF a' b' c' d'))) := by
 refine fq Tryz.func284 fun C => ?_
 have he := h.e
 have ke := k.e
 have x1 := ends_ok a b c d
 have x2 := ends_ok a' b' c' d'
 unfold sharedF
 revert he ke x1 x2
 generalize endsF a b c d = e
 generalize endsF a' b' c' d' = e'
 intro he ke x1 x2
 have hf : Ab (frF e e').1 A1 ∧ Ab (frF e e').2 A1 := by unfold frF; cases decide (pcm e'.1 e'.2.1 e.1 e.2.1 > 0) <;> first | exact ⟨he.a, he.b⟩ | exact ⟨ke.a, ke.b⟩
 have fin : ∀ d, Eo.Good Tryz.prog Tryz.f284.ntmps 0 (finF Tryz.prog Tryz.f284 0 ([] ++ []) (mA (shK (frF e e') (toF e e')))) C (rqK 8 sharedB []) ⟨d, [(4, vi 0), (5, .a (.p 0 0)), (10, .a (.p 1 0)), (11, .a (.p 2 0))], mkX [.box z12 78, .box [.v (i6 (frF e e').1), .v (i6 (frF e e').2)] 41, .box [.v (i6 (toF e e').1), .v (i6 (toF e e').2)] 41]⟩ := by
  revert hf
  generalize frF e e' = f
  generalize toF e e' = t
  intro hf d
  by_cases c1 : pcm f.1 f.2 t.1 t.2 = 0
  ·have e1 : shK f t = (1, f.1, f.2, 1) := by unfold shK; rw [decide_eq_true c1]; rfl
   rw [e1]; exact dn (.f 36 [] [] (ptcmp_ok f.1 f.2 t.1 t.2) <| .v 38 (et c1) <| .c 40 (at_pt hf.1 hf.2) .nil) []
  ·by_cases c2 : pcm f.1 f.2 t.1 t.2 = -1
   ·have e1 : shK f t = (2, 0, 0, 0) := by unfold shK; rw [decide_eq_false c1, decide_eq_true c2]; rfl
    rw [e1]; exact dn (.f 36 [] [] (ptcmp_ok f.1 f.2 t.1 t.2) <| .v 38 (ef c1) <| .v 42 (et c2) .nil) []
   ·have e1 : shK f t = (0, 0, 0, 0) := by unfold shK; rw [decide_eq_false c1, decide_eq_false c2]; rfl
    rw [e1]; exact dn (.f 36 [] [] (ptcmp_ok f.1 f.2 t.1 t.2) <| .v 38 (ef c1) <| .v 42 (ef c2) .nil) []
 have its := fun (r : List It) (R : Its Tryz.prog C.W C.D r) => (.f 14 [] [] x1 <| .f 19 [] [] x2 <| .f 26 [] [] (ptcmp_ok e'.1 e'.2.1 e.1 e.2.1) R : Its Tryz.prog C.W C.D _)
 have p2 := ptcmp_ok e'.2.2.1 e'.2.2.2 e.2.2.1 e.2.2.2
 by_cases c1 : pcm e'.1 e'.2.1 e.1 e.2.1 > 0 <;> by_cases c2 : pcm e'.2.2.1 e'.2.2.2 e.2.2.1 e.2.2.2 < 0
 ·have e1 : frF e e' = (e'.1, e'.2.1) := by unfold frF; rw [decide_eq_true c1]; rfl
  have e2 : toF e e' = (e'.2.2.1, e'.2.2.2) := by unfold toF; rw [decide_eq_true c2]; rfl
  rw [e1, e2] at fin ⊢
  exact gq [8] (rqK 8 sharedB []) (its _ <| .v 27 (bt c1) <| .f 31 [] [] p2 <| .v 32 (bt c2) .nil) [2, 7, 8] _ _ fin
 ·have e1 : frF e e' = (e'.1, e'.2.1) := by unfold frF; rw [decide_eq_true c1]; rfl
  have e2 : toF e e' = (e.2.2.1, e.2.2.2) := by unfold toF; rw [decide_eq_false c2]; rfl
  rw [e1, e2] at fin ⊢
  exact gq [8] (rqK 8 sharedB []) (its _ <| .v 27 (bt c1) <| .f 31 [] [] p2 <| .v 32 (bf c2) .nil) [2, 7, 8] _ _ fin
 ·have e1 : frF e e' = (e.1, e.2.1) := by unfold frF; rw [decide_eq_false c1]; rfl
  have e2 : toF e e' = (e'.2.2.1, e'.2.2.2) := by unfold toF; rw [decide_eq_true c2]; rfl
  rw [e1, e2] at fin ⊢
  exact gq [8] (rqK 8 sharedB []) (its _ <| .v 27 (bf c1) <| .f 31 [] [] p2 <| .v 32 (bt c2) .nil) [2, 7, 8] _ _ fin
 ·have e1 : frF e e' = (e.1, e.2.1) := by unfold frF; rw [decide_eq_false c1]; rfl
  have e2 : toF e e' = (e.2.2.1, e.2.2.2) := by unfold toF; rw [decide_eq_false c2]; rfl
  rw [e1, e2] at fin ⊢
  exact gq [8] (rqK 8 sharedB []) (its _ <| .v 27 (bf c1) <| .f 31 [] [] p2 <| .v 32 (bf c2) .nil) [2, 7, 8] _ _ fin
end Go.Proofs.YtlkhneiccjhgdaaGreat
set_option maxRecDepth 100000
namespace Go.Proofs.YtlkhneiccjhgdaaGreat
open Go.Eo Go.RowKit Go.Rg
def crW0 (s t : Int × Int) : Int := s.1 * t.2 - s.2 * t.1
def crN0 (e e' : E4) (t : Int × Int) : Int := (e'.1 - e.1) * t.2 - (e'.2.1 - e.2.1) * t.1
def crF (e e' : E4) (s t : Int × Int) : Int × Int × Int := bif decide (cm (crW0 s t) 0 < 0) then (e.1 * (0 - crW0 s t) + s.1 * (0 - crN0 e e' t), e.2.1 * (0 - crW0 s t) + s.2 * (0 - crN0 e e' t), 0 - crW0 s t) else (e.1 * crW0 s t + s.1 * crN0 e e' t, e.2.1 * crW0 s t + s.2 * crN0 e e' t, crW0 s t)
structure Wa (s : Int × Int) : Prop where
 x : Ab s.1 A2
 y : Ab s.2 A2
abbrev A5 : Nat := A2 * A2 + A2 * A2
theorem crW0_ab {s t : Int × Int} (hs : Wa s) (ht : Wa t) : Ab (crW0 s t) A5 := (hs.x.mul ht.y).sub (hs.y.mul ht.x)
theorem crN0_ab {e e' : E4} {t : Int × Int} (he : Er e) (ke : Er e') (ht : Wa t) : Ab (crN0 e e' t) A5 := ((ke.a.sub he.a).mul ht.y).sub ((ke.b.sub he.b).mul ht.x)
theorem Ab.neg {x : Int} {m : Nat} (h : Ab x m) : Ab (0 - x) m := by unfold Ab at *; omega
theorem crossing_ok (a b c d a' b' c' d' : Int) (h : Sr a b c d) (k : Sr a' b' c' d') : FnP Tryz.prog 285 [] [gA a b c d, gA a' b' c' d'] [] [] (sA (crF (endsF a b c d) (endsF a' b' c' d') (wayF a b c d) (wayF a' b' c' d')).1 (crF (endsF a b c d) (endsF a' b' c' d') (wayF a b c d) (wayF a' b' c' d')).2.1 (crF (endsF a b c d) (endsF a' b' c' d') (wayF a b c d) (wayF a' b' c' d')).2.2) := by
 refine fq Tryz.func285 fun C => ?_
 have he := h.e
 have ke := k.e
 have x1 := ends_ok a b c d
 have x2 := ends_ok a' b' c' d'
 have y1 := segway_ok a b c d h
 have y2 := segway_ok a' b' c' d' k
 have hw : Wa (wayF a b c d) := ⟨h.w.1, h.w.2⟩
 have kw : Wa (wayF a' b' c' d') := ⟨k.w.1, k.w.2⟩
 revert he ke x1 x2 y1 y2 hw kw
 generalize endsF a b c d = e
 generalize endsF a' b' c' d' = e'
 generalize wayF a b c d = s
 generalize wayF a' b' c' d' = t
 intro he ke x1 x2 y1 y2 hw kw
 have gw := crW0_ab hw kw
 have gn := crN0_ab he ke kw
 have dx := ke.a.sub he.a
 have dy := ke.b.sub he.b
 have k2 : Ab 0 0 := Nat.le_refl _
 have its := fun (r : List It) (R : Its Tryz.prog C.W C.D r) => (.f 19 [] [] x1 <| .f 24 [] [] x2 <| .f 29 [] [] y1 <| .f 34 [] [] y2 <| .c 39 (times_ok _ _ hw.x kw.y rfl rfl rfl) <| .c 42 (times_ok _ _ hw.y kw.x rfl rfl rfl) <| .c 43 (less_ok _ _ (hw.x.mul kw.y) (hw.y.mul kw.x) rfl rfl rfl) <|
  .v 48 (w64 (dx.i64 rfl)) <| .c 49 (of_ok _ dx rfl) <| .v 54 (w64 (dy.i64 rfl)) <| .c 55 (of_ok _ dy rfl) <| .c 58 (times_ok _ _ dx kw.y rfl rfl rfl) <| .c 61 (times_ok _ _ dy kw.x rfl rfl rfl) <| .c 62 (less_ok _ _ (dx.mul kw.y) (dy.mul kw.x) rfl rfl rfl) <| .c 64 (sign_ok (crW0 s t) (gw.fit rfl)) R : Its Tryz.prog C.W C.D _)
 have fin := fun (w n : Int) (hw' : Ab w A5) (hn : Ab n A5) => (.c 74 (of_ok _ he.a rfl) <| .c 76 (times_ok _ _ he.a hw' rfl rfl rfl) <| .c 79 (times_ok _ _ hw.x hn rfl rfl rfl) <| .f 80 [] [] (plus_ok _ _ (he.a.mul hw') (hw.x.mul hn) rfl rfl rfl) <| .c 83 (of_ok _ he.b rfl) <| .c 85 (times_ok _ _ he.b hw' rfl rfl rfl) <| .c 88 (times_ok _ _ hw.y hn rfl rfl rfl) <|
  .f 89 [] [] (plus_ok _ _ (he.b.mul hw') (hw.y.mul hn) rfl rfl rfl) .nil : Its Tryz.prog C.W C.D _)
 by_cases c1 : cm (crW0 s t) 0 < 0
 ·have e1 : crF e e' s t = (e.1 * (0 - crW0 s t) + s.1 * (0 - crN0 e e' t), e.2.1 * (0 - crW0 s t) + s.2 * (0 - crN0 e e' t), 0 - crW0 s t) := by unfold crF; rw [decide_eq_true c1]; rfl
  rw [e1]
  exact dn (its _ <| .v 65 (bt c1) <| .c 68 (less_ok 0 (crW0 s t) k2 gw rfl rfl rfl) <| .c 71 (less_ok 0 (crN0 e e' t) k2 gn rfl rfl rfl) <| fin (0 - crW0 s t) (0 - crN0 e e' t) gw.neg gn.neg) []
 ·have e1 : crF e e' s t = (e.1 * crW0 s t + s.1 * crN0 e e' t, e.2.1 * crW0 s t + s.2 * crN0 e e' t, crW0 s t) := by unfold crF; rw [decide_eq_false c1]; rfl
  rw [e1]
  exact dn (its _ <| .v 65 (bf c1) <| fin (crW0 s t) (crN0 e e' t) gw gn) []
def cross4 (a b c d a' b' c' d' : Int) : Int × Int × Int := crF (endsF a b c d) (endsF a' b' c' d') (wayF a b c d) (wayF a' b' c' d')
theorem cross4_w {a b c d a' b' c' d' : Int} (h : Sr a b c d) (k : Sr a' b' c' d') (hs : slopeS a b c d a' b' c' d' ≠ 0) : 0 < (cross4 a b c d a' b' c' d').2.2 ∧ (cross4 a b c d a' b' c' d').2.2 ≤ 1237940039285380274899124224 ∧ Wd.Fit (cross4 a b c d a' b' c' d').1 ∧ Wd.Fit (cross4 a b c d a' b' c' d').2.1 := by
 have hw : Wa (wayF a b c d) := ⟨h.w.1, h.w.2⟩
 have kw : Wa (wayF a' b' c' d') := ⟨k.w.1, k.w.2⟩
 have gw := crW0_ab hw kw
 have gn := crN0_ab h.e k.e kw
 have h0 : crW0 (wayF a b c d) (wayF a' b' c' d') ≠ 0 := fun h0 => hs (by
  unfold slopeS slopeN
  rw [cm_0]
  unfold crW0 at h0
  rw [Int.mul_comm (wayF a' b' c' d').1, Int.mul_comm (wayF a' b' c' d').2]
  omega)
 have hA : Ab (crW0 (wayF a b c d) (wayF a' b' c' d')) 38685626227668133590597632 := gw
 unfold Ab at hA
 unfold cross4 crF
 by_cases c1 : cm (crW0 (wayF a b c d) (wayF a' b' c' d')) 0 < 0
 ·rw [decide_eq_true c1]
  have := cm_lt0.1 c1
  exact ⟨show 0 < 0 - _ by omega, show 0 - _ ≤ _ by omega, ((h.e.a.mul gw.neg).add (hw.x.mul gn.neg)).fit rfl, ((h.e.b.mul gw.neg).add (hw.y.mul gn.neg)).fit rfl⟩
 ·rw [decide_eq_false c1]
  have : ¬ crW0 (wayF a b c d) (wayF a' b' c' d') < 0 := fun h => c1 (cm_lt0.2 h)
  exact ⟨show 0 < crW0 _ _ by omega, show crW0 _ _ ≤ _ by omega, ((h.e.a.mul gw).add (hw.x.mul gn)).fit rfl, ((h.e.b.mul gw).add (hw.y.mul gn)).fit rfl⟩
def dotB (a b c d : Int) : Bool := decide (a = c) && decide (b = d)
def meetF (a b c d a' b' c' d' : Int) : E4 :=
 bif dotB a b c d && holdsB a' b' c' d' a b 1 then (1, a, b, 1) else bif dotB a' b' c' d' && holdsB a b c d a' b' 1 then (1, a', b', 1) else bif dotB a b c d || dotB a' b' c' d' then (0, 0, 0, 0) else
 bif decide (slopeS a b c d a' b' c' d' = 0) then (bif decide (cm (turnN (a, b) (c, d) (a', b')) 0 = 0) then sharedF (endsF a b c d) (endsF a' b' c' d') else (0, 0, 0, 0)) else
 bif spB (cross4 a b c d a' b' c' d').1 (cross4 a b c d a' b' c' d').2.1 (cross4 a b c d a' b' c' d').2.2 && (holdsB a b c d (cross4 a b c d a' b' c' d').1 (cross4 a b c d a' b' c' d').2.1 (cross4 a b c d a' b' c' d').2.2 && holdsB a' b' c' d' (cross4 a b c d a' b' c' d').1 (cross4 a b c d a' b' c' d').2.1 (cross4 a b c d a' b' c' d').2.2)
  then (1, (cross4 a b c d a' b' c' d').1, (cross4 a b c d a' b' c' d').2.1, (cross4 a b c d a' b' c' d').2.2) else (0, 0, 0, 0)
theorem Meet_ok (a b c d a' b' c' d' : Int) (h : Sr a b c d) (k : Sr a' b' c' d') : FnP Tryz.prog 273 [] [gA a b c d, gA a' b' c' d'] [] [] (mA (meetF a b c d a' b' c' d')) := by
 refine fq Tryz.func273 fun C => ?_
 have D1 : FnP Tryz.prog 281 [] [gA a b c d] [] [] (vb (dotB a b c d)) := dot_ok a b c d
 have D2 : FnP Tryz.prog 281 [] [gA a' b' c' d'] [] [] (vb (dotB a' b' c' d')) := dot_ok a' b' c' d'
 have H1 := Holds_ok a' b' c' d' a b 1 k (spot1 h.a h.b)
 have H2 := Holds_ok a b c d a' b' 1 h (spot1 k.a k.b)
 have S := Slope_ok a b c d a' b' c' d' h k
 have T := Turn_ok (a, b) (c, d) (a', b') ⟨h.a, h.b⟩ ⟨h.c, h.d⟩ ⟨k.a, k.b⟩
 have X := crossing_ok a b c d a' b' c' d' h k
 have Z := shared_ok a b c d a' b' c' d' h k
 have hcw := cross4_w h k
 have t1 := at_pt h.a h.b
 have t2 := at_pt k.a k.b
 have Rr : slopeS a b c d a' b' c' d' ≠ 0 → _ := fun hs => Right_ok (cross4 a b c d a' b' c' d').1 (cross4 a b c d a' b' c' d').2.1 (cross4 a b c d a' b' c' d').2.2 (hcw hs).1 (hcw hs).2.1 (hcw hs).2.2.1 (hcw hs).2.2.2
 have Hp := fun q => Holds_ok a b c d (cross4 a b c d a' b' c' d').1 (cross4 a b c d a' b' c' d').2.1 (cross4 a b c d a' b' c' d').2.2 h q
 have Hq := fun q => Holds_ok a' b' c' d' (cross4 a b c d a' b' c' d').1 (cross4 a b c d a' b' c' d').2.1 (cross4 a b c d a' b' c' d').2.2 k q
 have X : FnP Tryz.prog 285 [] [gA a b c d, gA a' b' c' d'] [] [] (sA (cross4 a b c d a' b' c' d').1 (cross4 a b c d a' b' c' d').2.1 (cross4 a b c d a' b' c' d').2.2) := X
 have hok : slopeS a b c d a' b' c' d' ≠ 0 → spB (cross4 a b c d a' b' c' d').1 (cross4 a b c d a' b' c' d').2.1 (cross4 a b c d a' b' c' d').2.2 = true → Wd.SpotOk (cross4 a b c d a' b' c' d').1 (cross4 a b c d a' b' c' d').2.1 (cross4 a b c d a' b' c' d').2.2 := fun hs hb => spB_ok (hcw hs).1 (hcw hs).2.1 hb
 unfold meetF
 revert D1 D2 H1 H2 S T X Z Rr Hp Hq hok
 generalize dotB a b c d = d1
 generalize dotB a' b' c' d' = d2
 generalize holdsB a' b' c' d' a b 1 = h1
 generalize holdsB a b c d a' b' 1 = h2
 generalize slopeS a b c d a' b' c' d' = sl
 generalize cm (turnN (a, b) (c, d) (a', b')) 0 = tn
 generalize sharedF (endsF a b c d) (endsF a' b' c' d') = sh
 generalize cross4 a b c d a' b' c' d' = p
 generalize spB p.1 p.2.1 p.2.2 = rp
 generalize holdsB a b c d p.1 p.2.1 p.2.2 = hp
 generalize holdsB a' b' c' d' p.1 p.2.1 p.2.2 = hq
 intro D1 D2 H1 H2 S T Z Rr Hp Hq X hok
 have r1 := sr_right h
 have r2 := sr_right k
 have its := fun (r : List It) (R : Its Tryz.prog C.W C.D r) => (.c 9 r1 <| .c 13 r2 <| .f 19 [] [] D1 R : Its Tryz.prog C.W C.D _)
 have itZ := fun (r : List It) (R : Its Tryz.prog C.W C.D r) => (.f 45 [] [] D1 R : Its Tryz.prog C.W C.D _)
 cases d1 with
 | true =>
  cases h1 with
  | true => exact dn (its _ <| .c 24 t1 <| .f 25 [] [] H1 <| .c 29 t1 .nil) []
  | false =>
   have its2 := fun (r : List It) (R : Its Tryz.prog C.W C.D r) => its _ (.c 24 t1 <| .f 25 [] [] H1 <| .f 32 [] [] D2 R)
   cases d2 with
   | true =>
    cases h2 with
    | true => exact dn (its2 _ <| .c 37 t2 <| .f 38 [] [] H2 <| .c 42 t2 .nil) []
    | false => exact dn (its2 _ <| .c 37 t2 <| .f 38 [] [] H2 <| itZ _ .nil) []
   | false => exact dn (its2 _ <| itZ _ .nil) []
 | false =>
  have its2 := fun (r : List It) (R : Its Tryz.prog C.W C.D r) => its _ (.f 32 [] [] D2 R)
  cases d2 with
  | true =>
   cases h2 with
   | true => exact dn (its2 _ <| .c 37 t2 <| .f 38 [] [] H2 <| .c 42 t2 .nil) []
   | false => exact dn (its2 _ <| .c 37 t2 <| .f 38 [] [] H2 <| itZ _ <| .f 48 [] [] D2 .nil) []
  | false =>
   have its3 := fun (r : List It) (R : Its Tryz.prog C.W C.D r) => its2 _ (itZ _ <| .f 48 [] [] D2 <| .f 54 [] [] S R)
   by_cases c1 : sl = 0
   ·rw [decide_eq_true c1]
    by_cases c2 : tn = 0
    ·rw [decide_eq_true c2]
     exact dn (its3 _ <| .v 55 (et c1) <| .f 63 [] [] T <| .v 64 (nf c2) <| .f 70 [] [] S <| .v 71 (et c1) <| .f 74 [] [] Z .nil) []
    ·rw [decide_eq_false c2]
     exact dn (its3 _ <| .v 55 (et c1) <| .f 63 [] [] T <| .v 64 (nt c2) .nil) []
   ·rw [decide_eq_false c1]
    have R := Rr c1
    have its4 := fun (r : List It) (R' : Its Tryz.prog C.W C.D r) => its3 _ (.v 55 (ef c1) <| .f 70 [] [] S <| .v 71 (ef c1) <| .f 79 [] [] X <| .f 81 [] [] R R')
    cases rp with
    | false => exact dn (its4 _ .nil) []
    | true =>
     have A := Hp (hok c1 rfl)
     have B := Hq (hok c1 rfl)
     cases hp with
     | false => exact dn (its4 _ <| .f 86 [] [] A .nil) []
     | true =>
      cases hq with
      | false => exact dn (its4 _ <| .f 86 [] [] A <| .f 92 [] [] B .nil) []
      | true => exact dn (its4 _ <| .f 86 [] [] A <| .f 92 [] [] B .nil) []
end Go.Proofs.YtlkhneiccjhgdaaGreat
set_option maxRecDepth 100000
namespace Go.Proofs.YtlkhneiccjhgdaaGreat
open Go.Eo Go.RowKit Go.Rg
inductive Or3 where
 | n
 | b
 | s
abbrev cob (κ : Or3) (es : List (List Dt)) : List Ob := match κ with
 | .n => [.dead, .dead]
 | _ => [.ro [.w 1] 23, .sl 4 es]
abbrev cap (κ : Or3) : List AV := match κ with
 | .n => []
 | _ => [.a (.p 0 0)]
abbrev fOr (κ : Or3) : Nat := match κ with
 | .n => 141
 | .b => 248
 | .s => 279
abbrev ov (κ : Or3) : AV := match κ with
 | .n => .a (.v (.func (.func 141) #[] #[]))
 | .b => .f (.func 248) [] [.p 0 0]
 | .s => .f (.func 279) [] [.p 0 0]
def leO (o : Int → Int → Int) (x y : Int) : Bool := !decide (o y x < 0)
noncomputable abbrev mergeB : Code := Tryz.f264.body.getD .skip
def Ords (κ : Or3) (es : List (List Dt)) (o : Int → Int → Int) (a b : List Int) : Prop := ∀ x ∈ a, ∀ y ∈ b, FnP Tryz.prog (fOr κ) (cob κ es) ([vi y, vi x] ++ cap κ) (cob κ es) [] (vi (o y x))
abbrev ovK {κ : Or3} {es : List (List Dt)} {o : Int → Int → Int} {a b : List Int} (_ : Ords κ es o a b) : AV := ov κ
abbrev cobK {κ : Or3} {es : List (List Dt)} {o : Int → Int → Int} {a b : List Int} (_ : Ords κ es o a b) : List Ob := cob κ es
theorem il_len (l : List Int) : (il l).length = l.length := List.length_map _
theorem merge_ok (κ : Or3) (es : List (List Dt)) (o : Int → Int → Int) (a b : List Int) (hl : a.length + b.length < 100000000000) (ho : Ords κ es o a b) :
  FnP Tryz.prog 264 (cob κ es ++ [.sl 1 (il a), .sl 1 (il b)]) [.a (.w 2), .a (.w 3), ov κ] (cob κ es ++ [.dead, .dead]) [.row 3 1 (il (Mg.mgB (leO o) a b))] (.a (.w 4)) := by
 obtain ⟨out, hout⟩ : ∃ out, out = Mg.mgB (leO o) a b := ⟨_, rfl⟩
 rw [← hout]
 have la : (Value.int .i64 ((il a).length : Int)) = i6 a.length := by rw [il_len]
 have lb : (Value.int .i64 ((il b).length : Int)) = i6 b.length := by rw [il_len]
 have pos : ∀ (x : Int) (l : List Int), Value.bool (decide (((il (x :: l)).length : Int) > 0)) = .bool true := fun x l => gt_t (by rw [il_len]; simp)
 have app : ∀ (l : List Int) (x : Int), Ob.row 3 1 (il l ++ [[.v (i6 x)]]) = .row 3 1 (il (l ++ [x])) := fun l x => by simp
 have tl : ∀ (x : Int) (l : List Int), Ob.sl 1 (((il (x :: l)).take (il (x :: l)).length).drop 1) = .sl 1 (il l) := fun x l => by rw [List.take_length]; rfl
 cases κ
 all_goals
  refine fq Tryz.func264 fun C => ?_
  refine gq [2] (lp 2 mergeB []) (.v 9 la <| .v 11 lb <| .v 12 (w64 (z := (a.length : Int) + b.length) (by omega)) <| .k (z := (a.length : Int) + b.length) (n := a.length + b.length) (bytes := 8) 13 0 (by omega) (by unfold maxLen; omega) (by omega) (Nat.zero_le _) .nil) [0, 1, 2, 3, 2, 3, 4] [(0, .a (.w 4)), (1, .a (.w 5)), (2, ovK ho), (7, .a (.w 6))]
   (cobK ho ++ [.dead, .dead, .sl 1 (il a), .sl 1 (il b), .row 3 1 (il [])]) fun d => ?_
  refine loop (β := { x : List Int × List Int × List Int // x.2.2 ++ Mg.mgB (leO o) x.1 x.2.1 = out ∧ (∀ y ∈ x.1, y ∈ a) ∧ (∀ y ∈ x.2.1, y ∈ b) ∧ x.1.length + x.2.1.length + x.2.2.length = a.length + b.length })
   (fun x d => ⟨d, [(0, .a (.w 4)), (1, .a (.w 5)), (2, ovK ho), (7, .a (.w 6))], mkX (cobK ho ++ [.dead, .dead, .sl 1 (il x.1.1), .sl 1 (il x.1.2.1), .row 3 1 (il x.1.2.2)])⟩) (fun x => x.1.1.length + x.1.2.1.length) (by kernel_rfl) (fun x K ih d => ?_) ⟨(a, b, []), by rw [hout]; rfl, fun _ h => h, fun _ h => h, by simp⟩ d
  obtain ⟨⟨ra, rb, acc⟩, h1, h2, h3, h4⟩ := x
  simp only at h1 h2 h3 h4
  have fin : ∀ (u v : List Int), u.length + v.length + acc.length = a.length + b.length → acc ++ u ++ v = out → (il acc).length + (il u).length ≤ maxLen ∧ ((il acc).length + (il u).length) * 8 ≤ 140737488355328 ∧ (il acc ++ il u).length + (il v).length ≤ maxLen ∧ ((il acc ++ il u).length + (il v).length) * 8 ≤ 140737488355328 ∧ Ob.row 3 1 (il acc ++ il u ++ il v) = .row 3 1 (il out) := fun u v h e => by
   simp only [List.length_append, il_len]; unfold maxLen
   refine ⟨by omega, by omega, by omega, by omega, ?_⟩
   rw [← e]; simp
  have grow : ∀ x : Int, acc.length + 1 ≤ a.length + b.length → (il acc).length + 1 ≤ maxLen ∧ ((il acc).length + 1) * 8 ≤ 140737488355328 := fun x h => by rw [il_len]; unfold maxLen; omega
  cases ra with
  | nil =>
   obtain ⟨g1, g2, g3, g4, g5⟩ := fin [] rb h4 (by rw [← h1]; simp [Mg.mgB])
   exact dn (.a (n := (il acc).length + (il []).length) (bytes := 8) 49 g1 g2 <| .a (n := (il acc ++ il []).length + (il rb).length) (bytes := 8) 51 g3 g4 <| .o 1000 8 g5 .nil) [0, 1, 2, 3, 8]
  | cons x ra =>
   cases rb with
   | nil =>
    obtain ⟨g1, g2, g3, g4, g5⟩ := fin (x :: ra) [] h4 (by rw [← h1, Mg.mgB_nil_right]; simp)
    exact dn (.v 16 (pos x ra) <| .a (n := (il acc).length + (il (x :: ra)).length) (bytes := 8) 49 g1 g2 <| .a (n := (il acc ++ il (x :: ra)).length + (il []).length) (bytes := 8) 51 g3 g4 <| .o 1000 8 g5 .nil) [0, 1, 2, 3, 8]
   | cons y rb =>
    have hxy := ho x (h2 x (List.mem_cons_self ..)) y (h3 y (List.mem_cons_self ..))
    simp only [List.length_cons] at h4
    obtain ⟨g1, g2⟩ := grow 0 (by omega)
    have lx := il_len (x :: ra)
    have ly := il_len (y :: rb)
    by_cases c : o y x < 0
    ·refine gq [] (lpK 2 mergeB [] K) (.v 16 (pos x ra) <| .v 20 (pos y rb) <| .i (n := 0) (len := (il (y :: rb)).length) 24 rfl (by rw [ly]; simp) <| .l (es := il (y :: rb)) (n := 0) (e := [.v (i6 y)]) 25 rfl <| .i (n := 0) (len := (il (x :: ra)).length) 27 rfl (by rw [lx]; simp) <| .l (es := il (x :: ra)) (n := 0) (e := [.v (i6 x)]) 28 rfl <|
      .f 29 [0, 1] [0, 1] hxy <| .v 30 (bt c) <| .i (n := 0) (len := (il (y :: rb)).length) 33 rfl (by rw [ly]; simp) <| .l (es := il (y :: rb)) (n := 0) (e := [.v (i6 y)]) 34 rfl <| .a (n := (il acc).length + 1) (bytes := 8) 36 g1 g2 <| .b (lo := 1) (hi := ((il (y :: rb)).length : Int)) (l := 1) (h := (il (y :: rb)).length) (len := (il (y :: rb)).length) 38 false rfl rfl (by rw [ly]; simp) (Nat.le_refl _) <|
      .o 1000 8 (app acc y) <| .o 1000 9 (tl y rb) .nil) [0, 1, 2, 3, 4, 9, 8] [(0, .a (.w 4)), (1, .a (.w 5)), (2, ovK ho), (7, .a (.w 6))] (cobK ho ++ [.dead, .dead, .sl 1 (il (x :: ra)), .sl 1 (il rb), .row 3 1 (il (acc ++ [y]))]) fun d => ?_
     exact ih ⟨(x :: ra, rb, acc ++ [y]), by rw [← h1, Mg.mgB_cons, if_neg (by simp [leO, c])]; simp, h2, fun z hz => h3 z (List.mem_cons_of_mem _ hz), by simp; omega⟩ d (by simp)
    ·refine gq [] (lpK 2 mergeB [] K) (.v 16 (pos x ra) <| .v 20 (pos y rb) <| .i (n := 0) (len := (il (y :: rb)).length) 24 rfl (by rw [ly]; simp) <| .l (es := il (y :: rb)) (n := 0) (e := [.v (i6 y)]) 25 rfl <| .i (n := 0) (len := (il (x :: ra)).length) 27 rfl (by rw [lx]; simp) <| .l (es := il (x :: ra)) (n := 0) (e := [.v (i6 x)]) 28 rfl <|
      .f 29 [0, 1] [0, 1] hxy <| .v 30 (bf c) <| .i (n := 0) (len := (il (x :: ra)).length) 41 rfl (by rw [lx]; simp) <| .l (es := il (x :: ra)) (n := 0) (e := [.v (i6 x)]) 42 rfl <| .a (n := (il acc).length + 1) (bytes := 8) 44 g1 g2 <| .b (lo := 1) (hi := ((il (x :: ra)).length : Int)) (l := 1) (h := (il (x :: ra)).length) (len := (il (x :: ra)).length) 46 false rfl rfl (by rw [lx]; simp) (Nat.le_refl _) <|
      .o 1000 8 (app acc x) <| .o 1000 9 (tl x ra) .nil) [0, 1, 2, 3, 9, 5, 8] [(0, .a (.w 4)), (1, .a (.w 5)), (2, ovK ho), (7, .a (.w 6))] (cobK ho ++ [.dead, .dead, .sl 1 (il ra), .sl 1 (il (y :: rb)), .row 3 1 (il (acc ++ [x]))]) fun d => ?_
     exact ih ⟨(ra, y :: rb, acc ++ [x]), by rw [← h1, Mg.mgB_cons, if_pos (by simp [leO, c])]; simp, fun z hz => h2 z (List.mem_cons_of_mem _ hz), h3, by simp; omega⟩ d (by simp)
end Go.Proofs.YtlkhneiccjhgdaaGreat
set_option maxRecDepth 100000
namespace Go.Proofs.YtlkhneiccjhgdaaGreat
open Go.Eo Go.RowKit Go.Rg
theorem clone_ok (l : List Int) (hl : l.length < 100000000000) : FnP Tryz.prog 263 [.sl 1 (il l)] [.a (.w 0)] [.sl 1 (il l)] [.row 3 1 (il l)] (.a (.w 1)) := by
 refine fnpN 0 0 1 (il l) rfl rfl Tryz.func263 rfl (by kernel_rfl) (fun he C => ?_) (fun a n C => ?_)
 ·have : l = [] := by simpa using he
  subst this
  exact dn (.n 1000 2 3 1 .nil) [0, 1]
 ·have h := il_len l
  exact dn (.a (n := ([] : List (List Dt)).length + (il l).length) (bytes := 8) 7 (by rw [h]; unfold maxLen; simp; omega) (by rw [h]; simp; omega) .nil) [0, 2]
noncomputable abbrev sortC : Code := Tryz.f247.body.getD .skip
theorem cut_il (l : List Int) (i m k : Nat) (h : m = min (i + k) l.length) : ((il l).take m).drop i = il ((l.drop i).take k) := by
 rw [← List.map_take, ← List.map_drop]
 congr 1
 subst h
 rw [List.drop_take]
 by_cases h : i + k ≤ l.length
 ·rw [Nat.min_eq_left h]; congr 1; omega
 ·rw [Nat.min_eq_right (by omega), List.take_of_length_le (by simp), List.take_of_length_le (by simp; omega)]
theorem sort_ok (κ : Or3) (es : List (List Dt)) (o : Int → Int → Int) (l : List Int) (hl : l.length < 10000000000) (ho : Ords κ es o l l) :
  FnP Tryz.prog 247 (cob κ es ++ [.sl 1 (il l)]) [.a (.w 2), ov κ] (cob κ es ++ [.sl 1 (il l)]) [.row 3 1 (il (Mg.sortB (leO o) l))] (.a (.w 3)) := by
 obtain ⟨out, hout⟩ : ∃ out, out = Mg.sortB (leO o) l := ⟨_, rfl⟩
 rw [← hout]
 have hpow : l.length ≤ 1 * 2 ^ l.length := by rw [Nat.one_mul]; exact Nat.le_of_lt Nat.lt_two_pow_self
 have hm' := fun (a b : List Int) (h1 : ∀ x ∈ a, x ∈ l) (h2 : ∀ x ∈ b, x ∈ l) (h3 : a.length + b.length < 100000000000) => merge_ok κ es o a b h3 fun x hx y hy => ho x (h1 x hx) y (h2 y hy)
 cases κ
 all_goals
  refine fq Tryz.func247 fun C => ?_
  refine gq [3] (lp 3 sortC []) (.f 12 [2] [0] (clone_ok l (by omega)) .nil) [0, 1, 2, 3] [(1, ovK ho), (5, .a (.w 3)), (6, vi ((1 : Nat) : Int))] (cobK ho ++ [.sl 1 (il l), .row 3 1 (il l)]) fun d => ?_
  refine loop (β := { x : Nat × List Int × Nat // 0 < x.1 ∧ Mg.sortG (leO o) x.2.2 x.1 x.2.1 = out ∧ x.2.1.length ≤ x.1 * 2 ^ x.2.2 ∧ (∀ y ∈ x.2.1, y ∈ l) ∧ x.2.1.length = l.length ∧ x.1 ≤ 2 * l.length + 1 })
   (fun x d => ⟨d, [(1, ovK ho), (5, .a (.w 3)), (6, vi (x.1.1 : Nat))], mkX (cobK ho ++ [.sl 1 (il l), .row 3 1 (il x.1.2.1)])⟩) (fun x => l.length - x.1.1) (by kernel_rfl) (fun x K ih d => ?_) ⟨(1, l, l.length), Nat.one_pos, hout.symm, hpow, fun _ h => h, rfl, by simp⟩ d
  obtain ⟨⟨k, cur, fu⟩, k0, k1, k2, k3, k4, k5⟩ := x
  simp only at k0 k1 k2 k3 k4 k5
  have lc : (Value.int .i64 ((il cur).length : Int)) = i6 cur.length := by rw [il_len]
  by_cases hk : k < cur.length
  ·obtain ⟨f', rfl⟩ : ∃ f', fu = f' + 1 := by
    cases fu with
    | zero => simp at k2; omega
    | succ f' => exact ⟨f', rfl⟩
   rw [Mg.sortG, if_pos hk] at k1
   refine gq [7] (lp 7 sortC [K]) (.v 15 lc <| .v 16 (bt (show (k : Int) < (cur.length : Nat) by omega)) <| .z 1000 3 <| .n 1000 7 3 1 .nil) [0, 1, 2, 3, 4] [(1, ovK ho), (5, .a (.w 3)), (6, vi (k : Nat)), (7, .a (.w 4)), (8, vi ((0 : Nat) : Int))] (cobK ho ++ [.sl 1 (il l), .sl 1 (il cur), .row 3 1 (il [])]) fun d => ?_
   refine loop (β := { x : Nat × List Int × Nat // (cur.drop x.1).length ≤ x.2.2 ∧ x.2.1 ++ Mg.passB (leO o) k x.2.2 (cur.drop x.1) = Mg.passB (leO o) k cur.length cur ∧ x.1 ≤ 4 * l.length ∧ (x.1 < cur.length → x.2.1.length = x.1) ∧ x.2.1.length ≤ cur.length })
    (fun x d => ⟨d, [(1, ovK ho), (5, .a (.w 3)), (6, vi (k : Nat)), (7, .a (.w 4)), (8, vi (x.1.1 : Nat))], mkX (cobK ho ++ [.sl 1 (il l), .sl 1 (il cur), .row 3 1 (il x.1.2.1)])⟩) (fun x => cur.length - x.1.1) (by kernel_rfl) (fun x K' ih' d => ?_) ⟨(0, [], cur.length), by simp, by simp, Nat.zero_le _, fun _ => rfl, Nat.zero_le _⟩ d
   obtain ⟨⟨at', acc, g⟩, a1, a2, a3, a4, a5⟩ := x
   simp only at a1 a2 a3 a4 a5
   by_cases ha : at' < cur.length
   ·obtain ⟨m, hm1⟩ : ∃ m, m = min (at' + k) cur.length := ⟨_, rfl⟩
    obtain ⟨e, he⟩ : ∃ e, e = min (at' + 2 * k) cur.length := ⟨_, rfl⟩
    have ca := cut_il cur at' m k hm1
    have cb : ((il cur).take e).drop m = il (((cur.drop at').drop k).take k) := by
     rw [List.drop_drop]
     by_cases h : at' + k ≤ cur.length
     ·have : m = at' + k := by omega
      subst this
      rw [cut_il cur _ e k (by omega)]
     ·have h1 : m = cur.length := by omega
      rw [List.drop_eq_nil_of_le (by simp; omega), List.drop_eq_nil_of_le (by omega), List.take_nil]; rfl
    have hg : cur.drop at' ≠ [] := by simp; omega
    obtain ⟨g', rfl⟩ : ∃ g', g = g' + 1 := by
     cases g with
     | zero => simp at a1; omega
     | succ g' => exact ⟨g', rfl⟩
    rw [Mg.passB_step _ _ _ hg] at a2
    have q1 : ((cur.drop at').take k).length ≤ cur.length - at' := by simp; omega
    have q2 : ((cur.drop at').take k).length + (((cur.drop at').drop k).take k).length ≤ cur.length - at' := by simp; omega
    have q3 : at' + 2 * k < cur.length → ((cur.drop at').take k).length + (((cur.drop at').drop k).take k).length = 2 * k := by simp; omega
    have hacc := a4 ha
    have M := hm' ((cur.drop at').take k) (((cur.drop at').drop k).take k) (fun x hx => k3 x (List.mem_of_mem_drop (List.mem_of_mem_take hx))) (fun x hx => k3 x (List.mem_of_mem_drop (List.mem_of_mem_drop (List.mem_of_mem_take hx)))) (by omega)
    have ml := Mg.mgB_len (leO o) ((cur.drop at').take k) (((cur.drop at').drop k).take k)
    rw [← ca, ← cb] at M
    have hc := il_len cur
    have z1 := il_len acc
    have z2 := il_len (Mg.mgB (leO o) ((cur.drop at').take k) (((cur.drop at').drop k).take k))
    refine gq [] (lpK 7 sortC [K] K') (.v 21 lc <| .v 22 (bt (show (at' : Int) < (cur.length : Nat) by omega)) <| .v 29 (w64 (z := (at' : Int) + k) (by omega)) <| .v 31 lc <| .m 32 (fun w _ => mn ((at' : Int) + k) cur.length w) <| .v 32 (congrArg i6 (show min ((at' : Int) + k) cur.length = (m : Nat) by omega)) <|
     .v 35 (w64 (z := 2 * (k : Int)) (by omega)) <| .v 36 (w64 (z := (at' : Int) + 2 * (k : Int)) (by omega)) <| .v 38 lc <| .m 39 (fun w _ => mn ((at' : Int) + 2 * (k : Int)) cur.length w) <| .v 39 (congrArg i6 (show min ((at' : Int) + 2 * (k : Int)) cur.length = (e : Nat) by omega)) <|
     .b (lo := (at' : Int)) (hi := (m : Int)) (l := at') (h := m) (len := (il cur).length) 44 false rfl rfl (by omega) (by rw [hc]; omega) <| .b (lo := (m : Int)) (hi := (e : Int)) (l := m) (h := e) (len := (il cur).length) 48 false rfl rfl (by omega) (by rw [hc]; omega) <|
     .f 50 [0, 1, 5, 6] [0, 1] M <| .a (n := (il acc).length + (il (Mg.mgB (leO o) ((cur.drop at').take k) (((cur.drop at').drop k).take k))).length) (bytes := 8) 51 (by unfold maxLen; omega) (by omega) <| .v 25 (w64 (z := 2 * (k : Int)) (by omega)) <| .v 26 ((w64 (z := (at' : Int) + 2 * (k : Int)) (by omega)).trans (congrArg i6 (show (at' : Int) + 2 * (k : Int) = ((at' + 2 * k : Nat) : Int) by omega))) <|
     .o (x := .row 3 1 (il acc ++ il (Mg.mgB (leO o) ((cur.drop at').take k) (((cur.drop at').drop k).take k)))) (y := .row 3 1 (il (acc ++ Mg.mgB (leO o) ((cur.drop at').take k) (((cur.drop at').drop k).take k)))) 1000 8 (by rw [← List.map_append]) .nil) [0, 1, 2, 3, 8] [(1, ovK ho), (5, .a (.w 3)), (6, vi (k : Nat)), (7, .a (.w 4)), (8, vi ((at' + 2 * k : Nat) : Int))] (cobK ho ++ [.sl 1 (il l), .sl 1 (il cur), .row 3 1 (il (acc ++ Mg.mgB (leO o) ((cur.drop at').take k) (((cur.drop at').drop k).take k)))]) fun d => ?_
    refine ih' ⟨(at' + 2 * k, acc ++ Mg.mgB (leO o) ((cur.drop at').take k) (((cur.drop at').drop k).take k), g'), ?_, ?_, ?_, ?_, ?_⟩ d (show cur.length - (at' + 2 * k) < cur.length - at' by omega)
    ·simp at a1 ⊢; omega
    ·have e2 : (cur.drop at').drop (2 * k) = cur.drop (at' + 2 * k) := List.drop_drop
     rw [e2] at a2
     rw [← a2, List.append_assoc]
    ·show at' + 2 * k ≤ 4 * l.length; omega
    ·intro h; show (acc ++ _).length = at' + 2 * k; rw [List.length_append, ml, q3 h, hacc]
    ·show (acc ++ _).length ≤ cur.length; rw [List.length_append, ml]; omega
   ·have hd0 : cur.drop at' = [] := List.drop_eq_nil_of_le (by omega)
    rw [hd0, Mg.passB_nil, List.append_nil] at a2
    refine gq [] (lpK 3 sortC [] K) (.v 21 lc <| .v 22 (bf (show ¬ (at' : Int) < (cur.length : Nat) by omega)) <| .v 18 ((w64 (z := (k : Int) * 2) (by omega)).trans (congrArg i6 (show (k : Int) * 2 = ((2 * k : Nat) : Int) by omega))) .nil) [0, 1, 2, 4] [(1, ovK ho), (5, .a (.w 3)), (6, vi ((2 * k : Nat) : Int))] (cobK ho ++ [.sl 1 (il l), .row 3 1 (il acc)]) fun d => ?_
    have hp := Mg.passB_perm (leO o) k k0 cur.length cur (Nat.le_refl _)
    refine ih ⟨(2 * k, acc, f'), by omega, by rw [a2]; exact k1, ?_, ?_, ?_, by show 2 * k ≤ _; omega⟩ d (show l.length - 2 * k < l.length - k by omega)
    ·rw [a2, hp.length_eq]
     have : k * 2 ^ (f' + 1) = 2 * k * 2 ^ f' := by rw [Nat.pow_succ, Nat.mul_comm 2 k, Nat.mul_assoc, Nat.mul_comm 2]
     show cur.length ≤ 2 * k * 2 ^ f'
     rw [← this]; exact k2
    ·intro y hy
     rw [a2] at hy
     exact k3 y (hp.mem_iff.1 hy)
    ·rw [a2, hp.length_eq]; exact k4
  ·have e1 : cur = out := by
    cases fu with
    | zero => exact k1
    | succ f' => rw [Mg.sortG, if_neg hk] at k1; exact k1
   subst e1
   exact dn (.v 15 lc <| .v 16 (bf (show ¬ (k : Int) < (cur.length : Nat) by omega)) .nil) [0, 1, 2, 3]
end Go.Proofs.YtlkhneiccjhgdaaGreat
