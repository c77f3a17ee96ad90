import Derived.Test.YtfbdkjonjpanfaaGreatDoorWktF
set_option linter.unusedVariables false
set_option linter.unusedSimpArgs false
namespace Go.Proofs.YtfbdkjonjpanfaaGreatDoor
open Go.RowKit Go.Rg
attribute [local go_sem] Oper.semAt_some

theorem bodyF_one (R : Nat) (s : ByteArray) (hs : s.size ≤ maxLen) : BodyF R s 53 (Wk.one s.data.toList) :=
  ⟨fun args w => enters_of Tryz.func53 (by kernel_rfl) rfl args w, Wk.one_len _, fun z w h _ => wone_any R s z w hs h⟩
theorem bodyF_list (R : Nat) (s : ByteArray) (hs : s.size ≤ maxLen) : BodyF R s 54 (Wk.list s.data.toList) :=
  ⟨fun args w => enters_of Tryz.func54 (by kernel_rfl) rfl args w, Wk.list_len _, fun z w h hle => wlist_any R s z w hs h hle⟩

def intsN (l : List Nat) : List Value := l.map fun (n : Nat) => .int .i64 (n : Int)

/-- a geometry's lists and sizes, as they lie in memory -/
def BodyR (R : Nat) (w : World) (v u : Value) (b : List (List Wk.Pr) × List Nat) : Prop :=
  ∃ vs, RdT 39 w v b.1.length vs ∧ rdsL R w vs b.1 ∧ RdT 3 w u b.2.length (intsN b.2)

theorem body_results (X : World) (b : Nat) (v x : Value) (a : Act) (h0 : a.tmps[4]?.getD undef = .pointer (some ⟨b + 1, 0, none⟩)) (h1 : a.tmps[5]?.getD undef = .pointer (some ⟨b + 1 + 1, 0, none⟩))
    (k0 : X.cell? ⟨b + 1, 0, none⟩ = some v) (k1 : X.cell? ⟨b + 1 + 1, 0, none⟩ = some x) :
    (results Tryz.f35 a.tmps).run Tryz.prog X = .ok (.tuple #[v, x]) X := by
  simp [results, Tryz.results35, go_sem, h0, h1, k0, k1]

theorem pair_form {R : Nat} {w : World} {T : TypeId} {v : Value} {n : Nat} {xs : List Value} (h : RdT T w v n xs) : ∃ a c, v = .slice a n c := by
  rcases h with ⟨rfl, rfl, _⟩ | ⟨g, off, cap, cs, fz, rfl, _⟩ <;> exact ⟨_, _, rfl⟩

theorem BodyR.keep {R : Nat} {w w' : World} {v u : Value} {b : List (List Wk.Pr) × List Nat} (h : BodyR R w v u b) (h1 : KeepT 39 w w') (h2 : KeepT 77 w w') (h3 : KeepT 3 w w') : BodyR R w' v u b := by
  obtain ⟨vs, a1, a2, a3⟩ := h
  exact ⟨vs, a1.keep h1, a2.keep h2, a3.keep h3⟩

theorem body_store {R b : Nat} {w X : World} {s : ByteArray} {z : Wk.St} {x y v u : Value} {res : List (List Wk.Pr) × List Nat} (hq1 : Blk X (b + 1) [x] 30) (hq2 : Blk X (b + 1 + 1) [y] 31) (hv : BodyR R X v u res) (hz : Rd X R s z) (hu : Upd R w X) (hb : b = w.heap.size) (hRb : R < b) :
    ((X.setCell ⟨b + 1, 0, none⟩ v).setCell ⟨b + 1 + 1, 0, none⟩ u).cell? ⟨b + 1, 0, none⟩ = some v ∧ ((X.setCell ⟨b + 1, 0, none⟩ v).setCell ⟨b + 1 + 1, 0, none⟩ u).cell? ⟨b + 1 + 1, 0, none⟩ = some u ∧
    BodyR R ((X.setCell ⟨b + 1, 0, none⟩ v).setCell ⟨b + 1 + 1, 0, none⟩ u) v u res ∧ Rd ((X.setCell ⟨b + 1, 0, none⟩ v).setCell ⟨b + 1 + 1, 0, none⟩ u) R s z ∧ Upd R w ((X.setCell ⟨b + 1, 0, none⟩ v).setCell ⟨b + 1 + 1, 0, none⟩ u) := by
  have r1 := (hq1.set 0 v).other ⟨b + 1 + 1, 0, none⟩ (by show _ ≠ b + 1 + 1; omega) u
  have q2 := (hq2.other ⟨b + 1, 0, none⟩ (by show _ ≠ b + 1; omega) v)
  have r2 := q2.set 0 u
  have kp : ∀ T, 30 ≠ T → 31 ≠ T → KeepT T X ((X.setCell ⟨b + 1, 0, none⟩ v).setCell ⟨b + 1 + 1, 0, none⟩ u) := fun T h1 h2 => (KeepT.set ⟨b + 1, 0, none⟩ hq1 h1 v).trans (KeepT.set ⟨b + 1 + 1, 0, none⟩ q2 h2 u)
  refine ⟨r1.cell (j := 0) rfl, r2.cell (j := 0) rfl, hv.keep (kp _ (by decide) (by decide)) (kp _ (by decide) (by decide)) (kp _ (by decide) (by decide)), ?_, ?_⟩
  · exact (hz.set_new _ (by show R < b + 1; omega) _).set_new _ (by show R < b + 1 + 1; omega) _
  · exact (hu.setNew ⟨b + 1, 0, none⟩ (by show _ ≤ b + 1; omega) _).setNew ⟨b + 1 + 1, 0, none⟩ (by show _ ≤ b + 1 + 1; omega) _

theorem info_int : (Tryz.prog.info? 3).map (fun i => (i.zero, i.size, i.bytes)) = some (some (.int .i64 0), 1, 8) := by kernel_rfl

/-- what body keeps in memory between its rounds -/
def polyM (R : Nat) (w w1 : World) (acc : List (List (List Wk.Pr))) (X : World) : Prop :=
  Upd R w X ∧ Blk X w.heap.size [.pointer (some ⟨R, 0, none⟩)] 66 ∧ ∃ v u vs, Blk X (w.heap.size + 1) [v] 30 ∧ Blk X (w.heap.size + 1 + 1) [u] 31 ∧
  X.ownsRow w1.heap.size 39 1 v acc.flatten.length vs ∧ rdsL R X vs acc.flatten ∧ X.ownsRow w1.heap.size 3 1 u acc.length (intsN (acc.map List.length)) ∧ acc.flatten.length ≤ acc.length * 1000001

theorem polyM_mv {R : Nat} {w w1 X Y : World} {acc : List (List (List Wk.Pr))} (hR : R < w.heap.size) (hw : w.heap.size + 3 ≤ w1.heap.size) (h : polyM R w w1 acc X) (hx : Mv R w1.heap.size X Y) : polyM R w w1 acc Y := by
  obtain ⟨h1, h2, v, u, vs, h3, h4, h5, h6, h7, h8⟩ := h
  exact ⟨⟨hx.os.trans h1.os, hx.tape.trans h1.tape, hx.output.trans h1.output, Nat.le_trans h1.size hx.size, fun k hk hl => (hx.low k hk (by omega)).trans (h1.same k hk hl)⟩, h2.mv hx (by omega), v, u, vs, h3.mv hx (by omega), h4.mv hx (by omega), own_mv h5 hx (by omega), h6.mv hx, own_mv h7 hx (by omega), h8⟩

/-- while the two rows of body grow -/
structure PolyI (R B e0 : Nat) (s : ByteArray) (z5 : Wk.St) (w Wb w5 : World) (S : Nat → Prop) (v6 : Value) (n6 : Nat) (vs6 : List Value) (cv cu v u : Value) (n : Nat) (vs : List Value) (m : Nat) (us : List Value) (f6 : Bool) (q : Option Value) (X : World) : Prop where
  upd : Upd R w X
  rd : Rd X R s z5
  box : Blk X w.heap.size [.pointer (some ⟨R, 0, none⟩)] 66
  b4 : Blk X (w.heap.size + 1) [cv] 30
  b5 : Blk X (w.heap.size + 1 + 1) [cu] 31
  o4 : X.ownsRow B 39 1 v n vs
  o5 : X.ownsRow B 3 1 u m us
  kp : KeepT 77 w5 X
  eff : Eff e0 S Wb X
  size : B ≤ X.heap.size
  e6 : f6 = true → RdT 39 X v6 n6 vs6
  e7 : ∀ x, q = some x → RdT 3 X x 1 [.int .i64 (n6 : Int)]

section
variable {R B e0 : Nat} {s : ByteArray} {z5 : Wk.St} {w Wb w5 : World} {S : Nat → Prop} {v6 : Value} {n6 : Nat} {vs6 : List Value} {cv cu v u : Value} {n : Nat} {vs : List Value} {m : Nat} {us : List Value} {f6 : Bool} {q : Option Value} {X Y : World}

theorem own_keep {X Y : World} {e base size n : Nat} {v : Value} {xs : List Value} (h : X.ownsRow base e size v n xs) (hx : KeepT e X Y) : Y.ownsRow base e size v n xs := by
  refine ⟨h.1, ?_⟩
  rcases h.2 with h2 | ⟨g, cap, cur, hv, hb, hg, r⟩
  · exact .inl h2
  · exact .inr ⟨g, cap, cur, hv, hb, hx _ _ _ hg, r⟩

theorem PolyI.appA (h : PolyI R B e0 s z5 w Wb w5 S v6 n6 vs6 cv cu v u n vs m us f6 q X) (hR : R < w.heap.size) (hB : w.heap.size + 3 ≤ B) (hS : ∀ k, S k → w.heap.size + 2 < k ∧ k < B) {v' : Value} {n' : Nat} {vs' : List Value} (ho : Y.ownsRow B 39 1 v' n' vs') (hg : X.grownBy Y v.ownBlock) :
    PolyI R B e0 s z5 w Wb w5 S v6 n6 vs6 cv cu v' u n' vs' m us false q Y := by
  have hrow : ∀ g, v.ownBlock = some g → B ≤ g := fun g e => (h.o4.lt g e).1
  exact ⟨h.upd.grown hg (fun g e => by have := hrow g e; omega), h.rd.grown hg (fun g e => by have := hrow g e; omega), h.box.grown hg (fun e => by have := hrow _ e.symm; omega), h.b4.grown hg (fun e => by have := hrow _ e.symm; omega), h.b5.grown hg (fun e => by have := hrow _ e.symm; omega),
    ho, own_keep h.o5 (.grown h.o4 (by decide) hg), h.kp.trans (.grown h.o4 (by decide) hg), Eff.grown h.eff hg (fun k hk => by have := hS k hk; have := h.size; omega) (fun g e hk => by have := hrow g e; have := hS g hk; omega) (fun g o e ho => own_cells h.o4 e ho), Nat.le_trans h.size hg.size, (fun e => by cases e), fun x e => (h.e7 x e).keep (.grown h.o4 (by decide) hg)⟩

theorem PolyI.appB (h : PolyI R B e0 s z5 w Wb w5 S v6 n6 vs6 cv cu v u n vs m us f6 q X) (hR : R < w.heap.size) (hB : w.heap.size + 3 ≤ B) (hS : ∀ k, S k → w.heap.size + 2 < k ∧ k < B) {v' : Value} {n' : Nat} {vs' : List Value} (ho : Y.ownsRow B 3 1 v' n' vs') (hg : X.grownBy Y u.ownBlock) :
    PolyI R B e0 s z5 w Wb w5 S v6 n6 vs6 cv cu v v' n vs n' vs' f6 none Y := by
  have hrow : ∀ g, u.ownBlock = some g → B ≤ g := fun g e => (h.o5.lt g e).1
  exact ⟨h.upd.grown hg (fun g e => by have := hrow g e; omega), h.rd.grown hg (fun g e => by have := hrow g e; omega), h.box.grown hg (fun e => by have := hrow _ e.symm; omega), h.b4.grown hg (fun e => by have := hrow _ e.symm; omega), h.b5.grown hg (fun e => by have := hrow _ e.symm; omega),
    own_keep h.o4 (.grown h.o5 (by decide) hg), ho, h.kp.trans (.grown h.o5 (by decide) hg), Eff.grown h.eff hg (fun k hk => by have := hS k hk; have := h.size; omega) (fun g e hk => by have := hrow g e; have := hS g hk; omega) (fun g o e ho => own_cells h.o5 e ho), Nat.le_trans h.size hg.size, fun e => (h.e6 e).keep (.grown h.o5 (by decide) hg), (fun x e => by cases e)⟩

theorem PolyI.new (h : PolyI R B e0 s z5 w Wb w5 S v6 n6 vs6 cv cu v u n vs m us f6 q X) (hS : ∀ k, S k → w.heap.size + 2 < k ∧ k < B) :
    PolyI R B e0 s z5 w Wb w5 S v6 n6 vs6 cv cu v u n vs m us f6 (some (.slice (some ⟨X.heap.size, 0, none⟩) 1 1)) (X.alloc (.cells #[.int .i64 (n6 : Int)] 3)) :=
  ⟨h.upd.alloc _, h.rd.alloc_ _, h.box.alloc _, h.b4.alloc _, h.b5.alloc _, own_keep h.o4 (.alloc _), own_keep h.o5 (.alloc _), h.kp.trans (.alloc _), h.eff.alloc (fun k hk => by have := hS k hk; have := h.size; omega) _, by have := h.size; simp; omega, fun e => (h.e6 e).keep (.alloc _),
    fun x e => by cases e; exact RdT.new [.int .i64 (n6 : Int)] 3 1 1 (by decide) (by decide)⟩

theorem PolyI.setA (h : PolyI R B e0 s z5 w Wb w5 S v6 n6 vs6 cv cu v u n vs m us f6 q X) (hR : R < w.heap.size) (hB : w.heap.size + 3 ≤ B) (hS : ∀ k, S k → w.heap.size + 2 < k ∧ k < B) (cv' : Value) :
    PolyI R B e0 s z5 w Wb w5 S v6 n6 vs6 cv' cu v u n vs m us f6 q (X.setCell ⟨w.heap.size + 1, 0, none⟩ cv') :=
  have kp : ∀ T, 30 ≠ T → KeepT T X (X.setCell ⟨w.heap.size + 1, 0, none⟩ cv') := fun T h1 => (KeepT.set ⟨w.heap.size + 1, 0, none⟩ h.b4 h1 cv')
  ⟨h.upd.setNew ⟨w.heap.size + 1, 0, none⟩ (Nat.le_succ _) _, h.rd.set_new _ (by show R < w.heap.size + 1; omega) _, h.box.other _ (by show w.heap.size ≠ w.heap.size + 1; omega) _, h.b4.set 0 _, h.b5.other _ (by show w.heap.size + 1 + 1 ≠ w.heap.size + 1; omega) _,
    own_keep h.o4 (kp _ (by decide)), own_keep h.o5 (kp _ (by decide)), h.kp.trans (kp _ (by decide)), Eff.setCell h.eff _ (fun hk => by have := (hS _ hk).1; simp only at this; omega) _, by have := h.size; simpa [World.setCell] using this, fun e => (h.e6 e).keep (kp _ (by decide)), fun x e => (h.e7 x e).keep (kp _ (by decide))⟩

theorem PolyI.setB (h : PolyI R B e0 s z5 w Wb w5 S v6 n6 vs6 cv cu v u n vs m us f6 q X) (hR : R < w.heap.size) (hB : w.heap.size + 3 ≤ B) (hS : ∀ k, S k → w.heap.size + 2 < k ∧ k < B) (cu' : Value) :
    PolyI R B e0 s z5 w Wb w5 S v6 n6 vs6 cv cu' v u n vs m us f6 q (X.setCell ⟨w.heap.size + 1 + 1, 0, none⟩ cu') :=
  have kp : ∀ T, 31 ≠ T → KeepT T X (X.setCell ⟨w.heap.size + 1 + 1, 0, none⟩ cu') := fun T h1 => (KeepT.set ⟨w.heap.size + 1 + 1, 0, none⟩ h.b5 h1 cu')
  ⟨h.upd.setNew ⟨w.heap.size + 1 + 1, 0, none⟩ (by show _ ≤ w.heap.size + 1 + 1; omega) _, h.rd.set_new _ (by show R < w.heap.size + 1 + 1; omega) _, h.box.other _ (by show w.heap.size ≠ w.heap.size + 1 + 1; omega) _, h.b4.other _ (by show w.heap.size + 1 ≠ w.heap.size + 1 + 1; omega) _, h.b5.set 0 _,
    own_keep h.o4 (kp _ (by decide)), own_keep h.o5 (kp _ (by decide)), h.kp.trans (kp _ (by decide)), Eff.setCell h.eff _ (fun hk => by have := (hS _ hk).1; simp only at this; omega) _, by have := h.size; simpa [World.setCell] using this, fun e => (h.e6 e).keep (kp _ (by decide)), fun x e => (h.e7 x e).keep (kp _ (by decide))⟩
end


section
variable {R B e0 : Nat} {s : ByteArray} {z5 : Wk.St} {w Wb w5 : World} {S : Nat → Prop} {v6 : Value} {n6 : Nat} {vs6 : List Value} {cv cu v u : Value} {n : Nat} {vs : List Value} {m : Nat} {us : List Value} {f6 : Bool} {q : Option Value} {X Y : World}
theorem PolyI.drew (h : PolyI R B e0 s z5 w Wb w5 S v6 n6 vs6 cv cu v u n vs m us f6 q X) : PolyI R B e0 s z5 w Wb w5 S v6 n6 vs6 cv cu v u n vs m us f6 q X.drew :=
  ⟨h.upd.drew, h.rd.upd_ ((Below.refl _ _).drew), h.box, h.b4, h.b5, h.o4, h.o5, h.kp, h.eff.drew, h.size, h.e6, h.e7⟩

theorem poly_fin {acc : List (List (List Wk.Pr))} {rl : List (List Wk.Pr)} {w2 : World} {M : Nat} (hM : acc.flatten.length = M) (h : PolyI R w2.heap.size e0 s z5 w Wb w5 S v6 n6 vs6 v u v u (M + rl.length) (vs ++ vs6) (acc.length + 1) (intsN (acc.map List.length) ++ [.int .i64 (rl.length : Int)]) f6 q X)
    (h6 : rdsL R w5 vs acc.flatten) (h7 : rdsL R w5 vs6 rl) (hl : M ≤ acc.length * 1000001) (hr : rl.length ≤ 1000001) : polyM R w w2 (acc ++ [rl]) X := by
  subst hM
  refine ⟨h.upd, h.box, v, u, vs ++ vs6, h.b4, h.b5, ?_, ?_, ?_, ?_⟩
  · have := h.o4; simpa [List.flatten_append] using this
  · have := (h6.append h7).keep h.kp; simpa [List.flatten_append] using this
  · have := h.o5; simpa [intsN] using this
  · simp only [List.flatten_append, List.length_append, List.flatten_cons, List.flatten_nil, List.append_nil, List.length_cons, List.length_nil]; omega
end

theorem Wk.lists_size (s : Lx.Str) (F : Wk.St → Wk.St × List Wk.Pr) (hF : ∀ z, (F z).1.l.length ≤ z.l.length) (z : Wk.St) : (Wk.lists s F z).2.length ≤ z.l.length + 1 := by
  unfold Wk.lists Wk.each
  have h1 := Wk.eachF_size s F hF ((Wk.take s z 3).1.l.length + 1) (Wk.take s z 3).1
  have h2 := Wk.take_len s z 3
  omega
end Go.Proofs.YtfbdkjonjpanfaaGreatDoor
