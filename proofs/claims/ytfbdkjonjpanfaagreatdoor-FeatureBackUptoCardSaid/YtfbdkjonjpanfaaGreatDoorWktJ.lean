import Derived.Test.YtfbdkjonjpanfaaGreatDoorWktI
import Derived.Deep.LoopGhost
import Derived.BigFrame
set_option linter.unusedVariables false
set_option linter.unusedSimpArgs false
namespace Go.Proofs.YtfbdkjonjpanfaaGreatDoor
open Go.RowKit Go.Rg
attribute [local go_sem] Oper.semAt_some

theorem info_geo : (Tryz.prog.info? 33).map (fun i => (i.zero, i.size, i.bytes)) = some (some (.agg #[.int .i64 0, .int .i64 0, .slice none 0 0, .slice none 0 0]), 4, 64) := by kernel_rfl

/-- these cells are those geometries -/
def rdsG (R : Nat) (X : World) : List Value → List Wk.Geo → Prop
  | cs, [] => cs = []
  | cs, g :: gs => ∃ v u ds, cs = [.int .i64 (g.kind : Int), .int .i64 (g.level : Int), v, u] ++ ds ∧ BodyR R X v u (g.lists, g.sizes) ∧ rdsG R X ds gs
theorem rdsG.keep {R : Nat} {X Y : World} (h1 : KeepT 39 X Y) (h2 : KeepT 77 X Y) (h3 : KeepT 3 X Y) : ∀ {gs : List Wk.Geo} {cs : List Value}, rdsG R X cs gs → rdsG R Y cs gs
  | [], cs, h => h
  | g :: gs, cs, ⟨v, u, ds, a, b, c⟩ => ⟨v, u, ds, a, b.keep h1 h2 h3, rdsG.keep h1 h2 h3 c⟩
theorem rdsG.append {R : Nat} {X : World} {es : List Value} {hs : List Wk.Geo} (hh : rdsG R X es hs) : ∀ {gs : List Wk.Geo} {cs : List Value}, rdsG R X cs gs → rdsG R X (cs ++ es) (gs ++ hs)
  | [], cs, h => by cases h; exact hh
  | g :: gs, cs, ⟨v, u, ds, a, b, c⟩ => ⟨v, u, ds ++ es, by rw [a, List.append_assoc], b, rdsG.append hh c⟩
theorem rdsG.len {R : Nat} {X : World} : ∀ {gs : List Wk.Geo} {cs : List Value}, rdsG R X cs gs → cs.length = gs.length * 4
  | [], cs, h => by cases h; rfl
  | g :: gs, cs, ⟨v, u, ds, a, b, c⟩ => by rw [a]; simp [rdsG.len c]; omega
theorem BodyR.one {R : Nat} {X : World} {v u : Value} {b : List (List Wk.Pr) × List Nat} (h : BodyR R X v u b) : (∃ a n c, v = .slice a n c) ∧ ∃ a n c, u = .slice a n c := by
  obtain ⟨vs, h1, _, h2⟩ := h
  obtain ⟨a, c, rfl⟩ := pair_form (R := R) h1
  obtain ⟨a', c', rfl⟩ := pair_form (R := R) h2
  exact ⟨⟨_, _, _, rfl⟩, _, _, _, rfl⟩

theorem own_same {w w' : World} {base e size n : Nat} {v : Value} {xs : List Value} (h : w.ownsRow base e size v n xs) (hs : ∀ g, v.ownBlock = some g → w'.heap[g]? = w.heap[g]?) : w'.ownsRow base e size v n xs := by
  refine ⟨h.1, ?_⟩
  rcases h.2 with h2 | ⟨g, cap, cur, rfl, hb, hg, r⟩
  · exact .inl h2
  · exact .inr ⟨g, cap, cur, rfl, hb, (hs g rfl).trans hg, r⟩

/-- what geos keeps in memory between its rounds -/
def geosM (R : Nat) (s : ByteArray) (w : World) (acc : List Wk.Geo) (z : Wk.St) (v : Value) (X : World) : Prop :=
  Upd R w X ∧ Rd X R s z ∧ ∃ cs, X.ownsRow w.heap.size 33 4 v acc.length cs ∧ rdsG R X cs acc

theorem geosM.upd {R : Nat} {s : ByteArray} {w X Y : World} {acc : List Wk.Geo} {z z' : Wk.St} {v : Value} (h : geosM R s w acc z v X) (hR : R < w.heap.size) (hu : Upd R X Y) (hz : Rd Y R s z') : geosM R s w acc z' v Y := by
  obtain ⟨h1, h2, cs, h3, h4⟩ := h
  exact ⟨h1.trans hu, hz, cs, own_upd h3 hu hR, h4.keep (keep_rd h2 (by decide) hu) (keep_rd h2 (by decide) hu) (keep_rd h2 (by decide) hu)⟩

theorem geos_app {R : Nat} {s : ByteArray} {w X Y : World} {acc : List Wk.Geo} {z : Wk.St} {v v' bv bu : Value} {cs : List Value} {g : Wk.Geo} (hR : R < w.heap.size) (m1 : Upd R w X) (m2 : Rd X R s z) (m3 : X.ownsRow w.heap.size 33 4 v acc.length cs) (m4 : rdsG R X cs acc) (hb : BodyR R X bv bu (g.lists, g.sizes))
    (ho : Y.ownsRow w.heap.size 33 4 v' (acc.length + 1) (cs ++ [.int .i64 (g.kind : Int), .int .i64 (g.level : Int), bv, bu])) (hg : X.grownBy Y v.ownBlock) : geosM R s w (acc ++ [g]) z v' Y := by
  have hrow : ∀ k, v.ownBlock = some k → w.heap.size ≤ k := fun k e => (m3.lt k e).1
  refine ⟨m1.grown hg hrow, m2.grown hg (fun k e => by have := hrow k e; omega), _, by rw [List.length_append]; exact ho, ?_⟩
  have h0 : rdsG R X [.int .i64 (g.kind : Int), .int .i64 (g.level : Int), bv, bu] [g] := ⟨bv, bu, [], rfl, hb, rfl⟩
  have h1 : rdsG R X (cs ++ [.int .i64 (g.kind : Int), .int .i64 (g.level : Int), bv, bu]) (acc ++ [g]) := rdsG.append h0 m4
  exact h1.keep (.grown m3 (by decide) hg) (.grown m3 (by decide) hg) (.grown m3 (by decide) hg)

theorem geosM.alloc {R : Nat} {s : ByteArray} {w X : World} {acc : List Wk.Geo} {z : Wk.St} {v : Value} (h : geosM R s w acc z v X) (hR : R < w.heap.size) (o : Obj) : geosM R s w acc z v (X.alloc o) :=
  h.upd hR ((Upd.refl R X).alloc o) (h.2.1.alloc_ o)

theorem geosM.set {R : Nat} {s : ByteArray} {w X : World} {acc : List Wk.Geo} {z : Wk.St} {v : Value} {gc : List Value} (h : geosM R s w acc z v X) (hR : R < w.heap.size) (a : Addr) (ha : w.heap.size ≤ a.block) (hne : v.ownBlock ≠ some a.block) (hB : Blk X a.block gc 33) (x : Value) : geosM R s w acc z v (X.setCell a x) := by
  obtain ⟨h1, h2, cs, h3, h4⟩ := h
  exact ⟨h1.setNew a ha x, h2.set_new a (by omega) x, cs, own_same h3 (fun g e => Below.heap_setCell _ _ _ _ (fun e2 => hne (by rw [e, e2]))), h4.keep (.set a hB (by decide) x) (.set a hB (by decide) x) (.set a hB (by decide) x)⟩

namespace Wk
open Lx
def geosEnd (s : Str) (n lev : Nat) (zb : St) (g : Geo) : St × List Geo :=
  if (closing s lev zb).2.2 then ((geosF s n (closing s lev zb).1 (closing s lev zb).2.1).1, g :: (geosF s n (closing s lev zb).1 (closing s lev zb).2.1).2) else ((closing s lev zb).1, [g])
theorem geosF_bad (s : Str) (n : Nat) (z : St) (lev : Nat) (h : z.bad = true) : geosF s n z lev = (z, []) := by
  cases n with
  | zero => rfl
  | succ n => unfold geosF; rw [if_pos h]
theorem geosF_wrong (s : Str) (n : Nat) (z : St) (lev : Nat) (h : z.bad = false) (hk : kind (word s z) = 0 ∨ (kind (word s z) = 7 ∧ 32 ≤ lev)) : geosF s (n + 1) z lev = (fail z, []) := by
  unfold geosF; rw [if_neg (by rw [h]; simp)]
  simp only
  rw [if_pos hk]
theorem geosF_coll (s : Str) (n : Nat) (z : St) (lev : Nat) (h : z.bad = false) (hk : ¬ (kind (word s z) = 0 ∨ (kind (word s z) = 7 ∧ 32 ≤ lev))) (h7 : kind (word s z) = 7) (he : (none s (take s z 1).1).2 = false) :
    geosF s (n + 1) z lev = ((geosF s n (take s (none s (take s z 1).1).1 3).1 (lev + 1)).1, ⟨7, lev, [], []⟩ :: (geosF s n (take s (none s (take s z 1).1).1 3).1 (lev + 1)).2) := by
  conv => lhs; unfold geosF
  rw [if_neg (by rw [h]; simp)]
  simp only
  rw [if_neg hk, if_pos ⟨he, h7⟩, h7]
theorem geosF_none (s : Str) (n : Nat) (z : St) (lev : Nat) (h : z.bad = false) (hk : ¬ (kind (word s z) = 0 ∨ (kind (word s z) = 7 ∧ 32 ≤ lev))) (he : (none s (take s z 1).1).2 = true) :
    geosF s (n + 1) z lev = geosEnd s n lev (none s (take s z 1).1).1 ⟨kind (word s z), lev, [], []⟩ := by
  conv => lhs; unfold geosF
  rw [if_neg (by rw [h]; simp)]
  simp only
  rw [if_neg hk, if_neg (by rw [he]; simp), if_pos he]
  rfl
theorem geosF_body (s : Str) (n : Nat) (z : St) (lev : Nat) (h : z.bad = false) (hk : ¬ (kind (word s z) = 0 ∨ (kind (word s z) = 7 ∧ 32 ≤ lev))) (h7 : kind (word s z) ≠ 7) (he : (none s (take s z 1).1).2 = false) :
    geosF s (n + 1) z lev = geosEnd s n lev (body s (kind (word s z)) (none s (take s z 1).1).1).1 ⟨kind (word s z), lev, (body s (kind (word s z)) (none s (take s z 1).1).1).2.1, (body s (kind (word s z)) (none s (take s z 1).1).1).2.2⟩ := by
  conv => lhs; unfold geosF
  rw [if_neg (by rw [h]; simp)]
  simp only
  rw [if_neg hk, if_neg (fun h => h7 h.2)]
  simp only [he, Bool.false_eq_true, if_false]
  rfl
theorem geos_stop {s : Str} {res : St × List Geo} {acc : List Geo} {geo : Geo} {n lev j : Nat} {zb zz : St} (hr : res = ((geosEnd s n lev zb geo).1, acc ++ (geosEnd s n lev zb geo).2)) (hc : closing s lev zb = (zz, j, false)) : res = (zz, acc ++ [geo]) := by
  rw [hr]; unfold geosEnd; rw [hc]; rfl
theorem geos_go {s : Str} {res : St × List Geo} {acc : List Geo} {geo : Geo} {n lev j : Nat} {zb zz : St} (hr : res = ((geosEnd s n lev zb geo).1, acc ++ (geosEnd s n lev zb geo).2)) (hc : closing s lev zb = (zz, j, true)) :
    res = ((geosF s n zz j).1, (acc ++ [geo]) ++ (geosF s n zz j).2) := by
  rw [hr]; unfold geosEnd; rw [hc]; simp
theorem closing_bad (s : Str) (j : Nat) (z : St) (h : z.bad = true) : closing s j z = (z, j, false) := by
  cases j with
  | zero => rfl
  | succ j => unfold closing; rw [if_pos h]
theorem closing_comma (s : Str) (j : Nat) (z : St) (h : z.bad = false) (hp : peek z 5 = true) : closing s (j + 1) z = ((take s z 5).1, j + 1, true) := by
  unfold closing; rw [if_neg (by rw [h]; simp), if_pos hp]
theorem closing_close (s : Str) (j : Nat) (z : St) (h : z.bad = false) (hp : peek z 5 = false) : closing s (j + 1) z = closing s j (take s z 4).1 := by
  conv => lhs; unfold closing
  rw [if_neg (by rw [h]; simp), if_neg (by rw [hp]; simp)]
theorem kind_stop (s : Str) (z : St) (h : kind (word s z) ≠ 0) : (take s z 1).1.l.length + 1 ≤ z.l.length := by
  cases hs : stop z 1 with
  | true => exact absurd (by unfold word; rw [if_pos hs]; decide) h
  | false => obtain ⟨t, r, hl, _, _, he⟩ := take_yes s z 1 hs; rw [he, hl]; simp
end Wk

set_option maxRecDepth 100000 in
set_option maxHeartbeats 4000000 in
theorem geos_any (R : Nat) (s : ByteArray) (z0 : Wk.St) (w : World) (hs : s.size ≤ maxLen) (h : Rd w R s z0) (hle : z0.l.length ≤ 1000000) :
    Calls Tryz.prog 20 #[.pointer (some ⟨R, 0, none⟩)] w fun e w' => ∃ v cs, e = .returned v ∧ RdT 33 w' v (Wk.geos s.data.toList z0).2.length cs ∧ rdsG R w' cs (Wk.geos s.data.toList z0).2 ∧ Rd w' R s (Wk.geos s.data.toList z0).1 ∧ Upd R w w' := by
  have hR := h.lt
  obtain ⟨res, hres⟩ : ∃ res, res = Wk.geos s.data.toList z0 := ⟨_, rfl⟩
  rw [← hres]
  have Hres := Lib.hid hres
  clear hres
  go_enter Tryz.func20, Tryz.ntmps20
  go_wp2_with fail
  go_step3
  go_wp2_with fail
  go_step3
  go_wp2_with fail
  go_loopg [3, 4] (z0.l.length + 1) (fun g s3 s4 wx => ∃ (acc : List Wk.Geo) (z : Wk.St) (lev : Nat), s4 = .int .i64 (lev : Int) ∧ lev ≤ 32 ∧ acc.length + g ≤ 1000001 ∧ (z.bad = false → z.l.length + 1 ≤ g) ∧ z.l.length ≤ 1000000 ∧ Hid (res = ((Wk.geosF s.data.toList g z lev).1, acc ++ (Wk.geosF s.data.toList g z lev).2)) ∧ Hid (geosM R s w acc z s3 wx))
  case atStart => exact ⟨[], z0, 0, rfl, by omega, by simp; omega, fun _ => Nat.le_refl _, hle, by rw [Hres.out]; unfold Hid Wk.geos; simp, Upd.refl _ _, h, [], World.ownsRow_nil _ _ _ _, rfl⟩
  case round =>
    obtain ⟨acc, z, lev, rfl, hlev, hN, hfu, hz6, Hr, Hm⟩ := hrel
    cases hb : z.bad with
    | true =>
      have hm := Hm.out
      obtain ⟨tv, hB, hrd⟩ := hm.2.1
      rw [hb] at hB
      have c2 := hB.cell (j := 2) rfl
      clear hB hrd hm
      go_wp2_with fail
      rw [Exit.noGoto_ret]
      go_ret
      obtain ⟨m1, m2, cs, m3, m4⟩ := Hm.out
      have he : res = (z, acc) := by rw [Hr.out, Wk.geosF_bad _ _ _ _ hb]; simp
      exact ⟨_, cs, rfl, by rw [he]; exact RdT.of_own m3, by rw [he]; exact m4, by rw [he]; exact m2, m1⟩
    | false =>
      obtain ⟨n, rfl⟩ : ∃ n, gk = n + 1 := ⟨gk - 1, by have := hfu hb; omega⟩
      have hm := Hm.out
      have hz := hm.2.1
      obtain ⟨tv, hB, hrd⟩ := hm.2.1
      rw [hb] at hB
      have c2 := hB.cell (j := 2) rfl
      have Hz := Lib.hid hz
      have HfuL := hfu hb
      clear hB hrd hm hz hfu
      go_wp2_with fail
      refine (wword_any R s z wr hs Hz.out).mono ?_
      rintro e w1 ⟨r, rfl, Hw, hrs, hb1⟩
      go_wp2_with fail
      refine (kind_any r w1 (by omega)).mono ?_
      rintro e w2 ⟨rfl, hb2⟩
      obtain ⟨kk, hkk⟩ : ∃ kk, kk = Wk.kind r.data.toList := ⟨_, rfl⟩
      rw [← hkk]
      have Hk : Hid (Wk.kind (Wk.word s.data.toList z) = kk) := by unfold Hid; rw [hkk, Hw.out]
      clear hkk
      have hb12 : Below wr.heap.size wr w2 := hb1.trans (hb2.mono hb1.size)
      have Hm2 : Hid (geosM R s w acc z u3 w2) := (Hm.out).upd hR (.of_below hb12) (Hz.out.upd_ hb12)
      clear hb1 hb2 hb12
      by_cases k0 : kk = 0
      · subst k0
        obtain ⟨tv2, hB2, hrd2⟩ := Hm2.out.2.1
        rw [hb] at hB2
        have c3 := hB2.cell (j := 2) rfl
        have f3 := hB2.frozen 2
        clear hB2 hrd2
        go_wp2_with fail
        rw [Exit.noGoto_ret]
        go_ret
        obtain ⟨m1, m2, cs, m3, m4⟩ := (Hm2.out).upd hR ((Upd.refl R w2).set 2 (.bool true)) Hm2.out.2.1.fail
        have he : res = (Wk.fail z, acc) := by rw [Hr.out, Wk.geosF_wrong _ _ _ _ hb (by rw [Hk.out]; omega)]; simp
        exact ⟨_, cs, rfl, by rw [he]; exact RdT.of_own m3, by rw [he]; exact m4, by rw [he]; exact m2, m1⟩
      by_cases h7 : kk = 7
      · by_cases h32 : 32 ≤ lev
        · subst h7
          obtain ⟨tv2, hB2, hrd2⟩ := Hm2.out.2.1
          rw [hb] at hB2
          have c3 := hB2.cell (j := 2) rfl
          have f3 := hB2.frozen 2
          clear hB2 hrd2
          go_wp2_with fail
          rw [Exit.noGoto_ret]
          go_ret
          obtain ⟨m1, m2, cs, m3, m4⟩ := (Hm2.out).upd hR ((Upd.refl R w2).set 2 (.bool true)) Hm2.out.2.1.fail
          have he : res = (Wk.fail z, acc) := by rw [Hr.out, Wk.geosF_wrong _ _ _ _ hb (by rw [Hk.out]; omega)]; simp
          exact ⟨_, cs, rfl, by rw [he]; exact RdT.of_own m3, by rw [he]; exact m4, by rw [he]; exact m2, m1⟩
        · subst h7
          go_wp2_with fail
          have hkn : Wk.kind (Wk.word s.data.toList z) ≠ 0 := by rw [Hk.out]; decide
          have hl3 := Wk.kind_stop s.data.toList z hkn
          refine (take_any R s z 1 w2 hs Hm2.out.2.1).mono ?_
          rintro e w3 ⟨x1, rfl, _, _, h3, hu3⟩
          obtain ⟨z1, hz1⟩ : ∃ z1, z1 = (Wk.take s.data.toList z 1).1 := ⟨_, rfl⟩
          rw [← hz1] at h3 hl3
          have Hz1 := Lib.hid hz1
          have Hm3 : Hid (geosM R s w acc z1 u3 w3) := Hm2.out.upd hR hu3 h3
          clear hz1 h3 hu3
          go_wp2_with fail
          have hR3 := Hm3.out.2.1.lt
          have hw3 := Hm3.out.1.size
          have hG := Blk.new w3 [.int .i64 ((7 : Nat) : Int), .int .i64 (lev : Int), .slice none 0 0, .slice none 0 0] 33
          have hown3 : ∀ g, u3.ownBlock = some g → g < w3.heap.size := by obtain ⟨_, _, cs, m3, _⟩ := Hm3.out; exact fun g e => (m3.lt g e).2
          refine (wnone_any R s z1 _ hs (Hm3.out.2.1.alloc_ _)).mono ?_
          rintro e w5 ⟨rfl, h5, hu5⟩
          have hG5 := hG.upd hu5 (by omega)
          have hs5 : w3.heap.size + 1 ≤ w5.heap.size := by have := hu5.size; simpa using this
          obtain ⟨z2, hz2⟩ : ∃ z2, z2 = (Wk.none s.data.toList z1).1 := ⟨_, rfl⟩
          have hl5 : z2.l.length ≤ z1.l.length := by rw [hz2]; exact Wk.none_len _ _
          rw [← hz2] at h5
          have Hz2 := Lib.hid hz2
          have Hm5 : Hid (geosM R s w acc z2 u3 w5) := (Hm3.out.alloc hR _).upd hR hu5 h5
          have k0' := hG5.cell (j := 0) rfl
          have k1' := hG5.cell (j := 1) rfl
          have k2' := hG5.cell (j := 2) rfl
          have k3' := hG5.cell (j := 3) rfl
          have f2' := hG5.frozen 2
          have f3' := hG5.frozen 3
          clear hz2 h5 hu5 hG
          cases hn : (Wk.none s.data.toList z1).2 with
          | true =>
            obtain ⟨m1, m2, cs, m3, m4⟩ := (Hm5.out).alloc hR (.cells #[.int .i64 ((7 : Nat) : Int), .int .i64 (lev : Int), .slice none 0 0, .slice none 0 0] 33)
            have M1 := Lib.hid m1
            have M2 := Lib.hid m2
            have M3 := Lib.hid m3
            have M4 := Lib.hid m4
            clear m1 m2 m3 m4
            go_wp2_with (at_builtin; refine wpList_append2 _ rfl _ _ 23 rfl w.heap.size 33 (.agg #[.int .i64 0, .int .i64 0, .slice none 0 0, .slice none 0 0]) 4 64 Tryz.underlying23 info_geo rfl (by decide) u3 acc.length _ rfl M3.out _ _ 1 [.int .i64 ((7 : Nat) : Int), .int .i64 (lev : Int), .slice none 0 0, .slice none 0 0] rfl (reads_new _ _ _ 1 1 (by decide) (by decide)) rfl (by simp [Value.oneCell']) (by unfold maxLen; omega) (by omega) M1.out.size ?_)
            intro v8 w8 hown8 hgrow8 hmov8
            have HB8 : Hid (BodyR R (w5.alloc (.cells #[.int .i64 ((7 : Nat) : Int), .int .i64 (lev : Int), .slice none 0 0, .slice none 0 0] 33)) (.slice none 0 0) (.slice none 0 0) ([], [])) := ⟨[], RdT.nil _ _, trivial, RdT.nil _ _⟩
            obtain ⟨a8, c8, rfl⟩ := own_form hown8
            have HM8 : Hid (geosM R s w (acc ++ [(⟨(7 : Nat), lev, [], []⟩ : Wk.Geo)]) z2 (.slice a8 (acc.length + 1) c8) w8) := geos_app hR M1.out M2.out M3.out M4.out HB8.out hown8 hgrow8
            have Hr8 : Hid (res = ((Wk.geosEnd s.data.toList n lev z2 (⟨(7 : Nat), lev, [], []⟩ : Wk.Geo)).1, acc ++ (Wk.geosEnd s.data.toList n lev z2 (⟨(7 : Nat), lev, [], []⟩ : Wk.Geo)).2)) := by
              unfold Hid; rw [Hr.out, Wk.geosF_none _ _ _ _ hb (by rw [Hk.out]; omega) (by rw [← Hz1.out]; exact hn), Hk.out, ← Hz1.out, ← Hz2.out]
            have hzb : z2.l.length + 1 ≤ n := by omega
            clear hown8 hgrow8 hmov8 hn hG5 k0' k1' k2' k3' f2' f3'
            go_wp2_with fail
            go_loopg [4] lev (fun g s4 wy => ∃ zz : Wk.St, s4 = .int .i64 (g : Int) ∧ zz.l.length ≤ z2.l.length ∧ g ≤ lev ∧ Hid (Wk.closing s.data.toList lev z2 = Wk.closing s.data.toList g zz) ∧ Hid (geosM R s w (acc ++ [(⟨(7 : Nat), lev, [], []⟩ : Wk.Geo)]) zz (.slice a8 (acc.length + 1) c8) wy))
            case atStart => exact ⟨z2, rfl, Nat.le_refl _, Nat.le_refl _, rfl, HM8⟩
            case round =>
              obtain ⟨zz, rfl, hzl, hgl, Hc, HM⟩ := hrel
              obtain ⟨tvz, hBz, _⟩ := HM.out.2.1
              cases gk with
              | zero =>
                clear hBz
                go_wp2_with fail
                rw [Exit.noGoto_ret]
                go_ret
                obtain ⟨m1, m2, cs, m3, m4⟩ := HM.out
                have he : res = (zz, acc ++ [(⟨(7 : Nat), lev, [], []⟩ : Wk.Geo)]) := Wk.geos_stop Hr8.out Hc.out
                exact ⟨_, cs, rfl, by rw [he]; exact RdT.of_own m3, by rw [he]; exact m4, by rw [he]; exact m2, m1⟩
              | succ j =>
                cases hbz : zz.bad with
                | true =>
                  rw [hbz] at hBz
                  have cz := hBz.cell (j := 2) rfl
                  clear hBz
                  go_wp2_with fail
                  rw [Exit.noGoto_ret]
                  go_ret
                  obtain ⟨m1, m2, cs, m3, m4⟩ := HM.out
                  have he : res = (zz, acc ++ [(⟨(7 : Nat), lev, [], []⟩ : Wk.Geo)]) := Wk.geos_stop Hr8.out (Hc.out.trans (Wk.closing_bad _ _ _ hbz))
                  exact ⟨_, cs, rfl, by rw [he]; exact RdT.of_own m3, by rw [he]; exact m4, by rw [he]; exact m2, m1⟩
                | false =>
                  rw [hbz] at hBz
                  have cz := hBz.cell (j := 2) rfl
                  clear hBz
                  obtain ⟨wq, rfl⟩ : ∃ wq : World, wq = wr := ⟨_, rfl⟩
                  go_wp2_with fail
                  refine (peek_any R s zz 5 wq HM.out.2.1).mono ?_
                  rintro e w9 ⟨rfl, rfl⟩
                  cases hp : Wk.peek zz 5 with
                  | true =>
                    go_wp2_with fail
                    refine (take_any R s zz 5 wq hs HM.out.2.1).mono ?_
                    rintro e w10 ⟨x10, rfl, _, _, h10, hu10⟩
                    have HM10 : Hid (geosM R s w (acc ++ [(⟨(7 : Nat), lev, [], []⟩ : Wk.Geo)]) (Wk.take s.data.toList zz 5).1 (.slice a8 (acc.length + 1) c8) w10) := HM.out.upd hR hu10 h10
                    clear h10 hu10
                    go_wp2_with fail
                    go_roundg n
                    case measure => omega
                    case rel => exact ⟨acc ++ [(⟨(7 : Nat), lev, [], []⟩ : Wk.Geo)], (Wk.take s.data.toList zz 5).1, j + 1, by first | rfl | simp, by omega, by simp; omega, fun _ => by have := Wk.take_len s.data.toList zz 5; omega, by have := Wk.take_len s.data.toList zz 5; omega, Wk.geos_go Hr8.out (Hc.out.trans (Wk.closing_comma _ _ _ hbz hp)), HM10⟩
                  | false =>
                    go_wp2_with fail
                    refine (take_any R s zz 4 wq hs HM.out.2.1).mono ?_
                    rintro e w10 ⟨x10, rfl, _, _, h10, hu10⟩
                    have HM10 : Hid (geosM R s w (acc ++ [(⟨(7 : Nat), lev, [], []⟩ : Wk.Geo)]) (Wk.take s.data.toList zz 4).1 (.slice a8 (acc.length + 1) c8) w10) := HM.out.upd hR hu10 h10
                    clear h10 hu10
                    go_wp2_with fail
                    go_roundg j
                    case measure => omega
                    case rel => exact ⟨(Wk.take s.data.toList zz 4).1, by first | rfl | simp, by have := Wk.take_len s.data.toList zz 4; omega, by omega, Hc.out.trans (Wk.closing_close _ _ _ hbz hp), HM10⟩
          | false =>
            have hn3 := hn
            clear hn3
            go_wp2_with fail
            refine (take_any R s z2 3 w5 hs Hm5.out.2.1).mono ?_
            rintro e w6 ⟨x6, rfl, _, _, h6, hu6⟩
            have hG6 := hG5.upd hu6 (by omega)
            have Hm6 : Hid (geosM R s w acc (Wk.take s.data.toList z2 3).1 u3 w6) := Hm5.out.upd hR hu6 h6
            have n0' := hG6.cell (j := 0) rfl
            have n1' := hG6.cell (j := 1) rfl
            have n2' := hG6.cell (j := 2) rfl
            have n3' := hG6.cell (j := 3) rfl
            clear hG5 hG6 hu6 h6 k0' k1' k2' k3' f2' f3'
            obtain ⟨m1, m2, cs, m3, m4⟩ := (Hm6.out).alloc hR (.cells #[.int .i64 ((7 : Nat) : Int), .int .i64 (lev : Int), .slice none 0 0, .slice none 0 0] 33)
            have M1 := Lib.hid m1
            have M2 := Lib.hid m2
            have M3 := Lib.hid m3
            have M4 := Lib.hid m4
            clear m1 m2 m3 m4
            go_wp2_with (at_builtin; refine wpList_append2 _ rfl _ _ 23 rfl w.heap.size 33 (.agg #[.int .i64 0, .int .i64 0, .slice none 0 0, .slice none 0 0]) 4 64 Tryz.underlying23 info_geo rfl (by decide) u3 acc.length _ rfl M3.out _ _ 1 [.int .i64 ((7 : Nat) : Int), .int .i64 (lev : Int), .slice none 0 0, .slice none 0 0] rfl (reads_new _ _ _ 1 1 (by decide) (by decide)) rfl (by simp [Value.oneCell']) (by unfold maxLen; omega) (by omega) M1.out.size ?_)
            intro v8 w8 hown8 hgrow8 hmov8
            have HB8 : Hid (BodyR R (w6.alloc (.cells #[.int .i64 ((7 : Nat) : Int), .int .i64 (lev : Int), .slice none 0 0, .slice none 0 0] 33)) (.slice none 0 0) (.slice none 0 0) ([], [])) := ⟨[], RdT.nil _ _, trivial, RdT.nil _ _⟩
            obtain ⟨a8, c8, rfl⟩ := own_form hown8
            have HM8 : Hid (geosM R s w (acc ++ [(⟨7, lev, [], []⟩ : Wk.Geo)]) (Wk.take s.data.toList z2 3).1 (.slice a8 (acc.length + 1) c8) w8) := geos_app hR M1.out M2.out M3.out M4.out HB8.out hown8 hgrow8
            clear hown8 hgrow8 hmov8
            go_wp2_with fail
            go_roundg n
            case measure => omega
            case rel => exact ⟨acc ++ [(⟨7, lev, [], []⟩ : Wk.Geo)], (Wk.take s.data.toList z2 3).1, lev + 1, by first | rfl | simp, by omega, by simp; omega, fun _ => by have := Wk.take_len s.data.toList z2 3; omega, by have := Wk.take_len s.data.toList z2 3; omega, by unfold Hid; rw [Hr.out, Wk.geosF_coll _ _ _ _ hb (by rw [Hk.out]; omega) Hk.out (by rw [← Hz1.out]; exact hn), ← Hz1.out, ← Hz2.out]; simp, HM8⟩
      · have e0 : (kk == 0) = false := by simpa using k0
        have e7 : ((kk : Int) == 7) = false := by simpa using (show ¬ (kk : Int) = 7 by omega)
        obtain ⟨tv2, hB2, hrd2⟩ := Hm2.out.2.1
        rw [hb] at hB2
        have c3 := hB2.cell (j := 2) rfl
        have f3 := hB2.frozen 2
        clear hB2 hrd2
        go_wp2_with fail
        have hkn : Wk.kind (Wk.word s.data.toList z) ≠ 0 := by rw [Hk.out]; exact k0
        have hl3 := Wk.kind_stop s.data.toList z hkn
        refine (take_any R s z 1 w2 hs Hm2.out.2.1).mono ?_
        rintro e w3 ⟨x1, rfl, _, _, h3, hu3⟩
        obtain ⟨z1, hz1⟩ : ∃ z1, z1 = (Wk.take s.data.toList z 1).1 := ⟨_, rfl⟩
        rw [← hz1] at h3 hl3
        have Hz1 := Lib.hid hz1
        have Hm3 : Hid (geosM R s w acc z1 u3 w3) := Hm2.out.upd hR hu3 h3
        clear hz1 h3 hu3
        go_wp2_with fail
        have hR3 := Hm3.out.2.1.lt
        have hw3 := Hm3.out.1.size
        have hG := Blk.new w3 [.int .i64 (kk : Int), .int .i64 (lev : Int), .slice none 0 0, .slice none 0 0] 33
        have hown3 : ∀ g, u3.ownBlock = some g → g < w3.heap.size := by obtain ⟨_, _, cs, m3, _⟩ := Hm3.out; exact fun g e => (m3.lt g e).2
        refine (wnone_any R s z1 _ hs (Hm3.out.2.1.alloc_ _)).mono ?_
        rintro e w5 ⟨rfl, h5, hu5⟩
        have hG5 := hG.upd hu5 (by omega)
        have hs5 : w3.heap.size + 1 ≤ w5.heap.size := by have := hu5.size; simpa using this
        obtain ⟨z2, hz2⟩ : ∃ z2, z2 = (Wk.none s.data.toList z1).1 := ⟨_, rfl⟩
        have hl5 : z2.l.length ≤ z1.l.length := by rw [hz2]; exact Wk.none_len _ _
        rw [← hz2] at h5
        have Hz2 := Lib.hid hz2
        have Hm5 : Hid (geosM R s w acc z2 u3 w5) := (Hm3.out.alloc hR _).upd hR hu5 h5
        have k0' := hG5.cell (j := 0) rfl
        have k1' := hG5.cell (j := 1) rfl
        have k2' := hG5.cell (j := 2) rfl
        have k3' := hG5.cell (j := 3) rfl
        have f2' := hG5.frozen 2
        have f3' := hG5.frozen 3
        clear hz2 h5 hu5 hG
        cases hn : (Wk.none s.data.toList z1).2 with
        | true =>
          obtain ⟨m1, m2, cs, m3, m4⟩ := (Hm5.out).alloc hR (.cells #[.int .i64 (kk : Int), .int .i64 (lev : Int), .slice none 0 0, .slice none 0 0] 33)
          have M1 := Lib.hid m1
          have M2 := Lib.hid m2
          have M3 := Lib.hid m3
          have M4 := Lib.hid m4
          clear m1 m2 m3 m4
          go_wp2_with (at_builtin; refine wpList_append2 _ rfl _ _ 23 rfl w.heap.size 33 (.agg #[.int .i64 0, .int .i64 0, .slice none 0 0, .slice none 0 0]) 4 64 Tryz.underlying23 info_geo rfl (by decide) u3 acc.length _ rfl M3.out _ _ 1 [.int .i64 (kk : Int), .int .i64 (lev : Int), .slice none 0 0, .slice none 0 0] rfl (reads_new _ _ _ 1 1 (by decide) (by decide)) rfl (by simp [Value.oneCell']) (by unfold maxLen; omega) (by omega) M1.out.size ?_)
          intro v8 w8 hown8 hgrow8 hmov8
          have HB8 : Hid (BodyR R (w5.alloc (.cells #[.int .i64 (kk : Int), .int .i64 (lev : Int), .slice none 0 0, .slice none 0 0] 33)) (.slice none 0 0) (.slice none 0 0) ([], [])) := ⟨[], RdT.nil _ _, trivial, RdT.nil _ _⟩
          obtain ⟨a8, c8, rfl⟩ := own_form hown8
          have HM8 : Hid (geosM R s w (acc ++ [(⟨kk, lev, [], []⟩ : Wk.Geo)]) z2 (.slice a8 (acc.length + 1) c8) w8) := geos_app hR M1.out M2.out M3.out M4.out HB8.out hown8 hgrow8
          have Hr8 : Hid (res = ((Wk.geosEnd s.data.toList n lev z2 (⟨kk, lev, [], []⟩ : Wk.Geo)).1, acc ++ (Wk.geosEnd s.data.toList n lev z2 (⟨kk, lev, [], []⟩ : Wk.Geo)).2)) := by
            unfold Hid; rw [Hr.out, Wk.geosF_none _ _ _ _ hb (by rw [Hk.out]; omega) (by rw [← Hz1.out]; exact hn), Hk.out, ← Hz1.out, ← Hz2.out]
          have hzb : z2.l.length + 1 ≤ n := by omega
          clear hown8 hgrow8 hmov8 hn hG5 k0' k1' k2' k3' f2' f3'
          go_wp2_with fail
          go_loopg [4] lev (fun g s4 wy => ∃ zz : Wk.St, s4 = .int .i64 (g : Int) ∧ zz.l.length ≤ z2.l.length ∧ g ≤ lev ∧ Hid (Wk.closing s.data.toList lev z2 = Wk.closing s.data.toList g zz) ∧ Hid (geosM R s w (acc ++ [(⟨kk, lev, [], []⟩ : Wk.Geo)]) zz (.slice a8 (acc.length + 1) c8) wy))
          case atStart => exact ⟨z2, rfl, Nat.le_refl _, Nat.le_refl _, rfl, HM8⟩
          case round =>
            obtain ⟨zz, rfl, hzl, hgl, Hc, HM⟩ := hrel
            obtain ⟨tvz, hBz, _⟩ := HM.out.2.1
            cases gk with
            | zero =>
              clear hBz
              go_wp2_with fail
              rw [Exit.noGoto_ret]
              go_ret
              obtain ⟨m1, m2, cs, m3, m4⟩ := HM.out
              have he : res = (zz, acc ++ [(⟨kk, lev, [], []⟩ : Wk.Geo)]) := Wk.geos_stop Hr8.out Hc.out
              exact ⟨_, cs, rfl, by rw [he]; exact RdT.of_own m3, by rw [he]; exact m4, by rw [he]; exact m2, m1⟩
            | succ j =>
              cases hbz : zz.bad with
              | true =>
                rw [hbz] at hBz
                have cz := hBz.cell (j := 2) rfl
                clear hBz
                go_wp2_with fail
                rw [Exit.noGoto_ret]
                go_ret
                obtain ⟨m1, m2, cs, m3, m4⟩ := HM.out
                have he : res = (zz, acc ++ [(⟨kk, lev, [], []⟩ : Wk.Geo)]) := Wk.geos_stop Hr8.out (Hc.out.trans (Wk.closing_bad _ _ _ hbz))
                exact ⟨_, cs, rfl, by rw [he]; exact RdT.of_own m3, by rw [he]; exact m4, by rw [he]; exact m2, m1⟩
              | false =>
                rw [hbz] at hBz
                have cz := hBz.cell (j := 2) rfl
                clear hBz
                obtain ⟨wq, rfl⟩ : ∃ wq : World, wq = wr := ⟨_, rfl⟩
                go_wp2_with fail
                refine (peek_any R s zz 5 wq HM.out.2.1).mono ?_
                rintro e w9 ⟨rfl, rfl⟩
                cases hp : Wk.peek zz 5 with
                | true =>
                  go_wp2_with fail
                  refine (take_any R s zz 5 wq hs HM.out.2.1).mono ?_
                  rintro e w10 ⟨x10, rfl, _, _, h10, hu10⟩
                  have HM10 : Hid (geosM R s w (acc ++ [(⟨kk, lev, [], []⟩ : Wk.Geo)]) (Wk.take s.data.toList zz 5).1 (.slice a8 (acc.length + 1) c8) w10) := HM.out.upd hR hu10 h10
                  clear h10 hu10
                  go_wp2_with fail
                  go_roundg n
                  case measure => omega
                  case rel => exact ⟨acc ++ [(⟨kk, lev, [], []⟩ : Wk.Geo)], (Wk.take s.data.toList zz 5).1, j + 1, by first | rfl | simp, by omega, by simp; omega, fun _ => by have := Wk.take_len s.data.toList zz 5; omega, by have := Wk.take_len s.data.toList zz 5; omega, Wk.geos_go Hr8.out (Hc.out.trans (Wk.closing_comma _ _ _ hbz hp)), HM10⟩
                | false =>
                  go_wp2_with fail
                  refine (take_any R s zz 4 wq hs HM.out.2.1).mono ?_
                  rintro e w10 ⟨x10, rfl, _, _, h10, hu10⟩
                  have HM10 : Hid (geosM R s w (acc ++ [(⟨kk, lev, [], []⟩ : Wk.Geo)]) (Wk.take s.data.toList zz 4).1 (.slice a8 (acc.length + 1) c8) w10) := HM.out.upd hR hu10 h10
                  clear h10 hu10
                  go_wp2_with fail
                  go_roundg j
                  case measure => omega
                  case rel => exact ⟨(Wk.take s.data.toList zz 4).1, by first | rfl | simp, by have := Wk.take_len s.data.toList zz 4; omega, by omega, Hc.out.trans (Wk.closing_close _ _ _ hbz hp), HM10⟩
        | false =>
          go_wp2_with fail
          refine (wbody_any R kk s z2 w5 hs Hm5.out.2.1 (by omega)).mono ?_
          rintro e w6 ⟨bv, bu, rfl, hbr, h6, hu6⟩
          have hG6 := hG5.upd hu6 (by omega)
          obtain ⟨r6, hr6⟩ : ∃ r6, r6 = Wk.body s.data.toList kk z2 := ⟨_, rfl⟩
          have hl6 : r6.1.l.length ≤ z2.l.length := by rw [hr6]; exact Wk.body_len _ _ _
          rw [← hr6] at hbr h6
          have Hr6 := Lib.hid hr6
          have Hm6 : Hid (geosM R s w acc r6.1 u3 w6) := Hm5.out.upd hR hu6 h6
          obtain ⟨⟨ba, bn, bc, rfl⟩, ca, cn, cc, rfl⟩ := hbr.one
          have n0' := hG6.cell (j := 0) rfl
          have n1' := hG6.cell (j := 1) rfl
          have n2' := hG6.cell (j := 2) rfl
          have n3' := hG6.cell (j := 3) rfl
          have g2' := hG6.frozen 2
          have g3' := hG6.frozen 3
          have hne : u3.ownBlock ≠ some w3.heap.size := fun e => by have := hown3 _ e; omega
          have hG7 := hG6.set 2 (.slice ba bn bc)
          have hG8 := hG7.set 3 (.slice ca cn cc)
          have Hm7 : Hid (geosM R s w acc r6.1 u3 ((w6.setCell ⟨w3.heap.size, 2, none⟩ (.slice ba bn bc)).setCell ⟨w3.heap.size, 3, none⟩ (.slice ca cn cc))) :=
            (Hm6.out.set hR ⟨w3.heap.size, 2, none⟩ hw3 hne hG6 (.slice ba bn bc)).set hR ⟨w3.heap.size, 3, none⟩ hw3 hne hG7 (.slice ca cn cc)
          have kk8 : ∀ T, 33 ≠ T → KeepT T w6 ((w6.setCell ⟨w3.heap.size, 2, none⟩ (.slice ba bn bc)).setCell ⟨w3.heap.size, 3, none⟩ (.slice ca cn cc)) := fun T hT => (KeepT.set ⟨w3.heap.size, 2, none⟩ hG6 hT _).trans (KeepT.set ⟨w3.heap.size, 3, none⟩ hG7 hT _)
          have HB8 : Hid (BodyR R (((w6.setCell ⟨w3.heap.size, 2, none⟩ (.slice ba bn bc)).setCell ⟨w3.heap.size, 3, none⟩ (.slice ca cn cc)).alloc (.cells #[.int .i64 (kk : Int), .int .i64 (lev : Int), .slice ba bn bc, .slice ca cn cc] 33)) (.slice ba bn bc) (.slice ca cn cc) r6.2) := hbr.keep ((kk8 _ (by decide)).trans (.alloc _)) ((kk8 _ (by decide)).trans (.alloc _)) ((kk8 _ (by decide)).trans (.alloc _))
          clear hG5 hG6 hG7 hG8 hu6 h6 k0' k1' k2' k3' f2' f3' hbr kk8 hr6
          obtain ⟨m1, m2, cs, m3, m4⟩ := (Hm7.out).alloc hR (.cells #[.int .i64 (kk : Int), .int .i64 (lev : Int), .slice ba bn bc, .slice ca cn cc] 33)
          have M1 := Lib.hid m1
          have M2 := Lib.hid m2
          have M3 := Lib.hid m3
          have M4 := Lib.hid m4
          clear m1 m2 m3 m4
          have HRn : Hid (Reads (((w6.setCell ⟨w3.heap.size, 2, none⟩ (.slice ba bn bc)).setCell ⟨w3.heap.size, 3, none⟩ (.slice ca cn cc)).alloc (.cells #[.int .i64 (kk : Int), .int .i64 (lev : Int), .slice ba bn bc, .slice ca cn cc] 33)) (w6.heap.size + 1) (.slice (some ⟨w6.heap.size, 0, none⟩) 1 1) 1 [.int .i64 (kk : Int), .int .i64 (lev : Int), .slice ba bn bc, .slice ca cn cc]) := by
            have hh := reads_new ((w6.setCell ⟨w3.heap.size, 2, none⟩ (.slice ba bn bc)).setCell ⟨w3.heap.size, 3, none⟩ (.slice ca cn cc)) [.int .i64 (kk : Int), .int .i64 (lev : Int), .slice ba bn bc, .slice ca cn cc] 33 1 1 (by decide) (by decide)
            rw [show ((w6.setCell ⟨w3.heap.size, 2, none⟩ (.slice ba bn bc)).setCell ⟨w3.heap.size, 3, none⟩ (.slice ca cn cc)).heap.size = w6.heap.size from by simp [World.setCell]] at hh
            exact hh
          go_wp2_with (at_builtin; refine wpList_append2 _ rfl _ _ 23 rfl w.heap.size 33 (.agg #[.int .i64 0, .int .i64 0, .slice none 0 0, .slice none 0 0]) 4 64 Tryz.underlying23 info_geo rfl (by decide) u3 acc.length _ rfl M3.out _ _ 1 [.int .i64 (kk : Int), .int .i64 (lev : Int), .slice ba bn bc, .slice ca cn cc] rfl HRn.out rfl (by simp [Value.oneCell']) (by unfold maxLen; omega) (by omega) M1.out.size ?_)
          intro v8 w8 hown8 hgrow8 hmov8
          obtain ⟨a8, c8, rfl⟩ := own_form hown8
          have HM8 : Hid (geosM R s w (acc ++ [(⟨kk, lev, r6.2.1, r6.2.2⟩ : Wk.Geo)]) r6.1 (.slice a8 (acc.length + 1) c8) w8) := geos_app hR M1.out M2.out M3.out M4.out HB8.out hown8 hgrow8
          have Hr8 : Hid (res = ((Wk.geosEnd s.data.toList n lev r6.1 (⟨kk, lev, r6.2.1, r6.2.2⟩ : Wk.Geo)).1, acc ++ (Wk.geosEnd s.data.toList n lev r6.1 (⟨kk, lev, r6.2.1, r6.2.2⟩ : Wk.Geo)).2)) := by
            unfold Hid; rw [Hr.out, Wk.geosF_body _ _ _ _ hb (by rw [Hk.out]; omega) (by rw [Hk.out]; omega) (by rw [← Hz1.out]; exact hn), Hk.out, ← Hz1.out, ← Hz2.out, ← Hr6.out]
          have hzb : r6.1.l.length + 1 ≤ n := by omega
          clear hown8 hgrow8 hmov8 hn n0' n1' n2' n3' g2' g3'
          go_wp2_with fail
          go_loopg [4] lev (fun g s4 wy => ∃ zz : Wk.St, s4 = .int .i64 (g : Int) ∧ zz.l.length ≤ r6.1.l.length ∧ g ≤ lev ∧ Hid (Wk.closing s.data.toList lev r6.1 = Wk.closing s.data.toList g zz) ∧ Hid (geosM R s w (acc ++ [(⟨kk, lev, r6.2.1, r6.2.2⟩ : Wk.Geo)]) zz (.slice a8 (acc.length + 1) c8) wy))
          case atStart => exact ⟨r6.1, rfl, Nat.le_refl _, Nat.le_refl _, rfl, HM8⟩
          case round =>
            obtain ⟨zz, rfl, hzl, hgl, Hc, HM⟩ := hrel
            obtain ⟨tvz, hBz, _⟩ := HM.out.2.1
            cases gk with
            | zero =>
              clear hBz
              go_wp2_with fail
              rw [Exit.noGoto_ret]
              go_ret
              obtain ⟨m1, m2, cs, m3, m4⟩ := HM.out
              have he : res = (zz, acc ++ [(⟨kk, lev, r6.2.1, r6.2.2⟩ : Wk.Geo)]) := Wk.geos_stop Hr8.out Hc.out
              exact ⟨_, cs, rfl, by rw [he]; exact RdT.of_own m3, by rw [he]; exact m4, by rw [he]; exact m2, m1⟩
            | succ j =>
              cases hbz : zz.bad with
              | true =>
                rw [hbz] at hBz
                have cz := hBz.cell (j := 2) rfl
                clear hBz
                go_wp2_with fail
                rw [Exit.noGoto_ret]
                go_ret
                obtain ⟨m1, m2, cs, m3, m4⟩ := HM.out
                have he : res = (zz, acc ++ [(⟨kk, lev, r6.2.1, r6.2.2⟩ : Wk.Geo)]) := Wk.geos_stop Hr8.out (Hc.out.trans (Wk.closing_bad _ _ _ hbz))
                exact ⟨_, cs, rfl, by rw [he]; exact RdT.of_own m3, by rw [he]; exact m4, by rw [he]; exact m2, m1⟩
              | false =>
                rw [hbz] at hBz
                have cz := hBz.cell (j := 2) rfl
                clear hBz
                obtain ⟨wq, rfl⟩ : ∃ wq : World, wq = wr := ⟨_, rfl⟩
                go_wp2_with fail
                refine (peek_any R s zz 5 wq HM.out.2.1).mono ?_
                rintro e w9 ⟨rfl, rfl⟩
                cases hp : Wk.peek zz 5 with
                | true =>
                  go_wp2_with fail
                  refine (take_any R s zz 5 wq hs HM.out.2.1).mono ?_
                  rintro e w10 ⟨x10, rfl, _, _, h10, hu10⟩
                  have HM10 : Hid (geosM R s w (acc ++ [(⟨kk, lev, r6.2.1, r6.2.2⟩ : Wk.Geo)]) (Wk.take s.data.toList zz 5).1 (.slice a8 (acc.length + 1) c8) w10) := HM.out.upd hR hu10 h10
                  clear h10 hu10
                  go_wp2_with fail
                  go_roundg n
                  case measure => omega
                  case rel => exact ⟨acc ++ [(⟨kk, lev, r6.2.1, r6.2.2⟩ : Wk.Geo)], (Wk.take s.data.toList zz 5).1, j + 1, by first | rfl | simp, by omega, by simp; omega, fun _ => by have := Wk.take_len s.data.toList zz 5; omega, by have := Wk.take_len s.data.toList zz 5; omega, Wk.geos_go Hr8.out (Hc.out.trans (Wk.closing_comma _ _ _ hbz hp)), HM10⟩
                | false =>
                  go_wp2_with fail
                  refine (take_any R s zz 4 wq hs HM.out.2.1).mono ?_
                  rintro e w10 ⟨x10, rfl, _, _, h10, hu10⟩
                  have HM10 : Hid (geosM R s w (acc ++ [(⟨kk, lev, r6.2.1, r6.2.2⟩ : Wk.Geo)]) (Wk.take s.data.toList zz 4).1 (.slice a8 (acc.length + 1) c8) w10) := HM.out.upd hR hu10 h10
                  clear h10 hu10
                  go_wp2_with fail
                  go_roundg j
                  case measure => omega
                  case rel => exact ⟨(Wk.take s.data.toList zz 4).1, by first | rfl | simp, by have := Wk.take_len s.data.toList zz 4; omega, by omega, Hc.out.trans (Wk.closing_close _ _ _ hbz hp), HM10⟩
end Go.Proofs.YtfbdkjonjpanfaaGreatDoor
