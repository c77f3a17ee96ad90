import Derived.Test.YtkhceimlheginaaTokens
import Derived.Test.YtkhceimlheginaaUpper

set_option linter.unusedVariables false
set_option linter.unusedSimpArgs false
namespace Go.Proofs.Ytkhceimlheginaa
open Go.RowKit Go.Rg
attribute [local go_sem] Oper.semAt_some

/-- a token's text as All tells it -/
def allText (l : List UInt8) (t : Lx.Tok) : List UInt8 := if t.kind = 1 then Lx.upper (Lx.text t.kind t.fr t.to l) else Lx.text t.kind t.fr t.to l
def good (l : List Lx.Tok) : List Lx.Tok := l.takeWhile (fun t => t.kind != 0)
def allA (l : List UInt8) (t : Lx.Tok) : Array Value := #[.agg #[.int .i64 t.kind, .int .i64 t.fr, .int .i64 t.to], .string ⟨(allText l t).toArray⟩]

theorem enter_all1 (args : Array Value) (w : World) : (callFunc 40 args).run Try.prog w = .ok (.enter 40 args) w := enters_of Try.func40 (by kernel_rfl) rfl args w

theorem all_any (s : ByteArray) (w : World) :
    Calls Try.prog 20 #[.string s] w fun e w' => e = .returned (.func (.func 40) #[] #[.pointer (some ⟨w.heap.size, 0, none⟩)]) ∧ w.alloc (.cells #[.string s] 9) = w' := by
  go_enter Try.func20, Try.ntmps20
  go_wp2
  go_ret
  exact ⟨rfl, rfl⟩

theorem bytes_of {r : ByteArray} {l : List UInt8} (h : r.data.toList = l) : r = ⟨l.toArray⟩ := by rw [← h, Lib.mk_data]

theorem good_get {l : List Lx.Tok} {k : Nat} {t : Lx.Tok} (h : l[k]? = some t) (hp : ∀ u ∈ l.take k, u.kind ≠ 0) (hz : t.kind ≠ 0) : (good l)[k]? = some t := by
  have e : l = l.take (k + 1) ++ l.drop (k + 1) := (List.take_append_drop _ _).symm
  have hall : ∀ u ∈ l.take (k + 1), u.kind ≠ 0 := by
    rw [List.take_add_one, h]
    intro u hu
    rcases List.mem_append.1 hu with h | h
    · exact hp u h
    · simp at h; rw [h]; exact hz
  unfold good
  rw [e, List.takeWhile_append_of_pos (fun u hu => by simpa using hall u hu), List.getElem?_append_left (by have := (List.getElem?_eq_some_iff.1 h).1; simp; omega), List.getElem?_take_of_lt (by omega)]
  exact h
theorem good_len {l : List Lx.Tok} {k : Nat} {t : Lx.Tok} (h : l[k]? = some t) (hp : ∀ u ∈ l.take k, u.kind ≠ 0) (hz : t.kind = 0) : (good l).length = k := by
  obtain ⟨hlt, hk⟩ := List.getElem?_eq_some_iff.1 h
  have e : l = l.take k ++ t :: l.drop (k + 1) := by conv => lhs; rw [← List.take_append_drop k l, List.drop_eq_getElem_cons hlt, hk]
  unfold good
  rw [e, List.takeWhile_append_of_pos (fun u hu => by simpa using hp u hu)]
  simp [hz]; omega
theorem good_all {l : List Lx.Tok} (hp : ∀ u ∈ l, u.kind ≠ 0) : good l = l := by
  unfold good
  have := List.takeWhile_append_of_pos (p := fun t : Lx.Tok => t.kind != 0) (l₁ := l) (l₂ := []) (fun u hu => by simpa using hp u hu)
  simpa using this

section
variable (J : Nat → (Nat → Prop) → World → Prop) (Jx : Nat → World → Prop) (S : Nat → Prop) (s : ByteArray) (l b : Nat) (W : World)
/-- between two rounds of the inner loop -/
def allI (k : Nat) (Oi : Nat → Prop) (X : World) : Prop :=
  (∀ t ∈ (Lx.scan s.data.toList).take k, t.kind ≠ 0) ∧ Kept S W X ∧ Blk X W.heap.size [.func (.yield l) #[] #[]] 77 ∧
  ∃ O, J k O X ∧ (∀ j, O j → W.heap.size ≤ j ∧ j < X.heap.size) ∧ (∀ j, Oi j → O j) ∧ O W.heap.size ∧ O (W.heap.size + 1)
/-- where the inner loop is left -/
def allX (c : Code) (k : Nat) (X : World) : Prop :=
  c = .ret ∧ Kept S W X ∧ ((∃ O, (good (Lx.scan s.data.toList)).length + 1 = k ∧ J (good (Lx.scan s.data.toList)).length O X ∧ (∀ j, O j → W.heap.size ≤ j ∧ j < X.heap.size)) ∨ (k ≤ (good (Lx.scan s.data.toList)).length ∧ Jx k X))
end

set_option maxHeartbeats 1000000 in
set_option maxRecDepth 100000 in
theorem all_seq (b : Nat) (s : ByteArray) (S : Nat → Prop) (w : World) (hs : s.size ≤ maxLen) (hb : Blk w b [.string s] 9) (hSb : S b) (hS : ∀ k, S k → k < w.heap.size) :
    SeqI Try.prog 40 #[.pointer (some ⟨b, 0, none⟩)] ((good (Lx.scan s.data.toList)).map (allA s.data.toList)) S w := by
  intro l J Jx W hW hJ hJx hY h0
  have hm := hs
  unfold maxLen at hs
  have hbW : Blk W b [.string s] 9 := hb.of_same (hW.same b hSb)
  have hbl : b < W.heap.size := hbW.lt
  refine callsIn_of_wp_marks Try.func40 rfl trivial ?_ rfl
  simp only [Try.ntmps40, List.size_toArray, List.length_cons, List.length_nil, Nat.reduceAdd, Nat.reduceSub, Array.replicate_succ, Array.replicate_zero, List.push_toArray, List.append_toArray, List.nil_append, List.cons_append]
  have c0 := hbW.cell (j := 0) rfl
  have HJ := Lib.hid hJ
  have HJx := Lib.hid hJx
  have HY := Lib.hid hY
  have H0 := Lib.hid h0
  have HS := Lib.hid hS
  have HW := Lib.hid hW
  have Hb := Lib.hid hb
  clear hJ hJx hY h0 hS hW hb
  gi_wp2_with fail
  refine (calls_iff.2 (scan_any _ _)).mono ?_
  rintro e w1 ⟨rfl, hw⟩
  have hw' : [.cells #[.func (.yield l) #[] #[]] 77, .cells #[.string s] 9].foldl World.alloc W = w1 := hw
  clear hw
  have hB1 : Blk w1 W.heap.size [.func (.yield l) #[] #[]] 77 := Blk.allocs _ hw' 0 rfl
  have hB2 : Blk w1 (W.heap.size + 1) [.string s] 9 := Blk.allocs _ hw' 1 rfl
  have hbel : Below W.heap.size W w1 := hw' ▸ allocs_below _ W
  have Hsz : Hid (w1.heap.size = W.heap.size + 2) := hw' ▸ allocs_size _ W
  have hsz1 : W.heap.size + 2 ≤ w1.heap.size := by have := Hsz.out; omega
  clear hw'
  gi_wp2_with fail
  have hkW1 : Kept S W w1 := (Kept.of_below hbel).mono (fun j hj => by have := HS.out j hj; have := HW.out.size; omega)
  refine wp_range (P := Try.prog) (gf := 50) (lb := #[.pointer (some ⟨W.heap.size + 1, 0, none⟩)]) (S := fun j => j = W.heap.size + 1) rfl enter_scan1
    (scan_seq (W.heap.size + 1) s (fun j => j = W.heap.size + 1) w1 hm hB2 rfl (fun k hk => by omega)) (Kept.refl _ _) (fun k hk => by omega) (fun x hx => by obtain ⟨t, _, rfl⟩ := List.mem_map.1 hx; rfl)
    (allI J S s l W) (allX J Jx S s W) ?stabI ?stabX ?start ?round ?done ?stop
  case stabI =>
    rintro k Oi Oi' X Y ⟨h1, h2, h3, O, h4, h5, h6, h7, h8⟩ hx hO
    refine ⟨h1, h2.trans ((Kept.of_below hx.below).mono (fun j hj => by have := HS.out j hj; have := HW.out.size; omega)), h3.ext hx, grow O X Y, HJ.out _ _ _ _ _ h4 (hx.mono (by omega)) (fun j hj => hj), ?_, ?_, .inl h7, .inl h8⟩
    · rintro j (hj | hj)
      · have := h5 j hj; have := hx.size; omega
      · have := h5 _ h7; omega
    · intro j hj
      rcases hO j hj with h | h
      · exact .inl (h6 j h)
      · exact .inr h
  case stabX =>
    rintro c k X Y ⟨h1, h2, h3⟩ hx
    refine ⟨h1, h2.trans ((Kept.of_below hx.below).mono (fun j hj => by have := HS.out j hj; have := HW.out.size; omega)), ?_⟩
    rcases h3 with ⟨O, h3, h4, h5⟩ | ⟨h3, h4⟩
    · refine .inl ⟨O, h3, HJ.out _ _ _ _ _ h4 (hx.mono (by omega)) (fun j hj => .inl hj), fun j hj => by have := h5 j hj; have := hx.size; omega⟩
    · exact .inr ⟨h3, HJx.out _ _ _ h4 (hx.mono (by omega))⟩
  case start =>
    refine ⟨by simp, hkW1, hB1, fun j => W.heap.size ≤ j ∧ j < w1.heap.size, HJ.out _ _ _ _ _ H0.out (Ext.of_below hbel) (fun j hj => .inr hj), fun j hj => hj, fun j hj => hj.elim, by omega, by omega⟩
  case round =>
    intro li k x Oi Wr hl1 hl2 hx hk hO hi
    rw [List.getElem?_map] at hx
    obtain ⟨t, ht, rfl⟩ := Option.map_eq_some_iff.1 hx
    clear hx
    have Ht := Lib.hid ht
    have Hi := Lib.hid hi
    have HO := Lib.hid hO
    clear ht hi hO hB1 hB2
    dsimp only [tokA]
    have hwW : w1.heap.size ≤ Wr.heap.size := hk.size
    gi_wp2_with fail
    refine ⟨(Eff.refl _ _ _).alloc (fun j hj => hj.elim (fun h => by omega) (fun h => (HO.out j h).2)) _, ?_⟩
    intro Wb hx hkb hszb hlb
    obtain ⟨i1, i2, i3, O, i4, i5, i6, i7, i8⟩ := Hi.out
    have jt := (Blk.new Wr [.int .i64 t.kind, .int .i64 t.fr, .int .i64 t.to] 31).ext hx
    have jy := (i3.alloc (.cells #[.int .i64 t.kind, .int .i64 t.fr, .int .i64 t.to] 31)).ext hx
    have jb : Blk Wb b [.string s] 9 := ((hbW.of_same (i2.same b hSb)).alloc _).ext hx
    have hzb : Wr.heap.size + 1 ≤ Wb.heap.size := by rw [hszb]; simp
    -- the whole way from Wr on, under one name
    have hxr : Ext W.heap.size Wr Wb := (Ext.of_below' ((Below.refl _ Wr).alloc (Nat.le_refl _) _) (by omega)).trans (hx.mono (by omega))
    have Hx := Lib.hid hx
    have Hkb := Lib.hid hkb
    clear hx hkb hszb hlb
    have t0 := jt.cell (j := 0) rfl
    have t1 := jt.cell (j := 1) rfl
    have t2 := jt.cell (j := 2) rfl
    have y0 := jy.cell (j := 0) rfl
    have b0 := jb.cell (j := 0) rfl
    gi_wp2_with fail
    refine (calls_iff.2 (text_any _ _ _ _ _ hm)).mono ?_
    rintro e X0 ⟨r, rfl, Hr, hr, hbX0⟩
    clear t0 t1 t2 y0 b0
    have hsX0 := hbX0.size
    have t0 := (jt.below hbX0 (by omega)).cell (j := 0) rfl
    have t1 := (jt.below hbX0 (by omega)).cell (j := 1) rfl
    have t2 := (jt.below hbX0 (by omega)).cell (j := 2) rfl
    have y0 := (jy.below hbX0 (by omega)).cell (j := 0) rfl
    by_cases hk0 : t.kind = 0
    · have hz0 : ((t.kind : Int) == 0) = true := by rw [hk0]; rfl
      have hz1 : ((t.kind : Int) == 1) = false := by rw [hk0]; rfl
      have HE : Hid (Eff w1.heap.size (both (fun j => j = W.heap.size + 1) Oi) Wb X0) := Eff.of_below hbX0 (fun j hj => hj.elim (fun h => by omega) (fun h => by have := (HO.out j h).2; omega))
      have hxX : Ext W.heap.size Wr X0 := hxr.trans (Ext.of_below' hbX0 (by omega))
      have HX : Hid (allX J Jx S s W .ret (k + 1) X0) := by
        have hgl := good_len Ht.out i1 hk0
        refine ⟨rfl, i2.trans ((Kept.of_below hxX.below).mono (fun j hj => by have := HS.out j hj; have := HW.out.size; omega)), .inl ⟨O, by omega, ?_, fun j hj => by have := i5 j hj; omega⟩⟩
        rw [hgl]
        exact HJ.out _ _ _ _ _ i4 hxX (fun j hj => .inl hj)
      clear hk0 i1 i2 i5 i6 hxX
      gi_wp2_with fail
      exact ⟨HE.out, HX.out⟩
    · have hz0 : ((t.kind : Int) == 0) = false := by rw [beq_eq_false_iff_ne]; omega
      have Hz := Lib.hid hk0
      by_cases hk1 : t.kind = 1
      · have hz1 : ((t.kind : Int) == 1) = true := by rw [hk1]; rfl
        have Hk1 := Lib.hid hk1
        clear hk0 hk1
        gi_wp2_with fail
        refine (calls_iff.2 (upper_any _ _ (by unfold maxLen; omega))).mono ?_
        rintro e X ⟨q, rfl, Hu, hbX1⟩
        have hbX : Below Wb.heap.size Wb X := hbX0.trans (hbX1.mono hbX0.size)
        have Hq : Hid ((⟨(allText s.data.toList t).toArray⟩ : ByteArray) = q) := by
          unfold Hid allText; rw [if_pos Hk1.out, ← Hr.out]; exact (bytes_of Hu.out).symm
        clear t0 t1 t2 y0 hbX1 hbX0 hsX0 hr
        have hxX : Ext W.heap.size Wr X := hxr.trans (Ext.of_below' hbX (by omega))
        have hsX := hbX.size
        obtain ⟨O', hO'⟩ : ∃ O', O' = grow O Wr X := ⟨_, rfl⟩
        have HO' : Hid (∀ j, O' j → W.heap.size ≤ j ∧ j < X.heap.size) := by
          subst hO'
          rintro j (hj | hj)
          · have := i5 j hj; omega
          · omega
        have hkX : Kept S W X := i2.trans ((Kept.of_below hxX.below).mono (fun j hj => by have := HS.out j hj; have := HW.out.size; omega))
        have hyield := HY.out k (allA s.data.toList t) O' X (by rw [List.getElem?_map, good_get Ht.out i1 Hz.out]; rfl) hkX HO'.out (HJ.out _ _ _ _ _ i4 hxX (fun j hj => hO' ▸ hj))
        obtain ⟨fn, tmps, assign, body, hy, hR⟩ := hyield
        dsimp only [allA] at hy
        rw [Hq.out] at hy
        have Hsub : Hid ((∀ j, Oi j → O' j) ∧ O' W.heap.size ∧ O' (W.heap.size + 1) ∧ ∀ j, Wr.heap.size ≤ j → j < X.heap.size → O' j) := by
          subst hO'
          exact ⟨fun j hj => .inl (i6 j hj), .inl i7, .inl i8, fun j h1 h2 => .inr ⟨h1, h2⟩⟩
        have t0 := (jt.below hbX (by omega)).cell (j := 0) rfl
        have t1 := (jt.below hbX (by omega)).cell (j := 1) rfl
        have t2 := (jt.below hbX (by omega)).cell (j := 2) rfl
        have y1 := (jy.below hbX (by omega)).cell (j := 0) rfl
        have HkX := Lib.hid hkX
        clear hO' hkX i5 i6
        gi_wp2_with fail
        refine hR.mono ?_
        clear hR hy
        have HE : Hid (∀ X', Eff W.heap.size (both S O') X X' → Eff w1.heap.size (both (fun j => j = W.heap.size + 1) Oi) Wb X') := by
          intro X' hE
          have hE1 : Eff w1.heap.size (both (fun j => j = W.heap.size + 1) Oi) Wb X := Eff.of_below hbX (fun j hj => hj.elim (fun h => by omega) (fun h => by have := (HO.out j h).2; omega))
          exact hE1.trans (hE.mono (by omega) (fun j hj => .inr (hj.elim (fun h => h ▸ Hsub.out.2.2.1) (fun h => Hsub.out.1 j h))))
        rintro e X' (⟨rfl, hj2, hE⟩ | ⟨rfl, hj2, hE⟩)
        · have HE2 := Lib.hid (HE.out X' hE)
          have Hj2 := Lib.hid hj2
          have HI : Hid (allI J S s l W (k + 1) Oi X') := by
            refine ⟨?_, HkX.out.trans (hE.kept.mono (fun j hj => .inl hj)), (jy.below hbX (by omega)).of_same (hE.kept.same _ (.inr Hsub.out.2.1)), O', hj2, fun j hj => ⟨(HO'.out j hj).1, Nat.lt_of_lt_of_le (HO'.out j hj).2 hE.kept.size⟩, Hsub.out.1, Hsub.out.2.1, Hsub.out.2.2.1⟩
            rw [List.take_add_one, Ht.out]
            intro u hu
            rcases List.mem_append.1 hu with h | h
            · exact i1 u h
            · simp at h; rw [h]; exact Hz.out
          clear hE hj2 HE i1 i2
          gi_wp2_with fail
          exact ⟨HE2.out, HI.out⟩
        · have HE2 := Lib.hid (HE.out X' hE)
          have HX : Hid (allX J Jx S s W .ret (k + 1) X') := by
            refine ⟨rfl, HkX.out.trans (hE.kept.mono (fun j hj => .inl hj)), .inr ⟨?_, hj2⟩⟩
            exact (List.getElem?_eq_some_iff.1 (good_get Ht.out i1 Hz.out)).1
          clear hE hj2 HE i1 i2
          gi_wp2_with fail
          exact ⟨HE2.out, HX.out⟩
      · have hz1 : ((t.kind : Int) == 1) = false := by rw [beq_eq_false_iff_ne]; omega
        have Hq : Hid ((⟨(allText s.data.toList t).toArray⟩ : ByteArray) = r) := by
          unfold Hid allText; rw [if_neg hk1]; exact (bytes_of Hr.out).symm
        obtain ⟨X, rfl⟩ : ∃ X, X = X0 := ⟨_, rfl⟩
        have hbX := hbX0
        clear hk0 hk1 hr hbX0 t0 t1 t2 y0 hsX0
        have hxX : Ext W.heap.size Wr X := hxr.trans (Ext.of_below' hbX (by omega))
        have hsX := hbX.size
        obtain ⟨O', hO'⟩ : ∃ O', O' = grow O Wr X := ⟨_, rfl⟩
        have HO' : Hid (∀ j, O' j → W.heap.size ≤ j ∧ j < X.heap.size) := by
          subst hO'
          rintro j (hj | hj)
          · have := i5 j hj; omega
          · omega
        have hkX : Kept S W X := i2.trans ((Kept.of_below hxX.below).mono (fun j hj => by have := HS.out j hj; have := HW.out.size; omega))
        have hyield := HY.out k (allA s.data.toList t) O' X (by rw [List.getElem?_map, good_get Ht.out i1 Hz.out]; rfl) hkX HO'.out (HJ.out _ _ _ _ _ i4 hxX (fun j hj => hO' ▸ hj))
        obtain ⟨fn, tmps, assign, body, hy, hR⟩ := hyield
        dsimp only [allA] at hy
        rw [Hq.out] at hy
        have Hsub : Hid ((∀ j, Oi j → O' j) ∧ O' W.heap.size ∧ O' (W.heap.size + 1) ∧ ∀ j, Wr.heap.size ≤ j → j < X.heap.size → O' j) := by
          subst hO'
          exact ⟨fun j hj => .inl (i6 j hj), .inl i7, .inl i8, fun j h1 h2 => .inr ⟨h1, h2⟩⟩
        have t0 := (jt.below hbX (by omega)).cell (j := 0) rfl
        have t1 := (jt.below hbX (by omega)).cell (j := 1) rfl
        have t2 := (jt.below hbX (by omega)).cell (j := 2) rfl
        have y1 := (jy.below hbX (by omega)).cell (j := 0) rfl
        have HkX := Lib.hid hkX
        clear hO' hkX i5 i6
        gi_wp2_with fail
        refine hR.mono ?_
        clear hR hy
        have HE : Hid (∀ X', Eff W.heap.size (both S O') X X' → Eff w1.heap.size (both (fun j => j = W.heap.size + 1) Oi) Wb X') := by
          intro X' hE
          have hE1 : Eff w1.heap.size (both (fun j => j = W.heap.size + 1) Oi) Wb X := Eff.of_below hbX (fun j hj => hj.elim (fun h => by omega) (fun h => by have := (HO.out j h).2; omega))
          exact hE1.trans (hE.mono (by omega) (fun j hj => .inr (hj.elim (fun h => h ▸ Hsub.out.2.2.1) (fun h => Hsub.out.1 j h))))
        rintro e X' (⟨rfl, hj2, hE⟩ | ⟨rfl, hj2, hE⟩)
        · have HE2 := Lib.hid (HE.out X' hE)
          have Hj2 := Lib.hid hj2
          have HI : Hid (allI J S s l W (k + 1) Oi X') := by
            refine ⟨?_, HkX.out.trans (hE.kept.mono (fun j hj => .inl hj)), (jy.below hbX (by omega)).of_same (hE.kept.same _ (.inr Hsub.out.2.1)), O', hj2, fun j hj => ⟨(HO'.out j hj).1, Nat.lt_of_lt_of_le (HO'.out j hj).2 hE.kept.size⟩, Hsub.out.1, Hsub.out.2.1, Hsub.out.2.2.1⟩
            rw [List.take_add_one, Ht.out]
            intro u hu
            rcases List.mem_append.1 hu with h | h
            · exact i1 u h
            · simp at h; rw [h]; exact Hz.out
          clear hE hj2 HE i1 i2
          gi_wp2_with fail
          exact ⟨HE2.out, HI.out⟩
        · have HE2 := Lib.hid (HE.out X' hE)
          have HX : Hid (allX J Jx S s W .ret (k + 1) X') := by
            refine ⟨rfl, HkX.out.trans (hE.kept.mono (fun j hj => .inl hj)), .inr ⟨?_, hj2⟩⟩
            exact (List.getElem?_eq_some_iff.1 (good_get Ht.out i1 Hz.out)).1
          clear hE hj2 HE i1 i2
          gi_wp2_with fail
          exact ⟨HE2.out, HX.out⟩
  case done =>
    intro Oi Wd hk hlt hi hD
    rw [List.length_map] at hi
    obtain ⟨i1, i2, i3, O, i4, i5, i6, i7, i8⟩ := hi
    rw [List.take_length] at i1
    have hg := good_all i1
    have hfin : Hid (∃ O, (∀ j, O j → W.heap.size ≤ j ∧ j < (Wd.putObj w1.heap.size (.deferred none)).heap.size) ∧ J ((good (Lx.scan s.data.toList)).map (allA s.data.toList)).length O (Wd.putObj w1.heap.size (.deferred none))) := by
      rw [List.length_map, hg]
      exact ⟨O, fun j hj => by rw [World.putObj_size]; exact i5 j hj, HJ.out _ _ _ _ _ i4 (Ext.putObj (by omega) hD rfl _) (fun j hj => .inl hj)⟩
    have HK : Hid (Kept S W (Wd.putObj w1.heap.size (.deferred none))) := i2.trans ⟨rfl, rfl, rfl, by simp, fun j hj => World.putObj_heap_other (by have := HS.out j hj; have := HW.out.size; omega)⟩
    have HD := Lib.hid hD
    clear i1 i2 i5 i6 hg hD
    gi_wp2_with fail
    refine ⟨by simp, .inl ⟨_, _, rfl, run_takeDeferred HD.out, ?_⟩⟩
    exact ⟨_, results_none rfl _ _ _, ⟨_, rfl⟩, HK.out, .inl hfin.out⟩
  case stop =>
    intro c k Wd hk hlt hk0 hkl hi hD
    obtain ⟨rfl, i2, hi⟩ := hi
    have hx : Ext W.heap.size Wd (Wd.putObj w1.heap.size (.deferred none)) := Ext.putObj (by omega) hD rfl _
    have hfin : Hid ((∃ O, (∀ j, O j → W.heap.size ≤ j ∧ j < (Wd.putObj w1.heap.size (.deferred none)).heap.size) ∧ J ((good (Lx.scan s.data.toList)).map (allA s.data.toList)).length O (Wd.putObj w1.heap.size (.deferred none))) ∨ ∃ k, 0 < k ∧ k ≤ ((good (Lx.scan s.data.toList)).map (allA s.data.toList)).length ∧ Jx k (Wd.putObj w1.heap.size (.deferred none))) := by
      rw [List.length_map]
      rcases hi with ⟨O, h3, h4, h5⟩ | ⟨h3, h4⟩
      · exact .inl ⟨O, fun j hj => by rw [World.putObj_size]; exact h5 j hj, HJ.out _ _ _ _ _ h4 hx (fun j hj => .inl hj)⟩
      · exact .inr ⟨k, hk0, h3, HJx.out _ _ _ h4 hx⟩
    have HK : Hid (Kept S W (Wd.putObj w1.heap.size (.deferred none))) := i2.trans ⟨rfl, rfl, rfl, by simp, fun j hj => World.putObj_heap_other (by have := HS.out j hj; have := HW.out.size; omega)⟩
    have HD := Lib.hid hD
    clear i2 hi hx hD
    gi_wp2_with fail
    refine ⟨by simp, .inl ⟨_, _, rfl, run_takeDeferred HD.out, ?_⟩⟩
    exact ⟨_, results_none rfl _ _ _, ⟨_, rfl⟩, HK.out, hfin.out⟩
end Go.Proofs.Ytkhceimlheginaa
