import Derived.Test.YtegkdkilbnighaaRefA
import Derived.Test.YtegkdkilbnighaaTokens
set_option linter.unusedVariables false
set_option linter.unusedSimpArgs false
namespace Go.Proofs.Ytegkdkilbnighaa
open Go.RowKit Go.Rg

theorem info_rtok : (Try.prog.info? 65).map (fun i => (i.zero, i.size, i.bytes)) = some (some (.agg #[.int .i64 0, .int .i64 0, .int .i64 0]), 3, 24) := by kernel_rfl

/-- what the document's Tokens hands back -/
def rtokRes (l : List Lx.Tok) (v : Value) (at_ : Int) (w : World) : Prop :=
  match Lx.badAt l with
  | some k => v = .slice none 0 0 ∧ at_ = k
  | none => Reads w w.heap.size v l.length (flatT l) ∧ at_ = -1

/-- between two rounds -/
def rtokI (s : ByteArray) (w : World) (v : Value) (k i : Nat) (wr : World) : Prop :=
  k ≤ s.size ∧ i ≤ (Lx.scan s.data.toList).length ∧ (Lx.scan s.data.toList).drop i = Lx.rest s k ∧ (∀ t ∈ (Lx.scan s.data.toList).take i, t.kind ≠ 0) ∧
  wr.ownsRow w.heap.size 65 3 v i (flatT ((Lx.scan s.data.toList).take i)) ∧ Below w.heap.size w wr

theorem rtok_blank {s : ByteArray} {w wr : World} {v : Value} {k i : Nat} (h : rtokI s w v k i wr) (hk : k < s.size) (hb : Lx.one s[k] [32, 9, 13, 10] = true) : rtokI s w v (k + 1) i wr := by
  obtain ⟨h1, h2, h3, h4, h5, h6⟩ := h
  exact ⟨hk, h2, by rw [h3, Lx.rest_blank s k hk hb], h4, h5, h6⟩
theorem rtok_get {s : ByteArray} {w wr : World} {v : Value} {k i : Nat} (h : rtokI s w v k i wr) (hk : k < s.size) (hb : Lx.one s[k] [32, 9, 13, 10] = false) : (Lx.scan s.data.toList)[i]? = some (Lx.next s.data.toList k) ∧ i < s.size := by
  obtain ⟨h1, h2, h3, h4, h5, h6⟩ := h
  have hg : (Lx.scan s.data.toList)[i]? = some (Lx.next s.data.toList k) := by rw [← List.head?_drop, h3, Lx.rest_tok s k hk hb]; rfl
  exact ⟨hg, by have := (List.getElem?_eq_some_iff.1 hg).1; have := Lx.scan_len s; omega⟩
theorem rtok_bad {s : ByteArray} {w wr : World} {v : Value} {k i : Nat} (h : rtokI s w v k i wr) (hk : k < s.size) (hb : Lx.one s[k] [32, 9, 13, 10] = false) (hz : (Lx.next s.data.toList k).kind = 0) (hf : (Lx.next s.data.toList k).fr = k) :
    rtokRes (Lx.scan s.data.toList) (.slice none 0 0) k wr ∧ Below w.heap.size w wr := by
  obtain ⟨hg, _⟩ := rtok_get h hk hb
  obtain ⟨h1, h2, h3, h4, h5, h6⟩ := h
  unfold rtokRes
  rw [Lx.badAt_of hg hz h4, hf]
  exact ⟨⟨rfl, rfl⟩, h6⟩
theorem rtok_go {s : ByteArray} {w wr w2 : World} {v v' : Value} {k i : Nat} {t : Lx.Tok} {o : Obj} (h : rtokI s w v k i wr) (hk : k < s.size) (hb : Lx.one s[k] [32, 9, 13, 10] = false) (ht : t = Lx.next s.data.toList k) (hz : t.kind ≠ 0)
    (hown : w2.ownsRow w.heap.size 65 3 v' (i + 1) (flatT ((Lx.scan s.data.toList).take i) ++ tokC t)) (hg : (wr.alloc o).grownBy w2 v.ownBlock) : rtokI s w v' t.to (i + 1) w2 := by
  obtain ⟨hgt, _⟩ := rtok_get h hk hb
  have hto := Lx.next_to s k hk
  obtain ⟨h1, h2, h3, h4, h5, h6⟩ := h
  rw [← ht] at hgt hto
  have hlt := (List.getElem?_eq_some_iff.1 hgt).1
  refine ⟨hto.2, hlt, ?_, ?_, by rw [flatT_snoc _ _ _ hgt]; exact hown, (h6.alloc h6.size o).grown hg (by simp; have := h6.size; omega) (fun j e => (h5.lt j e).1)⟩
  · have := congrArg List.tail h3
    rw [Lx.rest_tok s k hk hb, ← ht, if_neg hz, List.tail_drop] at this
    exact this
  · rw [List.take_add_one, hgt]
    intro u hu
    rcases List.mem_append.1 hu with h | h
    · exact h4 u h
    · simp at h; rw [h]; exact hz
theorem rtok_end {s : ByteArray} {w wr : World} {v : Value} {k i : Nat} (h : rtokI s w v k i wr) (hk : ¬ k < s.size) : rtokRes (Lx.scan s.data.toList) v (-1) wr ∧ Below w.heap.size w wr := by
  obtain ⟨h1, h2, h3, h4, h5, h6⟩ := h
  have hi : i = (Lx.scan s.data.toList).length := by
    have := congrArg List.length h3
    rw [Lx.rest_end s k (by omega), List.length_drop] at this
    simp only [List.length_nil] at this
    omega
  subst hi
  rw [List.take_length] at h4 h5
  unfold rtokRes
  rw [Lx.badAt_none h4]
  exact ⟨⟨Reads.of_own h5, rfl⟩, h6⟩

set_option maxHeartbeats 16000000 in
set_option maxRecDepth 100000 in
theorem rtokens_any (s : ByteArray) (w : World) (hs : s.size ≤ 100000) :
    Calls Try.prog 23 #[.string s] w fun e w' => ∃ (v : Value) (at_ : Int), e = .returned (.tuple #[v, .int .i64 at_]) ∧ rtokRes (Lx.scan s.data.toList) v at_ w' ∧ Below w.heap.size w w' := by
  go_enter Try.func23, Try.ntmps23
  go_wp2
  go_loopw [4, 5] (fun v p wr => ∃ k i : Nat, p = .int .i64 k ∧ rtokI s w v k i wr) (fun _ p _ => s.size - (intOf p).toNat)
  case atStart => exact ⟨0, 0, rfl, Nat.zero_le _, Nat.zero_le _, (Lx.rest_zero s).symm, by simp, World.ownsRow_nil _ _ _ _, Below.refl _ _⟩
  case round =>
    obtain ⟨k, i, rfl, hI⟩ := hrel
    by_cases hlt : k < s.size
    · have hcl : (s[k].toNat : Int) ≤ 255 := u8_lt _
      cases hb : Lx.one s[k] [32, 9, 13, 10]
      · obtain ⟨_, hi⟩ := rtok_get hI hlt hb
        have hto := Lx.next_to s k hlt
        have hsz := hI.2.2.2.2.2.size
        have hown := hI.2.2.2.2.1
        have hk3 : i + 1 ≤ maxLen := by unfold maxLen; omega
        have hI := Lib.hid hI
        have hbl := (not_congr (Lx.blank_iff _)).1 (by rw [hb]; simp)
        have hb := Lib.hid hb
        cases h1 : Lx.one s[k] [40, 41, 44]
        · have hns := (not_congr (Lx.single_iff _)).1 (by rw [h1]; simp)
          cases h2 : Lx.letter s[k]
          · have hnl := (not_congr (Lx.letter_iff _)).1 (by rw [h2]; simp)
            cases h4 : Lx.inNumber s[k]
            · have hnn := (not_congr (Lx.num_iff _)).1 (by rw [h4]; simp)
              have hd : Lx.digit s[k] = false := by
                cases h : Lx.digit s[k]
                · rfl
                · exfalso; have := (Lx.digit_iff _).1 h; omega
              have HT := Lib.hid (Lx.next_none s k hlt h1 h2 h4)
              have HB : Hid (rtokRes (Lx.scan s.data.toList) (.slice none 0 0) k wr ∧ Below w.heap.size w wr) := rtok_bad hI.out hlt hb.out (by rw [← HT.out]) (by rw [← HT.out])
              have t32 : ((s[k].toNat : Int) == 32) = false := by rw [beq_eq_false_iff_ne]; omega
              have t9 : ((s[k].toNat : Int) == 9) = false := by rw [beq_eq_false_iff_ne]; omega
              have t13 : ((s[k].toNat : Int) == 13) = false := by rw [beq_eq_false_iff_ne]; omega
              have t10 : ((s[k].toNat : Int) == 10) = false := by rw [beq_eq_false_iff_ne]; omega
              have t40 : ((s[k].toNat : Int) == 40) = false := by rw [beq_eq_false_iff_ne]; omega
              have t41 : ((s[k].toNat : Int) == 41) = false := by rw [beq_eq_false_iff_ne]; omega
              have t44 : ((s[k].toNat : Int) == 44) = false := by rw [beq_eq_false_iff_ne]; omega
              have t43 : ((s[k].toNat : Int) == 43) = false := by rw [beq_eq_false_iff_ne]; omega
              have t45 : ((s[k].toNat : Int) == 45) = false := by rw [beq_eq_false_iff_ne]; omega
              have t46 : ((s[k].toNat : Int) == 46) = false := by rw [beq_eq_false_iff_ne]; omega
              clear hbl hns hnl hnn h1 h4 hto
              clear hown
              go_wp2_with (first | (go_at_call 45; refine (rletter_any _ _).mono ?_; rintro e w' ⟨rfl, rfl⟩) | (go_at_call 46; refine (rdigit_any _ _).mono ?_; rintro e w' ⟨rfl, rfl⟩))
              go_ret2
              exact ⟨_, _, rfl, HB.out.1, HB.out.2⟩
            · have hnn := (Lx.num_iff _).1 h4
              have Hrun := Lib.hid (Lx.run_one Lx.inNumber s k hlt h4)
              have Hnx := Lib.hid (fun n r b hn hr hb => Lx.next_number s k n r b hlt h1 h2 h4 hn hr hb)
              clear h1 h4 hto
              cases hd : Lx.digit s[k]
              · have hnd := (not_congr (Lx.digit_iff _)).1 (by rw [hd]; simp)
                have hst : (s[k].toNat : Int) = 43 ∨ (s[k].toNat : Int) = 45 ∨ (s[k].toNat : Int) = 46 := by omega
                clear hnn hnd hbl hns hnl
                rcases hst with hc | hc | hc
                · have t32 : ((s[k].toNat : Int) == 32) = false := by rw [beq_eq_false_iff_ne]; omega
                  have t9 : ((s[k].toNat : Int) == 9) = false := by rw [beq_eq_false_iff_ne]; omega
                  have t13 : ((s[k].toNat : Int) == 13) = false := by rw [beq_eq_false_iff_ne]; omega
                  have t10 : ((s[k].toNat : Int) == 10) = false := by rw [beq_eq_false_iff_ne]; omega
                  have t40 : ((s[k].toNat : Int) == 40) = false := by rw [beq_eq_false_iff_ne]; omega
                  have t41 : ((s[k].toNat : Int) == 41) = false := by rw [beq_eq_false_iff_ne]; omega
                  have t44 : ((s[k].toNat : Int) == 44) = false := by rw [beq_eq_false_iff_ne]; omega
                  have t43 : ((s[k].toNat : Int) == 43) = true := by rw [beq_iff_eq]; omega
                  have t45 : ((s[k].toNat : Int) == 45) = false := by rw [beq_eq_false_iff_ne]; omega
                  have t46 : ((s[k].toNat : Int) == 46) = false := by rw [beq_eq_false_iff_ne]; omega
                  clear hc
                  go_wp2_with (first | (go_at_call 45; refine (rletter_any _ _).mono ?_; rintro e w' ⟨rfl, rfl⟩) | (go_at_call 46; refine (rdigit_any _ _).mono ?_; rintro e w' ⟨rfl, rfl⟩))
                  go_loop [7] (fun p => ∃ j : Nat, p = .int .i64 j ∧ k < j ∧ j ≤ s.size ∧ j - k ≤ Lx.runLen Lx.inNumber (s.data.toList.drop k)) (fun p => s.size - (intOf p).toNat)
                  case atStart => exact ⟨k + 1, by go_num, by omega, by omega, Hrun.out⟩
                  case round =>
                    obtain ⟨j, rfl, hj1, hj2, hj3⟩ := hrel
                    have Hj3 := Lib.hid hj3
                    clear hj3
                    by_cases hjs : j < s.size
                    · cases h3 : Lx.inNumber s[j]
                      · have HN := Lib.hid (Lx.run_stop _ s k j (by omega) hjs Hj3.out h3)
                        have hn3 := (not_congr (Lx.num_iff _)).1 (by rw [h3]; simp)
                        have hdj : Lx.digit s[j] = false := by
                          cases h : Lx.digit s[j]
                          · rfl
                          · exfalso; have := (Lx.digit_iff _).1 h; omega
                        have q43 : ((s[j].toNat : Int) == 43) = false := by rw [beq_eq_false_iff_ne]; omega
                        have q45 : ((s[j].toNat : Int) == 45) = false := by rw [beq_eq_false_iff_ne]; omega
                        have q46 : ((s[j].toNat : Int) == 46) = false := by rw [beq_eq_false_iff_ne]; omega
                        have q101 : ((s[j].toNat : Int) == 101) = false := by rw [beq_eq_false_iff_ne]; omega
                        have q69 : ((s[j].toNat : Int) == 69) = false := by rw [beq_eq_false_iff_ne]; omega
                        clear hn3 h3
                        have Hex : Hid ((s.extract k j).data.toList = (s.data.toList.drop k).take (j - k)) := by unfold Hid; rw [Lib.extract_data]
                        go_wp2_with (first | (go_at_call 45; refine (rletter_any _ _).mono ?_; rintro e w' ⟨rfl, rfl⟩) | (go_at_call 46; refine (rdigit_any _ _).mono ?_; rintro e w' ⟨rfl, rfl⟩))
                        refine (rright_any _ _ (by unfold maxLen; rw [ByteArray.size_extract]; omega)).mono ?_
                        rintro e w' ⟨rfl, rfl⟩
                        cases hr : Lx.right (s.extract k j).data.toList
                        · have HT := Lib.hid (Hnx.out (j - k) _ false HN.out.symm Hex.out hr)
                          have HB : Hid (rtokRes (Lx.scan s.data.toList) (.slice none 0 0) k wr ∧ Below w.heap.size w wr) := rtok_bad hI.out hlt hb.out (by rw [← HT.out]; rfl) (by rw [← HT.out])
                          clear hown
                          go_wp2_with (first | (go_at_call 45; refine (rletter_any _ _).mono ?_; rintro e w' ⟨rfl, rfl⟩) | (go_at_call 46; refine (rdigit_any _ _).mono ?_; rintro e w' ⟨rfl, rfl⟩))
                          go_ret2
                          exact ⟨_, _, rfl, HB.out.1, HB.out.2⟩
                        · have HT : Hid ((⟨2, k, j⟩ : Lx.Tok) = Lx.next s.data.toList k) := by
                            have := Hnx.out (j - k) _ true HN.out.symm Hex.out hr
                            rw [show k + (j - k) = j from by omega] at this
                            exact this
                          have Hz : Hid ((⟨2, k, j⟩ : Lx.Tok).kind ≠ 0) := by unfold Hid; simp
                          go_wp2_with (first | (go_at_call 45; refine (rletter_any _ _).mono ?_; rintro e w' ⟨rfl, rfl⟩) | (go_at_call 46; refine (rdigit_any _ _).mono ?_; rintro e w' ⟨rfl, rfl⟩) | (at_builtin; refine wpList_append2 _ rfl _ _ 58 rfl w.heap.size 65 (.agg #[.int .i64 0, .int .i64 0, .int .i64 0]) 3 24 Try.underlying58 info_rtok rfl (by decide) _ i _ rfl (hown.alloc _) _ _ 1 [.int .i64 (2), .int .i64 (k : Int), .int .i64 (j : Int)] rfl (reads_new _ _ _ 1 1 (by decide) (by decide)) rfl ?c2 ?c3 ?c4 ?c5 ?_))
                          case c2 => simp [Value.oneCell']
                          try (case c3 => exact hk3)
                          case c4 => omega
                          case c5 => first | exact hsz | omega | (simp; omega)
                          intro v' w2 hown2 hgrow hmov
                          obtain ⟨a2, cap2, rfl⟩ := own_form hown2
                          have HI2 := Lib.hid (rtok_go hI.out hlt hb.out HT.out Hz.out (by simpa [tokC] using hown2) hgrow)
                          clear hown2 hgrow hmov hown
                          go_wp2_with fail
                          go_roundw
                          case rel => exact ⟨_, i + 1, by first | rfl | go_num | (simp; done), HI2.out⟩
                          case measure => simp [intOf]; omega
                      · have H := Lib.hid (Lx.run_go _ s k j (by omega) hjs Hj3.out h3)
                        have hn3 := (Lx.num_iff _).1 h3
                        clear h3
                        cases hdj : Lx.digit s[j]
                        · have hnd := (not_congr (Lx.digit_iff _)).1 (by rw [hdj]; simp)
                          have hn4 : (s[j].toNat : Int) = 43 ∨ (s[j].toNat : Int) = 45 ∨ (s[j].toNat : Int) = 46 ∨ (s[j].toNat : Int) = 101 ∨ (s[j].toNat : Int) = 69 := by omega
                          clear hn3 hnd
                          rcases hn4 with hc | hc | hc | hc | hc
                          · have q43 : ((s[j].toNat : Int) == 43) = true := by rw [beq_iff_eq]; omega
                            have q45 : ((s[j].toNat : Int) == 45) = false := by rw [beq_eq_false_iff_ne]; omega
                            have q46 : ((s[j].toNat : Int) == 46) = false := by rw [beq_eq_false_iff_ne]; omega
                            have q101 : ((s[j].toNat : Int) == 101) = false := by rw [beq_eq_false_iff_ne]; omega
                            have q69 : ((s[j].toNat : Int) == 69) = false := by rw [beq_eq_false_iff_ne]; omega
                            clear hc
                            go_wp2_with (first | (go_at_call 45; refine (rletter_any _ _).mono ?_; rintro e w' ⟨rfl, rfl⟩) | (go_at_call 46; refine (rdigit_any _ _).mono ?_; rintro e w' ⟨rfl, rfl⟩))
                            go_round
                            case rel => exact ⟨j + 1, by go_num, by omega, by omega, H.out⟩
                            case measure => simp [intOf]; omega
                          · have q43 : ((s[j].toNat : Int) == 43) = false := by rw [beq_eq_false_iff_ne]; omega
                            have q45 : ((s[j].toNat : Int) == 45) = true := by rw [beq_iff_eq]; omega
                            have q46 : ((s[j].toNat : Int) == 46) = false := by rw [beq_eq_false_iff_ne]; omega
                            have q101 : ((s[j].toNat : Int) == 101) = false := by rw [beq_eq_false_iff_ne]; omega
                            have q69 : ((s[j].toNat : Int) == 69) = false := by rw [beq_eq_false_iff_ne]; omega
                            clear hc
                            go_wp2_with (first | (go_at_call 45; refine (rletter_any _ _).mono ?_; rintro e w' ⟨rfl, rfl⟩) | (go_at_call 46; refine (rdigit_any _ _).mono ?_; rintro e w' ⟨rfl, rfl⟩))
                            go_round
                            case rel => exact ⟨j + 1, by go_num, by omega, by omega, H.out⟩
                            case measure => simp [intOf]; omega
                          · have q43 : ((s[j].toNat : Int) == 43) = false := by rw [beq_eq_false_iff_ne]; omega
                            have q45 : ((s[j].toNat : Int) == 45) = false := by rw [beq_eq_false_iff_ne]; omega
                            have q46 : ((s[j].toNat : Int) == 46) = true := by rw [beq_iff_eq]; omega
                            have q101 : ((s[j].toNat : Int) == 101) = false := by rw [beq_eq_false_iff_ne]; omega
                            have q69 : ((s[j].toNat : Int) == 69) = false := by rw [beq_eq_false_iff_ne]; omega
                            clear hc
                            go_wp2_with (first | (go_at_call 45; refine (rletter_any _ _).mono ?_; rintro e w' ⟨rfl, rfl⟩) | (go_at_call 46; refine (rdigit_any _ _).mono ?_; rintro e w' ⟨rfl, rfl⟩))
                            go_round
                            case rel => exact ⟨j + 1, by go_num, by omega, by omega, H.out⟩
                            case measure => simp [intOf]; omega
                          · have q43 : ((s[j].toNat : Int) == 43) = false := by rw [beq_eq_false_iff_ne]; omega
                            have q45 : ((s[j].toNat : Int) == 45) = false := by rw [beq_eq_false_iff_ne]; omega
                            have q46 : ((s[j].toNat : Int) == 46) = false := by rw [beq_eq_false_iff_ne]; omega
                            have q101 : ((s[j].toNat : Int) == 101) = true := by rw [beq_iff_eq]; omega
                            have q69 : ((s[j].toNat : Int) == 69) = false := by rw [beq_eq_false_iff_ne]; omega
                            clear hc
                            go_wp2_with (first | (go_at_call 45; refine (rletter_any _ _).mono ?_; rintro e w' ⟨rfl, rfl⟩) | (go_at_call 46; refine (rdigit_any _ _).mono ?_; rintro e w' ⟨rfl, rfl⟩))
                            go_round
                            case rel => exact ⟨j + 1, by go_num, by omega, by omega, H.out⟩
                            case measure => simp [intOf]; omega
                          · have q43 : ((s[j].toNat : Int) == 43) = false := by rw [beq_eq_false_iff_ne]; omega
                            have q45 : ((s[j].toNat : Int) == 45) = false := by rw [beq_eq_false_iff_ne]; omega
                            have q46 : ((s[j].toNat : Int) == 46) = false := by rw [beq_eq_false_iff_ne]; omega
                            have q101 : ((s[j].toNat : Int) == 101) = false := by rw [beq_eq_false_iff_ne]; omega
                            have q69 : ((s[j].toNat : Int) == 69) = true := by rw [beq_iff_eq]; omega
                            clear hc
                            go_wp2_with (first | (go_at_call 45; refine (rletter_any _ _).mono ?_; rintro e w' ⟨rfl, rfl⟩) | (go_at_call 46; refine (rdigit_any _ _).mono ?_; rintro e w' ⟨rfl, rfl⟩))
                            go_round
                            case rel => exact ⟨j + 1, by go_num, by omega, by omega, H.out⟩
                            case measure => simp [intOf]; omega
                        · clear hn3
                          go_wp2_with (first | (go_at_call 45; refine (rletter_any _ _).mono ?_; rintro e w' ⟨rfl, rfl⟩) | (go_at_call 46; refine (rdigit_any _ _).mono ?_; rintro e w' ⟨rfl, rfl⟩))
                          go_round
                          case rel => exact ⟨j + 1, by go_num, by omega, by omega, H.out⟩
                          case measure => simp [intOf]; omega
                    · have HN : Hid (Lx.runLen Lx.inNumber (s.data.toList.drop k) = j - k) := by
                        obtain rfl : j = s.size := by omega
                        exact Lx.run_full _ s k Hj3.out
                      have Hex : Hid ((s.extract k j).data.toList = (s.data.toList.drop k).take (j - k)) := by unfold Hid; rw [Lib.extract_data]
                      go_wp2_with (first | (go_at_call 45; refine (rletter_any _ _).mono ?_; rintro e w' ⟨rfl, rfl⟩) | (go_at_call 46; refine (rdigit_any _ _).mono ?_; rintro e w' ⟨rfl, rfl⟩))
                      refine (rright_any _ _ (by unfold maxLen; rw [ByteArray.size_extract]; omega)).mono ?_
                      rintro e w' ⟨rfl, rfl⟩
                      cases hr : Lx.right (s.extract k j).data.toList
                      · have HT := Lib.hid (Hnx.out (j - k) _ false HN.out.symm Hex.out hr)
                        have HB : Hid (rtokRes (Lx.scan s.data.toList) (.slice none 0 0) k wr ∧ Below w.heap.size w wr) := rtok_bad hI.out hlt hb.out (by rw [← HT.out]; rfl) (by rw [← HT.out])
                        clear hown
                        go_wp2_with (first | (go_at_call 45; refine (rletter_any _ _).mono ?_; rintro e w' ⟨rfl, rfl⟩) | (go_at_call 46; refine (rdigit_any _ _).mono ?_; rintro e w' ⟨rfl, rfl⟩))
                        go_ret2
                        exact ⟨_, _, rfl, HB.out.1, HB.out.2⟩
                      · have HT : Hid ((⟨2, k, j⟩ : Lx.Tok) = Lx.next s.data.toList k) := by
                          have := Hnx.out (j - k) _ true HN.out.symm Hex.out hr
                          rw [show k + (j - k) = j from by omega] at this
                          exact this
                        have Hz : Hid ((⟨2, k, j⟩ : Lx.Tok).kind ≠ 0) := by unfold Hid; simp
                        go_wp2_with (first | (go_at_call 45; refine (rletter_any _ _).mono ?_; rintro e w' ⟨rfl, rfl⟩) | (go_at_call 46; refine (rdigit_any _ _).mono ?_; rintro e w' ⟨rfl, rfl⟩) | (at_builtin; refine wpList_append2 _ rfl _ _ 58 rfl w.heap.size 65 (.agg #[.int .i64 0, .int .i64 0, .int .i64 0]) 3 24 Try.underlying58 info_rtok rfl (by decide) _ i _ rfl (hown.alloc _) _ _ 1 [.int .i64 (2), .int .i64 (k : Int), .int .i64 (j : Int)] rfl (reads_new _ _ _ 1 1 (by decide) (by decide)) rfl ?c2 ?c3 ?c4 ?c5 ?_))
                        case c2 => simp [Value.oneCell']
                        try (case c3 => exact hk3)
                        case c4 => omega
                        case c5 => first | exact hsz | omega | (simp; omega)
                        intro v' w2 hown2 hgrow hmov
                        obtain ⟨a2, cap2, rfl⟩ := own_form hown2
                        have HI2 := Lib.hid (rtok_go hI.out hlt hb.out HT.out Hz.out (by simpa [tokC] using hown2) hgrow)
                        clear hown2 hgrow hmov hown
                        go_wp2_with fail
                        go_roundw
                        case rel => exact ⟨_, i + 1, by first | rfl | go_num | (simp; done), HI2.out⟩
                        case measure => simp [intOf]; omega
                · have t32 : ((s[k].toNat : Int) == 32) = false := by rw [beq_eq_false_iff_ne]; omega
                  have t9 : ((s[k].toNat : Int) == 9) = false := by rw [beq_eq_false_iff_ne]; omega
                  have t13 : ((s[k].toNat : Int) == 13) = false := by rw [beq_eq_false_iff_ne]; omega
                  have t10 : ((s[k].toNat : Int) == 10) = false := by rw [beq_eq_false_iff_ne]; omega
                  have t40 : ((s[k].toNat : Int) == 40) = false := by rw [beq_eq_false_iff_ne]; omega
                  have t41 : ((s[k].toNat : Int) == 41) = false := by rw [beq_eq_false_iff_ne]; omega
                  have t44 : ((s[k].toNat : Int) == 44) = false := by rw [beq_eq_false_iff_ne]; omega
                  have t43 : ((s[k].toNat : Int) == 43) = false := by rw [beq_eq_false_iff_ne]; omega
                  have t45 : ((s[k].toNat : Int) == 45) = true := by rw [beq_iff_eq]; omega
                  have t46 : ((s[k].toNat : Int) == 46) = false := by rw [beq_eq_false_iff_ne]; omega
                  clear hc
                  go_wp2_with (first | (go_at_call 45; refine (rletter_any _ _).mono ?_; rintro e w' ⟨rfl, rfl⟩) | (go_at_call 46; refine (rdigit_any _ _).mono ?_; rintro e w' ⟨rfl, rfl⟩))
                  go_loop [7] (fun p => ∃ j : Nat, p = .int .i64 j ∧ k < j ∧ j ≤ s.size ∧ j - k ≤ Lx.runLen Lx.inNumber (s.data.toList.drop k)) (fun p => s.size - (intOf p).toNat)
                  case atStart => exact ⟨k + 1, by go_num, by omega, by omega, Hrun.out⟩
                  case round =>
                    obtain ⟨j, rfl, hj1, hj2, hj3⟩ := hrel
                    have Hj3 := Lib.hid hj3
                    clear hj3
                    by_cases hjs : j < s.size
                    · cases h3 : Lx.inNumber s[j]
                      · have HN := Lib.hid (Lx.run_stop _ s k j (by omega) hjs Hj3.out h3)
                        have hn3 := (not_congr (Lx.num_iff _)).1 (by rw [h3]; simp)
                        have hdj : Lx.digit s[j] = false := by
                          cases h : Lx.digit s[j]
                          · rfl
                          · exfalso; have := (Lx.digit_iff _).1 h; omega
                        have q43 : ((s[j].toNat : Int) == 43) = false := by rw [beq_eq_false_iff_ne]; omega
                        have q45 : ((s[j].toNat : Int) == 45) = false := by rw [beq_eq_false_iff_ne]; omega
                        have q46 : ((s[j].toNat : Int) == 46) = false := by rw [beq_eq_false_iff_ne]; omega
                        have q101 : ((s[j].toNat : Int) == 101) = false := by rw [beq_eq_false_iff_ne]; omega
                        have q69 : ((s[j].toNat : Int) == 69) = false := by rw [beq_eq_false_iff_ne]; omega
                        clear hn3 h3
                        have Hex : Hid ((s.extract k j).data.toList = (s.data.toList.drop k).take (j - k)) := by unfold Hid; rw [Lib.extract_data]
                        go_wp2_with (first | (go_at_call 45; refine (rletter_any _ _).mono ?_; rintro e w' ⟨rfl, rfl⟩) | (go_at_call 46; refine (rdigit_any _ _).mono ?_; rintro e w' ⟨rfl, rfl⟩))
                        refine (rright_any _ _ (by unfold maxLen; rw [ByteArray.size_extract]; omega)).mono ?_
                        rintro e w' ⟨rfl, rfl⟩
                        cases hr : Lx.right (s.extract k j).data.toList
                        · have HT := Lib.hid (Hnx.out (j - k) _ false HN.out.symm Hex.out hr)
                          have HB : Hid (rtokRes (Lx.scan s.data.toList) (.slice none 0 0) k wr ∧ Below w.heap.size w wr) := rtok_bad hI.out hlt hb.out (by rw [← HT.out]; rfl) (by rw [← HT.out])
                          clear hown
                          go_wp2_with (first | (go_at_call 45; refine (rletter_any _ _).mono ?_; rintro e w' ⟨rfl, rfl⟩) | (go_at_call 46; refine (rdigit_any _ _).mono ?_; rintro e w' ⟨rfl, rfl⟩))
                          go_ret2
                          exact ⟨_, _, rfl, HB.out.1, HB.out.2⟩
                        · have HT : Hid ((⟨2, k, j⟩ : Lx.Tok) = Lx.next s.data.toList k) := by
                            have := Hnx.out (j - k) _ true HN.out.symm Hex.out hr
                            rw [show k + (j - k) = j from by omega] at this
                            exact this
                          have Hz : Hid ((⟨2, k, j⟩ : Lx.Tok).kind ≠ 0) := by unfold Hid; simp
                          go_wp2_with (first | (go_at_call 45; refine (rletter_any _ _).mono ?_; rintro e w' ⟨rfl, rfl⟩) | (go_at_call 46; refine (rdigit_any _ _).mono ?_; rintro e w' ⟨rfl, rfl⟩) | (at_builtin; refine wpList_append2 _ rfl _ _ 58 rfl w.heap.size 65 (.agg #[.int .i64 0, .int .i64 0, .int .i64 0]) 3 24 Try.underlying58 info_rtok rfl (by decide) _ i _ rfl (hown.alloc _) _ _ 1 [.int .i64 (2), .int .i64 (k : Int), .int .i64 (j : Int)] rfl (reads_new _ _ _ 1 1 (by decide) (by decide)) rfl ?c2 ?c3 ?c4 ?c5 ?_))
                          case c2 => simp [Value.oneCell']
                          try (case c3 => exact hk3)
                          case c4 => omega
                          case c5 => first | exact hsz | omega | (simp; omega)
                          intro v' w2 hown2 hgrow hmov
                          obtain ⟨a2, cap2, rfl⟩ := own_form hown2
                          have HI2 := Lib.hid (rtok_go hI.out hlt hb.out HT.out Hz.out (by simpa [tokC] using hown2) hgrow)
                          clear hown2 hgrow hmov hown
                          go_wp2_with fail
                          go_roundw
                          case rel => exact ⟨_, i + 1, by first | rfl | go_num | (simp; done), HI2.out⟩
                          case measure => simp [intOf]; omega
                      · have H := Lib.hid (Lx.run_go _ s k j (by omega) hjs Hj3.out h3)
                        have hn3 := (Lx.num_iff _).1 h3
                        clear h3
                        cases hdj : Lx.digit s[j]
                        · have hnd := (not_congr (Lx.digit_iff _)).1 (by rw [hdj]; simp)
                          have hn4 : (s[j].toNat : Int) = 43 ∨ (s[j].toNat : Int) = 45 ∨ (s[j].toNat : Int) = 46 ∨ (s[j].toNat : Int) = 101 ∨ (s[j].toNat : Int) = 69 := by omega
                          clear hn3 hnd
                          rcases hn4 with hc | hc | hc | hc | hc
                          · have q43 : ((s[j].toNat : Int) == 43) = true := by rw [beq_iff_eq]; omega
                            have q45 : ((s[j].toNat : Int) == 45) = false := by rw [beq_eq_false_iff_ne]; omega
                            have q46 : ((s[j].toNat : Int) == 46) = false := by rw [beq_eq_false_iff_ne]; omega
                            have q101 : ((s[j].toNat : Int) == 101) = false := by rw [beq_eq_false_iff_ne]; omega
                            have q69 : ((s[j].toNat : Int) == 69) = false := by rw [beq_eq_false_iff_ne]; omega
                            clear hc
                            go_wp2_with (first | (go_at_call 45; refine (rletter_any _ _).mono ?_; rintro e w' ⟨rfl, rfl⟩) | (go_at_call 46; refine (rdigit_any _ _).mono ?_; rintro e w' ⟨rfl, rfl⟩))
                            go_round
                            case rel => exact ⟨j + 1, by go_num, by omega, by omega, H.out⟩
                            case measure => simp [intOf]; omega
                          · have q43 : ((s[j].toNat : Int) == 43) = false := by rw [beq_eq_false_iff_ne]; omega
                            have q45 : ((s[j].toNat : Int) == 45) = true := by rw [beq_iff_eq]; omega
                            have q46 : ((s[j].toNat : Int) == 46) = false := by rw [beq_eq_false_iff_ne]; omega
                            have q101 : ((s[j].toNat : Int) == 101) = false := by rw [beq_eq_false_iff_ne]; omega
                            have q69 : ((s[j].toNat : Int) == 69) = false := by rw [beq_eq_false_iff_ne]; omega
                            clear hc
                            go_wp2_with (first | (go_at_call 45; refine (rletter_any _ _).mono ?_; rintro e w' ⟨rfl, rfl⟩) | (go_at_call 46; refine (rdigit_any _ _).mono ?_; rintro e w' ⟨rfl, rfl⟩))
                            go_round
                            case rel => exact ⟨j + 1, by go_num, by omega, by omega, H.out⟩
                            case measure => simp [intOf]; omega
                          · have q43 : ((s[j].toNat : Int) == 43) = false := by rw [beq_eq_false_iff_ne]; omega
                            have q45 : ((s[j].toNat : Int) == 45) = false := by rw [beq_eq_false_iff_ne]; omega
                            have q46 : ((s[j].toNat : Int) == 46) = true := by rw [beq_iff_eq]; omega
                            have q101 : ((s[j].toNat : Int) == 101) = false := by rw [beq_eq_false_iff_ne]; omega
                            have q69 : ((s[j].toNat : Int) == 69) = false := by rw [beq_eq_false_iff_ne]; omega
                            clear hc
                            go_wp2_with (first | (go_at_call 45; refine (rletter_any _ _).mono ?_; rintro e w' ⟨rfl, rfl⟩) | (go_at_call 46; refine (rdigit_any _ _).mono ?_; rintro e w' ⟨rfl, rfl⟩))
                            go_round
                            case rel => exact ⟨j + 1, by go_num, by omega, by omega, H.out⟩
                            case measure => simp [intOf]; omega
                          · have q43 : ((s[j].toNat : Int) == 43) = false := by rw [beq_eq_false_iff_ne]; omega
                            have q45 : ((s[j].toNat : Int) == 45) = false := by rw [beq_eq_false_iff_ne]; omega
                            have q46 : ((s[j].toNat : Int) == 46) = false := by rw [beq_eq_false_iff_ne]; omega
                            have q101 : ((s[j].toNat : Int) == 101) = true := by rw [beq_iff_eq]; omega
                            have q69 : ((s[j].toNat : Int) == 69) = false := by rw [beq_eq_false_iff_ne]; omega
                            clear hc
                            go_wp2_with (first | (go_at_call 45; refine (rletter_any _ _).mono ?_; rintro e w' ⟨rfl, rfl⟩) | (go_at_call 46; refine (rdigit_any _ _).mono ?_; rintro e w' ⟨rfl, rfl⟩))
                            go_round
                            case rel => exact ⟨j + 1, by go_num, by omega, by omega, H.out⟩
                            case measure => simp [intOf]; omega
                          · have q43 : ((s[j].toNat : Int) == 43) = false := by rw [beq_eq_false_iff_ne]; omega
                            have q45 : ((s[j].toNat : Int) == 45) = false := by rw [beq_eq_false_iff_ne]; omega
                            have q46 : ((s[j].toNat : Int) == 46) = false := by rw [beq_eq_false_iff_ne]; omega
                            have q101 : ((s[j].toNat : Int) == 101) = false := by rw [beq_eq_false_iff_ne]; omega
                            have q69 : ((s[j].toNat : Int) == 69) = true := by rw [beq_iff_eq]; omega
                            clear hc
                            go_wp2_with (first | (go_at_call 45; refine (rletter_any _ _).mono ?_; rintro e w' ⟨rfl, rfl⟩) | (go_at_call 46; refine (rdigit_any _ _).mono ?_; rintro e w' ⟨rfl, rfl⟩))
                            go_round
                            case rel => exact ⟨j + 1, by go_num, by omega, by omega, H.out⟩
                            case measure => simp [intOf]; omega
                        · clear hn3
                          go_wp2_with (first | (go_at_call 45; refine (rletter_any _ _).mono ?_; rintro e w' ⟨rfl, rfl⟩) | (go_at_call 46; refine (rdigit_any _ _).mono ?_; rintro e w' ⟨rfl, rfl⟩))
                          go_round
                          case rel => exact ⟨j + 1, by go_num, by omega, by omega, H.out⟩
                          case measure => simp [intOf]; omega
                    · have HN : Hid (Lx.runLen Lx.inNumber (s.data.toList.drop k) = j - k) := by
                        obtain rfl : j = s.size := by omega
                        exact Lx.run_full _ s k Hj3.out
                      have Hex : Hid ((s.extract k j).data.toList = (s.data.toList.drop k).take (j - k)) := by unfold Hid; rw [Lib.extract_data]
                      go_wp2_with (first | (go_at_call 45; refine (rletter_any _ _).mono ?_; rintro e w' ⟨rfl, rfl⟩) | (go_at_call 46; refine (rdigit_any _ _).mono ?_; rintro e w' ⟨rfl, rfl⟩))
                      refine (rright_any _ _ (by unfold maxLen; rw [ByteArray.size_extract]; omega)).mono ?_
                      rintro e w' ⟨rfl, rfl⟩
                      cases hr : Lx.right (s.extract k j).data.toList
                      · have HT := Lib.hid (Hnx.out (j - k) _ false HN.out.symm Hex.out hr)
                        have HB : Hid (rtokRes (Lx.scan s.data.toList) (.slice none 0 0) k wr ∧ Below w.heap.size w wr) := rtok_bad hI.out hlt hb.out (by rw [← HT.out]; rfl) (by rw [← HT.out])
                        clear hown
                        go_wp2_with (first | (go_at_call 45; refine (rletter_any _ _).mono ?_; rintro e w' ⟨rfl, rfl⟩) | (go_at_call 46; refine (rdigit_any _ _).mono ?_; rintro e w' ⟨rfl, rfl⟩))
                        go_ret2
                        exact ⟨_, _, rfl, HB.out.1, HB.out.2⟩
                      · have HT : Hid ((⟨2, k, j⟩ : Lx.Tok) = Lx.next s.data.toList k) := by
                          have := Hnx.out (j - k) _ true HN.out.symm Hex.out hr
                          rw [show k + (j - k) = j from by omega] at this
                          exact this
                        have Hz : Hid ((⟨2, k, j⟩ : Lx.Tok).kind ≠ 0) := by unfold Hid; simp
                        go_wp2_with (first | (go_at_call 45; refine (rletter_any _ _).mono ?_; rintro e w' ⟨rfl, rfl⟩) | (go_at_call 46; refine (rdigit_any _ _).mono ?_; rintro e w' ⟨rfl, rfl⟩) | (at_builtin; refine wpList_append2 _ rfl _ _ 58 rfl w.heap.size 65 (.agg #[.int .i64 0, .int .i64 0, .int .i64 0]) 3 24 Try.underlying58 info_rtok rfl (by decide) _ i _ rfl (hown.alloc _) _ _ 1 [.int .i64 (2), .int .i64 (k : Int), .int .i64 (j : Int)] rfl (reads_new _ _ _ 1 1 (by decide) (by decide)) rfl ?c2 ?c3 ?c4 ?c5 ?_))
                        case c2 => simp [Value.oneCell']
                        try (case c3 => exact hk3)
                        case c4 => omega
                        case c5 => first | exact hsz | omega | (simp; omega)
                        intro v' w2 hown2 hgrow hmov
                        obtain ⟨a2, cap2, rfl⟩ := own_form hown2
                        have HI2 := Lib.hid (rtok_go hI.out hlt hb.out HT.out Hz.out (by simpa [tokC] using hown2) hgrow)
                        clear hown2 hgrow hmov hown
                        go_wp2_with fail
                        go_roundw
                        case rel => exact ⟨_, i + 1, by first | rfl | go_num | (simp; done), HI2.out⟩
                        case measure => simp [intOf]; omega
                · have t32 : ((s[k].toNat : Int) == 32) = false := by rw [beq_eq_false_iff_ne]; omega
                  have t9 : ((s[k].toNat : Int) == 9) = false := by rw [beq_eq_false_iff_ne]; omega
                  have t13 : ((s[k].toNat : Int) == 13) = false := by rw [beq_eq_false_iff_ne]; omega
                  have t10 : ((s[k].toNat : Int) == 10) = false := by rw [beq_eq_false_iff_ne]; omega
                  have t40 : ((s[k].toNat : Int) == 40) = false := by rw [beq_eq_false_iff_ne]; omega
                  have t41 : ((s[k].toNat : Int) == 41) = false := by rw [beq_eq_false_iff_ne]; omega
                  have t44 : ((s[k].toNat : Int) == 44) = false := by rw [beq_eq_false_iff_ne]; omega
                  have t43 : ((s[k].toNat : Int) == 43) = false := by rw [beq_eq_false_iff_ne]; omega
                  have t45 : ((s[k].toNat : Int) == 45) = false := by rw [beq_eq_false_iff_ne]; omega
                  have t46 : ((s[k].toNat : Int) == 46) = true := by rw [beq_iff_eq]; omega
                  clear hc
                  go_wp2_with (first | (go_at_call 45; refine (rletter_any _ _).mono ?_; rintro e w' ⟨rfl, rfl⟩) | (go_at_call 46; refine (rdigit_any _ _).mono ?_; rintro e w' ⟨rfl, rfl⟩))
                  go_loop [7] (fun p => ∃ j : Nat, p = .int .i64 j ∧ k < j ∧ j ≤ s.size ∧ j - k ≤ Lx.runLen Lx.inNumber (s.data.toList.drop k)) (fun p => s.size - (intOf p).toNat)
                  case atStart => exact ⟨k + 1, by go_num, by omega, by omega, Hrun.out⟩
                  case round =>
                    obtain ⟨j, rfl, hj1, hj2, hj3⟩ := hrel
                    have Hj3 := Lib.hid hj3
                    clear hj3
                    by_cases hjs : j < s.size
                    · cases h3 : Lx.inNumber s[j]
                      · have HN := Lib.hid (Lx.run_stop _ s k j (by omega) hjs Hj3.out h3)
                        have hn3 := (not_congr (Lx.num_iff _)).1 (by rw [h3]; simp)
                        have hdj : Lx.digit s[j] = false := by
                          cases h : Lx.digit s[j]
                          · rfl
                          · exfalso; have := (Lx.digit_iff _).1 h; omega
                        have q43 : ((s[j].toNat : Int) == 43) = false := by rw [beq_eq_false_iff_ne]; omega
                        have q45 : ((s[j].toNat : Int) == 45) = false := by rw [beq_eq_false_iff_ne]; omega
                        have q46 : ((s[j].toNat : Int) == 46) = false := by rw [beq_eq_false_iff_ne]; omega
                        have q101 : ((s[j].toNat : Int) == 101) = false := by rw [beq_eq_false_iff_ne]; omega
                        have q69 : ((s[j].toNat : Int) == 69) = false := by rw [beq_eq_false_iff_ne]; omega
                        clear hn3 h3
                        have Hex : Hid ((s.extract k j).data.toList = (s.data.toList.drop k).take (j - k)) := by unfold Hid; rw [Lib.extract_data]
                        go_wp2_with (first | (go_at_call 45; refine (rletter_any _ _).mono ?_; rintro e w' ⟨rfl, rfl⟩) | (go_at_call 46; refine (rdigit_any _ _).mono ?_; rintro e w' ⟨rfl, rfl⟩))
                        refine (rright_any _ _ (by unfold maxLen; rw [ByteArray.size_extract]; omega)).mono ?_
                        rintro e w' ⟨rfl, rfl⟩
                        cases hr : Lx.right (s.extract k j).data.toList
                        · have HT := Lib.hid (Hnx.out (j - k) _ false HN.out.symm Hex.out hr)
                          have HB : Hid (rtokRes (Lx.scan s.data.toList) (.slice none 0 0) k wr ∧ Below w.heap.size w wr) := rtok_bad hI.out hlt hb.out (by rw [← HT.out]; rfl) (by rw [← HT.out])
                          clear hown
                          go_wp2_with (first | (go_at_call 45; refine (rletter_any _ _).mono ?_; rintro e w' ⟨rfl, rfl⟩) | (go_at_call 46; refine (rdigit_any _ _).mono ?_; rintro e w' ⟨rfl, rfl⟩))
                          go_ret2
                          exact ⟨_, _, rfl, HB.out.1, HB.out.2⟩
                        · have HT : Hid ((⟨2, k, j⟩ : Lx.Tok) = Lx.next s.data.toList k) := by
                            have := Hnx.out (j - k) _ true HN.out.symm Hex.out hr
                            rw [show k + (j - k) = j from by omega] at this
                            exact this
                          have Hz : Hid ((⟨2, k, j⟩ : Lx.Tok).kind ≠ 0) := by unfold Hid; simp
                          go_wp2_with (first | (go_at_call 45; refine (rletter_any _ _).mono ?_; rintro e w' ⟨rfl, rfl⟩) | (go_at_call 46; refine (rdigit_any _ _).mono ?_; rintro e w' ⟨rfl, rfl⟩) | (at_builtin; refine wpList_append2 _ rfl _ _ 58 rfl w.heap.size 65 (.agg #[.int .i64 0, .int .i64 0, .int .i64 0]) 3 24 Try.underlying58 info_rtok rfl (by decide) _ i _ rfl (hown.alloc _) _ _ 1 [.int .i64 (2), .int .i64 (k : Int), .int .i64 (j : Int)] rfl (reads_new _ _ _ 1 1 (by decide) (by decide)) rfl ?c2 ?c3 ?c4 ?c5 ?_))
                          case c2 => simp [Value.oneCell']
                          try (case c3 => exact hk3)
                          case c4 => omega
                          case c5 => first | exact hsz | omega | (simp; omega)
                          intro v' w2 hown2 hgrow hmov
                          obtain ⟨a2, cap2, rfl⟩ := own_form hown2
                          have HI2 := Lib.hid (rtok_go hI.out hlt hb.out HT.out Hz.out (by simpa [tokC] using hown2) hgrow)
                          clear hown2 hgrow hmov hown
                          go_wp2_with fail
                          go_roundw
                          case rel => exact ⟨_, i + 1, by first | rfl | go_num | (simp; done), HI2.out⟩
                          case measure => simp [intOf]; omega
                      · have H := Lib.hid (Lx.run_go _ s k j (by omega) hjs Hj3.out h3)
                        have hn3 := (Lx.num_iff _).1 h3
                        clear h3
                        cases hdj : Lx.digit s[j]
                        · have hnd := (not_congr (Lx.digit_iff _)).1 (by rw [hdj]; simp)
                          have hn4 : (s[j].toNat : Int) = 43 ∨ (s[j].toNat : Int) = 45 ∨ (s[j].toNat : Int) = 46 ∨ (s[j].toNat : Int) = 101 ∨ (s[j].toNat : Int) = 69 := by omega
                          clear hn3 hnd
                          rcases hn4 with hc | hc | hc | hc | hc
                          · have q43 : ((s[j].toNat : Int) == 43) = true := by rw [beq_iff_eq]; omega
                            have q45 : ((s[j].toNat : Int) == 45) = false := by rw [beq_eq_false_iff_ne]; omega
                            have q46 : ((s[j].toNat : Int) == 46) = false := by rw [beq_eq_false_iff_ne]; omega
                            have q101 : ((s[j].toNat : Int) == 101) = false := by rw [beq_eq_false_iff_ne]; omega
                            have q69 : ((s[j].toNat : Int) == 69) = false := by rw [beq_eq_false_iff_ne]; omega
                            clear hc
                            go_wp2_with (first | (go_at_call 45; refine (rletter_any _ _).mono ?_; rintro e w' ⟨rfl, rfl⟩) | (go_at_call 46; refine (rdigit_any _ _).mono ?_; rintro e w' ⟨rfl, rfl⟩))
                            go_round
                            case rel => exact ⟨j + 1, by go_num, by omega, by omega, H.out⟩
                            case measure => simp [intOf]; omega
                          · have q43 : ((s[j].toNat : Int) == 43) = false := by rw [beq_eq_false_iff_ne]; omega
                            have q45 : ((s[j].toNat : Int) == 45) = true := by rw [beq_iff_eq]; omega
                            have q46 : ((s[j].toNat : Int) == 46) = false := by rw [beq_eq_false_iff_ne]; omega
                            have q101 : ((s[j].toNat : Int) == 101) = false := by rw [beq_eq_false_iff_ne]; omega
                            have q69 : ((s[j].toNat : Int) == 69) = false := by rw [beq_eq_false_iff_ne]; omega
                            clear hc
                            go_wp2_with (first | (go_at_call 45; refine (rletter_any _ _).mono ?_; rintro e w' ⟨rfl, rfl⟩) | (go_at_call 46; refine (rdigit_any _ _).mono ?_; rintro e w' ⟨rfl, rfl⟩))
                            go_round
                            case rel => exact ⟨j + 1, by go_num, by omega, by omega, H.out⟩
                            case measure => simp [intOf]; omega
                          · have q43 : ((s[j].toNat : Int) == 43) = false := by rw [beq_eq_false_iff_ne]; omega
                            have q45 : ((s[j].toNat : Int) == 45) = false := by rw [beq_eq_false_iff_ne]; omega
                            have q46 : ((s[j].toNat : Int) == 46) = true := by rw [beq_iff_eq]; omega
                            have q101 : ((s[j].toNat : Int) == 101) = false := by rw [beq_eq_false_iff_ne]; omega
                            have q69 : ((s[j].toNat : Int) == 69) = false := by rw [beq_eq_false_iff_ne]; omega
                            clear hc
                            go_wp2_with (first | (go_at_call 45; refine (rletter_any _ _).mono ?_; rintro e w' ⟨rfl, rfl⟩) | (go_at_call 46; refine (rdigit_any _ _).mono ?_; rintro e w' ⟨rfl, rfl⟩))
                            go_round
                            case rel => exact ⟨j + 1, by go_num, by omega, by omega, H.out⟩
                            case measure => simp [intOf]; omega
                          · have q43 : ((s[j].toNat : Int) == 43) = false := by rw [beq_eq_false_iff_ne]; omega
                            have q45 : ((s[j].toNat : Int) == 45) = false := by rw [beq_eq_false_iff_ne]; omega
                            have q46 : ((s[j].toNat : Int) == 46) = false := by rw [beq_eq_false_iff_ne]; omega
                            have q101 : ((s[j].toNat : Int) == 101) = true := by rw [beq_iff_eq]; omega
                            have q69 : ((s[j].toNat : Int) == 69) = false := by rw [beq_eq_false_iff_ne]; omega
                            clear hc
                            go_wp2_with (first | (go_at_call 45; refine (rletter_any _ _).mono ?_; rintro e w' ⟨rfl, rfl⟩) | (go_at_call 46; refine (rdigit_any _ _).mono ?_; rintro e w' ⟨rfl, rfl⟩))
                            go_round
                            case rel => exact ⟨j + 1, by go_num, by omega, by omega, H.out⟩
                            case measure => simp [intOf]; omega
                          · have q43 : ((s[j].toNat : Int) == 43) = false := by rw [beq_eq_false_iff_ne]; omega
                            have q45 : ((s[j].toNat : Int) == 45) = false := by rw [beq_eq_false_iff_ne]; omega
                            have q46 : ((s[j].toNat : Int) == 46) = false := by rw [beq_eq_false_iff_ne]; omega
                            have q101 : ((s[j].toNat : Int) == 101) = false := by rw [beq_eq_false_iff_ne]; omega
                            have q69 : ((s[j].toNat : Int) == 69) = true := by rw [beq_iff_eq]; omega
                            clear hc
                            go_wp2_with (first | (go_at_call 45; refine (rletter_any _ _).mono ?_; rintro e w' ⟨rfl, rfl⟩) | (go_at_call 46; refine (rdigit_any _ _).mono ?_; rintro e w' ⟨rfl, rfl⟩))
                            go_round
                            case rel => exact ⟨j + 1, by go_num, by omega, by omega, H.out⟩
                            case measure => simp [intOf]; omega
                        · clear hn3
                          go_wp2_with (first | (go_at_call 45; refine (rletter_any _ _).mono ?_; rintro e w' ⟨rfl, rfl⟩) | (go_at_call 46; refine (rdigit_any _ _).mono ?_; rintro e w' ⟨rfl, rfl⟩))
                          go_round
                          case rel => exact ⟨j + 1, by go_num, by omega, by omega, H.out⟩
                          case measure => simp [intOf]; omega
                    · have HN : Hid (Lx.runLen Lx.inNumber (s.data.toList.drop k) = j - k) := by
                        obtain rfl : j = s.size := by omega
                        exact Lx.run_full _ s k Hj3.out
                      have Hex : Hid ((s.extract k j).data.toList = (s.data.toList.drop k).take (j - k)) := by unfold Hid; rw [Lib.extract_data]
                      go_wp2_with (first | (go_at_call 45; refine (rletter_any _ _).mono ?_; rintro e w' ⟨rfl, rfl⟩) | (go_at_call 46; refine (rdigit_any _ _).mono ?_; rintro e w' ⟨rfl, rfl⟩))
                      refine (rright_any _ _ (by unfold maxLen; rw [ByteArray.size_extract]; omega)).mono ?_
                      rintro e w' ⟨rfl, rfl⟩
                      cases hr : Lx.right (s.extract k j).data.toList
                      · have HT := Lib.hid (Hnx.out (j - k) _ false HN.out.symm Hex.out hr)
                        have HB : Hid (rtokRes (Lx.scan s.data.toList) (.slice none 0 0) k wr ∧ Below w.heap.size w wr) := rtok_bad hI.out hlt hb.out (by rw [← HT.out]; rfl) (by rw [← HT.out])
                        clear hown
                        go_wp2_with (first | (go_at_call 45; refine (rletter_any _ _).mono ?_; rintro e w' ⟨rfl, rfl⟩) | (go_at_call 46; refine (rdigit_any _ _).mono ?_; rintro e w' ⟨rfl, rfl⟩))
                        go_ret2
                        exact ⟨_, _, rfl, HB.out.1, HB.out.2⟩
                      · have HT : Hid ((⟨2, k, j⟩ : Lx.Tok) = Lx.next s.data.toList k) := by
                          have := Hnx.out (j - k) _ true HN.out.symm Hex.out hr
                          rw [show k + (j - k) = j from by omega] at this
                          exact this
                        have Hz : Hid ((⟨2, k, j⟩ : Lx.Tok).kind ≠ 0) := by unfold Hid; simp
                        go_wp2_with (first | (go_at_call 45; refine (rletter_any _ _).mono ?_; rintro e w' ⟨rfl, rfl⟩) | (go_at_call 46; refine (rdigit_any _ _).mono ?_; rintro e w' ⟨rfl, rfl⟩) | (at_builtin; refine wpList_append2 _ rfl _ _ 58 rfl w.heap.size 65 (.agg #[.int .i64 0, .int .i64 0, .int .i64 0]) 3 24 Try.underlying58 info_rtok rfl (by decide) _ i _ rfl (hown.alloc _) _ _ 1 [.int .i64 (2), .int .i64 (k : Int), .int .i64 (j : Int)] rfl (reads_new _ _ _ 1 1 (by decide) (by decide)) rfl ?c2 ?c3 ?c4 ?c5 ?_))
                        case c2 => simp [Value.oneCell']
                        try (case c3 => exact hk3)
                        case c4 => omega
                        case c5 => first | exact hsz | omega | (simp; omega)
                        intro v' w2 hown2 hgrow hmov
                        obtain ⟨a2, cap2, rfl⟩ := own_form hown2
                        have HI2 := Lib.hid (rtok_go hI.out hlt hb.out HT.out Hz.out (by simpa [tokC] using hown2) hgrow)
                        clear hown2 hgrow hmov hown
                        go_wp2_with fail
                        go_roundw
                        case rel => exact ⟨_, i + 1, by first | rfl | go_num | (simp; done), HI2.out⟩
                        case measure => simp [intOf]; omega
              · have hdd := (Lx.digit_iff _).1 hd
                have t32 : ((s[k].toNat : Int) == 32) = false := by rw [beq_eq_false_iff_ne]; omega
                have t9 : ((s[k].toNat : Int) == 9) = false := by rw [beq_eq_false_iff_ne]; omega
                have t13 : ((s[k].toNat : Int) == 13) = false := by rw [beq_eq_false_iff_ne]; omega
                have t10 : ((s[k].toNat : Int) == 10) = false := by rw [beq_eq_false_iff_ne]; omega
                have t40 : ((s[k].toNat : Int) == 40) = false := by rw [beq_eq_false_iff_ne]; omega
                have t41 : ((s[k].toNat : Int) == 41) = false := by rw [beq_eq_false_iff_ne]; omega
                have t44 : ((s[k].toNat : Int) == 44) = false := by rw [beq_eq_false_iff_ne]; omega
                have t43 : ((s[k].toNat : Int) == 43) = false := by rw [beq_eq_false_iff_ne]; omega
                have t45 : ((s[k].toNat : Int) == 45) = false := by rw [beq_eq_false_iff_ne]; omega
                have t46 : ((s[k].toNat : Int) == 46) = false := by rw [beq_eq_false_iff_ne]; omega
                clear hnn hbl hns hnl hdd
                go_wp2_with (first | (go_at_call 45; refine (rletter_any _ _).mono ?_; rintro e w' ⟨rfl, rfl⟩) | (go_at_call 46; refine (rdigit_any _ _).mono ?_; rintro e w' ⟨rfl, rfl⟩))
                go_loop [7] (fun p => ∃ j : Nat, p = .int .i64 j ∧ k < j ∧ j ≤ s.size ∧ j - k ≤ Lx.runLen Lx.inNumber (s.data.toList.drop k)) (fun p => s.size - (intOf p).toNat)
                case atStart => exact ⟨k + 1, by go_num, by omega, by omega, Hrun.out⟩
                case round =>
                  obtain ⟨j, rfl, hj1, hj2, hj3⟩ := hrel
                  have Hj3 := Lib.hid hj3
                  clear hj3
                  by_cases hjs : j < s.size
                  · cases h3 : Lx.inNumber s[j]
                    · have HN := Lib.hid (Lx.run_stop _ s k j (by omega) hjs Hj3.out h3)
                      have hn3 := (not_congr (Lx.num_iff _)).1 (by rw [h3]; simp)
                      have hdj : Lx.digit s[j] = false := by
                        cases h : Lx.digit s[j]
                        · rfl
                        · exfalso; have := (Lx.digit_iff _).1 h; omega
                      have q43 : ((s[j].toNat : Int) == 43) = false := by rw [beq_eq_false_iff_ne]; omega
                      have q45 : ((s[j].toNat : Int) == 45) = false := by rw [beq_eq_false_iff_ne]; omega
                      have q46 : ((s[j].toNat : Int) == 46) = false := by rw [beq_eq_false_iff_ne]; omega
                      have q101 : ((s[j].toNat : Int) == 101) = false := by rw [beq_eq_false_iff_ne]; omega
                      have q69 : ((s[j].toNat : Int) == 69) = false := by rw [beq_eq_false_iff_ne]; omega
                      clear hn3 h3
                      have Hex : Hid ((s.extract k j).data.toList = (s.data.toList.drop k).take (j - k)) := by unfold Hid; rw [Lib.extract_data]
                      go_wp2_with (first | (go_at_call 45; refine (rletter_any _ _).mono ?_; rintro e w' ⟨rfl, rfl⟩) | (go_at_call 46; refine (rdigit_any _ _).mono ?_; rintro e w' ⟨rfl, rfl⟩))
                      refine (rright_any _ _ (by unfold maxLen; rw [ByteArray.size_extract]; omega)).mono ?_
                      rintro e w' ⟨rfl, rfl⟩
                      cases hr : Lx.right (s.extract k j).data.toList
                      · have HT := Lib.hid (Hnx.out (j - k) _ false HN.out.symm Hex.out hr)
                        have HB : Hid (rtokRes (Lx.scan s.data.toList) (.slice none 0 0) k wr ∧ Below w.heap.size w wr) := rtok_bad hI.out hlt hb.out (by rw [← HT.out]; rfl) (by rw [← HT.out])
                        clear hown
                        go_wp2_with (first | (go_at_call 45; refine (rletter_any _ _).mono ?_; rintro e w' ⟨rfl, rfl⟩) | (go_at_call 46; refine (rdigit_any _ _).mono ?_; rintro e w' ⟨rfl, rfl⟩))
                        go_ret2
                        exact ⟨_, _, rfl, HB.out.1, HB.out.2⟩
                      · have HT : Hid ((⟨2, k, j⟩ : Lx.Tok) = Lx.next s.data.toList k) := by
                          have := Hnx.out (j - k) _ true HN.out.symm Hex.out hr
                          rw [show k + (j - k) = j from by omega] at this
                          exact this
                        have Hz : Hid ((⟨2, k, j⟩ : Lx.Tok).kind ≠ 0) := by unfold Hid; simp
                        go_wp2_with (first | (go_at_call 45; refine (rletter_any _ _).mono ?_; rintro e w' ⟨rfl, rfl⟩) | (go_at_call 46; refine (rdigit_any _ _).mono ?_; rintro e w' ⟨rfl, rfl⟩) | (at_builtin; refine wpList_append2 _ rfl _ _ 58 rfl w.heap.size 65 (.agg #[.int .i64 0, .int .i64 0, .int .i64 0]) 3 24 Try.underlying58 info_rtok rfl (by decide) _ i _ rfl (hown.alloc _) _ _ 1 [.int .i64 (2), .int .i64 (k : Int), .int .i64 (j : Int)] rfl (reads_new _ _ _ 1 1 (by decide) (by decide)) rfl ?c2 ?c3 ?c4 ?c5 ?_))
                        case c2 => simp [Value.oneCell']
                        try (case c3 => exact hk3)
                        case c4 => omega
                        case c5 => first | exact hsz | omega | (simp; omega)
                        intro v' w2 hown2 hgrow hmov
                        obtain ⟨a2, cap2, rfl⟩ := own_form hown2
                        have HI2 := Lib.hid (rtok_go hI.out hlt hb.out HT.out Hz.out (by simpa [tokC] using hown2) hgrow)
                        clear hown2 hgrow hmov hown
                        go_wp2_with fail
                        go_roundw
                        case rel => exact ⟨_, i + 1, by first | rfl | go_num | (simp; done), HI2.out⟩
                        case measure => simp [intOf]; omega
                    · have H := Lib.hid (Lx.run_go _ s k j (by omega) hjs Hj3.out h3)
                      have hn3 := (Lx.num_iff _).1 h3
                      clear h3
                      cases hdj : Lx.digit s[j]
                      · have hnd := (not_congr (Lx.digit_iff _)).1 (by rw [hdj]; simp)
                        have hn4 : (s[j].toNat : Int) = 43 ∨ (s[j].toNat : Int) = 45 ∨ (s[j].toNat : Int) = 46 ∨ (s[j].toNat : Int) = 101 ∨ (s[j].toNat : Int) = 69 := by omega
                        clear hn3 hnd
                        rcases hn4 with hc | hc | hc | hc | hc
                        · have q43 : ((s[j].toNat : Int) == 43) = true := by rw [beq_iff_eq]; omega
                          have q45 : ((s[j].toNat : Int) == 45) = false := by rw [beq_eq_false_iff_ne]; omega
                          have q46 : ((s[j].toNat : Int) == 46) = false := by rw [beq_eq_false_iff_ne]; omega
                          have q101 : ((s[j].toNat : Int) == 101) = false := by rw [beq_eq_false_iff_ne]; omega
                          have q69 : ((s[j].toNat : Int) == 69) = false := by rw [beq_eq_false_iff_ne]; omega
                          clear hc
                          go_wp2_with (first | (go_at_call 45; refine (rletter_any _ _).mono ?_; rintro e w' ⟨rfl, rfl⟩) | (go_at_call 46; refine (rdigit_any _ _).mono ?_; rintro e w' ⟨rfl, rfl⟩))
                          go_round
                          case rel => exact ⟨j + 1, by go_num, by omega, by omega, H.out⟩
                          case measure => simp [intOf]; omega
                        · have q43 : ((s[j].toNat : Int) == 43) = false := by rw [beq_eq_false_iff_ne]; omega
                          have q45 : ((s[j].toNat : Int) == 45) = true := by rw [beq_iff_eq]; omega
                          have q46 : ((s[j].toNat : Int) == 46) = false := by rw [beq_eq_false_iff_ne]; omega
                          have q101 : ((s[j].toNat : Int) == 101) = false := by rw [beq_eq_false_iff_ne]; omega
                          have q69 : ((s[j].toNat : Int) == 69) = false := by rw [beq_eq_false_iff_ne]; omega
                          clear hc
                          go_wp2_with (first | (go_at_call 45; refine (rletter_any _ _).mono ?_; rintro e w' ⟨rfl, rfl⟩) | (go_at_call 46; refine (rdigit_any _ _).mono ?_; rintro e w' ⟨rfl, rfl⟩))
                          go_round
                          case rel => exact ⟨j + 1, by go_num, by omega, by omega, H.out⟩
                          case measure => simp [intOf]; omega
                        · have q43 : ((s[j].toNat : Int) == 43) = false := by rw [beq_eq_false_iff_ne]; omega
                          have q45 : ((s[j].toNat : Int) == 45) = false := by rw [beq_eq_false_iff_ne]; omega
                          have q46 : ((s[j].toNat : Int) == 46) = true := by rw [beq_iff_eq]; omega
                          have q101 : ((s[j].toNat : Int) == 101) = false := by rw [beq_eq_false_iff_ne]; omega
                          have q69 : ((s[j].toNat : Int) == 69) = false := by rw [beq_eq_false_iff_ne]; omega
                          clear hc
                          go_wp2_with (first | (go_at_call 45; refine (rletter_any _ _).mono ?_; rintro e w' ⟨rfl, rfl⟩) | (go_at_call 46; refine (rdigit_any _ _).mono ?_; rintro e w' ⟨rfl, rfl⟩))
                          go_round
                          case rel => exact ⟨j + 1, by go_num, by omega, by omega, H.out⟩
                          case measure => simp [intOf]; omega
                        · have q43 : ((s[j].toNat : Int) == 43) = false := by rw [beq_eq_false_iff_ne]; omega
                          have q45 : ((s[j].toNat : Int) == 45) = false := by rw [beq_eq_false_iff_ne]; omega
                          have q46 : ((s[j].toNat : Int) == 46) = false := by rw [beq_eq_false_iff_ne]; omega
                          have q101 : ((s[j].toNat : Int) == 101) = true := by rw [beq_iff_eq]; omega
                          have q69 : ((s[j].toNat : Int) == 69) = false := by rw [beq_eq_false_iff_ne]; omega
                          clear hc
                          go_wp2_with (first | (go_at_call 45; refine (rletter_any _ _).mono ?_; rintro e w' ⟨rfl, rfl⟩) | (go_at_call 46; refine (rdigit_any _ _).mono ?_; rintro e w' ⟨rfl, rfl⟩))
                          go_round
                          case rel => exact ⟨j + 1, by go_num, by omega, by omega, H.out⟩
                          case measure => simp [intOf]; omega
                        · have q43 : ((s[j].toNat : Int) == 43) = false := by rw [beq_eq_false_iff_ne]; omega
                          have q45 : ((s[j].toNat : Int) == 45) = false := by rw [beq_eq_false_iff_ne]; omega
                          have q46 : ((s[j].toNat : Int) == 46) = false := by rw [beq_eq_false_iff_ne]; omega
                          have q101 : ((s[j].toNat : Int) == 101) = false := by rw [beq_eq_false_iff_ne]; omega
                          have q69 : ((s[j].toNat : Int) == 69) = true := by rw [beq_iff_eq]; omega
                          clear hc
                          go_wp2_with (first | (go_at_call 45; refine (rletter_any _ _).mono ?_; rintro e w' ⟨rfl, rfl⟩) | (go_at_call 46; refine (rdigit_any _ _).mono ?_; rintro e w' ⟨rfl, rfl⟩))
                          go_round
                          case rel => exact ⟨j + 1, by go_num, by omega, by omega, H.out⟩
                          case measure => simp [intOf]; omega
                      · clear hn3
                        go_wp2_with (first | (go_at_call 45; refine (rletter_any _ _).mono ?_; rintro e w' ⟨rfl, rfl⟩) | (go_at_call 46; refine (rdigit_any _ _).mono ?_; rintro e w' ⟨rfl, rfl⟩))
                        go_round
                        case rel => exact ⟨j + 1, by go_num, by omega, by omega, H.out⟩
                        case measure => simp [intOf]; omega
                  · have HN : Hid (Lx.runLen Lx.inNumber (s.data.toList.drop k) = j - k) := by
                      obtain rfl : j = s.size := by omega
                      exact Lx.run_full _ s k Hj3.out
                    have Hex : Hid ((s.extract k j).data.toList = (s.data.toList.drop k).take (j - k)) := by unfold Hid; rw [Lib.extract_data]
                    go_wp2_with (first | (go_at_call 45; refine (rletter_any _ _).mono ?_; rintro e w' ⟨rfl, rfl⟩) | (go_at_call 46; refine (rdigit_any _ _).mono ?_; rintro e w' ⟨rfl, rfl⟩))
                    refine (rright_any _ _ (by unfold maxLen; rw [ByteArray.size_extract]; omega)).mono ?_
                    rintro e w' ⟨rfl, rfl⟩
                    cases hr : Lx.right (s.extract k j).data.toList
                    · have HT := Lib.hid (Hnx.out (j - k) _ false HN.out.symm Hex.out hr)
                      have HB : Hid (rtokRes (Lx.scan s.data.toList) (.slice none 0 0) k wr ∧ Below w.heap.size w wr) := rtok_bad hI.out hlt hb.out (by rw [← HT.out]; rfl) (by rw [← HT.out])
                      clear hown
                      go_wp2_with (first | (go_at_call 45; refine (rletter_any _ _).mono ?_; rintro e w' ⟨rfl, rfl⟩) | (go_at_call 46; refine (rdigit_any _ _).mono ?_; rintro e w' ⟨rfl, rfl⟩))
                      go_ret2
                      exact ⟨_, _, rfl, HB.out.1, HB.out.2⟩
                    · have HT : Hid ((⟨2, k, j⟩ : Lx.Tok) = Lx.next s.data.toList k) := by
                        have := Hnx.out (j - k) _ true HN.out.symm Hex.out hr
                        rw [show k + (j - k) = j from by omega] at this
                        exact this
                      have Hz : Hid ((⟨2, k, j⟩ : Lx.Tok).kind ≠ 0) := by unfold Hid; simp
                      go_wp2_with (first | (go_at_call 45; refine (rletter_any _ _).mono ?_; rintro e w' ⟨rfl, rfl⟩) | (go_at_call 46; refine (rdigit_any _ _).mono ?_; rintro e w' ⟨rfl, rfl⟩) | (at_builtin; refine wpList_append2 _ rfl _ _ 58 rfl w.heap.size 65 (.agg #[.int .i64 0, .int .i64 0, .int .i64 0]) 3 24 Try.underlying58 info_rtok rfl (by decide) _ i _ rfl (hown.alloc _) _ _ 1 [.int .i64 (2), .int .i64 (k : Int), .int .i64 (j : Int)] rfl (reads_new _ _ _ 1 1 (by decide) (by decide)) rfl ?c2 ?c3 ?c4 ?c5 ?_))
                      case c2 => simp [Value.oneCell']
                      try (case c3 => exact hk3)
                      case c4 => omega
                      case c5 => first | exact hsz | omega | (simp; omega)
                      intro v' w2 hown2 hgrow hmov
                      obtain ⟨a2, cap2, rfl⟩ := own_form hown2
                      have HI2 := Lib.hid (rtok_go hI.out hlt hb.out HT.out Hz.out (by simpa [tokC] using hown2) hgrow)
                      clear hown2 hgrow hmov hown
                      go_wp2_with fail
                      go_roundw
                      case rel => exact ⟨_, i + 1, by first | rfl | go_num | (simp; done), HI2.out⟩
                      case measure => simp [intOf]; omega
          · have hl := (Lx.letter_iff _).1 h2
            have hd : Lx.digit s[k] = false := by
              cases h : Lx.digit s[k]
              · rfl
              · exfalso; have := (Lx.digit_iff _).1 h; omega
            have t32 : ((s[k].toNat : Int) == 32) = false := by rw [beq_eq_false_iff_ne]; omega
            have t9 : ((s[k].toNat : Int) == 9) = false := by rw [beq_eq_false_iff_ne]; omega
            have t13 : ((s[k].toNat : Int) == 13) = false := by rw [beq_eq_false_iff_ne]; omega
            have t10 : ((s[k].toNat : Int) == 10) = false := by rw [beq_eq_false_iff_ne]; omega
            have t40 : ((s[k].toNat : Int) == 40) = false := by rw [beq_eq_false_iff_ne]; omega
            have t41 : ((s[k].toNat : Int) == 41) = false := by rw [beq_eq_false_iff_ne]; omega
            have t44 : ((s[k].toNat : Int) == 44) = false := by rw [beq_eq_false_iff_ne]; omega
            have t43 : ((s[k].toNat : Int) == 43) = false := by rw [beq_eq_false_iff_ne]; omega
            have t45 : ((s[k].toNat : Int) == 45) = false := by rw [beq_eq_false_iff_ne]; omega
            have t46 : ((s[k].toNat : Int) == 46) = false := by rw [beq_eq_false_iff_ne]; omega
            have Hrun := Lib.hid (Lx.run_one Lx.letter s k hlt h2)
            have Hnx := Lib.hid (fun n hn => Lx.next_word s k n hlt h1 h2 hn)
            have Hz : ∀ j, Hid ((⟨1, k, j⟩ : Lx.Tok).kind ≠ 0) := fun j => by unfold Hid; simp
            have Hz := Lib.hid Hz
            clear hbl hns h1 hto hl
            go_wp2_with (first | (go_at_call 45; refine (rletter_any _ _).mono ?_; rintro e w' ⟨rfl, rfl⟩) | (go_at_call 46; refine (rdigit_any _ _).mono ?_; rintro e w' ⟨rfl, rfl⟩))
            go_loop [7] (fun p => ∃ j : Nat, p = .int .i64 j ∧ k < j ∧ j ≤ s.size ∧ j - k ≤ Lx.runLen Lx.letter (s.data.toList.drop k)) (fun p => s.size - (intOf p).toNat)
            case atStart => exact ⟨k + 1, by go_num, by omega, by omega, Hrun.out⟩
            case round =>
              obtain ⟨j, rfl, hj1, hj2, hj3⟩ := hrel
              have Hj3 := Lib.hid hj3
              clear hj3
              by_cases hjs : j < s.size
              · cases h3 : Lx.letter s[j]
                · have HT : Hid ((⟨1, k, j⟩ : Lx.Tok) = Lx.next s.data.toList k) := by
                    have := Hnx.out (j - k) (Lx.run_stop _ s k j (by omega) hjs Hj3.out h3).symm
                    rw [show k + (j - k) = j from by omega] at this
                    exact this
                  have Hz := Hz.out j
                  go_wp2_with (first | (go_at_call 45; refine (rletter_any _ _).mono ?_; rintro e w' ⟨rfl, rfl⟩) | (go_at_call 46; refine (rdigit_any _ _).mono ?_; rintro e w' ⟨rfl, rfl⟩) | (at_builtin; refine wpList_append2 _ rfl _ _ 58 rfl w.heap.size 65 (.agg #[.int .i64 0, .int .i64 0, .int .i64 0]) 3 24 Try.underlying58 info_rtok rfl (by decide) _ i _ rfl (hown.alloc _) _ _ 1 [.int .i64 (1), .int .i64 (k : Int), .int .i64 (j : Int)] rfl (reads_new _ _ _ 1 1 (by decide) (by decide)) rfl ?c2 ?c3 ?c4 ?c5 ?_))
                  case c2 => simp [Value.oneCell']
                  try (case c3 => exact hk3)
                  case c4 => omega
                  case c5 => first | exact hsz | omega | (simp; omega)
                  intro v' w2 hown2 hgrow hmov
                  obtain ⟨a2, cap2, rfl⟩ := own_form hown2
                  have HI2 := Lib.hid (rtok_go hI.out hlt hb.out HT.out Hz.out (by simpa [tokC] using hown2) hgrow)
                  clear hown2 hgrow hmov hown
                  go_wp2_with fail
                  go_roundw
                  case rel => exact ⟨_, i + 1, by first | rfl | go_num | (simp; done), HI2.out⟩
                  case measure => simp [intOf]; omega
                · have H := Lib.hid (Lx.run_go _ s k j (by omega) hjs Hj3.out h3)
                  go_wp2_with (first | (go_at_call 45; refine (rletter_any _ _).mono ?_; rintro e w' ⟨rfl, rfl⟩) | (go_at_call 46; refine (rdigit_any _ _).mono ?_; rintro e w' ⟨rfl, rfl⟩))
                  go_round
                  case rel => exact ⟨j + 1, by go_num, by omega, by omega, H.out⟩
                  case measure => simp [intOf]; omega
              · have HT : Hid ((⟨1, k, j⟩ : Lx.Tok) = Lx.next s.data.toList k) := by
                  obtain rfl : j = s.size := by omega
                  have := Hnx.out (s.size - k) (Lx.run_full _ s k Hj3.out).symm
                  rw [show k + (s.size - k) = s.size from by omega] at this
                  exact this
                have Hz := Hz.out j
                go_wp2_with (first | (go_at_call 45; refine (rletter_any _ _).mono ?_; rintro e w' ⟨rfl, rfl⟩) | (go_at_call 46; refine (rdigit_any _ _).mono ?_; rintro e w' ⟨rfl, rfl⟩) | (at_builtin; refine wpList_append2 _ rfl _ _ 58 rfl w.heap.size 65 (.agg #[.int .i64 0, .int .i64 0, .int .i64 0]) 3 24 Try.underlying58 info_rtok rfl (by decide) _ i _ rfl (hown.alloc _) _ _ 1 [.int .i64 (1), .int .i64 (k : Int), .int .i64 (j : Int)] rfl (reads_new _ _ _ 1 1 (by decide) (by decide)) rfl ?c2 ?c3 ?c4 ?c5 ?_))
                case c2 => simp [Value.oneCell']
                try (case c3 => exact hk3)
                case c4 => omega
                case c5 => first | exact hsz | omega | (simp; omega)
                intro v' w2 hown2 hgrow hmov
                obtain ⟨a2, cap2, rfl⟩ := own_form hown2
                have HI2 := Lib.hid (rtok_go hI.out hlt hb.out HT.out Hz.out (by simpa [tokC] using hown2) hgrow)
                clear hown2 hgrow hmov hown
                go_wp2_with fail
                go_roundw
                case rel => exact ⟨_, i + 1, by first | rfl | go_num | (simp; done), HI2.out⟩
                case measure => simp [intOf]; omega
        · have hsi := (Lx.single_iff _).1 h1
          obtain ⟨e0, e1, e2⟩ := Lx.single_kind s[k]
          have hne := Lx.head_drop s k hlt
          have Hn : Hid (Lx.next s.data.toList k = ⟨3 + (Lib.indexByte [40, 41, 44] s[k]).toNat, k, k + 1⟩) := by
            unfold Hid Lx.next; simp only [hne, h1, if_true]
          have hl : Lx.letter s[k] = false := by
            cases h : Lx.letter s[k]
            · rfl
            · exfalso; have := (Lx.letter_iff _).1 h; omega
          have hd : Lx.digit s[k] = false := by
            cases h : Lx.digit s[k]
            · rfl
            · exfalso; have := (Lx.digit_iff _).1 h; omega
          clear hbl hne h1 hto
          rcases hsi with hc | hc | hc
          · have HT : Hid ((⟨3, k, k + 1⟩ : Lx.Tok) = Lx.next s.data.toList k) := by unfold Hid; rw [Hn.out, e0 hc]
            have t32 : ((s[k].toNat : Int) == 32) = false := by rw [beq_eq_false_iff_ne]; omega
            have t9 : ((s[k].toNat : Int) == 9) = false := by rw [beq_eq_false_iff_ne]; omega
            have t13 : ((s[k].toNat : Int) == 13) = false := by rw [beq_eq_false_iff_ne]; omega
            have t10 : ((s[k].toNat : Int) == 10) = false := by rw [beq_eq_false_iff_ne]; omega
            have t40 : ((s[k].toNat : Int) == 40) = true := by rw [beq_iff_eq]; omega
            have t41 : ((s[k].toNat : Int) == 41) = false := by rw [beq_eq_false_iff_ne]; omega
            have t44 : ((s[k].toNat : Int) == 44) = false := by rw [beq_eq_false_iff_ne]; omega
            have t43 : ((s[k].toNat : Int) == 43) = false := by rw [beq_eq_false_iff_ne]; omega
            have t45 : ((s[k].toNat : Int) == 45) = false := by rw [beq_eq_false_iff_ne]; omega
            have t46 : ((s[k].toNat : Int) == 46) = false := by rw [beq_eq_false_iff_ne]; omega
            clear hc
            have Hz : Hid ((⟨3, k, k + 1⟩ : Lx.Tok).kind ≠ 0) := by unfold Hid; simp
            clear e0 e1 e2 Hn
            go_wp2_with (first | (go_at_call 45; refine (rletter_any _ _).mono ?_; rintro e w' ⟨rfl, rfl⟩) | (go_at_call 46; refine (rdigit_any _ _).mono ?_; rintro e w' ⟨rfl, rfl⟩) | (at_builtin; refine wpList_append2 _ rfl _ _ 58 rfl w.heap.size 65 (.agg #[.int .i64 0, .int .i64 0, .int .i64 0]) 3 24 Try.underlying58 info_rtok rfl (by decide) _ i _ rfl (hown.alloc _) _ _ 1 [.int .i64 (3), .int .i64 (k : Int), .int .i64 ((k : Int) + 1)] rfl (reads_new _ _ _ 1 1 (by decide) (by decide)) rfl ?c2 ?c3 ?c4 ?c5 ?_))
            case c2 => simp [Value.oneCell']
            try (case c3 => exact hk3)
            case c4 => omega
            case c5 => first | exact hsz | omega | (simp; omega)
            intro v' w2 hown2 hgrow hmov
            obtain ⟨a2, cap2, rfl⟩ := own_form hown2
            have HI2 := Lib.hid (rtok_go hI.out hlt hb.out HT.out Hz.out (by simpa [tokC] using hown2) hgrow)
            clear hown2 hgrow hmov hown
            go_wp2_with fail
            go_roundw
            case rel => exact ⟨_, i + 1, by first | rfl | go_num | (simp; done), HI2.out⟩
            case measure => simp [intOf]; omega
          · have HT : Hid ((⟨4, k, k + 1⟩ : Lx.Tok) = Lx.next s.data.toList k) := by unfold Hid; rw [Hn.out, e1 hc]
            have t32 : ((s[k].toNat : Int) == 32) = false := by rw [beq_eq_false_iff_ne]; omega
            have t9 : ((s[k].toNat : Int) == 9) = false := by rw [beq_eq_false_iff_ne]; omega
            have t13 : ((s[k].toNat : Int) == 13) = false := by rw [beq_eq_false_iff_ne]; omega
            have t10 : ((s[k].toNat : Int) == 10) = false := by rw [beq_eq_false_iff_ne]; omega
            have t40 : ((s[k].toNat : Int) == 40) = false := by rw [beq_eq_false_iff_ne]; omega
            have t41 : ((s[k].toNat : Int) == 41) = true := by rw [beq_iff_eq]; omega
            have t44 : ((s[k].toNat : Int) == 44) = false := by rw [beq_eq_false_iff_ne]; omega
            have t43 : ((s[k].toNat : Int) == 43) = false := by rw [beq_eq_false_iff_ne]; omega
            have t45 : ((s[k].toNat : Int) == 45) = false := by rw [beq_eq_false_iff_ne]; omega
            have t46 : ((s[k].toNat : Int) == 46) = false := by rw [beq_eq_false_iff_ne]; omega
            clear hc
            have Hz : Hid ((⟨4, k, k + 1⟩ : Lx.Tok).kind ≠ 0) := by unfold Hid; simp
            clear e0 e1 e2 Hn
            go_wp2_with (first | (go_at_call 45; refine (rletter_any _ _).mono ?_; rintro e w' ⟨rfl, rfl⟩) | (go_at_call 46; refine (rdigit_any _ _).mono ?_; rintro e w' ⟨rfl, rfl⟩) | (at_builtin; refine wpList_append2 _ rfl _ _ 58 rfl w.heap.size 65 (.agg #[.int .i64 0, .int .i64 0, .int .i64 0]) 3 24 Try.underlying58 info_rtok rfl (by decide) _ i _ rfl (hown.alloc _) _ _ 1 [.int .i64 (4), .int .i64 (k : Int), .int .i64 ((k : Int) + 1)] rfl (reads_new _ _ _ 1 1 (by decide) (by decide)) rfl ?c2 ?c3 ?c4 ?c5 ?_))
            case c2 => simp [Value.oneCell']
            try (case c3 => exact hk3)
            case c4 => omega
            case c5 => first | exact hsz | omega | (simp; omega)
            intro v' w2 hown2 hgrow hmov
            obtain ⟨a2, cap2, rfl⟩ := own_form hown2
            have HI2 := Lib.hid (rtok_go hI.out hlt hb.out HT.out Hz.out (by simpa [tokC] using hown2) hgrow)
            clear hown2 hgrow hmov hown
            go_wp2_with fail
            go_roundw
            case rel => exact ⟨_, i + 1, by first | rfl | go_num | (simp; done), HI2.out⟩
            case measure => simp [intOf]; omega
          · have HT : Hid ((⟨5, k, k + 1⟩ : Lx.Tok) = Lx.next s.data.toList k) := by unfold Hid; rw [Hn.out, e2 hc]
            have t32 : ((s[k].toNat : Int) == 32) = false := by rw [beq_eq_false_iff_ne]; omega
            have t9 : ((s[k].toNat : Int) == 9) = false := by rw [beq_eq_false_iff_ne]; omega
            have t13 : ((s[k].toNat : Int) == 13) = false := by rw [beq_eq_false_iff_ne]; omega
            have t10 : ((s[k].toNat : Int) == 10) = false := by rw [beq_eq_false_iff_ne]; omega
            have t40 : ((s[k].toNat : Int) == 40) = false := by rw [beq_eq_false_iff_ne]; omega
            have t41 : ((s[k].toNat : Int) == 41) = false := by rw [beq_eq_false_iff_ne]; omega
            have t44 : ((s[k].toNat : Int) == 44) = true := by rw [beq_iff_eq]; omega
            have t43 : ((s[k].toNat : Int) == 43) = false := by rw [beq_eq_false_iff_ne]; omega
            have t45 : ((s[k].toNat : Int) == 45) = false := by rw [beq_eq_false_iff_ne]; omega
            have t46 : ((s[k].toNat : Int) == 46) = false := by rw [beq_eq_false_iff_ne]; omega
            clear hc
            have Hz : Hid ((⟨5, k, k + 1⟩ : Lx.Tok).kind ≠ 0) := by unfold Hid; simp
            clear e0 e1 e2 Hn
            go_wp2_with (first | (go_at_call 45; refine (rletter_any _ _).mono ?_; rintro e w' ⟨rfl, rfl⟩) | (go_at_call 46; refine (rdigit_any _ _).mono ?_; rintro e w' ⟨rfl, rfl⟩) | (at_builtin; refine wpList_append2 _ rfl _ _ 58 rfl w.heap.size 65 (.agg #[.int .i64 0, .int .i64 0, .int .i64 0]) 3 24 Try.underlying58 info_rtok rfl (by decide) _ i _ rfl (hown.alloc _) _ _ 1 [.int .i64 (5), .int .i64 (k : Int), .int .i64 ((k : Int) + 1)] rfl (reads_new _ _ _ 1 1 (by decide) (by decide)) rfl ?c2 ?c3 ?c4 ?c5 ?_))
            case c2 => simp [Value.oneCell']
            try (case c3 => exact hk3)
            case c4 => omega
            case c5 => first | exact hsz | omega | (simp; omega)
            intro v' w2 hown2 hgrow hmov
            obtain ⟨a2, cap2, rfl⟩ := own_form hown2
            have HI2 := Lib.hid (rtok_go hI.out hlt hb.out HT.out Hz.out (by simpa [tokC] using hown2) hgrow)
            clear hown2 hgrow hmov hown
            go_wp2_with fail
            go_roundw
            case rel => exact ⟨_, i + 1, by first | rfl | go_num | (simp; done), HI2.out⟩
            case measure => simp [intOf]; omega
      · have HI := Lib.hid (rtok_blank hI hlt hb)
        have hbl := (Lx.blank_iff _).1 hb
        clear hb hI
        rcases hbl with hc | hc | hc | hc
        all_goals
          go_wp2
          go_roundw
          case rel => exact ⟨k + 1, i, by go_num, HI.out⟩
          case measure => simp [intOf]; omega
    · have hfin := Lib.hid (rtok_end hI hlt)
      clear hI
      go_wp2_with fail
      go_ret2
      exact ⟨_, _, rfl, hfin.out.1, hfin.out.2⟩
end Go.Proofs.Ytegkdkilbnighaa
