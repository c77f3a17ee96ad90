import Derived.Test.YtkhceimlheginaaNests2
import Derived.Test.YtkhceimlheginaaWktL
set_option linter.unusedVariables false
set_option linter.unusedSimpArgs false
namespace Go.Proofs.Ytkhceimlheginaa
open Go.RowKit Go.Rg
attribute [local go_sem] Oper.semAt_some

theorem rdsG_at {R : Nat} {X : World} : ∀ {gs : List Wk.Geo} {cs : List Value} {i : Nat} {g : Wk.Geo}, rdsG R X cs gs → gs[i]? = some g →
    ∃ v u, cs[i * 4]? = some (.int .i64 (g.kind : Int)) ∧ cs[i * 4 + 1]? = some (.int .i64 (g.level : Int)) ∧ cs[i * 4 + 2]? = some v ∧ cs[i * 4 + 3]? = some u ∧ BodyR R X v u (g.lists, g.sizes)
  | [], cs, i, g, h, hi => by cases hi
  | g' :: gs, cs, 0, g, ⟨v, u, ds, a, b, c⟩, hi => by
    cases hi
    subst a
    exact ⟨v, u, rfl, rfl, rfl, rfl, b⟩
  | g' :: gs, cs, i + 1, g, ⟨v, u, ds, a, b, c⟩, hi => by
    subst a
    obtain ⟨v', u', h0, h1, h2, h3, h4⟩ := rdsG_at (i := i) c hi
    have e : ∀ j, ([.int .i64 (g'.kind : Int), .int .i64 (g'.level : Int), v, u] ++ ds)[(i + 1) * 4 + j]? = ds[i * 4 + j]? := fun j => by
      rw [List.getElem?_append_right (by simp; omega)]
      congr 1
      simp; omega
    exact ⟨v', u', (e 0).trans h0, (e 1).trans h1, (e 2).trans h2, (e 3).trans h3, h4⟩

set_option maxRecDepth 100000 in
set_option maxHeartbeats 4000000 in
/-- collections may stand one in the other as deep as 32, and no deeper -/
theorem lawNestsW (n : Int) (_wf : (Lit.int .i64 n).wf = true) (w : World) : Calls Try.prog 9 #[.int .i64 n] w fun e w' => e = .returned (.bool true) ∧ Below w.heap.size w w' := by
  by_cases hb : 0 ≤ n ∧ n ≤ 60
  · obtain ⟨k, rfl⟩ : ∃ k : Nat, n = k := ⟨n.toNat, by omega⟩
    have hk60 : k ≤ 60 := by omega
    clear hb _wf
    have Hn := Lib.hid (nests_ok k hk60)
    go_enter Try.func9, Try.ntmps9
    go_wp2_with fail
    go_loopg [3, 16] k (fun g s3 s16 wx => ∃ (i : Nat) (x : ByteArray), i + g = k ∧ s16 = .int .i64 (i : Int) ∧ s3 = .string x ∧ Hid (x.data.toList = (List.replicate i coll).flatten) ∧ w = wx)
    case atStart => exact ⟨0, ⟨#[]⟩, by omega, rfl, rfl, rfl, rfl⟩
    case round =>
      obtain ⟨i, x, hig, rfl, rfl, Hx, rfl⟩ := hrel
      have hxs : x.size ≤ 1200 := by
        rw [Lib.size_eq, Hx.out, List.length_flatten]
        simp [coll]; omega
      cases gk with
      | succ g =>
        have hik : i < k := by omega
        go_wp2_with fail
        go_roundg g
        case measure => omega
        case rel => exact ⟨i + 1, x ++ ⟨coll.toArray⟩, by omega, by first | rfl | simp, rfl, by unfold Hid; rw [List.replicate_succ', List.flatten_append, ← Hx.out]; simp, rfl⟩
      | zero =>
        have hik : i = k := by omega
        subst hik
        go_wp2_with fail
        go_loopg [3, 24] i (fun g s3 s24 wx => ∃ (j : Nat) (y : ByteArray), j + g = i ∧ s24 = .int .i64 (j : Int) ∧ s3 = .string y ∧ Hid (y.data.toList = (List.replicate i coll).flatten ++ [80, 79, 73, 78, 84, 40, 48, 32, 49, 41] ++ List.replicate j 41) ∧ w = wx)
        case atStart => exact ⟨0, _, by omega, rfl, rfl, by unfold Hid; rw [← Hx.out]; simp, rfl⟩
        case round =>
          obtain ⟨j, y, hjg, rfl, rfl, Hy, rfl⟩ := hrel
          have hys : y.size ≤ 1300 := by
            have : ((List.replicate i coll).flatten).length = i * 19 := by rw [List.length_flatten]; simp [coll]
            rw [Lib.size_eq, Hy.out]
            simp only [List.length_append, this, List.length_replicate, List.length_cons, List.length_nil]; omega
          cases gk with
          | succ g =>
            have hji : j < i := by omega
            go_wp2_with fail
            go_roundg g
            case measure => omega
            case rel => exact ⟨j + 1, y ++ ⟨#[41]⟩, by omega, by first | rfl | simp, rfl, by unfold Hid; rw [List.replicate_succ', ← List.append_assoc, ← Hy.out]; simp, rfl⟩
          | zero =>
            have hji : j = i := by omega
            subst hji
            have Hyn : Hid (y.data.toList = nests j) := Hy.out
            have hysz : y.size ≤ 100000 := by
              rw [Lib.size_eq, Hy.out]
              have : ((List.replicate j coll).flatten).length = j * 19 := by rw [List.length_flatten]; simp [coll]
              simp only [List.length_append, this, List.length_replicate, List.length_cons, List.length_nil]; omega
            go_wp2_with fail
            refine (parse_any y w hysz).mono ?_
            rintro e w1 ⟨v1, at1, er1, rfl, h1, hw1⟩
            unfold parseRes at h1
            rw [Hyn.out] at h1
            have hok := Hn.out
            unfold nestOk at hok
            cases hp : Wk.parse (nests j) with
            | error q =>
              rw [hp] at h1 hok
              obtain ⟨rfl, rfl, rfl⟩ := h1
              simp only [Bool.and_eq_true, decide_eq_true_eq, beq_iff_eq] at hok
              obtain ⟨hj, rfl⟩ := hok
              clear hp
              go_wp2_with fail
              refine (awake11_any w1).mono ?_
              rintro e w2 ⟨rfl, hw2⟩
              have hw12 := hw1.trans (hw2.mono hw1.size)
              clear hw2
              go_wp2_with fail
              try rw [Exit.noGoto_ret]
              go_ret
              exact ⟨rfl, hw12⟩
            | ok gs =>
              rw [hp] at h1 hok
              obtain ⟨⟨R, cs, hv, hg⟩, rfl, rfl⟩ := h1
              simp only [Bool.and_eq_true, decide_eq_true_eq, beq_iff_eq] at hok
              obtain ⟨⟨hj, hlen⟩, hat⟩ := hok
              cases hgj : gs[j]? with
              | none => rw [hgj] at hat; cases hat
              | some g =>
                rw [hgj] at hat
                simp only [Bool.and_eq_true, beq_iff_eq] at hat
                obtain ⟨va, ua, q0, q1, _⟩ := rdsG_at hg hgj
                rw [hat.1] at q1
                rw [hat.2] at q0
                obtain ⟨gb, off, cap, rfl, hgl, hcl, hcm, hc⟩ := rdT_opens hv (by intro e; rw [e] at q0; simp at q0)
                rw [hlen] at hcl
                rw [hlen]
                have c0 := hc _ _ q0
                have c1 := hc _ _ q1
                unfold maxLen at hcm
                rw [← Nat.add_assoc] at c1
                have c0 : w1.cell? ⟨gb, off + j * 4, none⟩ = some (.int .i64 1) := c0
                clear hc q0 q1 hv hg hp hgj hat hlen
                go_wp2_with fail
                refine (awake11_any w1).mono ?_
                rintro e w2 ⟨rfl, hw2⟩
                have hw12 := hw1.trans (hw2.mono hw1.size)
                clear hw2
                go_wp2_with fail
                try rw [Exit.noGoto_ret]
                go_ret
                exact ⟨rfl, hw12⟩
  · go_enter Try.func9, Try.ntmps9
    by_cases h0 : n < 0
    · go_wp2_with (first | (go_at_call 21; refine (awake11_any _).mono ?_; rintro e w1 ⟨rfl, hb⟩))
      go_ret
      exact ⟨rfl, hb⟩
    · have h60 : 60 < n := by omega
      go_wp2_with (first | (go_at_call 21; refine (awake11_any _).mono ?_; rintro e w1 ⟨rfl, hb⟩))
      go_ret
      exact ⟨rfl, hb⟩
end Go.Proofs.Ytkhceimlheginaa
