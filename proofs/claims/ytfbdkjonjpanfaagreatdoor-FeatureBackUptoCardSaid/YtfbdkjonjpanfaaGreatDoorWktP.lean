/- The rounds of each(), in plain words: how the result grows. No program in sight. -/
import Derived.Test.YtfbdkjonjpanfaaGreatDoorWkt
set_option linter.unusedVariables false
set_option linter.unusedSimpArgs false
namespace Go.Proofs.YtfbdkjonjpanfaaGreatDoor.Wk
open Go Lx
section
variable {A : Type} (s : Str) (f : St → St × A) (res : St × List A) (N : Nat)

/-- ahead of a round -/
def Pre (n : Nat) (acc : List A) (z : St) : Prop := (z.bad = false → z.l.length + 1 ≤ n ∧ acc.length + z.l.length ≤ N) ∧ acc.length ≤ N + 1 ∧ res = ((eachF s f n z).1, acc ++ (eachF s f n z).2)
/-- behind a round -/
def Mid (n : Nat) (acc : List A) (z : St) : Prop := (z.bad = false → z.l.length ≤ n ∧ acc.length + z.l.length ≤ N + 1) ∧ acc.length ≤ N + 1 ∧
  res = if peek z 5 then ((eachF s f n (take s z 5).1).1, acc ++ (eachF s f n (take s z 5).1).2) else ((take s z 4).1, acc)

theorem pre_start (z : St) : Pre s f (each s f z) (take s z 3).1.l.length ((take s z 3).1.l.length + 1) [] (take s z 3).1 :=
  ⟨fun _ => ⟨Nat.le_refl _, by simp⟩, by simp, by unfold each; simp⟩

theorem pre_bad {n : Nat} {acc : List A} {z : St} (h : Pre s f res N n acc z) (hb : z.bad = true) : res = (z, acc) := by
  rw [h.2.2]
  cases n with
  | zero => simp [eachF]
  | succ n => simp [eachF, hb]

theorem pre_round {n : Nat} {acc : List A} {z : St} (h : Pre s f res N n acc z) (hb : z.bad = false) (hf : (f z).1.l.length ≤ z.l.length) : acc.length ≤ N ∧ Mid s f res N (n - 1) (acc ++ [(f z).2]) (f z).1 := by
  obtain ⟨h1, h2, h3⟩ := h
  obtain ⟨h4, h5⟩ := h1 hb
  obtain ⟨m, rfl⟩ : ∃ m, n = m + 1 := ⟨n - 1, by omega⟩
  refine ⟨by omega, fun _ => ⟨by simp; omega, by simp; omega⟩, by simp; omega, ?_⟩
  rw [h3]
  simp only [Nat.add_sub_cancel]
  conv => lhs; unfold eachF
  rw [if_neg (by rw [hb]; simp)]
  by_cases hp : peek (f z).1 5 = true
  · rw [if_pos hp, if_pos hp]; simp
  · rw [if_neg hp, if_neg hp]

theorem mid_go {n : Nat} {acc : List A} {z : St} (h : Mid s f res N n acc z) (hp : peek z 5 = true) : Pre s f res N n acc (take s z 5).1 := by
  obtain ⟨h1, h2, h3⟩ := h
  refine ⟨fun hb => ?_, h2, ?_⟩
  · have hz := take_notbad s z 5 hb
    have := take_lt s z 5 hb
    obtain ⟨h4, h5⟩ := h1 hz
    exact ⟨by omega, by omega⟩
  · rw [if_pos hp] at h3; exact h3

theorem mid_end {n : Nat} {acc : List A} {z : St} (h : Mid s f res N n acc z) (hp : peek z 5 = false) : res = ((take s z 4).1, acc) := by
  rw [h.2.2, if_neg (by rw [hp]; simp)]
end
end Go.Proofs.YtfbdkjonjpanfaaGreatDoor.Wk
