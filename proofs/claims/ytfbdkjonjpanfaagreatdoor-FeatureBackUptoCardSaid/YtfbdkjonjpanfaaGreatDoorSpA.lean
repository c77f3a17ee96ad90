/- Well-known text, written: the program's text and the document's are one. No program in sight. -/
import Derived.Test.YtfbdkjonjpanfaaGreatDoorWktP
set_option linter.unusedVariables false
set_option linter.unusedSimpArgs false
namespace Go.Proofs.YtfbdkjonjpanfaaGreatDoor.Wk
open Go Lx

def nm (k : Nat) : Str := names.getD k []
/-- texts, parted by commas -/
def join : List Str → Str
  | [] => []
  | [x] => x
  | x :: y :: r => x ++ ([44, 32] ++ join (y :: r))
def bracket (l : List Str) : Str := 40 :: (join l ++ [41])
/-- texts in brackets; none: EMPTY -/
def joined (l : List Str) : Str := if l = [] then emptyWord else bracket l
def pairT (p : Pr) : Str := p.1 ++ (32 :: p.2)
def pairsT (l : List Pr) : Str := joined (l.map pairT)
def listsT (l : List (List Pr)) : Str := joined (l.map pairsT)
/-- the lists of each polygon -/
def parts {A : Type} : List Nat → List A → List (List A)
  | [], _ => []
  | n :: r, l => l.take n :: parts r (l.drop n)
def bodyT (g : Geo) : Str :=
  if g.kind = 1 ∨ g.kind = 2 then (match g.lists with | [] => emptyWord | x :: _ => pairsT x)
  else if g.kind = 6 then joined ((parts g.sizes g.lists).map listsT)
  else listsT g.lists

/-- what stands between one geometry and the next -/
def sep (ahead : Option Nat) (lev : Nat) : Str :=
  match ahead with
  | .none => []
  | .some a => if a < lev then [40] else List.replicate (a - lev) 41 ++ [44, 32]
def told (g : Geo) (r : List Geo) : Bool := g.kind != 7 || (match r with | [] => true | h :: _ => decide (h.level ≤ g.level))
/-- the text of what is left -/
def textF : Option Nat → List Geo → Str
  | .none, [] => []
  | .some a, [] => List.replicate a 41
  | a, g :: r => sep a g.level ++ (nm g.kind ++ (32 :: ((if told g r then bodyT g else []) ++ textF (some g.level) r)))
def write (l : List Geo) : Str := textF .none l
def after (g : Geo) (r : List Geo) : Str := nm g.kind ++ (32 :: ((if told g r then bodyT g else []) ++ textF (some g.level) r))
theorem textF_cons (a : Option Nat) (g : Geo) (r : List Geo) : textF a (g :: r) = sep a g.level ++ after g r := by cases a <;> rfl

/-- the document's text: of the first, and what it leaves -/
def docF : Nat → Nat → List Geo → (Str × List Str) × List Geo
  | 0, _, l => (([], []), l)
  | n + 1, 0, l => match l with
    | [] => (([], []), [])
    | g :: r => if g.kind = 7 then ((nm g.kind ++ (32 :: joined (docF n (g.level + 1) r).1.2), []), (docF n (g.level + 1) r).2) else ((nm g.kind ++ (32 :: bodyT g), []), r)
  | n + 1, lev + 1, l => match l with
    | [] => (([], []), [])
    | h :: r => if h.level > lev then (([], (docF n 0 (h :: r)).1.1 :: (docF n (lev + 1) (docF n 0 (h :: r)).2).1.2), (docF n (lev + 1) (docF n 0 (h :: r)).2).2) else (([], []), h :: r)
/-- the text of the first geometry with all that stands in it, and what is left -/
def doc (n : Nat) (l : List Geo) : Str × List Geo := ((docF n 0 l).1.1, (docF n 0 l).2)
def kids (n : Nat) (lev : Nat) (l : List Geo) : List Str × List Geo := ((docF n (lev + 1) l).1.2, (docF n (lev + 1) l).2)
theorem doc_zero (l : List Geo) : doc 0 l = ([], l) := rfl
theorem kids_zero (lev : Nat) (l : List Geo) : kids 0 lev l = ([], l) := rfl
theorem doc_cons (n : Nat) (g : Geo) (r : List Geo) : doc (n + 1) (g :: r) = if g.kind = 7 then (nm g.kind ++ (32 :: joined (kids n g.level r).1), (kids n g.level r).2) else (nm g.kind ++ (32 :: bodyT g), r) := by
  by_cases h : g.kind = 7 <;> simp [doc, kids, docF, h]
theorem kids_nil (n lev : Nat) : kids n lev [] = ([], []) := by cases n <;> rfl
theorem kids_cons (n lev : Nat) (h : Geo) (r : List Geo) : kids (n + 1) lev (h :: r) = if h.level > lev then ((doc n (h :: r)).1 :: (kids n lev (doc n (h :: r)).2).1, (kids n lev (doc n (h :: r)).2).2) else ([], h :: r) := by
  by_cases h : h.level > lev <;> simp [doc, kids, docF, h]

/-- the levels are as they must be -/
def Lev : List Geo → Prop
  | [] => True
  | [_] => True
  | g :: h :: r => (h.level ≤ if g.kind = 7 then g.level + 1 else g.level) ∧ Lev (h :: r)
theorem Lev.tail {g : Geo} {r : List Geo} (h : Lev (g :: r)) : Lev r := by
  cases r with
  | nil => trivial
  | cons x r => exact h.2
theorem bodyT_coll (g : Geo) (h : g.kind = 7) (hl : g.lists = []) : bodyT g = emptyWord := by
  unfold bodyT listsT joined; rw [h, hl]; rfl

theorem join_cons (x : Str) (l : List Str) (h : l ≠ []) : join (x :: l) = x ++ ([44, 32] ++ join l) := by
  cases l with
  | nil => exact absurd rfl h
  | cons y r => rfl

/-- what a list leaves is its end, and shorter -/
def Ends (r l : List Geo) : Prop := ∃ p, l = p ++ r
theorem Lev.ends {r : List Geo} : ∀ {p : List Geo}, Lev (p ++ r) → Lev r
  | [], h => h
  | _ :: p, h => Lev.ends (p := p) h.tail

theorem doc_text : ∀ n,
    (∀ g r, (g :: r).length * 2 ≤ n → Lev (g :: r) → (∀ x ∈ g :: r, x.kind = 7 → x.lists = []) →
      Ends (doc n (g :: r)).2 r ∧ (∀ h q, (doc n (g :: r)).2 = h :: q → h.level ≤ g.level) ∧ after g r = (doc n (g :: r)).1 ++ textF (some g.level) (doc n (g :: r)).2) ∧
    (∀ lev h r, (h :: r).length * 2 + 1 ≤ n → Lev (h :: r) → h.level = lev + 1 → (∀ x ∈ h :: r, x.kind = 7 → x.lists = []) →
      Ends (kids n lev (h :: r)).2 r ∧ (kids n lev (h :: r)).1 ≠ [] ∧ (∀ k q, (kids n lev (h :: r)).2 = k :: q → k.level ≤ lev) ∧ after h r = join (kids n lev (h :: r)).1 ++ (41 :: textF (some lev) (kids n lev (h :: r)).2)) := by
  intro n
  induction n with
  | zero =>
    refine ⟨fun g r h => ?_, fun lev h r hh => ?_⟩
    · simp at h
    · simp at hh
  | succ n ih =>
    obtain ⟨ih1, ih2⟩ := ih
    refine ⟨fun g r hn hlev hc => ?_, fun lev h r hn hlev hl hc => ?_⟩
    · rw [doc_cons]
      by_cases h7 : g.kind = 7
      · rw [if_pos h7]
        cases r with
        | nil =>
          rw [kids_nil]
          refine ⟨⟨[], rfl⟩, fun h q e => by simp at e, ?_⟩
          unfold after told
          simp only [h7]
          have hb := bodyT_coll g h7 (hc g (List.mem_cons_self ..) h7)
          rw [if_pos (by simp), hb]
          simp [joined]
        | cons x q =>
          by_cases hx : x.level > g.level
          · have e : x.level = g.level + 1 := by
              have := hlev.1; rw [if_pos h7] at this; omega
            obtain ⟨e1, e2, e3, e4⟩ := ih2 g.level x q (by simp at hn ⊢; omega) hlev.tail e (fun y hy => hc y (List.mem_cons_of_mem _ hy))
            refine ⟨?_, e3, ?_⟩
            · obtain ⟨p, hp⟩ := e1; exact ⟨x :: p, congrArg (x :: ·) hp⟩
            · unfold after told
              have hnl : ¬ (x.level ≤ g.level) := by omega
              simp only [h7, hnl, bne_self_eq_false, decide_false, Bool.or_self, Bool.false_eq_true, if_false, List.nil_append]
              rw [textF_cons, e4]
              have : sep (some g.level) x.level = [40] := by unfold sep; simp only; rw [if_pos (by omega)]
              rw [this]
              unfold joined
              rw [if_neg e2]
              unfold bracket
              simp
          · have hk : kids n g.level (x :: q) = ([], x :: q) := by
              cases n with
              | zero => rfl
              | succ n => rw [kids_cons, if_neg hx]
            rw [hk]
            refine ⟨⟨[], rfl⟩, fun h q' e => by cases e; omega, ?_⟩
            unfold after told
            have hb := bodyT_coll g h7 (hc g (List.mem_cons_self ..) h7)
            rw [if_pos (by simp; omega), hb]
            simp [joined]
      · rw [if_neg h7]
        refine ⟨⟨[], rfl⟩, fun h q e => ?_, ?_⟩
        · simp only at e; subst e
          have := hlev.1; rw [if_neg h7] at this; exact this
        · unfold after told
          rw [if_pos (by simp [h7])]
          simp
    · rw [kids_cons, if_pos (by omega)]
      obtain ⟨a1, a2, a3⟩ := ih1 h r (by omega) hlev hc
      obtain ⟨rem, hrem⟩ : ∃ rem, rem = (doc n (h :: r)).2 := ⟨_, rfl⟩
      rw [← hrem] at a1 a2 a3 ⊢
      obtain ⟨p, hp⟩ := a1
      have hlev2 : Lev rem := by have := hlev.tail; rw [hp] at this; exact this.ends
      have hc2 : ∀ x ∈ rem, x.kind = 7 → x.lists = [] := fun x hx => hc x (List.mem_cons_of_mem _ (by rw [hp]; exact List.mem_append_right _ hx))
      cases rem with
      | nil =>
        rw [kids_nil]
        refine ⟨⟨p, hp⟩, by simp, fun k q e => by simp at e, ?_⟩
        rw [a3, hl]
        simp [join, textF, List.replicate_succ]
      | cons x q =>
        have hx := a2 x q rfl
        by_cases hxl : x.level = lev + 1
        · obtain ⟨b1, b2, b3, b4⟩ := ih2 lev x q (by rw [hp] at hn; simp at hn ⊢; omega) hlev2 hxl hc2
          refine ⟨?_, by simp, b3, ?_⟩
          · obtain ⟨p2, hp2⟩ := b1; exact ⟨p ++ x :: p2, by rw [hp]; simp; exact hp2⟩
          · rw [a3, textF_cons, b4, join_cons _ _ b2]
            have : sep (some h.level) x.level = [44, 32] := by unfold sep; simp only; rw [if_neg (by omega), hl, hxl, Nat.sub_self]; rfl
            rw [this]
            simp
        · have hk : kids n lev (x :: q) = ([], x :: q) := by
            cases n with
            | zero => rfl
            | succ n => rw [kids_cons, if_neg (by omega)]
          rw [hk]
          refine ⟨⟨p, hp⟩, by simp, fun k q' e => by cases e; omega, ?_⟩
          rw [a3, textF_cons, textF_cons]
          have e1 : sep (some h.level) x.level = 41 :: sep (some lev) x.level := by
            unfold sep; simp only
            rw [if_neg (by omega), if_neg (by omega), hl, show lev + 1 - x.level = (lev - x.level) + 1 from by omega, List.replicate_succ]; rfl
          rw [e1]
          simp [join]

/-- the first stands at level nought, all others deeper -/
def Top : List Geo → Prop
  | [] => False
  | g :: r => g.level = 0 ∧ ∀ x ∈ r, 1 ≤ x.level
theorem write_doc (l : List Geo) (n : Nat) (hn : l.length * 2 ≤ n) (hl : Lev l) (ht : Top l) (hc : ∀ x ∈ l, x.kind = 7 → x.lists = []) : doc n l = (write l, []) := by
  cases l with
  | nil => exact absurd ht (by simp [Top])
  | cons g r =>
    obtain ⟨a1, a2, a3⟩ := (doc_text n).1 g r hn hl hc
    obtain ⟨h0, h1⟩ := ht
    have hr : (doc n (g :: r)).2 = [] := by
      cases hd : (doc n (g :: r)).2 with
      | nil => rfl
      | cons x q =>
        have := a2 x q hd
        obtain ⟨p, hp⟩ := a1
        have := h1 x (by rw [hp, hd]; simp)
        omega
    rw [hr, h0] at a3
    have hw : write (g :: r) = after g r := by unfold write; rw [textF_cons]; rfl
    refine Prod.ext ?_ hr
    rw [hw, a3]; simp [textF]
end Go.Proofs.YtfbdkjonjpanfaaGreatDoor.Wk
