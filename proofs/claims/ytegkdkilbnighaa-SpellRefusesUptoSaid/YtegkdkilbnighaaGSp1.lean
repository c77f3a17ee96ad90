/- Well-known text, written: the program's text and the document's are one. No program in sight. -/
import Derived.Test.YtegkdkilbnighaaWktP
import Derived.Test.YtegkdkilbnighaaMachB
import Derived.Test.YtegkdkilbnighaaWktW

set_option linter.unusedVariables false
set_option linter.unusedSimpArgs false
namespace Go.Proofs.Ytegkdkilbnighaa.Wk
open Go Lx

def nm (k : Nat) : Str := names.getD k []
/-- texts, parted by commas -/
def join : List Str → Str
  | [] => []
  | [x] => x
  | x :: y :: r => x ++ ([44, 32] ++ join (y :: r))
def bracket (l : List Str) : Str := 40 :: (join l ++ [41])
/-- texts in brackets; none: EMPTY -/
def joined (l : List Str) : Str := if l = [] then emptyWord else bracket l
def pairT (p : Pr) : Str := p.1 ++ (32 :: p.2)
def pairsT (l : List Pr) : Str := joined (l.map pairT)
def listsT (l : List (List Pr)) : Str := joined (l.map pairsT)
/-- the lists of each polygon -/
def parts {A : Type} : List Nat → List A → List (List A)
  | [], _ => []
  | n :: r, l => l.take n :: parts r (l.drop n)
def bodyT (g : Geo) : Str :=
  if g.kind = 1 ∨ g.kind = 2 then (match g.lists with | [] => emptyWord | x :: _ => pairsT x)
  else if g.kind = 6 then joined ((parts g.sizes g.lists).map listsT)
  else listsT g.lists

/-- what stands between one geometry and the next -/
def sep (ahead : Option Nat) (lev : Nat) : Str :=
  match ahead with
  | .none => []
  | .some a => if a < lev then [40] else List.replicate (a - lev) 41 ++ [44, 32]
def told (g : Geo) (r : List Geo) : Bool := g.kind != 7 || (match r with | [] => true | h :: _ => decide (h.level ≤ g.level))
/-- the text of what is left -/
def textF : Option Nat → List Geo → Str
  | .none, [] => []
  | .some a, [] => List.replicate a 41
  | a, g :: r => sep a g.level ++ (nm g.kind ++ (32 :: ((if told g r then bodyT g else []) ++ textF (some g.level) r)))
def write (l : List Geo) : Str := textF .none l
def after (g : Geo) (r : List Geo) : Str := nm g.kind ++ (32 :: ((if told g r then bodyT g else []) ++ textF (some g.level) r))
theorem textF_cons (a : Option Nat) (g : Geo) (r : List Geo) : textF a (g :: r) = sep a g.level ++ after g r := by cases a <;> rfl

/-- the document's text: of the first, and what it leaves -/
def docF : Nat → Nat → List Geo → (Str × List Str) × List Geo
  | 0, _, l => (([], []), l)
  | n + 1, 0, l => match l with
    | [] => (([], []), [])
    | g :: r => if g.kind = 7 then ((nm g.kind ++ (32 :: joined (docF n (g.level + 1) r).1.2), []), (docF n (g.level + 1) r).2) else ((nm g.kind ++ (32 :: bodyT g), []), r)
  | n + 1, lev + 1, l => match l with
    | [] => (([], []), [])
    | h :: r => if h.level > lev then (([], (docF n 0 (h :: r)).1.1 :: (docF n (lev + 1) (docF n 0 (h :: r)).2).1.2), (docF n (lev + 1) (docF n 0 (h :: r)).2).2) else (([], []), h :: r)
/-- the text of the first geometry with all that stands in it, and what is left -/
def doc (n : Nat) (l : List Geo) : Str × List Geo := ((docF n 0 l).1.1, (docF n 0 l).2)
def kids (n : Nat) (lev : Nat) (l : List Geo) : List Str × List Geo := ((docF n (lev + 1) l).1.2, (docF n (lev + 1) l).2)
theorem doc_zero (l : List Geo) : doc 0 l = ([], l) := rfl
theorem kids_zero (lev : Nat) (l : List Geo) : kids 0 lev l = ([], l) := rfl
theorem doc_cons (n : Nat) (g : Geo) (r : List Geo) : doc (n + 1) (g :: r) = if g.kind = 7 then (nm g.kind ++ (32 :: joined (kids n g.level r).1), (kids n g.level r).2) else (nm g.kind ++ (32 :: bodyT g), r) := by
  by_cases h : g.kind = 7 <;> simp [doc, kids, docF, h]
theorem kids_nil (n lev : Nat) : kids n lev [] = ([], []) := by cases n <;> rfl
theorem kids_cons (n lev : Nat) (h : Geo) (r : List Geo) : kids (n + 1) lev (h :: r) = if h.level > lev then ((doc n (h :: r)).1 :: (kids n lev (doc n (h :: r)).2).1, (kids n lev (doc n (h :: r)).2).2) else ([], h :: r) := by
  by_cases h : h.level > lev <;> simp [doc, kids, docF, h]

/-- the levels are as they must be -/
def Lev : List Geo → Prop
  | [] => True
  | [_] => True
  | g :: h :: r => (h.level ≤ if g.kind = 7 then g.level + 1 else g.level) ∧ Lev (h :: r)
theorem Lev.tail {g : Geo} {r : List Geo} (h : Lev (g :: r)) : Lev r := by
  cases r with
  | nil => trivial
  | cons x r => exact h.2
theorem bodyT_coll (g : Geo) (h : g.kind = 7) (hl : g.lists = []) : bodyT g = emptyWord := by
  unfold bodyT listsT joined; rw [h, hl]; rfl

theorem join_cons (x : Str) (l : List Str) (h : l ≠ []) : join (x :: l) = x ++ ([44, 32] ++ join l) := by
  cases l with
  | nil => exact absurd rfl h
  | cons y r => rfl

/-- what a list leaves is its end, and shorter -/
def Ends (r l : List Geo) : Prop := ∃ p, l = p ++ r
theorem Lev.ends {r : List Geo} : ∀ {p : List Geo}, Lev (p ++ r) → Lev r
  | [], h => h
  | _ :: p, h => Lev.ends (p := p) h.tail

theorem doc_text : ∀ n,
    (∀ g r, (g :: r).length * 2 ≤ n → Lev (g :: r) → (∀ x ∈ g :: r, x.kind = 7 → x.lists = []) →
      Ends (doc n (g :: r)).2 r ∧ (∀ h q, (doc n (g :: r)).2 = h :: q → h.level ≤ g.level) ∧ after g r = (doc n (g :: r)).1 ++ textF (some g.level) (doc n (g :: r)).2) ∧
    (∀ lev h r, (h :: r).length * 2 + 1 ≤ n → Lev (h :: r) → h.level = lev + 1 → (∀ x ∈ h :: r, x.kind = 7 → x.lists = []) →
      Ends (kids n lev (h :: r)).2 r ∧ (kids n lev (h :: r)).1 ≠ [] ∧ (∀ k q, (kids n lev (h :: r)).2 = k :: q → k.level ≤ lev) ∧ after h r = join (kids n lev (h :: r)).1 ++ (41 :: textF (some lev) (kids n lev (h :: r)).2)) := by
  intro n
  induction n with
  | zero =>
    refine ⟨fun g r h => ?_, fun lev h r hh => ?_⟩
    · simp at h
    · simp at hh
  | succ n ih =>
    obtain ⟨ih1, ih2⟩ := ih
    refine ⟨fun g r hn hlev hc => ?_, fun lev h r hn hlev hl hc => ?_⟩
    · rw [doc_cons]
      by_cases h7 : g.kind = 7
      · rw [if_pos h7]
        cases r with
        | nil =>
          rw [kids_nil]
          refine ⟨⟨[], rfl⟩, fun h q e => by simp at e, ?_⟩
          unfold after told
          simp only [h7]
          have hb := bodyT_coll g h7 (hc g (List.mem_cons_self ..) h7)
          rw [if_pos (by simp), hb]
          simp [joined]
        | cons x q =>
          by_cases hx : x.level > g.level
          · have e : x.level = g.level + 1 := by
              have := hlev.1; rw [if_pos h7] at this; omega
            obtain ⟨e1, e2, e3, e4⟩ := ih2 g.level x q (by simp at hn ⊢; omega) hlev.tail e (fun y hy => hc y (List.mem_cons_of_mem _ hy))
            refine ⟨?_, e3, ?_⟩
            · obtain ⟨p, hp⟩ := e1; exact ⟨x :: p, congrArg (x :: ·) hp⟩
            · unfold after told
              have hnl : ¬ (x.level ≤ g.level) := by omega
              simp only [h7, hnl, bne_self_eq_false, decide_false, Bool.or_self, Bool.false_eq_true, if_false, List.nil_append]
              rw [textF_cons, e4]
              have : sep (some g.level) x.level = [40] := by unfold sep; simp only; rw [if_pos (by omega)]
              rw [this]
              unfold joined
              rw [if_neg e2]
              unfold bracket
              simp
          · have hk : kids n g.level (x :: q) = ([], x :: q) := by
              cases n with
              | zero => rfl
              | succ n => rw [kids_cons, if_neg hx]
            rw [hk]
            refine ⟨⟨[], rfl⟩, fun h q' e => by cases e; omega, ?_⟩
            unfold after told
            have hb := bodyT_coll g h7 (hc g (List.mem_cons_self ..) h7)
            rw [if_pos (by simp; omega), hb]
            simp [joined]
      · rw [if_neg h7]
        refine ⟨⟨[], rfl⟩, fun h q e => ?_, ?_⟩
        · simp only at e; subst e
          have := hlev.1; rw [if_neg h7] at this; exact this
        · unfold after told
          rw [if_pos (by simp [h7])]
          simp
    · rw [kids_cons, if_pos (by omega)]
      obtain ⟨a1, a2, a3⟩ := ih1 h r (by omega) hlev hc
      obtain ⟨rem, hrem⟩ : ∃ rem, rem = (doc n (h :: r)).2 := ⟨_, rfl⟩
      rw [← hrem] at a1 a2 a3 ⊢
      obtain ⟨p, hp⟩ := a1
      have hlev2 : Lev rem := by have := hlev.tail; rw [hp] at this; exact this.ends
      have hc2 : ∀ x ∈ rem, x.kind = 7 → x.lists = [] := fun x hx => hc x (List.mem_cons_of_mem _ (by rw [hp]; exact List.mem_append_right _ hx))
      cases rem with
      | nil =>
        rw [kids_nil]
        refine ⟨⟨p, hp⟩, by simp, fun k q e => by simp at e, ?_⟩
        rw [a3, hl]
        simp [join, textF, List.replicate_succ]
      | cons x q =>
        have hx := a2 x q rfl
        by_cases hxl : x.level = lev + 1
        · obtain ⟨b1, b2, b3, b4⟩ := ih2 lev x q (by rw [hp] at hn; simp at hn ⊢; omega) hlev2 hxl hc2
          refine ⟨?_, by simp, b3, ?_⟩
          · obtain ⟨p2, hp2⟩ := b1; exact ⟨p ++ x :: p2, by rw [hp]; simp; exact hp2⟩
          · rw [a3, textF_cons, b4, join_cons _ _ b2]
            have : sep (some h.level) x.level = [44, 32] := by unfold sep; simp only; rw [if_neg (by omega), hl, hxl, Nat.sub_self]; rfl
            rw [this]
            simp
        · have hk : kids n lev (x :: q) = ([], x :: q) := by
            cases n with
            | zero => rfl
            | succ n => rw [kids_cons, if_neg (by omega)]
          rw [hk]
          refine ⟨⟨p, hp⟩, by simp, fun k q' e => by cases e; omega, ?_⟩
          rw [a3, textF_cons, textF_cons]
          have e1 : sep (some h.level) x.level = 41 :: sep (some lev) x.level := by
            unfold sep; simp only
            rw [if_neg (by omega), if_neg (by omega), hl, show lev + 1 - x.level = (lev - x.level) + 1 from by omega, List.replicate_succ]; rfl
          rw [e1]
          simp [join]

/-- the first stands at level nought, all others deeper -/
def Top : List Geo → Prop
  | [] => False
  | g :: r => g.level = 0 ∧ ∀ x ∈ r, 1 ≤ x.level
theorem write_doc (l : List Geo) (n : Nat) (hn : l.length * 2 ≤ n) (hl : Lev l) (ht : Top l) (hc : ∀ x ∈ l, x.kind = 7 → x.lists = []) : doc n l = (write l, []) := by
  cases l with
  | nil => exact absurd ht (by simp [Top])
  | cons g r =>
    obtain ⟨a1, a2, a3⟩ := (doc_text n).1 g r hn hl hc
    obtain ⟨h0, h1⟩ := ht
    have hr : (doc n (g :: r)).2 = [] := by
      cases hd : (doc n (g :: r)).2 with
      | nil => rfl
      | cons x q =>
        have := a2 x q hd
        obtain ⟨p, hp⟩ := a1
        have := h1 x (by rw [hp, hd]; simp)
        omega
    rw [hr, h0] at a3
    have hw : write (g :: r) = after g r := by unfold write; rw [textF_cons]; rfl
    refine Prod.ext ?_ hr
    rw [hw, a3]; simp [textF]
end Go.Proofs.Ytegkdkilbnighaa.Wk

set_option linter.unusedVariables false
set_option linter.unusedSimpArgs false
namespace Go.Proofs.Ytegkdkilbnighaa.Wk
open Go Lx

def prOk (p : Pr) : Prop := right p.1 = true ∧ right p.2 = true
def lsOk (l : List Pr) : Prop := ∀ p ∈ l, prOk p
/-- a geometry is right, but for where it stands -/
def OneG (g : Geo) : Prop :=
  1 ≤ g.kind ∧ g.kind ≤ 7 ∧ (∀ l ∈ g.lists, lsOk l) ∧
  (g.kind = 1 → g.lists = [] ∨ ∃ p, g.lists = [[p]]) ∧
  (g.kind = 2 → g.lists = [] ∨ ∃ l, g.lists = [l] ∧ l ≠ []) ∧
  (g.kind = 4 → ∀ l ∈ g.lists, l.length ≤ 1) ∧
  (g.kind = 6 → g.sizes.sum = g.lists.length) ∧
  (g.kind ≠ 6 → g.sizes = []) ∧
  (g.kind = 7 → g.lists = [] ∧ g.level < 32)
/-- it is what a text is read as -/
def RightG (gs : List Geo) : Prop := (∀ g ∈ gs, OneG g) ∧ Lev gs ∧ Top gs

def mP (p : Pr) : Nat := p.1.length + p.2.length + 2
def mL (l : List Pr) : Nat := 1 + (l.map mP).sum
def mLs (l : List (List Pr)) : Nat := (l.map mL).sum
def mG (g : Geo) : Nat := 6 + mLs g.lists + g.sizes.length
def wt (s : Str) (l : List Tok) : Nat := (l.map fun t => (txt s t).length + 1).sum
def Gd (s : Str) (l : List Tok) : Prop := ∀ t ∈ l, t.kind = 2 → right (txt s t) = true

/-- what is read costs tokens, and is so -/
def Kq {A : Type} (s : Str) (f : St → St × A) (Q : A → Prop) (m : A → Nat) : Prop :=
  ∀ z, Gd s z.l → (f z).1.bad = false → z.bad = false ∧ Gd s (f z).1.l ∧ Q (f z).2 ∧ m (f z).2 + wt s (f z).1.l ≤ wt s z.l

section
variable {s : Str}
theorem kq_take (z : St) (k : Nat) (hg : Gd s z.l) (h : (take s z k).1.bad = false) :
    z.bad = false ∧ Gd s (take s z k).1.l ∧ (k = 2 → right (take s z k).2 = true) ∧ (take s z k).2.length + 1 + wt s (take s z k).1.l ≤ wt s z.l ∧ (stop z k = false) := by
  by_cases hs : stop z k = true
  · unfold take at h; rw [if_pos hs] at h; simp [fail] at h
  · obtain ⟨t, r, hl, hk, hb, he⟩ := take_yes s z k (by simpa using hs)
    rw [he, hl]
    rw [hl] at hg
    refine ⟨hb, fun u hu => hg u (List.mem_cons_of_mem _ hu), fun e => hg t (List.mem_cons_self ..) (hk.trans e), ?_, by simpa using hs⟩
    show (txt s t).length + 1 + wt s r ≤ wt s (t :: r)
    unfold wt; simp
theorem kq_none (z : St) (hg : Gd s z.l) (h : (none s z).1.bad = false) :
    z.bad = false ∧ Gd s (none s z).1.l ∧ (none s z).1.l.length ≤ z.l.length ∧ wt s (none s z).1.l ≤ wt s z.l ∧ ((none s z).2 = true → 1 + wt s (none s z).1.l ≤ wt s z.l) := by
  have hlen := none_len s z
  unfold none at h hlen ⊢
  split at h
  · rename_i hw
    rw [if_pos hw] at hlen ⊢
    have := kq_take z 1 hg h
    exact ⟨this.1, this.2.1, hlen, by have := this.2.2.2.1; show wt s (take s z 1).1.l ≤ _; omega, fun _ => by have := this.2.2.2.1; show 1 + wt s (take s z 1).1.l ≤ _; omega⟩
  · rename_i hw
    rw [if_neg hw]
    exact ⟨h, hg, Nat.le_refl _, Nat.le_refl _, fun e => by cases e⟩
theorem kq_pair : Kq s (pair s) prOk mP := by
  intro z hg h
  unfold pair at h ⊢
  have hb := take_notbad s _ 2 h
  have h2 := kq_take z 2 hg hb
  have h1 := kq_take (take s z 2).1 2 h2.2.1 h
  refine ⟨h2.1, h1.2.1, ⟨h2.2.2.1 rfl, h1.2.2.1 rfl⟩, ?_⟩
  have a := h1.2.2.2.1
  have b := h2.2.2.2.1
  show (take s z 2).2.length + (take s (take s z 2).1 2).2.length + 2 + wt s (take s (take s z 2).1 2).1.l ≤ _
  omega
theorem kq_one : Kq s (one s) (fun l => lsOk l ∧ l.length ≤ 1) mL ∧ ∀ z, Gd s z.l → (one s z).1.bad = false → (none s z).2 = false → ∃ p, (one s z).2 = [p] := by
  refine ⟨?_, ?_⟩
  · intro z hg h
    unfold one at h ⊢
    split at h
    · rename_i hn
      rw [if_pos hn]
      have := kq_none z hg h
      exact ⟨this.1, this.2.1, ⟨(fun p hp => by cases hp), by simp⟩, this.2.2.2.2 hn⟩
    · rename_i hn
      rw [if_neg hn]
      have b4 := take_notbad s _ 4 h
      have b3 : (take s (none s z).1 3).1.bad = false := by
        have := take_notbad s _ 2 b4; exact take_notbad s _ 2 this
      have b2 := take_notbad s _ 3 b3
      have c1 := kq_none z hg b2
      have c2 := kq_take (none s z).1 3 c1.2.1 b3
      have c3 := kq_pair (take s (none s z).1 3).1 c2.2.1 b4
      have c4 := kq_take _ 4 c3.2.1 h
      refine ⟨c1.1, c4.2.1, ⟨?_, by simp⟩, ?_⟩
      · intro p hp
        rw [List.mem_singleton] at hp; subst hp
        exact c3.2.2.1
      · have x1 := c1.2.2.2.1
        have x2 := c2.2.2.2.1
        have x3 := c3.2.2.2
        have x4 := c4.2.2.2.1
        show 1 + (mP (pair s (take s (none s z).1 3).1).2 + 0) + _ ≤ _
        dsimp only
        omega
  · intro z hg h hn
    unfold one
    rw [if_neg (by rw [hn]; simp)]
    exact ⟨_, rfl⟩
theorem kq_eachF {A : Type} {f : St → St × A} {Q : A → Prop} {m : A → Nat} (hf : Kq s f Q m) : ∀ n z, Gd s z.l → (eachF s f n z).1.bad = false →
    z.bad = false ∧ Gd s (eachF s f n z).1.l ∧ (∀ x ∈ (eachF s f n z).2, Q x) ∧ ((eachF s f n z).2.map m).sum + wt s (eachF s f n z).1.l ≤ wt s z.l ∧ (1 ≤ n → (eachF s f n z).2 ≠ []) := by
  intro n
  induction n with
  | zero => intro z hg h; exact ⟨h, hg, (fun x hx => by cases hx), by show 0 + wt s z.l ≤ _; omega, fun e => by omega⟩
  | succ n ih =>
    intro z hg h
    unfold eachF at h ⊢
    split at h
    · rename_i hb
      rw [hb] at h; cases h
    · rename_i hb
      rw [if_neg hb]
      split at h
      · rename_i hp
        rw [if_pos hp]
        dsimp only at h ⊢
        have b1 : (take s (f z).1 5).1.bad = false := by
          cases hbb : (take s (f z).1 5).1.bad with
          | false => rfl
          | true =>
            have e : ∀ m, (eachF s f m (take s (f z).1 5).1).1.bad = true := by
              intro m; cases m with
              | zero => exact hbb
              | succ m => unfold eachF; rw [if_pos hbb]; exact hbb
            rw [e] at h; cases h
        have b0 := take_notbad s _ 5 b1
        have c0 := hf z hg b0
        have c1 := kq_take _ 5 c0.2.1 b1
        have c2 := ih _ c1.2.1 h
        refine ⟨c0.1, c2.2.1, ?_, ?_, fun _ => by simp⟩
        · intro x hx
          rcases List.mem_cons.1 hx with rfl | hx
          · exact c0.2.2.1
          · exact c2.2.2.1 x hx
        · have x0 := c0.2.2.2
          have x1 := c1.2.2.2.1
          have x2 := c2.2.2.2.1
          simp only [List.map_cons, List.sum_cons]
          omega
      · rename_i hp
        rw [if_neg hp]
        dsimp only at h ⊢
        have b0 := take_notbad s _ 4 h
        have c0 := hf z hg b0
        have c1 := kq_take _ 4 c0.2.1 h
        refine ⟨c0.1, c1.2.1, ?_, ?_, fun _ => by simp⟩
        · intro x hx
          rw [List.mem_singleton] at hx; subst hx
          exact c0.2.2.1
        · have x0 := c0.2.2.2
          have x1 := c1.2.2.2.1
          simp only [List.map_cons, List.sum_cons, List.map_nil, List.sum_nil]
          omega
theorem kq_each {A : Type} {f : St → St × A} {Q : A → Prop} {m : A → Nat} (hf : Kq s f Q m) : Kq s (each s f) (fun l => (∀ x ∈ l, Q x) ∧ l ≠ []) (fun l => 1 + (l.map m).sum) := by
  intro z hg h
  unfold each at h ⊢
  have b0 : (take s z 3).1.bad = false := by
    cases hbb : (take s z 3).1.bad with
    | false => rfl
    | true => unfold eachF at h; rw [if_pos hbb] at h; rw [hbb] at h; cases h
  have c0 := kq_take z 3 hg b0
  have c1 := kq_eachF hf _ _ c0.2.1 h
  refine ⟨c0.1, c1.2.1, ⟨c1.2.2.1, c1.2.2.2.2 (by omega)⟩, ?_⟩
  have x0 := c0.2.2.2.1
  have x1 := c1.2.2.2.1
  dsimp only
  omega
theorem kq_list : Kq s (list s) lsOk mL ∧ ∀ z, Gd s z.l → (list s z).1.bad = false → (none s z).2 = false → (list s z).2 ≠ [] := by
  refine ⟨?_, ?_⟩
  · intro z hg h
    unfold list at h ⊢
    split at h
    · rename_i hn
      rw [if_pos hn]
      have := kq_none z hg h
      exact ⟨this.1, this.2.1, (fun p hp => by cases hp), this.2.2.2.2 hn⟩
    · rename_i hn
      rw [if_neg hn]
      have hb : (none s z).1.bad = false := by
        unfold none
        split
        · rename_i hw
          unfold none at hn
          rw [if_pos hw] at hn; exact absurd rfl hn
        · rename_i hw
          unfold none at h
          rw [if_neg hw] at h
          cases hz : z.bad with
          | false => rfl
          | true =>
            have e1 : (take s z 3).1.bad = true := by rw [take_bad s z 3 hz]; exact hz
            unfold each eachF at h; rw [if_pos e1, e1] at h; cases h
      have c1 := kq_none z hg hb
      have c2 := kq_each kq_pair _ c1.2.1 h
      exact ⟨c1.1, c2.2.1, c2.2.2.1.1, by have x := c2.2.2.2; have := c1.2.2.2.1; dsimp only at x; unfold mL; (try dsimp only); omega⟩
  · intro z hg h hn
    have hn' : ¬ (none s z).2 = true := by rw [hn]; simp
    unfold list at h ⊢
    rw [if_neg hn'] at h ⊢
    have e : (none s z).1 = z := by
      unfold none at hn ⊢
      split at hn
      · cases hn
      · rename_i hw; rw [if_neg hw]
    rw [e] at h ⊢
    exact (kq_each kq_pair z hg h).2.2.1.2
theorem kq_poly : Kq s (poly s) (fun l => ∀ x ∈ l, lsOk x) (fun l => 1 + mLs l) := by
  intro z hg h
  unfold poly at h ⊢
  split at h
  · rename_i hn
    rw [if_pos hn]
    have := kq_none z hg h
    exact ⟨this.1, this.2.1, (fun p hp => by cases hp), this.2.2.2.2 hn⟩
  · rename_i hn
    rw [if_neg hn]
    have e : (none s z).1 = z := by
      unfold none at hn ⊢
      split at hn
      · exact absurd rfl hn
      · rename_i hw; rw [if_neg hw]
    unfold lists at h ⊢
    rw [e] at h ⊢
    have c2 := kq_each kq_list.1 z hg h
    exact ⟨c2.1, c2.2.1, c2.2.2.1.1, c2.2.2.2⟩
theorem cost_closing' (s : Str) : ∀ n z, (closing s n z).1.bad = false → z.bad = false := by
  intro n
  induction n with
  | zero => intro z h; exact h
  | succ n ih =>
    intro z h
    unfold closing at h
    split at h
    · exact h
    · split at h
      · exact take_notbad s z 5 h
      · exact take_notbad s z 4 (ih _ h)
theorem sum_append (a b : List Nat) : (a ++ b).sum = a.sum + b.sum := by simp
theorem flat_sum (l : List (List (List Pr))) : mLs l.flatten = (l.map mLs).sum := by
  induction l with
  | nil => rfl
  | cons x l ih => unfold mLs at ih ⊢; rw [List.flatten_cons, List.map_append, sum_append, ih]; rfl
theorem sum_lens {A : Type} (l : List (List A)) : (l.map List.length).sum = l.flatten.length := by
  induction l with
  | nil => rfl
  | cons x l ih => simp
theorem sum_succ {A : Type} (f : A → Nat) (l : List A) : (l.map fun x => 1 + f x).sum = l.length + (l.map f).sum := by
  induction l with
  | nil => rfl
  | cons x l ih => simp only [List.map_cons, List.sum_cons, List.length_cons, ih]; omega
/-- what a body holds, by its kind -/
def BdOk (k : Nat) (b : List (List Pr) × List Nat) : Prop :=
  (∀ l ∈ b.1, lsOk l) ∧ (k = 1 → b.1 = [] ∨ ∃ p, b.1 = [[p]]) ∧ (k = 2 → b.1 = [] ∨ ∃ l, b.1 = [l] ∧ l ≠ []) ∧ (k = 4 → ∀ l ∈ b.1, l.length ≤ 1) ∧ (k = 6 → b.2.sum = b.1.length) ∧ (k ≠ 6 → b.2 = [])
theorem kq_body (k : Nat) (hk : 1 ≤ k ∧ k ≤ 6) (z : St) (hg : Gd s z.l) (hn : (none s z).2 = false) (h : (body s k z).1.bad = false) :
    z.bad = false ∧ Gd s (body s k z).1.l ∧ BdOk k (body s k z).2 ∧ mLs (body s k z).2.1 + (body s k z).2.2.length + wt s (body s k z).1.l ≤ wt s z.l := by
  unfold body at h ⊢
  split at h
  · rename_i h1
    rw [if_pos h1]
    have c := kq_one.1 z hg h
    obtain ⟨p, hp⟩ := kq_one.2 z hg h hn
    refine ⟨c.1, c.2.1, ⟨?_, fun _ => .inr ⟨p, ?_⟩, fun e => by omega, fun e => by omega, fun e => by omega, fun _ => rfl⟩, ?_⟩
    · intro l hl; rw [List.mem_singleton] at hl; subst hl; exact c.2.2.1.1
    · show [(one s z).2] = _; rw [hp]
    · have := c.2.2.2; show (mL _ + 0) + 0 + _ ≤ _; dsimp only; omega
  rename_i h1
  rw [if_neg h1]
  split at h
  · rename_i h2
    rw [if_pos h2]
    have c := kq_list.1 z hg h
    have hne := kq_list.2 z hg h hn
    refine ⟨c.1, c.2.1, ⟨?_, fun e => absurd e h1, fun _ => .inr ⟨_, rfl, hne⟩, fun e => by omega, fun e => by omega, fun _ => rfl⟩, ?_⟩
    · intro l hl; rw [List.mem_singleton] at hl; subst hl; exact c.2.2.1
    · have := c.2.2.2; show (mL _ + 0) + 0 + _ ≤ _; dsimp only; omega
  rename_i h2
  rw [if_neg h2]
  split at h
  · rename_i h3
    rw [if_pos h3]
    have c := kq_each kq_list.1 z hg h
    refine ⟨c.1, c.2.1, ⟨c.2.2.1.1, fun e => absurd e h1, fun e => absurd e h2, fun e => by omega, fun e => by omega, fun _ => rfl⟩, ?_⟩
    have := c.2.2.2; dsimp only at this; show mLs (each s (list s) z).2 + 0 + _ ≤ _; unfold mLs lists; dsimp only; omega
  rename_i h3
  rw [if_neg h3]
  split at h
  · rename_i h4
    rw [if_pos h4]
    have c := kq_each kq_one.1 z hg h
    refine ⟨c.1, c.2.1, ⟨fun l hl => (c.2.2.1.1 l hl).1, fun e => absurd e h1, fun e => absurd e h2, fun _ l hl => (c.2.2.1.1 l hl).2, fun e => by omega, fun _ => rfl⟩, ?_⟩
    have := c.2.2.2; dsimp only at this; show mLs (each s (one s) z).2 + 0 + _ ≤ _; unfold mLs lists; dsimp only; omega
  · rename_i h4
    rw [if_neg h4]
    have c := kq_each kq_poly z hg h
    refine ⟨c.1, c.2.1, ⟨?_, fun e => absurd e h1, fun e => absurd e h2, fun e => absurd e h4, fun _ => ?_, fun e => by omega⟩, ?_⟩
    · intro l hl
      obtain ⟨x, hx, hl⟩ := List.mem_flatten.1 hl
      exact c.2.2.1.1 x hx l hl
    · exact sum_lens _
    · have x := c.2.2.2
      dsimp only at x
      rw [sum_succ] at x
      show mLs (each s (poly s) z).2.flatten + ((each s (poly s) z).2.map List.length).length + _ ≤ _
      rw [flat_sum, List.length_map]
      dsimp only
      omega
theorem kq_closing : ∀ n z, Gd s z.l → (closing s n z).1.bad = false → z.bad = false ∧ Gd s (closing s n z).1.l ∧ wt s (closing s n z).1.l ≤ wt s z.l ∧ (closing s n z).1.l.length ≤ z.l.length ∧ (closing s n z).2.1 ≤ n ∧ ((closing s n z).2.2 = true → 1 ≤ (closing s n z).2.1 ∧ (closing s n z).1.l.length < z.l.length) := by
  intro n
  induction n with
  | zero => intro z hg h; exact ⟨h, hg, Nat.le_refl _, Nat.le_refl _, Nat.le_refl _, fun e => by cases e⟩
  | succ n ih =>
    intro z hg h
    unfold closing at h ⊢
    split at h
    · rename_i hb
      rw [hb] at h; cases h
    rename_i hb
    rw [if_neg hb]
    split at h
    · rename_i hp
      rw [if_pos hp]
      have c := kq_take z 5 hg h
      have := take_lt s z 5 h
      exact ⟨c.1, c.2.1, by have := c.2.2.2.1; show wt s (take s z 5).1.l ≤ _; omega, Nat.le_of_lt this, Nat.le_refl _, fun _ => ⟨by show 1 ≤ n + 1; omega, this⟩⟩
    · rename_i hp
      rw [if_neg hp]
      have b : (take s z 4).1.bad = false := (cost_closing' s n _ h)
      have c := kq_take z 4 hg b
      have d := ih _ c.2.1 h
      have hlt := take_lt s z 4 b
      exact ⟨c.1, d.2.1, by have := d.2.2.1; have := c.2.2.2.1; omega, by have := d.2.2.2.1; omega, by have := d.2.2.2.2.1; omega, fun e => by have := d.2.2.2.2.2 e; exact ⟨this.1, by omega⟩⟩
end
end Go.Proofs.Ytegkdkilbnighaa.Wk

set_option linter.unusedVariables false
set_option linter.unusedSimpArgs false
namespace Go.Proofs.Ytegkdkilbnighaa.Wk
open Go Lx

theorem none_notbad (s : Str) (z : St) (h : (none s z).1.bad = false) : z.bad = false := by
  unfold none at h
  split at h
  · exact take_notbad s z 1 h
  · exact h
theorem cost_geosF' (s : Str) : ∀ n z lev, (geosF s n z lev).1.bad = false → z.bad = false := by
  intro n z lev h
  cases hz : z.bad with
  | false => rfl
  | true =>
    cases n with
    | zero => rw [← hz]; exact h
    | succ n => unfold geosF at h; rw [if_pos hz] at h; rw [← hz]; exact h
theorem kind_len (u : Str) (h : kind u ≠ 0) : 5 ≤ u.length := by
  unfold kind at h
  split at h
  · rename_i hlt
    have hm : upper u ∈ names := by
      have : names.idxOf (upper u) < names.length := hlt
      exact List.idxOf_lt_length_iff.1 this
    have hl : (upper u).length = u.length := by unfold upper; simp
    rw [← hl]
    unfold names at hm h
    simp only [List.mem_cons, List.not_mem_nil, or_false] at hm
    rcases hm with e | e | e | e | e | e | e | e <;> rw [e] at h ⊢ <;> first | (exact absurd rfl h) | (simp)
  · exact absurd rfl h
theorem word_take {s : Str} {z : St} (h : kind (word s z) ≠ 0) (hb : (take s z 1).1.bad = false) : 5 ≤ (take s z 1).2.length := by
  have h1 := kind_len _ h
  by_cases hs : stop z 1 = true
  · unfold word at h1; rw [if_pos hs] at h1; simp at h1
  · obtain ⟨t, r, hl, hk, hb, he⟩ := take_yes s z 1 (by simpa using hs)
    unfold word at h1
    rw [if_neg hs, hl] at h1
    rw [he]
    unfold upper at h1
    simpa using h1

theorem kq_geosF {s : Str} : ∀ n z lev, z.l.length + 1 ≤ n → Gd s z.l → lev ≤ 32 → (geosF s n z lev).1.bad = false →
    z.bad = false ∧ (∀ g ∈ (geosF s n z lev).2, OneG g) ∧ Lev (geosF s n z lev).2 ∧ (∃ g r, (geosF s n z lev).2 = g :: r ∧ g.level = lev ∧ ∀ x ∈ r, 1 ≤ x.level) ∧ ((geosF s n z lev).2.map mG).sum + wt s (geosF s n z lev).1.l ≤ wt s z.l := by
  intro n
  induction n with
  | zero => intro z lev h; omega
  | succ n ih =>
    intro z lev hn hg hlev h
    unfold geosF at h ⊢
    split at h
    · rename_i hb
      rw [hb] at h; cases h
    rename_i hb
    rw [if_neg hb]
    dsimp only at h ⊢
    split at h
    · exact absurd h (by simp [fail])
    rename_i hk
    rw [if_neg hk]
    have hk0 : kind (word s z) ≠ 0 := fun e => hk (.inl e)
    have hk7 := kind_le (word s z)
    split at h
    · rename_i h7
      rw [if_pos h7]
      dsimp only at h ⊢
      have hl32 : lev < 32 := by
        rcases Nat.lt_or_ge lev 32 with h | h
        · exact h
        · exact absurd (.inr ⟨h7.2, h⟩) hk
      have b3 : (take s (none s (take s z 1).1).1 3).1.bad = false := (cost_geosF' s n _ _ h)
      have b2 := take_notbad s _ 3 b3
      have b1 : (take s z 1).1.bad = false := none_notbad s _ b2
      have c1 := kq_take z 1 hg b1
      have c2 := kq_none _ c1.2.1 b2
      have c3 := kq_take _ 3 c2.2.1 b3
      have l1 := take_lt s z 1 b1
      have l3 := take_lt s _ 3 b3
      have hw := word_take hk0 b1
      obtain ⟨_, d2, d3, ⟨g, r, d4, d5, d6⟩, d7⟩ := ih _ (lev + 1) (by have := c2.2.2.1; omega) c3.2.1 (by omega) h
      refine ⟨c1.1, ?_, ?_, ⟨_, _, rfl, rfl, ?_⟩, ?_⟩
      · intro x hx
        rcases List.mem_cons.1 hx with rfl | hx
        · refine ⟨by show 1 ≤ kind _; omega, hk7, (fun l hl => by cases hl), fun e => .inl rfl, fun e => .inl rfl, (fun _ l hl => by cases hl), fun e => rfl, fun _ => rfl, fun _ => ⟨rfl, hl32⟩⟩
        · exact d2 x hx
      · rw [d4] at d3 ⊢
        refine ⟨?_, d3⟩
        show g.level ≤ if kind (word s z) = 7 then lev + 1 else lev
        rw [if_pos h7.2]; omega
      · intro x hx
        rw [d4] at hx
        rcases List.mem_cons.1 hx with rfl | hx
        · omega
        · exact d6 x hx
      · have x1 := c1.2.2.2.1
        have x2 := c2.2.2.2.1
        have x3 := c3.2.2.2.1
        simp only [List.map_cons, List.sum_cons]
        have : mG ⟨kind (word s z), lev, [], []⟩ = 6 := rfl
        rw [this]
        omega
    · rename_i h7
      rw [if_neg h7]
      have hbody : ∀ b, b = (if (none s (take s z 1).1).2 = true then ((none s (take s z 1).1).1, ([], [])) else body s (kind (word s z)) (none s (take s z 1).1).1) → b.1.bad = false →
          z.bad = false ∧ Gd s b.1.l ∧ BdOk (kind (word s z)) b.2 ∧ (kind (word s z) = 7 → b.2.1 = [] ∧ lev < 32) ∧ 6 + mLs b.2.1 + b.2.2.length + wt s b.1.l ≤ wt s z.l ∧ b.1.l.length < z.l.length := by
        intro b hb2 hbb
        subst hb2
        split at hbb
        · rename_i hnn
          rw [if_pos hnn]
          have b1 := none_notbad s _ hbb
          have c1 := kq_take z 1 hg b1
          have c2 := kq_none _ c1.2.1 hbb
          have l1 := take_lt s z 1 b1
          have hw := word_take hk0 b1
          refine ⟨c1.1, c2.2.1, ⟨(fun l hl => by cases hl), fun _ => .inl rfl, fun _ => .inl rfl, (fun _ l hl => by cases hl), fun _ => rfl, fun _ => rfl⟩, fun e => ⟨rfl, ?_⟩, ?_, ?_⟩
          · rcases Nat.lt_or_ge lev 32 with h | h
            · exact h
            · exact absurd (.inr ⟨e, h⟩) hk
          · have x1 := c1.2.2.2.1
            have x2 := c2.2.2.2.1
            show 6 + 0 + 0 + wt s (none s (take s z 1).1).1.l ≤ _
            omega
          · have := c2.2.2.1; show (none s (take s z 1).1).1.l.length < _; omega
        · rename_i hnn
          rw [if_neg hnn]
          have hnf : (none s (take s z 1).1).2 = false := by simpa using hnn
          have e : (none s (take s z 1).1).1 = (take s z 1).1 := by
            unfold none at hnf ⊢
            split at hnf
            · cases hnf
            · rename_i hw; rw [if_neg hw]
          rw [e] at hbb ⊢
          have h7' : kind (word s z) ≠ 7 := fun e => h7 ⟨hnf, e⟩
          have hkk : 1 ≤ kind (word s z) ∧ kind (word s z) ≤ 6 := by omega
          have b1 : (take s z 1).1.bad = false := (cost_body s _ _ hbb).1
          have c1 := kq_take z 1 hg b1
          have c2 := kq_body _ hkk _ c1.2.1 hnf hbb
          have l1 := take_lt s z 1 b1
          have hw := word_take hk0 b1
          refine ⟨c1.1, c2.2.1, c2.2.2.1, fun e => absurd e h7', ?_, ?_⟩
          · have x1 := c1.2.2.2.1
            have x2 := c2.2.2.2
            omega
          · have := body_len s (kind (word s z)) (take s z 1).1; omega
      have hbody := hbody _ rfl
      generalize (if (none s (take s z 1).1).2 = true then ((none s (take s z 1).1).1, (([] : List (List Pr)), ([] : List Nat))) else body s (kind (word s z)) (none s (take s z 1).1).1) = b at h hbody ⊢
      have hone : b.1.bad = false → OneG ⟨kind (word s z), lev, b.2.1, b.2.2⟩ := by
        intro hbb
        obtain ⟨_, _, ⟨f1, f2, f3, f4, f5, f6⟩, f7, _, _⟩ := hbody hbb
        exact ⟨by show 1 ≤ kind _; omega, hk7, f1, f2, f3, f4, f5, f6, f7⟩
      split at h
      · rename_i hc
        rw [if_pos hc]
        dsimp only at h ⊢
        have b1 : (closing s lev b.1).1.bad = false := cost_geosF' s n _ _ h
        have b0 := cost_closing' s _ _ b1
        have h3 := hbody b0
        have c1 := kq_closing _ _ h3.2.1 b1
        have hpos := c1.2.2.2.2.2 hc
        obtain ⟨_, d2, d3, ⟨g, r, d4, d5, d6⟩, d7⟩ := ih _ (closing s lev b.1).2.1 (by have := h3.2.2.2.2.2; omega) c1.2.1 (by have := c1.2.2.2.2.1; omega) h
        refine ⟨h3.1, ?_, ?_, ⟨_, _, rfl, rfl, ?_⟩, ?_⟩
        · intro x hx
          rcases List.mem_cons.1 hx with rfl | hx
          · exact hone b0
          · exact d2 x hx
        · rw [d4] at d3 ⊢
          refine ⟨?_, d3⟩
          show g.level ≤ if kind (word s z) = 7 then lev + 1 else lev
          have := c1.2.2.2.2.1
          split <;> omega
        · intro x hx
          rw [d4] at hx
          rcases List.mem_cons.1 hx with rfl | hx
          · omega
          · exact d6 x hx
        · have x1 := h3.2.2.2.2.1
          have x2 := c1.2.2.1
          simp only [List.map_cons, List.sum_cons]
          have : mG ⟨kind (word s z), lev, b.2.1, b.2.2⟩ = 6 + mLs b.2.1 + b.2.2.length := rfl
          rw [this]
          omega
      · rename_i hc
        rw [if_neg hc]
        have b0 := cost_closing' s _ _ h
        have h3 := hbody b0
        have c1 := kq_closing _ _ h3.2.1 h
        refine ⟨h3.1, ?_, trivial, ⟨_, _, rfl, rfl, fun x hx => by cases hx⟩, ?_⟩
        · intro x hx
          rw [List.mem_singleton] at hx; subst hx
          exact hone b0
        · have x1 := h3.2.2.2.2.1
          have x2 := c1.2.2.1
          simp only [List.map_cons, List.sum_cons, List.map_nil, List.sum_nil]
          have : mG ⟨kind (word s z), lev, b.2.1, b.2.2⟩ = 6 + mLs b.2.1 + b.2.2.length := rfl
          rw [this]
          omega

theorem rest_gd (s : ByteArray) : ∀ n k, s.size - k ≤ n → (∀ t ∈ rest s k, t.kind = 2 → right (text t.kind t.fr t.to s.data.toList) = true) ∧ wt s.data.toList (rest s k) ≤ 2 * (s.size - k) := by
  have hl : s.data.toList.length = s.size := (Lib.size_eq s).symm
  intro n
  induction n with
  | zero => intro k h; rw [rest_end s k (by omega)]; exact ⟨(fun t ht => by cases ht), Nat.zero_le _⟩
  | succ n ih =>
    intro k h
    by_cases hk : k < s.size
    · cases hb : Lx.one s[k] [32, 9, 13, 10]
      · rw [rest_tok s k hk hb]
        have hto := next_to s k hk
        have hfr : (next s.data.toList k).fr = k := Go.Proofs.Ytegkdkilbnighaa.next_fr _ _
        have htx : (text (next s.data.toList k).kind (next s.data.toList k).fr (next s.data.toList k).to s.data.toList) = (s.data.toList.drop k).take ((next s.data.toList k).to - k) := by
          rw [hfr]
          unfold text
          rw [if_neg (by omega)]
          congr 1
          omega
        have hlen : (text (next s.data.toList k).kind (next s.data.toList k).fr (next s.data.toList k).to s.data.toList).length = (next s.data.toList k).to - k := by
          rw [htx]; simp; omega
        have hnext : (next s.data.toList k).kind = 2 → right (text (next s.data.toList k).kind (next s.data.toList k).fr (next s.data.toList k).to s.data.toList) = true := by
          intro h2
          rw [htx]
          unfold next at h2 ⊢
          simp only [head_drop s k hk] at h2 ⊢
          split at h2
          · simp only at h2; omega
          · rename_i q1
            split at h2
            · simp only at h2; omega
            · rename_i q2
              split at h2
              · rename_i q3
                simp only at h2
                split at h2
                · rename_i q4
                  simp only [q1, q2, q3, if_true, if_false, Bool.false_eq_true]
                  rw [Nat.add_sub_cancel_left]; exact q4
                · cases h2
              · simp only at h2; omega
        by_cases h0 : (next s.data.toList k).kind = 0
        · rw [if_pos h0]
          refine ⟨?_, ?_⟩
          · intro t ht
            rw [List.mem_singleton] at ht; subst ht; exact hnext
          · unfold wt txt
            simp only [List.map_cons, List.map_nil, List.sum_cons, List.sum_nil]
            rw [hlen]; omega
        · rw [if_neg h0]
          have := ih (next s.data.toList k).to (by omega)
          refine ⟨?_, ?_⟩
          · intro t ht
            rcases List.mem_cons.1 ht with rfl | ht
            · exact hnext
            · exact this.1 t ht
          · have h2 := this.2
            unfold wt txt at h2 ⊢
            simp only [List.map_cons, List.sum_cons]
            rw [hlen]; omega
      · rw [rest_blank s k hk hb]
        have := ih (k + 1) (by omega)
        exact ⟨this.1, by have := this.2; omega⟩
    · rw [rest_end s k (by omega)]; exact ⟨(fun t ht => by cases ht), Nat.zero_le _⟩

theorem wt_pre {s : Str} {a b : List Tok} (h : a <+: b) : wt s a ≤ wt s b := by
  obtain ⟨c, rfl⟩ := h
  unfold wt; rw [List.map_append, sum_append]; omega
/-- whatever a text is read as is right, and holds no more than so much -/
theorem parse_right (s : ByteArray) (gs : List Geo) (h : parse s.data.toList = .ok gs) : RightG gs ∧ (gs.map mG).sum ≤ 2 * s.size := by
  have hr := rest_gd s s.size 0 (by omega)
  rw [rest_zero] at hr
  have hpre : toks s.data.toList <+: scan s.data.toList := List.takeWhile_prefix _
  have hg : Gd s.data.toList (toks s.data.toList) := fun t ht h2 => hr.1 t (hpre.subset ht) h2
  have hw := wt_pre (s := s.data.toList) hpre
  unfold parse at h
  split at h
  · cases h
  · split at h
    · cases h
    · split at h
      · cases h
      · rename_i hb
        cases h
        have hb' : (geosF s.data.toList ((toks s.data.toList).length + 1) ⟨toks s.data.toList, false⟩ 0).1.bad = false := by
          unfold geos at hb; simpa using hb
        obtain ⟨_, d2, d3, ⟨g, r, d4, d5, d6⟩, d7⟩ := kq_geosF _ _ 0 (Nat.le_refl _) hg (by omega) hb'
        refine ⟨⟨d2, d3, ?_⟩, ?_⟩
        · show Top (geosF s.data.toList ((toks s.data.toList).length + 1) ⟨toks s.data.toList, false⟩ 0).2
          rw [d4]; exact ⟨d5, d6⟩
        · show ((geosF s.data.toList ((toks s.data.toList).length + 1) ⟨toks s.data.toList, false⟩ 0).2.map mG).sum ≤ _
          have hr2 := hr.2
          dsimp only at d7
          rw [Nat.sub_zero] at hr2
          omega
end Go.Proofs.Ytegkdkilbnighaa.Wk
