/- The document's machine for well-known text, in plain words, and that the reader answers as it does. No program in sight. -/
import Derived.Test.YtkhceimlheginaaWktP
set_option linter.unusedVariables false
set_option linter.unusedSimpArgs false
namespace Go.Proofs.Ytkhceimlheginaa.Wk
open Go Lx

structure RGeo where
  kind : Nat
  level : Nat
  pairs : List Str
  counts : List Nat
  size : List Nat
structure MS where
  at_ : Nat
  level : Nat
  out : List RGeo

def deeper (k : Nat) : Nat := if k = 1 then 1 else if k = 2 then 2 else if k = 3 then 3 else if k = 4 then 4 else if k = 5 then 3 else if k = 6 then 5 else 0
def last (z : MS) : RGeo := z.out.getLastD ⟨0, 0, [], [], []⟩
def setLast (z : MS) (g : RGeo) (a : Nat) : MS := ⟨a, z.level, z.out.dropLast ++ [g]⟩
def bump (l : List Nat) : List Nat := l.dropLast ++ [l.getLastD 0 + 1]
def more (g : RGeo) : RGeo := { g with counts := g.counts ++ [0] }
def closedAt (g : RGeo) : Nat := if deeper g.kind = 1 ∨ deeper g.kind = 2 then 10 else 7
def counted (g : RGeo) : RGeo := if deeper g.kind = 5 then { g with size := bump g.size } else g
def isEmpty (kind : Nat) (text : Str) : Bool := kind == 1 && upper text == emptyWord
def mnext (d : Nat) : Nat := if d = 1 ∨ d = 2 then 3 else if d = 3 then 6 else if d = 4 then 11 else if d = 5 then 8 else 0
def again (d : Nat) : Nat := if d = 3 ∨ d = 5 then 6 else if d = 4 then 11 else 0
def mbody (z : MS) (kind : Nat) (text : Str) : Option MS :=
  if isEmpty kind text then some { z with at_ := 10 } else
  if kind ≠ 3 then .none else
  if (last z).kind = 7 then some ⟨1, z.level + 1, z.out⟩ else
  some (setLast z (if deeper (last z).kind ≤ 2 then more (last z) else last z) (mnext (deeper (last z).kind)))
def behind (z : MS) (kind : Nat) : Option MS :=
  if z.at_ = 10 then
    if z.level = 0 then .none else if kind = 5 then some { z with at_ := 1 } else if kind = 4 then some { z with level := z.level - 1 } else .none
  else
    if kind = 5 then some { z with at_ := if z.at_ = 9 then 8 else again (deeper (last z).kind) } else
    if kind = 4 then some { z with at_ := if z.at_ = 7 ∧ deeper (last z).kind = 5 then 9 else 10 } else .none
def step (z : MS) (kind : Nat) (text : Str) : Option MS :=
  if z.at_ = 1 then
    if kind ≠ 1 ∨ Wk.kind text = 0 ∨ (Wk.kind text = 7 ∧ 32 ≤ z.level) then .none else some ⟨2, z.level, z.out ++ [⟨Wk.kind text, z.level, [], [], []⟩]⟩
  else if z.at_ = 2 then mbody z kind text
  else if z.at_ = 3 then
    if kind ≠ 2 then .none else some (setLast z { last z with pairs := (last z).pairs ++ [text] } 4)
  else if z.at_ = 4 then
    if kind ≠ 2 then .none else some (setLast z { last z with pairs := (last z).pairs ++ [text], counts := bump (last z).counts } (if deeper (last z).kind = 1 ∨ deeper (last z).kind = 4 then 12 else 5))
  else if z.at_ = 5 then
    if kind = 5 then some { z with at_ := 3 } else if kind = 4 then some { z with at_ := closedAt (last z) } else .none
  else if z.at_ = 12 then
    if kind = 4 then some { z with at_ := closedAt (last z) } else .none
  else if z.at_ = 6 ∨ z.at_ = 11 then
    if isEmpty kind text then some (setLast z (counted (more (last z))) 7) else if kind = 3 then some (setLast z (counted (more (last z))) 3) else .none
  else if z.at_ = 8 then
    if isEmpty kind text then some (setLast z { last z with size := (last z).size ++ [0] } 9) else if kind = 3 then some (setLast z { last z with size := (last z).size ++ [0] } 6) else .none
  else behind z kind

def run (s : Str) : MS → List Tok → MS × List Tok
  | z, [] => (z, [])
  | z, t :: r => match step z t.kind (txt s t) with
    | .none => (z, t :: r)
    | .some z' => run s z' r
def final (z : MS) : Prop := z.at_ = 10 ∧ z.level = 0

/-- the geometry under way -/
def gz (lev : Nat) (o : List RGeo) (k a : Nat) (ps : List Str) (cs ss : List Nat) : MS := ⟨a, lev, o ++ [⟨k, lev, ps, cs, ss⟩]⟩
section
variable {lev : Nat} {o : List RGeo} {k a : Nat} {ps : List Str} {cs ss : List Nat}
theorem gz_at : (gz lev o k a ps cs ss).at_ = a := rfl
theorem gz_level : (gz lev o k a ps cs ss).level = lev := rfl
theorem gz_last : last (gz lev o k a ps cs ss) = ⟨k, lev, ps, cs, ss⟩ := by unfold last gz; simp
theorem gz_set (b : Nat) (ps' : List Str) (cs' ss' : List Nat) : setLast (gz lev o k a ps cs ss) ⟨k, lev, ps', cs', ss'⟩ b = gz lev o k b ps' cs' ss' := by unfold setLast gz; simp
theorem gz_to (b : Nat) : ({ gz lev o k a ps cs ss with at_ := b } : MS) = gz lev o k b ps cs ss := rfl
end
theorem bump_snoc (l : List Nat) (n : Nat) : bump (l ++ [n]) = l ++ [n + 1] := by unfold bump; simp

/-- the reader has come as far as the machine, which stands at Z -/
def Ok (s : Str) (RUN : MS × List Tok) (σ : St) (Z : MS) : Prop :=
  if σ.bad then RUN.2 = σ.l ∧ (RUN.2 = [] → ¬ final RUN.1) else RUN = run s Z σ.l

section
variable {s : Str} {RUN : MS × List Tok} {σ : St} {Z : MS}

theorem ok_bad (hb : σ.bad = true) {Z' : MS} (h : Ok s RUN σ Z) : Ok s RUN σ Z' := by
  unfold Ok at *; rw [if_pos hb] at *; exact h

theorem ok_fail (hf : ¬ final Z) (hs : ∀ t r, σ.l = t :: r → step Z t.kind (txt s t) = .none) (h : Ok s RUN σ Z) {Z' : MS} : Ok s RUN (fail σ) Z' := by
  cases hb : σ.bad with
  | true =>
    have : fail σ = σ := by unfold fail; rw [← hb]
    rw [this]; exact ok_bad hb h
  | false =>
    unfold Ok at *
    rw [hb] at h
    simp only [Bool.false_eq_true, if_false] at h
    rw [if_pos (by rfl), h]
    show (run s Z σ.l).2 = σ.l ∧ _
    cases hl : σ.l with
    | nil => exact ⟨rfl, fun _ => hf⟩
    | cons t r =>
      unfold run
      rw [hs t r hl]
      exact ⟨rfl, fun h => by cases h⟩

theorem take_ok (k : Nat) (Z1 : Str → MS) (hf : ¬ final Z) (h : ∀ t r, σ.l = t :: r → step Z t.kind (txt s t) = if t.kind = k then some (Z1 (txt s t)) else .none) (ho : Ok s RUN σ Z) :
    Ok s RUN (take s σ k).1 (Z1 (take s σ k).2) := by
  cases hst : stop σ k with
  | true =>
    have he : take s σ k = (fail σ, []) := by unfold take; rw [if_pos hst]
    rw [he]
    cases hb : σ.bad with
    | true =>
      have : fail σ = σ := by unfold fail; rw [← hb]
      simp only [this]; exact ok_bad hb ho
    | false =>
      refine ok_fail hf (fun t r hl => ?_) ho
      rw [h t r hl, if_neg]
      intro e
      unfold stop peek at hst
      rw [hb, hl] at hst
      simp [e] at hst
  | false =>
    obtain ⟨t, r, hl, hk, hb, he⟩ := take_yes s σ k hst
    rw [he]
    unfold Ok at *
    rw [hb] at ho
    simp only [Bool.false_eq_true, if_false] at ho ⊢
    rw [ho, hl]
    conv => lhs; unfold run
    rw [h t r hl, if_pos hk]

theorem none_true (hn : (none s σ).2 = true) : ∃ t r, σ.l = t :: r ∧ isEmpty t.kind (txt s t) = true ∧ σ.bad = false ∧ (none s σ).1 = ⟨r, false⟩ := by
  unfold none at hn ⊢
  split at hn
  · rename_i hw
    rw [if_pos hw]
    cases hst : stop σ 1 with
    | true => unfold word at hw; rw [if_pos hst] at hw; simp [emptyWord] at hw
    | false =>
      obtain ⟨t, r, hl, hk, hb, he⟩ := take_yes s σ 1 hst
      refine ⟨t, r, hl, ?_, hb, by rw [he]⟩
      unfold word at hw
      rw [if_neg (by rw [hst]; simp), hl] at hw
      simp only at hw
      unfold isEmpty
      rw [hk, hw]; rfl
  · cases hn

theorem none_false (hn : (none s σ).2 = false) : (none s σ).1 = σ ∧ (σ.bad = false → ∀ t r, σ.l = t :: r → isEmpty t.kind (txt s t) = false) := by
  unfold none at hn ⊢
  split at hn
  · cases hn
  · rename_i hw
    rw [if_neg hw]
    refine ⟨rfl, fun hb t r hl => ?_⟩
    unfold isEmpty
    cases hk : t.kind == 1 with
    | false => rfl
    | true =>
      unfold word stop peek at hw
      rw [hb, hl] at hw
      simp only [hk] at hw
      simpa using hw

theorem empty_ok (hn : (none s σ).2 = true) {Ze : MS} (h : ∀ t, isEmpty t.kind (txt s t) = true → step Z t.kind (txt s t) = some Ze) (ho : Ok s RUN σ Z) : Ok s RUN (none s σ).1 Ze := by
  obtain ⟨t, r, hl, he, hb, h1⟩ := none_true hn
  rw [h1]
  unfold Ok at *
  rw [hb] at ho
  simp only [Bool.false_eq_true, if_false] at ho ⊢
  rw [ho, hl]
  conv => lhs; unfold run
  rw [h t he]

theorem open_ok (hn : (none s σ).2 = false) (hf : ¬ final Z) {Zo : MS} (h : ∀ t, isEmpty t.kind (txt s t) = false → step Z t.kind (txt s t) = if t.kind = 3 then some Zo else .none) (ho : Ok s RUN σ Z) : Ok s RUN (take s (none s σ).1 3).1 Zo := by
  obtain ⟨h1, h2⟩ := none_false hn
  rw [h1]
  cases hb : σ.bad with
  | true => rw [take_bad s σ 3 hb]; exact ok_bad hb ho
  | false => exact take_ok 3 (fun _ => Zo) hf (fun t r hl => h t (h2 hb t r hl)) ho

theorem each_ok {A : Type} {f : St → St × A} (hlen : ∀ z, (f z).1.l.length ≤ z.l.length) (Zel Zbeh Zend : List A → MS)
    (hf : ∀ acc σ, Ok s RUN σ (Zel acc) → Ok s RUN (f σ).1 (Zbeh (acc ++ [(f σ).2]))) (hnf : ∀ acc, ¬ final (Zbeh acc))
    (hb : ∀ acc kind text, step (Zbeh acc) kind text = if kind = 5 then some (Zel acc) else if kind = 4 then some (Zend acc) else .none) :
    ∀ n σ acc, (σ.bad = false → σ.l.length + 1 ≤ n) → Ok s RUN σ (Zel acc) → Ok s RUN (eachF s f n σ).1 (Zend (acc ++ (eachF s f n σ).2)) := by
  intro n
  induction n with
  | zero =>
    intro σ acc hn ho
    cases hbad : σ.bad with
    | true => exact ok_bad hbad ho
    | false => have := hn hbad; omega
  | succ n ih =>
    intro σ acc hn ho
    unfold eachF
    cases hbad : σ.bad with
    | true => simp only [if_true]; exact ok_bad hbad ho
    | false =>
      simp only [Bool.false_eq_true, if_false]
      have h1 := hf acc σ ho
      have hl := hlen σ
      have hn' := hn hbad
      cases hp : peek (f σ).1 5 with
      | true =>
        simp only [if_true]
        have h2 : Ok s RUN (take s (f σ).1 5).1 (Zel (acc ++ [(f σ).2])) := by
          refine take_ok 5 (fun _ => Zel (acc ++ [(f σ).2])) (hnf _) (fun t r hl => ?_) h1
          have hk : t.kind = 5 := by unfold peek at hp; rw [hl] at hp; simpa using hp
          rw [hb, if_pos hk, if_pos hk]
        have h3 := ih (take s (f σ).1 5).1 (acc ++ [(f σ).2]) (fun hb => by have := take_lt s (f σ).1 5 hb; omega) h2
        simpa using h3
      | false =>
        simp only [Bool.false_eq_true, if_false]
        refine take_ok 4 (fun _ => Zend (acc ++ [(f σ).2])) (hnf _) (fun t r hl => ?_) h1
        have hk : t.kind ≠ 5 := by unfold peek at hp; rw [hl] at hp; simpa using hp
        rw [hb, if_neg hk]

theorem eachO_ok {A : Type} {f : St → St × A} (hlen : ∀ z, (f z).1.l.length ≤ z.l.length) (Zel Zbeh Zend : List A → MS)
    (hf : ∀ acc σ, Ok s RUN σ (Zel acc) → Ok s RUN (f σ).1 (Zbeh (acc ++ [(f σ).2]))) (hnf : ∀ acc, ¬ final (Zbeh acc))
    (hb : ∀ acc kind text, step (Zbeh acc) kind text = if kind = 5 then some (Zel acc) else if kind = 4 then some (Zend acc) else .none)
    (ho : Ok s RUN (take s σ 3).1 (Zel [])) : Ok s RUN (each s f σ).1 (Zend (each s f σ).2) := by
  have := each_ok hlen Zel Zbeh Zend hf hnf hb ((take s σ 3).1.l.length + 1) (take s σ 3).1 [] (fun _ => Nat.le_refl _) ho
  simpa [each] using this
end
end Go.Proofs.Ytkhceimlheginaa.Wk
