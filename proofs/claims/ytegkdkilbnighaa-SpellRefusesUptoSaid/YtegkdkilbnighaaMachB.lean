/- The reader answers as the document's machine does: from pairs to whole texts. No program in sight. -/
import Derived.Test.YtegkdkilbnighaaWktP
set_option linter.unusedVariables false
set_option linter.unusedSimpArgs false
namespace Go.Proofs.Ytegkdkilbnighaa.Wk
open Go Lx

structure RGeo where
  kind : Nat
  level : Nat
  pairs : List Str
  counts : List Nat
  size : List Nat
structure MS where
  at_ : Nat
  level : Nat
  out : List RGeo

def deeper (k : Nat) : Nat := if k = 1 then 1 else if k = 2 then 2 else if k = 3 then 3 else if k = 4 then 4 else if k = 5 then 3 else if k = 6 then 5 else 0
def last (z : MS) : RGeo := z.out.getLastD ⟨0, 0, [], [], []⟩
def setLast (z : MS) (g : RGeo) (a : Nat) : MS := ⟨a, z.level, z.out.dropLast ++ [g]⟩
def bump (l : List Nat) : List Nat := l.dropLast ++ [l.getLastD 0 + 1]
def more (g : RGeo) : RGeo := { g with counts := g.counts ++ [0] }
def closedAt (g : RGeo) : Nat := if deeper g.kind = 1 ∨ deeper g.kind = 2 then 10 else 7
def counted (g : RGeo) : RGeo := if deeper g.kind = 5 then { g with size := bump g.size } else g
def isEmpty (kind : Nat) (text : Str) : Bool := kind == 1 && upper text == emptyWord
def mnext (d : Nat) : Nat := if d = 1 ∨ d = 2 then 3 else if d = 3 then 6 else if d = 4 then 11 else if d = 5 then 8 else 0
def again (d : Nat) : Nat := if d = 3 ∨ d = 5 then 6 else if d = 4 then 11 else 0
def mbody (z : MS) (kind : Nat) (text : Str) : Option MS :=
  if isEmpty kind text then some { z with at_ := 10 } else
  if kind ≠ 3 then .none else
  if (last z).kind = 7 then some ⟨1, z.level + 1, z.out⟩ else
  some (setLast z (if deeper (last z).kind ≤ 2 then more (last z) else last z) (mnext (deeper (last z).kind)))
def behind (z : MS) (kind : Nat) : Option MS :=
  if z.at_ = 10 then
    if z.level = 0 then .none else if kind = 5 then some { z with at_ := 1 } else if kind = 4 then some { z with level := z.level - 1 } else .none
  else
    if kind = 5 then some { z with at_ := if z.at_ = 9 then 8 else again (deeper (last z).kind) } else
    if kind = 4 then some { z with at_ := if z.at_ = 7 ∧ deeper (last z).kind = 5 then 9 else 10 } else .none
def step (z : MS) (kind : Nat) (text : Str) : Option MS :=
  if z.at_ = 1 then
    if kind ≠ 1 ∨ Wk.kind text = 0 ∨ (Wk.kind text = 7 ∧ 32 ≤ z.level) then .none else some ⟨2, z.level, z.out ++ [⟨Wk.kind text, z.level, [], [], []⟩]⟩
  else if z.at_ = 2 then mbody z kind text
  else if z.at_ = 3 then
    if kind ≠ 2 then .none else some (setLast z { last z with pairs := (last z).pairs ++ [text] } 4)
  else if z.at_ = 4 then
    if kind ≠ 2 then .none else some (setLast z { last z with pairs := (last z).pairs ++ [text], counts := bump (last z).counts } (if deeper (last z).kind = 1 ∨ deeper (last z).kind = 4 then 12 else 5))
  else if z.at_ = 5 then
    if kind = 5 then some { z with at_ := 3 } else if kind = 4 then some { z with at_ := closedAt (last z) } else .none
  else if z.at_ = 12 then
    if kind = 4 then some { z with at_ := closedAt (last z) } else .none
  else if z.at_ = 6 ∨ z.at_ = 11 then
    if isEmpty kind text then some (setLast z (counted (more (last z))) 7) else if kind = 3 then some (setLast z (counted (more (last z))) 3) else .none
  else if z.at_ = 8 then
    if isEmpty kind text then some (setLast z { last z with size := (last z).size ++ [0] } 9) else if kind = 3 then some (setLast z { last z with size := (last z).size ++ [0] } 6) else .none
  else behind z kind

def run (s : Str) : MS → List Tok → MS × List Tok
  | z, [] => (z, [])
  | z, t :: r => match step z t.kind (txt s t) with
    | .none => (z, t :: r)
    | .some z' => run s z' r
def final (z : MS) : Prop := z.at_ = 10 ∧ z.level = 0

/-- the geometry under way -/
def gz (lev : Nat) (o : List RGeo) (k a : Nat) (ps : List Str) (cs ss : List Nat) : MS := ⟨a, lev, o ++ [⟨k, lev, ps, cs, ss⟩]⟩
section
variable {lev : Nat} {o : List RGeo} {k a : Nat} {ps : List Str} {cs ss : List Nat}
theorem gz_at : (gz lev o k a ps cs ss).at_ = a := rfl
theorem gz_level : (gz lev o k a ps cs ss).level = lev := rfl
theorem gz_last : last (gz lev o k a ps cs ss) = ⟨k, lev, ps, cs, ss⟩ := by unfold last gz; simp
theorem gz_set (b : Nat) (ps' : List Str) (cs' ss' : List Nat) : setLast (gz lev o k a ps cs ss) ⟨k, lev, ps', cs', ss'⟩ b = gz lev o k b ps' cs' ss' := by unfold setLast gz; simp
theorem gz_to (b : Nat) : ({ gz lev o k a ps cs ss with at_ := b } : MS) = gz lev o k b ps cs ss := rfl
end
theorem bump_snoc (l : List Nat) (n : Nat) : bump (l ++ [n]) = l ++ [n + 1] := by unfold bump; simp

/-- the reader has come as far as the machine, which stands at Z -/
def Ok (s : Str) (RUN : MS × List Tok) (σ : St) (Z : MS) : Prop :=
  if σ.bad then RUN.2 = σ.l ∧ (RUN.2 = [] → ¬ final RUN.1) else RUN = run s Z σ.l

section
variable {s : Str} {RUN : MS × List Tok} {σ : St} {Z : MS}

theorem ok_bad (hb : σ.bad = true) {Z' : MS} (h : Ok s RUN σ Z) : Ok s RUN σ Z' := by
  unfold Ok at *; rw [if_pos hb] at *; exact h

theorem ok_fail (hf : ¬ final Z) (hs : ∀ t r, σ.l = t :: r → step Z t.kind (txt s t) = .none) (h : Ok s RUN σ Z) {Z' : MS} : Ok s RUN (fail σ) Z' := by
  cases hb : σ.bad with
  | true =>
    have : fail σ = σ := by unfold fail; rw [← hb]
    rw [this]; exact ok_bad hb h
  | false =>
    unfold Ok at *
    rw [hb] at h
    simp only [Bool.false_eq_true, if_false] at h
    rw [if_pos (by rfl), h]
    show (run s Z σ.l).2 = σ.l ∧ _
    cases hl : σ.l with
    | nil => exact ⟨rfl, fun _ => hf⟩
    | cons t r =>
      unfold run
      rw [hs t r hl]
      exact ⟨rfl, fun h => by cases h⟩

theorem take_ok (k : Nat) (Z1 : Str → MS) (hf : ¬ final Z) (h : ∀ t r, σ.l = t :: r → step Z t.kind (txt s t) = if t.kind = k then some (Z1 (txt s t)) else .none) (ho : Ok s RUN σ Z) :
    Ok s RUN (take s σ k).1 (Z1 (take s σ k).2) := by
  cases hst : stop σ k with
  | true =>
    have he : take s σ k = (fail σ, []) := by unfold take; rw [if_pos hst]
    rw [he]
    cases hb : σ.bad with
    | true =>
      have : fail σ = σ := by unfold fail; rw [← hb]
      simp only [this]; exact ok_bad hb ho
    | false =>
      refine ok_fail hf (fun t r hl => ?_) ho
      rw [h t r hl, if_neg]
      intro e
      unfold stop peek at hst
      rw [hb, hl] at hst
      simp [e] at hst
  | false =>
    obtain ⟨t, r, hl, hk, hb, he⟩ := take_yes s σ k hst
    rw [he]
    unfold Ok at *
    rw [hb] at ho
    simp only [Bool.false_eq_true, if_false] at ho ⊢
    rw [ho, hl]
    conv => lhs; unfold run
    rw [h t r hl, if_pos hk]

theorem none_true (hn : (none s σ).2 = true) : ∃ t r, σ.l = t :: r ∧ isEmpty t.kind (txt s t) = true ∧ σ.bad = false ∧ (none s σ).1 = ⟨r, false⟩ := by
  unfold none at hn ⊢
  split at hn
  · rename_i hw
    rw [if_pos hw]
    cases hst : stop σ 1 with
    | true => unfold word at hw; rw [if_pos hst] at hw; simp [emptyWord] at hw
    | false =>
      obtain ⟨t, r, hl, hk, hb, he⟩ := take_yes s σ 1 hst
      refine ⟨t, r, hl, ?_, hb, by rw [he]⟩
      unfold word at hw
      rw [if_neg (by rw [hst]; simp), hl] at hw
      simp only at hw
      unfold isEmpty
      rw [hk, hw]; rfl
  · cases hn

theorem none_false (hn : (none s σ).2 = false) : (none s σ).1 = σ ∧ (σ.bad = false → ∀ t r, σ.l = t :: r → isEmpty t.kind (txt s t) = false) := by
  unfold none at hn ⊢
  split at hn
  · cases hn
  · rename_i hw
    rw [if_neg hw]
    refine ⟨rfl, fun hb t r hl => ?_⟩
    unfold isEmpty
    cases hk : t.kind == 1 with
    | false => rfl
    | true =>
      unfold word stop peek at hw
      rw [hb, hl] at hw
      simp only [hk] at hw
      simpa using hw

theorem empty_ok (hn : (none s σ).2 = true) {Ze : MS} (h : ∀ t, isEmpty t.kind (txt s t) = true → step Z t.kind (txt s t) = some Ze) (ho : Ok s RUN σ Z) : Ok s RUN (none s σ).1 Ze := by
  obtain ⟨t, r, hl, he, hb, h1⟩ := none_true hn
  rw [h1]
  unfold Ok at *
  rw [hb] at ho
  simp only [Bool.false_eq_true, if_false] at ho ⊢
  rw [ho, hl]
  conv => lhs; unfold run
  rw [h t he]

theorem open_ok (hn : (none s σ).2 = false) (hf : ¬ final Z) {Zo : MS} (h : ∀ t, isEmpty t.kind (txt s t) = false → step Z t.kind (txt s t) = if t.kind = 3 then some Zo else .none) (ho : Ok s RUN σ Z) : Ok s RUN (take s (none s σ).1 3).1 Zo := by
  obtain ⟨h1, h2⟩ := none_false hn
  rw [h1]
  cases hb : σ.bad with
  | true => rw [take_bad s σ 3 hb]; exact ok_bad hb ho
  | false => exact take_ok 3 (fun _ => Zo) hf (fun t r hl => h t (h2 hb t r hl)) ho

theorem each_ok {A : Type} {f : St → St × A} (hlen : ∀ z, (f z).1.l.length ≤ z.l.length) (Zel Zbeh Zend : List A → MS)
    (hf : ∀ acc σ, Ok s RUN σ (Zel acc) → Ok s RUN (f σ).1 (Zbeh (acc ++ [(f σ).2]))) (hnf : ∀ acc, ¬ final (Zbeh acc))
    (hb : ∀ acc kind text, step (Zbeh acc) kind text = if kind = 5 then some (Zel acc) else if kind = 4 then some (Zend acc) else .none) :
    ∀ n σ acc, (σ.bad = false → σ.l.length + 1 ≤ n) → Ok s RUN σ (Zel acc) → Ok s RUN (eachF s f n σ).1 (Zend (acc ++ (eachF s f n σ).2)) := by
  intro n
  induction n with
  | zero =>
    intro σ acc hn ho
    cases hbad : σ.bad with
    | true => exact ok_bad hbad ho
    | false => have := hn hbad; omega
  | succ n ih =>
    intro σ acc hn ho
    unfold eachF
    cases hbad : σ.bad with
    | true => simp only [if_true]; exact ok_bad hbad ho
    | false =>
      simp only [Bool.false_eq_true, if_false]
      have h1 := hf acc σ ho
      have hl := hlen σ
      have hn' := hn hbad
      cases hp : peek (f σ).1 5 with
      | true =>
        simp only [if_true]
        have h2 : Ok s RUN (take s (f σ).1 5).1 (Zel (acc ++ [(f σ).2])) := by
          refine take_ok 5 (fun _ => Zel (acc ++ [(f σ).2])) (hnf _) (fun t r hl => ?_) h1
          have hk : t.kind = 5 := by unfold peek at hp; rw [hl] at hp; simpa using hp
          rw [hb, if_pos hk, if_pos hk]
        have h3 := ih (take s (f σ).1 5).1 (acc ++ [(f σ).2]) (fun hb => by have := take_lt s (f σ).1 5 hb; omega) h2
        simpa using h3
      | false =>
        simp only [Bool.false_eq_true, if_false]
        refine take_ok 4 (fun _ => Zend (acc ++ [(f σ).2])) (hnf _) (fun t r hl => ?_) h1
        have hk : t.kind ≠ 5 := by unfold peek at hp; rw [hl] at hp; simpa using hp
        rw [hb, if_neg hk]

theorem eachO_ok {A : Type} {f : St → St × A} (hlen : ∀ z, (f z).1.l.length ≤ z.l.length) (Zel Zbeh Zend : List A → MS)
    (hf : ∀ acc σ, Ok s RUN σ (Zel acc) → Ok s RUN (f σ).1 (Zbeh (acc ++ [(f σ).2]))) (hnf : ∀ acc, ¬ final (Zbeh acc))
    (hb : ∀ acc kind text, step (Zbeh acc) kind text = if kind = 5 then some (Zel acc) else if kind = 4 then some (Zend acc) else .none)
    (ho : Ok s RUN (take s σ 3).1 (Zel [])) : Ok s RUN (each s f σ).1 (Zend (each s f σ).2) := by
  have := each_ok hlen Zel Zbeh Zend hf hnf hb ((take s σ 3).1.l.length + 1) (take s σ 3).1 [] (fun _ => Nat.le_refl _) ho
  simpa [each] using this
end
end Go.Proofs.Ytegkdkilbnighaa.Wk

namespace Go.Proofs.Ytegkdkilbnighaa.Wk
open Go Lx

def flat (l : List Pr) : List Str := l.flatMap fun p => [p.1, p.2]
theorem flat_nil : flat [] = [] := rfl
theorem flat_snoc (l : List Pr) (p : Pr) : flat (l ++ [p]) = flat l ++ [p.1, p.2] := by simp [flat]
theorem flat_append (l m : List Pr) : flat (l ++ m) = flat l ++ flat m := by simp [flat]

section
variable {s : Str} {RUN : MS × List Tok} {σ : St} {lev : Nat} {o : List RGeo} {k : Nat} {ps : List Str} {cs ss : List Nat}

theorem gz_nf {a : Nat} (h : a ≠ 10) : ¬ final (gz lev o k a ps cs ss) := fun e => h e.1

theorem step3 (kind : Nat) (text : Str) : step (gz lev o k 3 ps cs ss) kind text = if kind = 2 then some (gz lev o k 4 (ps ++ [text]) cs ss) else .none := by
  unfold step; simp only [gz_at, gz_last]; simp [gz_set]
theorem step4 (kind : Nat) (text : Str) (n : Nat) : step (gz lev o k 4 ps (cs ++ [n]) ss) kind text = if kind = 2 then some (gz lev o k (if deeper k = 1 ∨ deeper k = 4 then 12 else 5) (ps ++ [text]) (cs ++ [n + 1]) ss) else .none := by
  unfold step; simp only [gz_at, gz_last, bump_snoc]; simp [gz_set]
theorem step5 (kind : Nat) (text : Str) : step (gz lev o k 5 ps cs ss) kind text = if kind = 5 then some (gz lev o k 3 ps cs ss) else if kind = 4 then some (gz lev o k (if deeper k = 1 ∨ deeper k = 2 then 10 else 7) ps cs ss) else .none := by
  unfold step; simp only [gz_at, gz_last, closedAt]; simp [gz_to]
theorem step12 (kind : Nat) (text : Str) : step (gz lev o k 12 ps cs ss) kind text = if kind = 4 then some (gz lev o k (if deeper k = 1 ∨ deeper k = 2 then 10 else 7) ps cs ss) else .none := by
  unfold step; simp only [gz_at, gz_last, closedAt]; simp [gz_to]
theorem step6 (a : Nat) (ha : a = 6 ∨ a = 11) (kind : Nat) (text : Str) : step (gz lev o k a ps cs ss) kind text = if isEmpty kind text then some (gz lev o k 7 ps (cs ++ [0]) (if deeper k = 5 then bump ss else ss)) else if kind = 3 then some (gz lev o k 3 ps (cs ++ [0]) (if deeper k = 5 then bump ss else ss)) else .none := by
  unfold step
  simp only [gz_at, gz_last, counted, more]
  rcases ha with rfl | rfl <;> by_cases hd : deeper k = 5 <;> simp [hd, gz_set]
theorem step8 (kind : Nat) (text : Str) : step (gz lev o k 8 ps cs ss) kind text = if isEmpty kind text then some (gz lev o k 9 ps cs (ss ++ [0])) else if kind = 3 then some (gz lev o k 6 ps cs (ss ++ [0])) else .none := by
  unfold step; simp only [gz_at, gz_last]; simp [gz_set]
theorem step7 (kind : Nat) (text : Str) : step (gz lev o k 7 ps cs ss) kind text = if kind = 5 then some (gz lev o k (again (deeper k)) ps cs ss) else if kind = 4 then some (gz lev o k (if deeper k = 5 then 9 else 10) ps cs ss) else .none := by
  unfold step behind; simp only [gz_at, gz_last]; simp [gz_to]
theorem step9 (kind : Nat) (text : Str) : step (gz lev o k 9 ps cs ss) kind text = if kind = 5 then some (gz lev o k 8 ps cs ss) else if kind = 4 then some (gz lev o k 10 ps cs ss) else .none := by
  unfold step behind; simp only [gz_at, gz_last]; simp [gz_to]
theorem step2 (h7 : k ≠ 7) (kind : Nat) (text : Str) (he : isEmpty kind text = false) : step (gz lev o k 2 ps cs ss) kind text = if kind = 3 then some (gz lev o k (mnext (deeper k)) ps (if deeper k ≤ 2 then cs ++ [0] else cs) ss) else .none := by
  unfold step mbody
  simp only [gz_at, gz_last, he, more]
  by_cases hk : kind = 3
  · by_cases hd : deeper k ≤ 2 <;> simp [hk, hd, gz_set, h7]
  · simp [hk]
theorem step2e (kind : Nat) (text : Str) (he : isEmpty kind text = true) : step (gz lev o k 2 ps cs ss) kind text = some (gz lev o k 10 ps cs ss) := by
  unfold step mbody; simp only [gz_at, he]; simp [gz_to]

theorem pair_ok (n : Nat) (ho : Ok s RUN σ (gz lev o k 3 ps (cs ++ [n]) ss)) : Ok s RUN (pair s σ).1 (gz lev o k (if deeper k = 1 ∨ deeper k = 4 then 12 else 5) (ps ++ [(pair s σ).2.1, (pair s σ).2.2]) (cs ++ [n + 1]) ss) := by
  have h1 := take_ok 2 (fun x => gz lev o k 4 (ps ++ [x]) (cs ++ [n]) ss) (gz_nf (by decide)) (fun t r _ => step3 _ _) ho
  have h2 := take_ok 2 (fun y => gz lev o k (if deeper k = 1 ∨ deeper k = 4 then 12 else 5) (ps ++ [(take s σ 2).2] ++ [y]) (cs ++ [n + 1]) ss) (gz_nf (by decide)) (fun t r _ => step4 _ _ _) h1
  simpa [pair] using h2

/-- the pairs of a list, in brackets that are open -/
theorem pairs_ok (hd : ¬ (deeper k = 1 ∨ deeper k = 4)) (ho : Ok s RUN (take s σ 3).1 (gz lev o k 3 ps (cs ++ [0]) ss)) :
    Ok s RUN (each s (pair s) σ).1 (gz lev o k (if deeper k = 1 ∨ deeper k = 2 then 10 else 7) (ps ++ flat (each s (pair s) σ).2) (cs ++ [(each s (pair s) σ).2.length]) ss) := by
  refine eachO_ok (pair_len s) (fun acc => gz lev o k 3 (ps ++ flat acc) (cs ++ [acc.length]) ss) (fun acc => gz lev o k 5 (ps ++ flat acc) (cs ++ [acc.length]) ss)
    (fun acc => gz lev o k (if deeper k = 1 ∨ deeper k = 2 then 10 else 7) (ps ++ flat acc) (cs ++ [acc.length]) ss) (fun acc σ h => ?_) (fun acc => gz_nf (by decide)) (fun acc kind text => step5 _ _) (by simpa [flat] using ho)
  have := pair_ok acc.length h
  rw [if_neg hd] at this
  simpa [flat] using this

theorem list_ok (hd : deeper k = 3 ∨ deeper k = 5) (ho : Ok s RUN σ (gz lev o k 6 ps cs ss)) :
    Ok s RUN (list s σ).1 (gz lev o k 7 (ps ++ flat (list s σ).2) (cs ++ [(list s σ).2.length]) (if deeper k = 5 then bump ss else ss)) := by
  unfold list
  cases hn : (none s σ).2 with
  | true => simpa [flat] using empty_ok hn (fun t he => by rw [step6 6 (.inl rfl), if_pos he]) ho
  | false =>
    have h1 := open_ok (Zo := gz lev o k 3 ps (cs ++ [0]) (if deeper k = 5 then bump ss else ss)) hn (gz_nf (by decide)) (fun t he => by rw [step6 6 (.inl rfl), he]; simp) ho
    have h2 := pairs_ok (σ := (none s σ).1) (by omega) h1
    rw [if_neg (by omega)] at h2
    simpa using h2

theorem list2_ok (hd : deeper k = 2) (h7 : k ≠ 7) (hn : (none s σ).2 = false) (ho : Ok s RUN σ (gz lev o k 2 [] [] [])) :
    Ok s RUN (list s σ).1 (gz lev o k 10 (flat (list s σ).2) [(list s σ).2.length] []) := by
  unfold list
  have h1 := open_ok hn (gz_nf (by decide)) (fun t he => step2 h7 _ _ he) ho
  rw [hd] at h1
  have h2 := pairs_ok (k := k) (σ := (none s σ).1) (ps := []) (cs := []) (by omega) (by simpa [mnext] using h1)
  rw [if_pos (by omega)] at h2
  simpa [hn] using h2

/-- a point's pair, in brackets that are open -/
theorem point_ok (hd : deeper k = 1 ∨ deeper k = 4) (ho : Ok s RUN (take s σ 3).1 (gz lev o k 3 ps (cs ++ [0]) ss)) :
    Ok s RUN (take s (pair s (take s σ 3).1).1 4).1 (gz lev o k (if deeper k = 1 ∨ deeper k = 2 then 10 else 7) (ps ++ flat [(pair s (take s σ 3).1).2]) (cs ++ [1]) ss) := by
  have h1 := pair_ok 0 ho
  rw [if_pos hd] at h1
  have h2 := take_ok 4 (fun _ => gz lev o k (if deeper k = 1 ∨ deeper k = 2 then 10 else 7) (ps ++ [(pair s (take s σ 3).1).2.1, (pair s (take s σ 3).1).2.2]) (cs ++ [0 + 1]) ss) (gz_nf (by decide)) (fun t r _ => step12 _ _) h1
  simpa [flat] using h2

theorem one4_ok (hd : deeper k = 4) (ho : Ok s RUN σ (gz lev o k 11 ps cs ss)) :
    Ok s RUN (one s σ).1 (gz lev o k 7 (ps ++ flat (one s σ).2) (cs ++ [(one s σ).2.length]) ss) := by
  unfold one
  cases hn : (none s σ).2 with
  | true =>
    have := empty_ok hn (fun t he => by rw [step6 11 (.inr rfl), if_pos he]) ho
    rw [if_neg (by omega)] at this
    simpa [flat] using this
  | false =>
    have h1 := open_ok (Zo := gz lev o k 3 ps (cs ++ [0]) (if deeper k = 5 then bump ss else ss)) hn (gz_nf (by decide)) (fun t he => by rw [step6 11 (.inr rfl), he]; simp) ho
    rw [if_neg (by omega)] at h1
    have h2 := point_ok (σ := (none s σ).1) (.inr hd) h1
    rw [if_neg (by omega)] at h2
    simpa using h2

theorem one1_ok (hd : deeper k = 1) (h7 : k ≠ 7) (hn : (none s σ).2 = false) (ho : Ok s RUN σ (gz lev o k 2 [] [] [])) :
    Ok s RUN (one s σ).1 (gz lev o k 10 (flat (one s σ).2) [(one s σ).2.length] []) := by
  unfold one
  have h1 := open_ok hn (gz_nf (by decide)) (fun t he => step2 h7 _ _ he) ho
  rw [hd] at h1
  have h2 := point_ok (σ := (none s σ).1) (ps := []) (cs := []) (.inl hd) (by simpa [mnext] using h1)
  rw [if_pos (by omega)] at h2
  simpa [hn] using h2

theorem lists3_ok (hd : deeper k = 3) (h7 : k ≠ 7) (hn : (none s σ).2 = false) (ho : Ok s RUN σ (gz lev o k 2 [] [] [])) :
    Ok s RUN (lists s (list s) σ).1 (gz lev o k 10 (flat (lists s (list s) σ).2.flatten) ((lists s (list s) σ).2.map List.length) []) := by
  have h1 := open_ok hn (gz_nf (by decide)) (fun t he => step2 h7 _ _ he) ho
  rw [hd, (none_false hn).1] at h1
  refine eachO_ok (list_len s) (fun acc => gz lev o k 6 (flat acc.flatten) (acc.map List.length) []) (fun acc => gz lev o k 7 (flat acc.flatten) (acc.map List.length) [])
    (fun acc => gz lev o k 10 (flat acc.flatten) (acc.map List.length) []) (fun acc σ h => ?_) (fun acc => gz_nf (by decide)) (fun acc kind text => by rw [step7, hd]; rfl) (by simpa [mnext, flat] using h1)
  have := list_ok (.inl hd) h
  rw [if_neg (by omega)] at this
  simpa [flat_append] using this

theorem lists4_ok (hd : deeper k = 4) (h7 : k ≠ 7) (hn : (none s σ).2 = false) (ho : Ok s RUN σ (gz lev o k 2 [] [] [])) :
    Ok s RUN (lists s (one s) σ).1 (gz lev o k 10 (flat (lists s (one s) σ).2.flatten) ((lists s (one s) σ).2.map List.length) []) := by
  have h1 := open_ok hn (gz_nf (by decide)) (fun t he => step2 h7 _ _ he) ho
  rw [hd, (none_false hn).1] at h1
  refine eachO_ok (one_len s) (fun acc => gz lev o k 11 (flat acc.flatten) (acc.map List.length) []) (fun acc => gz lev o k 7 (flat acc.flatten) (acc.map List.length) [])
    (fun acc => gz lev o k 10 (flat acc.flatten) (acc.map List.length) []) (fun acc σ h => ?_) (fun acc => gz_nf (by decide)) (fun acc kind text => by rw [step7, hd]; rfl) (by simpa [mnext, flat] using h1)
  have := one4_ok hd h
  simpa [flat_append] using this

theorem poly_ok (hd : deeper k = 5) (ho : Ok s RUN σ (gz lev o k 8 ps cs ss)) :
    Ok s RUN (poly s σ).1 (gz lev o k 9 (ps ++ flat (poly s σ).2.flatten) (cs ++ (poly s σ).2.map List.length) (ss ++ [(poly s σ).2.length])) := by
  unfold poly
  cases hn : (none s σ).2 with
  | true => simpa [flat] using empty_ok hn (fun t he => by rw [step8, if_pos he]) ho
  | false =>
    have h1 := open_ok (Zo := gz lev o k 6 ps cs (ss ++ [0])) hn (gz_nf (by decide)) (fun t he => by rw [step8, he]; simp) ho
    have h2 : Ok s RUN (lists s (list s) (none s σ).1).1 (gz lev o k 9 (ps ++ flat (lists s (list s) (none s σ).1).2.flatten) (cs ++ (lists s (list s) (none s σ).1).2.map List.length) (ss ++ [(lists s (list s) (none s σ).1).2.length])) := by
      refine eachO_ok (list_len s) (fun acc => gz lev o k 6 (ps ++ flat acc.flatten) (cs ++ acc.map List.length) (ss ++ [acc.length])) (fun acc => gz lev o k 7 (ps ++ flat acc.flatten) (cs ++ acc.map List.length) (ss ++ [acc.length]))
        (fun acc => gz lev o k 9 (ps ++ flat acc.flatten) (cs ++ acc.map List.length) (ss ++ [acc.length])) (fun acc σ h => ?_) (fun acc => gz_nf (by decide)) (fun acc kind text => by rw [step7, hd]; rfl) (by simpa [flat] using h1)
      have := list_ok (.inr hd) h
      rw [if_pos hd, bump_snoc] at this
      simpa [flat_append] using this
    simpa using h2

theorem polys_ok (hd : deeper k = 5) (h7 : k ≠ 7) (hn : (none s σ).2 = false) (ho : Ok s RUN σ (gz lev o k 2 [] [] [])) :
    Ok s RUN (each s (poly s) σ).1 (gz lev o k 10 (flat (each s (poly s) σ).2.flatten.flatten) ((each s (poly s) σ).2.flatten.map List.length) ((each s (poly s) σ).2.map List.length)) := by
  have h1 := open_ok hn (gz_nf (by decide)) (fun t he => step2 h7 _ _ he) ho
  rw [hd, (none_false hn).1] at h1
  refine eachO_ok (poly_len s) (fun acc => gz lev o k 8 (flat acc.flatten.flatten) (acc.flatten.map List.length) (acc.map List.length)) (fun acc => gz lev o k 9 (flat acc.flatten.flatten) (acc.flatten.map List.length) (acc.map List.length))
    (fun acc => gz lev o k 10 (flat acc.flatten.flatten) (acc.flatten.map List.length) (acc.map List.length)) (fun acc σ h => ?_) (fun acc => gz_nf (by decide)) (fun acc kind text => step9 _ _) (by simpa [mnext, flat] using h1)
  have := poly_ok hd h
  simpa [flat_append] using this

theorem body_ok (hk : 1 ≤ k ∧ k ≤ 6) (hn : (none s σ).2 = false) (ho : Ok s RUN σ (gz lev o k 2 [] [] [])) :
    Ok s RUN (body s k σ).1 (gz lev o k 10 (flat (body s k σ).2.1.flatten) ((body s k σ).2.1.map List.length) (body s k σ).2.2) := by
  have : k = 1 ∨ k = 2 ∨ k = 3 ∨ k = 5 ∨ k = 4 ∨ k = 6 := by omega
  rcases this with rfl | rfl | rfl | rfl | rfl | rfl
  · simpa [body] using one1_ok (by decide) (by decide) hn ho
  · simpa [body] using list2_ok (by decide) (by decide) hn ho
  · simpa [body] using lists3_ok (by decide) (by decide) hn ho
  · simpa [body] using lists3_ok (by decide) (by decide) hn ho
  · simpa [body] using lists4_ok (by decide) (by decide) hn ho
  · simpa [body] using polys_ok (by decide) (by decide) hn ho
end

/-- the reader is done: the machine is where it can't go on, or the text is at its end -/
def Done (RUN : MS × List Tok) (σ : St) (out : List RGeo) : Prop :=
  RUN.2 = σ.l ∧ if σ.bad then (RUN.2 = [] → ¬ final RUN.1) else RUN.1 = ⟨10, 0, out⟩

def toR (g : Geo) : RGeo := ⟨g.kind, g.level, flat g.lists.flatten, g.lists.map List.length, g.sizes⟩

section
variable {s : Str} {RUN : MS × List Tok}
theorem done_bad {σ : St} {Z : MS} (hb : σ.bad = true) (ho : Ok s RUN σ Z) (out : List RGeo) : Done RUN σ out := by
  unfold Ok at ho; rw [if_pos hb] at ho
  unfold Done; rw [if_pos hb]; exact ho

theorem step10 (lev : Nat) (o : List RGeo) (kind : Nat) (text : Str) : step ⟨10, lev + 1, o⟩ kind text = if kind = 5 then some ⟨1, lev + 1, o⟩ else if kind = 4 then some ⟨10, lev, o⟩ else .none := by
  unfold step behind; simp
theorem step10z (o : List RGeo) (kind : Nat) (text : Str) : step ⟨10, 0, o⟩ kind text = .none := by
  unfold step behind; simp

theorem closing_ok (out : List RGeo) : ∀ lev σ, Ok s RUN σ ⟨10, lev, out⟩ →
    ((closing s lev σ).2.2 = true → Ok s RUN (closing s lev σ).1 ⟨1, (closing s lev σ).2.1, out⟩) ∧ ((closing s lev σ).2.2 = false → Done RUN (closing s lev σ).1 out) := by
  intro lev
  induction lev with
  | zero =>
    intro σ ho
    refine ⟨fun h => (by cases h), fun _ => ?_⟩
    show Done RUN σ out
    cases hb : σ.bad with
    | true => exact done_bad hb ho out
    | false =>
      unfold Ok at ho
      rw [hb] at ho
      simp only [Bool.false_eq_true, if_false] at ho
      unfold Done
      rw [hb, ho]
      cases σ.l with
      | nil => exact ⟨rfl, rfl⟩
      | cons t r => unfold run; rw [step10z]; exact ⟨rfl, rfl⟩
  | succ lev ih =>
    intro σ ho
    cases hb : σ.bad with
    | true =>
      have : closing s (lev + 1) σ = (σ, lev + 1, false) := by unfold closing; rw [if_pos hb]
      rw [this]
      exact ⟨fun h => (by cases h), fun _ => done_bad hb ho out⟩
    | false =>
      cases hp : peek σ 5 with
      | true =>
        have : closing s (lev + 1) σ = ((take s σ 5).1, lev + 1, true) := by unfold closing; rw [if_neg (by rw [hb]; simp), if_pos hp]
        rw [this]
        refine ⟨fun _ => ?_, fun h => (by cases h)⟩
        refine take_ok 5 (fun _ => ⟨1, lev + 1, out⟩) (fun e => by cases e.2) (fun t r hl => ?_) ho
        have hk : t.kind = 5 := by unfold peek at hp; rw [hl] at hp; simpa using hp
        rw [step10, if_pos hk, if_pos hk]
      | false =>
        have : closing s (lev + 1) σ = closing s lev (take s σ 4).1 := by
          conv => lhs; unfold closing
          rw [if_neg (by rw [hb]; simp), if_neg (by rw [hp]; simp)]
        rw [this]
        refine ih _ (take_ok 4 (fun _ => ⟨10, lev, out⟩) (fun e => by cases e.2) (fun t r hl => ?_) ho)
        have hk : t.kind ≠ 5 := by unfold peek at hp; rw [hl] at hp; simpa using hp
        rw [step10, if_neg hk]

theorem up_up (c : UInt8) : up (up c) = up c := by
  cases h : small c with
  | false => simp [up, h]
  | true =>
    have h1 : up c = c - 32 := by simp [up, h]
    have h2 : small (c - 32) = false := by
      unfold small at h ⊢
      simp only [Bool.and_eq_true, decide_eq_true_eq] at h
      have h3 : (c - 32).toNat = c.toNat - 32 := by rw [UInt8.toNat_sub_of_le _ _ (by show (32 : UInt8).toNat ≤ c.toNat; show 32 ≤ c.toNat; omega)]; rfl
      rw [h3]
      have h4 : decide (97 ≤ c.toNat - 32) = false := by simp; omega
      rw [h4]; rfl
    rw [h1]
    simp [up, h2]
theorem upper_upper (l : Str) : upper (upper l) = upper l := by
  unfold upper; rw [List.map_map]; congr 1; funext c; exact up_up c
theorem kind_upper (l : Str) : Wk.kind (upper l) = Wk.kind l := by unfold Wk.kind; rw [upper_upper]
theorem kind_nil : Wk.kind [] = 0 := by decide
theorem kind_le (l : Str) : Wk.kind l ≤ 7 := by unfold Wk.kind; split <;> omega

theorem step1 (lev : Nat) (o : List RGeo) (kind : Nat) (text : Str) : step ⟨1, lev, o⟩ kind text = if kind ≠ 1 ∨ Wk.kind text = 0 ∨ (Wk.kind text = 7 ∧ 32 ≤ lev) then .none else some (gz lev o (Wk.kind text) 2 [] [] []) := by
  unfold step; simp [gz]
theorem step27 (lev : Nat) (o : List RGeo) (kind : Nat) (text : Str) (he : isEmpty kind text = false) : step (gz lev o 7 2 [] [] []) kind text = if kind = 3 then some ⟨1, lev + 1, o ++ [⟨7, lev, [], [], []⟩]⟩ else .none := by
  unfold step mbody
  simp only [gz_at, gz_last, he]
  by_cases hk : kind = 3 <;> simp [hk, gz]

theorem geos_ok : ∀ n σ lev (o : List RGeo), (σ.bad = false → σ.l.length + 1 ≤ n) → Ok s RUN σ ⟨1, lev, o⟩ → Done RUN (geosF s n σ lev).1 (o ++ (geosF s n σ lev).2.map toR) := by
  intro n
  induction n with
  | zero =>
    intro σ lev o hn ho
    cases hb : σ.bad with
    | true => exact done_bad hb ho _
    | false => have := hn hb; omega
  | succ n ih =>
    intro σ lev o hn ho
    cases hb : σ.bad with
    | true =>
      have : geosF s (n + 1) σ lev = (σ, []) := by unfold geosF; rw [if_pos hb]
      rw [this]; exact done_bad hb ho _
    | false =>
      have hn' := hn hb
      conv => unfold geosF
      rw [if_neg (by rw [hb]; simp)]
      simp only []
      by_cases hk : Wk.kind (word s σ) = 0 ∨ (Wk.kind (word s σ) = 7 ∧ 32 ≤ lev)
      · rw [if_pos hk]
        refine done_bad rfl (ok_fail (Z' := ⟨1, lev, o⟩) (fun e => by cases e.1) (fun t r hl => ?_) ho) _
        rw [step1, if_pos]
        by_cases h1 : t.kind = 1
        · right
          have hw : word s σ = upper (txt s t) := by unfold word stop peek; rw [hb, hl]; simp [h1]
          rw [hw, kind_upper] at hk
          exact hk
        · exact .inl h1
      · rw [if_neg hk]
        have hst : stop σ 1 = false := by
          cases hst : stop σ 1 with
          | false => rfl
          | true => exact absurd (.inl (by unfold word; rw [if_pos hst]; exact kind_nil)) hk
        obtain ⟨t, r, hl, h1, _, htake⟩ := take_yes s σ 1 hst
        have hw : word s σ = upper (txt s t) := by unfold word; rw [hst, hl]; simp
        obtain ⟨kk, hkk⟩ : ∃ kk, kk = Wk.kind (word s σ) := ⟨_, rfl⟩
        rw [← hkk] at hk ⊢
        have hkt : Wk.kind (txt s t) = kk := by rw [hkk, hw, kind_upper]
        have hk7 : kk ≤ 7 := by rw [hkk]; exact kind_le _
        have h2 : Ok s RUN (take s σ 1).1 (gz lev o kk 2 [] [] []) := by
          refine take_ok 1 (fun _ => gz lev o kk 2 [] [] []) (fun e => by cases e.1) (fun t' r' hl' => ?_) ho
          rw [hl] at hl'
          cases hl'
          rw [step1, hkt, if_neg (by simp only [h1]; omega), if_pos h1]
        have hlen : (take s σ 1).1.l.length + 1 ≤ σ.l.length := by rw [htake, hl]; simp
        obtain ⟨σ1, hσ1⟩ : ∃ σ1, σ1 = (take s σ 1).1 := ⟨_, rfl⟩
        rw [← hσ1] at h2 hlen ⊢
        clear htake hσ1 hw hkt h1 hl ho
        have hfin : ∀ (σ2 : St) (b : List (List Pr) × List Nat), σ2.l.length ≤ σ1.l.length → Ok s RUN σ2 (gz lev o kk 10 (flat b.1.flatten) (b.1.map List.length) b.2) →
            Done RUN (if (closing s lev σ2).2.2 = true then ((geosF s n (closing s lev σ2).1 (closing s lev σ2).2.1).1, (⟨kk, lev, b.1, b.2⟩ : Geo) :: (geosF s n (closing s lev σ2).1 (closing s lev σ2).2.1).2) else ((closing s lev σ2).1, [⟨kk, lev, b.1, b.2⟩])).1
              (o ++ (if (closing s lev σ2).2.2 = true then ((geosF s n (closing s lev σ2).1 (closing s lev σ2).2.1).1, (⟨kk, lev, b.1, b.2⟩ : Geo) :: (geosF s n (closing s lev σ2).1 (closing s lev σ2).2.1).2) else ((closing s lev σ2).1, [⟨kk, lev, b.1, b.2⟩])).2.map toR) := by
          intro σ2 b hl2 h3
          have hc := closing_ok (o ++ [toR ⟨kk, lev, b.1, b.2⟩]) lev σ2 h3
          have hcl : ∀ lev σ, (closing s lev σ).1.l.length ≤ σ.l.length := by
            intro lev
            induction lev with
            | zero => intro σ; exact Nat.le_refl _
            | succ lev ih => intro σ; unfold closing; split
                             · exact Nat.le_refl _
                             · split
                               · exact take_len _ _ _
                               · exact Nat.le_trans (ih _) (take_len _ _ _)
          cases h22 : (closing s lev σ2).2.2 with
          | true =>
            have := ih _ _ _ (fun _ => by have := hcl lev σ2; omega) (hc.1 h22)
            simpa using this
          | false => simpa using hc.2 h22
        cases he : (none s σ1).2 with
        | true =>
          rw [if_neg (by simp)]
          have h3 := empty_ok he (fun t he => step2e _ _ he) h2
          exact hfin (none s σ1).1 ([], []) (none_len _ _) (by simpa [flat] using h3)
        | false =>
          by_cases h7 : kk = 7
          · rw [if_pos ⟨rfl, h7⟩]
            subst h7
            have h3 := open_ok he (gz_nf (by decide)) (fun t he => step27 lev o _ _ he) h2
            have h4 := ih (take s (none s σ1).1 3).1 (lev + 1) _ (fun _ => by have := take_len s (none s σ1).1 3; have := none_len s σ1; omega) h3
            simpa [toR, flat] using h4
          · rw [if_neg (fun h => h7 h.2)]
            have h3 := body_ok (by omega) he h2
            rw [(none_false he).1]
            exact hfin (body s kk σ1).1 (body s kk σ1).2 (body_len _ _ _) h3
end

/-- THE LAW: the reader of a whole text, and the machine -/
theorem geos_run (s : Str) (l : List Tok) : Done (run s ⟨1, 0, []⟩ l) (geos s ⟨l, false⟩).1 ((geos s ⟨l, false⟩).2.map toR) := by
  have := geos_ok (s := s) (RUN := run s ⟨1, 0, []⟩ l) (l.length + 1) ⟨l, false⟩ 0 [] (fun _ => Nat.le_refl _) (by unfold Ok; simp)
  simpa [geos] using this
end Go.Proofs.Ytegkdkilbnighaa.Wk
