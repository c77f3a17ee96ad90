/- The reader answers as the document's machine does: from pairs to whole texts. No program in sight. -/
import Derived.Test.YtfbdkjonjpanfaaGreatDoorWktP
import Derived.Test.YtfbdkjonjpanfaaGreatDoorWktK
import Derived.Test.YtfbdkjonjpanfaaGreatDoorSpB
import Derived.Test.YtfbdkjonjpanfaaGreatDoorGFa

set_option linter.unusedVariables false
set_option linter.unusedSimpArgs false
namespace Go.Proofs.YtfbdkjonjpanfaaGreatDoor.Wk
open Go Lx

structure RGeo where
  kind : Nat
  level : Nat
  pairs : List Str
  counts : List Nat
  size : List Nat
structure MS where
  at_ : Nat
  level : Nat
  out : List RGeo

def deeper (k : Nat) : Nat := if k = 1 then 1 else if k = 2 then 2 else if k = 3 then 3 else if k = 4 then 4 else if k = 5 then 3 else if k = 6 then 5 else 0
def last (z : MS) : RGeo := z.out.getLastD ⟨0, 0, [], [], []⟩
def setLast (z : MS) (g : RGeo) (a : Nat) : MS := ⟨a, z.level, z.out.dropLast ++ [g]⟩
def bump (l : List Nat) : List Nat := l.dropLast ++ [l.getLastD 0 + 1]
def more (g : RGeo) : RGeo := { g with counts := g.counts ++ [0] }
def closedAt (g : RGeo) : Nat := if deeper g.kind = 1 ∨ deeper g.kind = 2 then 10 else 7
def counted (g : RGeo) : RGeo := if deeper g.kind = 5 then { g with size := bump g.size } else g
def isEmpty (kind : Nat) (text : Str) : Bool := kind == 1 && upper text == emptyWord
def mnext (d : Nat) : Nat := if d = 1 ∨ d = 2 then 3 else if d = 3 then 6 else if d = 4 then 11 else if d = 5 then 8 else 0
def again (d : Nat) : Nat := if d = 3 ∨ d = 5 then 6 else if d = 4 then 11 else 0
def mbody (z : MS) (kind : Nat) (text : Str) : Option MS :=
  if isEmpty kind text then some { z with at_ := 10 } else
  if kind ≠ 3 then .none else
  if (last z).kind = 7 then some ⟨1, z.level + 1, z.out⟩ else
  some (setLast z (if deeper (last z).kind ≤ 2 then more (last z) else last z) (mnext (deeper (last z).kind)))
def behind (z : MS) (kind : Nat) : Option MS :=
  if z.at_ = 10 then
    if z.level = 0 then .none else if kind = 5 then some { z with at_ := 1 } else if kind = 4 then some { z with level := z.level - 1 } else .none
  else
    if kind = 5 then some { z with at_ := if z.at_ = 9 then 8 else again (deeper (last z).kind) } else
    if kind = 4 then some { z with at_ := if z.at_ = 7 ∧ deeper (last z).kind = 5 then 9 else 10 } else .none
def step (z : MS) (kind : Nat) (text : Str) : Option MS :=
  if z.at_ = 1 then
    if kind ≠ 1 ∨ Wk.kind text = 0 ∨ (Wk.kind text = 7 ∧ 32 ≤ z.level) then .none else some ⟨2, z.level, z.out ++ [⟨Wk.kind text, z.level, [], [], []⟩]⟩
  else if z.at_ = 2 then mbody z kind text
  else if z.at_ = 3 then
    if kind ≠ 2 then .none else some (setLast z { last z with pairs := (last z).pairs ++ [text] } 4)
  else if z.at_ = 4 then
    if kind ≠ 2 then .none else some (setLast z { last z with pairs := (last z).pairs ++ [text], counts := bump (last z).counts } (if deeper (last z).kind = 1 ∨ deeper (last z).kind = 4 then 12 else 5))
  else if z.at_ = 5 then
    if kind = 5 then some { z with at_ := 3 } else if kind = 4 then some { z with at_ := closedAt (last z) } else .none
  else if z.at_ = 12 then
    if kind = 4 then some { z with at_ := closedAt (last z) } else .none
  else if z.at_ = 6 ∨ z.at_ = 11 then
    if isEmpty kind text then some (setLast z (counted (more (last z))) 7) else if kind = 3 then some (setLast z (counted (more (last z))) 3) else .none
  else if z.at_ = 8 then
    if isEmpty kind text then some (setLast z { last z with size := (last z).size ++ [0] } 9) else if kind = 3 then some (setLast z { last z with size := (last z).size ++ [0] } 6) else .none
  else behind z kind

def run (s : Str) : MS → List Tok → MS × List Tok
  | z, [] => (z, [])
  | z, t :: r => match step z t.kind (txt s t) with
    | .none => (z, t :: r)
    | .some z' => run s z' r
def final (z : MS) : Prop := z.at_ = 10 ∧ z.level = 0

/-- the geometry under way -/
def gz (lev : Nat) (o : List RGeo) (k a : Nat) (ps : List Str) (cs ss : List Nat) : MS := ⟨a, lev, o ++ [⟨k, lev, ps, cs, ss⟩]⟩
section
variable {lev : Nat} {o : List RGeo} {k a : Nat} {ps : List Str} {cs ss : List Nat}
theorem gz_at : (gz lev o k a ps cs ss).at_ = a := rfl
theorem gz_level : (gz lev o k a ps cs ss).level = lev := rfl
theorem gz_last : last (gz lev o k a ps cs ss) = ⟨k, lev, ps, cs, ss⟩ := by unfold last gz; simp
theorem gz_set (b : Nat) (ps' : List Str) (cs' ss' : List Nat) : setLast (gz lev o k a ps cs ss) ⟨k, lev, ps', cs', ss'⟩ b = gz lev o k b ps' cs' ss' := by unfold setLast gz; simp
theorem gz_to (b : Nat) : ({ gz lev o k a ps cs ss with at_ := b } : MS) = gz lev o k b ps cs ss := rfl
end
theorem bump_snoc (l : List Nat) (n : Nat) : bump (l ++ [n]) = l ++ [n + 1] := by unfold bump; simp

/-- the reader has come as far as the machine, which stands at Z -/
def Ok (s : Str) (RUN : MS × List Tok) (σ : St) (Z : MS) : Prop :=
  if σ.bad then RUN.2 = σ.l ∧ (RUN.2 = [] → ¬ final RUN.1) else RUN = run s Z σ.l

section
variable {s : Str} {RUN : MS × List Tok} {σ : St} {Z : MS}

theorem ok_bad (hb : σ.bad = true) {Z' : MS} (h : Ok s RUN σ Z) : Ok s RUN σ Z' := by
  unfold Ok at *; rw [if_pos hb] at *; exact h

theorem ok_fail (hf : ¬ final Z) (hs : ∀ t r, σ.l = t :: r → step Z t.kind (txt s t) = .none) (h : Ok s RUN σ Z) {Z' : MS} : Ok s RUN (fail σ) Z' := by
  cases hb : σ.bad with
  | true =>
    have : fail σ = σ := by unfold fail; rw [← hb]
    rw [this]; exact ok_bad hb h
  | false =>
    unfold Ok at *
    rw [hb] at h
    simp only [Bool.false_eq_true, if_false] at h
    rw [if_pos (by rfl), h]
    show (run s Z σ.l).2 = σ.l ∧ _
    cases hl : σ.l with
    | nil => exact ⟨rfl, fun _ => hf⟩
    | cons t r =>
      unfold run
      rw [hs t r hl]
      exact ⟨rfl, fun h => by cases h⟩

theorem take_ok (k : Nat) (Z1 : Str → MS) (hf : ¬ final Z) (h : ∀ t r, σ.l = t :: r → step Z t.kind (txt s t) = if t.kind = k then some (Z1 (txt s t)) else .none) (ho : Ok s RUN σ Z) :
    Ok s RUN (take s σ k).1 (Z1 (take s σ k).2) := by
  cases hst : stop σ k with
  | true =>
    have he : take s σ k = (fail σ, []) := by unfold take; rw [if_pos hst]
    rw [he]
    cases hb : σ.bad with
    | true =>
      have : fail σ = σ := by unfold fail; rw [← hb]
      simp only [this]; exact ok_bad hb ho
    | false =>
      refine ok_fail hf (fun t r hl => ?_) ho
      rw [h t r hl, if_neg]
      intro e
      unfold stop peek at hst
      rw [hb, hl] at hst
      simp [e] at hst
  | false =>
    obtain ⟨t, r, hl, hk, hb, he⟩ := take_yes s σ k hst
    rw [he]
    unfold Ok at *
    rw [hb] at ho
    simp only [Bool.false_eq_true, if_false] at ho ⊢
    rw [ho, hl]
    conv => lhs; unfold run
    rw [h t r hl, if_pos hk]

theorem none_true (hn : (none s σ).2 = true) : ∃ t r, σ.l = t :: r ∧ isEmpty t.kind (txt s t) = true ∧ σ.bad = false ∧ (none s σ).1 = ⟨r, false⟩ := by
  unfold none at hn ⊢
  split at hn
  · rename_i hw
    rw [if_pos hw]
    cases hst : stop σ 1 with
    | true => unfold word at hw; rw [if_pos hst] at hw; simp [emptyWord] at hw
    | false =>
      obtain ⟨t, r, hl, hk, hb, he⟩ := take_yes s σ 1 hst
      refine ⟨t, r, hl, ?_, hb, by rw [he]⟩
      unfold word at hw
      rw [if_neg (by rw [hst]; simp), hl] at hw
      simp only at hw
      unfold isEmpty
      rw [hk, hw]; rfl
  · cases hn

theorem none_false (hn : (none s σ).2 = false) : (none s σ).1 = σ ∧ (σ.bad = false → ∀ t r, σ.l = t :: r → isEmpty t.kind (txt s t) = false) := by
  unfold none at hn ⊢
  split at hn
  · cases hn
  · rename_i hw
    rw [if_neg hw]
    refine ⟨rfl, fun hb t r hl => ?_⟩
    unfold isEmpty
    cases hk : t.kind == 1 with
    | false => rfl
    | true =>
      unfold word stop peek at hw
      rw [hb, hl] at hw
      simp only [hk] at hw
      simpa using hw

theorem empty_ok (hn : (none s σ).2 = true) {Ze : MS} (h : ∀ t, isEmpty t.kind (txt s t) = true → step Z t.kind (txt s t) = some Ze) (ho : Ok s RUN σ Z) : Ok s RUN (none s σ).1 Ze := by
  obtain ⟨t, r, hl, he, hb, h1⟩ := none_true hn
  rw [h1]
  unfold Ok at *
  rw [hb] at ho
  simp only [Bool.false_eq_true, if_false] at ho ⊢
  rw [ho, hl]
  conv => lhs; unfold run
  rw [h t he]

theorem open_ok (hn : (none s σ).2 = false) (hf : ¬ final Z) {Zo : MS} (h : ∀ t, isEmpty t.kind (txt s t) = false → step Z t.kind (txt s t) = if t.kind = 3 then some Zo else .none) (ho : Ok s RUN σ Z) : Ok s RUN (take s (none s σ).1 3).1 Zo := by
  obtain ⟨h1, h2⟩ := none_false hn
  rw [h1]
  cases hb : σ.bad with
  | true => rw [take_bad s σ 3 hb]; exact ok_bad hb ho
  | false => exact take_ok 3 (fun _ => Zo) hf (fun t r hl => h t (h2 hb t r hl)) ho

theorem each_ok {A : Type} {f : St → St × A} (hlen : ∀ z, (f z).1.l.length ≤ z.l.length) (Zel Zbeh Zend : List A → MS)
    (hf : ∀ acc σ, Ok s RUN σ (Zel acc) → Ok s RUN (f σ).1 (Zbeh (acc ++ [(f σ).2]))) (hnf : ∀ acc, ¬ final (Zbeh acc))
    (hb : ∀ acc kind text, step (Zbeh acc) kind text = if kind = 5 then some (Zel acc) else if kind = 4 then some (Zend acc) else .none) :
    ∀ n σ acc, (σ.bad = false → σ.l.length + 1 ≤ n) → Ok s RUN σ (Zel acc) → Ok s RUN (eachF s f n σ).1 (Zend (acc ++ (eachF s f n σ).2)) := by
  intro n
  induction n with
  | zero =>
    intro σ acc hn ho
    cases hbad : σ.bad with
    | true => exact ok_bad hbad ho
    | false => have := hn hbad; omega
  | succ n ih =>
    intro σ acc hn ho
    unfold eachF
    cases hbad : σ.bad with
    | true => simp only [if_true]; exact ok_bad hbad ho
    | false =>
      simp only [Bool.false_eq_true, if_false]
      have h1 := hf acc σ ho
      have hl := hlen σ
      have hn' := hn hbad
      cases hp : peek (f σ).1 5 with
      | true =>
        simp only [if_true]
        have h2 : Ok s RUN (take s (f σ).1 5).1 (Zel (acc ++ [(f σ).2])) := by
          refine take_ok 5 (fun _ => Zel (acc ++ [(f σ).2])) (hnf _) (fun t r hl => ?_) h1
          have hk : t.kind = 5 := by unfold peek at hp; rw [hl] at hp; simpa using hp
          rw [hb, if_pos hk, if_pos hk]
        have h3 := ih (take s (f σ).1 5).1 (acc ++ [(f σ).2]) (fun hb => by have := take_lt s (f σ).1 5 hb; omega) h2
        simpa using h3
      | false =>
        simp only [Bool.false_eq_true, if_false]
        refine take_ok 4 (fun _ => Zend (acc ++ [(f σ).2])) (hnf _) (fun t r hl => ?_) h1
        have hk : t.kind ≠ 5 := by unfold peek at hp; rw [hl] at hp; simpa using hp
        rw [hb, if_neg hk]

theorem eachO_ok {A : Type} {f : St → St × A} (hlen : ∀ z, (f z).1.l.length ≤ z.l.length) (Zel Zbeh Zend : List A → MS)
    (hf : ∀ acc σ, Ok s RUN σ (Zel acc) → Ok s RUN (f σ).1 (Zbeh (acc ++ [(f σ).2]))) (hnf : ∀ acc, ¬ final (Zbeh acc))
    (hb : ∀ acc kind text, step (Zbeh acc) kind text = if kind = 5 then some (Zel acc) else if kind = 4 then some (Zend acc) else .none)
    (ho : Ok s RUN (take s σ 3).1 (Zel [])) : Ok s RUN (each s f σ).1 (Zend (each s f σ).2) := by
  have := each_ok hlen Zel Zbeh Zend hf hnf hb ((take s σ 3).1.l.length + 1) (take s σ 3).1 [] (fun _ => Nat.le_refl _) ho
  simpa [each] using this
end
end Go.Proofs.YtfbdkjonjpanfaaGreatDoor.Wk

namespace Go.Proofs.YtfbdkjonjpanfaaGreatDoor.Wk
open Go Lx

def flat (l : List Pr) : List Str := l.flatMap fun p => [p.1, p.2]
theorem flat_nil : flat [] = [] := rfl
theorem flat_snoc (l : List Pr) (p : Pr) : flat (l ++ [p]) = flat l ++ [p.1, p.2] := by simp [flat]
theorem flat_append (l m : List Pr) : flat (l ++ m) = flat l ++ flat m := by simp [flat]

section
variable {s : Str} {RUN : MS × List Tok} {σ : St} {lev : Nat} {o : List RGeo} {k : Nat} {ps : List Str} {cs ss : List Nat}

theorem gz_nf {a : Nat} (h : a ≠ 10) : ¬ final (gz lev o k a ps cs ss) := fun e => h e.1

theorem step3 (kind : Nat) (text : Str) : step (gz lev o k 3 ps cs ss) kind text = if kind = 2 then some (gz lev o k 4 (ps ++ [text]) cs ss) else .none := by
  unfold step; simp only [gz_at, gz_last]; simp [gz_set]
theorem step4 (kind : Nat) (text : Str) (n : Nat) : step (gz lev o k 4 ps (cs ++ [n]) ss) kind text = if kind = 2 then some (gz lev o k (if deeper k = 1 ∨ deeper k = 4 then 12 else 5) (ps ++ [text]) (cs ++ [n + 1]) ss) else .none := by
  unfold step; simp only [gz_at, gz_last, bump_snoc]; simp [gz_set]
theorem step5 (kind : Nat) (text : Str) : step (gz lev o k 5 ps cs ss) kind text = if kind = 5 then some (gz lev o k 3 ps cs ss) else if kind = 4 then some (gz lev o k (if deeper k = 1 ∨ deeper k = 2 then 10 else 7) ps cs ss) else .none := by
  unfold step; simp only [gz_at, gz_last, closedAt]; simp [gz_to]
theorem step12 (kind : Nat) (text : Str) : step (gz lev o k 12 ps cs ss) kind text = if kind = 4 then some (gz lev o k (if deeper k = 1 ∨ deeper k = 2 then 10 else 7) ps cs ss) else .none := by
  unfold step; simp only [gz_at, gz_last, closedAt]; simp [gz_to]
theorem step6 (a : Nat) (ha : a = 6 ∨ a = 11) (kind : Nat) (text : Str) : step (gz lev o k a ps cs ss) kind text = if isEmpty kind text then some (gz lev o k 7 ps (cs ++ [0]) (if deeper k = 5 then bump ss else ss)) else if kind = 3 then some (gz lev o k 3 ps (cs ++ [0]) (if deeper k = 5 then bump ss else ss)) else .none := by
  unfold step
  simp only [gz_at, gz_last, counted, more]
  rcases ha with rfl | rfl <;> by_cases hd : deeper k = 5 <;> simp [hd, gz_set]
theorem step8 (kind : Nat) (text : Str) : step (gz lev o k 8 ps cs ss) kind text = if isEmpty kind text then some (gz lev o k 9 ps cs (ss ++ [0])) else if kind = 3 then some (gz lev o k 6 ps cs (ss ++ [0])) else .none := by
  unfold step; simp only [gz_at, gz_last]; simp [gz_set]
theorem step7 (kind : Nat) (text : Str) : step (gz lev o k 7 ps cs ss) kind text = if kind = 5 then some (gz lev o k (again (deeper k)) ps cs ss) else if kind = 4 then some (gz lev o k (if deeper k = 5 then 9 else 10) ps cs ss) else .none := by
  unfold step behind; simp only [gz_at, gz_last]; simp [gz_to]
theorem step9 (kind : Nat) (text : Str) : step (gz lev o k 9 ps cs ss) kind text = if kind = 5 then some (gz lev o k 8 ps cs ss) else if kind = 4 then some (gz lev o k 10 ps cs ss) else .none := by
  unfold step behind; simp only [gz_at, gz_last]; simp [gz_to]
theorem step2 (h7 : k ≠ 7) (kind : Nat) (text : Str) (he : isEmpty kind text = false) : step (gz lev o k 2 ps cs ss) kind text = if kind = 3 then some (gz lev o k (mnext (deeper k)) ps (if deeper k ≤ 2 then cs ++ [0] else cs) ss) else .none := by
  unfold step mbody
  simp only [gz_at, gz_last, he, more]
  by_cases hk : kind = 3
  · by_cases hd : deeper k ≤ 2 <;> simp [hk, hd, gz_set, h7]
  · simp [hk]
theorem step2e (kind : Nat) (text : Str) (he : isEmpty kind text = true) : step (gz lev o k 2 ps cs ss) kind text = some (gz lev o k 10 ps cs ss) := by
  unfold step mbody; simp only [gz_at, he]; simp [gz_to]

theorem pair_ok (n : Nat) (ho : Ok s RUN σ (gz lev o k 3 ps (cs ++ [n]) ss)) : Ok s RUN (pair s σ).1 (gz lev o k (if deeper k = 1 ∨ deeper k = 4 then 12 else 5) (ps ++ [(pair s σ).2.1, (pair s σ).2.2]) (cs ++ [n + 1]) ss) := by
  have h1 := take_ok 2 (fun x => gz lev o k 4 (ps ++ [x]) (cs ++ [n]) ss) (gz_nf (by decide)) (fun t r _ => step3 _ _) ho
  have h2 := take_ok 2 (fun y => gz lev o k (if deeper k = 1 ∨ deeper k = 4 then 12 else 5) (ps ++ [(take s σ 2).2] ++ [y]) (cs ++ [n + 1]) ss) (gz_nf (by decide)) (fun t r _ => step4 _ _ _) h1
  simpa [pair] using h2

/-- the pairs of a list, in brackets that are open -/
theorem pairs_ok (hd : ¬ (deeper k = 1 ∨ deeper k = 4)) (ho : Ok s RUN (take s σ 3).1 (gz lev o k 3 ps (cs ++ [0]) ss)) :
    Ok s RUN (each s (pair s) σ).1 (gz lev o k (if deeper k = 1 ∨ deeper k = 2 then 10 else 7) (ps ++ flat (each s (pair s) σ).2) (cs ++ [(each s (pair s) σ).2.length]) ss) := by
  refine eachO_ok (pair_len s) (fun acc => gz lev o k 3 (ps ++ flat acc) (cs ++ [acc.length]) ss) (fun acc => gz lev o k 5 (ps ++ flat acc) (cs ++ [acc.length]) ss)
    (fun acc => gz lev o k (if deeper k = 1 ∨ deeper k = 2 then 10 else 7) (ps ++ flat acc) (cs ++ [acc.length]) ss) (fun acc σ h => ?_) (fun acc => gz_nf (by decide)) (fun acc kind text => step5 _ _) (by simpa [flat] using ho)
  have := pair_ok acc.length h
  rw [if_neg hd] at this
  simpa [flat] using this

theorem list_ok (hd : deeper k = 3 ∨ deeper k = 5) (ho : Ok s RUN σ (gz lev o k 6 ps cs ss)) :
    Ok s RUN (list s σ).1 (gz lev o k 7 (ps ++ flat (list s σ).2) (cs ++ [(list s σ).2.length]) (if deeper k = 5 then bump ss else ss)) := by
  unfold list
  cases hn : (none s σ).2 with
  | true => simpa [flat] using empty_ok hn (fun t he => by rw [step6 6 (.inl rfl), if_pos he]) ho
  | false =>
    have h1 := open_ok (Zo := gz lev o k 3 ps (cs ++ [0]) (if deeper k = 5 then bump ss else ss)) hn (gz_nf (by decide)) (fun t he => by rw [step6 6 (.inl rfl), he]; simp) ho
    have h2 := pairs_ok (σ := (none s σ).1) (by omega) h1
    rw [if_neg (by omega)] at h2
    simpa using h2

theorem list2_ok (hd : deeper k = 2) (h7 : k ≠ 7) (hn : (none s σ).2 = false) (ho : Ok s RUN σ (gz lev o k 2 [] [] [])) :
    Ok s RUN (list s σ).1 (gz lev o k 10 (flat (list s σ).2) [(list s σ).2.length] []) := by
  unfold list
  have h1 := open_ok hn (gz_nf (by decide)) (fun t he => step2 h7 _ _ he) ho
  rw [hd] at h1
  have h2 := pairs_ok (k := k) (σ := (none s σ).1) (ps := []) (cs := []) (by omega) (by simpa [mnext] using h1)
  rw [if_pos (by omega)] at h2
  simpa [hn] using h2

/-- a point's pair, in brackets that are open -/
theorem point_ok (hd : deeper k = 1 ∨ deeper k = 4) (ho : Ok s RUN (take s σ 3).1 (gz lev o k 3 ps (cs ++ [0]) ss)) :
    Ok s RUN (take s (pair s (take s σ 3).1).1 4).1 (gz lev o k (if deeper k = 1 ∨ deeper k = 2 then 10 else 7) (ps ++ flat [(pair s (take s σ 3).1).2]) (cs ++ [1]) ss) := by
  have h1 := pair_ok 0 ho
  rw [if_pos hd] at h1
  have h2 := take_ok 4 (fun _ => gz lev o k (if deeper k = 1 ∨ deeper k = 2 then 10 else 7) (ps ++ [(pair s (take s σ 3).1).2.1, (pair s (take s σ 3).1).2.2]) (cs ++ [0 + 1]) ss) (gz_nf (by decide)) (fun t r _ => step12 _ _) h1
  simpa [flat] using h2

theorem one4_ok (hd : deeper k = 4) (ho : Ok s RUN σ (gz lev o k 11 ps cs ss)) :
    Ok s RUN (one s σ).1 (gz lev o k 7 (ps ++ flat (one s σ).2) (cs ++ [(one s σ).2.length]) ss) := by
  unfold one
  cases hn : (none s σ).2 with
  | true =>
    have := empty_ok hn (fun t he => by rw [step6 11 (.inr rfl), if_pos he]) ho
    rw [if_neg (by omega)] at this
    simpa [flat] using this
  | false =>
    have h1 := open_ok (Zo := gz lev o k 3 ps (cs ++ [0]) (if deeper k = 5 then bump ss else ss)) hn (gz_nf (by decide)) (fun t he => by rw [step6 11 (.inr rfl), he]; simp) ho
    rw [if_neg (by omega)] at h1
    have h2 := point_ok (σ := (none s σ).1) (.inr hd) h1
    rw [if_neg (by omega)] at h2
    simpa using h2

theorem one1_ok (hd : deeper k = 1) (h7 : k ≠ 7) (hn : (none s σ).2 = false) (ho : Ok s RUN σ (gz lev o k 2 [] [] [])) :
    Ok s RUN (one s σ).1 (gz lev o k 10 (flat (one s σ).2) [(one s σ).2.length] []) := by
  unfold one
  have h1 := open_ok hn (gz_nf (by decide)) (fun t he => step2 h7 _ _ he) ho
  rw [hd] at h1
  have h2 := point_ok (σ := (none s σ).1) (ps := []) (cs := []) (.inl hd) (by simpa [mnext] using h1)
  rw [if_pos (by omega)] at h2
  simpa [hn] using h2

theorem lists3_ok (hd : deeper k = 3) (h7 : k ≠ 7) (hn : (none s σ).2 = false) (ho : Ok s RUN σ (gz lev o k 2 [] [] [])) :
    Ok s RUN (lists s (list s) σ).1 (gz lev o k 10 (flat (lists s (list s) σ).2.flatten) ((lists s (list s) σ).2.map List.length) []) := by
  have h1 := open_ok hn (gz_nf (by decide)) (fun t he => step2 h7 _ _ he) ho
  rw [hd, (none_false hn).1] at h1
  refine eachO_ok (list_len s) (fun acc => gz lev o k 6 (flat acc.flatten) (acc.map List.length) []) (fun acc => gz lev o k 7 (flat acc.flatten) (acc.map List.length) [])
    (fun acc => gz lev o k 10 (flat acc.flatten) (acc.map List.length) []) (fun acc σ h => ?_) (fun acc => gz_nf (by decide)) (fun acc kind text => by rw [step7, hd]; rfl) (by simpa [mnext, flat] using h1)
  have := list_ok (.inl hd) h
  rw [if_neg (by omega)] at this
  simpa [flat_append] using this

theorem lists4_ok (hd : deeper k = 4) (h7 : k ≠ 7) (hn : (none s σ).2 = false) (ho : Ok s RUN σ (gz lev o k 2 [] [] [])) :
    Ok s RUN (lists s (one s) σ).1 (gz lev o k 10 (flat (lists s (one s) σ).2.flatten) ((lists s (one s) σ).2.map List.length) []) := by
  have h1 := open_ok hn (gz_nf (by decide)) (fun t he => step2 h7 _ _ he) ho
  rw [hd, (none_false hn).1] at h1
  refine eachO_ok (one_len s) (fun acc => gz lev o k 11 (flat acc.flatten) (acc.map List.length) []) (fun acc => gz lev o k 7 (flat acc.flatten) (acc.map List.length) [])
    (fun acc => gz lev o k 10 (flat acc.flatten) (acc.map List.length) []) (fun acc σ h => ?_) (fun acc => gz_nf (by decide)) (fun acc kind text => by rw [step7, hd]; rfl) (by simpa [mnext, flat] using h1)
  have := one4_ok hd h
  simpa [flat_append] using this

theorem poly_ok (hd : deeper k = 5) (ho : Ok s RUN σ (gz lev o k 8 ps cs ss)) :
    Ok s RUN (poly s σ).1 (gz lev o k 9 (ps ++ flat (poly s σ).2.flatten) (cs ++ (poly s σ).2.map List.length) (ss ++ [(poly s σ).2.length])) := by
  unfold poly
  cases hn : (none s σ).2 with
  | true => simpa [flat] using empty_ok hn (fun t he => by rw [step8, if_pos he]) ho
  | false =>
    have h1 := open_ok (Zo := gz lev o k 6 ps cs (ss ++ [0])) hn (gz_nf (by decide)) (fun t he => by rw [step8, he]; simp) ho
    have h2 : Ok s RUN (lists s (list s) (none s σ).1).1 (gz lev o k 9 (ps ++ flat (lists s (list s) (none s σ).1).2.flatten) (cs ++ (lists s (list s) (none s σ).1).2.map List.length) (ss ++ [(lists s (list s) (none s σ).1).2.length])) := by
      refine eachO_ok (list_len s) (fun acc => gz lev o k 6 (ps ++ flat acc.flatten) (cs ++ acc.map List.length) (ss ++ [acc.length])) (fun acc => gz lev o k 7 (ps ++ flat acc.flatten) (cs ++ acc.map List.length) (ss ++ [acc.length]))
        (fun acc => gz lev o k 9 (ps ++ flat acc.flatten) (cs ++ acc.map List.length) (ss ++ [acc.length])) (fun acc σ h => ?_) (fun acc => gz_nf (by decide)) (fun acc kind text => by rw [step7, hd]; rfl) (by simpa [flat] using h1)
      have := list_ok (.inr hd) h
      rw [if_pos hd, bump_snoc] at this
      simpa [flat_append] using this
    simpa using h2

theorem polys_ok (hd : deeper k = 5) (h7 : k ≠ 7) (hn : (none s σ).2 = false) (ho : Ok s RUN σ (gz lev o k 2 [] [] [])) :
    Ok s RUN (each s (poly s) σ).1 (gz lev o k 10 (flat (each s (poly s) σ).2.flatten.flatten) ((each s (poly s) σ).2.flatten.map List.length) ((each s (poly s) σ).2.map List.length)) := by
  have h1 := open_ok hn (gz_nf (by decide)) (fun t he => step2 h7 _ _ he) ho
  rw [hd, (none_false hn).1] at h1
  refine eachO_ok (poly_len s) (fun acc => gz lev o k 8 (flat acc.flatten.flatten) (acc.flatten.map List.length) (acc.map List.length)) (fun acc => gz lev o k 9 (flat acc.flatten.flatten) (acc.flatten.map List.length) (acc.map List.length))
    (fun acc => gz lev o k 10 (flat acc.flatten.flatten) (acc.flatten.map List.length) (acc.map List.length)) (fun acc σ h => ?_) (fun acc => gz_nf (by decide)) (fun acc kind text => step9 _ _) (by simpa [mnext, flat] using h1)
  have := poly_ok hd h
  simpa [flat_append] using this

theorem body_ok (hk : 1 ≤ k ∧ k ≤ 6) (hn : (none s σ).2 = false) (ho : Ok s RUN σ (gz lev o k 2 [] [] [])) :
    Ok s RUN (body s k σ).1 (gz lev o k 10 (flat (body s k σ).2.1.flatten) ((body s k σ).2.1.map List.length) (body s k σ).2.2) := by
  have : k = 1 ∨ k = 2 ∨ k = 3 ∨ k = 5 ∨ k = 4 ∨ k = 6 := by omega
  rcases this with rfl | rfl | rfl | rfl | rfl | rfl
  · simpa [body] using one1_ok (by decide) (by decide) hn ho
  · simpa [body] using list2_ok (by decide) (by decide) hn ho
  · simpa [body] using lists3_ok (by decide) (by decide) hn ho
  · simpa [body] using lists3_ok (by decide) (by decide) hn ho
  · simpa [body] using lists4_ok (by decide) (by decide) hn ho
  · simpa [body] using polys_ok (by decide) (by decide) hn ho
end

/-- the reader is done: the machine is where it can't go on, or the text is at its end -/
def Done (RUN : MS × List Tok) (σ : St) (out : List RGeo) : Prop :=
  RUN.2 = σ.l ∧ if σ.bad then (RUN.2 = [] → ¬ final RUN.1) else RUN.1 = ⟨10, 0, out⟩

def toR (g : Geo) : RGeo := ⟨g.kind, g.level, flat g.lists.flatten, g.lists.map List.length, g.sizes⟩

section
variable {s : Str} {RUN : MS × List Tok}
theorem done_bad {σ : St} {Z : MS} (hb : σ.bad = true) (ho : Ok s RUN σ Z) (out : List RGeo) : Done RUN σ out := by
  unfold Ok at ho; rw [if_pos hb] at ho
  unfold Done; rw [if_pos hb]; exact ho

theorem step10 (lev : Nat) (o : List RGeo) (kind : Nat) (text : Str) : step ⟨10, lev + 1, o⟩ kind text = if kind = 5 then some ⟨1, lev + 1, o⟩ else if kind = 4 then some ⟨10, lev, o⟩ else .none := by
  unfold step behind; simp
theorem step10z (o : List RGeo) (kind : Nat) (text : Str) : step ⟨10, 0, o⟩ kind text = .none := by
  unfold step behind; simp

theorem closing_ok (out : List RGeo) : ∀ lev σ, Ok s RUN σ ⟨10, lev, out⟩ →
    ((closing s lev σ).2.2 = true → Ok s RUN (closing s lev σ).1 ⟨1, (closing s lev σ).2.1, out⟩) ∧ ((closing s lev σ).2.2 = false → Done RUN (closing s lev σ).1 out) := by
  intro lev
  induction lev with
  | zero =>
    intro σ ho
    refine ⟨fun h => (by cases h), fun _ => ?_⟩
    show Done RUN σ out
    cases hb : σ.bad with
    | true => exact done_bad hb ho out
    | false =>
      unfold Ok at ho
      rw [hb] at ho
      simp only [Bool.false_eq_true, if_false] at ho
      unfold Done
      rw [hb, ho]
      cases σ.l with
      | nil => exact ⟨rfl, rfl⟩
      | cons t r => unfold run; rw [step10z]; exact ⟨rfl, rfl⟩
  | succ lev ih =>
    intro σ ho
    cases hb : σ.bad with
    | true =>
      have : closing s (lev + 1) σ = (σ, lev + 1, false) := by unfold closing; rw [if_pos hb]
      rw [this]
      exact ⟨fun h => (by cases h), fun _ => done_bad hb ho out⟩
    | false =>
      cases hp : peek σ 5 with
      | true =>
        have : closing s (lev + 1) σ = ((take s σ 5).1, lev + 1, true) := by unfold closing; rw [if_neg (by rw [hb]; simp), if_pos hp]
        rw [this]
        refine ⟨fun _ => ?_, fun h => (by cases h)⟩
        refine take_ok 5 (fun _ => ⟨1, lev + 1, out⟩) (fun e => by cases e.2) (fun t r hl => ?_) ho
        have hk : t.kind = 5 := by unfold peek at hp; rw [hl] at hp; simpa using hp
        rw [step10, if_pos hk, if_pos hk]
      | false =>
        have : closing s (lev + 1) σ = closing s lev (take s σ 4).1 := by
          conv => lhs; unfold closing
          rw [if_neg (by rw [hb]; simp), if_neg (by rw [hp]; simp)]
        rw [this]
        refine ih _ (take_ok 4 (fun _ => ⟨10, lev, out⟩) (fun e => by cases e.2) (fun t r hl => ?_) ho)
        have hk : t.kind ≠ 5 := by unfold peek at hp; rw [hl] at hp; simpa using hp
        rw [step10, if_neg hk]

theorem up_up (c : UInt8) : up (up c) = up c := by
  cases h : small c with
  | false => simp [up, h]
  | true =>
    have h1 : up c = c - 32 := by simp [up, h]
    have h2 : small (c - 32) = false := by
      unfold small at h ⊢
      simp only [Bool.and_eq_true, decide_eq_true_eq] at h
      have h3 : (c - 32).toNat = c.toNat - 32 := by rw [UInt8.toNat_sub_of_le _ _ (by show (32 : UInt8).toNat ≤ c.toNat; show 32 ≤ c.toNat; omega)]; rfl
      rw [h3]
      have h4 : decide (97 ≤ c.toNat - 32) = false := by simp; omega
      rw [h4]; rfl
    rw [h1]
    simp [up, h2]
theorem upper_upper (l : Str) : upper (upper l) = upper l := by
  unfold upper; rw [List.map_map]; congr 1; funext c; exact up_up c
theorem kind_upper (l : Str) : Wk.kind (upper l) = Wk.kind l := by unfold Wk.kind; rw [upper_upper]
theorem kind_nil : Wk.kind [] = 0 := by decide
theorem kind_le (l : Str) : Wk.kind l ≤ 7 := by unfold Wk.kind; split <;> omega

theorem step1 (lev : Nat) (o : List RGeo) (kind : Nat) (text : Str) : step ⟨1, lev, o⟩ kind text = if kind ≠ 1 ∨ Wk.kind text = 0 ∨ (Wk.kind text = 7 ∧ 32 ≤ lev) then .none else some (gz lev o (Wk.kind text) 2 [] [] []) := by
  unfold step; simp [gz]
theorem step27 (lev : Nat) (o : List RGeo) (kind : Nat) (text : Str) (he : isEmpty kind text = false) : step (gz lev o 7 2 [] [] []) kind text = if kind = 3 then some ⟨1, lev + 1, o ++ [⟨7, lev, [], [], []⟩]⟩ else .none := by
  unfold step mbody
  simp only [gz_at, gz_last, he]
  by_cases hk : kind = 3 <;> simp [hk, gz]

theorem geos_ok : ∀ n σ lev (o : List RGeo), (σ.bad = false → σ.l.length + 1 ≤ n) → Ok s RUN σ ⟨1, lev, o⟩ → Done RUN (geosF s n σ lev).1 (o ++ (geosF s n σ lev).2.map toR) := by
  intro n
  induction n with
  | zero =>
    intro σ lev o hn ho
    cases hb : σ.bad with
    | true => exact done_bad hb ho _
    | false => have := hn hb; omega
  | succ n ih =>
    intro σ lev o hn ho
    cases hb : σ.bad with
    | true =>
      have : geosF s (n + 1) σ lev = (σ, []) := by unfold geosF; rw [if_pos hb]
      rw [this]; exact done_bad hb ho _
    | false =>
      have hn' := hn hb
      conv => unfold geosF
      rw [if_neg (by rw [hb]; simp)]
      simp only []
      by_cases hk : Wk.kind (word s σ) = 0 ∨ (Wk.kind (word s σ) = 7 ∧ 32 ≤ lev)
      · rw [if_pos hk]
        refine done_bad rfl (ok_fail (Z' := ⟨1, lev, o⟩) (fun e => by cases e.1) (fun t r hl => ?_) ho) _
        rw [step1, if_pos]
        by_cases h1 : t.kind = 1
        · right
          have hw : word s σ = upper (txt s t) := by unfold word stop peek; rw [hb, hl]; simp [h1]
          rw [hw, kind_upper] at hk
          exact hk
        · exact .inl h1
      · rw [if_neg hk]
        have hst : stop σ 1 = false := by
          cases hst : stop σ 1 with
          | false => rfl
          | true => exact absurd (.inl (by unfold word; rw [if_pos hst]; exact kind_nil)) hk
        obtain ⟨t, r, hl, h1, _, htake⟩ := take_yes s σ 1 hst
        have hw : word s σ = upper (txt s t) := by unfold word; rw [hst, hl]; simp
        obtain ⟨kk, hkk⟩ : ∃ kk, kk = Wk.kind (word s σ) := ⟨_, rfl⟩
        rw [← hkk] at hk ⊢
        have hkt : Wk.kind (txt s t) = kk := by rw [hkk, hw, kind_upper]
        have hk7 : kk ≤ 7 := by rw [hkk]; exact kind_le _
        have h2 : Ok s RUN (take s σ 1).1 (gz lev o kk 2 [] [] []) := by
          refine take_ok 1 (fun _ => gz lev o kk 2 [] [] []) (fun e => by cases e.1) (fun t' r' hl' => ?_) ho
          rw [hl] at hl'
          cases hl'
          rw [step1, hkt, if_neg (by simp only [h1]; omega), if_pos h1]
        have hlen : (take s σ 1).1.l.length + 1 ≤ σ.l.length := by rw [htake, hl]; simp
        obtain ⟨σ1, hσ1⟩ : ∃ σ1, σ1 = (take s σ 1).1 := ⟨_, rfl⟩
        rw [← hσ1] at h2 hlen ⊢
        clear htake hσ1 hw hkt h1 hl ho
        have hfin : ∀ (σ2 : St) (b : List (List Pr) × List Nat), σ2.l.length ≤ σ1.l.length → Ok s RUN σ2 (gz lev o kk 10 (flat b.1.flatten) (b.1.map List.length) b.2) →
            Done RUN (if (closing s lev σ2).2.2 = true then ((geosF s n (closing s lev σ2).1 (closing s lev σ2).2.1).1, (⟨kk, lev, b.1, b.2⟩ : Geo) :: (geosF s n (closing s lev σ2).1 (closing s lev σ2).2.1).2) else ((closing s lev σ2).1, [⟨kk, lev, b.1, b.2⟩])).1
              (o ++ (if (closing s lev σ2).2.2 = true then ((geosF s n (closing s lev σ2).1 (closing s lev σ2).2.1).1, (⟨kk, lev, b.1, b.2⟩ : Geo) :: (geosF s n (closing s lev σ2).1 (closing s lev σ2).2.1).2) else ((closing s lev σ2).1, [⟨kk, lev, b.1, b.2⟩])).2.map toR) := by
          intro σ2 b hl2 h3
          have hc := closing_ok (o ++ [toR ⟨kk, lev, b.1, b.2⟩]) lev σ2 h3
          have hcl : ∀ lev σ, (closing s lev σ).1.l.length ≤ σ.l.length := by
            intro lev
            induction lev with
            | zero => intro σ; exact Nat.le_refl _
            | succ lev ih => intro σ; unfold closing; split
                             · exact Nat.le_refl _
                             · split
                               · exact take_len _ _ _
                               · exact Nat.le_trans (ih _) (take_len _ _ _)
          cases h22 : (closing s lev σ2).2.2 with
          | true =>
            have := ih _ _ _ (fun _ => by have := hcl lev σ2; omega) (hc.1 h22)
            simpa using this
          | false => simpa using hc.2 h22
        cases he : (none s σ1).2 with
        | true =>
          rw [if_neg (by simp)]
          have h3 := empty_ok he (fun t he => step2e _ _ he) h2
          exact hfin (none s σ1).1 ([], []) (none_len _ _) (by simpa [flat] using h3)
        | false =>
          by_cases h7 : kk = 7
          · rw [if_pos ⟨rfl, h7⟩]
            subst h7
            have h3 := open_ok he (gz_nf (by decide)) (fun t he => step27 lev o _ _ he) h2
            have h4 := ih (take s (none s σ1).1 3).1 (lev + 1) _ (fun _ => by have := take_len s (none s σ1).1 3; have := none_len s σ1; omega) h3
            simpa [toR, flat] using h4
          · rw [if_neg (fun h => h7 h.2)]
            have h3 := body_ok (by omega) he h2
            rw [(none_false he).1]
            exact hfin (body s kk σ1).1 (body s kk σ1).2 (body_len _ _ _) h3
end

/-- THE LAW: the reader of a whole text, and the machine -/
theorem geos_run (s : Str) (l : List Tok) : Done (run s ⟨1, 0, []⟩ l) (geos s ⟨l, false⟩).1 ((geos s ⟨l, false⟩).2.map toR) := by
  have := geos_ok (s := s) (RUN := run s ⟨1, 0, []⟩ l) (l.length + 1) ⟨l, false⟩ 0 [] (fun _ => Nat.le_refl _) (by unfold Ok; simp)
  simpa [geos] using this
end Go.Proofs.YtfbdkjonjpanfaaGreatDoor.Wk

set_option linter.unusedVariables false
set_option linter.unusedSimpArgs false
namespace Go.Proofs.YtfbdkjonjpanfaaGreatDoor
/-- the pairs of all geometries, in order -/
def allP (gs : List Wk.Geo) : List Wk.Pr := gs.flatMap fun g => g.lists.flatten
namespace Wk
open Go Lx

/-- each unit of the result costs a token -/
def Cost {A : Type} (f : St → St × A) (m : A → Nat) : Prop := ∀ z, (f z).1.bad = false → z.bad = false ∧ m (f z).2 + (f z).1.l.length ≤ z.l.length

theorem cost_take (s : Str) (z : St) (k : Nat) (h : (take s z k).1.bad = false) : z.bad = false ∧ (take s z k).1.l.length + 1 ≤ z.l.length := ⟨take_notbad s z k h, take_lt s z k h⟩
theorem cost_none (s : Str) (z : St) (h : (none s z).1.bad = false) : z.bad = false ∧ (none s z).1.l.length ≤ z.l.length := by
  unfold none at h ⊢
  split at h
  · rename_i hw
    rw [if_pos hw]
    have := cost_take s z 1 h
    exact ⟨this.1, by show (take s z 1).1.l.length ≤ _; omega⟩
  · rename_i hw
    rw [if_neg hw]
    exact ⟨h, Nat.le_refl _⟩
theorem cost_pair (s : Str) : Cost (pair s) (fun _ => 1) := by
  intro z h
  unfold pair at h ⊢
  have h1 := cost_take s _ 2 h
  have h2 := cost_take s z 2 h1.1
  refine ⟨h2.1, ?_⟩
  show 1 + (take s (take s z 2).1 2).1.l.length ≤ _
  omega
theorem cost_one (s : Str) : Cost (one s) List.length := by
  intro z h
  unfold one at h ⊢
  split at h
  · rename_i hn
    rw [if_pos hn]
    have := cost_none s z h
    exact ⟨this.1, by show 0 + (none s z).1.l.length ≤ _; omega⟩
  · rename_i hn
    rw [if_neg hn]
    have h1 := cost_take s _ 4 h
    have h2 := cost_pair s _ h1.1
    have h3 := cost_take s _ 3 h2.1
    have h4 := cost_none s z h3.1
    dsimp only at h2
    refine ⟨h4.1, ?_⟩
    show 1 + (take s (pair s (take s (none s z).1 3).1).1 4).1.l.length ≤ _
    omega
theorem cost_eachF {A : Type} (s : Str) (f : St → St × A) (m : A → Nat) (hf : Cost f m) : ∀ n z, (eachF s f n z).1.bad = false → z.bad = false ∧ ((eachF s f n z).2.map m).sum + (eachF s f n z).1.l.length ≤ z.l.length := by
  intro n
  induction n with
  | zero => intro z h; exact ⟨h, by show 0 + z.l.length ≤ _; omega⟩
  | succ n ih =>
    intro z h
    unfold eachF at h ⊢
    split at h
    · rename_i hb
      rw [if_pos hb]
      exact ⟨h, by show 0 + z.l.length ≤ _; omega⟩
    · rename_i hb
      rw [if_neg hb]
      split at h
      · rename_i hp
        rw [if_pos hp]
        have h1 := ih _ h
        have h2 := cost_take s _ 5 h1.1
        have h3 := hf z h2.1
        refine ⟨h3.1, ?_⟩
        simp only [List.map_cons, List.sum_cons]
        omega
      · rename_i hp
        rw [if_neg hp]
        have h2 := cost_take s _ 4 h
        have h3 := hf z h2.1
        refine ⟨h3.1, ?_⟩
        simp only [List.map_cons, List.map_nil, List.sum_cons, List.sum_nil]
        omega
theorem cost_each {A : Type} (s : Str) (f : St → St × A) (m : A → Nat) (hf : Cost f m) : Cost (each s f) (fun l => (l.map m).sum) := by
  intro z h
  unfold each at h ⊢
  have h1 := cost_eachF s f m hf _ _ h
  have h2 := cost_take s z 3 h1.1
  exact ⟨h2.1, by have := h1.2; dsimp only; omega⟩
theorem sum_one {A : Type} (l : List A) : (l.map fun _ => 1).sum = l.length := by
  induction l with
  | nil => rfl
  | cons a l ih => simp only [List.map_cons, List.sum_cons, ih, List.length_cons]; omega
theorem cost_list (s : Str) : Cost (list s) List.length := by
  intro z h
  unfold list at h ⊢
  split at h
  · rename_i hn
    rw [if_pos hn]
    have := cost_none s z h
    exact ⟨this.1, by show 0 + (none s z).1.l.length ≤ _; omega⟩
  · rename_i hn
    rw [if_neg hn]
    have h1 := cost_each s _ _ (cost_pair s) _ h
    dsimp only at h1
    rw [sum_one] at h1
    have h2 := cost_none s z h1.1
    exact ⟨h2.1, by omega⟩
theorem cost_lists (s : Str) (f : St → St × List Pr) (hf : Cost f List.length) : Cost (lists s f) (fun l => l.flatten.length) := by
  intro z h
  have := cost_each s f _ hf z h
  dsimp only at this
  rw [← List.length_flatten] at this
  exact this
theorem cost_poly (s : Str) : Cost (poly s) (fun l => l.flatten.length) := by
  intro z h
  unfold poly at h ⊢
  split at h
  · rename_i hn
    rw [if_pos hn]
    have := cost_none s z h
    exact ⟨this.1, by show 0 + (none s z).1.l.length ≤ _; omega⟩
  · rename_i hn
    rw [if_neg hn]
    have h1 := cost_lists s _ (cost_list s) _ h
    have h2 := cost_none s z h1.1
    exact ⟨h2.1, by omega⟩
theorem sum_flat (l : List (List (List Pr))) : (l.map fun x => x.flatten.length).sum = l.flatten.flatten.length := by
  induction l with
  | nil => rfl
  | cons a l ih => simp only [List.map_cons, List.sum_cons, ih, List.flatten_cons, List.flatten_append, List.length_append]
theorem cost_body (s : Str) (k : Nat) : Cost (body s k) (fun b => b.1.flatten.length) := by
  intro z h
  unfold body at h ⊢
  split at h
  · rename_i h1
    rw [if_pos h1]
    have := cost_one s z h
    exact ⟨this.1, by simpa using this.2⟩
  rename_i h1
  rw [if_neg h1]
  split at h
  · rename_i h2
    rw [if_pos h2]
    have := cost_list s z h
    exact ⟨this.1, by simpa using this.2⟩
  rename_i h2
  rw [if_neg h2]
  split at h
  · rename_i h3
    rw [if_pos h3]
    exact cost_lists s _ (cost_list s) z h
  rename_i h3
  rw [if_neg h3]
  split at h
  · rename_i h4
    rw [if_pos h4]
    exact cost_lists s _ (cost_one s) z h
  · rename_i h4
    rw [if_neg h4]
    have := cost_each s _ _ (cost_poly s) z h
    dsimp only at this
    rw [sum_flat] at this
    exact this
theorem cost_closing (s : Str) : ∀ n z, (closing s n z).1.bad = false → z.bad = false ∧ (closing s n z).1.l.length ≤ z.l.length := by
  intro n
  induction n with
  | zero => intro z h; exact ⟨h, Nat.le_refl _⟩
  | succ n ih =>
    intro z h
    unfold closing at h ⊢
    split at h
    · rename_i hb
      rw [if_pos hb]
      exact ⟨h, Nat.le_refl _⟩
    rename_i hb
    rw [if_neg hb]
    split at h
    · rename_i hp
      rw [if_pos hp]
      have := cost_take s z 5 h
      exact ⟨this.1, by show (take s z 5).1.l.length ≤ _; omega⟩
    · rename_i hp
      rw [if_neg hp]
      have h1 := ih _ h
      have h2 := cost_take s z 4 h1.1
      exact ⟨h2.1, by omega⟩
theorem cost_geosF (s : Str) : ∀ n z lev, (geosF s n z lev).1.bad = false → z.bad = false ∧ (allP (geosF s n z lev).2).length + (geosF s n z lev).1.l.length ≤ z.l.length := by
  intro n
  induction n with
  | zero => intro z lev h; exact ⟨h, by show 0 + z.l.length ≤ _; omega⟩
  | succ n ih =>
    intro z lev h
    unfold geosF at h ⊢
    split at h
    · rename_i hb
      rw [if_pos hb]
      exact ⟨h, by show 0 + z.l.length ≤ _; omega⟩
    rename_i hb
    rw [if_neg hb]
    dsimp only at h ⊢
    split at h
    · exact absurd h (by simp [fail])
    rename_i hk
    rw [if_neg hk]
    split at h
    · rename_i h7
      rw [if_pos h7]
      dsimp only at h ⊢
      have h1 := ih _ _ h
      have h2 := cost_take s _ 3 h1.1
      have h3 := cost_none s _ h2.1
      have h4 := cost_take s z 1 h3.1
      refine ⟨h4.1, ?_⟩
      simp only [allP, List.flatMap_cons, List.flatten_nil, List.nil_append] at h1 ⊢
      omega
    · rename_i h7
      rw [if_neg h7]
      have hbody : ∀ b, b = (if (none s (take s z 1).1).2 = true then ((none s (take s z 1).1).1, ([], [])) else body s (kind (word s z)) (none s (take s z 1).1).1) → b.1.bad = false → z.bad = false ∧ b.2.1.flatten.length + b.1.l.length ≤ z.l.length := by
        intro b hb2 hbb
        subst hb2
        split at hbb
        · rename_i hn
          rw [if_pos hn]
          have h1 := cost_none s _ hbb
          have h2 := cost_take s z 1 h1.1
          exact ⟨h2.1, by show 0 + (none s (take s z 1).1).1.l.length ≤ _; omega⟩
        · rename_i hn
          rw [if_neg hn]
          have h0 := cost_body s _ _ hbb
          have h1 := cost_none s _ h0.1
          have h2 := cost_take s z 1 h1.1
          dsimp only at h0
          exact ⟨h2.1, by omega⟩
      have hbody := hbody _ rfl
      generalize (if (none s (take s z 1).1).2 = true then ((none s (take s z 1).1).1, (([] : List (List Pr)), ([] : List Nat))) else body s (kind (word s z)) (none s (take s z 1).1).1) = b at h hbody ⊢
      split at h
      · rename_i hc
        rw [if_pos hc]
        dsimp only at h ⊢
        have h1 := ih _ _ h
        have h2 := cost_closing s _ _ h1.1
        have h3 := hbody h2.1
        refine ⟨h3.1, ?_⟩
        simp only [allP, List.flatMap_cons, List.length_append] at h1 ⊢
        omega
      · rename_i hc
        rw [if_neg hc]
        have h2 := cost_closing s _ _ h
        have h3 := hbody h2.1
        refine ⟨h3.1, ?_⟩
        simp only [allP, List.flatMap_cons, List.flatMap_nil, List.append_nil]
        omega
theorem parse_pairs (s : ByteArray) (gs : List Geo) (h : parse s.data.toList = .ok gs) : (allP gs).length ≤ s.size := by
  have ht := Go.Proofs.YtfbdkjonjpanfaaGreatDoor.toks_len s
  unfold parse at h
  split at h
  · cases h
  · split at h
    · cases h
    · split at h
      · cases h
      · rename_i hb
        cases h
        have := (cost_geosF s.data.toList _ _ _ (by simpa [geos] using hb)).2
        unfold geos
        dsimp only at this ⊢
        omega
end Wk
end Go.Proofs.YtfbdkjonjpanfaaGreatDoor

set_option linter.unusedVariables false
set_option linter.unusedSimpArgs false
namespace Go.Proofs.YtfbdkjonjpanfaaGreatDoor.Wk
open Go Lx

theorem none_notbad (s : Str) (z : St) (h : (none s z).1.bad = false) : z.bad = false := by
  unfold none at h
  split at h
  · exact take_notbad s z 1 h
  · exact h
theorem cost_geosF' (s : Str) : ∀ n z lev, (geosF s n z lev).1.bad = false → z.bad = false := by
  intro n z lev h
  cases hz : z.bad with
  | false => rfl
  | true =>
    cases n with
    | zero => rw [← hz]; exact h
    | succ n => unfold geosF at h; rw [if_pos hz] at h; rw [← hz]; exact h
theorem kind_len (u : Str) (h : kind u ≠ 0) : 5 ≤ u.length := by
  unfold kind at h
  split at h
  · rename_i hlt
    have hm : upper u ∈ names := by
      have : names.idxOf (upper u) < names.length := hlt
      exact List.idxOf_lt_length_iff.1 this
    have hl : (upper u).length = u.length := by unfold upper; simp
    rw [← hl]
    unfold names at hm h
    simp only [List.mem_cons, List.not_mem_nil, or_false] at hm
    rcases hm with e | e | e | e | e | e | e | e <;> rw [e] at h ⊢ <;> first | (exact absurd rfl h) | (simp)
  · exact absurd rfl h
theorem word_take {s : Str} {z : St} (h : kind (word s z) ≠ 0) (hb : (take s z 1).1.bad = false) : 5 ≤ (take s z 1).2.length := by
  have h1 := kind_len _ h
  by_cases hs : stop z 1 = true
  · unfold word at h1; rw [if_pos hs] at h1; simp at h1
  · obtain ⟨t, r, hl, hk, hb, he⟩ := take_yes s z 1 (by simpa using hs)
    unfold word at h1
    rw [if_neg hs, hl] at h1
    rw [he]
    unfold upper at h1
    simpa using h1

theorem kq_geosF {s : Str} : ∀ n z lev, z.l.length + 1 ≤ n → Gd s z.l → lev ≤ 32 → (geosF s n z lev).1.bad = false →
    z.bad = false ∧ (∀ g ∈ (geosF s n z lev).2, OneG g) ∧ Lev (geosF s n z lev).2 ∧ (∃ g r, (geosF s n z lev).2 = g :: r ∧ g.level = lev ∧ ∀ x ∈ r, 1 ≤ x.level) ∧ ((geosF s n z lev).2.map mG).sum + wt s (geosF s n z lev).1.l ≤ wt s z.l := by
  intro n
  induction n with
  | zero => intro z lev h; omega
  | succ n ih =>
    intro z lev hn hg hlev h
    unfold geosF at h ⊢
    split at h
    · rename_i hb
      rw [hb] at h; cases h
    rename_i hb
    rw [if_neg hb]
    dsimp only at h ⊢
    split at h
    · exact absurd h (by simp [fail])
    rename_i hk
    rw [if_neg hk]
    have hk0 : kind (word s z) ≠ 0 := fun e => hk (.inl e)
    have hk7 := kind_le (word s z)
    split at h
    · rename_i h7
      rw [if_pos h7]
      dsimp only at h ⊢
      have hl32 : lev < 32 := by
        rcases Nat.lt_or_ge lev 32 with h | h
        · exact h
        · exact absurd (.inr ⟨h7.2, h⟩) hk
      have b3 : (take s (none s (take s z 1).1).1 3).1.bad = false := (cost_geosF' s n _ _ h)
      have b2 := take_notbad s _ 3 b3
      have b1 : (take s z 1).1.bad = false := none_notbad s _ b2
      have c1 := kq_take z 1 hg b1
      have c2 := kq_none _ c1.2.1 b2
      have c3 := kq_take _ 3 c2.2.1 b3
      have l1 := take_lt s z 1 b1
      have l3 := take_lt s _ 3 b3
      have hw := word_take hk0 b1
      obtain ⟨_, d2, d3, ⟨g, r, d4, d5, d6⟩, d7⟩ := ih _ (lev + 1) (by have := c2.2.2.1; omega) c3.2.1 (by omega) h
      refine ⟨c1.1, ?_, ?_, ⟨_, _, rfl, rfl, ?_⟩, ?_⟩
      · intro x hx
        rcases List.mem_cons.1 hx with rfl | hx
        · refine ⟨by show 1 ≤ kind _; omega, hk7, (fun l hl => by cases hl), fun e => .inl rfl, fun e => .inl rfl, (fun _ l hl => by cases hl), fun e => rfl, fun _ => rfl, fun _ => ⟨rfl, hl32⟩⟩
        · exact d2 x hx
      · rw [d4] at d3 ⊢
        refine ⟨?_, d3⟩
        show g.level ≤ if kind (word s z) = 7 then lev + 1 else lev
        rw [if_pos h7.2]; omega
      · intro x hx
        rw [d4] at hx
        rcases List.mem_cons.1 hx with rfl | hx
        · omega
        · exact d6 x hx
      · have x1 := c1.2.2.2.1
        have x2 := c2.2.2.2.1
        have x3 := c3.2.2.2.1
        simp only [List.map_cons, List.sum_cons]
        have : mG ⟨kind (word s z), lev, [], []⟩ = 6 := rfl
        rw [this]
        omega
    · rename_i h7
      rw [if_neg h7]
      have hbody : ∀ b, b = (if (none s (take s z 1).1).2 = true then ((none s (take s z 1).1).1, ([], [])) else body s (kind (word s z)) (none s (take s z 1).1).1) → b.1.bad = false →
          z.bad = false ∧ Gd s b.1.l ∧ BdOk (kind (word s z)) b.2 ∧ (kind (word s z) = 7 → b.2.1 = [] ∧ lev < 32) ∧ 6 + mLs b.2.1 + b.2.2.length + wt s b.1.l ≤ wt s z.l ∧ b.1.l.length < z.l.length := by
        intro b hb2 hbb
        subst hb2
        split at hbb
        · rename_i hnn
          rw [if_pos hnn]
          have b1 := none_notbad s _ hbb
          have c1 := kq_take z 1 hg b1
          have c2 := kq_none _ c1.2.1 hbb
          have l1 := take_lt s z 1 b1
          have hw := word_take hk0 b1
          refine ⟨c1.1, c2.2.1, ⟨(fun l hl => by cases hl), fun _ => .inl rfl, fun _ => .inl rfl, (fun _ l hl => by cases hl), fun _ => rfl, fun _ => rfl⟩, fun e => ⟨rfl, ?_⟩, ?_, ?_⟩
          · rcases Nat.lt_or_ge lev 32 with h | h
            · exact h
            · exact absurd (.inr ⟨e, h⟩) hk
          · have x1 := c1.2.2.2.1
            have x2 := c2.2.2.2.1
            show 6 + 0 + 0 + wt s (none s (take s z 1).1).1.l ≤ _
            omega
          · have := c2.2.2.1; show (none s (take s z 1).1).1.l.length < _; omega
        · rename_i hnn
          rw [if_neg hnn]
          have hnf : (none s (take s z 1).1).2 = false := by simpa using hnn
          have e : (none s (take s z 1).1).1 = (take s z 1).1 := by
            unfold none at hnf ⊢
            split at hnf
            · cases hnf
            · rename_i hw; rw [if_neg hw]
          rw [e] at hbb ⊢
          have h7' : kind (word s z) ≠ 7 := fun e => h7 ⟨hnf, e⟩
          have hkk : 1 ≤ kind (word s z) ∧ kind (word s z) ≤ 6 := by omega
          have b1 : (take s z 1).1.bad = false := (cost_body s _ _ hbb).1
          have c1 := kq_take z 1 hg b1
          have c2 := kq_body _ hkk _ c1.2.1 hnf hbb
          have l1 := take_lt s z 1 b1
          have hw := word_take hk0 b1
          refine ⟨c1.1, c2.2.1, c2.2.2.1, fun e => absurd e h7', ?_, ?_⟩
          · have x1 := c1.2.2.2.1
            have x2 := c2.2.2.2
            omega
          · have := body_len s (kind (word s z)) (take s z 1).1; omega
      have hbody := hbody _ rfl
      generalize (if (none s (take s z 1).1).2 = true then ((none s (take s z 1).1).1, (([] : List (List Pr)), ([] : List Nat))) else body s (kind (word s z)) (none s (take s z 1).1).1) = b at h hbody ⊢
      have hone : b.1.bad = false → OneG ⟨kind (word s z), lev, b.2.1, b.2.2⟩ := by
        intro hbb
        obtain ⟨_, _, ⟨f1, f2, f3, f4, f5, f6⟩, f7, _, _⟩ := hbody hbb
        exact ⟨by show 1 ≤ kind _; omega, hk7, f1, f2, f3, f4, f5, f6, f7⟩
      split at h
      · rename_i hc
        rw [if_pos hc]
        dsimp only at h ⊢
        have b1 : (closing s lev b.1).1.bad = false := cost_geosF' s n _ _ h
        have b0 := cost_closing' s _ _ b1
        have h3 := hbody b0
        have c1 := kq_closing _ _ h3.2.1 b1
        have hpos := c1.2.2.2.2.2 hc
        obtain ⟨_, d2, d3, ⟨g, r, d4, d5, d6⟩, d7⟩ := ih _ (closing s lev b.1).2.1 (by have := h3.2.2.2.2.2; omega) c1.2.1 (by have := c1.2.2.2.2.1; omega) h
        refine ⟨h3.1, ?_, ?_, ⟨_, _, rfl, rfl, ?_⟩, ?_⟩
        · intro x hx
          rcases List.mem_cons.1 hx with rfl | hx
          · exact hone b0
          · exact d2 x hx
        · rw [d4] at d3 ⊢
          refine ⟨?_, d3⟩
          show g.level ≤ if kind (word s z) = 7 then lev + 1 else lev
          have := c1.2.2.2.2.1
          split <;> omega
        · intro x hx
          rw [d4] at hx
          rcases List.mem_cons.1 hx with rfl | hx
          · omega
          · exact d6 x hx
        · have x1 := h3.2.2.2.2.1
          have x2 := c1.2.2.1
          simp only [List.map_cons, List.sum_cons]
          have : mG ⟨kind (word s z), lev, b.2.1, b.2.2⟩ = 6 + mLs b.2.1 + b.2.2.length := rfl
          rw [this]
          omega
      · rename_i hc
        rw [if_neg hc]
        have b0 := cost_closing' s _ _ h
        have h3 := hbody b0
        have c1 := kq_closing _ _ h3.2.1 h
        refine ⟨h3.1, ?_, trivial, ⟨_, _, rfl, rfl, fun x hx => by cases hx⟩, ?_⟩
        · intro x hx
          rw [List.mem_singleton] at hx; subst hx
          exact hone b0
        · have x1 := h3.2.2.2.2.1
          have x2 := c1.2.2.1
          simp only [List.map_cons, List.sum_cons, List.map_nil, List.sum_nil]
          have : mG ⟨kind (word s z), lev, b.2.1, b.2.2⟩ = 6 + mLs b.2.1 + b.2.2.length := rfl
          rw [this]
          omega

theorem rest_gd (s : ByteArray) : ∀ n k, s.size - k ≤ n → (∀ t ∈ rest s k, t.kind = 2 → right (text t.kind t.fr t.to s.data.toList) = true) ∧ wt s.data.toList (rest s k) ≤ 2 * (s.size - k) := by
  have hl : s.data.toList.length = s.size := (Lib.size_eq s).symm
  intro n
  induction n with
  | zero => intro k h; rw [rest_end s k (by omega)]; exact ⟨(fun t ht => by cases ht), Nat.zero_le _⟩
  | succ n ih =>
    intro k h
    by_cases hk : k < s.size
    · cases hb : Lx.one s[k] [32, 9, 13, 10]
      · rw [rest_tok s k hk hb]
        have hto := next_to s k hk
        have hfr : (next s.data.toList k).fr = k := Go.Proofs.YtfbdkjonjpanfaaGreatDoor.next_fr _ _
        have htx : (text (next s.data.toList k).kind (next s.data.toList k).fr (next s.data.toList k).to s.data.toList) = (s.data.toList.drop k).take ((next s.data.toList k).to - k) := by
          rw [hfr]
          unfold text
          rw [if_neg (by omega)]
          congr 1
          omega
        have hlen : (text (next s.data.toList k).kind (next s.data.toList k).fr (next s.data.toList k).to s.data.toList).length = (next s.data.toList k).to - k := by
          rw [htx]; simp; omega
        have hnext : (next s.data.toList k).kind = 2 → right (text (next s.data.toList k).kind (next s.data.toList k).fr (next s.data.toList k).to s.data.toList) = true := by
          intro h2
          rw [htx]
          unfold next at h2 ⊢
          simp only [head_drop s k hk] at h2 ⊢
          split at h2
          · simp only at h2; omega
          · rename_i q1
            split at h2
            · simp only at h2; omega
            · rename_i q2
              split at h2
              · rename_i q3
                simp only at h2
                split at h2
                · rename_i q4
                  simp only [q1, q2, q3, if_true, if_false, Bool.false_eq_true]
                  rw [Nat.add_sub_cancel_left]; exact q4
                · cases h2
              · simp only at h2; omega
        by_cases h0 : (next s.data.toList k).kind = 0
        · rw [if_pos h0]
          refine ⟨?_, ?_⟩
          · intro t ht
            rw [List.mem_singleton] at ht; subst ht; exact hnext
          · unfold wt txt
            simp only [List.map_cons, List.map_nil, List.sum_cons, List.sum_nil]
            rw [hlen]; omega
        · rw [if_neg h0]
          have := ih (next s.data.toList k).to (by omega)
          refine ⟨?_, ?_⟩
          · intro t ht
            rcases List.mem_cons.1 ht with rfl | ht
            · exact hnext
            · exact this.1 t ht
          · have h2 := this.2
            unfold wt txt at h2 ⊢
            simp only [List.map_cons, List.sum_cons]
            rw [hlen]; omega
      · rw [rest_blank s k hk hb]
        have := ih (k + 1) (by omega)
        exact ⟨this.1, by have := this.2; omega⟩
    · rw [rest_end s k (by omega)]; exact ⟨(fun t ht => by cases ht), Nat.zero_le _⟩

theorem wt_pre {s : Str} {a b : List Tok} (h : a <+: b) : wt s a ≤ wt s b := by
  obtain ⟨c, rfl⟩ := h
  unfold wt; rw [List.map_append, sum_append]; omega
/-- whatever a text is read as is right, and holds no more than so much -/
theorem parse_right (s : ByteArray) (gs : List Geo) (h : parse s.data.toList = .ok gs) : RightG gs ∧ (gs.map mG).sum ≤ 2 * s.size := by
  have hr := rest_gd s s.size 0 (by omega)
  rw [rest_zero] at hr
  have hpre : toks s.data.toList <+: scan s.data.toList := List.takeWhile_prefix _
  have hg : Gd s.data.toList (toks s.data.toList) := fun t ht h2 => hr.1 t (hpre.subset ht) h2
  have hw := wt_pre (s := s.data.toList) hpre
  unfold parse at h
  split at h
  · cases h
  · split at h
    · cases h
    · split at h
      · cases h
      · rename_i hb
        cases h
        have hb' : (geosF s.data.toList ((toks s.data.toList).length + 1) ⟨toks s.data.toList, false⟩ 0).1.bad = false := by
          unfold geos at hb; simpa using hb
        obtain ⟨_, d2, d3, ⟨g, r, d4, d5, d6⟩, d7⟩ := kq_geosF _ _ 0 (Nat.le_refl _) hg (by omega) hb'
        refine ⟨⟨d2, d3, ?_⟩, ?_⟩
        · show Top (geosF s.data.toList ((toks s.data.toList).length + 1) ⟨toks s.data.toList, false⟩ 0).2
          rw [d4]; exact ⟨d5, d6⟩
        · show ((geosF s.data.toList ((toks s.data.toList).length + 1) ⟨toks s.data.toList, false⟩ 0).2.map mG).sum ≤ _
          have hr2 := hr.2
          dsimp only at d7
          rw [Nat.sub_zero] at hr2
          omega
end Go.Proofs.YtfbdkjonjpanfaaGreatDoor.Wk

set_option linter.unusedVariables false
set_option linter.unusedSimpArgs false
namespace Go.Proofs.YtfbdkjonjpanfaaGreatDoor.Wk
open Go Lx

def toA (g : Geo) : GA := ⟨(g.kind : Int), (g.level : Int), g.lists, g.sizes.map fun (n : Nat) => (n : Int)⟩

def pc (a : Option Nat) (g : Geo) (r : List Geo) : Str := sep a g.level ++ (nm g.kind ++ (32 :: (if told g r then bodyT g else [])))
def pF : Option Nat → List Geo → List Str
  | _, [] => []
  | a, g :: r => pc a g r :: pF (.some g.level) r
def close : Option Nat → List Geo → Str
  | .none, [] => []
  | .some a, [] => List.replicate a 41
  | _, g :: r => close (.some g.level) r
theorem close_cons (a : Option Nat) (g : Geo) (r : List Geo) : close a (g :: r) = close (.some g.level) r := by cases a <;> rfl
theorem textF_pF : ∀ (l : List Geo) (a : Option Nat), textF a l = (pF a l).flatten ++ close a l
  | [], .none => rfl
  | [], .some a => by simp [textF, pF, close]
  | g :: r, a => by
    rw [textF_cons, close_cons, after, textF_pF r (.some g.level), pF, List.flatten_cons, pc]
    simp
theorem pF_len : ∀ (l : List Geo) (a : Option Nat), (pF a l).length = l.length
  | [], a => by cases a <;> rfl
  | g :: r, a => by rw [pF, List.length_cons, pF_len r, List.length_cons]
theorem pF_at : ∀ (l : List Geo) (a : Option Nat) (i : Nat) (g : Geo), l[i]? = some g → (pF a l)[i]? = some (pc (if i = 0 then a else (l[i - 1]?).map Geo.level) g (l.drop (i + 1)))
  | [], _, i, g, h => by cases h
  | x :: r, a, 0, g, h => by cases h; rfl
  | x :: r, a, i + 1, g, h => by
    rw [pF, List.getElem?_cons_succ, pF_at r (.some x.level) i g h]
    have e : (if i = 0 then (.some x.level : Option Nat) else (r[i - 1]?).map Geo.level) = (if i + 1 = 0 then a else ((x :: r)[i + 1 - 1]?).map Geo.level) := by
      cases i with
      | zero => simp
      | succ i => simp
    rw [e]; rfl
theorem close_at : ∀ (l : List Geo) (a : Option Nat) (g : Geo), l[l.length - 1]? = some g → close a l = List.replicate g.level 41
  | [], a, g, h => by cases h
  | [x], a, g, h => by cases h; cases a <;> rfl
  | x :: y :: r, a, g, h => by
    rw [close_cons]
    exact close_at (y :: r) _ g (by simpa using h)
theorem told_at (l : List Geo) (i : Nat) (g : Geo) : told g (l.drop (i + 1)) = (g.kind != 7 || (match l[i + 1]? with | .none => true | .some h => decide (h.level ≤ g.level))) := by
  unfold told
  congr 1
  have : (l.drop (i + 1))[0]? = l[i + 1]? := by rw [List.getElem?_drop]
  rw [← this]
  cases l.drop (i + 1) <;> rfl
/-- the text of the first so many -/
def wr (gs : List Geo) (i : Nat) : Str := ((pF .none gs).take i).flatten
theorem wr_succ (gs : List Geo) (i : Nat) (g : Geo) (h : gs[i]? = some g) : wr gs (i + 1) = wr gs i ++ pc (if i = 0 then .none else (gs[i - 1]?).map Geo.level) g (gs.drop (i + 1)) := by
  unfold wr; rw [List.take_add_one, pF_at gs .none i g h]; simp
theorem write_wr (gs : List Geo) (g : Geo) (h : gs[gs.length - 1]? = some g) : write gs = wr gs gs.length ++ List.replicate g.level 41 := by
  unfold write wr
  rw [textF_pF, close_at gs .none g h]
  congr 1
  rw [← pF_len gs .none, List.take_length]
theorem wr_le (gs : List Geo) (i : Nat) : (wr gs i).length ≤ (write gs).length := by
  unfold write
  rw [textF_pF]
  unfold wr
  have : ∀ (l : List Str) (i : Nat), (l.take i).flatten.length ≤ l.flatten.length := by
    intro l
    induction l with
    | nil => intro i; simp
    | cons x l ih => intro i; cases i with
      | zero => simp
      | succ i => have := ih i; simp only [List.take_succ_cons, List.flatten_cons, List.length_append]; omega
  have := this (pF .none gs) i
  rw [List.length_append]; omega

theorem sumTo_yes : ∀ (l : List Nat) (z n : Nat), z + l.sum = n → sumTo (z : Int) n (l.map fun (n : Nat) => (n : Int)) = true
  | [], z, n, h => by simp [sumTo] at h ⊢; omega
  | m :: r, z, n, h => by
    simp only [List.map_cons, sumTo, Bool.and_eq_true, List.sum_cons] at h ⊢
    refine ⟨by simp; omega, ?_⟩
    have := sumTo_yes r (z + m) n (by omega)
    rw [← Int.natCast_add]; exact this
theorem sumTo_of : ∀ (l : List Int) (z : Nat) (n : Nat), sumTo (z : Int) n l = true → ∃ m : List Nat, l = m.map (fun (n : Nat) => (n : Int)) ∧ z + m.sum = n
  | [], z, n, h => ⟨[], rfl, by simp [sumTo] at h ⊢; omega⟩
  | x :: r, z, n, h => by
    simp only [sumTo, Bool.and_eq_true, Bool.not_eq_true', Bool.or_eq_false_iff, decide_eq_false_iff_not] at h
    obtain ⟨k, rfl⟩ : ∃ k : Nat, x = k := ⟨x.toNat, by omega⟩
    rw [← Int.natCast_add] at h
    obtain ⟨m, hm, hs⟩ := sumTo_of r (z + k) n h.2
    exact ⟨k :: m, by rw [hm]; rfl, by simp; omega⟩
theorem lsB_iff (l : List Pr) : lsB l = true ↔ lsOk l := by
  unfold lsB lsOk prB prOk
  simp
theorem one_toA (g : Geo) (h : OneG g) : oneA (toA g) = true := by
  obtain ⟨h1, h2, h3, h4, h5, h6, h7, h8, h9⟩ := h
  unfold oneA toA shapedA
  simp only [Bool.and_eq_true, List.length_map]
  refine ⟨?_, ?_, ?_⟩
  · by_cases e1 : g.kind = 1
    · rw [if_pos (by omega)]
      rcases h4 e1 with e | ⟨p, e⟩ <;> rw [e] <;> rfl
    rw [if_neg (by omega)]
    by_cases e2 : g.kind = 2
    · rw [if_pos (by omega)]
      rcases h5 e2 with e | ⟨l, e, hl⟩ <;> rw [e]
      · rfl
      · cases l with
        | nil => exact absurd rfl hl
        | cons x r => simp
    rw [if_neg (by omega)]
    by_cases e4 : g.kind = 4
    · rw [if_pos (by omega)]
      simpa using h6 e4
    rw [if_neg (by omega)]
    by_cases e35 : g.kind = 3 ∨ g.kind = 5
    · rw [if_pos (by omega)]
    rw [if_neg (by omega)]
    by_cases e6 : g.kind = 6
    · rw [if_pos (by omega)]
      exact sumTo_yes g.sizes 0 g.lists.length (by rw [Nat.zero_add]; exact h7 e6)
    rw [if_neg (by omega)]
    have e7 : g.kind = 7 := by omega
    rw [e7, (h9 e7).1]; rfl
  · by_cases e6 : g.kind = 6
    · rw [e6]; rfl
    · rw [h8 e6]; simp
  · rw [List.all_eq_true]
    exact fun l hl => (lsB_iff l).2 (h3 l hl)
theorem one_ofA (g : GA) (h : oneA g = true) (hl : 0 ≤ g.level) (h7 : g.kind = 7 → g.level < 32) : ∃ og, g = toA og ∧ OneG og := by
  obtain ⟨k, lev, ls, ss⟩ := g
  simp only at hl h7
  obtain ⟨lv, rfl⟩ : ∃ n : Nat, lev = n := ⟨lev.toNat, by omega⟩
  unfold oneA at h
  simp only [Bool.and_eq_true, Bool.or_eq_true] at h
  obtain ⟨hs, hz, hp⟩ := h
  have hls : ∀ l ∈ ls, lsOk l := fun l hl => (lsB_iff l).1 (List.all_eq_true.1 hp l hl)
  unfold shapedA at hs
  simp only at hs
  by_cases e6 : k = 6
  · subst e6
    rw [if_neg (by decide), if_neg (by decide), if_neg (by decide), if_neg (by decide), if_pos (by trivial)] at hs
    obtain ⟨m, rfl, hm⟩ := sumTo_of ss 0 ls.length hs
    refine ⟨⟨6, lv, ls, m⟩, rfl, by simp, by simp, hls, ?_, ?_, ?_, ?_, ?_, ?_⟩
    · intro e; cases e
    · intro e; cases e
    · intro e; cases e
    · intro _; simpa using hm
    · intro e; exact absurd rfl e
    · intro e; cases e
  · have hss : ss = [] := by
      rcases hz with hz | hz
      · simp at hz; exact absurd hz e6
      · simpa using hz
    subst hss
    by_cases e1 : k = 1
    · subst e1
      rw [if_pos (by trivial)] at hs
      refine ⟨⟨1, lv, ls, []⟩, rfl, by simp, by simp, hls, ?_, ?_, ?_, ?_, ?_, ?_⟩
      · intro _
        simp only [Bool.or_eq_true, Bool.and_eq_true, beq_iff_eq] at hs
        rcases hs with hs | ⟨hs1, hs2⟩
        · left; exact List.eq_nil_of_length_eq_zero hs
        · right
          cases ls with
          | nil => cases hs1
          | cons x r =>
            have hr : r = [] := List.eq_nil_of_length_eq_zero (by simpa using hs1)
            subst hr
            simp only [List.headD_cons] at hs2
            obtain ⟨p, hp⟩ := List.length_eq_one_iff.1 hs2
            exact ⟨p, by rw [hp]⟩
      · intro e; cases e
      · intro e; cases e
      · intro e; cases e
      · intro _; rfl
      · intro e; cases e
    rw [if_neg e1] at hs
    by_cases e2 : k = 2
    · subst e2
      rw [if_pos (by trivial)] at hs
      refine ⟨⟨2, lv, ls, []⟩, rfl, by simp, by simp, hls, ?_, ?_, ?_, ?_, ?_, ?_⟩
      · intro e; cases e
      · intro _
        simp only [Bool.or_eq_true, Bool.and_eq_true, beq_iff_eq, decide_eq_true_eq] at hs
        rcases hs with hs | ⟨hs1, hs2⟩
        · left; exact List.eq_nil_of_length_eq_zero hs
        · right
          cases ls with
          | nil => cases hs1
          | cons x r =>
            have hr : r = [] := List.eq_nil_of_length_eq_zero (by simpa using hs1)
            subst hr
            simp only [List.headD_cons] at hs2
            exact ⟨x, rfl, fun e => by rw [e] at hs2; simp at hs2⟩
      · intro e; cases e
      · intro e; cases e
      · intro _; rfl
      · intro e; cases e
    rw [if_neg e2] at hs
    by_cases e4 : k = 4
    · subst e4
      rw [if_pos (by trivial)] at hs
      refine ⟨⟨4, lv, ls, []⟩, rfl, by simp, by simp, hls, ?_, ?_, ?_, ?_, ?_, ?_⟩
      · intro e; cases e
      · intro e; cases e
      · intro _ l hl
        have := List.all_eq_true.1 hs l hl
        simpa using this
      · intro e; cases e
      · intro _; rfl
      · intro e; cases e
    rw [if_neg e4] at hs
    by_cases e35 : k = 3 ∨ k = 5
    · rcases e35 with rfl | rfl
      · refine ⟨⟨3, lv, ls, []⟩, rfl, by simp, by simp, hls, ?_, ?_, ?_, ?_, ?_, ?_⟩ <;> intro e <;> first | cases e | rfl
      · refine ⟨⟨5, lv, ls, []⟩, rfl, by simp, by simp, hls, ?_, ?_, ?_, ?_, ?_, ?_⟩ <;> intro e <;> first | cases e | rfl
    rw [if_neg e35, if_neg e6] at hs
    simp only [Bool.and_eq_true, beq_iff_eq] at hs
    obtain ⟨rfl, hs⟩ := hs
    have hl0 : ls = [] := List.eq_nil_of_length_eq_zero hs
    subst hl0
    refine ⟨⟨7, lv, [], []⟩, rfl, by simp, by simp, hls, ?_, ?_, ?_, ?_, ?_, ?_⟩
    · intro e; cases e
    · intro e; cases e
    · intro e; cases e
    · intro e; cases e
    · intro _; rfl
    · intro _; exact ⟨rfl, by have := h7 rfl; show lv < 32; omega⟩

theorem lev_at : ∀ (gs : List Geo), Lev gs → ∀ (i : Nat) (g h : Geo), gs[i]? = some g → gs[i + 1]? = some h → h.level ≤ if g.kind = 7 then g.level + 1 else g.level
  | [], _, i, g, h, e, _ => by cases e
  | [x], _, i, g, h, _, e => by simp at e
  | x :: y :: r, hl, 0, g, h, e, e2 => by cases e; cases e2; exact hl.1
  | x :: y :: r, hl, i + 1, g, h, e, e2 => lev_at (y :: r) hl.2 i g h (by simpa using e) (by simpa using e2)
theorem lev_of : ∀ (gs : List Geo), (∀ (i : Nat) (g h : Geo), gs[i]? = some g → gs[i + 1]? = some h → h.level ≤ if g.kind = 7 then g.level + 1 else g.level) → Lev gs
  | [], _ => trivial
  | [x], _ => trivial
  | x :: y :: r, h => ⟨h 0 x y rfl rfl, lev_of (y :: r) (fun i g k e1 e2 => h (i + 1) g k (by simpa using e1) (by simpa using e2))⟩
theorem mem_at {A : Type} {l : List A} {x : A} (h : x ∈ l) : ∃ i : Nat, l[i]? = some x := by
  obtain ⟨i, hi, e⟩ := List.mem_iff_getElem.1 h
  exact ⟨i, by rw [List.getElem?_eq_getElem hi, e]⟩
theorem right_toA (gs : List Geo) (h : RightG gs) : RightA (gs.map toA) := by
  obtain ⟨h1, h2, h3⟩ := h
  refine ⟨fun e => ?_, fun i hi => ?_⟩
  · have : gs = [] := by simpa using e
    rw [this] at h3; exact h3
  · rw [List.length_map] at hi
    obtain ⟨g, hg⟩ : ∃ g, gs[i]? = some g := ⟨_, List.getElem?_eq_getElem hi⟩
    have hgm := h1 g (List.mem_of_getElem? hg)
    have e1 : (gs.map toA)[i]? = some (toA g) := by rw [List.getElem?_map, hg]; rfl
    unfold okAt
    rw [e1]
    unfold okA
    simp only [Bool.and_eq_true]
    refine ⟨one_toA g hgm, ?_, ?_⟩
    · unfold prevA
      cases i with
      | zero =>
        rw [if_pos rfl]
        cases gs with
        | nil => cases hg
        | cons x r =>
          cases hg
          have := h3.1
          unfold levA toA; simp; omega
      | succ i =>
        rw [if_neg (by omega), Nat.add_sub_cancel]
        obtain ⟨p, hp⟩ : ∃ p, gs[i]? = some p := ⟨_, List.getElem?_eq_getElem (by omega)⟩
        have e2 : (gs.map toA)[i]? = some (toA p) := by rw [List.getElem?_map, hp]; rfl
        rw [e2]
        have hle := lev_at gs h2 i p g hp hg
        have hge : 1 ≤ g.level := by
          cases gs with
          | nil => cases hg
          | cons x r => exact h3.2 g (List.mem_of_getElem? (i := i) (by simpa using hg))
        unfold levA mostA toA
        simp only [Bool.and_eq_true, Bool.not_eq_true', decide_eq_false_iff_not]
        refine ⟨by omega, ?_⟩
        split
        · rename_i e
          have e' : p.kind = 7 := by omega
          rw [if_pos e'] at hle; omega
        · rename_i e
          rw [if_neg (by omega)] at hle; omega
    · by_cases e7 : g.kind = 7
      · have := (hgm.2.2.2.2.2.2.2.2 e7).2
        unfold toA; simp; omega
      · unfold toA; simp; omega
theorem ok_level (l : List GA) (h : ∀ i, i < l.length → okAt l i = true) (i : Nat) (g : GA) (hg : l[i]? = some g) : 0 ≤ g.level ∧ (g.kind = 7 → g.level < 32) ∧ oneA g = true ∧ levA (prevA l i) g = true := by
  have hi := (List.getElem?_eq_some_iff.1 hg).1
  have := h i hi
  unfold okAt okA at this
  rw [hg] at this
  simp only [Bool.and_eq_true] at this
  obtain ⟨a, b, c⟩ := this
  refine ⟨?_, fun e => ?_, a, b⟩
  · unfold levA at b
    split at b
    · simp at b; omega
    · simp at b; omega
  · rw [e] at c; simp at c; omega
theorem list_ofA : ∀ (l : List GA), (∀ g ∈ l, ∃ og, g = toA og ∧ OneG og) → ∃ gs : List Geo, l = gs.map toA ∧ ∀ g ∈ gs, OneG g
  | [], _ => ⟨[], rfl, (fun g h => by cases h)⟩
  | g :: r, h => by
    obtain ⟨og, e, ho⟩ := h g (List.mem_cons_self ..)
    obtain ⟨gs, e2, ho2⟩ := list_ofA r (fun x hx => h x (List.mem_cons_of_mem _ hx))
    refine ⟨og :: gs, by rw [e, e2]; rfl, fun x hx => ?_⟩
    rcases List.mem_cons.1 hx with rfl | hx
    · exact ho
    · exact ho2 x hx
theorem right_ofA (l : List GA) (h : RightA l) : ∃ gs : List Geo, l = gs.map toA ∧ RightG gs := by
  obtain ⟨h1, h2⟩ := h
  obtain ⟨gs, rfl, hgs⟩ := list_ofA l (fun g hg => by
    obtain ⟨i, hi⟩ := mem_at hg
    obtain ⟨a, b, c, _⟩ := ok_level l h2 i g hi
    exact one_ofA g c a b)
  have hat : ∀ (i : Nat) (g : Geo), gs[i]? = some g → levA (prevA (gs.map toA) i) (toA g) = true := fun i g hg => (ok_level _ h2 i (toA g) (by rw [List.getElem?_map, hg]; rfl)).2.2.2
  refine ⟨gs, rfl, hgs, lev_of gs ?_, ?_⟩
  · intro i p g hp hg
    have := hat (i + 1) g hg
    unfold prevA at this
    rw [if_neg (by omega), Nat.add_sub_cancel, List.getElem?_map, hp] at this
    unfold levA mostA toA at this
    simp only [Option.map_some, Bool.and_eq_true, Bool.not_eq_true', decide_eq_false_iff_not] at this
    have h2 := this.2
    by_cases e7 : p.kind = 7
    · rw [if_pos e7]; rw [if_pos (by omega)] at h2; omega
    · rw [if_neg e7]; rw [if_neg (by omega)] at h2; omega
  · cases gs with
    | nil => exact absurd rfl h1
    | cons x r =>
      refine ⟨?_, fun g hg => ?_⟩
      · have := hat 0 x rfl
        unfold prevA levA toA at this
        simp at this; omega
      · obtain ⟨i, hi⟩ := mem_at hg
        have := hat (i + 1) g (by simpa using hi)
        unfold prevA at this
        have hil := (List.getElem?_eq_some_iff.1 hi).1
        obtain ⟨p, hp⟩ : ∃ p, (x :: r)[i]? = some p := ⟨_, List.getElem?_eq_getElem (by simp; omega)⟩
        rw [if_neg (by omega), Nat.add_sub_cancel, List.getElem?_map, hp] at this
        unfold levA toA at this
        simp at this; omega
theorem level_le (gs : List Geo) (h : RightG gs) : ∀ g ∈ gs, g.level ≤ 32 := by
  have : ∀ (i : Nat) (g : Geo), gs[i]? = some g → g.level ≤ 32 := by
    intro i
    induction i with
    | zero =>
      intro g hg
      have := h.2.2
      cases gs with
      | nil => cases hg
      | cons x r => cases hg; have := this.1; omega
    | succ i ih =>
      intro g hg
      obtain ⟨p, hp⟩ : ∃ p, gs[i]? = some p := ⟨_, List.getElem?_eq_getElem (by have := (List.getElem?_eq_some_iff.1 hg).1; omega)⟩
      have h1 := lev_at gs h.2.1 i p g hp hg
      have h2 := ih p hp
      by_cases e7 : p.kind = 7
      · have := ((h.1 p (List.mem_of_getElem? hp)).2.2.2.2.2.2.2.2 e7).2
        rw [if_pos e7] at h1; omega
      · rw [if_neg e7] at h1; omega
  intro g hg
  obtain ⟨i, hi⟩ := mem_at hg
  exact this i g hi
theorem nm_len (k : Nat) : (nm k).length ≤ 18 := by
  rcases Nat.lt_or_ge k 8 with h | h
  · have : ∀ k : Fin 8, (nm k.1).length ≤ 18 := by decide
    exact this ⟨k, h⟩
  · unfold nm names
    rw [List.getD_eq_getElem?_getD, List.getElem?_eq_none (by simpa using h)]; simp
theorem write_ne (gs : List Geo) (h : RightG gs) : write gs ≠ [] := by
  cases gs with
  | nil => exact absurd h.2.2 (by simp [Top])
  | cons g r => unfold write; rw [textF_cons]; unfold after; simp
end Go.Proofs.YtfbdkjonjpanfaaGreatDoor.Wk
