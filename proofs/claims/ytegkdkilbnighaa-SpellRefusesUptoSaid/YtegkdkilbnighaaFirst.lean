/- A text that is read: what stands behind plays no part; a text that is wrong at a place is wrong there whatever stands behind. No walk. -/
import Derived.Test.YtegkdkilbnighaaWktK
import Derived.Test.YtegkdkilbnighaaMachB
set_option linter.unusedVariables false
set_option linter.unusedSimpArgs false
namespace Go.Proofs.Ytegkdkilbnighaa.Lx
open Go

theorem runLen_append (p : UInt8 → Bool) (x : Str) (hx : ∀ c r, x = c :: r → p c = false) : ∀ l : Str, runLen p (l ++ x) = runLen p l
  | [] => by
    cases x with
    | nil => rfl
    | cons c r => simp [runLen, hx c r rfl]
  | c :: l => by
    have := runLen_append p x hx l
    unfold runLen at this ⊢
    simp only [List.cons_append, List.takeWhile_cons]
    cases p c
    · rfl
    · simp [this]

theorem next_append (l x : Str) (q : Nat) (hq : q < l.length) (hx : ∀ c r, x = c :: r → letter c = false ∧ inNumber c = false) : next (l ++ x) q = next l q := by
  have hd : (l ++ x).drop q = l.drop q ++ x := List.drop_append_of_le_length (by omega)
  have hh : ((l ++ x).drop q).headD 0 = (l.drop q).headD 0 := by
    rw [hd]
    cases h : l.drop q with
    | nil => have := congrArg List.length h; simp at this; omega
    | cons c r => rfl
  have h1 := runLen_append letter x (fun c r e => (hx c r e).1) (l.drop q)
  have h2 := runLen_append inNumber x (fun c r e => (hx c r e).2) (l.drop q)
  unfold next
  simp only [hh]
  rw [hd, h1, h2, List.take_append_of_le_length (runLen_le _ _)]

theorem get_append (p s : ByteArray) (x : Str) (hs : s.data.toList = p.data.toList ++ x) (q : Nat) (hq : q < p.size) (hq2 : q < s.size) : s[q] = p[q] := by
  have e1 := head_drop s q hq2
  have e2 := head_drop p q hq
  rw [hs, List.drop_append_of_le_length (by rw [← Lib.size_eq]; omega)] at e1
  rw [← e1, ← e2]
  cases h : p.data.toList.drop q with
  | nil => have := congrArg List.length h; rw [List.length_drop, ← Lib.size_eq] at this; simp at this; omega
  | cons c r => rfl

theorem rest_append (p s : ByteArray) (x : Str) (hs : s.data.toList = p.data.toList ++ x) (hx : ∀ c r, x = c :: r → letter c = false ∧ inNumber c = false) :
    ∀ n q, p.size - q ≤ n → q ≤ p.size → (∀ u ∈ rest p q, u.kind ≠ 0) → rest s q = rest p q ++ rest s p.size := by
  have hsz : p.size ≤ s.size := by rw [Lib.size_eq s, hs, List.length_append, ← Lib.size_eq]; omega
  intro n
  induction n with
  | zero =>
    intro q h hq hg
    have : q = p.size := by omega
    subst this
    rw [rest_end p p.size (Nat.le_refl _)]; rfl
  | succ n ih =>
    intro q h hq hg
    by_cases hqp : q < p.size
    · have hqs : q < s.size := by omega
      have hget := get_append p s x hs q hqp hqs
      cases hb : one p[q] [32, 9, 13, 10]
      · rw [rest_tok p q hqp hb] at hg ⊢
        have hn : next s.data.toList q = next p.data.toList q := by rw [hs]; exact next_append _ _ _ (by rw [← Lib.size_eq]; exact hqp) hx
        have hnz : (next p.data.toList q).kind ≠ 0 := hg _ (by simp)
        have hto := next_to p q hqp
        rw [if_neg hnz] at hg ⊢
        rw [rest_tok s q hqs (by rw [hget]; exact hb), hn, if_neg hnz, ih _ (by omega) hto.2 (fun u hu => hg u (by simp [hu]))]
        rfl
      · rw [rest_blank p q hqp hb] at hg ⊢
        rw [rest_blank s q hqs (by rw [hget]; exact hb)]
        exact ih _ (by omega) (by omega) hg
    · have : q = p.size := by omega
      subst this
      rw [rest_end p p.size (Nat.le_refl _)]; rfl

theorem rest_prefixT (s t : ByteArray) (k : Nat) (hk : k ≤ s.size) (ht : t.data.toList = s.data.toList.take k) : ∀ n p, s.size - p ≤ n → p ≤ k → ∀ A u R, rest s p = A ++ u :: R → (∀ u ∈ A, u.kind ≠ 0) → u.fr = k → rest t p = A := by
  obtain ⟨hts, hg⟩ := get_take s t k hk ht
  intro n
  induction n with
  | zero =>
    intro p h hp A bad R hr hA hf
    rw [rest_end s p (by omega)] at hr
    cases A <;> simp at hr
  | succ n ih =>
    intro p h hp A bad R hr hA hf
    by_cases hps : p < s.size
    · cases hb : one s[p] [32, 9, 13, 10]
      · rw [rest_tok s p hps hb] at hr
        cases A with
        | nil =>
          simp only [List.nil_append, List.cons.injEq] at hr
          have hfr : p = k := by rw [← hf, ← hr.1, next_fr]
          exact rest_end t p (by omega)
        | cons a A =>
          simp only [List.cons_append, List.cons.injEq] at hr
          obtain ⟨rfl, hr⟩ := hr
          have hnz : (next s.data.toList p).kind ≠ 0 := hA _ (by simp)
          rw [if_neg hnz] at hr
          have hto := next_to s p hps
          have hle := rest_fr s _ _ (Nat.le_refl _) bad (by rw [hr]; simp)
          rw [hf] at hle
          have hpk : p < k := by omega
          have hpt : p < t.size := by omega
          have hbt : one t[p] [32, 9, 13, 10] = false := by rw [hg p hpk hpt hps]; exact hb
          have hn : next t.data.toList p = next s.data.toList p := by rw [ht]; exact next_prefix _ _ _ hpk hle
          rw [rest_tok t p hpt hbt, hn, if_neg hnz, ih _ (by omega) hle A bad R hr (fun u hu => hA u (by simp [hu])) hf]
      · rw [rest_blank s p hps hb] at hr
        have hpk : p < k := by
          have := rest_fr s _ _ (Nat.le_refl _) bad (by rw [hr]; simp)
          omega
        have hpt : p < t.size := by omega
        rw [rest_blank t p hpt (by rw [hg p hpk hpt hps]; exact hb)]
        exact ih (p + 1) (by omega) (by omega) A bad R hr hA hf
    · rw [rest_end s p (by omega)] at hr
      cases A <;> simp at hr

/-- behind a good text: a blank and an opening -/
theorem scan_open (s s' : ByteArray) (tail : Str) (hs : s'.data.toList = s.data.toList ++ 32 :: 40 :: tail) (hg : ∀ u ∈ scan s.data.toList, u.kind ≠ 0) :
    ∃ R, scan s'.data.toList = scan s.data.toList ++ ⟨3, s.size + 1, s.size + 2⟩ :: R := by
  have hsz : s'.size = s.size + 2 + tail.length := by rw [Lib.size_eq s', hs, List.length_append, ← Lib.size_eq]; simp; omega
  have h := rest_append s s' (32 :: 40 :: tail) hs (fun c r e => by cases e; exact ⟨by decide, by decide⟩) s.size 0 (by omega) (Nat.zero_le _) (by rw [rest_zero]; exact hg)
  rw [rest_zero, rest_zero] at h
  have d0 : s'.data.toList.drop s.size = 32 :: 40 :: tail := by rw [hs, Lib.size_eq, List.drop_left]
  have d1 : s'.data.toList.drop (s.size + 1) = 40 :: tail := by rw [← List.drop_drop, d0]; rfl
  have g0 : s'[s.size] = 32 := by have := head_drop s' s.size (by omega); rw [d0] at this; exact this.symm
  have g1 : s'[s.size + 1] = 40 := by have := head_drop s' (s.size + 1) (by omega); rw [d1] at this; exact this.symm
  have hn : next s'.data.toList (s.size + 1) = ⟨3, s.size + 1, s.size + 2⟩ := by
    unfold next
    rw [d1]
    rfl
  rw [rest_blank s' s.size (by omega) (by rw [g0]; decide), rest_tok s' (s.size + 1) (by omega) (by rw [g1]; decide), hn, if_neg (by simp)] at h
  exact ⟨_, h⟩

/-- ahead of a token's place the same text, then a sign that begins no token -/
theorem scan_wrong (s s' : ByteArray) (A : List Tok) (t : Tok) (R : List Tok) (tail : Str) (hsc : scan s.data.toList = A ++ t :: R) (hA : ∀ u ∈ A, u.kind ≠ 0) (hk : t.fr ≤ s.size)
    (hs : s'.data.toList = s.data.toList.take t.fr ++ 59 :: tail) : scan s'.data.toList = A ++ [⟨0, t.fr, t.fr + 1⟩] := by
  have hp : (s.extract 0 t.fr).data.toList = s.data.toList.take t.fr := by simp
  have h1 := rest_prefixT s (s.extract 0 t.fr) t.fr hk hp s.size 0 (by omega) (Nat.zero_le _) A t R (by rw [rest_zero]; exact hsc) hA rfl
  have hps : (s.extract 0 t.fr).size = t.fr := (get_take s _ t.fr hk hp).1
  have hsz : s'.size = t.fr + 1 + tail.length := by rw [Lib.size_eq s', hs, ← hp, List.length_append, ← Lib.size_eq, hps]; simp; omega
  have h := rest_append (s.extract 0 t.fr) s' (59 :: tail) (by rw [hp]; exact hs) (fun c r e => by cases e; exact ⟨by decide, by decide⟩) t.fr 0 (by omega) (Nat.zero_le _) (by rw [h1]; exact hA)
  rw [h1, rest_zero, hps] at h
  have d0 : s'.data.toList.drop t.fr = 59 :: tail := by
    rw [hs, ← hp, List.drop_left' (by rw [← Lib.size_eq, hps])]
  have g0 : s'[t.fr] = 59 := by have := head_drop s' t.fr (by omega); rw [d0] at this; exact this.symm
  have hn : next s'.data.toList t.fr = ⟨0, t.fr, t.fr + 1⟩ := by
    unfold next
    rw [d0]
    rfl
  rw [rest_tok s' t.fr (by omega) (by rw [g0]; decide), hn, if_pos rfl] at h
  exact h
end Go.Proofs.Ytegkdkilbnighaa.Lx

namespace Go.Proofs.Ytegkdkilbnighaa.Wk
open Go Lx

theorem run_congr {s s' : Str} : ∀ (l : List Tok) (z : MS), (∀ t ∈ l, txt s t = txt s' t) → run s z l = run s' z l
  | [], z, _ => rfl
  | t :: r, z, h => by
    unfold run
    rw [h t (by simp)]
    cases step z t.kind (txt s' t) with
    | none => rfl
    | some z' => exact run_congr r z' (fun u hu => h u (by simp [hu]))
theorem run_append {s : Str} : ∀ (A B : List Tok) (z z' : MS), run s z A = (z', []) → run s z (A ++ B) = run s z' B
  | [], B, z, z', h => by cases h; rfl
  | t :: A, B, z, z', h => by
    unfold run at h
    rw [List.cons_append]
    conv => lhs; unfold run
    cases hs : step z t.kind (txt s t) with
    | none => rw [hs] at h; cases h
    | some z1 => rw [hs] at h; exact run_append A B z1 z' h
theorem run_left {s : Str} : ∀ (l : List Tok) (z : MS), ∃ A, l = A ++ (run s z l).2 ∧ run s z A = ((run s z l).1, [])
  | [], z => ⟨[], rfl, rfl⟩
  | t :: r, z => by
    cases hs : step z t.kind (txt s t) with
    | none => exact ⟨[], by simp [run, hs], by simp [run, hs]⟩
    | some z1 =>
      obtain ⟨A, h1, h2⟩ := run_left (s := s) r z1
      refine ⟨t :: A, ?_, ?_⟩
      · conv => rhs; unfold run
        rw [hs, List.cons_append]
        exact congrArg _ h1
      · conv => lhs; unfold run
        conv => rhs; unfold run
        rw [hs]
        exact h2

theorem txt_take {s s' p x : Str} (hs : s = p ++ x) {k : Nat} (hk : k ≤ p.length) (t : Tok) (h1 : t.fr ≤ t.to) (h2 : t.to ≤ k) (hs' : ∃ y, s' = p ++ y) : txt s t = txt s' t := by
  obtain ⟨y, rfl⟩ := hs'
  subst hs
  unfold txt text
  rw [if_neg (by simp only [List.length_append]; omega), if_neg (by simp only [List.length_append]; omega)]
  rw [List.drop_append_of_le_length (by omega), List.drop_append_of_le_length (by omega), List.take_append_of_le_length (by rw [List.length_drop]; omega), List.take_append_of_le_length (by rw [List.length_drop]; omega)]

/-- of a text that is read, and of one that isn't: what the machine says -/
theorem parse_cases (s : Str) : (∃ t r, (run s ⟨1, 0, []⟩ (toks s)).2 = t :: r ∧ parse s = .error t.fr) ∨
    ((run s ⟨1, 0, []⟩ (toks s)).2 = [] ∧ ∃ k, badAt (scan s) = some k ∧ parse s = .error k) ∨
    ((run s ⟨1, 0, []⟩ (toks s)).2 = [] ∧ badAt (scan s) = .none ∧ ¬ final (run s ⟨1, 0, []⟩ (toks s)).1 ∧ parse s = .error s.length) ∨
    ∃ gs, run s ⟨1, 0, []⟩ (toks s) = (⟨10, 0, gs.map toR⟩, []) ∧ badAt (scan s) = .none ∧ parse s = .ok gs := by
  have D := geos_run s (toks s)
  unfold Done at D
  unfold parse
  obtain ⟨RUN, hR⟩ : ∃ RUN, RUN = run s ⟨1, 0, []⟩ (toks s) := ⟨_, rfl⟩
  obtain ⟨G, hG⟩ : ∃ G, G = geos s ⟨toks s, false⟩ := ⟨_, rfl⟩
  rw [← hR, ← hG] at D ⊢
  obtain ⟨⟨l, b⟩, gs⟩ := G
  obtain ⟨zr, lr⟩ := RUN
  simp only at D ⊢
  obtain ⟨rfl, D⟩ := D
  cases lr with
  | cons t r => exact .inl ⟨t, r, rfl, rfl⟩
  | nil =>
    right
    cases hb : badAt (scan s) with
    | some k => exact .inl ⟨rfl, k, rfl, rfl⟩
    | none =>
      right
      cases b with
      | true => exact .inl ⟨rfl, rfl, D rfl, rfl⟩
      | false => exact .inr ⟨gs, by rw [show zr = ⟨10, 0, gs.map toR⟩ from D], rfl, rfl⟩

theorem toks_mem {s : Str} {t : Tok} (h : t ∈ toks s) : t ∈ scan s := (List.takeWhile_prefix _).subset h
theorem tw_mem {A : Type} (p : A → Bool) : ∀ (l : List A) (x : A), x ∈ l.takeWhile p → p x = true
  | [], x, h => by cases h
  | a :: l, x, h => by
    rw [List.takeWhile_cons] at h
    cases hp : p a with
    | false => rw [hp] at h; cases h
    | true =>
      rw [hp] at h
      rcases List.mem_cons.1 h with rfl | h
      · exact hp
      · exact tw_mem p l x h
theorem toks_good {s : Str} {t : Tok} (h : t ∈ toks s) : t.kind ≠ 0 := by
  have := tw_mem _ _ _ h
  simpa using this

/-- where a text is wrong there stands a token, or none begins, or it is at its end -/
theorem parse_place (s : ByteArray) (k : Nat) (hp : parse s.data.toList = .error k) : k = s.size ∨ ∃ A t R, t.fr = k ∧ t ∈ scan s.data.toList ∧ scan s.data.toList = A ++ t :: R ∧ (∀ u ∈ A, u.kind ≠ 0) ∧ (run s.data.toList ⟨1, 0, []⟩ A).2 = [] := by
  rcases parse_cases s.data.toList with ⟨t, r, h1, h2⟩ | ⟨h1, k', h2, h3⟩ | ⟨_, _, _, h2⟩ | ⟨gs, _, _, h2⟩
  · rw [h2] at hp
    cases hp
    right
    obtain ⟨A, h3, h4⟩ := run_left (s := s.data.toList) (toks s.data.toList) ⟨1, 0, []⟩
    rw [h1] at h3
    have hg : ∀ u ∈ A, u.kind ≠ 0 := fun u hu => toks_good (s := s.data.toList) (by rw [h3]; simp [hu])
    obtain ⟨R, hR⟩ : ∃ R, scan s.data.toList = toks s.data.toList ++ R := by
      obtain ⟨R, hR⟩ := List.takeWhile_prefix (l := scan s.data.toList) (fun t => t.kind != 0)
      exact ⟨R, hR.symm⟩
    refine ⟨A, t, r ++ R, rfl, toks_mem (by rw [h3]; simp), by rw [hR, h3]; simp, hg, by rw [h4]⟩
  · rw [h3] at hp
    cases hp
    right
    rcases scan_split s with ⟨_, h⟩ | ⟨A, bad, e1, e2, e3, e4, e5, _⟩
    · rw [h] at h2; cases h2
    · rw [e5] at h2
      cases h2
      rw [toks_bad e1 e2 e3] at h1
      exact ⟨A, bad, [], rfl, by rw [e1]; simp, e1, e2, h1⟩
  · rw [h2] at hp
    cases hp
    exact .inl (Lib.size_eq s).symm
  · rw [h2] at hp; cases hp

theorem parse_le (s : ByteArray) (k : Nat) (hp : parse s.data.toList = .error k) : k ≤ s.size := by
  rcases parse_place s k hp with h | ⟨A, t, R, rfl, hm, _⟩
  · omega
  · have := scan_bounds s t hm; omega

theorem parse_wrong (s s' : ByteArray) (k : Nat) (tail : Str) (hp : parse s.data.toList = .error k) (hk : k ≠ s.size) (hs : s'.data.toList = s.data.toList.take k ++ 59 :: tail) : parse s'.data.toList = .error k := by
  rcases parse_place s k hp with h | ⟨A, t, R, rfl, hm, h1, h2, h3⟩
  · exact absurd h hk
  · have hb := scan_bounds s t hm
    have hsc := scan_wrong s s' A t R tail h1 h2 (by omega) hs
    have htk : toks s'.data.toList = A := toks_bad hsc h2 rfl
    have hbad : badAt (scan s'.data.toList) = some t.fr := by
      rw [hsc]; exact badAt_of (j := A.length) (t := ⟨0, t.fr, t.fr + 1⟩) (by simp) rfl (by simpa using h2)
    have hp' : (s.extract 0 t.fr).data.toList = s.data.toList.take t.fr := by simp
    have hA := rest_prefixT s (s.extract 0 t.fr) t.fr (by omega) hp' s.size 0 (by omega) (Nat.zero_le _) A t R (by rw [rest_zero]; exact h1) h2 rfl
    have hps : (s.extract 0 t.fr).size = t.fr := (get_take s _ t.fr (by omega) hp').1
    have hrun : run s'.data.toList ⟨1, 0, []⟩ A = run s.data.toList ⟨1, 0, []⟩ A := by
      refine run_congr A _ (fun u hu => ?_)
      have hub := scan_bounds (s.extract 0 t.fr) u (by rw [← rest_zero, hA]; exact hu)
      rw [hps] at hub
      exact txt_take hs (k := t.fr) (by rw [List.length_take, ← Lib.size_eq]; omega) u hub.1 hub.2 ⟨s.data.toList.drop t.fr, (List.take_append_drop _ _).symm⟩
    rcases parse_cases s'.data.toList with ⟨t', r, g1, g2⟩ | ⟨g1, k', g2, g3⟩ | ⟨_, g2, _, _⟩ | ⟨gs, _, g2, _⟩
    · rw [htk, hrun, h3] at g1; cases g1
    · rw [hbad] at g2; cases g2; exact g3
    · rw [hbad] at g2; cases g2
    · rw [hbad] at g2; cases g2

theorem parse_more (s s' : ByteArray) (gs : List Geo) (tail : Str) (hp : parse s.data.toList = .ok gs) (hs : s'.data.toList = s.data.toList ++ 32 :: 40 :: tail) : parse s'.data.toList = .error (s.size + 1) := by
  rcases parse_cases s.data.toList with ⟨t, r, h1, h2⟩ | ⟨h1, k', h2, h3⟩ | ⟨_, _, _, h2⟩ | ⟨gs', h1, hbn, h2⟩
  · rw [h2] at hp; cases hp
  · rw [h3] at hp; cases hp
  · rw [h2] at hp; cases hp
  · have hg : ∀ u ∈ scan s.data.toList, u.kind ≠ 0 := by
      rcases scan_split s with ⟨h, _⟩ | ⟨A, bad, e1, e2, e3, e4, e5, _⟩
      · exact h
      · rw [e5] at hbn; cases hbn
    obtain ⟨R, hsc⟩ := scan_open s s' tail hs hg
    obtain ⟨R', htk⟩ : ∃ R', toks s'.data.toList = scan s.data.toList ++ ⟨3, s.size + 1, s.size + 2⟩ :: R' := by
      unfold toks
      rw [hsc, List.takeWhile_append_of_pos (fun t ht => by simpa using hg t ht)]
      exact ⟨_, by rw [List.takeWhile_cons]; rfl⟩
    rw [toks_all hg] at h1
    have hrun : run s'.data.toList ⟨1, 0, []⟩ (scan s.data.toList) = (⟨10, 0, gs'.map toR⟩, []) := by
      rw [← h1]
      refine run_congr _ _ (fun u hu => ?_)
      have hub := scan_bounds s u hu
      exact txt_take hs (k := s.size) (by rw [← Lib.size_eq]; omega) u hub.1 hub.2 ⟨[], by simp⟩
    have hrun2 : (run s'.data.toList ⟨1, 0, []⟩ (toks s'.data.toList)).2 = ⟨3, s.size + 1, s.size + 2⟩ :: R' := by
      rw [htk, run_append _ _ _ _ hrun]
      unfold run
      rw [step10z]
    rcases parse_cases s'.data.toList with ⟨t', r, g1, g2⟩ | ⟨g1, _⟩ | ⟨g1, _⟩ | ⟨gs, g1, _⟩
    · rw [hrun2] at g1; cases g1; exact g2
    · rw [hrun2] at g1; cases g1
    · rw [hrun2] at g1; cases g1
    · rw [g1] at hrun2; cases hrun2
end Go.Proofs.Ytegkdkilbnighaa.Wk
