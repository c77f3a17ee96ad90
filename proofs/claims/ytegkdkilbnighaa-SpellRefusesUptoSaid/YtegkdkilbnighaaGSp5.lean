/- What is written is lexed as its tokens. No program in sight. -/
import Derived.Test.YtegkdkilbnighaaGSp3
import Derived.Test.YtegkdkilbnighaaGSp1
import Derived.Test.YtegkdkilbnighaaFirst

set_option linter.unusedVariables false
set_option linter.unusedSimpArgs false
namespace Go.Proofs.Ytegkdkilbnighaa.Wk
open Go Lx

/-- a token without its place: its kind, its text -/
abbrev AT := Nat × Str
/-- the tokens of a text, without their places -/
def lexF : Nat → Str → List AT
  | 0, _ => []
  | n + 1, s => match s with
    | [] => []
    | c :: r => if Lx.one c [32, 9, 13, 10] then lexF n r else
      ((next s 0).kind, s.take (next s 0).to) :: (if (next s 0).kind = 0 then [] else lexF n (s.drop (next s 0).to))
theorem next_shift (l : Str) (k : Nat) : next l k = ⟨(next (l.drop k) 0).kind, k, k + (next (l.drop k) 0).to⟩ := by
  unfold next
  simp only [List.drop_zero, Nat.zero_add]
  split
  · rfl
  · split
    · rfl
    · split <;> rfl
theorem next_pos (s : Str) (h : s ≠ []) : 0 < (next s 0).to ∧ (next s 0).to ≤ s.length := by
  have := next_to ⟨s.toArray⟩ 0 (by rw [Lib.size_eq]; exact List.length_pos_iff.2 h)
  rw [Lib.size_eq] at this
  exact this
theorem lexF_more : ∀ n m s, s.length ≤ n → s.length ≤ m → lexF n s = lexF m s
  | 0, m, s, h, _ => by
    have : s = [] := List.eq_nil_of_length_eq_zero (by omega)
    subst this
    cases m <;> rfl
  | n + 1, 0, s, _, h => by
    have : s = [] := List.eq_nil_of_length_eq_zero (by omega)
    subst this; rfl
  | n + 1, m + 1, [], _, _ => rfl
  | n + 1, m + 1, c :: r, h, h' => by
    have hp := next_pos (c :: r) (by simp)
    simp only [List.length_cons] at h h' hp
    unfold lexF
    simp only []
    rw [lexF_more n m r (by omega) (by omega)]
    have hd : ((c :: r).drop (next (c :: r) 0).to).length ≤ n ∧ ((c :: r).drop (next (c :: r) 0).to).length ≤ m := by
      rw [List.length_drop, List.length_cons]; omega
    rw [lexF_more n m _ hd.1 hd.2]
def lexA (s : Str) : List AT := lexF s.length s
theorem lexA_nil : lexA [] = [] := rfl
theorem lexA_cons (c : UInt8) (r : Str) : lexA (c :: r) = if Lx.one c [32, 9, 13, 10] then lexA r else ((next (c :: r) 0).kind, (c :: r).take (next (c :: r) 0).to) :: (if (next (c :: r) 0).kind = 0 then [] else lexA ((c :: r).drop (next (c :: r) 0).to)) := by
  have hp := next_pos (c :: r) (by simp)
  unfold lexA
  conv => lhs; rw [List.length_cons]; unfold lexF
  rw [lexF_more r.length ((c :: r).drop (next (c :: r) 0).to).length ((c :: r).drop (next (c :: r) 0).to) (by rw [List.length_drop, List.length_cons]; simp only [List.length_cons] at hp; omega) (Nat.le_refl _)]

/-- the tokens of a text at their places are those -/
theorem rest_lex (s : ByteArray) : ∀ n k, s.size - k ≤ n → (rest s k).map (fun t => (t.kind, txt s.data.toList t)) = lexA (s.data.toList.drop k) := by
  have hl : s.data.toList.length = s.size := (Lib.size_eq s).symm
  intro n
  induction n with
  | zero =>
    intro k h
    rw [rest_end s k (by omega), List.drop_eq_nil_of_le (by omega)]; rfl
  | succ n ih =>
    intro k h
    by_cases hk : k < s.size
    · have hd := drop_cons s k hk
      rw [hd, lexA_cons]
      cases hb : Lx.one s[k] [32, 9, 13, 10]
      · rw [if_neg (by simp), rest_tok s k hk hb, List.map_cons, ← hd]
        have hsh := next_shift s.data.toList k
        have hto := next_to s k hk
        obtain ⟨nx, hnx⟩ : ∃ nx, nx = next (s.data.toList.drop k) 0 := ⟨_, rfl⟩
        rw [← hnx] at hsh ⊢
        rw [hsh] at hto ⊢
        simp only at hto ⊢
        have htx : txt s.data.toList ⟨nx.kind, k, k + nx.to⟩ = (s.data.toList.drop k).take nx.to := by
          unfold txt text
          rw [if_neg (by simp only; omega)]
          congr 1
          simp only; omega
        rw [htx]
        congr 1
        by_cases h0 : nx.kind = 0
        · rw [if_pos h0, if_pos h0]; rfl
        · rw [if_neg h0, if_neg h0, ih (k + nx.to) (by omega), List.drop_drop]
      · rw [if_pos (by simp), rest_blank s k hk hb, ih (k + 1) (by omega)]
    · rw [rest_end s k (by omega), List.drop_eq_nil_of_le (by omega)]; rfl
theorem scan_lex (s : ByteArray) : (scan s.data.toList).map (fun t => (t.kind, txt s.data.toList t)) = lexA s.data.toList := by
  rw [← rest_zero, rest_lex s s.size 0 (by omega), List.drop_zero]

/-- no letter and no number goes on -/
def delim (y : Str) : Prop := ∀ c r, y = c :: r → letter c = false ∧ inNumber c = false
theorem lex_blank (y : Str) : lexA (32 :: y) = lexA y := by rw [lexA_cons, if_pos (by decide)]
theorem lex_single (c : UInt8) (k : Nat) (h : (c = 40 ∧ k = 3) ∨ (c = 41 ∧ k = 4) ∨ (c = 44 ∧ k = 5)) (y : Str) : lexA (c :: y) = (k, [c]) :: lexA y := by
  have hn : next (c :: y) 0 = ⟨k, 0, 1⟩ := by
    unfold next
    rcases h with ⟨rfl, rfl⟩ | ⟨rfl, rfl⟩ | ⟨rfl, rfl⟩ <;> rfl
  have hb : ¬ (Lx.one c [32, 9, 13, 10] = true) := by rcases h with ⟨rfl, rfl⟩ | ⟨rfl, rfl⟩ | ⟨rfl, rfl⟩ <;> decide
  have hk : k ≠ 0 := by omega
  rw [lexA_cons, if_neg hb, hn]
  simp only
  rw [if_neg hk]
  rfl
theorem run_app (p : UInt8 → Bool) (w y : Str) (hw : w.all p = true) (hy : ∀ c r, y = c :: r → p c = false) : runLen p (w ++ y) = w.length := by
  unfold runLen
  rw [List.takeWhile_append_of_pos (by simpa using hw)]
  cases y with
  | nil => simp
  | cons c r => rw [List.takeWhile_cons, hy c r rfl]; simp
theorem lex_word (w y : Str) (hw : w ≠ []) (ha : w.all letter = true) (hy : delim y) : lexA (w ++ y) = (1, w) :: lexA y := by
  cases w with
  | nil => exact absurd rfl hw
  | cons c r =>
    have hc : letter c = true := by simp at ha; exact ha.1
    have hi := (letter_iff c).1 hc
    have h1 : Lx.one c [32, 9, 13, 10] = false := by
      cases h : Lx.one c [32, 9, 13, 10] with
      | false => rfl
      | true => have := (blank_iff c).1 h; omega
    have h2 : Lx.one c [40, 41, 44] = false := by
      cases h : Lx.one c [40, 41, 44] with
      | false => rfl
      | true => have := (single_iff c).1 h; omega
    have hr := run_app letter (c :: r) y ha (fun d q e => (hy d q e).1)
    have hn : next (c :: r ++ y) 0 = ⟨1, 0, (c :: r).length⟩ := by
      unfold next
      rw [List.drop_zero]
      have hh : (c :: r ++ y).headD 0 = c := rfl
      simp only [hh, h2, hc, Bool.false_eq_true, if_false, if_true, hr, Nat.zero_add]
    rw [List.cons_append] at hn ⊢
    rw [lexA_cons, h1, if_neg (by simp), hn]
    simp only
    rw [if_neg (by decide), ← List.cons_append]
    congr 1
    · rw [List.take_left']; rfl
    · rw [List.drop_left']; rfl
theorem dstate_num (a : Int) (c : UInt8) (h : dstate a c ≠ -1) : inNumber c = true := by
  rw [num_iff]
  unfold dstate at h
  repeat' split at h
  all_goals first | exact absurd rfl h | omega
theorem drun_all : ∀ (l : Str) (a : Int), drun a l = true → l.all inNumber = true
  | [], _, _ => rfl
  | c :: l, a, h => by
    rw [drun_cons] at h
    have h1 : dstate a c ≠ -1 := fun e => by rw [e, drun_bad] at h; cases h
    rw [List.all_cons, dstate_num a c h1, drun_all l _ h]; rfl
theorem dstate0 (c : UInt8) (h : dstate 0 c ≠ -1) : (48 ≤ (c.toNat : Int) ∧ (c.toNat : Int) ≤ 57) ∨ (c.toNat : Int) = 43 ∨ (c.toNat : Int) = 45 ∨ (c.toNat : Int) = 46 := by
  unfold dstate at h
  repeat' split at h
  all_goals first | exact absurd rfl h | omega
theorem right_head (x : Str) (h : right x = true) : ∃ c r, x = c :: r ∧ x.all inNumber = true ∧ letter c = false ∧ Lx.one c [40, 41, 44] = false ∧ Lx.one c [32, 9, 13, 10] = false := by
  rw [right_drun] at h
  cases x with
  | nil => exact absurd h (by decide)
  | cons c r =>
    have ha := drun_all _ _ h
    rw [drun_cons] at h
    have h1 : dstate 0 c ≠ -1 := fun e => by rw [e, drun_bad] at h; cases h
    have h2 := dstate0 c h1
    refine ⟨c, r, rfl, ha, ?_, ?_, ?_⟩
    · cases hl : letter c with
      | false => rfl
      | true => have := (letter_iff c).1 hl; omega
    · cases hl : Lx.one c [40, 41, 44] with
      | false => rfl
      | true => have := (single_iff c).1 hl; omega
    · cases hl : Lx.one c [32, 9, 13, 10] with
      | false => rfl
      | true => have := (blank_iff c).1 hl; omega
theorem lex_num (x y : Str) (hx : right x = true) (hy : delim y) : lexA (x ++ y) = (2, x) :: lexA y := by
  obtain ⟨c, r, rfl, ha, h1, h2, h3⟩ := right_head x hx
  have hc : inNumber c = true := by simp at ha; exact ha.1
  have hr := run_app inNumber (c :: r) y ha (fun d q e => (hy d q e).2)
  have ht : (c :: r ++ y).take (c :: r).length = c :: r := by rw [List.take_left']; rfl
  have hn : next (c :: r ++ y) 0 = ⟨2, 0, (c :: r).length⟩ := by
    unfold next
    rw [List.drop_zero]
    have hh : (c :: r ++ y).headD 0 = c := rfl
    simp only [hh, h1, h2, hc, Bool.false_eq_true, if_false, if_true, hr, Nat.zero_add, ht, hx]
  rw [List.cons_append] at hn ⊢
  rw [lexA_cons, h3, if_neg (by simp), hn]
  simp only
  rw [if_neg (by decide), ← List.cons_append]
  congr 1
  · rw [ht]
  · rw [List.drop_left']; rfl

/-! the tokens of what is written -/
def cm : AT := (5, [44])
def lp : AT := (3, [40])
def rp : AT := (4, [41])
def emp : AT := (1, emptyWord)
def joinA : List (List AT) → List AT
  | [] => []
  | [x] => x
  | x :: y :: r => x ++ cm :: joinA (y :: r)
theorem joinA_cons (x : List AT) (l : List (List AT)) (h : l ≠ []) : joinA (x :: l) = x ++ cm :: joinA l := by
  cases l with
  | nil => exact absurd rfl h
  | cons y r => rfl
def joinedA (l : List (List AT)) : List AT := if l = [] then [emp] else lp :: (joinA l ++ [rp])
def pairA (p : Pr) : List AT := [(2, p.1), (2, p.2)]
def pairsA (l : List Pr) : List AT := joinedA (l.map pairA)
def listsA (l : List (List Pr)) : List AT := joinedA (l.map pairsA)
def bodyA (g : Geo) : List AT :=
  if g.kind = 1 ∨ g.kind = 2 then (match g.lists with | [] => [emp] | x :: _ => pairsA x)
  else if g.kind = 6 then joinedA ((parts g.sizes g.lists).map listsA)
  else listsA g.lists
def sepA (ahead : Option Nat) (lev : Nat) : List AT :=
  match ahead with
  | .none => []
  | .some a => if a < lev then [lp] else List.replicate (a - lev) rp ++ [cm]
def textA : Option Nat → List Geo → List AT
  | .none, [] => []
  | .some a, [] => List.replicate a rp
  | a, g :: r => sepA a g.level ++ ((1, nm g.kind) :: ((if told g r then bodyA g else []) ++ textA (.some g.level) r))
def afterA (g : Geo) (r : List Geo) : List AT := (1, nm g.kind) :: ((if told g r then bodyA g else []) ++ textA (.some g.level) r)
theorem textA_cons (a : Option Nat) (g : Geo) (r : List Geo) : textA a (g :: r) = sepA a g.level ++ afterA g r := by cases a <;> rfl

/-- the text x has the tokens a, whatever stands behind it that ends them -/
def Lx1 (x : Str) (a : List AT) : Prop := ∀ y, delim y → lexA (x ++ y) = a ++ lexA y
theorem delim_c (c : UInt8) (y : Str) (h : c = 40 ∨ c = 41 ∨ c = 44 ∨ c = 32) : delim (c :: y) := by
  intro d r e
  cases e
  rcases h with rfl | rfl | rfl | rfl <;> decide
def All2 : List Str → List (List AT) → Prop
  | [], [] => True
  | x :: xs, a :: bs => Lx1 x a ∧ All2 xs bs
  | _, _ => False
theorem lx_join : ∀ (xs : List Str) (bs : List (List AT)), All2 xs bs → Lx1 (join xs) (joinA bs)
  | [], [], _ => fun y _ => rfl
  | [x], [a], h => h.1
  | x :: x2 :: r, a :: a2 :: q, h => by
    intro y hy
    have ih := lx_join (x2 :: r) (a2 :: q) h.2 y hy
    rw [join_cons x (x2 :: r) (by simp), joinA_cons a (a2 :: q) (by simp), List.append_assoc]
    refine (h.1 (44 :: 32 :: (join (x2 :: r) ++ y)) (delim_c 44 _ (by simp))).trans ?_
    rw [lex_single 44 5 (by simp), lex_blank, ih]
    simp [cm]
  | [], a :: q, h => h.elim
  | x :: r, [], h => h.elim
  | [x], a :: a2 :: q, h => h.2.elim
  | x :: x2 :: r, [a], h => h.2.elim
theorem lx_emp : Lx1 emptyWord [emp] := fun y hy => lex_word emptyWord y (by decide) (by decide) hy
theorem lx_joined (xs : List Str) (bs : List (List AT)) (h : All2 xs bs) : Lx1 (joined xs) (joinedA bs) := by
  cases xs with
  | nil =>
    cases bs with
    | nil => exact lx_emp
    | cons a q => exact h.elim
  | cons x xs =>
    cases bs with
    | nil => exact h.elim
    | cons a bs =>
      intro y hy
      unfold joined joinedA
      rw [if_neg (by simp), if_neg (by simp)]
      unfold bracket
      rw [List.cons_append, lex_single 40 3 (by simp), List.append_assoc]
      have e := lx_join _ _ h (41 :: y) (delim_c 41 _ (by simp))
      have e2 : lexA (join (x :: xs) ++ ([41] ++ y)) = joinA (a :: bs) ++ lexA (41 :: y) := e
      rw [e2, lex_single 41 4 (by simp)]
      simp [rp, lp]
theorem forall_map {A : Type} (f : A → Str) (g : A → List AT) : ∀ l : List A, (∀ x ∈ l, Lx1 (f x) (g x)) → All2 (l.map f) (l.map g)
  | [], _ => trivial
  | a :: l, h => ⟨h a (List.mem_cons_self ..), forall_map f g l (fun x hx => h x (List.mem_cons_of_mem _ hx))⟩
theorem lx_pair (p : Pr) (h : prOk p) : Lx1 (pairT p) (pairA p) := by
  intro y hy
  unfold pairT pairA
  rw [List.append_assoc, List.cons_append, lex_num p.1 _ h.1 (delim_c 32 _ (by simp)), lex_blank, lex_num p.2 y h.2 hy]; rfl
theorem lx_pairs (l : List Pr) (h : lsOk l) : Lx1 (pairsT l) (pairsA l) := lx_joined _ _ (forall_map _ _ l fun p hp => lx_pair p (h p hp))
theorem lx_lists (l : List (List Pr)) (h : ∀ x ∈ l, lsOk x) : Lx1 (listsT l) (listsA l) := lx_joined _ _ (forall_map _ _ l fun x hx => lx_pairs x (h x hx))
theorem parts_mem : ∀ (ss : List Nat) (ls : List (List Pr)) (p : List (List Pr)), p ∈ parts ss ls → ∀ x ∈ p, x ∈ ls
  | [], _, p, h => by cases h
  | n :: r, ls, p, h => by
    unfold parts at h
    intro x hx
    rcases List.mem_cons.1 h with rfl | h
    · exact List.mem_of_mem_take hx
    · exact List.mem_of_mem_drop (parts_mem r (ls.drop n) p h x hx)
theorem lx_body (g : Geo) (h : OneG g) : Lx1 (bodyT g) (bodyA g) := by
  have hl := h.2.2.1
  unfold bodyT bodyA
  split
  · cases hg : g.lists with
    | nil => exact lx_emp
    | cons x r => exact lx_pairs x (hl x (by rw [hg]; exact List.mem_cons_self ..))
  · split
    · exact lx_joined _ _ (forall_map _ _ _ fun p hp => lx_lists p fun x hx => hl x (parts_mem _ _ p hp x hx))
    · exact lx_lists _ hl
theorem nm_letters (k : Nat) (h : 1 ≤ k ∧ k ≤ 7) : nm k ≠ [] ∧ (nm k).all letter = true ∧ kind (nm k) = k := by
  have : ∀ j : Fin 8, 1 ≤ j.1 → nm j.1 ≠ [] ∧ (nm j.1).all letter = true ∧ kind (nm j.1) = j.1 := by decide
  exact this ⟨k, by omega⟩ h.1
theorem lex_rep : ∀ (n : Nat) (y : Str), lexA (List.replicate n 41 ++ y) = List.replicate n rp ++ lexA y
  | 0, y => rfl
  | n + 1, y => by
    rw [List.replicate_succ, List.cons_append, lex_single 41 4 (by simp), lex_rep n y, List.replicate_succ]; rfl
theorem delim_text : ∀ (a : Nat) (l : List Geo), delim (textF (.some a) l)
  | 0, [] => fun c r e => by cases e
  | a + 1, [] => delim_c 41 _ (by simp)
  | a, g :: r => by
    rw [textF_cons]
    unfold sep
    simp only
    split
    · exact delim_c 40 _ (by simp)
    · cases h : a - g.level with
      | zero => exact delim_c 44 _ (by simp)
      | succ n => exact delim_c 41 _ (by simp)
theorem lex_sep (a : Option Nat) (lev : Nat) (y : Str) : lexA (sep a lev ++ y) = sepA a lev ++ lexA y := by
  unfold sep sepA
  cases a with
  | none => rfl
  | some a =>
    simp only
    split
    · exact lex_single 40 3 (by simp) y
    · rw [List.append_assoc, lex_rep]
      show _ ++ lexA (44 :: 32 :: y) = _
      rw [lex_single 44 5 (by simp), lex_blank]
      simp [cm]
theorem lex_text : ∀ (l : List Geo) (a : Option Nat), (∀ g ∈ l, OneG g) → lexA (textF a l) = textA a l
  | [], .none, _ => rfl
  | [], .some a, _ => by have := lex_rep a []; simp only [List.append_nil, lexA_nil] at this; exact this
  | g :: r, a, h => by
    have hg := h g (List.mem_cons_self ..)
    have hn := nm_letters g.kind ⟨hg.1, hg.2.1⟩
    rw [textF_cons, textA_cons, lex_sep]
    congr 1
    unfold after afterA
    rw [lex_word _ _ hn.1 hn.2.1 (delim_c 32 _ (by simp)), lex_blank]
    congr 1
    have ih := lex_text r (.some g.level) (fun x hx => h x (List.mem_cons_of_mem _ hx))
    by_cases ht : told g r = true
    · rw [if_pos ht, if_pos ht, lx_body g hg _ (delim_text _ _), ih]
    · rw [if_neg ht, if_neg ht, List.nil_append, List.nil_append, ih]
end Go.Proofs.Ytegkdkilbnighaa.Wk

set_option linter.unusedVariables false
set_option linter.unusedSimpArgs false
namespace Go.Proofs.Ytegkdkilbnighaa.Wk
open Go Lx

/-- the machine on tokens without places: it takes all of them, or not -/
def mrun : MS → List AT → Option MS
  | z, [] => some z
  | z, t :: r => match step z t.1 t.2 with
    | .none => .none
    | .some z' => mrun z' r
theorem mrun_cons {z z' : MS} {t : AT} {r : List AT} (h : step z t.1 t.2 = some z') : mrun z (t :: r) = mrun z' r := by
  conv => lhs; unfold mrun
  rw [h]
theorem run_mrun {s : Str} : ∀ (l : List Tok) (z z' : MS), mrun z (l.map fun t => (t.kind, txt s t)) = some z' → run s z l = (z', [])
  | [], z, z', h => by cases h; rfl
  | t :: r, z, z', h => by
    rw [List.map_cons] at h
    unfold mrun at h
    unfold run
    cases hs : step z t.kind (txt s t) with
    | none => simp only [hs] at h; cases h
    | some z2 => simp only [hs] at h; exact run_mrun r z2 z' h

section
variable {lev : Nat} {o : List RGeo} {k : Nat} {ps : List Str} {cs ss : List Nat}
theorem emp_is : isEmpty 1 emptyWord = true := by decide
theorem lp_not : isEmpty 3 [40] = false := by decide
/-- pairs, behind the bracket that opens them -/
theorem mr_pairs (hd : ¬ (deeper k = 1 ∨ deeper k = 4)) : ∀ (l : List Pr) (n : Nat) (ps : List Str) (r : List AT), l ≠ [] →
    mrun (gz lev o k 3 ps (cs ++ [n]) ss) (joinA (l.map pairA) ++ rp :: r) = mrun (gz lev o k (if deeper k = 1 ∨ deeper k = 2 then 10 else 7) (ps ++ flat l) (cs ++ [n + l.length]) ss) r
  | [], _, _, _, h => absurd rfl h
  | [p], n, ps, r, _ => by
    show mrun _ ((2, p.1) :: (2, p.2) :: rp :: r) = _
    rw [mrun_cons (z' := gz lev o k 4 (ps ++ [p.1]) (cs ++ [n]) ss) (by rw [step3, if_pos rfl]), mrun_cons (z' := gz lev o k 5 (ps ++ [p.1] ++ [p.2]) (cs ++ [n + 1]) ss) (by rw [step4, if_pos rfl, if_neg hd]),
      mrun_cons (z' := gz lev o k (if deeper k = 1 ∨ deeper k = 2 then 10 else 7) (ps ++ [p.1] ++ [p.2]) (cs ++ [n + 1]) ss) (by rw [step5]; rfl)]
    simp [flat]
  | p :: q :: l, n, ps, r, _ => by
    have ih := mr_pairs hd (q :: l) (n + 1) (ps ++ [p.1] ++ [p.2]) r (by simp)
    show mrun _ ((2, p.1) :: (2, p.2) :: cm :: (joinA ((q :: l).map pairA) ++ rp :: r)) = _
    rw [mrun_cons (z' := gz lev o k 4 (ps ++ [p.1]) (cs ++ [n]) ss) (by rw [step3, if_pos rfl]), mrun_cons (z' := gz lev o k 5 (ps ++ [p.1] ++ [p.2]) (cs ++ [n + 1]) ss) (by rw [step4, if_pos rfl, if_neg hd]),
      mrun_cons (z' := gz lev o k 3 (ps ++ [p.1] ++ [p.2]) (cs ++ [n + 1]) ss) (by rw [step5]; rfl), ih]
    have e1 : ps ++ [p.1] ++ [p.2] ++ flat (q :: l) = ps ++ flat (p :: q :: l) := by simp [flat]
    have e2 : n + 1 + (q :: l).length = n + (p :: q :: l).length := by simp; omega
    rw [e1, e2]
/-- one pair alone -/
theorem mr_point (hd : deeper k = 1 ∨ deeper k = 4) (p : Pr) (n : Nat) (r : List AT) :
    mrun (gz lev o k 3 ps (cs ++ [n]) ss) (joinA ([p].map pairA) ++ rp :: r) = mrun (gz lev o k (if deeper k = 1 ∨ deeper k = 2 then 10 else 7) (ps ++ flat [p]) (cs ++ [n + 1]) ss) r := by
  show mrun _ ((2, p.1) :: (2, p.2) :: rp :: r) = _
  rw [mrun_cons (z' := gz lev o k 4 (ps ++ [p.1]) (cs ++ [n]) ss) (by rw [step3, if_pos rfl]), mrun_cons (z' := gz lev o k 12 (ps ++ [p.1] ++ [p.2]) (cs ++ [n + 1]) ss) (by rw [step4, if_pos rfl, if_pos hd]),
    mrun_cons (z' := gz lev o k (if deeper k = 1 ∨ deeper k = 2 then 10 else 7) (ps ++ [p.1] ++ [p.2]) (cs ++ [n + 1]) ss) (by rw [step12]; rfl)]
  simp [flat]
/-- pairs or one pair, as the kind asks -/
theorem mr_some (l : List Pr) (h : l ≠ []) (hd : deeper k = 1 ∨ deeper k = 4 → l.length ≤ 1) (ps : List Str) (cs ss : List Nat) (r : List AT) :
    mrun (gz lev o k 3 ps (cs ++ [0]) ss) (joinA (l.map pairA) ++ rp :: r) = mrun (gz lev o k (if deeper k = 1 ∨ deeper k = 2 then 10 else 7) (ps ++ flat l) (cs ++ [l.length]) ss) r := by
  by_cases hk : deeper k = 1 ∨ deeper k = 4
  · have h1 := hd hk
    match l, h, h1 with
    | [p], _, _ => have := mr_point (lev := lev) (o := o) (ps := ps) (cs := cs) (ss := ss) hk p 0 r; simpa using this
    | p :: q :: l, _, h1 => simp at h1
  · have := mr_pairs (lev := lev) (o := o) (cs := cs) (ss := ss) hk l 0 ps r h
    rw [Nat.zero_add] at this; exact this
/-- a list of pairs, where one may stand -/
theorem mr_list (a : Nat) (ha : a = 6 ∨ a = 11) (hk : deeper k = 3 ∨ deeper k = 4 ∨ deeper k = 5) (l : List Pr) (hd : deeper k = 1 ∨ deeper k = 4 → l.length ≤ 1) (ps : List Str) (cs ss : List Nat) (r : List AT) :
    mrun (gz lev o k a ps cs ss) (pairsA l ++ r) = mrun (gz lev o k 7 (ps ++ flat l) (cs ++ [l.length]) (if deeper k = 5 then bump ss else ss)) r := by
  have hk7 : ¬ (deeper k = 1 ∨ deeper k = 2) := by omega
  unfold pairsA joinedA
  cases l with
  | nil =>
    rw [List.map_nil, if_pos rfl]
    show mrun _ (emp :: r) = _
    rw [mrun_cons (z' := gz lev o k 7 ps (cs ++ [0]) (if deeper k = 5 then bump ss else ss)) (by rw [step6 a ha]; exact if_pos emp_is)]
    simp [flat]
  | cons p l =>
    rw [List.map_cons, if_neg (by simp), ← List.map_cons]
    show mrun _ (lp :: (joinA ((p :: l).map pairA) ++ [rp] ++ r)) = _
    rw [mrun_cons (z' := gz lev o k 3 ps (cs ++ [0]) (if deeper k = 5 then bump ss else ss)) (by rw [step6 a ha, show isEmpty lp.1 lp.2 = false from lp_not]; rfl), List.append_assoc]
    have := mr_some (lev := lev) (o := o) (k := k) (p :: l) (by simp) hd ps cs (if deeper k = 5 then bump ss else ss) r
    rw [if_neg hk7] at this
    exact this
def bumps : Nat → List Nat → List Nat
  | 0, ss => ss
  | n + 1, ss => bumps n (bump ss)
/-- lists, behind the bracket that opens them -/
theorem mr_lists (hk : deeper k = 3 ∨ deeper k = 4 ∨ deeper k = 5) : ∀ (ls : List (List Pr)) (ps : List Str) (cs ss : List Nat) (r : List AT), ls ≠ [] → (∀ l ∈ ls, deeper k = 1 ∨ deeper k = 4 → l.length ≤ 1) →
    mrun (gz lev o k (again (deeper k)) ps cs ss) (joinA (ls.map pairsA) ++ rp :: r) = mrun (gz lev o k (if deeper k = 5 then 9 else 10) (ps ++ flat ls.flatten) (cs ++ ls.map List.length) (if deeper k = 5 then bumps ls.length ss else ss)) r := by
  have ha : again (deeper k) = 6 ∨ again (deeper k) = 11 := by unfold again; rcases hk with h | h | h <;> rw [h] <;> simp
  intro ls
  induction ls with
  | nil => intro ps cs ss r h; exact absurd rfl h
  | cons l ls ih =>
    intro ps cs ss r _ hl
    have h1 := hl l (List.mem_cons_self ..)
    cases ls with
    | nil =>
      show mrun _ (pairsA l ++ rp :: r) = _
      rw [mr_list _ ha hk l h1, mrun_cons (z' := gz lev o k (if deeper k = 5 then 9 else 10) (ps ++ flat l) (cs ++ [l.length]) (if deeper k = 5 then bump ss else ss)) (by rw [step7]; rfl)]
      simp [bumps]
    | cons l2 ls =>
      have ih2 := ih (ps ++ flat l) (cs ++ [l.length]) (if deeper k = 5 then bump ss else ss) r (by simp) (fun x hx => hl x (List.mem_cons_of_mem _ hx))
      rw [List.map_cons, joinA_cons _ _ (by simp), List.append_assoc, mr_list _ ha hk l h1]
      show mrun _ (cm :: (joinA ((l2 :: ls).map pairsA) ++ rp :: r)) = _
      rw [mrun_cons (z' := gz lev o k (again (deeper k)) (ps ++ flat l) (cs ++ [l.length]) (if deeper k = 5 then bump ss else ss)) (by rw [step7]; rfl), ih2]
      have e1 : ps ++ flat l ++ flat (l2 :: ls).flatten = ps ++ flat (l :: l2 :: ls).flatten := by rw [List.flatten_cons (l := l), flat_append, List.append_assoc]
      have e2 : cs ++ [l.length] ++ (l2 :: ls).map List.length = cs ++ (l :: l2 :: ls).map List.length := by simp
      rw [e1, e2]
      by_cases h5 : deeper k = 5
      · simp only [if_pos h5, List.length_cons, bumps]
      · simp only [if_neg h5]
theorem bumps_snoc (ss : List Nat) : ∀ n m, bumps n (ss ++ [m]) = ss ++ [m + n]
  | 0, m => by simp [bumps]
  | n + 1, m => by unfold bumps; rw [bump_snoc, bumps_snoc ss n (m + 1)]; congr 2; omega
/-- a polygon of many -/
theorem mr_poly (hk : deeper k = 5) (p : List (List Pr)) (ps : List Str) (cs ss : List Nat) (r : List AT) :
    mrun (gz lev o k 8 ps cs ss) (listsA p ++ r) = mrun (gz lev o k 9 (ps ++ flat p.flatten) (cs ++ p.map List.length) (ss ++ [p.length])) r := by
  unfold listsA joinedA
  cases p with
  | nil =>
    rw [List.map_nil, if_pos rfl]
    show mrun _ (emp :: r) = _
    rw [mrun_cons (z' := gz lev o k 9 ps cs (ss ++ [0])) (by rw [step8]; exact if_pos emp_is)]
    simp [flat]
  | cons l p =>
    rw [List.map_cons, if_neg (by simp), ← List.map_cons]
    show mrun _ (lp :: (joinA ((l :: p).map pairsA) ++ [rp] ++ r)) = _
    rw [mrun_cons (z' := gz lev o k 6 ps cs (ss ++ [0])) (by rw [step8, show isEmpty lp.1 lp.2 = false from lp_not]; rfl), List.append_assoc]
    have := mr_lists (lev := lev) (o := o) (k := k) (.inr (.inr hk)) (l :: p) ps cs (ss ++ [0]) r (by simp) (fun x _ h => by omega)
    rw [if_pos hk, if_pos hk, bumps_snoc, Nat.zero_add, hk] at this
    exact this
theorem mr_polys (hk : deeper k = 5) : ∀ (pp : List (List (List Pr))) (ps : List Str) (cs ss : List Nat) (r : List AT), pp ≠ [] →
    mrun (gz lev o k 8 ps cs ss) (joinA (pp.map listsA) ++ rp :: r) = mrun (gz lev o k 10 (ps ++ flat pp.flatten.flatten) (cs ++ pp.flatten.map List.length) (ss ++ pp.map List.length)) r := by
  intro pp
  induction pp with
  | nil => intro ps cs ss r h; exact absurd rfl h
  | cons p pp ih =>
    intro ps cs ss r _
    cases pp with
    | nil =>
      show mrun _ (listsA p ++ rp :: r) = _
      rw [mr_poly hk, mrun_cons (z' := gz lev o k 10 (ps ++ flat p.flatten) (cs ++ p.map List.length) (ss ++ [p.length])) (by rw [step9]; rfl)]
      simp
    | cons p2 pp =>
      have ih2 := ih (ps ++ flat p.flatten) (cs ++ p.map List.length) (ss ++ [p.length]) r (by simp)
      rw [List.map_cons, joinA_cons _ _ (by simp), List.append_assoc, mr_poly hk]
      show mrun _ (cm :: (joinA ((p2 :: pp).map listsA) ++ rp :: r)) = _
      rw [mrun_cons (z' := gz lev o k 8 (ps ++ flat p.flatten) (cs ++ p.map List.length) (ss ++ [p.length])) (by rw [step9]; rfl), ih2]
      have e1 : ps ++ flat p.flatten ++ flat (p2 :: pp).flatten.flatten = ps ++ flat (p :: p2 :: pp).flatten.flatten := by rw [List.flatten_cons (l := p), List.flatten_append, flat_append, List.append_assoc]
      have e2 : cs ++ p.map List.length ++ (p2 :: pp).flatten.map List.length = cs ++ (p :: p2 :: pp).flatten.map List.length := by rw [List.flatten_cons (l := p), List.map_append, List.append_assoc]
      have e3 : ss ++ [p.length] ++ (p2 :: pp).map List.length = ss ++ (p :: p2 :: pp).map List.length := by simp
      rw [e1, e2, e3]
end
theorem parts_flat {A : Type} : ∀ (ss : List Nat) (ls : List A), ss.sum = ls.length → (parts ss ls).flatten = ls ∧ (parts ss ls).map List.length = ss
  | [], ls, h => by
    have : ls = [] := List.eq_nil_of_length_eq_zero (by simpa using h.symm)
    subst this; exact ⟨rfl, rfl⟩
  | n :: r, ls, h => by
    simp only [List.sum_cons] at h
    obtain ⟨h1, h2⟩ := parts_flat r (ls.drop n) (by rw [List.length_drop]; omega)
    unfold parts
    refine ⟨by rw [List.flatten_cons, h1, List.take_append_drop], ?_⟩
    rw [List.map_cons, h2, List.length_take]
    congr 1; omega
/-- a geometry's body, behind its word -/
theorem mr_body (g : Geo) (h : OneG g) (lev : Nat) (o : List RGeo) (r : List AT) :
    mrun (gz lev o g.kind 2 [] [] []) (bodyA g ++ r) = mrun (gz lev o g.kind 10 (flat g.lists.flatten) (g.lists.map List.length) g.sizes) r := by
  obtain ⟨h1, h2, h3, h4, h5, h6, h7, h8, h9⟩ := h
  have hemp : ∀ r, mrun (gz lev o g.kind 2 [] [] []) (emp :: r) = mrun (gz lev o g.kind 10 [] [] []) r := fun r => mrun_cons (step2e emp.1 emp.2 emp_is)
  have hopen : ∀ r, g.kind ≠ 7 → mrun (gz lev o g.kind 2 [] [] []) (lp :: r) = mrun (gz lev o g.kind (mnext (deeper g.kind)) [] (if deeper g.kind ≤ 2 then [] ++ [0] else []) []) r := fun r hk => mrun_cons (by rw [step2 hk lp.1 lp.2 lp_not]; rfl)
  by_cases e6 : g.kind = 6
  · have hd : deeper g.kind = 5 := by rw [e6]; rfl
    obtain ⟨q1, q2⟩ := parts_flat g.sizes g.lists (h7 e6)
    have hb : bodyA g = joinedA ((parts g.sizes g.lists).map listsA) := by unfold bodyA; rw [e6]; rfl
    rw [hb]
    unfold joinedA
    cases hp : parts g.sizes g.lists with
    | nil =>
      rw [hp] at q1 q2
      rw [List.map_nil, if_pos rfl, ← q2, ← q1]
      exact hemp r
    | cons p pp =>
      rw [List.map_cons, if_neg (by simp), ← List.map_cons]
      show mrun _ (lp :: (joinA ((p :: pp).map listsA) ++ [rp] ++ r)) = _
      rw [hopen _ (by omega), hd, if_neg (by decide), List.append_assoc, show mnext 5 = 8 from rfl]
      have := mr_polys (lev := lev) (o := o) hd (p :: pp) [] [] [] r (by simp)
      rw [← hp, q1, q2] at this
      rw [← hp]
      simpa using this
  by_cases e7 : g.kind = 7
  · have hl := (h9 e7).1
    have hb : bodyA g = [emp] := by unfold bodyA listsA; rw [e7, hl]; rfl
    rw [hb, h8 e6, hl]
    exact hemp r
  by_cases e12 : g.kind = 1 ∨ g.kind = 2
  · have hd : deeper g.kind = 1 ∨ deeper g.kind = 2 := by rcases e12 with e | e <;> rw [e] <;> simp [deeper]
    have hb : bodyA g = match g.lists with | [] => [emp] | x :: _ => pairsA x := by unfold bodyA; exact if_pos e12
    have hcase : g.lists = [] ∨ ∃ l, g.lists = [l] ∧ l ≠ [] ∧ (deeper g.kind = 1 ∨ deeper g.kind = 4 → l.length ≤ 1) := by
      rcases e12 with e | e
      · rcases h4 e with h | ⟨p, h⟩
        · exact .inl h
        · exact .inr ⟨[p], h, by simp, fun _ => by simp⟩
      · rcases h5 e with h | ⟨l, h, hl⟩
        · exact .inl h
        · exact .inr ⟨l, h, hl, fun hx => by rw [e] at hx; simp [deeper] at hx⟩
    rw [hb, h8 e6]
    rcases hcase with h | ⟨l, h, hl, hd1⟩
    · rw [h]; exact hemp r
    · rw [h]
      simp only
      unfold pairsA joinedA
      rw [if_neg (by simpa using hl)]
      show mrun _ (lp :: (joinA (l.map pairA) ++ [rp] ++ r)) = _
      have hm : mnext (deeper g.kind) = 3 := by rcases hd with e | e <;> rw [e] <;> rfl
      rw [hopen _ e7, hm, if_pos (by omega), List.append_assoc]
      have := mr_some (lev := lev) (o := o) (k := g.kind) l hl hd1 [] [] [] r
      rw [if_pos hd] at this
      simpa using this
  · have hk : g.kind = 3 ∨ g.kind = 4 ∨ g.kind = 5 := by omega
    have hd : deeper g.kind = 3 ∨ deeper g.kind = 4 := by rcases hk with e | e | e <;> rw [e] <;> simp [deeper]
    have hb : bodyA g = listsA g.lists := by unfold bodyA; rw [if_neg e12, if_neg e6]
    rw [hb, h8 e6]
    unfold listsA joinedA
    cases hg : g.lists with
    | nil => rw [List.map_nil, if_pos rfl]; exact hemp r
    | cons l ls =>
      rw [List.map_cons, if_neg (by simp), ← List.map_cons]
      show mrun _ (lp :: (joinA ((l :: ls).map pairsA) ++ [rp] ++ r)) = _
      have hm : mnext (deeper g.kind) = again (deeper g.kind) := by rcases hd with e | e <;> rw [e] <;> rfl
      rw [hopen _ e7, hm, if_neg (by omega), List.append_assoc]
      have := mr_lists (lev := lev) (o := o) (k := g.kind) (by omega) (l :: ls) [] [] [] r (by simp) (fun x hx hh => by
        rcases hh with hh | hh
        · omega
        · have e4 : g.kind = 4 := by rcases hk with e | e | e <;> rw [e] at hh <;> simp [deeper] at hh; exact e
          exact h6 e4 x (by rw [hg]; exact hx))
      rw [if_neg (by omega), if_neg (by omega)] at this
      simpa using this
theorem mr_close (o : List RGeo) (r : List AT) : ∀ n lev, mrun ⟨10, lev + n, o⟩ (List.replicate n rp ++ r) = mrun ⟨10, lev, o⟩ r
  | 0, lev => rfl
  | n + 1, lev => by
    rw [List.replicate_succ, List.cons_append, show lev + (n + 1) = (lev + n) + 1 from by omega, mrun_cons (z' := ⟨10, lev + n, o⟩) (by rw [step10]; rfl)]
    exact mr_close o r n lev
/-- the whole of what is left -/
theorem mr_after : ∀ (r : List Geo) (g : Geo) (o : List RGeo), (∀ x ∈ g :: r, OneG x) → Lev (g :: r) → (∀ x ∈ r, 1 ≤ x.level) → mrun ⟨1, g.level, o⟩ (afterA g r) = some ⟨10, 0, o ++ (g :: r).map toR⟩ := by
  intro r
  induction r with
  | nil =>
    intro g o h hl hp
    have hg := h g (List.mem_cons_self ..)
    have hn := nm_letters g.kind ⟨hg.1, hg.2.1⟩
    unfold afterA
    rw [mrun_cons (z' := gz g.level o g.kind 2 [] [] []) (by
      rw [step1, hn.2.2, if_neg]
      intro e
      rcases e with e | e | ⟨e, e2⟩
      · exact e rfl
      · have := hg.1; omega
      · have := (hg.2.2.2.2.2.2.2.2 e).2; omega)]
    rw [if_pos (by unfold told; simp), mr_body g hg]
    have := mr_close (o ++ [toR g]) [] g.level 0
    rw [Nat.zero_add, List.append_nil] at this
    exact this
  | cons x q ih =>
    intro g o h hl hp
    have hg := h g (List.mem_cons_self ..)
    have hn := nm_letters g.kind ⟨hg.1, hg.2.1⟩
    have hx := hp x (List.mem_cons_self ..)
    have hlv := hl.1
    have ih2 := ih x (o ++ [toR g]) (fun y hy => h y (List.mem_cons_of_mem _ hy)) hl.2 (fun y hy => hp y (List.mem_cons_of_mem _ hy))
    unfold afterA
    rw [mrun_cons (z' := gz g.level o g.kind 2 [] [] []) (by
      rw [step1, hn.2.2, if_neg]
      intro e
      rcases e with e | e | ⟨e, e2⟩
      · exact e rfl
      · have := hg.1; omega
      · have := (hg.2.2.2.2.2.2.2.2 e).2; omega), textA_cons]
    by_cases ht : told g (x :: q) = true
    · have hle : x.level ≤ g.level := by
        unfold told at ht
        simp at ht
        rcases ht with h7 | h7
        · rw [if_neg h7] at hlv; exact hlv
        · exact h7
      rw [if_pos ht, mr_body g hg]
      unfold sepA
      simp only
      rw [if_neg (by omega), List.append_assoc]
      obtain ⟨d, hd⟩ : ∃ d, g.level = x.level + d := ⟨g.level - x.level, by omega⟩
      obtain ⟨xl, hxl⟩ : ∃ xl, x.level = xl + 1 := ⟨x.level - 1, by omega⟩
      have e1 : gz g.level o g.kind 10 (flat g.lists.flatten) (g.lists.map List.length) g.sizes = ⟨10, x.level + d, o ++ [toR g]⟩ := by unfold gz toR; rw [hd]
      rw [e1, show g.level - x.level = d from by omega, mr_close]
      show mrun _ (cm :: afterA x q) = _
      rw [hxl, mrun_cons (z' := ⟨1, xl + 1, o ++ [toR g]⟩) (by rw [step10]; rfl), ← hxl, ih2]
      simp
    · have h7 : g.kind = 7 ∧ g.level < x.level := by
        unfold told at ht
        simp at ht
        exact ht
      rw [if_pos h7.1] at hlv
      have hxe : x.level = g.level + 1 := by omega
      rw [if_neg ht, List.nil_append]
      unfold sepA
      simp only
      rw [if_pos h7.2]
      show mrun _ (lp :: afterA x q) = _
      have hl0 := (hg.2.2.2.2.2.2.2.2 h7.1).1
      have hs0 := hg.2.2.2.2.2.2.2.1 (by omega)
      rw [h7.1, mrun_cons (z' := ⟨1, g.level + 1, o ++ [⟨7, g.level, [], [], []⟩]⟩) (by rw [step27 _ _ lp.1 lp.2 lp_not]; rfl)]
      have e2 : toR g = ⟨7, g.level, [], [], []⟩ := by unfold toR; rw [h7.1, hl0, hs0]; rfl
      rw [← e2, ← hxe, ih2]
      simp

theorem flat_inj : ∀ (a b : List Pr), flat a = flat b → a = b
  | [], [], _ => rfl
  | [], q :: b, h => by simp [flat] at h
  | p :: a, [], h => by simp [flat] at h
  | p :: a, q :: b, h => by
    have h' : p.1 :: p.2 :: flat a = q.1 :: q.2 :: flat b := h
    simp only [List.cons.injEq] at h'
    obtain ⟨h1, h2, h3⟩ := h'
    rw [flat_inj a b h3, Prod.ext h1 h2]
theorem lists_inj : ∀ (a b : List (List Pr)), a.map List.length = b.map List.length → a.flatten = b.flatten → a = b
  | [], [], _, _ => rfl
  | [], y :: b, h, _ => by simp at h
  | x :: a, [], h, _ => by simp at h
  | x :: a, y :: b, h, h2 => by
    simp only [List.map_cons, List.cons.injEq, List.flatten_cons] at h h2
    obtain ⟨e1, e2⟩ := List.append_inj h2 h.1
    rw [e1, lists_inj a b h.2 e2]
theorem toR_inj (a b : Geo) (h : toR a = toR b) : a = b := by
  obtain ⟨k, l, ls, ss⟩ := a
  obtain ⟨k', l', ls', ss'⟩ := b
  unfold toR at h
  simp only [RGeo.mk.injEq] at h
  obtain ⟨h1, h2, h3, h4, h5⟩ := h
  rw [h1, h2, h5, lists_inj ls ls' h4 (flat_inj _ _ h3)]
theorem map_toR_inj : ∀ (a b : List Geo), a.map toR = b.map toR → a = b
  | [], [], _ => rfl
  | [], y :: b, h => by simp at h
  | x :: a, [], h => by simp at h
  | x :: a, y :: b, h => by
    simp only [List.map_cons, List.cons.injEq] at h
    rw [toR_inj x y h.1, map_toR_inj a b h.2]

/-- what is written is read as it was -/
theorem parse_write (gs : List Geo) (hR : RightG gs) : parse (write gs) = .ok gs := by
  have hl : lexA (write gs) = textA .none gs := lex_text gs .none hR.1
  have hsc := scan_lex ⟨(write gs).toArray⟩
  have hsc' : (scan (write gs)).map (fun t => (t.kind, txt (write gs) t)) = textA .none gs := by rw [← hl]; exact hsc
  have hm : mrun ⟨1, 0, []⟩ (textA .none gs) = some ⟨10, 0, gs.map toR⟩ := by
    cases gs with
    | nil => exact absurd hR.2.2 (by simp [Top])
    | cons g r =>
      obtain ⟨h0, h1⟩ := hR.2.2
      have := mr_after r g [] hR.1 hR.2.1 h1
      rw [h0] at this
      rw [textA_cons]; exact this
  have hk : ∀ u ∈ scan (write gs), u.kind ≠ 0 := by
    intro u hu e
    have hmem : (u.kind, txt (write gs) u) ∈ textA .none gs := by rw [← hsc']; exact List.mem_map_of_mem hu
    rw [e] at hmem
    have : ∀ (l : List AT) (z : MS), (∃ x, (0, x) ∈ l) → mrun z l = .none := by
      intro l
      induction l with
      | nil => intro z ⟨x, hx⟩; cases hx
      | cons t l ih =>
        intro z ⟨x, hx⟩
        unfold mrun
        cases hs : step z t.1 t.2 with
        | none => rfl
        | some z' =>
          simp only
          rcases List.mem_cons.1 hx with rfl | hx
          · exfalso
            simp only at hs
            have : step z 0 x = .none := by
              unfold step mbody behind isEmpty
              repeat' split
              all_goals first | rfl | (simp at *; done) | omega | (simp_all; done)
            rw [this] at hs; cases hs
          · exact ih z' ⟨x, hx⟩
    rw [this _ _ ⟨_, hmem⟩] at hm
    cases hm
  have ht : toks (write gs) = scan (write gs) := toks_all hk
  have hb : badAt (scan (write gs)) = .none := badAt_none hk
  have hrun : run (write gs) ⟨1, 0, []⟩ (toks (write gs)) = (⟨10, 0, gs.map toR⟩, []) := by
    rw [ht]; exact run_mrun _ _ _ (by rw [hsc']; exact hm)
  rcases parse_cases (write gs) with ⟨t, r, h1, h2⟩ | ⟨h1, k, h2, h3⟩ | ⟨h1, h2, h3, h4⟩ | ⟨gs', h1, h2, h3⟩
  · rw [hrun] at h1; cases h1
  · rw [hb] at h2; cases h2
  · rw [hrun] at h3; exact absurd ⟨rfl, rfl⟩ h3
  · rw [hrun] at h1
    simp only [Prod.mk.injEq, MS.mk.injEq] at h1
    rw [h3, map_toR_inj gs gs' h1.1.2.2]
end Go.Proofs.Ytegkdkilbnighaa.Wk
