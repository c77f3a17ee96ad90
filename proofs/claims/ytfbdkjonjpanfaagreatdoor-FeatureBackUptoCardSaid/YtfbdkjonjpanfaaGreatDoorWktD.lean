import Derived.Test.YtfbdkjonjpanfaaGreatDoorWktC
set_option linter.unusedVariables false
set_option linter.unusedSimpArgs false
namespace Go.Proofs.YtfbdkjonjpanfaaGreatDoor
open Go.RowKit Go.Rg

theorem kept_mv {R B : Nat} {S : Nat → Prop} {X Y : World} (h : Mv R B X Y) (hS : ∀ k, S k → k < B) (hR : ¬ S R) : Kept S X Y := ⟨h.os, h.tape, h.output, h.size, fun k hk => h.low k (fun e => hR (e ▸ hk)) (hS k hk)⟩

/-- the loop over r.each(), at an activation's own level -/
theorem wp_each {g : Operand} {p0 : Tmp} {assign body : Code} {Q : Exit → Act → World → Prop} {a : Act} {w : World} {gf : Nat} {lb : Array Value} {R : Nat} {s : ByteArray} {z0 : Wk.St}
    (hg : a.eval g = .func (.func gf) #[] lb) (eg : ∀ args w, (callFunc gf args).run Tryz.prog w = .ok (.enter gf args) w)
    {S : Nat → Prop} {w0 : World} (hseq : EachI R s gf lb S w0) (hw0 : Kept S w0 w) (hS : ∀ k, S k → k < w.heap.size) (hSR : ¬ S R) (hz0 : Rd w R s z0) (hle : z0.l.length ≤ 1000000)
    (I Im Je : Wk.St → World → Prop) (hIm : ∀ z X Y, Im z X → Mv R w.heap.size X Y → Im z Y) (hJe : ∀ z X Y, Je z X → Mv R w.heap.size X Y → Je z Y)
    (h0 : ∀ Y, Mv R w.heap.size w Y → I (Wk.take s.data.toList z0 3).1 Y)
    (hc : ∀ z X Y, Im z X → Wk.peek z 5 = true → Mv R w.heap.size X Y → I (Wk.take s.data.toList z 5).1 Y)
    (hd : ∀ z X Y, Im z X → Wk.peek z 5 = false → Mv R w.heap.size X Y → Je (Wk.take s.data.toList z 4).1 Y)
    (hb : ∀ z X, I z X → z.bad = true → Je z X)
    (hround : ∀ (l k : Nat) (z : Wk.St) (W : World), w.heap.size < l → l < W.heap.size → Kept S w W → Rd W R s z → z.bad = false → I z W →
      assign.wpIn (WF (some l)) 0 Tryz.prog (Exit.then (fun a' Wa => Eff w.heap.size S W Wa ∧ ∀ Wb, Ext w.heap.size Wa Wb → Kept S Wa Wb → Wb.heap.size = Wa.heap.size → (∃ r, Wb.heap[l]? = some (.loop r)) → body.wpIn (WF (some l)) 0 Tryz.prog (roundEnd w.heap.size S (fun X => ∃ z', z'.l.length ≤ z.l.length ∧ Rd X R s z' ∧ Im z' X) (fun _ _ => False) Wb) a' Wb) (fun _ _ _ => False))
        { tmps := a.tmps.setIfInBounds p0 (.int .i64 k), defers := [] } W)
    (hdone : ∀ (z : Wk.St) (W : World), Kept S w W → w.heap.size < W.heap.size → Rd W R s z → Je z W → W.heap[w.heap.size]? = some (.deferred (some [])) → Q .normal { a with defers := { target := .collected w.heap.size, args := #[] } :: a.defers } W) :
    (Code.rangeFunc g #[p0] assign body).wpIn (WF none) 0 Tryz.prog Q a w := by
  refine wpIn_rangeFunc ?_
  intro fn hfn
  obtain ⟨rec, hrec⟩ : ∃ rec : Loop, rec = { state := .ready, pending := none, fn, tmps := a.tmps, params := #[p0], assign, body, defers := w.heap.size } := ⟨_, rfl⟩
  obtain ⟨W1, hW1⟩ : ∃ W1, (w.alloc (.deferred (some []))).alloc (.loop rec) = W1 := ⟨_, rfl⟩
  have hsz : W1.heap.size = w.heap.size + 2 := by rw [← hW1]; simp
  have hL1 : W1.heap[w.heap.size + 1]? = some (.loop rec) := by
    rw [← hW1]; have := World.alloc_heap_new (w.alloc (.deferred (some []))) (.loop rec); rwa [World.size_alloc] at this
  have hK1 : W1.heap[w.heap.size]? = some (.deferred (some [])) := by
    rw [← hW1]; exact (Below.heap_alloc _ _ _ (by simp)).trans (World.alloc_heap_new w _)
  have hb1 : Below w.heap.size w W1 := by rw [← hW1]; exact ((Below.refl _ w).alloc (Nat.le_refl _) _).alloc (by simp) _
  have hk1 : Kept S w W1 := (Kept.of_below hb1).mono hS
  have hR := hz0.lt
  have hput : ∀ (W : World) (o : Obj), Kept S W (W.putObj (w.heap.size + 1) o) := fun W o => ⟨rfl, rfl, rfl, by simp, fun k hk => World.putObj_heap_other (by have := hS k hk; omega)⟩
  have hm1 : Mv R w.heap.size w W1 := Mv.of_upd (.of_below hb1) (Nat.le_refl _)
  have hmono : ∀ {X Y : World}, Mv R W1.heap.size X Y → Mv R w.heap.size X Y := fun h => h.mono (by omega)
  have hmt : ∀ {Y : World}, Mv R W1.heap.size W1 Y → Mv R w.heap.size w Y := fun h =>
    ⟨h.os.trans hm1.os, h.tape.trans hm1.tape, h.output.trans hm1.output, Nat.le_trans hm1.size h.size, fun k hk hl => (h.low k hk (by omega)).trans (hm1.low k hk hl), fun k o hk ho hcs => h.cells k o hk (hm1.cells k o hk ho hcs) hcs⟩
  have hkm : ∀ {X Y : World}, Mv R W1.heap.size X Y → Kept S X Y := fun h => kept_mv h (fun k hk => by have := hS k hk; omega) hSR
  refine ⟨w.heap.size + 1, [{ target := .collected w.heap.size, args := #[] }], W1, { target := .fn (.func gf) lb, args := #[.func (.yield (w.heap.size + 1)) #[] #[]] }, W1, gf,
    #[.func (.yield (w.heap.size + 1)) #[] #[]] ++ lb, W1, ?_, ?_, ?_, ?_, (fun h => absurd h (by simp)), ?_⟩
  · rw [← hW1, hrec]; exact run_enterLoop_outer _ _ _ _ _
  · simp only [resolve, hg]
    simp [go_sem]
  · intro f' _; trivial
  · simp [invoke, go_sem, eg]
  · refine (hseq (w.heap.size + 1)
      (fun z W => I z W ∧ Kept S w W ∧ W.heap[w.heap.size + 1]? = some (.loop rec) ∧ W.heap[w.heap.size]? = some (.deferred (some [])))
      (fun z W => Im z W ∧ Kept S w W ∧ W.heap[w.heap.size + 1]? = some (.loop rec) ∧ W.heap[w.heap.size]? = some (.deferred (some [])))
      (fun z W => Je z W ∧ Kept S w W ∧ W.heap[w.heap.size + 1]? = some (.loop rec) ∧ W.heap[w.heap.size]? = some (.deferred (some [])))
      z0 W1 (hw0.trans hk1) (hz0.upd_ hb1) hle ?_ ?_ ?_ ?_ ?_).mono ?_
    · intro Y hY
      exact ⟨h0 Y (hmt hY), hk1.trans (hkm hY), (hY.low _ (by omega) (by omega)).trans hL1, (hY.low _ (by omega) (by omega)).trans hK1⟩
    · rintro z X Y ⟨h1, h2, h3, h4⟩ hp hY
      exact ⟨hc z X Y h1 hp (hmono hY), h2.trans (hkm hY), (hY.low _ (by omega) (by omega)).trans h3, (hY.low _ (by omega) (by omega)).trans h4⟩
    · rintro z X Y ⟨h1, h2, h3, h4⟩ hp hY
      exact ⟨hd z X Y h1 hp (hmono hY), h2.trans (hkm hY), (hY.low _ (by omega) (by omega)).trans h3, (hY.low _ (by omega) (by omega)).trans h4⟩
    · rintro z X ⟨h1, h2, h3, h4⟩ hbad
      exact ⟨hb z X h1 hbad, h2, h3, h4⟩
    · rintro k z X ⟨h1, h2, h3, h4⟩ hz hbad hkX
      have := round_law (P := Tryz.prog) (r0 := none) (fn := fn) (l := w.heap.size + 1) (m := 0) (rec := rec) (S := S) (x := #[.int .i64 k]) (W := X) (I := fun X => ∃ z', z'.l.length ≤ z.l.length ∧ Rd X R s z' ∧ Im z' X) (Ix := fun _ _ => False) (B := w.heap.size) h3 (by rw [hrec]) (by rw [hrec]) (by rw [hrec]; rfl) (fun h => by have := hS _ h; omega) (by omega)
        (fun X Y ⟨z', a1, a2, a3⟩ hx => ⟨z', a1, a2.ext hx, hIm _ _ _ a3 (.of_ext hx)⟩) (fun c X Y h _ => h)
        (by
          have e : (#[p0].zip #[Value.int .i64 (k : Int)]).foldl (fun t x => t.setIfInBounds x.1 x.2) a.tmps = a.tmps.setIfInBounds p0 (.int .i64 (k : Int)) := by simp
          rw [hrec]
          dsimp only
          rw [e]
          exact hround _ k z X (by omega) (Array.getElem?_eq_some_iff.1 h3).1 h2 hz hbad h1)
      obtain ⟨f1, t1, a1, b1, hy, hRn⟩ := this
      refine ⟨f1, t1, a1, b1, hy, hRn.mono ?_⟩
      rintro e X' (⟨rfl, ⟨z', j1, j2, j3⟩, hl, hkk, ho⟩ | ⟨rfl, ⟨c, hf, _⟩, _⟩)
      · exact ⟨rfl, z', j1, j2, ⟨j3, h2.trans hkk, hl, ho _ _ (by omega) (Nat.le_refl _) h4 rfl⟩, hkk⟩
      · exact hf.elim
    · rintro e W2 ⟨⟨v, rfl⟩, hkk, z', hz', hi, h2, hl, hk⟩
      have hlt := (Array.getElem?_eq_some_iff.1 hl).1
      have hend := run_endLoop (P := Tryz.prog) hl (by rw [hrec]; simp)
      have hpe : rec.pending = none := by rw [hrec]
      rw [hpe] at hend
      have hx : Ext w.heap.size W2 (W2.putObj (w.heap.size + 1) (.loop { rec with state := .exhausted, pending := none })) := Ext.putObj (by omega) hl rfl _
      exact ⟨none, W2.putObj (w.heap.size + 1) (.loop { rec with state := .exhausted, pending := none }), hend, hdone z' _ (h2.trans (hput _ _)) (by simp; omega) (hz'.ext hx) (hJe _ _ _ hi (.of_ext hx)) ((World.putObj_heap_other (by omega)).trans hk)⟩
end Go.Proofs.YtfbdkjonjpanfaaGreatDoor
