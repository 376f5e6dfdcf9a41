/- A range over a function whose iterator keeps its own state in cells: a law of the walk. -/
import Derived.RangeFuncNested
import Derived.RangeFuncBound
import Derived.RangeFuncCalls
import Derived.RangeFuncLeaves
import Derived.Shelf.Abstract
import Derived.WalkKit
import Derived.OwnWalkIn
import Derived.TacticsInMore
import Derived.LoopNIn
import Derived.LoopIn
import Derived.Test.YtajdlgbhofdafaaBase
namespace Go.Proofs.Ytajdlgbhofdafaa
open Go.RowKit Go.Shelf

theorem fr_put (w : World) (l : Nat) (o : Obj) : Fr (fun k => k = l) w (w.putObj l o) := Fr.of_grown (grownBy_putObj' w l o) (fun k e _ => by cases e; rfl)

/-- An iterator that comes to the elements xs, and turns the blocks S (and new ones) alone. -/
def SeqC {α : Type} (n : Nat) (P : Program) (gf : Nat) (lb : Array Value) (encs : α → Array Value) (xs : List α) (S : Nat → Prop) (w : World) : Prop :=
  ∀ (T : Nat → Prop) (l : Nat) (J Jx : List α → World → Prop) (W : World), (∀ k, T k → ¬ S k) → Fr (fun _ => False) w W →
    (∀ pre A B, J pre A → Fr S A B → J pre B) → (∀ pre A B, Jx pre A → Fr S A B → Jx pre B) →
    (∀ pre x W1, J pre W1 → pre ++ [x] <+: xs → YieldAt Fence.wide (n - 1) P l (encs x) W1 fun e W' =>
      (e = .returned (.bool true) ∧ J (pre ++ [x]) W' ∧ Fr T W1 W') ∨ (e = .returned (.bool false) ∧ Jx (pre ++ [x]) W' ∧ Fr T W1 W')) →
    J [] W →
    CallsIn Fence.wide n P gf (#[.func (.yield l) #[] #[]] ++ lb) W fun e W' => (∃ v, e = .returned v) ∧ (J xs W' ∨ ∃ pre, pre <+: xs ∧ Jx pre W')

/-- How the body of a round may be left. -/
def postC {α : Type} (T : Nat → Prop) (I : List α → World → Prop) (Ix : Code → List α → World → Prop) (xs : List α) (W : World) : Exit → Act → World → Prop
  | .normal, _, W' => Fr T W W' ∧ I xs W'
  | .ret, _, W' => Fr T W W' ∧ Ix .ret xs W'
  | .exit id, _, W' => Fr T W W' ∧ Ix (.exit id) xs W'
  | .goto t, _, W' => Fr T W W' ∧ Ix (.goto t) xs W'
  | .panic _, _, _ => False
  | .outgrown, _, _ => False

variable {n : Nat} {P : Program}
theorem wpIn_rangeFunc_c {α : Type} {g : Operand} {ps : Array Tmp} {assign body : Code} {Q : Exit → Act → World → Prop} {a : Act} {w : World}
    (h1 : 1 ≤ n) {gf : Nat} {lb : Array Value} (hg : a.eval g = .func (.func gf) #[] lb) (eg : Enters P gf)
    {encs : α → Array Value} {xs : List α} {S T : Nat → Prop} (hseq : SeqC (n - 1) P gf lb encs xs S w) (hps : ∀ x, (encs x).size = ps.size)
    (hS : ∀ k, S k → k < w.heap.size) (hT : ∀ k, T k → k < w.heap.size ∧ ¬ S k)
    (I : List α → World → Prop) (Ix : Code → List α → World → Prop)
    (hI : ∀ pre A B, I pre A → Fr (fun k => S k ∨ k = w.heap.size ∨ k = w.heap.size + 1) A B → I pre B)
    (hIx : ∀ c pre A B, Ix c pre A → Fr (fun k => S k ∨ k = w.heap.size ∨ k = w.heap.size + 1) A B → Ix c pre B) (h0 : I [] w) (a₁ : α → Act)
    (hassign : ∀ (l : Nat) (x : α) (W : World) (K : Act → World → Prop), K (a₁ x) W →
      assign.wpIn (Fence.wide.inRound l) (n - 1 - 1) P (Exit.then K (fun _ _ _ => False)) { tmps := (ps.zip (encs x)).foldl (fun t (p, v) => t.setIfInBounds p v) a.tmps, defers := [] } W)
    (hbody : ∀ (l : Nat) (pre : List α) (x : α) (W : World), I pre W → pre ++ [x] <+: xs → body.wpIn (Fence.wide.inRound l) (n - 1 - 1) P (postC T I Ix (pre ++ [x]) W) (a₁ x) W)
    (hdone : ∀ (W : World), I xs W → W.heap[w.heap.size]? = some (.deferred (some [])) → Q .normal { a with defers := { target := .collected w.heap.size, args := #[] } :: a.defers } W)
    (hstop : ∀ (c : Code) (pre : List α) (W : World), pre <+: xs → Ix c pre W → W.heap[w.heap.size]? = some (.deferred (some [])) → c.wpIn Fence.wide n P Q { a with defers := { target := .collected w.heap.size, args := #[] } :: a.defers } W) :
    (Code.rangeFunc g ps assign body).wpIn Fence.wide n P Q a w := by
  refine wpIn_rangeFunc ?_
  intro fn hfn
  obtain ⟨rec, hrec⟩ : ∃ rec : LoopState → Option Code → Loop, rec = fun st pe => { state := st, pending := pe, fn, tmps := a.tmps, params := ps, assign, body, defers := w.heap.size } := ⟨_, rfl⟩
  obtain ⟨W1, hW1⟩ : ∃ W1, (w.alloc (.deferred (some []))).alloc (.loop (rec .ready none)) = W1 := ⟨_, rfl⟩
  have hz1 : W1.heap.size = w.heap.size + 1 + 1 := by rw [← hW1, sz_al, sz_al]
  have hL1 : W1.heap[w.heap.size + 1]? = some (.loop (rec .ready none)) := by
    rw [← hW1, hp_al, if_pos (by rw [sz_al])]
  have hK1 : W1.heap[w.heap.size]? = some (.deferred (some [])) := by
    rw [← hW1, hp_al, if_neg (by rw [sz_al]; omega), hp_al, if_pos rfl]
  have hf1 : Fr (fun _ => False) w W1 := by rw [← hW1]; exact ((Fr.refl _ w).alloc _).alloc _
  have hI1 : I [] W1 := hI _ _ _ h0 (hf1.mono (fun _ _ h => h.elim))
  have eg' : ∀ args w, (callFunc gf args).run P w = .ok (.enter gf args) w := eg
  refine ⟨w.heap.size + 1, [{ target := .collected w.heap.size, args := #[] }], W1, { target := .fn (.func gf) lb, args := #[.func (.yield (w.heap.size + 1)) #[] #[]] }, W1, gf,
    #[.func (.yield (w.heap.size + 1)) #[] #[]] ++ lb, W1, ?_, ?_, ?_, ?_, fun _ => h1, ?_⟩
  · rw [← hW1, hrec]; exact run_enterLoop_outer _ _ _ _ _
  · simp only [resolve, hg]
    simp [go_sem]
  · intro f' _; trivial
  · simp [invoke, go_sem, eg']
  · -- the iterator's contract, at the caller's invariant with the two facts of book-keeping beside it
    have book : ∀ {A B : World} {o : Obj} {k : Nat}, w.heap.size ≤ k → Fr S A B → A.heap[k]? = some o → B.heap[k]? = some o := fun hk f h =>
      (f.block _ (Array.getElem?_eq_some_iff.1 h).1 (fun s => by have := hS _ s; omega)).trans h
    refine (hseq (fun k => T k ∨ k = w.heap.size + 1) (w.heap.size + 1)
      (fun pre W => I pre W ∧ W.heap[w.heap.size + 1]? = some (.loop (rec .ready none)) ∧ W.heap[w.heap.size]? = some (.deferred (some [])))
      (fun pre W => ∃ c, Ix c pre W ∧ W.heap[w.heap.size + 1]? = some (.loop (rec .done (some c))) ∧ W.heap[w.heap.size]? = some (.deferred (some [])))
      W1 (fun k hk s => by rcases hk with hk | hk; · exact (hT k hk).2 s
                           · have := hS k s; omega) hf1
      (fun pre A B h f => ⟨hI pre A B h.1 (f.mono (fun k _ s => .inl s)), book (by omega) f h.2.1, book (by omega) f h.2.2⟩)
      (fun pre A B h f => by
        obtain ⟨c, h1, h2, h3⟩ := h
        exact ⟨c, hIx c pre A B h1 (f.mono (fun k _ s => .inl s)), book (by omega) f h2, book (by omega) f h3⟩)
      ?_ ⟨hI1, hL1, hK1⟩).mono ?_
    · rintro pre x W ⟨hi, hl, hk⟩ hpre
      have hlt : w.heap.size + 1 < W.heap.size := (Array.getElem?_eq_some_iff.1 hl).1
      have hy := run_yield (P := P) (args := encs x) hl (by rw [hrec]; exact hps x)
      rw [hrec] at hy
      refine ⟨fn, _, assign, body, hy, roundIn_of_wpIn hfn (hassign _ x W _ ⟨_, run_beginRound hl (by rw [hrec]), ?_⟩)⟩
      obtain ⟨W2, hW2⟩ : ∃ W2, W.putObj (w.heap.size + 1) (.loop { rec .ready none with state := .busy }) = W2 := ⟨_, rfl⟩
      have hp2 : Fr (fun k => k = w.heap.size + 1) W W2 := by rw [← hW2]; exact fr_put _ _ _
      have hl2 : W2.heap[w.heap.size + 1]? = some (.loop { rec .ready none with state := .busy }) := by rw [← hW2]; exact World.putObj_heap_same hlt
      have hk2 : W2.heap[w.heap.size]? = some (.deferred (some [])) := (hp2.block _ (by omega) (by omega)).trans hk
      rw [hW2]
      refine wpIn_mono (hbody _ pre x _ (hI _ _ _ hi (hp2.mono (by intro k _ h; exact .inr (.inr h)))) hpre) ?_
      have fin : ∀ (jump : Option Code) (W3 : World), Fr T W2 W3 →
          ∃ W4, (Instr.endRound (w.heap.size + 1) jump).run P W3 = .ok (.bool jump.isNone) W4 ∧ Fr (fun k => k = w.heap.size + 1) W3 W4 ∧
          W4.heap[w.heap.size + 1]? = some (.loop (rec (if jump.isNone then .ready else .done) jump)) ∧ W4.heap[w.heap.size]? = some (.deferred (some [])) ∧ Fr (fun k => T k ∨ k = w.heap.size + 1) W W4 := fun jump W3 f3 => by
        have hsz2 : W.heap.size ≤ W2.heap.size := hp2.size
        have hl3 := (f3.block (w.heap.size + 1) (by omega) (fun t => by have := (hT _ t).1; omega)).trans hl2
        have hk3 := (f3.block w.heap.size (by omega) (fun t => by have := (hT _ t).1; omega)).trans hk2
        have hr := run_endRound (P := P) jump hl3
        rw [hrec] at hr
        have hp4 := fr_put W3 (w.heap.size + 1) (.loop (rec (if jump.isNone then .ready else .done) jump))
        have hl3lt := (Array.getElem?_eq_some_iff.1 hl3).1
        refine ⟨_, ?_, hp4, World.putObj_heap_same hl3lt, (hp4.block _ (by omega) (by omega)).trans hk3, ((hp2.mono (by intro k _ h; exact .inr h)).trans (f3.mono (by intro k _ h; exact .inl h))).trans (hp4.mono (by intro k _ h; exact .inr h))⟩
        rw [hrec]
        exact hr
      rintro e a3 W3 hp
      cases e with
      | normal =>
        obtain ⟨f3, hi3⟩ := hp
        obtain ⟨W4, hr, hp4, hl4, hk4, f4⟩ := fin none W3 f3
        exact ⟨_, _, hr, .inl ⟨rfl, ⟨hI _ _ _ hi3 (hp4.mono (by intro k _ h; exact .inr (.inr h))), hl4, hk4⟩, f4⟩⟩
      | ret =>
        obtain ⟨f3, hi3⟩ := hp
        obtain ⟨W4, hr, hp4, hl4, hk4, f4⟩ := fin (some .ret) W3 f3
        exact ⟨_, _, hr, .inr ⟨rfl, ⟨.ret, hIx _ _ _ _ hi3 (hp4.mono (by intro k _ h; exact .inr (.inr h))), hl4, hk4⟩, f4⟩⟩
      | exit id =>
        obtain ⟨f3, hi3⟩ := hp
        obtain ⟨W4, hr, hp4, hl4, hk4, f4⟩ := fin (some (.exit id)) W3 f3
        exact ⟨_, _, hr, .inr ⟨rfl, ⟨.exit id, hIx _ _ _ _ hi3 (hp4.mono (by intro k _ h; exact .inr (.inr h))), hl4, hk4⟩, f4⟩⟩
      | goto t =>
        obtain ⟨f3, hi3⟩ := hp
        obtain ⟨W4, hr, hp4, hl4, hk4, f4⟩ := fin (some (.goto t)) W3 f3
        exact ⟨_, _, hr, .inr ⟨rfl, ⟨.goto t, hIx _ _ _ _ hi3 (hp4.mono (by intro k _ h; exact .inr (.inr h))), hl4, hk4⟩, f4⟩⟩
      | panic ch => exact hp.elim
      | outgrown => exact hp.elim
    · rintro e W2 ⟨⟨v, rfl⟩, (⟨hi, hl, hk⟩ | ⟨pre, hpre, c, hi, hl, hk⟩)⟩
      · have hr := run_endLoop (P := P) hl (by rw [hrec]; simp)
        rw [hrec] at hr
        have hp4 := fr_put W2 (w.heap.size + 1) (.loop { rec .ready none with state := .exhausted })
        rw [hrec] at hp4
        exact ⟨none, _, hr, hdone _ (hI _ _ _ hi (hp4.mono (by intro k _ h; exact .inr (.inr h)))) ((hp4.block _ (by have := (Array.getElem?_eq_some_iff.1 hl).1; omega) (by omega)).trans hk)⟩
      · have hr := run_endLoop (P := P) hl (by rw [hrec]; simp)
        rw [hrec] at hr
        have hp4 := fr_put W2 (w.heap.size + 1) (.loop { rec .done (some c) with state := .exhausted })
        rw [hrec] at hp4
        exact ⟨some c, _, hr, hstop c pre _ hpre (hIx _ _ _ _ hi (hp4.mono (by intro k _ h; exact .inr (.inr h)))) ((hp4.block _ (by have := (Array.getElem?_eq_some_iff.1 hl).1; omega) (by omega)).trans hk)⟩

end Go.Proofs.Ytajdlgbhofdafaa
