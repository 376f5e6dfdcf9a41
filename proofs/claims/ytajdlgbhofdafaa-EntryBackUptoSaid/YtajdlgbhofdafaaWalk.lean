/- rdata.walk. -/
import Derived.Test.YtajdlgbhofdafaaPart
import Derived.Test.YtajdlgbhofdafaaRowB
import Derived.Deep.LoopGhost
namespace Go.Proofs.Ytajdlgbhofdafaa
open Go.RowKit Go.Shelf
set_option maxRecDepth 1000000
attribute [local go_sem] Oper.semAt_some

/-- The parts that stand at a place, up to an end, and the place behind all; none: they don't stand there. -/
def walkL (msg : ByteArray) (e : Nat) : List Int → Nat → List (Int × ByteArray) × Option Nat
  | [], i => ([], some i)
  | k :: ks, i =>
    match partB msg i e k with
    | none => ([], none)
    | some (s, nx) => ((k, s) :: (walkL msg e ks nx).1, (walkL msg e ks nx).2)
theorem partsL_kinds (t : Int) : ∀ k ∈ partsL t, IsKind k := by
  unfold partsL IsKind
  intro k hk
  split at hk
  · simp at hk; omega
  split at hk
  · simp at hk; omega
  split at hk
  · simp at hk; omega
  split at hk
  · simp at hk; omega
  split at hk
  · simp at hk; omega
  split at hk
  · simp at hk; omega
  split at hk
  · simp at hk; omega
  · simp at hk; omega
theorem partsL_len (t : Int) : (partsL t).length ≤ 7 := by
  unfold partsL
  repeat' split
  all_goals simp

theorem nat_beq (i e : Nat) : ((i : Int) == (e : Int)) = (i == e) := by
  by_cases h : i = e
  · subst h; simp
  · rw [beq_eq_false_iff_ne.2 h, beq_eq_false_iff_ne.2 (by omega)]
/-- Where walk stands at a round's head. -/
def WalkAt (J : List (Int × ByteArray) → (Nat → Prop) → World → Prop) (O : Nat → Prop) (w : World) (msg : ByteArray) (e g : Nat) (ks : List Int) (R : List (Int × ByteArray) × Option Nat) (cs : Array Value) (ct : TypeId) (f j i : Nat) (wr : World) : Prop :=
  ∃ pre O', J pre O' wr ∧ Ch O O' w wr ∧ R = (pre ++ (walkL msg e (ks.drop j) i).1, (walkL msg e (ks.drop j) i).2) ∧ i ≤ e ∧ j ≤ ks.length ∧ ks.length ≤ j + f ∧ wr.heap[g]? = some (.cells cs ct (0, 0)) ∧ ¬ O' g

set_option maxHeartbeats 4000000 in
theorem walk_any (gf : FuncId) (eg : Enters Try.prog gf) (c : Value) (msg : ByteArray) (i e : Nat) (t : Int) (J : List (Int × ByteArray) → (Nat → Prop) → World → Prop) (O : Nat → Prop) (w : World)
    (hi : i ≤ e) (he : e ≤ msg.size) (hb : msg.size ≤ 4398046511104) (hJ : Stab J) (hO : ∀ k, O k → k < w.heap.size) (h0 : J [] O w)
    (hdo : ∀ pre x O wr, J pre O wr → pre ++ [x] <+: (walkL msg e (partsL t) i).1 → Calls Try.prog gf #[.int .i64 x.1, .string x.2, c] wr fun e' w' => e' = .returned (.tuple #[]) ∧ ∃ O', J (pre ++ [x]) O' w' ∧ Ch O O' wr w') :
    Calls Try.prog 144 #[.string msg, .int .i64 i, .int .i64 e, .int .i64 t, .func (.func gf) #[] #[c]] w fun e' w' =>
      e' = .returned (.bool ((walkL msg e (partsL t) i).2 == some e)) ∧ ∃ O', J (walkL msg e (partsL t) i).1 O' w' ∧ Ch O O' w w' := by
  have hP := parts_any t w
  have hks := partsL_kinds t
  have hkl := partsL_len t
  generalize partsL t = ks at *
  obtain ⟨R, hR⟩ : ∃ R, R = walkL msg e ks i := ⟨_, rfl⟩
  rw [← hR] at hdo ⊢
  have HP := Lib.hid hP
  have HD := Lib.hid hdo
  have HJ := Lib.hid hJ
  have eg' : ∀ (args : Array Value) (w : World), (callFunc gf args).run Try.prog w = .ok (.enter gf args) w := eg
  have HR := Lib.hid hR
  clear hP hdo hJ hR
  go_enter Try.func144, Try.ntmps144
  go_wp2_with (go_at_call 167; refine HP.out.mono ?_; rintro e' w1 ⟨hB1, g, cap, rfl, hcap, hgl, cs, ct, hcg, hcs⟩)
  have hg1 : g < w1.heap.size := (Array.getElem?_eq_some_iff.1 hcg).1
  have H0 : WalkAt J O w msg e g ks R cs ct ks.length 0 i w1 := ⟨[], O, HJ.out _ _ _ _ h0 (fun k _ hk => hB1.block k hk), (Ch.refl O w).below hB1, by rw [HR.out]; rfl, hi, Nat.zero_le _, by omega, hcg, fun h => by have := hO g h; omega⟩
  have H0' := Lib.hid H0
  clear H0 h0 hB1 hcg hg1 HR hi
  go_loopg [1, 19] ks.length (fun f v1 v19 wr => ∃ (j i : Nat), v1 = .int .i64 i ∧ v19 = .int .i64 j ∧ WalkAt J O w msg e g ks R cs ct f j i wr)
  case atStart => exact ⟨0, i, rfl, rfl, H0'.out⟩
  case round =>
    clear H0'
    obtain ⟨j, i, rfl, rfl, pre, O', hJp, hch, hR, hi, hj, hf, hcg, hOg⟩ := hrel
    by_cases hjl : j < ks.length
    · obtain ⟨f, rfl⟩ : ∃ f, gk = f + 1 := ⟨gk - 1, by omega⟩
      have hkj : ks[j]? = some (ks[j]'hjl) := List.getElem?_eq_getElem hjl
      have hdrop : ks.drop j = ks[j]'hjl :: ks.drop (j + 1) := List.drop_eq_getElem_cons hjl
      have hkk := hks _ (List.getElem_mem hjl)
      generalize ks[j]'hjl = k at hkj hdrop hkk
      have hc := cell_at (o := j) hcg (hcs j k hkj)
      have hpart := part_any msg i e k wr hi he hb hkk
      have hdj : decide ((j : Int) < ks.length) = true := by simp; omega
      have hdj2 : decide (j < ks.length) = true := by simp; omega
      rw [hdrop, walkL] at hR
      have hgl2 : g < wr.heap.size := (Array.getElem?_eq_some_iff.1 hcg).1
      cases hpb : partB msg i e k with
      | none =>
        rw [hpb] at hR hpart
        dsimp only at hR
        have hfin : ∀ w2, Below wr.heap.size wr w2 → (R.2 == some e) = false ∧ ∃ O', J R.1 O' w2 ∧ Ch O O' w w2 := by
          intro w2 hB
          rw [hR, List.append_nil]
          exact ⟨rfl, O', HJ.out _ _ _ _ hJp (fun k _ hk => hB.block k hk), hch.below hB⟩
        have HF := Lib.hid hfin
        have HPT := Lib.hid hpart
        clear hpart hfin hR hJp hch hOg hks hdrop hkj hcs hpb hkk HD HJ eg eg' HP
        go_wp2_with (go_at_call 168; refine HPT.out.mono ?_; rintro e' w2 ⟨hB2, s2, n2, rfl⟩)
        go_ret
        exact ⟨ret_bool (HF.out _ hB2).1.symm, (HF.out _ hB2).2⟩
      | some q =>
        obtain ⟨s2, nx⟩ := q
        have hon := partB_on hpb hi he (by unfold IsKind at hkk; omega)
        rw [hpb] at hR hpart
        dsimp only at hR
        have hpre : pre ++ [(k, s2)] <+: R.1 := ⟨(walkL msg e (ks.drop (j + 1)) nx).1, by rw [hR]; simp⟩
        have hcall := fun (w2 : World) (hB : Below wr.heap.size wr w2) => HD.out pre (k, s2) O' w2 (HJ.out _ _ _ _ hJp (fun k _ hk => hB.block k hk)) hpre
        dsimp only at hcall
        have hfin : ∀ (w2 w3 : World) (O2 : Nat → Prop), Below wr.heap.size wr w2 → J (pre ++ [(k, s2)]) O2 w3 → Ch O' O2 w2 w3 → WalkAt J O w msg e g ks R cs ct f (j + 1) nx w3 := by
          intro w2 w3 O2 hB hJ2 hch2
          have hs2 := hB.size
          refine ⟨pre ++ [(k, s2)], O2, hJ2, (hch.below hB).trans hch2, ?_, hon.2, by omega, by omega, ?_, hch2.not_own (by omega) hOg⟩
          · rw [hR]; simp
          · rw [hch2.fr.block g (by omega) hOg, hB.block g hgl2]
            exact hcg
        have HF := Lib.hid hfin
        have HPT := Lib.hid hpart
        have HC := Lib.hid hcall
        have hw : wrap64 ((j : Int) + 1) = ((j + 1 : Nat) : Int) := by unfold wrap64; omega
        clear hpart hfin hcall hR hJp hch hOg hks hdrop hkj hcs hpb hkk HD HJ HP eg hpre hon
        go_wp2_with (first | (go_at_call 168; refine HPT.out.mono ?_; rintro e' w2 ⟨hB2, rfl⟩) | (go_at_fn gf; refine (HC.out _ hB2).mono ?_; rintro e' w3 ⟨rfl, O2, hJ2, hch2⟩))
        go_roundg f
        case measure => omega
        case rel => exact ⟨j + 1, nx, rfl, by first | rfl | (rw [hw]) | (congr 1), HF.out _ _ O2 hB2 hJ2 hch2⟩
    · have hdj : decide ((j : Int) < ks.length) = false := by simp; omega
      have hdj2 : decide (j < ks.length) = false := by simp; omega
      have hfin : (R.2 == some e) = ((i : Int) == (e : Int)) ∧ ∃ O', J R.1 O' wr ∧ Ch O O' w wr := by
        rw [hR, List.drop_eq_nil_of_le (by omega)]
        refine ⟨?_, O', by simpa [walkL] using hJp, hch⟩
        rw [nat_beq]
        rfl
      have HF := Lib.hid hfin
      clear hfin hR hJp hch hOg hks hcs HD HJ eg eg' HP hi hcg
      go_wp2
      go_ret
      refine ⟨ret_bool (Eq.trans ?_ HF.out.1.symm), HF.out.2⟩
      first | rfl | rw [nat_beq]
end Go.Proofs.Ytajdlgbhofdafaa
