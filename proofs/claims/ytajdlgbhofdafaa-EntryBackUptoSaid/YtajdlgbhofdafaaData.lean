/- rdata.Right, rdata.Read. -/
import Derived.Test.YtajdlgbhofdafaaWalk
import Derived.Test.YtajdlgbhofdafaaPkName
namespace Go.Proofs.Ytajdlgbhofdafaa
open Go.RowKit Go.Shelf
set_option maxRecDepth 1000000
attribute [local go_sem] Oper.semAt_some

theorem partB_size {msg s : ByteArray} {i e nx : Nat} {k : Int} (h : partB msg i e k = some (s, nx)) : s.size ≤ 255 + msg.size ∧ ((k = -1 ∨ k = -2) → rightB s = true) := by
  have hr255 : ∀ n : ByteArray, rightB n = true → n.size ≤ 255 := by
    intro n hn
    unfold rightB at hn
    simp only [Bool.and_eq_true, decide_eq_true_eq] at hn
    exact hn.1
  have hrd : ∀ (i : Nat) (n : ByteArray) (q : Int), readB (msg.extract 0 e) i = some (n, q) → rightB n = true := by
    intro i n q hq
    unfold readB at hq
    cases hl : readL (msg.extract 0 e) (257 + i) ⟨#[]⟩ (-1) i i with
    | none => rw [hl] at hq; cases hq
    | some p =>
      rw [hl, Option.bind_some] at hq
      by_cases hr : rightB p.1
      · rw [if_pos hr] at hq
        injection hq with hq
        injection hq with h4 h5
        subst h4
        exact hr
      · rw [if_neg hr] at hq; cases hq
  unfold partB at h
  by_cases h1 : k = -1
  · rw [if_pos h1] at h
    cases hr : readB (msg.extract 0 e) i with
    | none => rw [hr] at h; cases h
    | some p =>
      obtain ⟨n, q⟩ := p
      rw [hr, Option.map_some] at h
      injection h with h
      injection h with h3 h4
      dsimp only at h3
      subst h3
      have := hrd _ _ _ hr
      exact ⟨by have := hr255 _ this; omega, fun _ => this⟩
  rw [if_neg h1] at h
  by_cases h2 : k = -2
  · rw [if_pos h2] at h
    cases hr : readB (msg.extract 0 e) i with
    | none => rw [hr] at h; cases h
    | some p =>
      obtain ⟨n, q⟩ := p
      rw [hr, Option.bind_some] at h
      dsimp only at h
      split at h
      · injection h with h
        injection h with h3 h4
        subst h3
        have := hrd _ _ _ hr
        exact ⟨by have := hr255 _ this; omega, fun _ => this⟩
      · cases h
  rw [if_neg h2] at h
  refine ⟨?_, fun h => absurd h (by omega)⟩
  by_cases h3 : k = -3
  · rw [if_pos h3] at h
    split at h
    · injection h with h
      injection h with h4 h5
      subst h4
      simp; omega
    · cases h
  rw [if_neg h3] at h
  by_cases h4 : k = -4
  · rw [if_pos h4] at h
    injection h with h
    injection h with h5 h6
    subst h5
    simp; omega
  rw [if_neg h4] at h
  by_cases h5 : (e : Int) - i < k
  · rw [if_pos h5] at h; cases h
  · rw [if_neg h5] at h
    injection h with h
    injection h with h6 h7
    subst h6
    simp; omega
theorem walkL_len (msg : ByteArray) (e : Nat) : ∀ (ks : List Int) (i : Nat), (walkL msg e ks i).1.length ≤ ks.length := by
  intro ks
  induction ks with
  | nil => intro i; simp [walkL]
  | cons k ks ih =>
    intro i
    rw [walkL]
    cases h : partB msg i e k with
    | none => simp
    | some p => simp; exact ih _
theorem walkL_mem (msg : ByteArray) (e : Nat) : ∀ (ks : List Int) (i : Nat) (x : Int × ByteArray), x ∈ (walkL msg e ks i).1 → x.2.size ≤ 255 + msg.size ∧ ((x.1 = -1 ∨ x.1 = -2) → rightB x.2 = true) := by
  intro ks
  induction ks with
  | nil => intro i x hx; simp [walkL] at hx
  | cons k ks ih =>
    intro i x hx
    rw [walkL] at hx
    cases h : partB msg i e k with
    | none => rw [h] at hx; simp at hx
    | some p =>
      rw [h] at hx
      rcases List.mem_cons.1 hx with rfl | hx
      · exact partB_size h
      · exact ih _ _ hx
/-- How many bytes parts have. -/
def sumP (l : List (Int × ByteArray)) : Nat := (l.map (·.2.size)).sum
theorem sumP_snoc (l : List (Int × ByteArray)) (x : Int × ByteArray) : sumP (l ++ [x]) = sumP l + x.2.size := by simp [sumP]
theorem sumP_le (n : Nat) (l : List (Int × ByteArray)) (h : ∀ x ∈ l, x.2.size ≤ n) : sumP l ≤ l.length * n := by
  induction l with
  | nil => simp [sumP]
  | cons x l ih =>
    have h1 := h x (by simp)
    have h2 := ih (fun y hy => h y (by simp [hy]))
    simp only [sumP, List.map_cons, List.sum_cons, List.length_cons] at h2 ⊢
    rw [Nat.add_mul, Nat.one_mul]
    omega
/-- Data that are right for a type. -/
def rightD (t : Int) (data : ByteArray) : Bool :=
  decide (data.size ≤ 65535) && (walkL data data.size (partsL t) 0).2 == some data.size && sumP (walkL data data.size (partsL t) 0).1 == data.size
/-- A cell that counts. -/
def CntAt (b : Nat) (l : List (Int × ByteArray)) (O : Nat → Prop) (w : World) : Prop := w.heap[b]? = some (.cells #[.int .i64 (sumP l)] 3 (0, 0)) ∧ ∀ k, O k ↔ k = b
theorem cntAt_stab (b : Nat) : Stab (CntAt b) := by
  rintro x O a b' ⟨h1, h2⟩ hk
  exact ⟨(hk b ((h2 b).2 rfl) (Array.getElem?_eq_some_iff.1 h1).1).trans h1, h2⟩
theorem enters_right1 : Enters Try.prog 147 := enters_of Try.func147 (by kernel_rfl) rfl
set_option maxHeartbeats 1000000 in
theorem right1_any (b : Nat) (l : List (Int × ByteArray)) (x : Int × ByteArray) (O : Nat → Prop) (w : World) (h : CntAt b l O w) (hb : sumP l + x.2.size ≤ 1000000000) :
    Calls Try.prog 147 #[.int .i64 x.1, .string x.2, .pointer (some ⟨b, 0, none⟩)] w fun e w' => e = .returned (.tuple #[]) ∧ ∃ O', CntAt b (l ++ [x]) O' w' ∧ Ch O O' w w' := by
  obtain ⟨h1, h2⟩ := h
  have c0 : w.cell? ⟨b, 0, none⟩ = some (.int .i64 (sumP l)) := cell_at h1 rfl
  have f0 : w.frozen? ⟨b, 0, none⟩ = false := froz_at h1
  have hw : (sumP l : Int) + (x.2.size : Int) = ((sumP (l ++ [x]) : Nat) : Int) := by rw [sumP_snoc]; omega
  have hs := heap_set (i := 0) (v := .int .i64 ((sumP l : Int) + (x.2.size : Int))) h1
  have hfin : CntAt b (l ++ [x]) O (w.setCell ⟨b, 0, none⟩ (.int .i64 ((sumP l : Int) + (x.2.size : Int)))) ∧ Ch O O w (w.setCell ⟨b, 0, none⟩ (.int .i64 ((sumP l : Int) + (x.2.size : Int)))) := by
    refine ⟨⟨?_, h2⟩, (Fr.refl _ w).set _ _ (fun _ => (h2 b).2 rfl), fun k hk => .inl hk⟩
    rw [hs, hw]
    rfl
  have HF := Lib.hid hfin
  clear hfin hs hw
  go_enter Try.func147, Try.ntmps147
  go_wp2
  go_end0
  exact ⟨rfl, O, HF.out⟩

set_option maxHeartbeats 2000000 in
theorem RightD_any (t : Int) (data : ByteArray) (w : World) (hb : data.size ≤ 4398046511104) :
    Calls Try.prog 118 #[.int .i64 t, .string data] w fun e w' => e = .returned (.bool (rightD t data)) ∧ Below w.heap.size w w' := by
  by_cases hbig : data.size ≤ 65535
  · have hd : decide (65535 < (data.size : Int)) = false := by simp; omega
    have hlen := walkL_len data data.size (partsL t) 0
    have hl7 := partsL_len t
    have hmem := walkL_mem data data.size (partsL t) 0
    have hwalk := walk_any 147 enters_right1 (.pointer (some ⟨w.heap.size, 0, none⟩)) data 0 data.size t (CntAt w.heap.size) (fun k => k = w.heap.size) (w.alloc (.cells #[.int .i64 0] 3)) (Nat.zero_le _) (Nat.le_refl _) hb (cntAt_stab _) (fun k hk => by rw [sz_al]; omega)
      ⟨by rw [hp_al, if_pos rfl]; rfl, fun k => Iff.rfl⟩ (fun pre x O wr hJ hpre => right1_any _ pre x O wr hJ (by
        obtain ⟨suf, hsuf⟩ := hpre
        have h1 := sumP_le (255 + data.size) (pre ++ [x]) (fun y hy => (hmem y (by rw [← hsuf]; simp at hy ⊢; rcases hy with h | h <;> simp [h])).1)
        rw [sumP_snoc] at h1
        have h2 : (pre ++ [x]).length ≤ 7 := by
          have := congrArg List.length hsuf
          simp at this ⊢
          omega
        have h3 : (pre ++ [x]).length * (255 + data.size) ≤ 7 * (255 + data.size) := Nat.mul_le_mul_right _ h2
        omega))
    have hfr : Below w.heap.size w (w.alloc (.cells #[.int .i64 0] 3)) := ((Fr.refl (fun _ => False) w).alloc _).to_below (Nat.le_refl _) (by simp)
    unfold rightD
    rw [decide_eq_true hbig, Bool.true_and]
    generalize hR : walkL data data.size (partsL t) 0 = R at *
    clear hR hmem hlen hl7
    have HW := Lib.hid hwalk
    clear hwalk
    have hmf : ∀ (fn : Fn) (first cap : Array Value) (w : World), (Instr.makeFunc fn first cap).run Try.prog w = .ok (.func fn first cap) w := fun _ _ _ _ => rfl
    cases hb2 : (R.2 == some data.size) with
    | true =>
      rw [hb2] at HW
      go_enter Try.func118, Try.ntmps118
      go_wp2_with (go_at_call 144; refine HW.out.mono ?_; rintro e w1 ⟨rfl, O', ⟨hc, hO'⟩, hch⟩; have c0 : w1.cell? ⟨w.heap.size, 0, none⟩ = some (.int .i64 (sumP R.1)) := cell_at hc rfl)
      go_ret
      refine ⟨ret_bool ?_, hfr.trans (hch.to_below (by rw [sz_al]; omega) (fun k hk => by omega))⟩
      rw [Bool.true_and]
      first | rfl | rw [nat_beq]
    | false =>
      rw [hb2] at HW
      go_enter Try.func118, Try.ntmps118
      go_wp2_with (go_at_call 144; refine HW.out.mono ?_; rintro e w1 ⟨rfl, O', ⟨hc, hO'⟩, hch⟩; have c0 : w1.cell? ⟨w.heap.size, 0, none⟩ = some (.int .i64 (sumP R.1)) := cell_at hc rfl)
      go_ret
      exact ⟨rfl, hfr.trans (hch.to_below (by rw [sz_al]; omega) (fun k hk => by omega))⟩
  · have hd : decide (65535 < (data.size : Int)) = true := by simp; omega
    have hf : rightD t data = false := by unfold rightD; rw [decide_eq_false hbig]; rfl
    rw [hf]
    go_enter Try.func118, Try.ntmps118
    go_wp2
    go_ret
    exact ⟨rfl, Below.refl _ _⟩
end Go.Proofs.Ytajdlgbhofdafaa
