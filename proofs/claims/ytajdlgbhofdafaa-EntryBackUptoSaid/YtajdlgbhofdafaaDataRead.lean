/- rdata.Read. -/
import Derived.Test.YtajdlgbhofdafaaData
namespace Go.Proofs.Ytajdlgbhofdafaa
open Go.RowKit Go.Shelf
set_option maxRecDepth 1000000
attribute [local go_sem] Oper.semAt_some

/-- Parts, one behind another. -/
def catP (l : List (Int × ByteArray)) : ByteArray := l.foldl (fun a p => a ++ p.2) ⟨#[]⟩
theorem catP_snoc (l : List (Int × ByteArray)) (x : Int × ByteArray) : catP (l ++ [x]) = catP l ++ x.2 := by simp [catP]
theorem catP_from (l : List (Int × ByteArray)) : ∀ a : ByteArray, (l.foldl (fun a p => a ++ p.2) a).size = a.size + sumP l := by
  induction l with
  | nil => intro a; simp [sumP]
  | cons x l ih => intro a; rw [List.foldl_cons, ih, size_app]; simp [sumP]; omega
theorem catP_size (l : List (Int × ByteArray)) : (catP l).size = sumP l := by
  unfold catP
  rw [catP_from]
  show 0 + sumP l = sumP l
  omega
/-- The data that stand at a place. -/
def readD (msg : ByteArray) (i n : Nat) (t : Int) : Option ByteArray :=
  if (walkL msg (i + n) (partsL t) i).2 = some (i + n) ∧ sumP (walkL msg (i + n) (partsL t) i).1 ≤ 65535 then some (catP (walkL msg (i + n) (partsL t) i).1) else none
theorem enters_read1 : Enters Try.prog 145 := enters_of Try.func145 (by kernel_rfl) rfl
theorem read1_any (b : Nat) (l : List (Int × ByteArray)) (x : Int × ByteArray) (O : Nat → Prop) (w : World) (h : BldAt b (catP l) O w) (hb : (catP l).size + x.2.size ≤ 1000000000) :
    Calls Try.prog 145 #[.int .i64 x.1, .string x.2, .pointer (some ⟨b, 0, none⟩)] w fun e w' => e = .returned (.tuple #[]) ∧ ∃ O', BldAt b (catP (l ++ [x])) O' w' ∧ Ch O O' w w' := by
  have HW := Lib.hid (WriteString_any b (catP l) x.2 O w h (by omega))
  rw [catP_snoc]
  clear h
  go_enter Try.func145, Try.ntmps145
  go_wp2_with (go_at_call 93; refine HW.out.mono ?_; rintro e w1 ⟨rfl, O', hA, hch⟩)
  go_end0
  exact ⟨rfl, O', hA, hch⟩
/-- What Read answers. -/
def ReadDRet (w : World) (o : Option ByteArray) (e : Ending) (w' : World) : Prop := Below w.heap.size w w' ∧
  match o with
  | some s => e = .returned (.tuple #[.string s, .int .i64 0])
  | none => e = .returned (.tuple #[.string ⟨#[]⟩, .int .i64 2])

set_option maxHeartbeats 2000000 in
theorem ReadD_any (msg : ByteArray) (i n : Nat) (t : Int) (w : World) (hin : i + n ≤ msg.size) (hb : msg.size ≤ 16777216) :
    Calls Try.prog 116 #[.string msg, .int .i64 i, .int .i64 n, .int .i64 t] w (ReadDRet w (readD msg i n t)) := by
  have d1 : decide ((i : Int) < 0) = false := by simp
  have d2 : decide ((n : Int) < 0) = false := by simp
  have d3 : decide (msg.size < i) = false := by simp; omega
  have d4 : decide ((msg.size : Int) - (i : Int) < (n : Int)) = false := by simp; omega
  have hlen := walkL_len msg (i + n) (partsL t) i
  have hl7 := partsL_len t
  have hmem := walkL_mem msg (i + n) (partsL t) i
  have hwalk := walk_any 145 enters_read1 (.pointer (some ⟨w.heap.size, 0, none⟩)) msg i (i + n) t (fun l => BldAt w.heap.size (catP l)) (fun k => k = w.heap.size) (w.alloc (.cells #[.pointer none, .slice none 0 0] 152)) (by omega) hin (by omega) (fun l => bldAt_stab _ (catP l)) (fun k hk => by rw [sz_al]; omega)
    (bldAt_new w) (fun pre x O wr hJ hpre => read1_any _ pre x O wr hJ (by
      rw [catP_size]
      obtain ⟨suf, hsuf⟩ := hpre
      have h1 := sumP_le (255 + msg.size) (pre ++ [x]) (fun y hy => (hmem y (by rw [← hsuf]; simp at hy ⊢; rcases hy with h | h <;> simp [h])).1)
      rw [sumP_snoc] at h1
      have h2 : (pre ++ [x]).length ≤ 7 := by
        have := congrArg List.length hsuf
        simp at this ⊢
        omega
      have h3 : (pre ++ [x]).length * (255 + msg.size) ≤ 7 * (255 + msg.size) := Nat.mul_le_mul_right _ h2
      omega))
  have hfr : Below w.heap.size w (w.alloc (.cells #[.pointer none, .slice none 0 0] 152)) := ((Fr.refl (fun _ => False) w).alloc _).to_below (Nat.le_refl _) (by simp)
  unfold readD
  have hcs := catP_size (walkL msg (i + n) (partsL t) i).1
  generalize hR : walkL msg (i + n) (partsL t) i = R at *
  clear hR hmem hlen hl7
  have hmf : ∀ (fn : Fn) (first cap : Array Value) (w : World), (Instr.makeFunc fn first cap).run Try.prog w = .ok (.func fn first cap) w := fun _ _ _ _ => rfl
  rw [Int.natCast_add] at hwalk
  have HW := Lib.hid hwalk
  clear hwalk
  by_cases hb2 : R.2 = some (i + n)
  · have hb3 : (R.2 == some (i + n)) = true := by rw [hb2]; simp
    rw [hb3] at HW
    have hLen := fun (O : Nat → Prop) (w : World) h => BLen_any w.heap.size (catP R.1) O w h
    by_cases hbig : sumP R.1 ≤ 65535
    · rw [if_pos ⟨hb2, hbig⟩]
      have hd5 : decide (65535 < ((sumP R.1 : Nat) : Int)) = false := by simp; omega
      clear hb2 hbig
      go_enter Try.func116, Try.ntmps116
      go_wp2_with (first | (go_at_call 144; refine HW.out.mono ?_; rintro e w1 ⟨rfl, O', hA, hch⟩) | (go_at_call 146; refine (BLen_any _ _ _ _ hA).mono ?_; rintro e w2 ⟨rfl, rfl⟩) | (go_at_call 94; refine (BString_any _ _ _ _ hA).mono ?_; rintro e w3 ⟨rfl, hf3⟩))
      go_ret2
      have hb1 : Below w.heap.size w w2 := hfr.trans (hch.to_below (by rw [sz_al]; omega) (fun k hk => by omega))
      refine ⟨hb1.trans (hf3.to_below hb1.size (fun k hk ho => ?_)), rfl⟩
      rcases hch.new k ho with h1 | h1
      · omega
      · rw [sz_al] at h1; omega
    · rw [if_neg (fun h => hbig h.2)]
      have hd5 : decide (65535 < ((sumP R.1 : Nat) : Int)) = true := by simp; omega
      clear hb2 hbig
      go_enter Try.func116, Try.ntmps116
      go_wp2_with (first | (go_at_call 144; refine HW.out.mono ?_; rintro e w1 ⟨rfl, O', hA, hch⟩) | (go_at_call 146; refine (BLen_any _ _ _ _ hA).mono ?_; rintro e w2 ⟨rfl, rfl⟩))
      go_ret2
      exact ⟨hfr.trans (hch.to_below (by rw [sz_al]; omega) (fun k hk => by omega)), rfl⟩
  · have hb3 : (R.2 == some (i + n)) = false := by
      rw [beq_eq_false_iff_ne]
      exact hb2
    rw [hb3] at HW
    rw [if_neg (fun h => hb2 h.1)]
    clear hb2
    go_enter Try.func116, Try.ntmps116
    go_wp2_with (first | (go_at_call 144; refine HW.out.mono ?_; rintro e w1 ⟨rfl, O', hA, hch⟩))
    go_ret2
    exact ⟨hfr.trans (hch.to_below (by rw [sz_al]; omega) (fun k hk => by omega)), rfl⟩
end Go.Proofs.Ytajdlgbhofdafaa
