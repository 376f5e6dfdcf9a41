/- record.typed, record.Right, record.data. record.data. -/
import Derived.Test.YtajdlgbhofdafaaDataWrite
import Derived.Test.YtajdlgbhofdafaaDataRead
import Derived.Test.YtajdlgbhofdafaaClone
namespace Go.Proofs.Ytajdlgbhofdafaa
open Go.RowKit Go.Shelf
set_option maxRecDepth 1000000
attribute [local go_sem] Oper.semAt_some

/-- A record. -/
structure RRec where
  name : ByteArray
  typ : Int
  cls : Int
  ttl : Int
  data : ByteArray
abbrev RRec.cells (r : RRec) : Array Value := #[.string r.name, .int .i64 r.typ, .int .i64 r.cls, .int .i64 r.ttl, .string r.data]
abbrev RRec.val (r : RRec) : Value := .agg r.cells
def typedB (r : RRec) : Bool := r.cls == 1 || (r.cls == 254 && !(r.data.size == 0))

set_option maxHeartbeats 1000000 in
theorem typed_any (r : RRec) (w : World) : Calls Try.prog 115 #[r.val] w fun e w' => e = .returned (.bool (typedB r)) ∧ Below w.heap.size w w' := by
  have hfr : Below w.heap.size w (w.alloc (.cells r.cells 78)) := ((Fr.refl (fun _ => False) w).alloc _).to_below (Nat.le_refl _) (by simp)
  unfold typedB
  obtain ⟨nm, ty, c, tt, d⟩ := r
  dsimp only at *
  by_cases h1 : c = 1
  · subst h1
    go_enter Try.func115, Try.ntmps115
    go_wp2
    go_ret
    exact ⟨rfl, hfr⟩
  have e1 : (c == 1) = false := by simpa using h1
  by_cases h2 : c = 254
  · subst h2
    by_cases h3 : d.size = 0
    · have := size0 h3
      subst this
      go_enter Try.func115, Try.ntmps115
      go_wp2
      go_ret
      exact ⟨rfl, hfr⟩
    · have hne := isE h3
      have e3 : (d.size == 0) = false := by simpa using h3
      go_enter Try.func115, Try.ntmps115
      go_wp2
      go_ret
      exact ⟨ret_bool (by simp [e3, hne]), hfr⟩
  · have e2 : (c == 254) = false := by simpa using h2
    go_enter Try.func115, Try.ntmps115
    go_wp2
    go_ret
    exact ⟨ret_bool (by simp [e1, e2]), hfr⟩

theorem rec_cells {w : World} {b : Nat} {r : RRec} (h : w.heap[b]? = some (.cells r.cells 78 (0, 0))) : w.cell? ⟨b, 0, none⟩ = some (.string r.name) ∧ w.cell? ⟨b, 1, none⟩ = some (.int .i64 r.typ) ∧ w.cell? ⟨b, 2, none⟩ = some (.int .i64 r.cls) ∧ w.cell? ⟨b, 3, none⟩ = some (.int .i64 r.ttl) ∧ w.cell? ⟨b, 4, none⟩ = some (.string r.data) :=
  ⟨cell_at h rfl, cell_at h rfl, cell_at h rfl, cell_at h rfl, cell_at h rfl⟩
/-- A right record. -/
def rightR (r : RRec) : Bool :=
  rightB r.name && !(decide (r.typ < 0)) && !(decide (65535 < r.typ)) && !(decide (r.cls < 0)) && !(decide (65535 < r.cls)) && !(decide (r.ttl < 0)) && !(decide (2147483647 < r.ttl)) && !(decide (65535 < (r.data.size : Int))) && (!(typedB r) || rightD r.typ r.data)

set_option maxHeartbeats 2000000 in
theorem RightR_any (r : RRec) (w : World) (hb : r.name.size ≤ 4398046511104) (hb2 : r.data.size ≤ 4398046511104) :
    Calls Try.prog 74 #[r.val] w fun e w' => e = .returned (.bool (rightR r)) ∧ Below w.heap.size w w' := by
  have hR := fun w => Right_any r.name w (by omega)
  have hT := fun w => typed_any r w
  have hD := fun w => RightD_any r.typ r.data w hb2
  have hz : (w.alloc (.cells r.cells 78)).heap.size = w.heap.size + 1 := sz_al _ _
  have hfr : Below w.heap.size w (w.alloc (.cells r.cells 78)) := ((Fr.refl (fun _ => False) w).alloc _).to_below (Nat.le_refl _) (by simp)
  have hcl := fun (w1 : World) (hB : Below (w.heap.size + 1) (w.alloc (.cells r.cells 78)) w1) => rec_cells ((hB.block w.heap.size (by omega)).trans (by rw [hp_al, if_pos rfl]) : w1.heap[w.heap.size]? = some (.cells r.cells 78 (0, 0)))
  have hbl := fun (w1 : World) (hB : Below (w.heap.size + 1) (w.alloc (.cells r.cells 78)) w1) => hfr.trans (hB.mono (show w.heap.size ≤ w.heap.size + 1 by omega))
  have hrr : rightR r = (rightB r.name && !(decide (r.typ < 0)) && !(decide (65535 < r.typ)) && !(decide (r.cls < 0)) && !(decide (65535 < r.cls)) && !(decide (r.ttl < 0)) && !(decide (2147483647 < r.ttl)) && !(decide (65535 < (r.data.size : Int))) && (!(typedB r) || rightD r.typ r.data)) := rfl
  rw [hrr]
  clear hrr hb hb2
  generalize typedB r = tb at *
  generalize rightD r.typ r.data = db at *
  generalize rightB r.name = nb at *
  obtain ⟨nm, ty, c, tt, d⟩ := r
  dsimp only at *
  have HR := Lib.hid hR
  have HT := Lib.hid hT
  have HD := Lib.hid hD
  have HC := Lib.hid hcl
  have HBL := Lib.hid hbl
  have HZ := Lib.hid hz
  clear hR hT hD hcl hbl hz
  have hwalk : True := trivial
  cases nb with
  | false =>
    go_enter Try.func74, Try.ntmps74
    go_wp2_with (first | (go_at_call 109; refine (HR.out _).mono ?_; rintro e w1 ⟨rfl, hB1⟩; rw [HZ.out] at hB1; obtain ⟨c0, c1, c2, c3, c4⟩ := HC.out _ hB1))
    go_ret
    exact ⟨rfl, HBL.out _ hB1⟩
  | true =>
    by_cases h1 : ty < 0
    · have dh1 : decide (ty < 0) = true := by simpa using h1
      go_enter Try.func74, Try.ntmps74
      go_wp2_with (first | (go_at_call 109; refine (HR.out _).mono ?_; rintro e w1 ⟨rfl, hB1⟩; rw [HZ.out] at hB1; obtain ⟨c0, c1, c2, c3, c4⟩ := HC.out _ hB1))
      go_ret
      exact ⟨ret_bool (by simp [*]), HBL.out _ hB1⟩
    have dh1 : decide (ty < 0) = false := by simpa using h1
    by_cases h2 : 65535 < ty
    · have dh2 : decide (65535 < ty) = true := by simpa using h2
      go_enter Try.func74, Try.ntmps74
      go_wp2_with (first | (go_at_call 109; refine (HR.out _).mono ?_; rintro e w1 ⟨rfl, hB1⟩; rw [HZ.out] at hB1; obtain ⟨c0, c1, c2, c3, c4⟩ := HC.out _ hB1))
      go_ret
      exact ⟨ret_bool (by simp [*]), HBL.out _ hB1⟩
    have dh2 : decide (65535 < ty) = false := by simpa using h2
    by_cases h3 : c < 0
    · have dh3 : decide (c < 0) = true := by simpa using h3
      go_enter Try.func74, Try.ntmps74
      go_wp2_with (first | (go_at_call 109; refine (HR.out _).mono ?_; rintro e w1 ⟨rfl, hB1⟩; rw [HZ.out] at hB1; obtain ⟨c0, c1, c2, c3, c4⟩ := HC.out _ hB1))
      go_ret
      exact ⟨ret_bool (by simp [*]), HBL.out _ hB1⟩
    have dh3 : decide (c < 0) = false := by simpa using h3
    by_cases h4 : 65535 < c
    · have dh4 : decide (65535 < c) = true := by simpa using h4
      go_enter Try.func74, Try.ntmps74
      go_wp2_with (first | (go_at_call 109; refine (HR.out _).mono ?_; rintro e w1 ⟨rfl, hB1⟩; rw [HZ.out] at hB1; obtain ⟨c0, c1, c2, c3, c4⟩ := HC.out _ hB1))
      go_ret
      exact ⟨ret_bool (by simp [*]), HBL.out _ hB1⟩
    have dh4 : decide (65535 < c) = false := by simpa using h4
    by_cases h5 : tt < 0
    · have dh5 : decide (tt < 0) = true := by simpa using h5
      go_enter Try.func74, Try.ntmps74
      go_wp2_with (first | (go_at_call 109; refine (HR.out _).mono ?_; rintro e w1 ⟨rfl, hB1⟩; rw [HZ.out] at hB1; obtain ⟨c0, c1, c2, c3, c4⟩ := HC.out _ hB1))
      go_ret
      exact ⟨ret_bool (by simp [*]), HBL.out _ hB1⟩
    have dh5 : decide (tt < 0) = false := by simpa using h5
    by_cases h6 : 2147483647 < tt
    · have dh6 : decide (2147483647 < tt) = true := by simpa using h6
      go_enter Try.func74, Try.ntmps74
      go_wp2_with (first | (go_at_call 109; refine (HR.out _).mono ?_; rintro e w1 ⟨rfl, hB1⟩; rw [HZ.out] at hB1; obtain ⟨c0, c1, c2, c3, c4⟩ := HC.out _ hB1))
      go_ret
      exact ⟨ret_bool (by simp [*]), HBL.out _ hB1⟩
    have dh6 : decide (2147483647 < tt) = false := by simpa using h6
    by_cases h7 : 65535 < (d.size : Int)
    · have dh7 : decide (65535 < (d.size : Int)) = true := by simpa using h7
      go_enter Try.func74, Try.ntmps74
      go_wp2_with (first | (go_at_call 109; refine (HR.out _).mono ?_; rintro e w1 ⟨rfl, hB1⟩; rw [HZ.out] at hB1; obtain ⟨c0, c1, c2, c3, c4⟩ := HC.out _ hB1))
      go_ret
      exact ⟨ret_bool (by simp [*]), HBL.out _ hB1⟩
    have dh7 : decide (65535 < (d.size : Int)) = false := by simpa using h7
    clear h1 h2 h3 h4 h5 h6 h7
    cases tb with
    | false =>
      go_enter Try.func74, Try.ntmps74
      go_wp2_with (first | (go_at_call 109; refine (HR.out _).mono ?_; rintro e w1 ⟨rfl, hB1⟩; rw [HZ.out] at hB1; obtain ⟨c0, c1, c2, c3, c4⟩ := HC.out _ hB1) | (go_at_call 115; refine (HT.out _).mono ?_; rintro e w2 ⟨rfl, hB2⟩; have hB3 := hB1.trans (hB2.mono (by have := hB1.size; rw [HZ.out] at this; omega)); obtain ⟨e0, e1, e2, e3, e4⟩ := HC.out _ hB3) | (go_at_call 118; refine (HD.out _).mono ?_; rintro e w3 ⟨rfl, hB4⟩; have hB5 := hB3.trans (hB4.mono (by have := hB3.size; rw [HZ.out] at this; omega))))
      go_ret
      exact ⟨ret_bool (by simp [*]), HBL.out _ hB3⟩
    | true =>
      go_enter Try.func74, Try.ntmps74
      go_wp2_with (first | (go_at_call 109; refine (HR.out _).mono ?_; rintro e w1 ⟨rfl, hB1⟩; rw [HZ.out] at hB1; obtain ⟨c0, c1, c2, c3, c4⟩ := HC.out _ hB1) | (go_at_call 115; refine (HT.out _).mono ?_; rintro e w2 ⟨rfl, hB2⟩; have hB3 := hB1.trans (hB2.mono (by have := hB1.size; rw [HZ.out] at this; omega)); obtain ⟨e0, e1, e2, e3, e4⟩ := HC.out _ hB3) | (go_at_call 118; refine (HD.out _).mono ?_; rintro e w3 ⟨rfl, hB4⟩; have hB5 := hB3.trans (hB4.mono (by have := hB3.size; rw [HZ.out] at this; omega))))
      go_ret
      exact ⟨ret_bool (by simp [*]), HBL.out _ hB5⟩
end Go.Proofs.Ytajdlgbhofdafaa
namespace Go.Proofs.Ytajdlgbhofdafaa
open Go.RowKit Go.Shelf
set_option maxRecDepth 1000000
attribute [local go_sem] Oper.semAt_some

/-- A packer's state behind a record's data. -/
def dataR (st : ByteArray × Known) (r : RRec) : ByteArray × Known := if typedB r then writeD st r.typ r.data else (st.1 ++ r.data, st.2)
theorem rightR_typed {r : RRec} (h : rightR r = true) : typedB r = true → rightD r.typ r.data = true := by
  unfold rightR at h
  simp only [Bool.and_eq_true, Bool.or_eq_true, Bool.not_eq_true'] at h
  intro ht
  rcases h.2 with h2 | h2
  · rw [ht] at h2; cases h2
  · exact h2
set_option maxHeartbeats 2000000 in
theorem dataR_any (b : Nat) (st : ByteArray × Known) (r : RRec) (O : Nat → Prop) (w : World) (h : PkAt b st O w) (hr : rightR r = true) (hk : KnownOk st.2) (hb : st.1.size + r.data.size ≤ 1000000000) :
    Calls Try.prog 112 #[.pointer (some ⟨b, 0, none⟩), r.val] w fun e w' => e = .returned (.tuple #[]) ∧ ∃ O', PkAt b (dataR st r) O' w' ∧ Ch O O' w w' := by
  have hT := fun w => typed_any r w
  have hz : (w.alloc (.cells r.cells 78)).heap.size = w.heap.size + 1 := sz_al _ _
  have hfr : Below w.heap.size w (w.alloc (.cells r.cells 78)) := ((Fr.refl (fun _ => False) w).alloc _).to_below (Nat.le_refl _) (by simp)
  have hcl := fun (w1 : World) (hB : Below (w.heap.size + 1) (w.alloc (.cells r.cells 78)) w1) => rec_cells ((hB.block w.heap.size (by omega)).trans (by rw [hp_al, if_pos rfl]) : w1.heap[w.heap.size]? = some (.cells r.cells 78 (0, 0)))
  have hbl := fun (w1 : World) (hB : Below (w.heap.size + 1) (w.alloc (.cells r.cells 78)) w1) => hfr.trans (hB.mono (show w.heap.size ≤ w.heap.size + 1 by omega))
  have hpk := fun (w1 : World) (hB : Below w.heap.size w w1) => pkAt_stab b st O w w1 h (fun k _ hl => hB.block k hl)
  have hrt := rightR_typed hr
  have hraw := fun (w1 : World) (hp : PkAt b st O w1) => Raw_pk b st.1 r.data st.2 O w1 hp (by omega)
  have hwr := fun (w1 : World) (hp : PkAt b st O w1) (hd : rightD r.typ r.data = true) => WriteD_any b st r.typ r.data O w1 hp hd hk hb
  unfold dataR
  generalize typedB r = tb at *
  generalize writeD st r.typ r.data = sd at *
  generalize rightD r.typ r.data = db at *
  clear hb hk hr h
  obtain ⟨nm, ty, c, tt, d⟩ := r
  dsimp only at *
  have HT := Lib.hid hT
  have HC := Lib.hid hcl
  have HBL := Lib.hid hbl
  have HZ := Lib.hid hz
  have HP := Lib.hid hpk
  cases tb with
  | true =>
    have HW := Lib.hid (fun w1 hp => hwr w1 hp (hrt rfl))
    clear hT hcl hbl hz hpk hrt hraw hwr
    go_enter Try.func112, Try.ntmps112
    go_wp2_with (first | (go_at_call 115; refine (HT.out _).mono ?_; rintro e w1 ⟨rfl, hB1⟩; rw [HZ.out] at hB1; obtain ⟨c0, c1, c2, c3, c4⟩ := HC.out _ hB1) | (go_at_call 142; refine (HW.out _ (HP.out _ (HBL.out _ hB1))).mono ?_; rintro e w2 ⟨rfl, O2, hp2, hch2⟩))
    refine bodyPost_ret (results_none rfl _ _ _) rfl ?_
    exact ⟨rfl, O2, hp2, ((Ch.refl O w).below (HBL.out _ hB1)).trans hch2⟩
  | false =>
    have HW := Lib.hid hraw
    clear hT hcl hbl hz hpk hrt hraw hwr
    go_enter Try.func112, Try.ntmps112
    go_wp2_with (first | (go_at_call 115; refine (HT.out _).mono ?_; rintro e w1 ⟨rfl, hB1⟩; rw [HZ.out] at hB1; obtain ⟨c0, c1, c2, c3, c4⟩ := HC.out _ hB1) | (go_at_call 62; refine (HW.out _ (HP.out _ (HBL.out _ hB1))).mono ?_; rintro e w2 ⟨rfl, O2, hp2, hch2⟩))
    go_end0
    exact ⟨rfl, O2, hp2, ((Ch.refl O w).below (HBL.out _ hB1)).trans hch2⟩
end Go.Proofs.Ytajdlgbhofdafaa
