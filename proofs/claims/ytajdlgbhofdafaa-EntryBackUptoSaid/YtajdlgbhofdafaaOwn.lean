/- record.Write of what is not right; entry.Own. -/
import Derived.Test.YtajdlgbhofdafaaRecWrite
namespace Go.Proofs.Ytajdlgbhofdafaa
open Go.RowKit Go.Shelf
set_option maxRecDepth 1000000
attribute [local go_sem] Oper.semAt_some

set_option maxHeartbeats 4000000 in
/-- Write, of a record that is not right. -/
theorem WriteR_bad (b : Nat) (r : RRec) (w : World) (hr : rightR r = false) (hb : r.name.size ≤ 4398046511104) (hb2 : r.data.size ≤ 4398046511104) :
    Calls Try.prog 66 #[.pointer (some ⟨b, 0, none⟩), r.val] w fun e w' => e = .returned (.int .i64 2) ∧ Below w.heap.size w w' := by
  have hR := fun w => RightR_any r w hb hb2
  rw [hr] at hR
  have hz : (w.alloc (.cells r.cells 78)).heap.size = w.heap.size + 1 := sz_al _ _
  have hfr : Below w.heap.size w (w.alloc (.cells r.cells 78)) := ((Fr.refl (fun _ => False) w).alloc _).to_below (Nat.le_refl _) (by simp)
  have hbl := fun (w1 : World) (hB : Below (w.heap.size + 1) (w.alloc (.cells r.cells 78)) w1) => hfr.trans (hB.mono (show w.heap.size ≤ w.heap.size + 1 by omega))
  obtain ⟨nm, ty, c, tt, d⟩ := r
  dsimp only at *
  have HR := Lib.hid hR
  have HZ := Lib.hid hz
  have HBL := Lib.hid hbl
  clear hR hz hbl hr hb hb2
  go_enter Try.func66, Try.ntmps66
  go_wp2_with (go_at_call 74; refine (HR.out _).mono ?_; rintro e w1 ⟨rfl, hB1⟩; rw [HZ.out] at hB1)
  go_ret
  exact ⟨rfl, HBL.out _ hB1⟩

/-- A record's own bytes. -/
def ownR (r : RRec) : Option ByteArray := if rightR r = true then some (writeR (⟨#[]⟩, []) r).1 else none
/-- What a function of bytes and an error answers. -/
def BytesRet (w : World) (o : Option ByteArray) (e : Ending) (w' : World) : Prop := Below w.heap.size w w' ∧
  match o with
  | some s => e = .returned (.tuple #[.string s, .int .i64 0])
  | none => e = .returned (.tuple #[.string ⟨#[]⟩, .int .i64 2])
theorem knownOk_nil : KnownOk [] := fun p hp => absurd hp (by simp)

set_option maxHeartbeats 4000000 in
theorem Own_any (r : RRec) (w : World) (hb : r.name.size ≤ 4398046511104) (hb2 : r.data.size ≤ 4398046511104) :
    Calls Try.prog 91 #[r.val] w (BytesRet w (ownR r)) := by
  have hz : (w.alloc (.cells r.cells 78)).heap.size = w.heap.size + 1 := sz_al _ _
  have hfr : Below w.heap.size w (w.alloc (.cells r.cells 78)) := ((Fr.refl (fun _ => False) w).alloc _).to_below (Nat.le_refl _) (by simp)
  have hcl := fun (w1 : World) (hB : Below (w.heap.size + 1) (w.alloc (.cells r.cells 78)) w1) => rec_cells ((hB.block w.heap.size (by omega)).trans (by rw [hp_al, if_pos rfl]) : w1.heap[w.heap.size]? = some (.cells r.cells 78 (0, 0)))
  have hbl := fun (w1 : World) (hB : Below (w.heap.size + 1) (w.alloc (.cells r.cells 78)) w1) => hfr.trans (hB.mono (show w.heap.size ≤ w.heap.size + 1 by omega))
  have hN := New_pk (w.alloc (.cells r.cells 78))
  have hown : ownR r = if rightR r = true then some (writeR (⟨#[]⟩, []) r).1 else none := rfl
  cases hr : rightR r with
  | false =>
    rw [hr, if_neg Bool.false_ne_true] at hown
    rw [hown]
    have hW := fun b w => WriteR_bad b r w hr hb hb2
    obtain ⟨nm, ty, c, tt, d⟩ := r
    dsimp only at *
    have HW := Lib.hid hW
    have HZ := Lib.hid hz
    have HBL := Lib.hid hbl
    have HC := Lib.hid hcl
    have HN := Lib.hid hN
    clear hW hz hbl hcl hr hb hb2 hN hown
    go_enter Try.func91, Try.ntmps91
    go_wp2_with (first | (go_at_call 60; refine HN.out.mono ?_; rintro e w1 ⟨b, O, rfl, hp1, hch1⟩; have hB1 := hch1.to_below (Nat.le_refl _) (fun _ h => h.elim); rw [HZ.out] at hB1; obtain ⟨c0, c1, c2, c3, c4⟩ := HC.out _ hB1) | (go_at_call 66; refine (HW.out _ _).mono ?_; rintro e w2 ⟨rfl, hB2⟩))
    go_ret2
    exact ⟨(HBL.out _ hB1).trans (hB2.mono (HBL.out _ hB1).size), rfl⟩
  | true =>
    rw [hr, if_pos rfl] at hown
    rw [hown]
    have hW := fun b O w hp => WriteR_any b (⟨#[]⟩, []) r O w hp hr knownOk_nil (by decide)
    generalize writeR (⟨#[]⟩, []) r = S at *
    obtain ⟨nm, ty, c, tt, d⟩ := r
    dsimp only at *
    have HW := Lib.hid hW
    have HZ := Lib.hid hz
    have HBL := Lib.hid hbl
    have HC := Lib.hid hcl
    have HN := Lib.hid hN
    clear hW hz hbl hcl hr hb hb2 hN hown
    go_enter Try.func91, Try.ntmps91
    go_wp2_with (first | (go_at_call 60; refine HN.out.mono ?_; rintro e w1 ⟨b, O, rfl, hp1, hch1⟩; have hB1 := hch1.to_below (Nat.le_refl _) (fun _ h => h.elim); rw [HZ.out] at hB1; obtain ⟨c0, c1, c2, c3, c4⟩ := HC.out _ hB1) | (go_at_call 66; refine (HW.out _ _ _ hp1).mono ?_; rintro e w2 ⟨rfl, O2, hp2, hch2⟩) | (go_at_call 67; refine (Bytes_pk _ _ _ _ hp2).mono ?_; rintro e w3 ⟨rfl, rfl⟩))
    go_ret2
    have hO := hch1.ge (B := w.heap.size + 1) (fun _ h => h.elim) (by rw [HZ.out]; exact Nat.le_refl _)
    exact ⟨(HBL.out _ hB1).trans (hch2.to_below (HBL.out _ hB1).size (fun k hk => by have := hO k hk; omega)), rfl⟩
end Go.Proofs.Ytajdlgbhofdafaa
