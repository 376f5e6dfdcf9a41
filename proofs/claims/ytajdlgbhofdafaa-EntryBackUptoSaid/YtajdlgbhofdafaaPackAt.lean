/- pack: the reading functions' contracts. -/
import Derived.Test.YtajdlgbhofdafaaName
import Derived.Test.YtajdlgbhofdafaaWords2
namespace Go.Proofs.Ytajdlgbhofdafaa
open Go.RowKit Go.Shelf Go.Proofs.YtajdlgbhofdafaaW.PrintWords Go.Proofs.YtajdlgbhofdafaaW.PrintLast Go.Proofs.YtajdlgbhofdafaaW.PrintMore
set_option maxRecDepth 1000000

/-- A pointer that stands at a place. -/
def ptrB (msg : ByteArray) (i : Nat) : Option (ByteArray × Int × Nat) :=
  match fieldsB [2] (msg.extract i msg.size) with
  | some (v :: _, _) => if v < 49152 then none else some (⟨#[]⟩, v - 49152, i + 2)
  | _ => none
def atO (msg : ByteArray) (i : Nat) : Option (ByteArray × ByteArray) → Option (ByteArray × Int × Nat)
  | some (s, rest) => if s.size ≤ 63 then some (msg.extract i (msg.size - rest.size), -1, msg.size - rest.size) else ptrB msg i
  | none => ptrB msg i
/-- What stands at a place: a label's bytes, or a pointer's place; and what is next. -/
def atB (msg : ByteArray) (i : Nat) : Option (ByteArray × Int × Nat) := atO msg i (cutB 1 (msg.extract i msg.size))

/-- What at answers. -/
def AtRet (w : World) (o : Option (ByteArray × Int × Nat)) (e : Ending) (w' : World) : Prop := Below w.heap.size w w' ∧
  match o with
  | some (s, pt, next) => e = .returned (.tuple #[.agg #[.string s, .int .i64 pt, .int .i64 next], .bool true])
  | none => e = .returned (.tuple #[.agg #[.string ⟨#[]⟩, .int .i64 0, .int .i64 0], .bool false])

set_option maxHeartbeats 1000000 in
theorem at_any (msg : ByteArray) (i : Nat) (w : World) (hi : i ≤ msg.size) (hb : msg.size ≤ 4398046511104) :
    Calls Try.prog 143 #[.string msg, .int .i64 i] w (AtRet w (atB msg i)) := by
  have hsz : (msg.extract i msg.size).size = msg.size - i := by simp
  have hC := fun w => Cut_any 1 (msg.extract i msg.size) w (by omega) (.inl rfl)
  unfold atB
  generalize hcb : cutB 1 (msg.extract i msg.size) = oc at *
  have hN := fun (B : World) (h : Below (w.heap.size + 1) (w.alloc (.cells #[.string ⟨#[]⟩, .int .i64 0, .int .i64 0] 214)) B) => (h.block w.heap.size (by omega)).trans (show _ = some (.cells #[.string ⟨#[]⟩, .int .i64 0, .int .i64 0] 214) from by rw [hp_al, if_pos rfl])
  have HN := Lib.hid hN
  clear hN
  by_cases hgood : ∃ s rest, oc = some (s, rest) ∧ s.size ≤ 63
  · obtain ⟨s, rest, rfl, hs⟩ := hgood
    have hcs := cutB_size hcb
    have HC := Lib.hid hC
    have hrs : rest.size ≤ msg.size := by omega
    have hin : i ≤ msg.size - rest.size := by omega
    rw [show atO msg i (some (s, rest)) = some (msg.extract i (msg.size - rest.size), -1, msg.size - rest.size) from if_pos hs]
    clear hC hcb hcs hsz
    go_enter Try.func143, Try.ntmps143
    go_wp2_with (go_at_call 165; refine (HC.out _).mono ?_; rintro e w1 ⟨hB, rfl⟩; rw [sz_al] at hB; have c0 := cell_at (o := 0) (v := .string ⟨#[]⟩) (HN.out _ hB) rfl; have c1 := cell_at (o := 1) (v := .int .i64 0) (HN.out _ hB) rfl; have c2 := cell_at (o := 2) (v := .int .i64 0) (HN.out _ hB) rfl; have f0 := froz_at (o := 0) (HN.out _ hB); have f1 := froz_at (o := 1) (HN.out _ hB); have f2 := froz_at (o := 2) (HN.out _ hB))
    have hfr : Below w.heap.size w w1 := (((Fr.refl (fun _ => False) w).alloc _).to_below (Nat.le_refl _) (by simp)).trans (hB.mono (by omega))
    have hcast : ((msg.size - rest.size : Nat) : Int) = (msg.size : Int) - (rest.size : Int) := by omega
    refine bodyPost_ret (v := .tuple #[.agg #[.string (msg.extract i (msg.size - rest.size)), .int .i64 (-1), .int .i64 ((msg.size : Int) - (rest.size : Int))], .bool true]) (by simp [results, Try.results143, go_sem, c0, c1, c2]) rfl ⟨((hfr.setCell (by simp) _).setCell (by simp) _).setCell (by simp) _, ?_⟩
    dsimp only
    rw [hcast]
  · have hptr : atO msg i oc = ptrB msg i := by
      cases oc with
      | none => rfl
      | some p => exact if_neg (fun h => hgood ⟨p.1, p.2, rfl, h⟩)
    rw [hptr]
    clear hptr
    have hS := fun a (w : World) ha => Split_any a 1 [2] (msg.extract i msg.size) w ha (by omega) (by simp) (by simp)
    unfold ptrB
    generalize hfb : fieldsB [2] (msg.extract i msg.size) = ofs at *
    have HC := Lib.hid hC
    have HS := Lib.hid hS
    clear hC hS
    have hfs : ofs = none ∨ ∃ (v : Nat) (t : ByteArray), ofs = some ([(v : Int)], t) ∧ v < 65536 := by
      rw [← hfb, fieldsB]
      by_cases h2 : (msg.extract i msg.size).size < 2
      · exact .inl (if_pos h2)
      · refine .inr ⟨_, _, by rw [if_neg h2, fieldsB]; rfl, ?_⟩
        refine Nat.lt_of_lt_of_le (beN_lt _) ?_
        rw [show (65536 : Nat) = 256 ^ 2 from by decide]
        refine Nat.pow_le_pow_right (by omega) ?_
        simp
        omega
    clear hfb
    by_cases hbig : ∃ s rest, oc = some (s, rest)
    · obtain ⟨s, rest, rfl⟩ := hbig
      have hs63 : 63 < s.size := by
        refine Nat.lt_of_not_le (fun h => hgood ⟨s, rest, rfl, h⟩)
      clear hgood hcb
      rcases hfs with rfl | ⟨v, t, rfl, hv⟩
      · go_enter Try.func143, Try.ntmps143
        go_wp2_with (first | (go_at_call 165; refine (HC.out _).mono ?_; rintro e w1 ⟨hB, rfl⟩; rw [sz_al] at hB) | (go_at_call 42; refine (HS.out w1.heap.size (w1.alloc (.cells #[.int .i64 2] 3)) (by rw [hp_al, if_pos rfl]; rfl)).mono ?_; rintro e w2 ⟨hB2, rfl⟩; have hs2 := hB2.size; rw [sz_al] at hs2 hB2; have hB3 : Below (w.heap.size + 1) (w.alloc (.cells #[.string ⟨#[]⟩, .int .i64 0, .int .i64 0] 214)) w2 := (hB.trans (((Fr.refl (fun _ => False) w1).alloc _).to_below (by have := hB.size; rw [sz_al] at this; omega) (by simp))).trans (hB2.mono (by have := hB.size; rw [sz_al] at this; omega)); have c0 := cell_at (o := 0) (v := .string ⟨#[]⟩) (HN.out _ hB3) rfl; have c1 := cell_at (o := 1) (v := .int .i64 0) (HN.out _ hB3) rfl; have c2 := cell_at (o := 2) (v := .int .i64 0) (HN.out _ hB3) rfl; have f0 := froz_at (o := 0) (HN.out _ hB3); have f1 := froz_at (o := 1) (HN.out _ hB3); have f2 := froz_at (o := 2) (HN.out _ hB3)))
        have hfr : Below w.heap.size w w2 := (((Fr.refl (fun _ => False) w).alloc _).to_below (Nat.le_refl _) (by simp)).trans (hB3.mono (by omega))
        refine bodyPost_ret (v := .tuple #[.agg #[.string ⟨#[]⟩, .int .i64 0, .int .i64 0], .bool false]) (by simp [results, Try.results143, go_sem, c0, c1, c2]) rfl ⟨((hfr.setCell (by simp) _).setCell (by simp) _).setCell (by simp) _, ?_⟩
        rfl
      · by_cases hlt : (v : Int) < 49152
        · rw [show (match some ([(v : Int)], t) with | some (v :: _, _) => if v < 49152 then none else some (⟨#[]⟩, v - 49152, i + 2) | _ => none) = (none : Option (ByteArray × Int × Nat)) from if_pos hlt]
          go_enter Try.func143, Try.ntmps143
          go_wp2_with (first | (go_at_call 165; refine (HC.out _).mono ?_; rintro e w1 ⟨hB, rfl⟩; rw [sz_al] at hB) | (go_at_call 42; refine (HS.out w1.heap.size (w1.alloc (.cells #[.int .i64 2] 3)) (by rw [hp_al, if_pos rfl]; rfl)).mono ?_; rintro e w2 ⟨hB2, vv, rfl, hR⟩; obtain ⟨gg, cc, rfl, hg1, hg2, hcc, hcl⟩ := R_ints hR (by simp); have hcell := hcl 0 _ rfl; clear hcl hR; have hs2 := hB2.size; rw [sz_al] at hs2 hB2; have hB3 : Below (w.heap.size + 1) (w.alloc (.cells #[.string ⟨#[]⟩, .int .i64 0, .int .i64 0] 214)) w2 := (hB.trans (((Fr.refl (fun _ => False) w1).alloc _).to_below (by have := hB.size; rw [sz_al] at this; omega) (by simp))).trans (hB2.mono (by have := hB.size; rw [sz_al] at this; omega)); have c0 := cell_at (o := 0) (v := .string ⟨#[]⟩) (HN.out _ hB3) rfl; have c1 := cell_at (o := 1) (v := .int .i64 0) (HN.out _ hB3) rfl; have c2 := cell_at (o := 2) (v := .int .i64 0) (HN.out _ hB3) rfl; have f0 := froz_at (o := 0) (HN.out _ hB3); have f1 := froz_at (o := 1) (HN.out _ hB3); have f2 := froz_at (o := 2) (HN.out _ hB3)))
          have hfr : Below w.heap.size w w2 := (((Fr.refl (fun _ => False) w).alloc _).to_below (Nat.le_refl _) (by simp)).trans (hB3.mono (by omega))
          refine bodyPost_ret (v := .tuple #[.agg #[.string ⟨#[]⟩, .int .i64 0, .int .i64 0], .bool false]) (by simp [results, Try.results143, go_sem, c0, c1, c2]) rfl ⟨((hfr.setCell (by simp) _).setCell (by simp) _).setCell (by simp) _, ?_⟩
          rfl
        · rw [show (match some ([(v : Int)], t) with | some (v :: _, _) => if v < 49152 then none else some (⟨#[]⟩, v - 49152, i + 2) | _ => none) = (some (⟨#[]⟩, (v : Int) - 49152, i + 2) : Option (ByteArray × Int × Nat)) from if_neg hlt]
          go_enter Try.func143, Try.ntmps143
          go_wp2_with (first | (go_at_call 165; refine (HC.out _).mono ?_; rintro e w1 ⟨hB, rfl⟩; rw [sz_al] at hB) | (go_at_call 42; refine (HS.out w1.heap.size (w1.alloc (.cells #[.int .i64 2] 3)) (by rw [hp_al, if_pos rfl]; rfl)).mono ?_; rintro e w2 ⟨hB2, vv, rfl, hR⟩; obtain ⟨gg, cc, rfl, hg1, hg2, hcc, hcl⟩ := R_ints hR (by simp); have hcell := hcl 0 _ rfl; clear hcl hR; have hs2 := hB2.size; rw [sz_al] at hs2 hB2; have hB3 : Below (w.heap.size + 1) (w.alloc (.cells #[.string ⟨#[]⟩, .int .i64 0, .int .i64 0] 214)) w2 := (hB.trans (((Fr.refl (fun _ => False) w1).alloc _).to_below (by have := hB.size; rw [sz_al] at this; omega) (by simp))).trans (hB2.mono (by have := hB.size; rw [sz_al] at this; omega)); have c0 := cell_at (o := 0) (v := .string ⟨#[]⟩) (HN.out _ hB3) rfl; have c1 := cell_at (o := 1) (v := .int .i64 0) (HN.out _ hB3) rfl; have c2 := cell_at (o := 2) (v := .int .i64 0) (HN.out _ hB3) rfl; have f0 := froz_at (o := 0) (HN.out _ hB3); have f1 := froz_at (o := 1) (HN.out _ hB3); have f2 := froz_at (o := 2) (HN.out _ hB3)))
          have hfr : Below w.heap.size w w2 := (((Fr.refl (fun _ => False) w).alloc _).to_below (Nat.le_refl _) (by simp)).trans (hB3.mono (by omega))
          refine bodyPost_ret (v := .tuple #[.agg #[.string ⟨#[]⟩, .int .i64 ((v : Int) - 49152), .int .i64 ((i : Int) + 2)], .bool true]) (by simp [results, Try.results143, go_sem, c0, c1, c2]) rfl ⟨((hfr.setCell (by simp) _).setCell (by simp) _).setCell (by simp) _, ?_⟩
          rfl
    · obtain rfl : oc = none := by
        cases oc with
        | none => rfl
        | some p => exact absurd ⟨p.1, p.2, rfl⟩ hbig
      clear hbig hgood hcb
      rcases hfs with rfl | ⟨v, t, rfl, hv⟩
      · go_enter Try.func143, Try.ntmps143
        go_wp2_with (first | (go_at_call 165; refine (HC.out _).mono ?_; rintro e w1 ⟨hB, rfl⟩; rw [sz_al] at hB) | (go_at_call 42; refine (HS.out w1.heap.size (w1.alloc (.cells #[.int .i64 2] 3)) (by rw [hp_al, if_pos rfl]; rfl)).mono ?_; rintro e w2 ⟨hB2, rfl⟩; have hs2 := hB2.size; rw [sz_al] at hs2 hB2; have hB3 : Below (w.heap.size + 1) (w.alloc (.cells #[.string ⟨#[]⟩, .int .i64 0, .int .i64 0] 214)) w2 := (hB.trans (((Fr.refl (fun _ => False) w1).alloc _).to_below (by have := hB.size; rw [sz_al] at this; omega) (by simp))).trans (hB2.mono (by have := hB.size; rw [sz_al] at this; omega)); have c0 := cell_at (o := 0) (v := .string ⟨#[]⟩) (HN.out _ hB3) rfl; have c1 := cell_at (o := 1) (v := .int .i64 0) (HN.out _ hB3) rfl; have c2 := cell_at (o := 2) (v := .int .i64 0) (HN.out _ hB3) rfl; have f0 := froz_at (o := 0) (HN.out _ hB3); have f1 := froz_at (o := 1) (HN.out _ hB3); have f2 := froz_at (o := 2) (HN.out _ hB3)))
        have hfr : Below w.heap.size w w2 := (((Fr.refl (fun _ => False) w).alloc _).to_below (Nat.le_refl _) (by simp)).trans (hB3.mono (by omega))
        refine bodyPost_ret (v := .tuple #[.agg #[.string ⟨#[]⟩, .int .i64 0, .int .i64 0], .bool false]) (by simp [results, Try.results143, go_sem, c0, c1, c2]) rfl ⟨((hfr.setCell (by simp) _).setCell (by simp) _).setCell (by simp) _, ?_⟩
        rfl
      · by_cases hlt : (v : Int) < 49152
        · rw [show (match some ([(v : Int)], t) with | some (v :: _, _) => if v < 49152 then none else some (⟨#[]⟩, v - 49152, i + 2) | _ => none) = (none : Option (ByteArray × Int × Nat)) from if_pos hlt]
          go_enter Try.func143, Try.ntmps143
          go_wp2_with (first | (go_at_call 165; refine (HC.out _).mono ?_; rintro e w1 ⟨hB, rfl⟩; rw [sz_al] at hB) | (go_at_call 42; refine (HS.out w1.heap.size (w1.alloc (.cells #[.int .i64 2] 3)) (by rw [hp_al, if_pos rfl]; rfl)).mono ?_; rintro e w2 ⟨hB2, vv, rfl, hR⟩; obtain ⟨gg, cc, rfl, hg1, hg2, hcc, hcl⟩ := R_ints hR (by simp); have hcell := hcl 0 _ rfl; clear hcl hR; have hs2 := hB2.size; rw [sz_al] at hs2 hB2; have hB3 : Below (w.heap.size + 1) (w.alloc (.cells #[.string ⟨#[]⟩, .int .i64 0, .int .i64 0] 214)) w2 := (hB.trans (((Fr.refl (fun _ => False) w1).alloc _).to_below (by have := hB.size; rw [sz_al] at this; omega) (by simp))).trans (hB2.mono (by have := hB.size; rw [sz_al] at this; omega)); have c0 := cell_at (o := 0) (v := .string ⟨#[]⟩) (HN.out _ hB3) rfl; have c1 := cell_at (o := 1) (v := .int .i64 0) (HN.out _ hB3) rfl; have c2 := cell_at (o := 2) (v := .int .i64 0) (HN.out _ hB3) rfl; have f0 := froz_at (o := 0) (HN.out _ hB3); have f1 := froz_at (o := 1) (HN.out _ hB3); have f2 := froz_at (o := 2) (HN.out _ hB3)))
          have hfr : Below w.heap.size w w2 := (((Fr.refl (fun _ => False) w).alloc _).to_below (Nat.le_refl _) (by simp)).trans (hB3.mono (by omega))
          refine bodyPost_ret (v := .tuple #[.agg #[.string ⟨#[]⟩, .int .i64 0, .int .i64 0], .bool false]) (by simp [results, Try.results143, go_sem, c0, c1, c2]) rfl ⟨((hfr.setCell (by simp) _).setCell (by simp) _).setCell (by simp) _, ?_⟩
          rfl
        · rw [show (match some ([(v : Int)], t) with | some (v :: _, _) => if v < 49152 then none else some (⟨#[]⟩, v - 49152, i + 2) | _ => none) = (some (⟨#[]⟩, (v : Int) - 49152, i + 2) : Option (ByteArray × Int × Nat)) from if_neg hlt]
          go_enter Try.func143, Try.ntmps143
          go_wp2_with (first | (go_at_call 165; refine (HC.out _).mono ?_; rintro e w1 ⟨hB, rfl⟩; rw [sz_al] at hB) | (go_at_call 42; refine (HS.out w1.heap.size (w1.alloc (.cells #[.int .i64 2] 3)) (by rw [hp_al, if_pos rfl]; rfl)).mono ?_; rintro e w2 ⟨hB2, vv, rfl, hR⟩; obtain ⟨gg, cc, rfl, hg1, hg2, hcc, hcl⟩ := R_ints hR (by simp); have hcell := hcl 0 _ rfl; clear hcl hR; have hs2 := hB2.size; rw [sz_al] at hs2 hB2; have hB3 : Below (w.heap.size + 1) (w.alloc (.cells #[.string ⟨#[]⟩, .int .i64 0, .int .i64 0] 214)) w2 := (hB.trans (((Fr.refl (fun _ => False) w1).alloc _).to_below (by have := hB.size; rw [sz_al] at this; omega) (by simp))).trans (hB2.mono (by have := hB.size; rw [sz_al] at this; omega)); have c0 := cell_at (o := 0) (v := .string ⟨#[]⟩) (HN.out _ hB3) rfl; have c1 := cell_at (o := 1) (v := .int .i64 0) (HN.out _ hB3) rfl; have c2 := cell_at (o := 2) (v := .int .i64 0) (HN.out _ hB3) rfl; have f0 := froz_at (o := 0) (HN.out _ hB3); have f1 := froz_at (o := 1) (HN.out _ hB3); have f2 := froz_at (o := 2) (HN.out _ hB3)))
          have hfr : Below w.heap.size w w2 := (((Fr.refl (fun _ => False) w).alloc _).to_below (Nat.le_refl _) (by simp)).trans (hB3.mono (by omega))
          refine bodyPost_ret (v := .tuple #[.agg #[.string ⟨#[]⟩, .int .i64 ((v : Int) - 49152), .int .i64 ((i : Int) + 2)], .bool true]) (by simp [results, Try.results143, go_sem, c0, c1, c2]) rfl ⟨((hfr.setCell (by simp) _).setCell (by simp) _).setCell (by simp) _, ?_⟩
          rfl

end Go.Proofs.Ytajdlgbhofdafaa
