/- The law of entries' bytes: the walk. -/
import Derived.Test.YtajdlgbhofdafaaRefLaw5
namespace Go.Proofs.Ytajdlgbhofdafaa
open Go.RowKit Go.Shelf Go.Proofs.YtajdlgbhofdafaaW.PrintWords Go.Proofs.YtajdlgbhofdafaaW.PrintLast Go.Proofs.YtajdlgbhofdafaaW.PrintMore
set_option maxRecDepth 1000000
attribute [local go_sem] Oper.semAt_some

theorem awake17_bytes : entryB 1 2 [] [] = some ⟨#[0, 0, 0, 1, 0, 0, 0, 2, 0, 0, 0, 0]⟩ := by decide +kernel
set_option maxHeartbeats 1000000 in
theorem awake17_any (w : World) : Calls Try.prog 10 #[] w fun e w' => e = .returned (.bool true) ∧ Below w.heap.size w w' := by
  have hB := Bytes_any 1 2 none none 0 0 [] [] w (by omega) (by omega) (Kd.C_nil _ _) (Kd.C_nil _ _) (by simp) (by simp) ⟨by simp, by simp⟩
  rw [awake17_bytes] at hB
  have HB := Lib.hid hB
  clear hB
  go_enter Try.func10, Try.ntmps10
  go_wp2_with (go_at_call 13; refine HB.out.mono ?_; rintro e w1 ⟨hB1, rfl⟩)
  go_ret
  exact ⟨ret_bool (by decide), hB1⟩
set_option maxHeartbeats 8000000 in
theorem EntryBack_any (f t : Int) (A1 A2 : Option Addr) (c1 c2 : Nat) (l1 l2 : List SR) (w : World) (hf : 0 ≤ f ∧ f < 4294967296) (ht : 0 ≤ t ∧ t < 4294967296) (h1 : kR.C w A1 l1.length l1) (h2 : kR.C w A2 l2.length l2) (k1 : l1.length ≤ c1) (k2 : l2.length ≤ c2)
    (hl1 : l1.length ≤ 1000000000) (hl2 : l2.length ≤ 1000000000) :
    Calls Try.prog 3 #[.agg (entCells f t A1 A2 l1.length l2.length c1 c2)] w fun e w' => e = .returned (.bool true) ∧ Below w.heap.size w w' := by
  obtain ⟨W0, hW0⟩ : ∃ W0, W0 = w.alloc (.cells (entCells f t A1 A2 l1.length l2.length c1 c2) 25) := ⟨_, rfl⟩
  have hB0 : Below w.heap.size w W0 := by rw [hW0]; exact ((Fr.refl (fun _ => False) w).alloc _).to_below (Nat.le_refl _) (by simp)
  have hz0 : W0.heap.size = w.heap.size + 1 := by rw [hW0]; exact sz_al _ _
  have hb0 : W0.heap[w.heap.size]? = some (.cells (entCells f t A1 A2 l1.length l2.length c1 c2) 25 (0, 0)) := by rw [hW0, hp_al, if_pos rfl]
  have hcell := fun (W : World) (hB : Below W0.heap.size W0 W) => ent_cells ((hB.block w.heap.size (by omega)).trans hb0)
  have HC1 := Lib.hid (Kd.C_below h1 hB0)
  have HC2 := Lib.hid (Kd.C_below h2 hB0)
  have HB0 := Lib.hid hB0
  have HHC := Lib.hid hcell
  have HW := Lib.hid hW0
  obtain ⟨rf, hfew, hfw⟩ := few_evt f t l1 l2 hl1 hl2
  clear hB0 hcell hb0 hW0 h1 h2
  cases rf with
  | false =>
    obtain ⟨kf, hkf⟩ := hfew.ex
    have hFew := fun W hB => Rf.beadrollref17_Few.calls kf f t A1 c1 l1 A2 c2 l2 false W (Kd.C_below HC1.out hB) k1 (Kd.C_below HC2.out hB) k2 hkf
    have HFew := Lib.hid hFew
    clear hFew hkf hfw hfew hf ht k1 k2 hl1 hl2 hz0
    go_enter Try.func3, Try.ntmps3
    go_upto_region 1 with fail
    rw [← HW.out]
    go_wp2_with (first | (go_at_call 10; refine (awake17_any _).mono ?_; rintro e w1 ⟨rfl, hB1⟩; obtain ⟨y0, y1, y2, y3⟩ := HHC.out w1 (by first | exact hB1 | exact hB2w.trans (hB1.mono hB2w.size))) | (go_at_call 11; refine (HFew.out _ hB1).mono ?_; rintro e w2 ⟨rfl, hB2⟩; have hB2w := hB1.trans (hB2.mono hB1.size)))
    go_ret
    exact ⟨rfl, HB0.out.trans ((hB2w.trans (hB1.mono hB2w.size)).mono HB0.out.size)⟩
  | true =>
    obtain ⟨hl30, hsz⟩ := hfw rfl
    have hform := formed_evt f t l1 l2 hl1 hl2 (fun x hx => by have := hsz x hx; omega)
    cases hr : (l1 ++ l2).all fun x => rightR (toR x) with
    | false =>
      rw [hr] at hform
      obtain ⟨kf, hkf, hkg⟩ := Evt.both hfew hform
      have hFew := fun W hB => Rf.beadrollref17_Few.calls kf f t A1 c1 l1 A2 c2 l2 true W (Kd.C_below HC1.out hB) k1 (Kd.C_below HC2.out hB) k2 hkf
      have hFrm := fun W hB => Rf.beadrollref17_Formed.calls kf f t A1 c1 l1 A2 c2 l2 false W (Kd.C_below HC1.out hB) k1 (Kd.C_below HC2.out hB) k2 hkg
      have HFew := Lib.hid hFew
      have HFrm := Lib.hid hFrm
      clear hFew hFrm hkf hkg hfw hfew hform hf ht k1 k2 hl1 hl2 hz0 hl30 hsz hr
      go_enter Try.func3, Try.ntmps3
      go_upto_region 1 with fail
      rw [← HW.out]
      go_wp2_with (first | (go_at_call 10; refine (awake17_any _).mono ?_; rintro e w1 ⟨rfl, hB1⟩; obtain ⟨y0, y1, y2, y3⟩ := HHC.out w1 (by first | exact hB1 | exact hB3w.trans (hB1.mono hB3w.size))) | (go_at_call 11; refine (HFew.out _ hB1).mono ?_; rintro e w2 ⟨rfl, hB2⟩; have hB2w := hB1.trans (hB2.mono hB1.size); clear y0 y1 y2 y3; obtain ⟨y0, y1, y2, y3⟩ := HHC.out w2 hB2w) | (go_at_call 12; refine (HFrm.out _ hB2w).mono ?_; rintro e w3 ⟨rfl, hB3⟩; have hB3w := hB2w.trans (hB3.mono hB2w.size)))
      go_ret
      exact ⟨rfl, HB0.out.trans ((hB3w.trans (hB1.mono hB3w.size)).mono HB0.out.size)⟩
    | true =>
      rw [hr] at hform
      obtain ⟨kf, hkf, hkg⟩ := Evt.both hfew hform
      have hFew := fun W hB => Rf.beadrollref17_Few.calls kf f t A1 c1 l1 A2 c2 l2 true W (Kd.C_below HC1.out hB) k1 (Kd.C_below HC2.out hB) k2 hkf
      have hFrm := fun W hB => Rf.beadrollref17_Formed.calls kf f t A1 c1 l1 A2 c2 l2 true W (Kd.C_below HC1.out hB) k1 (Kd.C_below HC2.out hB) k2 hkg
      have hrall : ∀ x ∈ l1 ++ l2, rightR (toR x) = true := List.all_eq_true.1 hr
      obtain ⟨b, hEb, h12, hof, hcut⟩ := entry_back f t l1 l2 hf ht (by omega) hrall
      have hbs : b.size ≤ 2100000 := by
        unfold entryB at hEb
        rw [if_neg (by rw [List.length_append] at hl30; omega)] at hEb
        cases hp : piecesF (l1 ++ l2) ⟨#[]⟩ with
        | none => rw [hp] at hEb; cases hEb
        | some pb =>
          rw [hp] at hEb
          injection hEb with hEb
          have := (piecesF_size _ _ _ hp).2
          rw [← hEb, size_app, joinB_size]
          have h0 : (⟨#[]⟩ : ByteArray).size = 0 := rfl
          have h4 : (List.map (·.1) [(4, f.toNat), (4, t.toNat), (4, l1.length)]).sum = 12 := rfl
          omega
      have hBy := fun W hB => Bytes_any f t A1 A2 c1 c2 l1 l2 W hf ht (Kd.C_below HC1.out hB) (Kd.C_below HC2.out hB) k1 k2 ⟨by omega, fun x hx => by have := hsz x hx; omega⟩
      rw [hEb] at hBy
      have hOf0 := fun W => Of_any b W (by omega)
      have hOc := fun W => Of_any (b.extract 0 (b.size - 1)) W (by rw [size_ext _ (by omega)]; omega)
      rw [hof] at hOf0
      rw [hcut] at hOc
      obtain ⟨ks, hks⟩ := (sameE_evt f t l1 l2 hl1 hl2).ex
      have hff : ((f.toNat : Nat) : Int) = f := Int.toNat_of_nonneg hf.1
      have htt : ((t.toNat : Nat) : Int) = t := Int.toNat_of_nonneg ht.1
      have hSame := fun W hB B1 d1 B2 d2 hb1 hd1 hb2 hd2 => Rf.beadrollref17_Same.calls ks f t A1 c1 l1 A2 c2 l2 f t B1 d1 l1 B2 d2 l2 true W (Kd.C_below HC1.out hB) k1 (Kd.C_below HC2.out hB) k2 hb1 hd1 hb2 hd2 hks
      have hOf : ∀ W, Calls Try.prog 14 #[.string b] W fun e w' => Below W.heap.size W w' ∧ ∃ B1 B2 d1 d2, e = .returned (.tuple #[.agg (entCells f t B1 B2 l1.length l2.length d1 d2), .int .i64 0]) ∧ kR.C w' B1 l1.length l1 ∧ kR.C w' B2 l2.length l2 ∧ l1.length ≤ d1 ∧ l2.length ≤ d2 := by
        intro W
        refine (hOf0 W).mono ?_
        rintro e w' ⟨hB, h⟩
        dsimp only at h
        rw [hff, htt] at h
        exact ⟨hB, h⟩
      have HFew := Lib.hid hFew
      have HFrm := Lib.hid hFrm
      have HBy := Lib.hid hBy
      have HOf := Lib.hid hOf
      have HOc := Lib.hid hOc
      have HSame := Lib.hid hSame
      have hd12 : decide (b.size < 12) = false := by simp; omega
      have hw1 : wrap64 ((b.size : Int) - 1) = ((b.size - 1 : Nat) : Int) := by rw [w64_in _ (by omega)]; omega
      clear hFew hFrm hBy hOf hOf0 hOc hSame hkf hkg hfw hfew hform hf ht k1 k2 hl1 hl2 hz0 hl30 hsz hr hrall hEb hof hcut hff htt hks
      go_enter Try.func3, Try.ntmps3
      go_upto_region 1 with fail
      rw [← HW.out]
      go_upto_region 6 with (first | (go_at_call 10; refine (awake17_any _).mono ?_; rintro e w1 ⟨rfl, hB1⟩; obtain ⟨y0, y1, y2, y3⟩ := HHC.out w1 hB1) | (go_at_call 11; refine (HFew.out _ hB1).mono ?_; rintro e w2 ⟨rfl, hB2⟩; have hB2w := hB1.trans (hB2.mono hB1.size); clear y0 y1 y2 y3; obtain ⟨y0, y1, y2, y3⟩ := HHC.out w2 hB2w) | (go_at_call 12; refine (HFrm.out _ hB2w).mono ?_; rintro e w3 ⟨rfl, hB3⟩; have hB3w := hB2w.trans (hB3.mono hB2w.size); clear y0 y1 y2 y3; obtain ⟨y0, y1, y2, y3⟩ := HHC.out w3 hB3w) | (go_at_call 13; refine (HBy.out _ hB3w).mono ?_; rintro e w4 ⟨hB4, rfl⟩; have hB4w := hB3w.trans (hB4.mono hB3w.size)))
      go_wp2_with (first | (go_at_call_of 14 (Value.string b); refine (HOf.out _).mono ?_; rintro e w5 ⟨hB5, B1, B2, d1, d2, rfl, hE1, hE2, hD1, hD2⟩; have hB5w := hB4w.trans (hB5.mono hB4w.size)) | (go_at_call 14; refine (HOc.out _).mono ?_; rintro e w6 ⟨hB6, rfl⟩; have hB5a := ((Below.refl w5.heap.size w5).alloc (Nat.le_refl _) (.cells (entCells f t B1 B2 l1.length l2.length d1 d2) 25)).trans (hB6.mono (by rw [sz_al]; omega)); have hB6w := hB5w.trans (hB5a.mono hB5w.size); clear y0 y1 y2 y3; obtain ⟨y0, y1, y2, y3⟩ := HHC.out w6 hB6w; obtain ⟨x0, x1, x2, x3⟩ := ent_cells ((hB6.block w5.heap.size (by rw [sz_al]; omega)).trans (by rw [hp_al, if_pos rfl]) : w6.heap[w5.heap.size]? = some (.cells (entCells f t B1 B2 l1.length l2.length d1 d2) 25 (0, 0))); have hF1 := Kd.C_below hE1 hB5a; have hF2 := Kd.C_below hE2 hB5a; have p0 := cell_al y0 (.cells #[.int .u32 0, .int .u32 0, .slice none 0 0, .slice none 0 0] 25); have q0 := cell_al x0 (.cells #[.int .u32 0, .int .u32 0, .slice none 0 0, .slice none 0 0] 25); have p1 := cell_al y1 (.cells #[.int .u32 0, .int .u32 0, .slice none 0 0, .slice none 0 0] 25); have q1 := cell_al x1 (.cells #[.int .u32 0, .int .u32 0, .slice none 0 0, .slice none 0 0] 25); have p2 := cell_al y2 (.cells #[.int .u32 0, .int .u32 0, .slice none 0 0, .slice none 0 0] 25); have q2 := cell_al x2 (.cells #[.int .u32 0, .int .u32 0, .slice none 0 0, .slice none 0 0] 25); have p3 := cell_al y3 (.cells #[.int .u32 0, .int .u32 0, .slice none 0 0, .slice none 0 0] 25); have q3 := cell_al x3 (.cells #[.int .u32 0, .int .u32 0, .slice none 0 0, .slice none 0 0] 25)) | (go_at_call 15; refine (HSame.out _ (hB6w.alloc hB6w.size _) _ _ _ _ (Kd.C_alloc hF1 _) hD1 (Kd.C_alloc hF2 _) hD2).mono ?_; rintro e w7 ⟨rfl, hB7⟩))
      go_ret
      exact ⟨rfl, HB0.out.trans (((hB6w.alloc hB6w.size _).trans (hB7.mono (hB6w.alloc hB6w.size _).size)).mono HB0.out.size)⟩
end Go.Proofs.Ytajdlgbhofdafaa
