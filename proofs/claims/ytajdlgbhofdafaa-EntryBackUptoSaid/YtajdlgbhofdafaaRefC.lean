/- More of the document's answers, as printed. -/
import Derived.Test.YtajdlgbhofdafaaRefB
namespace Go.Proofs.Ytajdlgbhofdafaa.Rf
open Go.RowKit Go.Proofs.YtajdlgbhofdafaaW.PrintWords Go.Proofs.YtajdlgbhofdafaaW.PrintLast Go.Proofs.YtajdlgbhofdafaaW.PrintMore
set_option linter.unusedVariables false
set_option linter.unusedSimpArgs false
attribute [local go_sem high] eqA78
/-! ### beadrollref10_join -/
def beadrollref10_join.l0 : Nat → List ByteArray → ByteArray → Int → Option (ByteArray)
  | 0, _, _, _ => none
  | k + 1, x0, x3, x4 => if x4 < (x0.length : Int) then (if 0 ≤ x4 then (if x3.size + (rdOf ByteArray.empty x0 x4).size ≤ 9223372036854775807 then (beadrollref10_join.l0 k x0 (x3 ++ (rdOf ByteArray.empty x0 x4)) (wrap64 (x4 + 1))) else (none)) else (none)) else (some x3)
def beadrollref10_join.f (k : Nat) (l0 : List ByteArray) : Option (ByteArray) := beadrollref10_join.l0 k l0 (⟨#[]⟩ : ByteArray) 0
theorem beadrollref10_join.mono_l : ∀ k, (∀ y0 y1 y2, LeO (beadrollref10_join.l0 k y0 y1 y2) (beadrollref10_join.l0 (k + 1) y0 y1 y2))
  | 0 => fun _ _ _ r h => by simp [beadrollref10_join.l0] at h
  | k + 1 => by
    have ih0 := beadrollref10_join.mono_l k
    · intro y0 y1 y2
      unfold beadrollref10_join.l0
      repeat' first
      | (with_reducible exact ih0 _ _ _)
      | (with_reducible exact LeO.refl _)
      | (with_reducible exact LeO.none _)
      | (with_reducible refine LeO.ite ?_ ?_)
      | (with_reducible refine LeO.bind ?_ (fun _ => ?_))
      | exact ih0 _ _ _
      | exact LeO.none _
      | refine LeO.ite ?_ ?_
      | refine LeO.bind ?_ (fun _ => ?_)
theorem beadrollref10_join.mono : ∀ a0 k, LeO (beadrollref10_join.f k a0) (beadrollref10_join.f (k + 1) a0) := by
  intro a0 k
  have ih0 := beadrollref10_join.mono_l k
  unfold beadrollref10_join.f
  repeat' first
      | (with_reducible exact ih0 _ _ _)
      | (with_reducible exact LeO.refl _)
      | (with_reducible exact LeO.none _)
      | (with_reducible refine LeO.ite ?_ ?_)
      | (with_reducible refine LeO.bind ?_ (fun _ => ?_))
      | exact ih0 _ _ _
      | exact LeO.none _
      | refine LeO.ite ?_ ?_
      | refine LeO.bind ?_ (fun _ => ?_)
set_option maxHeartbeats 8000000 in
set_option maxRecDepth 100000 in
theorem beadrollref10_join.calls (k : Nat) (A0 : Option Addr) (c0 : Nat) (l0 : List ByteArray) (r : ByteArray) (w : World) (hr0 : Kd.C Kd.string w A0 l0.length l0) (hc0 : l0.length ≤ c0) (h : beadrollref10_join.f k l0 = some r) :
    Calls Try.prog 151 #[.slice A0 l0.length c0] w fun e w' => e = .returned (.string r) ∧ Drawn0 w w' := by
  have HR0 := Aside0.mk hr0
  have HC0 := Aside0.mk hc0
  clear hr0 hc0
  have H : (beadrollref10_join.l0 k l0 (⟨#[]⟩ : ByteArray) 0) = some r := h
  clear h
  have H' := Aside0.mk H
  clear H
  go_enter Try.func151, Try.ntmps151
  go_wp2
  go_loopg [3, 4] k (fun kq v3 v4 w' => ∃ (x3_1 : ByteArray) (x4_1 : Int), v3 = .string x3_1 ∧ v4 = .int .i64 x4_1 ∧ Aside0 (beadrollref10_join.l0 kq l0 x3_1 x4_1 = some r) ∧ Aside0 (kq ≤ k) ∧ Drawn0 w w')
  case atStart => exact ⟨((⟨#[]⟩ : ByteArray)), (0), (by first | rfl | (simp; done) | (simp [*]; done)), (by first | rfl | (simp; done) | (simp [*]; done)), H', ⟨Nat.le_refl _⟩, by repeat (first | exact Drawn0.refl _ | apply Drawn0.step)⟩
  case round =>
    clear H'
    try clear c1
    obtain ⟨x3_1, x4_1, rfl, rfl, HA, HK1, ⟨m1, rfl⟩⟩ := hrel
    cases gk with
    | zero => exact absurd HA.out (by simp [beadrollref10_join.l0])
    | succ k1 =>
      have H := HA.out
      clear HA
      simp only [beadrollref10_join.l0] at H
      by_cases c2 : x4_1 < (l0.length : Int)
      · rw [if_pos c2] at H
        have c2b0 : decide (x4_1 < (l0.length : Int)) = true := decide_eq_true c2
        clear c2
        by_cases c3 : 0 ≤ x4_1
        · rw [if_pos c3] at H
          have c3b0 : decide (0 ≤ x4_1) = true := decide_eq_true c3
          clear c3
          by_cases c4 : x3_1.size + (rdOf ByteArray.empty l0 x4_1).size ≤ 9223372036854775807
          · rw [if_pos c4] at H
            have c4b0 := eq_true c4
            have c4b1 : decide (x3_1.size + (rdOf ByteArray.empty l0 x4_1).size ≤ 9223372036854775807) = true := decide_eq_true c4
            try have c4b2 : (9223372036854775807 < x3_1.size + (rdOf ByteArray.empty l0 x4_1).size) = False := eq_false (Nat.not_lt.2 c4)
            have H' := Aside0.mk H
            clear H
            have p208 : 0 ≤ (x4_1 : Int) := of_decide_eq_true (by first | (with_reducible assumption) | assumption)
            have q208 : x4_1 < (l0.length : Int) := of_decide_eq_true (by first | (with_reducible assumption) | assumption)
            obtain ⟨ad208, e208, hx208_0⟩ := Kd.at_string HR0.out x4_1 p208 q208
            cases e208
            replace p208 := eq_true p208
            replace q208 := eq_true q208
            go_wp2
            go_roundg k1
            case measure => have := HK1.out; omega
            case rel => exact ⟨(x3_1 ++ (rdOf ByteArray.empty l0 x4_1)), (wrap64 (x4_1 + 1)), (by first | rfl | (simp; done) | (simp [*]; done)), (by first | rfl | (simp; done) | (simp [*]; done)), H', ⟨by have := HK1.out; omega⟩, by repeat (first | exact Drawn0.refl _ | apply Drawn0.step)⟩
          · rw [if_neg c4] at H
            exact absurd H (by simp)
        · rw [if_neg c3] at H
          exact absurd H (by simp)
      · rw [if_neg c2] at H
        have c2b0 : decide (x4_1 < (l0.length : Int)) = false := decide_eq_false c2
        clear c2
        obtain rfl := Option.some.inj H
        go_wp2
        go_ret
        exact ⟨by first | rfl | (simp; done) | (simp [*]; done), by repeat (first | exact Drawn0.refl _ | apply Drawn0.step)⟩

/-! ### beadrollref10_Whole -/
def beadrollref10_Whole.f (k : Nat) (a0 : ByteArray) (a1 : Int) (a2 : Int) (a3 : Int) : Option (ByteArray × Bool) := (beadrollref10_Read.f k a0 a1 a2 a3).bind fun bt209 => ((beadrollref10_join.f k bt209.1).bind fun t213 => (if bt209.2 = true then (some (t213, decide ((t213.size : Int) ≤ 65535))) else (some (t213, false))))
theorem beadrollref10_Whole.mono : ∀ a0 a1 a2 a3 k, LeO (beadrollref10_Whole.f k a0 a1 a2 a3) (beadrollref10_Whole.f (k + 1) a0 a1 a2 a3) := by
  intro a0 a1 a2 a3 k
  unfold beadrollref10_Whole.f
  repeat' first
      | (with_reducible exact beadrollref10_Read.mono _ _ _ _ _)
      | (with_reducible exact beadrollref10_join.mono _ _)
      | (with_reducible exact LeO.refl _)
      | (with_reducible exact LeO.none _)
      | (with_reducible refine LeO.ite ?_ ?_)
      | (with_reducible refine LeO.bind ?_ (fun _ => ?_))
      | exact beadrollref10_Read.mono _ _ _ _ _
      | exact beadrollref10_join.mono _ _
      | exact LeO.none _
      | refine LeO.ite ?_ ?_
      | refine LeO.bind ?_ (fun _ => ?_)
set_option maxHeartbeats 8000000 in
set_option maxRecDepth 100000 in
theorem beadrollref10_Whole.calls (k : Nat) (a0 : ByteArray) (a1 : Int) (a2 : Int) (a3 : Int) (r1 : ByteArray) (r2 : Bool) (w : World) (h : beadrollref10_Whole.f k a0 a1 a2 a3 = some (r1, r2)) :
    Calls Try.prog 128 #[.string a0, .int .i64 a1, .int .i64 a2, .int .i64 a3] w fun e w' => e = .returned (.tuple #[.string r1, .bool r2]) ∧ Below w.heap.size w w' := by
  have HB := Aside0.mk (Below.refl w.heap.size w)
  have H : ((beadrollref10_Read.f k a0 a1 a2 a3).bind fun bt209 => ((beadrollref10_join.f k bt209.1).bind fun t213 => (if bt209.2 = true then (some (t213, decide ((t213.size : Int) ≤ 65535))) else (some (t213, false))))) = some (r1, r2) := h
  clear h
  replace H := Option.bind_eq_some_iff.mp H
  obtain ⟨⟨t209, t210⟩, A50, H⟩ := H
  replace H : ((beadrollref10_join.f k t209).bind fun t213 => (if t210 = true then (some (t213, decide ((t213.size : Int) ≤ 65535))) else (some (t213, false)))) = some (r1, r2) := H
  have A5 := Aside0.mk A50
  clear A50
  replace H := Option.bind_eq_some_iff.mp H
  obtain ⟨t213, A60, H⟩ := H
  replace H : (if t210 = true then (some (t213, decide ((t213.size : Int) ≤ 65535))) else (some (t213, false))) = some (r1, r2) := H
  have A6 := Aside0.mk A60
  clear A60
  by_cases c7 : t210 = true
  · subst c7
    have H1 : (some (t213, decide ((t213.size : Int) ≤ 65535))) = some (r1, r2) := by rw [if_pos rfl] at H; exact H
    clear H
    have H := H1
    clear H1
    simp only [Option.some.injEq, Prod.mk.injEq] at H
    obtain ⟨rfl, rfl⟩ := H
    go_enter Try.func128, Try.ntmps128
    go_wp2_with (first | ((with_reducible refine gate_callee (f := 150) rfl ?_); refine goesL_ (some 18) rfl rfl Try.func150 (by kernel_rfl) rfl #[.string a0, .int .i64 a1, .int .i64 a2, .int .i64 a3] rfl (by (try simp only [List.map_toArray, List.map_cons, List.map_nil]); first | done | rfl | (simp only [List.length_drop, List.length_take]; rfl)) ?_; (with_reducible refine (beadrollref10_Read.calls k a0 a1 a2 a3 t209 true _ A5.out).mono ?_); rintro e w8 ⟨v211, rfl, ho0, hb⟩; refine ⟨_, rfl, ?_⟩; have n0_ := Aside0.mk (Kd.R_lower ho0 (below_size (by repeat (first | (with_reducible first | exact HB.out | apply below_alloc | apply pw_below_drewN | apply below_drew1) | exact HB.out)))); have n1_ := Aside0.mk (below_step (by repeat (first | (with_reducible first | exact HB.out | apply below_alloc | apply pw_below_drewN | apply below_drew1) | exact HB.out)) hb); clear HB; have HO212 := n0_; have HB := n1_; clear n0_ n1_; (try clear hb); (try clear hb2); (try clear hk); (try clear hi); (try clear ho0); obtain ⟨Ao9, co9, eo9⟩ := Kd.R_slice HO212.out; subst eo9) | ((with_reducible refine gate_callee (f := 151) rfl ?_); refine goesL_ (some 22) rfl rfl Try.func151 (by kernel_rfl) rfl #[.slice Ao9 t209.length co9] rfl (by (try simp only [List.map_toArray, List.map_cons, List.map_nil]); first | done | rfl | (simp only [List.length_drop, List.length_take]; rfl)) ?_; (with_reducible refine (beadrollref10_join.calls k _ _ t209 t213 _ ?side1 ?side2 A6.out).mono ?_); (case side1 => repeat (first | exact (Kd.R_reads' HO212.out).2.2 | (with_reducible refine Kd.C_alloc ?_ _) | (with_reducible refine Kd.C_drewN ?_ _) | (with_reducible refine Kd.C_drew ?_))); (case side2 => exact (Kd.R_reads' HO212.out).2.1); rintro e w' ⟨rfl, ⟨nd, rfl⟩⟩; refine ⟨_, rfl, ?_⟩))
    go_ret2
    exact ⟨by first | rfl | (simp [errW_none, errW_some] <;> rfl) | (simp [*, errW_none, errW_some] <;> rfl), by repeat (first | (with_reducible first | exact HB.out | apply below_alloc | apply pw_below_drewN | apply below_drew1) | exact HB.out)⟩
  · replace c7 := Bool.eq_false_iff.mpr c7
    subst c7
    have H1 : (some (t213, false)) = some (r1, r2) := by rw [if_neg (show ¬ (false = true) by decide)] at H; exact H
    clear H
    have H := H1
    clear H1
    simp only [Option.some.injEq, Prod.mk.injEq] at H
    obtain ⟨rfl, rfl⟩ := H
    go_enter Try.func128, Try.ntmps128
    go_wp2_with (first | ((with_reducible refine gate_callee (f := 150) rfl ?_); refine goesL_ (some 18) rfl rfl Try.func150 (by kernel_rfl) rfl #[.string a0, .int .i64 a1, .int .i64 a2, .int .i64 a3] rfl (by (try simp only [List.map_toArray, List.map_cons, List.map_nil]); first | done | rfl | (simp only [List.length_drop, List.length_take]; rfl)) ?_; (with_reducible refine (beadrollref10_Read.calls k a0 a1 a2 a3 t209 false _ A5.out).mono ?_); rintro e w10 ⟨v211, rfl, ho0, hb⟩; refine ⟨_, rfl, ?_⟩; have n0_ := Aside0.mk (Kd.R_lower ho0 (below_size (by repeat (first | (with_reducible first | exact HB.out | apply below_alloc | apply pw_below_drewN | apply below_drew1) | exact HB.out)))); have n1_ := Aside0.mk (below_step (by repeat (first | (with_reducible first | exact HB.out | apply below_alloc | apply pw_below_drewN | apply below_drew1) | exact HB.out)) hb); clear HB; have HO212 := n0_; have HB := n1_; clear n0_ n1_; (try clear hb); (try clear hb2); (try clear hk); (try clear hi); (try clear ho0); obtain ⟨Ao11, co11, eo11⟩ := Kd.R_slice HO212.out; subst eo11) | ((with_reducible refine gate_callee (f := 151) rfl ?_); refine goesL_ (some 22) rfl rfl Try.func151 (by kernel_rfl) rfl #[.slice Ao11 t209.length co11] rfl (by (try simp only [List.map_toArray, List.map_cons, List.map_nil]); first | done | rfl | (simp only [List.length_drop, List.length_take]; rfl)) ?_; (with_reducible refine (beadrollref10_join.calls k _ _ t209 t213 _ ?side1 ?side2 A6.out).mono ?_); (case side1 => repeat (first | exact (Kd.R_reads' HO212.out).2.2 | (with_reducible refine Kd.C_alloc ?_ _) | (with_reducible refine Kd.C_drewN ?_ _) | (with_reducible refine Kd.C_drew ?_))); (case side2 => exact (Kd.R_reads' HO212.out).2.1); rintro e w' ⟨rfl, ⟨nd, rfl⟩⟩; refine ⟨_, rfl, ?_⟩))
    go_ret2
    exact ⟨by first | rfl | (simp [errW_none, errW_some] <;> rfl) | (simp [*, errW_none, errW_some] <;> rfl), by repeat (first | (with_reducible first | exact HB.out | apply below_alloc | apply pw_below_drewN | apply below_drew1) | exact HB.out)⟩

/-! ### beadrollref10_Right -/
def beadrollref10_Right.f (k : Nat) (a0 : Int) (a1 : ByteArray) : Option (Bool) := (beadrollref10_Whole.f k a1 0 (a1.size : Int) a0).bind fun bt214 => (if bt214.2 = true then (some (bt214.1.toList == a1.toList)) else (some false))
theorem beadrollref10_Right.mono : ∀ a0 a1 k, LeO (beadrollref10_Right.f k a0 a1) (beadrollref10_Right.f (k + 1) a0 a1) := by
  intro a0 a1 k
  unfold beadrollref10_Right.f
  repeat' first
      | (with_reducible exact beadrollref10_Whole.mono _ _ _ _ _)
      | (with_reducible exact LeO.refl _)
      | (with_reducible exact LeO.none _)
      | (with_reducible refine LeO.ite ?_ ?_)
      | (with_reducible refine LeO.bind ?_ (fun _ => ?_))
      | exact beadrollref10_Whole.mono _ _ _ _ _
      | exact LeO.none _
      | refine LeO.ite ?_ ?_
      | refine LeO.bind ?_ (fun _ => ?_)
set_option maxHeartbeats 8000000 in
set_option maxRecDepth 100000 in
theorem beadrollref10_Right.calls (k : Nat) (a0 : Int) (a1 : ByteArray) (r : Bool) (w : World) (h : beadrollref10_Right.f k a0 a1 = some r) :
    Calls Try.prog 90 #[.int .i64 a0, .string a1] w fun e w' => e = .returned (.bool r) ∧ Below w.heap.size w w' := by
  have HB := Aside0.mk (Below.refl w.heap.size w)
  have H : ((beadrollref10_Whole.f k a1 0 (a1.size : Int) a0).bind fun bt214 => (if bt214.2 = true then (some (bt214.1.toList == a1.toList)) else (some false))) = some r := h
  clear h
  replace H := Option.bind_eq_some_iff.mp H
  obtain ⟨⟨t214, t215⟩, A30, H⟩ := H
  replace H : (if t215 = true then (some (t214.toList == a1.toList)) else (some false)) = some r := H
  have A3 := Aside0.mk A30
  clear A30
  by_cases c4 : t215 = true
  · subst c4
    have H1 : (some (t214.toList == a1.toList)) = some r := by rw [if_pos rfl] at H; exact H
    clear H
    have H := H1
    clear H1
    obtain rfl := Option.some.inj H
    go_enter Try.func90, Try.ntmps90
    go_wp2_with (first | ((with_reducible refine gate_callee (f := 128) rfl ?_); refine goesL_ (some 12) rfl rfl Try.func128 (by kernel_rfl) rfl #[.string a1, .int .i64 0, .int .i64 (a1.size : Int), .int .i64 a0] rfl (by (try simp only [List.map_toArray, List.map_cons, List.map_nil]); first | done | rfl | (simp only [List.length_drop, List.length_take]; rfl)) ?_; (with_reducible refine (beadrollref10_Whole.calls k a1 0 (a1.size : Int) a0 t214 true _ A3.out).mono ?_); rintro e w5 ⟨rfl, hb⟩; refine ⟨_, rfl, ?_⟩; have n0_ := Aside0.mk (below_step (by repeat (first | (with_reducible first | exact HB.out | apply below_alloc | apply pw_below_drewN | apply below_drew1) | exact HB.out)) hb); clear HB; have HB := n0_; clear n0_; (try clear hb); (try clear hb2); (try clear hk); (try clear hi)))
    go_ret
    exact ⟨by first | rfl | (simp [errW_none, errW_some] <;> rfl) | (simp [*, errW_none, errW_some] <;> rfl), by repeat (first | (with_reducible first | exact HB.out | apply below_alloc | apply pw_below_drewN | apply below_drew1) | exact HB.out)⟩
  · replace c4 := Bool.eq_false_iff.mpr c4
    subst c4
    have H1 : (some false) = some r := by rw [if_neg (show ¬ (false = true) by decide)] at H; exact H
    clear H
    have H := H1
    clear H1
    obtain rfl := Option.some.inj H
    go_enter Try.func90, Try.ntmps90
    go_wp2_with (first | ((with_reducible refine gate_callee (f := 128) rfl ?_); refine goesL_ (some 12) rfl rfl Try.func128 (by kernel_rfl) rfl #[.string a1, .int .i64 0, .int .i64 (a1.size : Int), .int .i64 a0] rfl (by (try simp only [List.map_toArray, List.map_cons, List.map_nil]); first | done | rfl | (simp only [List.length_drop, List.length_take]; rfl)) ?_; (with_reducible refine (beadrollref10_Whole.calls k a1 0 (a1.size : Int) a0 t214 false _ A3.out).mono ?_); rintro e w6 ⟨rfl, hb⟩; refine ⟨_, rfl, ?_⟩; have n0_ := Aside0.mk (below_step (by repeat (first | (with_reducible first | exact HB.out | apply below_alloc | apply pw_below_drewN | apply below_drew1) | exact HB.out)) hb); clear HB; have HB := n0_; clear n0_; (try clear hb); (try clear hb2); (try clear hk); (try clear hi)))
    go_ret
    exact ⟨by first | rfl | (simp [errW_none, errW_some] <;> rfl) | (simp [*, errW_none, errW_some] <;> rfl), by repeat (first | (with_reducible first | exact HB.out | apply below_alloc | apply pw_below_drewN | apply below_drew1) | exact HB.out)⟩

/-! ### beadrollref11_Right -/
def beadrollref11_Right.j0 : Nat → Bool → ByteArray → Int → Int → Int → ByteArray → Option (Bool)
  | 0, _, _, _, _, _, _ => none
  | k + 1, x42, x217000, x217001, x217002, x217003, x217004 => if x42 = true then (some false) else ((beadrollref11_typed.f x217002 (x217004.toList.isEmpty)).bind fun t218 => (if t218 = true then ((beadrollref10_Right.f k x217001 x217004).bind fun t219 => (some t219)) else (some true)))
def beadrollref11_Right.f (k : Nat) (a0_0 : ByteArray) (a0_1 : Int) (a0_2 : Int) (a0_3 : Int) (a0_4 : ByteArray) : Option (Bool) := (beadrollref07_Right.f k a0_0).bind fun t217 => (if t217 = true then (if a0_1 < 0 then (beadrollref11_Right.j0 k true a0_0 a0_1 a0_2 a0_3 a0_4) else (if a0_1 > 65535 then (beadrollref11_Right.j0 k true a0_0 a0_1 a0_2 a0_3 a0_4) else (if a0_2 < 0 then (beadrollref11_Right.j0 k true a0_0 a0_1 a0_2 a0_3 a0_4) else (if a0_2 > 65535 then (beadrollref11_Right.j0 k true a0_0 a0_1 a0_2 a0_3 a0_4) else (if a0_3 < 0 then (beadrollref11_Right.j0 k true a0_0 a0_1 a0_2 a0_3 a0_4) else (if a0_3 > 2147483647 then (beadrollref11_Right.j0 k true a0_0 a0_1 a0_2 a0_3 a0_4) else (beadrollref11_Right.j0 k (decide ((a0_4.size : Int) > 65535)) a0_0 a0_1 a0_2 a0_3 a0_4))))))) else (beadrollref11_Right.j0 k true a0_0 a0_1 a0_2 a0_3 a0_4))
theorem beadrollref11_Right.mono_l : ∀ k, (∀ y0 y1 y2 y3 y4 y5, LeO (beadrollref11_Right.j0 k y0 y1 y2 y3 y4 y5) (beadrollref11_Right.j0 (k + 1) y0 y1 y2 y3 y4 y5))
  | 0 => fun _ _ _ _ _ _ r h => by simp [beadrollref11_Right.j0] at h
  | k + 1 => by
    have ih0 := beadrollref11_Right.mono_l k
    · intro y0 y1 y2 y3 y4 y5
      unfold beadrollref11_Right.j0
      repeat' first
      | (with_reducible exact ih0 _ _ _ _ _ _)
      | (with_reducible exact beadrollref07_Right.mono _ _)
      | (with_reducible exact beadrollref10_Right.mono _ _ _)
      | (with_reducible exact LeO.refl _)
      | (with_reducible exact LeO.none _)
      | (with_reducible refine LeO.ite ?_ ?_)
      | (with_reducible refine LeO.bind ?_ (fun _ => ?_))
      | exact ih0 _ _ _ _ _ _
      | exact beadrollref07_Right.mono _ _
      | exact beadrollref10_Right.mono _ _ _
      | exact LeO.none _
      | refine LeO.ite ?_ ?_
      | refine LeO.bind ?_ (fun _ => ?_)
theorem beadrollref11_Right.mono : ∀ a0 a1 a2 a3 a4 k, LeO (beadrollref11_Right.f k a0 a1 a2 a3 a4) (beadrollref11_Right.f (k + 1) a0 a1 a2 a3 a4) := by
  intro a0 a1 a2 a3 a4 k
  have ih0 := beadrollref11_Right.mono_l k
  unfold beadrollref11_Right.f
  repeat' first
      | (with_reducible exact ih0 _ _ _ _ _ _)
      | (with_reducible exact beadrollref07_Right.mono _ _)
      | (with_reducible exact beadrollref10_Right.mono _ _ _)
      | (with_reducible exact LeO.refl _)
      | (with_reducible exact LeO.none _)
      | (with_reducible refine LeO.ite ?_ ?_)
      | (with_reducible refine LeO.bind ?_ (fun _ => ?_))
      | exact ih0 _ _ _ _ _ _
      | exact beadrollref07_Right.mono _ _
      | exact beadrollref10_Right.mono _ _ _
      | exact LeO.none _
      | refine LeO.ite ?_ ?_
      | refine LeO.bind ?_ (fun _ => ?_)
set_option maxHeartbeats 8000000 in
set_option maxRecDepth 100000 in
theorem beadrollref11_Right.calls (k : Nat) (a0_0 : ByteArray) (a0_1 : Int) (a0_2 : Int) (a0_3 : Int) (a0_4 : ByteArray) (r : Bool) (w : World) (h : beadrollref11_Right.f k a0_0 a0_1 a0_2 a0_3 a0_4 = some r) :
    Calls Try.prog 38 #[.agg #[.string a0_0, .int .i64 a0_1, .int .i64 a0_2, .int .i64 a0_3, .string a0_4]] w fun e w' => e = .returned (.bool r) ∧ Below w.heap.size w w' := by
  have hu78 := Try.underlying78
  have HB := Aside0.mk (Below.refl w.heap.size w)
  have H : ((beadrollref07_Right.f k a0_0).bind fun t217 => (if t217 = true then (if a0_1 < 0 then (beadrollref11_Right.j0 k true a0_0 a0_1 a0_2 a0_3 a0_4) else (if a0_1 > 65535 then (beadrollref11_Right.j0 k true a0_0 a0_1 a0_2 a0_3 a0_4) else (if a0_2 < 0 then (beadrollref11_Right.j0 k true a0_0 a0_1 a0_2 a0_3 a0_4) else (if a0_2 > 65535 then (beadrollref11_Right.j0 k true a0_0 a0_1 a0_2 a0_3 a0_4) else (if a0_3 < 0 then (beadrollref11_Right.j0 k true a0_0 a0_1 a0_2 a0_3 a0_4) else (if a0_3 > 2147483647 then (beadrollref11_Right.j0 k true a0_0 a0_1 a0_2 a0_3 a0_4) else (beadrollref11_Right.j0 k (decide ((a0_4.size : Int) > 65535)) a0_0 a0_1 a0_2 a0_3 a0_4))))))) else (beadrollref11_Right.j0 k true a0_0 a0_1 a0_2 a0_3 a0_4))) = some r := h
  clear h
  have HC2 := Aside0.mk H
  clear H
  go_enter Try.func38, Try.ntmps38
  go_upto_region 1 with (first | ((with_reducible refine gate_dst (N := 1) rfl ?_); (try (refine gate_guard (by rfl) ?_; dsimp only)); refine box_event ?hg (N := 1) ?hd (cs := #[.string a0_0, .int .i64 a0_1, .int .i64 a0_2, .int .i64 a0_3, .string a0_4]) (t := 78) ?hr ?_; (case hd => rfl); (case hg => rfl); (case hr => first | (go_simp; done) | (go_simp; rfl)); intro gb216 hg w3 hbox hb; have n0_ := Aside0.mk (below_step (by repeat (first | (with_reducible first | exact HB.out | apply below_alloc | apply pw_below_drewN | apply below_drew1) | exact HB.out)) hb); have n1_ := Aside0.mk (hbox); have n2_ := Aside0.mk ((by rw [hg]; exact (below_size (by repeat (first | (with_reducible first | exact HB.out | apply below_alloc | apply pw_below_drewN | apply below_drew1) | exact HB.out))) : w.heap.size ≤ gb216)); have n3_ := Aside0.mk ((by rw [hg]; exact (below_size (by repeat (first | (with_reducible first | exact HB.out | apply below_alloc | apply pw_below_drewN | apply below_drew1) | exact HB.out))) : w.heap.size ≤ gb216)); clear HB; have HB := n0_; have BK216 := n1_; have GW216 := n2_; have GE216 := n3_; clear n0_ n1_ n2_ n3_; clear hb hbox hg))
  (try simp only [Act.put, List.setIfInBounds_toArray, List.set_cons_zero, List.set_cons_succ])
  go_cut [42] (fun v42 wc => ∃ (kq : Nat) (x42_1 : Bool), v42 = .bool x42_1 ∧ Aside0 (beadrollref11_Right.j0 kq x42_1 a0_0 a0_1 a0_2 a0_3 a0_4 = some r) ∧ Aside0 (kq ≤ k) ∧ Aside0 (wc.heap[gb216]? = some (.cells #[.string a0_0, .int .i64 a0_1, .int .i64 a0_2, .int .i64 a0_3, .string a0_4] 78 (0, 0))) ∧ Aside0 (Below w.heap.size w wc))
  case first =>
    have H := HC2.out
    clear HC2
    replace H := Option.bind_eq_some_iff.mp H
    obtain ⟨t217, A40, H⟩ := H
    replace H : (if t217 = true then (if a0_1 < 0 then (beadrollref11_Right.j0 k true a0_0 a0_1 a0_2 a0_3 a0_4) else (if a0_1 > 65535 then (beadrollref11_Right.j0 k true a0_0 a0_1 a0_2 a0_3 a0_4) else (if a0_2 < 0 then (beadrollref11_Right.j0 k true a0_0 a0_1 a0_2 a0_3 a0_4) else (if a0_2 > 65535 then (beadrollref11_Right.j0 k true a0_0 a0_1 a0_2 a0_3 a0_4) else (if a0_3 < 0 then (beadrollref11_Right.j0 k true a0_0 a0_1 a0_2 a0_3 a0_4) else (if a0_3 > 2147483647 then (beadrollref11_Right.j0 k true a0_0 a0_1 a0_2 a0_3 a0_4) else (beadrollref11_Right.j0 k (decide ((a0_4.size : Int) > 65535)) a0_0 a0_1 a0_2 a0_3 a0_4))))))) else (beadrollref11_Right.j0 k true a0_0 a0_1 a0_2 a0_3 a0_4)) = some r := H
    have A4 := Aside0.mk A40
    clear A40
    by_cases c5 : t217 = true
    · subst c5
      have H1 : (if a0_1 < 0 then (beadrollref11_Right.j0 k true a0_0 a0_1 a0_2 a0_3 a0_4) else (if a0_1 > 65535 then (beadrollref11_Right.j0 k true a0_0 a0_1 a0_2 a0_3 a0_4) else (if a0_2 < 0 then (beadrollref11_Right.j0 k true a0_0 a0_1 a0_2 a0_3 a0_4) else (if a0_2 > 65535 then (beadrollref11_Right.j0 k true a0_0 a0_1 a0_2 a0_3 a0_4) else (if a0_3 < 0 then (beadrollref11_Right.j0 k true a0_0 a0_1 a0_2 a0_3 a0_4) else (if a0_3 > 2147483647 then (beadrollref11_Right.j0 k true a0_0 a0_1 a0_2 a0_3 a0_4) else (beadrollref11_Right.j0 k (decide ((a0_4.size : Int) > 65535)) a0_0 a0_1 a0_2 a0_3 a0_4))))))) = some r := by rw [if_pos rfl] at H; exact H
      clear H
      have H := H1
      clear H1
      by_cases c6 : a0_1 < 0
      · rw [if_pos c6] at H
        have c6b0 : decide (a0_1 < 0) = true := decide_eq_true c6
        clear c6
        (first | rw [c6b0] | (simp only [i64_w, i32_w]; rw [c6b0]) | skip)
        have H' := Aside0.mk H
        clear H
        have hcz7_0 : w3.cell? ⟨gb216, 0, none⟩ = some (.string a0_0) := (blk_cell BK216.out 0).trans rfl
        have hcz7_1 : w3.cell? ⟨gb216, 1, none⟩ = some (.int .i64 a0_1) := (blk_cell BK216.out 1).trans rfl
        have hcz7_2 : w3.cell? ⟨gb216, 2, none⟩ = some (.int .i64 a0_2) := (blk_cell BK216.out 2).trans rfl
        have hcz7_3 : w3.cell? ⟨gb216, 3, none⟩ = some (.int .i64 a0_3) := (blk_cell BK216.out 3).trans rfl
        have hcz7_4 : w3.cell? ⟨gb216, 4, none⟩ = some (.string a0_4) := (blk_cell BK216.out 4).trans rfl
        have hfz7_0 := blk_frozen BK216.out 0
        have hfz7_1 := blk_frozen BK216.out 1
        have hfz7_2 := blk_frozen BK216.out 2
        have hfz7_3 := blk_frozen BK216.out 3
        have hfz7_4 := blk_frozen BK216.out 4
        go_wp2_with (first | ((with_reducible refine gate_callee (f := 57) rfl ?_); refine goesL_ (some 5) rfl rfl Try.func57 (by kernel_rfl) rfl #[.string a0_0] rfl (by (try simp only [List.map_toArray, List.map_cons, List.map_nil]); first | done | rfl | (simp only [List.length_drop, List.length_take]; rfl)) ?_; (with_reducible refine (beadrollref07_Right.calls k a0_0 true _ A4.out).mono ?_); rintro e w8 ⟨rfl, hb⟩; refine ⟨_, rfl, ?_⟩; have n0_ := Aside0.mk (blk_below (g := gb216) (o := .cells #[.string a0_0, .int .i64 a0_1, .int .i64 a0_2, .int .i64 a0_3, .string a0_4] 78 (0, 0)) (by (with_reducible repeat (first | refine blk_drewN ?_ _ | refine blk_drew ?_ | refine blk_alloc ?_ _)); exact BK216.out) hb); have n1_ := Aside0.mk (below_step (by repeat (first | (with_reducible first | exact HB.out | apply below_alloc | apply pw_below_drewN | apply below_drew1 | refine below_set ?_ GE216.out) | exact HB.out)) hb); clear BK216; clear HB; have BK216 := n0_; have HB := n1_; clear n0_ n1_; (try clear hb); (try clear hb2); (try clear hk); (try clear hi); have hcz9_0 : w8.cell? ⟨gb216, 0, none⟩ = some (.string a0_0) := (blk_cell BK216.out 0).trans rfl; have hcz9_1 : w8.cell? ⟨gb216, 1, none⟩ = some (.int .i64 a0_1) := (blk_cell BK216.out 1).trans rfl; have hcz9_2 : w8.cell? ⟨gb216, 2, none⟩ = some (.int .i64 a0_2) := (blk_cell BK216.out 2).trans rfl; have hcz9_3 : w8.cell? ⟨gb216, 3, none⟩ = some (.int .i64 a0_3) := (blk_cell BK216.out 3).trans rfl; have hcz9_4 : w8.cell? ⟨gb216, 4, none⟩ = some (.string a0_4) := (blk_cell BK216.out 4).trans rfl; have hfz9_0 := blk_frozen BK216.out 0; have hfz9_1 := blk_frozen BK216.out 1; have hfz9_2 := blk_frozen BK216.out 2; have hfz9_3 := blk_frozen BK216.out 3; have hfz9_4 := blk_frozen BK216.out 4))
        go_meet
        case rel => exact ⟨_, (true), (by first | rfl | (simp; done) | (simp [*]; done)), H', ⟨by first | omega | exact Nat.le_refl _⟩, ⟨by (with_reducible repeat (first | refine blk_drewN ?_ _ | refine blk_drew ?_ | refine blk_alloc ?_ _)); exact BK216.out⟩, ⟨by repeat (first | (with_reducible first | exact HB.out | apply below_alloc | apply pw_below_drewN | apply below_drew1 | refine below_set ?_ GE216.out) | exact HB.out)⟩⟩
      · rw [if_neg c6] at H
        have c6b0 : decide (a0_1 < 0) = false := decide_eq_false c6
        clear c6
        (first | rw [c6b0] | (simp only [i64_w, i32_w]; rw [c6b0]) | skip)
        by_cases c10 : a0_1 > 65535
        · rw [if_pos c10] at H
          have c10b0 : decide (65535 < a0_1) = true := decide_eq_true c10
          clear c10
          have H' := Aside0.mk H
          clear H
          have hcz11_0 : w3.cell? ⟨gb216, 0, none⟩ = some (.string a0_0) := (blk_cell BK216.out 0).trans rfl
          have hcz11_1 : w3.cell? ⟨gb216, 1, none⟩ = some (.int .i64 a0_1) := (blk_cell BK216.out 1).trans rfl
          have hcz11_2 : w3.cell? ⟨gb216, 2, none⟩ = some (.int .i64 a0_2) := (blk_cell BK216.out 2).trans rfl
          have hcz11_3 : w3.cell? ⟨gb216, 3, none⟩ = some (.int .i64 a0_3) := (blk_cell BK216.out 3).trans rfl
          have hcz11_4 : w3.cell? ⟨gb216, 4, none⟩ = some (.string a0_4) := (blk_cell BK216.out 4).trans rfl
          have hfz11_0 := blk_frozen BK216.out 0
          have hfz11_1 := blk_frozen BK216.out 1
          have hfz11_2 := blk_frozen BK216.out 2
          have hfz11_3 := blk_frozen BK216.out 3
          have hfz11_4 := blk_frozen BK216.out 4
          go_wp2_with (first | ((with_reducible refine gate_callee (f := 57) rfl ?_); refine goesL_ (some 5) rfl rfl Try.func57 (by kernel_rfl) rfl #[.string a0_0] rfl (by (try simp only [List.map_toArray, List.map_cons, List.map_nil]); first | done | rfl | (simp only [List.length_drop, List.length_take]; rfl)) ?_; (with_reducible refine (beadrollref07_Right.calls k a0_0 true _ A4.out).mono ?_); rintro e w12 ⟨rfl, hb⟩; refine ⟨_, rfl, ?_⟩; have n0_ := Aside0.mk (blk_below (g := gb216) (o := .cells #[.string a0_0, .int .i64 a0_1, .int .i64 a0_2, .int .i64 a0_3, .string a0_4] 78 (0, 0)) (by (with_reducible repeat (first | refine blk_drewN ?_ _ | refine blk_drew ?_ | refine blk_alloc ?_ _)); exact BK216.out) hb); have n1_ := Aside0.mk (below_step (by repeat (first | (with_reducible first | exact HB.out | apply below_alloc | apply pw_below_drewN | apply below_drew1 | refine below_set ?_ GE216.out) | exact HB.out)) hb); clear BK216; clear HB; have BK216 := n0_; have HB := n1_; clear n0_ n1_; (try clear hb); (try clear hb2); (try clear hk); (try clear hi); have hcz13_0 : w12.cell? ⟨gb216, 0, none⟩ = some (.string a0_0) := (blk_cell BK216.out 0).trans rfl; have hcz13_1 : w12.cell? ⟨gb216, 1, none⟩ = some (.int .i64 a0_1) := (blk_cell BK216.out 1).trans rfl; have hcz13_2 : w12.cell? ⟨gb216, 2, none⟩ = some (.int .i64 a0_2) := (blk_cell BK216.out 2).trans rfl; have hcz13_3 : w12.cell? ⟨gb216, 3, none⟩ = some (.int .i64 a0_3) := (blk_cell BK216.out 3).trans rfl; have hcz13_4 : w12.cell? ⟨gb216, 4, none⟩ = some (.string a0_4) := (blk_cell BK216.out 4).trans rfl; have hfz13_0 := blk_frozen BK216.out 0; have hfz13_1 := blk_frozen BK216.out 1; have hfz13_2 := blk_frozen BK216.out 2; have hfz13_3 := blk_frozen BK216.out 3; have hfz13_4 := blk_frozen BK216.out 4))
          go_meet
          case rel => exact ⟨_, (true), (by first | rfl | (simp; done) | (simp [*]; done)), H', ⟨by first | omega | exact Nat.le_refl _⟩, ⟨by (with_reducible repeat (first | refine blk_drewN ?_ _ | refine blk_drew ?_ | refine blk_alloc ?_ _)); exact BK216.out⟩, ⟨by repeat (first | (with_reducible first | exact HB.out | apply below_alloc | apply pw_below_drewN | apply below_drew1 | refine below_set ?_ GE216.out) | exact HB.out)⟩⟩
        · rw [if_neg c10] at H
          have c10b0 : decide (65535 < a0_1) = false := decide_eq_false c10
          clear c10
          by_cases c14 : a0_2 < 0
          · rw [if_pos c14] at H
            have c14b0 : decide (a0_2 < 0) = true := decide_eq_true c14
            clear c14
            have H' := Aside0.mk H
            clear H
            have hcz15_0 : w3.cell? ⟨gb216, 0, none⟩ = some (.string a0_0) := (blk_cell BK216.out 0).trans rfl
            have hcz15_1 : w3.cell? ⟨gb216, 1, none⟩ = some (.int .i64 a0_1) := (blk_cell BK216.out 1).trans rfl
            have hcz15_2 : w3.cell? ⟨gb216, 2, none⟩ = some (.int .i64 a0_2) := (blk_cell BK216.out 2).trans rfl
            have hcz15_3 : w3.cell? ⟨gb216, 3, none⟩ = some (.int .i64 a0_3) := (blk_cell BK216.out 3).trans rfl
            have hcz15_4 : w3.cell? ⟨gb216, 4, none⟩ = some (.string a0_4) := (blk_cell BK216.out 4).trans rfl
            have hfz15_0 := blk_frozen BK216.out 0
            have hfz15_1 := blk_frozen BK216.out 1
            have hfz15_2 := blk_frozen BK216.out 2
            have hfz15_3 := blk_frozen BK216.out 3
            have hfz15_4 := blk_frozen BK216.out 4
            go_wp2_with (first | ((with_reducible refine gate_callee (f := 57) rfl ?_); refine goesL_ (some 5) rfl rfl Try.func57 (by kernel_rfl) rfl #[.string a0_0] rfl (by (try simp only [List.map_toArray, List.map_cons, List.map_nil]); first | done | rfl | (simp only [List.length_drop, List.length_take]; rfl)) ?_; (with_reducible refine (beadrollref07_Right.calls k a0_0 true _ A4.out).mono ?_); rintro e w16 ⟨rfl, hb⟩; refine ⟨_, rfl, ?_⟩; have n0_ := Aside0.mk (blk_below (g := gb216) (o := .cells #[.string a0_0, .int .i64 a0_1, .int .i64 a0_2, .int .i64 a0_3, .string a0_4] 78 (0, 0)) (by (with_reducible repeat (first | refine blk_drewN ?_ _ | refine blk_drew ?_ | refine blk_alloc ?_ _)); exact BK216.out) hb); have n1_ := Aside0.mk (below_step (by repeat (first | (with_reducible first | exact HB.out | apply below_alloc | apply pw_below_drewN | apply below_drew1 | refine below_set ?_ GE216.out) | exact HB.out)) hb); clear BK216; clear HB; have BK216 := n0_; have HB := n1_; clear n0_ n1_; (try clear hb); (try clear hb2); (try clear hk); (try clear hi); have hcz17_0 : w16.cell? ⟨gb216, 0, none⟩ = some (.string a0_0) := (blk_cell BK216.out 0).trans rfl; have hcz17_1 : w16.cell? ⟨gb216, 1, none⟩ = some (.int .i64 a0_1) := (blk_cell BK216.out 1).trans rfl; have hcz17_2 : w16.cell? ⟨gb216, 2, none⟩ = some (.int .i64 a0_2) := (blk_cell BK216.out 2).trans rfl; have hcz17_3 : w16.cell? ⟨gb216, 3, none⟩ = some (.int .i64 a0_3) := (blk_cell BK216.out 3).trans rfl; have hcz17_4 : w16.cell? ⟨gb216, 4, none⟩ = some (.string a0_4) := (blk_cell BK216.out 4).trans rfl; have hfz17_0 := blk_frozen BK216.out 0; have hfz17_1 := blk_frozen BK216.out 1; have hfz17_2 := blk_frozen BK216.out 2; have hfz17_3 := blk_frozen BK216.out 3; have hfz17_4 := blk_frozen BK216.out 4))
            go_meet
            case rel => exact ⟨_, (true), (by first | rfl | (simp; done) | (simp [*]; done)), H', ⟨by first | omega | exact Nat.le_refl _⟩, ⟨by (with_reducible repeat (first | refine blk_drewN ?_ _ | refine blk_drew ?_ | refine blk_alloc ?_ _)); exact BK216.out⟩, ⟨by repeat (first | (with_reducible first | exact HB.out | apply below_alloc | apply pw_below_drewN | apply below_drew1 | refine below_set ?_ GE216.out) | exact HB.out)⟩⟩
          · rw [if_neg c14] at H
            have c14b0 : decide (a0_2 < 0) = false := decide_eq_false c14
            clear c14
            by_cases c18 : a0_2 > 65535
            · rw [if_pos c18] at H
              have c18b0 : decide (65535 < a0_2) = true := decide_eq_true c18
              clear c18
              have H' := Aside0.mk H
              clear H
              have hcz19_0 : w3.cell? ⟨gb216, 0, none⟩ = some (.string a0_0) := (blk_cell BK216.out 0).trans rfl
              have hcz19_1 : w3.cell? ⟨gb216, 1, none⟩ = some (.int .i64 a0_1) := (blk_cell BK216.out 1).trans rfl
              have hcz19_2 : w3.cell? ⟨gb216, 2, none⟩ = some (.int .i64 a0_2) := (blk_cell BK216.out 2).trans rfl
              have hcz19_3 : w3.cell? ⟨gb216, 3, none⟩ = some (.int .i64 a0_3) := (blk_cell BK216.out 3).trans rfl
              have hcz19_4 : w3.cell? ⟨gb216, 4, none⟩ = some (.string a0_4) := (blk_cell BK216.out 4).trans rfl
              have hfz19_0 := blk_frozen BK216.out 0
              have hfz19_1 := blk_frozen BK216.out 1
              have hfz19_2 := blk_frozen BK216.out 2
              have hfz19_3 := blk_frozen BK216.out 3
              have hfz19_4 := blk_frozen BK216.out 4
              go_wp2_with (first | ((with_reducible refine gate_callee (f := 57) rfl ?_); refine goesL_ (some 5) rfl rfl Try.func57 (by kernel_rfl) rfl #[.string a0_0] rfl (by (try simp only [List.map_toArray, List.map_cons, List.map_nil]); first | done | rfl | (simp only [List.length_drop, List.length_take]; rfl)) ?_; (with_reducible refine (beadrollref07_Right.calls k a0_0 true _ A4.out).mono ?_); rintro e w20 ⟨rfl, hb⟩; refine ⟨_, rfl, ?_⟩; have n0_ := Aside0.mk (blk_below (g := gb216) (o := .cells #[.string a0_0, .int .i64 a0_1, .int .i64 a0_2, .int .i64 a0_3, .string a0_4] 78 (0, 0)) (by (with_reducible repeat (first | refine blk_drewN ?_ _ | refine blk_drew ?_ | refine blk_alloc ?_ _)); exact BK216.out) hb); have n1_ := Aside0.mk (below_step (by repeat (first | (with_reducible first | exact HB.out | apply below_alloc | apply pw_below_drewN | apply below_drew1 | refine below_set ?_ GE216.out) | exact HB.out)) hb); clear BK216; clear HB; have BK216 := n0_; have HB := n1_; clear n0_ n1_; (try clear hb); (try clear hb2); (try clear hk); (try clear hi); have hcz21_0 : w20.cell? ⟨gb216, 0, none⟩ = some (.string a0_0) := (blk_cell BK216.out 0).trans rfl; have hcz21_1 : w20.cell? ⟨gb216, 1, none⟩ = some (.int .i64 a0_1) := (blk_cell BK216.out 1).trans rfl; have hcz21_2 : w20.cell? ⟨gb216, 2, none⟩ = some (.int .i64 a0_2) := (blk_cell BK216.out 2).trans rfl; have hcz21_3 : w20.cell? ⟨gb216, 3, none⟩ = some (.int .i64 a0_3) := (blk_cell BK216.out 3).trans rfl; have hcz21_4 : w20.cell? ⟨gb216, 4, none⟩ = some (.string a0_4) := (blk_cell BK216.out 4).trans rfl; have hfz21_0 := blk_frozen BK216.out 0; have hfz21_1 := blk_frozen BK216.out 1; have hfz21_2 := blk_frozen BK216.out 2; have hfz21_3 := blk_frozen BK216.out 3; have hfz21_4 := blk_frozen BK216.out 4))
              go_meet
              case rel => exact ⟨_, (true), (by first | rfl | (simp; done) | (simp [*]; done)), H', ⟨by first | omega | exact Nat.le_refl _⟩, ⟨by (with_reducible repeat (first | refine blk_drewN ?_ _ | refine blk_drew ?_ | refine blk_alloc ?_ _)); exact BK216.out⟩, ⟨by repeat (first | (with_reducible first | exact HB.out | apply below_alloc | apply pw_below_drewN | apply below_drew1 | refine below_set ?_ GE216.out) | exact HB.out)⟩⟩
            · rw [if_neg c18] at H
              have c18b0 : decide (65535 < a0_2) = false := decide_eq_false c18
              clear c18
              by_cases c22 : a0_3 < 0
              · rw [if_pos c22] at H
                have c22b0 : decide (a0_3 < 0) = true := decide_eq_true c22
                clear c22
                have H' := Aside0.mk H
                clear H
                have hcz23_0 : w3.cell? ⟨gb216, 0, none⟩ = some (.string a0_0) := (blk_cell BK216.out 0).trans rfl
                have hcz23_1 : w3.cell? ⟨gb216, 1, none⟩ = some (.int .i64 a0_1) := (blk_cell BK216.out 1).trans rfl
                have hcz23_2 : w3.cell? ⟨gb216, 2, none⟩ = some (.int .i64 a0_2) := (blk_cell BK216.out 2).trans rfl
                have hcz23_3 : w3.cell? ⟨gb216, 3, none⟩ = some (.int .i64 a0_3) := (blk_cell BK216.out 3).trans rfl
                have hcz23_4 : w3.cell? ⟨gb216, 4, none⟩ = some (.string a0_4) := (blk_cell BK216.out 4).trans rfl
                have hfz23_0 := blk_frozen BK216.out 0
                have hfz23_1 := blk_frozen BK216.out 1
                have hfz23_2 := blk_frozen BK216.out 2
                have hfz23_3 := blk_frozen BK216.out 3
                have hfz23_4 := blk_frozen BK216.out 4
                go_wp2_with (first | ((with_reducible refine gate_callee (f := 57) rfl ?_); refine goesL_ (some 5) rfl rfl Try.func57 (by kernel_rfl) rfl #[.string a0_0] rfl (by (try simp only [List.map_toArray, List.map_cons, List.map_nil]); first | done | rfl | (simp only [List.length_drop, List.length_take]; rfl)) ?_; (with_reducible refine (beadrollref07_Right.calls k a0_0 true _ A4.out).mono ?_); rintro e w24 ⟨rfl, hb⟩; refine ⟨_, rfl, ?_⟩; have n0_ := Aside0.mk (blk_below (g := gb216) (o := .cells #[.string a0_0, .int .i64 a0_1, .int .i64 a0_2, .int .i64 a0_3, .string a0_4] 78 (0, 0)) (by (with_reducible repeat (first | refine blk_drewN ?_ _ | refine blk_drew ?_ | refine blk_alloc ?_ _)); exact BK216.out) hb); have n1_ := Aside0.mk (below_step (by repeat (first | (with_reducible first | exact HB.out | apply below_alloc | apply pw_below_drewN | apply below_drew1 | refine below_set ?_ GE216.out) | exact HB.out)) hb); clear BK216; clear HB; have BK216 := n0_; have HB := n1_; clear n0_ n1_; (try clear hb); (try clear hb2); (try clear hk); (try clear hi); have hcz25_0 : w24.cell? ⟨gb216, 0, none⟩ = some (.string a0_0) := (blk_cell BK216.out 0).trans rfl; have hcz25_1 : w24.cell? ⟨gb216, 1, none⟩ = some (.int .i64 a0_1) := (blk_cell BK216.out 1).trans rfl; have hcz25_2 : w24.cell? ⟨gb216, 2, none⟩ = some (.int .i64 a0_2) := (blk_cell BK216.out 2).trans rfl; have hcz25_3 : w24.cell? ⟨gb216, 3, none⟩ = some (.int .i64 a0_3) := (blk_cell BK216.out 3).trans rfl; have hcz25_4 : w24.cell? ⟨gb216, 4, none⟩ = some (.string a0_4) := (blk_cell BK216.out 4).trans rfl; have hfz25_0 := blk_frozen BK216.out 0; have hfz25_1 := blk_frozen BK216.out 1; have hfz25_2 := blk_frozen BK216.out 2; have hfz25_3 := blk_frozen BK216.out 3; have hfz25_4 := blk_frozen BK216.out 4))
                go_meet
                case rel => exact ⟨_, (true), (by first | rfl | (simp; done) | (simp [*]; done)), H', ⟨by first | omega | exact Nat.le_refl _⟩, ⟨by (with_reducible repeat (first | refine blk_drewN ?_ _ | refine blk_drew ?_ | refine blk_alloc ?_ _)); exact BK216.out⟩, ⟨by repeat (first | (with_reducible first | exact HB.out | apply below_alloc | apply pw_below_drewN | apply below_drew1 | refine below_set ?_ GE216.out) | exact HB.out)⟩⟩
              · rw [if_neg c22] at H
                have c22b0 : decide (a0_3 < 0) = false := decide_eq_false c22
                clear c22
                by_cases c26 : a0_3 > 2147483647
                · rw [if_pos c26] at H
                  have c26b0 : decide (2147483647 < a0_3) = true := decide_eq_true c26
                  clear c26
                  have H' := Aside0.mk H
                  clear H
                  have hcz27_0 : w3.cell? ⟨gb216, 0, none⟩ = some (.string a0_0) := (blk_cell BK216.out 0).trans rfl
                  have hcz27_1 : w3.cell? ⟨gb216, 1, none⟩ = some (.int .i64 a0_1) := (blk_cell BK216.out 1).trans rfl
                  have hcz27_2 : w3.cell? ⟨gb216, 2, none⟩ = some (.int .i64 a0_2) := (blk_cell BK216.out 2).trans rfl
                  have hcz27_3 : w3.cell? ⟨gb216, 3, none⟩ = some (.int .i64 a0_3) := (blk_cell BK216.out 3).trans rfl
                  have hcz27_4 : w3.cell? ⟨gb216, 4, none⟩ = some (.string a0_4) := (blk_cell BK216.out 4).trans rfl
                  have hfz27_0 := blk_frozen BK216.out 0
                  have hfz27_1 := blk_frozen BK216.out 1
                  have hfz27_2 := blk_frozen BK216.out 2
                  have hfz27_3 := blk_frozen BK216.out 3
                  have hfz27_4 := blk_frozen BK216.out 4
                  go_wp2_with (first | ((with_reducible refine gate_callee (f := 57) rfl ?_); refine goesL_ (some 5) rfl rfl Try.func57 (by kernel_rfl) rfl #[.string a0_0] rfl (by (try simp only [List.map_toArray, List.map_cons, List.map_nil]); first | done | rfl | (simp only [List.length_drop, List.length_take]; rfl)) ?_; (with_reducible refine (beadrollref07_Right.calls k a0_0 true _ A4.out).mono ?_); rintro e w28 ⟨rfl, hb⟩; refine ⟨_, rfl, ?_⟩; have n0_ := Aside0.mk (blk_below (g := gb216) (o := .cells #[.string a0_0, .int .i64 a0_1, .int .i64 a0_2, .int .i64 a0_3, .string a0_4] 78 (0, 0)) (by (with_reducible repeat (first | refine blk_drewN ?_ _ | refine blk_drew ?_ | refine blk_alloc ?_ _)); exact BK216.out) hb); have n1_ := Aside0.mk (below_step (by repeat (first | (with_reducible first | exact HB.out | apply below_alloc | apply pw_below_drewN | apply below_drew1 | refine below_set ?_ GE216.out) | exact HB.out)) hb); clear BK216; clear HB; have BK216 := n0_; have HB := n1_; clear n0_ n1_; (try clear hb); (try clear hb2); (try clear hk); (try clear hi); have hcz29_0 : w28.cell? ⟨gb216, 0, none⟩ = some (.string a0_0) := (blk_cell BK216.out 0).trans rfl; have hcz29_1 : w28.cell? ⟨gb216, 1, none⟩ = some (.int .i64 a0_1) := (blk_cell BK216.out 1).trans rfl; have hcz29_2 : w28.cell? ⟨gb216, 2, none⟩ = some (.int .i64 a0_2) := (blk_cell BK216.out 2).trans rfl; have hcz29_3 : w28.cell? ⟨gb216, 3, none⟩ = some (.int .i64 a0_3) := (blk_cell BK216.out 3).trans rfl; have hcz29_4 : w28.cell? ⟨gb216, 4, none⟩ = some (.string a0_4) := (blk_cell BK216.out 4).trans rfl; have hfz29_0 := blk_frozen BK216.out 0; have hfz29_1 := blk_frozen BK216.out 1; have hfz29_2 := blk_frozen BK216.out 2; have hfz29_3 := blk_frozen BK216.out 3; have hfz29_4 := blk_frozen BK216.out 4))
                  go_meet
                  case rel => exact ⟨_, (true), (by first | rfl | (simp; done) | (simp [*]; done)), H', ⟨by first | omega | exact Nat.le_refl _⟩, ⟨by (with_reducible repeat (first | refine blk_drewN ?_ _ | refine blk_drew ?_ | refine blk_alloc ?_ _)); exact BK216.out⟩, ⟨by repeat (first | (with_reducible first | exact HB.out | apply below_alloc | apply pw_below_drewN | apply below_drew1 | refine below_set ?_ GE216.out) | exact HB.out)⟩⟩
                · rw [if_neg c26] at H
                  have c26b0 : decide (2147483647 < a0_3) = false := decide_eq_false c26
                  clear c26
                  have H' := Aside0.mk H
                  clear H
                  have hcz30_0 : w3.cell? ⟨gb216, 0, none⟩ = some (.string a0_0) := (blk_cell BK216.out 0).trans rfl
                  have hcz30_1 : w3.cell? ⟨gb216, 1, none⟩ = some (.int .i64 a0_1) := (blk_cell BK216.out 1).trans rfl
                  have hcz30_2 : w3.cell? ⟨gb216, 2, none⟩ = some (.int .i64 a0_2) := (blk_cell BK216.out 2).trans rfl
                  have hcz30_3 : w3.cell? ⟨gb216, 3, none⟩ = some (.int .i64 a0_3) := (blk_cell BK216.out 3).trans rfl
                  have hcz30_4 : w3.cell? ⟨gb216, 4, none⟩ = some (.string a0_4) := (blk_cell BK216.out 4).trans rfl
                  have hfz30_0 := blk_frozen BK216.out 0
                  have hfz30_1 := blk_frozen BK216.out 1
                  have hfz30_2 := blk_frozen BK216.out 2
                  have hfz30_3 := blk_frozen BK216.out 3
                  have hfz30_4 := blk_frozen BK216.out 4
                  go_wp2_with (first | ((with_reducible refine gate_callee (f := 57) rfl ?_); refine goesL_ (some 5) rfl rfl Try.func57 (by kernel_rfl) rfl #[.string a0_0] rfl (by (try simp only [List.map_toArray, List.map_cons, List.map_nil]); first | done | rfl | (simp only [List.length_drop, List.length_take]; rfl)) ?_; (with_reducible refine (beadrollref07_Right.calls k a0_0 true _ A4.out).mono ?_); rintro e w31 ⟨rfl, hb⟩; refine ⟨_, rfl, ?_⟩; have n0_ := Aside0.mk (blk_below (g := gb216) (o := .cells #[.string a0_0, .int .i64 a0_1, .int .i64 a0_2, .int .i64 a0_3, .string a0_4] 78 (0, 0)) (by (with_reducible repeat (first | refine blk_drewN ?_ _ | refine blk_drew ?_ | refine blk_alloc ?_ _)); exact BK216.out) hb); have n1_ := Aside0.mk (below_step (by repeat (first | (with_reducible first | exact HB.out | apply below_alloc | apply pw_below_drewN | apply below_drew1 | refine below_set ?_ GE216.out) | exact HB.out)) hb); clear BK216; clear HB; have BK216 := n0_; have HB := n1_; clear n0_ n1_; (try clear hb); (try clear hb2); (try clear hk); (try clear hi); have hcz32_0 : w31.cell? ⟨gb216, 0, none⟩ = some (.string a0_0) := (blk_cell BK216.out 0).trans rfl; have hcz32_1 : w31.cell? ⟨gb216, 1, none⟩ = some (.int .i64 a0_1) := (blk_cell BK216.out 1).trans rfl; have hcz32_2 : w31.cell? ⟨gb216, 2, none⟩ = some (.int .i64 a0_2) := (blk_cell BK216.out 2).trans rfl; have hcz32_3 : w31.cell? ⟨gb216, 3, none⟩ = some (.int .i64 a0_3) := (blk_cell BK216.out 3).trans rfl; have hcz32_4 : w31.cell? ⟨gb216, 4, none⟩ = some (.string a0_4) := (blk_cell BK216.out 4).trans rfl; have hfz32_0 := blk_frozen BK216.out 0; have hfz32_1 := blk_frozen BK216.out 1; have hfz32_2 := blk_frozen BK216.out 2; have hfz32_3 := blk_frozen BK216.out 3; have hfz32_4 := blk_frozen BK216.out 4))
                  go_meet
                  case rel => exact ⟨_, (decide ((a0_4.size : Int) > 65535)), (by first | rfl | (simp; done) | (simp [*]; done)), H', ⟨by first | omega | exact Nat.le_refl _⟩, ⟨by (with_reducible repeat (first | refine blk_drewN ?_ _ | refine blk_drew ?_ | refine blk_alloc ?_ _)); exact BK216.out⟩, ⟨by repeat (first | (with_reducible first | exact HB.out | apply below_alloc | apply pw_below_drewN | apply below_drew1 | refine below_set ?_ GE216.out) | exact HB.out)⟩⟩
    · replace c5 := Bool.eq_false_iff.mpr c5
      subst c5
      have H1 : (beadrollref11_Right.j0 k true a0_0 a0_1 a0_2 a0_3 a0_4) = some r := by rw [if_neg (show ¬ (false = true) by decide)] at H; exact H
      clear H
      have H := H1
      clear H1
      have H' := Aside0.mk H
      clear H
      have hcz33_0 : w3.cell? ⟨gb216, 0, none⟩ = some (.string a0_0) := (blk_cell BK216.out 0).trans rfl
      have hcz33_1 : w3.cell? ⟨gb216, 1, none⟩ = some (.int .i64 a0_1) := (blk_cell BK216.out 1).trans rfl
      have hcz33_2 : w3.cell? ⟨gb216, 2, none⟩ = some (.int .i64 a0_2) := (blk_cell BK216.out 2).trans rfl
      have hcz33_3 : w3.cell? ⟨gb216, 3, none⟩ = some (.int .i64 a0_3) := (blk_cell BK216.out 3).trans rfl
      have hcz33_4 : w3.cell? ⟨gb216, 4, none⟩ = some (.string a0_4) := (blk_cell BK216.out 4).trans rfl
      have hfz33_0 := blk_frozen BK216.out 0
      have hfz33_1 := blk_frozen BK216.out 1
      have hfz33_2 := blk_frozen BK216.out 2
      have hfz33_3 := blk_frozen BK216.out 3
      have hfz33_4 := blk_frozen BK216.out 4
      go_wp2_with (first | ((with_reducible refine gate_callee (f := 57) rfl ?_); refine goesL_ (some 5) rfl rfl Try.func57 (by kernel_rfl) rfl #[.string a0_0] rfl (by (try simp only [List.map_toArray, List.map_cons, List.map_nil]); first | done | rfl | (simp only [List.length_drop, List.length_take]; rfl)) ?_; (with_reducible refine (beadrollref07_Right.calls k a0_0 false _ A4.out).mono ?_); rintro e w34 ⟨rfl, hb⟩; refine ⟨_, rfl, ?_⟩; have n0_ := Aside0.mk (blk_below (g := gb216) (o := .cells #[.string a0_0, .int .i64 a0_1, .int .i64 a0_2, .int .i64 a0_3, .string a0_4] 78 (0, 0)) (by (with_reducible repeat (first | refine blk_drewN ?_ _ | refine blk_drew ?_ | refine blk_alloc ?_ _)); exact BK216.out) hb); have n1_ := Aside0.mk (below_step (by repeat (first | (with_reducible first | exact HB.out | apply below_alloc | apply pw_below_drewN | apply below_drew1 | refine below_set ?_ GE216.out) | exact HB.out)) hb); clear BK216; clear HB; have BK216 := n0_; have HB := n1_; clear n0_ n1_; (try clear hb); (try clear hb2); (try clear hk); (try clear hi)))
      go_meet
      case rel => exact ⟨_, (true), (by first | rfl | (simp; done) | (simp [*]; done)), H', ⟨by first | omega | exact Nat.le_refl _⟩, ⟨by (with_reducible repeat (first | refine blk_drewN ?_ _ | refine blk_drew ?_ | refine blk_alloc ?_ _)); exact BK216.out⟩, ⟨by repeat (first | (with_reducible first | exact HB.out | apply below_alloc | apply pw_below_drewN | apply below_drew1 | refine below_set ?_ GE216.out) | exact HB.out)⟩⟩
  case rest =>
    clear HC2
    try clear c1
    try clear c2
    try clear p2
    try clear c3
    try clear c5
    try clear c6
    try clear c6b0
    try clear c10
    try clear c10b0
    try clear c14
    try clear c14b0
    try clear c18
    try clear c18b0
    try clear c22
    try clear c22b0
    try clear c26
    try clear c26b0
    try clear hcz11_0
    try clear hcz11_1
    try clear hcz11_2
    try clear hcz11_3
    try clear hcz11_4
    try clear hcz13_0
    try clear hcz13_1
    try clear hcz13_2
    try clear hcz13_3
    try clear hcz13_4
    try clear hcz15_0
    try clear hcz15_1
    try clear hcz15_2
    try clear hcz15_3
    try clear hcz15_4
    try clear hcz17_0
    try clear hcz17_1
    try clear hcz17_2
    try clear hcz17_3
    try clear hcz17_4
    try clear hcz19_0
    try clear hcz19_1
    try clear hcz19_2
    try clear hcz19_3
    try clear hcz19_4
    try clear hcz21_0
    try clear hcz21_1
    try clear hcz21_2
    try clear hcz21_3
    try clear hcz21_4
    try clear hcz23_0
    try clear hcz23_1
    try clear hcz23_2
    try clear hcz23_3
    try clear hcz23_4
    try clear hcz25_0
    try clear hcz25_1
    try clear hcz25_2
    try clear hcz25_3
    try clear hcz25_4
    try clear hcz27_0
    try clear hcz27_1
    try clear hcz27_2
    try clear hcz27_3
    try clear hcz27_4
    try clear hcz29_0
    try clear hcz29_1
    try clear hcz29_2
    try clear hcz29_3
    try clear hcz29_4
    try clear hcz30_0
    try clear hcz30_1
    try clear hcz30_2
    try clear hcz30_3
    try clear hcz30_4
    try clear hcz32_0
    try clear hcz32_1
    try clear hcz32_2
    try clear hcz32_3
    try clear hcz32_4
    try clear hcz33_0
    try clear hcz33_1
    try clear hcz33_2
    try clear hcz33_3
    try clear hcz33_4
    try clear hcz7_0
    try clear hcz7_1
    try clear hcz7_2
    try clear hcz7_3
    try clear hcz7_4
    try clear hcz9_0
    try clear hcz9_1
    try clear hcz9_2
    try clear hcz9_3
    try clear hcz9_4
    try clear hfz11_0
    try clear hfz11_1
    try clear hfz11_2
    try clear hfz11_3
    try clear hfz11_4
    try clear hfz13_0
    try clear hfz13_1
    try clear hfz13_2
    try clear hfz13_3
    try clear hfz13_4
    try clear hfz15_0
    try clear hfz15_1
    try clear hfz15_2
    try clear hfz15_3
    try clear hfz15_4
    try clear hfz17_0
    try clear hfz17_1
    try clear hfz17_2
    try clear hfz17_3
    try clear hfz17_4
    try clear hfz19_0
    try clear hfz19_1
    try clear hfz19_2
    try clear hfz19_3
    try clear hfz19_4
    try clear hfz21_0
    try clear hfz21_1
    try clear hfz21_2
    try clear hfz21_3
    try clear hfz21_4
    try clear hfz23_0
    try clear hfz23_1
    try clear hfz23_2
    try clear hfz23_3
    try clear hfz23_4
    try clear hfz25_0
    try clear hfz25_1
    try clear hfz25_2
    try clear hfz25_3
    try clear hfz25_4
    try clear hfz27_0
    try clear hfz27_1
    try clear hfz27_2
    try clear hfz27_3
    try clear hfz27_4
    try clear hfz29_0
    try clear hfz29_1
    try clear hfz29_2
    try clear hfz29_3
    try clear hfz29_4
    try clear hfz30_0
    try clear hfz30_1
    try clear hfz30_2
    try clear hfz30_3
    try clear hfz30_4
    try clear hfz32_0
    try clear hfz32_1
    try clear hfz32_2
    try clear hfz32_3
    try clear hfz32_4
    try clear hfz33_0
    try clear hfz33_1
    try clear hfz33_2
    try clear hfz33_3
    try clear hfz33_4
    try clear hfz7_0
    try clear hfz7_1
    try clear hfz7_2
    try clear hfz7_3
    try clear hfz7_4
    try clear hfz9_0
    try clear hfz9_1
    try clear hfz9_2
    try clear hfz9_3
    try clear hfz9_4
    obtain ⟨kq, x42_1, rfl, HA, HJ1, BK216, HB⟩ := hcut
    cases kq with
    | zero => exact absurd HA.out (by simp [beadrollref11_Right.j0])
    | succ kj1 =>
      have H := HA.out
      clear HA
      simp only [beadrollref11_Right.j0] at H
      by_cases c35 : x42_1 = true
      · subst c35
        have H1 : (some false) = some r := by rw [if_pos rfl] at H; exact H
        clear H
        have H := H1
        clear H1
        obtain rfl := Option.some.inj H
        go_wp2
        go_ret
        exact ⟨by first | rfl | (simp [errW_none, errW_some] <;> rfl) | (simp [*, errW_none, errW_some] <;> rfl), by repeat (first | (with_reducible first | exact HB.out | apply below_alloc | apply pw_below_drewN | apply below_drew1 | refine below_set ?_ GE216.out) | exact HB.out)⟩
      · replace c35 := Bool.eq_false_iff.mpr c35
        subst c35
        have H1 : ((beadrollref11_typed.f a0_2 (a0_4.toList.isEmpty)).bind fun t218 => (if t218 = true then ((beadrollref10_Right.f kj1 a0_1 a0_4).bind fun t219 => (some t219)) else (some true))) = some r := by rw [if_neg (show ¬ (false = true) by decide)] at H; exact H
        clear H
        have H := H1
        clear H1
        replace H := Option.bind_eq_some_iff.mp H
        obtain ⟨t218, A360, H⟩ := H
        replace H : (if t218 = true then ((beadrollref10_Right.f kj1 a0_1 a0_4).bind fun t219 => (some t219)) else (some true)) = some r := H
        have A36 := Aside0.mk A360
        clear A360
        by_cases c37 : t218 = true
        · subst c37
          have H1 : ((beadrollref10_Right.f kj1 a0_1 a0_4).bind fun t219 => (some t219)) = some r := by rw [if_pos rfl] at H; exact H
          clear H
          have H := H1
          clear H1
          replace H := Option.bind_eq_some_iff.mp H
          obtain ⟨t219, A380, H⟩ := H
          replace H : (some t219) = some r := H
          have A38 := Aside0.mk A380
          clear A380
          obtain rfl := Option.some.inj H
          have hcz39_0 : wc.cell? ⟨gb216, 0, none⟩ = some (.string a0_0) := (blk_cell BK216.out 0).trans rfl
          have hcz39_1 : wc.cell? ⟨gb216, 1, none⟩ = some (.int .i64 a0_1) := (blk_cell BK216.out 1).trans rfl
          have hcz39_2 : wc.cell? ⟨gb216, 2, none⟩ = some (.int .i64 a0_2) := (blk_cell BK216.out 2).trans rfl
          have hcz39_3 : wc.cell? ⟨gb216, 3, none⟩ = some (.int .i64 a0_3) := (blk_cell BK216.out 3).trans rfl
          have hcz39_4 : wc.cell? ⟨gb216, 4, none⟩ = some (.string a0_4) := (blk_cell BK216.out 4).trans rfl
          have hfz39_0 := blk_frozen BK216.out 0
          have hfz39_1 := blk_frozen BK216.out 1
          have hfz39_2 := blk_frozen BK216.out 2
          have hfz39_3 := blk_frozen BK216.out 3
          have hfz39_4 := blk_frozen BK216.out 4
          go_wp2_with (first | ((with_reducible refine gate_callee (f := 89) rfl ?_); refine goesL_ (some 48) rfl rfl Try.func89 (by kernel_rfl) rfl #[.int .i64 a0_2, .bool (a0_4.toList.isEmpty)] rfl (by (try simp only [List.map_toArray, List.map_cons, List.map_nil]); first | done | rfl | (simp only [List.length_drop, List.length_take]; rfl)) ?_; (with_reducible refine (beadrollref11_typed.calls a0_2 (a0_4.toList.isEmpty) true _ A36.out).mono ?_); rintro e w' ⟨rfl, ⟨nd, rfl⟩⟩; refine ⟨_, rfl, ?_⟩) | (go_at_call 90; (with_reducible refine (beadrollref10_Right.calls kj1 a0_1 a0_4 t219 _ A38.out).mono ?_); rintro e w40 ⟨rfl, hb⟩; have n0_ := Aside0.mk (blk_below (g := gb216) (o := .cells #[.string a0_0, .int .i64 a0_1, .int .i64 a0_2, .int .i64 a0_3, .string a0_4] 78 (0, 0)) (by (with_reducible repeat (first | refine blk_drewN ?_ _ | refine blk_drew ?_ | refine blk_alloc ?_ _)); exact BK216.out) hb); have n1_ := Aside0.mk (below_step (by repeat (first | (with_reducible first | exact HB.out | apply below_alloc | apply pw_below_drewN | apply below_drew1 | refine below_set ?_ GE216.out) | exact HB.out)) hb); clear BK216; clear HB; have BK216 := n0_; have HB := n1_; clear n0_ n1_; (try clear hb); (try clear hb2); (try clear hk); (try clear hi)))
          go_ret
          exact ⟨by first | rfl | (simp [errW_none, errW_some] <;> rfl) | (simp [*, errW_none, errW_some] <;> rfl), by repeat (first | (with_reducible first | exact HB.out | apply below_alloc | apply pw_below_drewN | apply below_drew1 | refine below_set ?_ GE216.out) | exact HB.out)⟩
        · replace c37 := Bool.eq_false_iff.mpr c37
          subst c37
          have H1 : (some true) = some r := by rw [if_neg (show ¬ (false = true) by decide)] at H; exact H
          clear H
          have H := H1
          clear H1
          obtain rfl := Option.some.inj H
          have hcz41_0 : wc.cell? ⟨gb216, 0, none⟩ = some (.string a0_0) := (blk_cell BK216.out 0).trans rfl
          have hcz41_1 : wc.cell? ⟨gb216, 1, none⟩ = some (.int .i64 a0_1) := (blk_cell BK216.out 1).trans rfl
          have hcz41_2 : wc.cell? ⟨gb216, 2, none⟩ = some (.int .i64 a0_2) := (blk_cell BK216.out 2).trans rfl
          have hcz41_3 : wc.cell? ⟨gb216, 3, none⟩ = some (.int .i64 a0_3) := (blk_cell BK216.out 3).trans rfl
          have hcz41_4 : wc.cell? ⟨gb216, 4, none⟩ = some (.string a0_4) := (blk_cell BK216.out 4).trans rfl
          have hfz41_0 := blk_frozen BK216.out 0
          have hfz41_1 := blk_frozen BK216.out 1
          have hfz41_2 := blk_frozen BK216.out 2
          have hfz41_3 := blk_frozen BK216.out 3
          have hfz41_4 := blk_frozen BK216.out 4
          go_wp2_with (first | ((with_reducible refine gate_callee (f := 89) rfl ?_); refine goesL_ (some 48) rfl rfl Try.func89 (by kernel_rfl) rfl #[.int .i64 a0_2, .bool (a0_4.toList.isEmpty)] rfl (by (try simp only [List.map_toArray, List.map_cons, List.map_nil]); first | done | rfl | (simp only [List.length_drop, List.length_take]; rfl)) ?_; (with_reducible refine (beadrollref11_typed.calls a0_2 (a0_4.toList.isEmpty) false _ A36.out).mono ?_); rintro e w' ⟨rfl, ⟨nd, rfl⟩⟩; refine ⟨_, rfl, ?_⟩))
          go_ret
          exact ⟨by first | rfl | (simp [errW_none, errW_some] <;> rfl) | (simp [*, errW_none, errW_some] <;> rfl), by repeat (first | (with_reducible first | exact HB.out | apply below_alloc | apply pw_below_drewN | apply below_drew1 | refine below_set ?_ GE216.out) | exact HB.out)⟩

/-! ### beadrollref17_Formed -/
mutual
def beadrollref17_Formed.l0 : Nat → Int → Int → Int → List (S78) → List (S78) → Option (Bool)
  | 0, _, _, _, _, _ => none
  | k + 1, x3, x221000, x221001, x221002, x221003 => if x3 < (x221002.length : Int) then (if 0 ≤ x3 then ((beadrollref11_Right.f k ((rd_T78 x221002 x3).f0) ((rd_T78 x221002 x3).f1) ((rd_T78 x221002 x3).f2) ((rd_T78 x221002 x3).f3) ((rd_T78 x221002 x3).f4)).bind fun t222 => (if t222 = true then (beadrollref17_Formed.l0 k (wrap64 (x3 + 1)) x221000 x221001 x221002 x221003) else (some false))) else (none)) else (beadrollref17_Formed.l1 k 0 x221000 x221001 x221002 x221003)
def beadrollref17_Formed.l1 : Nat → Int → Int → Int → List (S78) → List (S78) → Option (Bool)
  | 0, _, _, _, _, _ => none
  | k + 1, x4, x221000, x221001, x221002, x221003 => if x4 < (x221003.length : Int) then (if 0 ≤ x4 then ((beadrollref11_Right.f k ((rd_T78 x221003 x4).f0) ((rd_T78 x221003 x4).f1) ((rd_T78 x221003 x4).f2) ((rd_T78 x221003 x4).f3) ((rd_T78 x221003 x4).f4)).bind fun t224 => (if t224 = true then (beadrollref17_Formed.l1 k (wrap64 (x4 + 1)) x221000 x221001 x221002 x221003) else (some false))) else (none)) else (some true)
end
def beadrollref17_Formed.f (k : Nat) (a0_0 : Int) (a0_1 : Int) (l0_2 : List (S78)) (l0_3 : List (S78)) : Option (Bool) := beadrollref17_Formed.l0 k 0 a0_0 a0_1 l0_2 l0_3
theorem beadrollref17_Formed.mono_l : ∀ k, (∀ y0 y1 y2 y3 y4, LeO (beadrollref17_Formed.l0 k y0 y1 y2 y3 y4) (beadrollref17_Formed.l0 (k + 1) y0 y1 y2 y3 y4)) ∧ (∀ y0 y1 y2 y3 y4, LeO (beadrollref17_Formed.l1 k y0 y1 y2 y3 y4) (beadrollref17_Formed.l1 (k + 1) y0 y1 y2 y3 y4))
  | 0 => ⟨fun _ _ _ _ _ r h => by simp [beadrollref17_Formed.l0] at h, fun _ _ _ _ _ r h => by simp [beadrollref17_Formed.l1] at h⟩
  | k + 1 => by
    obtain ⟨ih0, ih1⟩ := beadrollref17_Formed.mono_l k
    refine ⟨?_, ?_⟩
    · intro y0 y1 y2 y3 y4
      unfold beadrollref17_Formed.l0
      repeat' first
      | (with_reducible exact ih0 _ _ _ _ _)
      | (with_reducible exact ih1 _ _ _ _ _)
      | (with_reducible exact beadrollref11_Right.mono _ _ _ _ _ _)
      | (with_reducible exact LeO.refl _)
      | (with_reducible exact LeO.none _)
      | (with_reducible refine LeO.ite ?_ ?_)
      | (with_reducible refine LeO.bind ?_ (fun _ => ?_))
      | exact ih0 _ _ _ _ _
      | exact ih1 _ _ _ _ _
      | exact beadrollref11_Right.mono _ _ _ _ _ _
      | exact LeO.none _
      | refine LeO.ite ?_ ?_
      | refine LeO.bind ?_ (fun _ => ?_)
    · intro y0 y1 y2 y3 y4
      unfold beadrollref17_Formed.l1
      repeat' first
      | (with_reducible exact ih0 _ _ _ _ _)
      | (with_reducible exact ih1 _ _ _ _ _)
      | (with_reducible exact beadrollref11_Right.mono _ _ _ _ _ _)
      | (with_reducible exact LeO.refl _)
      | (with_reducible exact LeO.none _)
      | (with_reducible refine LeO.ite ?_ ?_)
      | (with_reducible refine LeO.bind ?_ (fun _ => ?_))
      | exact ih0 _ _ _ _ _
      | exact ih1 _ _ _ _ _
      | exact beadrollref11_Right.mono _ _ _ _ _ _
      | exact LeO.none _
      | refine LeO.ite ?_ ?_
      | refine LeO.bind ?_ (fun _ => ?_)
theorem beadrollref17_Formed.mono : ∀ a0 a1 a2 a3 k, LeO (beadrollref17_Formed.f k a0 a1 a2 a3) (beadrollref17_Formed.f (k + 1) a0 a1 a2 a3) := by
  intro a0 a1 a2 a3 k
  obtain ⟨ih0, ih1⟩ := beadrollref17_Formed.mono_l k
  unfold beadrollref17_Formed.f
  repeat' first
      | (with_reducible exact ih0 _ _ _ _ _)
      | (with_reducible exact ih1 _ _ _ _ _)
      | (with_reducible exact beadrollref11_Right.mono _ _ _ _ _ _)
      | (with_reducible exact LeO.refl _)
      | (with_reducible exact LeO.none _)
      | (with_reducible refine LeO.ite ?_ ?_)
      | (with_reducible refine LeO.bind ?_ (fun _ => ?_))
      | exact ih0 _ _ _ _ _
      | exact ih1 _ _ _ _ _
      | exact beadrollref11_Right.mono _ _ _ _ _ _
      | exact LeO.none _
      | refine LeO.ite ?_ ?_
      | refine LeO.bind ?_ (fun _ => ?_)
set_option maxHeartbeats 8000000 in
set_option maxRecDepth 100000 in
theorem beadrollref17_Formed.calls (k : Nat) (a0_0 : Int) (a0_1 : Int) (A0_2 : Option Addr) (c0_2 : Nat) (l0_2 : List (S78)) (A0_3 : Option Addr) (c0_3 : Nat) (l0_3 : List (S78)) (r : Bool) (w : World) (hr0_2 : Kd.C k78 w A0_2 l0_2.length l0_2) (hc0_2 : l0_2.length ≤ c0_2) (hr0_3 : Kd.C k78 w A0_3 l0_3.length l0_3) (hc0_3 : l0_3.length ≤ c0_3) (h : beadrollref17_Formed.f k a0_0 a0_1 l0_2 l0_3 = some r) :
    Calls Try.prog 12 #[.agg #[.int .u32 a0_0, .int .u32 a0_1, .slice A0_2 l0_2.length c0_2, .slice A0_3 l0_3.length c0_3]] w fun e w' => e = .returned (.bool r) ∧ Below w.heap.size w w' := by
  have hu25 := Try.underlying25
  have hu78 := Try.underlying78
  have HR0_2 := Aside0.mk hr0_2
  have HC0_2 := Aside0.mk hc0_2
  clear hr0_2 hc0_2
  have HR0_3 := Aside0.mk hr0_3
  have HC0_3 := Aside0.mk hc0_3
  clear hr0_3 hc0_3
  have HB := Aside0.mk (Below.refl w.heap.size w)
  have H : (beadrollref17_Formed.l0 k 0 a0_0 a0_1 l0_2 l0_3) = some r := h
  clear h
  have H' := Aside0.mk H
  clear H
  go_enter Try.func12, Try.ntmps12
  go_wp2_with (first | ((with_reducible refine gate_dst (N := 1) rfl ?_); refine box_event ?hg (N := 1) ?hd (cs := #[.int .u32 a0_0, .int .u32 a0_1, .slice A0_2 l0_2.length c0_2, .slice A0_3 l0_3.length c0_3]) (t := 25) ?hr ?_; (case hd => rfl); (case hg => rfl); (case hr => first | (go_simp; done) | (go_simp; rfl)); intro gb220 hg w2 hbox hb; have n0_ := Aside0.mk (below_step (by repeat (first | (with_reducible first | exact HB.out | apply below_alloc | apply pw_below_drewN | apply below_drew1) | exact HB.out)) hb); have n1_ := Aside0.mk (hbox); have n2_ := Aside0.mk ((by rw [hg]; exact (below_size (by repeat (first | (with_reducible first | exact HB.out | apply below_alloc | apply pw_below_drewN | apply below_drew1) | exact HB.out))) : w.heap.size ≤ gb220)); have n3_ := Aside0.mk ((by rw [hg]; exact (below_size (by repeat (first | (with_reducible first | exact HB.out | apply below_alloc | apply pw_below_drewN | apply below_drew1) | exact HB.out))) : w.heap.size ≤ gb220)); clear HB; have HB := n0_; have BK220 := n1_; have GW220 := n2_; have GE220 := n3_; clear n0_ n1_ n2_ n3_; clear hb hbox hg))
  go_loopg [3] k (fun kq v3 w' => ∃ (x3_1 : Int), v3 = .int .i64 x3_1 ∧ Aside0 (beadrollref17_Formed.l0 kq x3_1 a0_0 a0_1 l0_2 l0_3 = some r) ∧ Aside0 (kq ≤ k) ∧ Aside0 (w'.heap[gb220]? = some (.cells #[.int .u32 a0_0, .int .u32 a0_1, (.slice A0_2 l0_2.length c0_2), (.slice A0_3 l0_3.length c0_3)] 25 (0, 0))) ∧ Aside0 (Below w.heap.size w w'))
  case atStart => exact ⟨(0), (by first | rfl | (simp; done) | (simp [*]; done)), H', ⟨Nat.le_refl _⟩, ⟨by (with_reducible repeat (first | refine blk_drewN ?_ _ | refine blk_drew ?_ | refine blk_alloc ?_ _)); exact BK220.out⟩, ⟨by repeat (first | (with_reducible first | exact HB.out | apply below_alloc | apply pw_below_drewN | apply below_drew1 | refine below_set ?_ GE220.out) | exact HB.out)⟩⟩
  case round =>
    clear H'
    try clear c1
    try clear p2
    obtain ⟨x3_1, rfl, HA, HK1, BK220, HB⟩ := hrel
    cases gk with
    | zero => exact absurd HA.out (by simp [beadrollref17_Formed.l0])
    | succ k1 =>
      have H := HA.out
      clear HA
      simp only [beadrollref17_Formed.l0] at H
      by_cases c3 : x3_1 < (l0_2.length : Int)
      · rw [if_pos c3] at H
        have c3b0 : decide (x3_1 < (l0_2.length : Int)) = true := decide_eq_true c3
        clear c3
        by_cases c4 : 0 ≤ x3_1
        · rw [if_pos c4] at H
          have c4b0 : decide (0 ≤ x3_1) = true := decide_eq_true c4
          clear c4
          replace H := Option.bind_eq_some_iff.mp H
          obtain ⟨t222, A50, H⟩ := H
          replace H : (if t222 = true then (beadrollref17_Formed.l0 k1 (wrap64 (x3_1 + 1)) a0_0 a0_1 l0_2 l0_3) else (some false)) = some r := H
          have A5 := Aside0.mk A50
          clear A50
          by_cases c6 : t222 = true
          · subst c6
            have H1 : (beadrollref17_Formed.l0 k1 (wrap64 (x3_1 + 1)) a0_0 a0_1 l0_2 l0_3) = some r := by rw [if_pos rfl] at H; exact H
            clear H
            have H := H1
            clear H1
            have H' := Aside0.mk H
            clear H
            have hcz7_0 : wr.cell? ⟨gb220, 0, none⟩ = some (.int .u32 a0_0) := (blk_cell BK220.out 0).trans rfl
            have hcz7_1 : wr.cell? ⟨gb220, 1, none⟩ = some (.int .u32 a0_1) := (blk_cell BK220.out 1).trans rfl
            have hcz7_2 : wr.cell? ⟨gb220, 2, none⟩ = some (.slice A0_2 l0_2.length c0_2) := (blk_cell BK220.out 2).trans rfl
            have hcz7_3 : wr.cell? ⟨gb220, 3, none⟩ = some (.slice A0_3 l0_3.length c0_3) := (blk_cell BK220.out 3).trans rfl
            have hfz7_0 := blk_frozen BK220.out 0
            have hfz7_1 := blk_frozen BK220.out 1
            have hfz7_2 := blk_frozen BK220.out 2
            have hfz7_3 := blk_frozen BK220.out 3
            have p221 : 0 ≤ (x3_1 : Int) := of_decide_eq_true (by first | (with_reducible assumption) | assumption)
            have q221 : x3_1 < (l0_2.length : Int) := of_decide_eq_true (by first | (with_reducible assumption) | assumption)
            obtain ⟨ad221, e221, hx221_0, hx221_1, hx221_2, hx221_3, hx221_4⟩ := at_T78 HR0_2.out x3_1 p221 q221
            cases e221
            replace hx221_0 := (HB.out.cell (World.block_lt_of_cell? w _ hx221_0)).trans hx221_0
            replace hx221_1 := (HB.out.cell (World.block_lt_of_cell? w _ hx221_1)).trans hx221_1
            replace hx221_2 := (HB.out.cell (World.block_lt_of_cell? w _ hx221_2)).trans hx221_2
            replace hx221_3 := (HB.out.cell (World.block_lt_of_cell? w _ hx221_3)).trans hx221_3
            replace hx221_4 := (HB.out.cell (World.block_lt_of_cell? w _ hx221_4)).trans hx221_4
            replace p221 := eq_true p221
            replace q221 := eq_true q221
            go_wp2_with (first | ((with_reducible refine gate_callee (f := 38) rfl ?_); refine goesL_ (some 17) rfl rfl Try.func38 (by kernel_rfl) rfl #[.agg #[.string ((rd_T78 l0_2 x3_1).f0), .int .i64 ((rd_T78 l0_2 x3_1).f1), .int .i64 ((rd_T78 l0_2 x3_1).f2), .int .i64 ((rd_T78 l0_2 x3_1).f3), .string ((rd_T78 l0_2 x3_1).f4)]] rfl (by (try simp only [List.map_toArray, List.map_cons, List.map_nil]); first | done | rfl | (simp only [List.length_drop, List.length_take]; rfl)) ?_; (with_reducible refine (beadrollref11_Right.calls k1 ((rd_T78 l0_2 x3_1).f0) ((rd_T78 l0_2 x3_1).f1) ((rd_T78 l0_2 x3_1).f2) ((rd_T78 l0_2 x3_1).f3) ((rd_T78 l0_2 x3_1).f4) true _ A5.out).mono ?_); rintro e w8 ⟨rfl, hb⟩; refine ⟨_, rfl, ?_⟩; have n0_ := Aside0.mk (blk_below (g := gb220) (o := .cells #[.int .u32 a0_0, .int .u32 a0_1, .slice (some ad221) l0_2.length c0_2, .slice A0_3 l0_3.length c0_3] 25 (0, 0)) (by (with_reducible repeat (first | refine blk_drewN ?_ _ | refine blk_drew ?_ | refine blk_alloc ?_ _)); exact BK220.out) hb); have n1_ := Aside0.mk (below_step (by repeat (first | (with_reducible first | exact HB.out | apply below_alloc | apply pw_below_drewN | apply below_drew1 | refine below_set ?_ GE220.out) | exact HB.out)) hb); clear BK220; clear HB; have BK220 := n0_; have HB := n1_; clear n0_ n1_; (try clear hb); (try clear hb2); (try clear hk); (try clear hi)))
            go_roundg k1
            case measure => have := HK1.out; omega
            case rel => exact ⟨(wrap64 (x3_1 + 1)), (by first | rfl | (simp; done) | (simp [*]; done)), H', ⟨by have := HK1.out; omega⟩, ⟨by (with_reducible repeat (first | refine blk_drewN ?_ _ | refine blk_drew ?_ | refine blk_alloc ?_ _)); exact BK220.out⟩, ⟨by repeat (first | (with_reducible first | exact HB.out | apply below_alloc | apply pw_below_drewN | apply below_drew1 | refine below_set ?_ GE220.out) | exact HB.out)⟩⟩
          · replace c6 := Bool.eq_false_iff.mpr c6
            subst c6
            have H1 : (some false) = some r := by rw [if_neg (show ¬ (false = true) by decide)] at H; exact H
            clear H
            have H := H1
            clear H1
            obtain rfl := Option.some.inj H
            have hcz9_0 : wr.cell? ⟨gb220, 0, none⟩ = some (.int .u32 a0_0) := (blk_cell BK220.out 0).trans rfl
            have hcz9_1 : wr.cell? ⟨gb220, 1, none⟩ = some (.int .u32 a0_1) := (blk_cell BK220.out 1).trans rfl
            have hcz9_2 : wr.cell? ⟨gb220, 2, none⟩ = some (.slice A0_2 l0_2.length c0_2) := (blk_cell BK220.out 2).trans rfl
            have hcz9_3 : wr.cell? ⟨gb220, 3, none⟩ = some (.slice A0_3 l0_3.length c0_3) := (blk_cell BK220.out 3).trans rfl
            have hfz9_0 := blk_frozen BK220.out 0
            have hfz9_1 := blk_frozen BK220.out 1
            have hfz9_2 := blk_frozen BK220.out 2
            have hfz9_3 := blk_frozen BK220.out 3
            have p221 : 0 ≤ (x3_1 : Int) := of_decide_eq_true (by first | (with_reducible assumption) | assumption)
            have q221 : x3_1 < (l0_2.length : Int) := of_decide_eq_true (by first | (with_reducible assumption) | assumption)
            obtain ⟨ad221, e221, hx221_0, hx221_1, hx221_2, hx221_3, hx221_4⟩ := at_T78 HR0_2.out x3_1 p221 q221
            cases e221
            replace hx221_0 := (HB.out.cell (World.block_lt_of_cell? w _ hx221_0)).trans hx221_0
            replace hx221_1 := (HB.out.cell (World.block_lt_of_cell? w _ hx221_1)).trans hx221_1
            replace hx221_2 := (HB.out.cell (World.block_lt_of_cell? w _ hx221_2)).trans hx221_2
            replace hx221_3 := (HB.out.cell (World.block_lt_of_cell? w _ hx221_3)).trans hx221_3
            replace hx221_4 := (HB.out.cell (World.block_lt_of_cell? w _ hx221_4)).trans hx221_4
            replace p221 := eq_true p221
            replace q221 := eq_true q221
            go_wp2_with (first | ((with_reducible refine gate_callee (f := 38) rfl ?_); refine goesL_ (some 17) rfl rfl Try.func38 (by kernel_rfl) rfl #[.agg #[.string ((rd_T78 l0_2 x3_1).f0), .int .i64 ((rd_T78 l0_2 x3_1).f1), .int .i64 ((rd_T78 l0_2 x3_1).f2), .int .i64 ((rd_T78 l0_2 x3_1).f3), .string ((rd_T78 l0_2 x3_1).f4)]] rfl (by (try simp only [List.map_toArray, List.map_cons, List.map_nil]); first | done | rfl | (simp only [List.length_drop, List.length_take]; rfl)) ?_; (with_reducible refine (beadrollref11_Right.calls k1 ((rd_T78 l0_2 x3_1).f0) ((rd_T78 l0_2 x3_1).f1) ((rd_T78 l0_2 x3_1).f2) ((rd_T78 l0_2 x3_1).f3) ((rd_T78 l0_2 x3_1).f4) false _ A5.out).mono ?_); rintro e w10 ⟨rfl, hb⟩; refine ⟨_, rfl, ?_⟩; have n0_ := Aside0.mk (blk_below (g := gb220) (o := .cells #[.int .u32 a0_0, .int .u32 a0_1, .slice (some ad221) l0_2.length c0_2, .slice A0_3 l0_3.length c0_3] 25 (0, 0)) (by (with_reducible repeat (first | refine blk_drewN ?_ _ | refine blk_drew ?_ | refine blk_alloc ?_ _)); exact BK220.out) hb); have n1_ := Aside0.mk (below_step (by repeat (first | (with_reducible first | exact HB.out | apply below_alloc | apply pw_below_drewN | apply below_drew1 | refine below_set ?_ GE220.out) | exact HB.out)) hb); clear BK220; clear HB; have BK220 := n0_; have HB := n1_; clear n0_ n1_; (try clear hb); (try clear hb2); (try clear hk); (try clear hi)))
            go_ret
            exact ⟨by first | rfl | (simp [errW_none, errW_some] <;> rfl) | (simp [*, errW_none, errW_some] <;> rfl), by repeat (first | (with_reducible first | exact HB.out | apply below_alloc | apply pw_below_drewN | apply below_drew1 | refine below_set ?_ GE220.out) | exact HB.out)⟩
        · rw [if_neg c4] at H
          exact absurd H (by simp)
      · rw [if_neg c3] at H
        have c3b0 : decide (x3_1 < (l0_2.length : Int)) = false := decide_eq_false c3
        clear c3
        have H' := Aside0.mk H
        clear H
        have hcz11_0 : wr.cell? ⟨gb220, 0, none⟩ = some (.int .u32 a0_0) := (blk_cell BK220.out 0).trans rfl
        have hcz11_1 : wr.cell? ⟨gb220, 1, none⟩ = some (.int .u32 a0_1) := (blk_cell BK220.out 1).trans rfl
        have hcz11_2 : wr.cell? ⟨gb220, 2, none⟩ = some (.slice A0_2 l0_2.length c0_2) := (blk_cell BK220.out 2).trans rfl
        have hcz11_3 : wr.cell? ⟨gb220, 3, none⟩ = some (.slice A0_3 l0_3.length c0_3) := (blk_cell BK220.out 3).trans rfl
        have hfz11_0 := blk_frozen BK220.out 0
        have hfz11_1 := blk_frozen BK220.out 1
        have hfz11_2 := blk_frozen BK220.out 2
        have hfz11_3 := blk_frozen BK220.out 3
        go_wp2
        go_loopg [4] k1 (fun kq v4 w' => ∃ (x4_2 : Int), v4 = .int .i64 x4_2 ∧ Aside0 (beadrollref17_Formed.l1 kq x4_2 a0_0 a0_1 l0_2 l0_3 = some r) ∧ Aside0 (kq ≤ k1) ∧ Aside0 (w'.heap[gb220]? = some (.cells #[.int .u32 a0_0, .int .u32 a0_1, (.slice A0_2 l0_2.length c0_2), (.slice A0_3 l0_3.length c0_3)] 25 (0, 0))) ∧ Aside0 (Below w.heap.size w w'))
        case atStart => exact ⟨(0), (by first | rfl | (simp; done) | (simp [*]; done)), H', ⟨Nat.le_refl _⟩, ⟨by (with_reducible repeat (first | refine blk_drewN ?_ _ | refine blk_drew ?_ | refine blk_alloc ?_ _)); exact BK220.out⟩, ⟨by repeat (first | (with_reducible first | exact HB.out | apply below_alloc | apply pw_below_drewN | apply below_drew1 | refine below_set ?_ GE220.out) | exact HB.out)⟩⟩
        case round =>
          clear H'
          try clear c1
          try clear p2
          try clear q2
          try clear hx2
          try clear c3
          try clear c3b0
          try clear c4
          try clear c4b0
          try clear c6
          try clear p6
          try clear hcz11_0
          try clear hcz11_1
          try clear hcz11_2
          try clear hcz11_3
          try clear hcz7_0
          try clear hcz7_1
          try clear hcz7_2
          try clear hcz7_3
          try clear hcz9_0
          try clear hcz9_1
          try clear hcz9_2
          try clear hcz9_3
          try clear hfz11_0
          try clear hfz11_1
          try clear hfz11_2
          try clear hfz11_3
          try clear hfz7_0
          try clear hfz7_1
          try clear hfz7_2
          try clear hfz7_3
          try clear hfz9_0
          try clear hfz9_1
          try clear hfz9_2
          try clear hfz9_3
          try clear hx221_0
          try clear hx221_1
          try clear hx221_2
          try clear hx221_3
          try clear hx221_4
          try clear p2
          try clear p221
          try clear q221
          obtain ⟨x4_2, rfl, HA, HK2, BK220, HB⟩ := hrel
          cases gk with
          | zero => exact absurd HA.out (by simp [beadrollref17_Formed.l1])
          | succ k2 =>
            have H := HA.out
            clear HA
            simp only [beadrollref17_Formed.l1] at H
            by_cases c12 : x4_2 < (l0_3.length : Int)
            · rw [if_pos c12] at H
              have c12b0 : decide (x4_2 < (l0_3.length : Int)) = true := decide_eq_true c12
              clear c12
              by_cases c13 : 0 ≤ x4_2
              · rw [if_pos c13] at H
                have c13b0 : decide (0 ≤ x4_2) = true := decide_eq_true c13
                clear c13
                replace H := Option.bind_eq_some_iff.mp H
                obtain ⟨t224, A140, H⟩ := H
                replace H : (if t224 = true then (beadrollref17_Formed.l1 k2 (wrap64 (x4_2 + 1)) a0_0 a0_1 l0_2 l0_3) else (some false)) = some r := H
                have A14 := Aside0.mk A140
                clear A140
                by_cases c15 : t224 = true
                · subst c15
                  have H1 : (beadrollref17_Formed.l1 k2 (wrap64 (x4_2 + 1)) a0_0 a0_1 l0_2 l0_3) = some r := by rw [if_pos rfl] at H; exact H
                  clear H
                  have H := H1
                  clear H1
                  have H' := Aside0.mk H
                  clear H
                  have hcz16_0 : wr.cell? ⟨gb220, 0, none⟩ = some (.int .u32 a0_0) := (blk_cell BK220.out 0).trans rfl
                  have hcz16_1 : wr.cell? ⟨gb220, 1, none⟩ = some (.int .u32 a0_1) := (blk_cell BK220.out 1).trans rfl
                  have hcz16_2 : wr.cell? ⟨gb220, 2, none⟩ = some (.slice A0_2 l0_2.length c0_2) := (blk_cell BK220.out 2).trans rfl
                  have hcz16_3 : wr.cell? ⟨gb220, 3, none⟩ = some (.slice A0_3 l0_3.length c0_3) := (blk_cell BK220.out 3).trans rfl
                  have hfz16_0 := blk_frozen BK220.out 0
                  have hfz16_1 := blk_frozen BK220.out 1
                  have hfz16_2 := blk_frozen BK220.out 2
                  have hfz16_3 := blk_frozen BK220.out 3
                  have p223 : 0 ≤ (x4_2 : Int) := of_decide_eq_true (by first | (with_reducible assumption) | assumption)
                  have q223 : x4_2 < (l0_3.length : Int) := of_decide_eq_true (by first | (with_reducible assumption) | assumption)
                  obtain ⟨ad223, e223, hx223_0, hx223_1, hx223_2, hx223_3, hx223_4⟩ := at_T78 HR0_3.out x4_2 p223 q223
                  cases e223
                  replace hx223_0 := (HB.out.cell (World.block_lt_of_cell? w _ hx223_0)).trans hx223_0
                  replace hx223_1 := (HB.out.cell (World.block_lt_of_cell? w _ hx223_1)).trans hx223_1
                  replace hx223_2 := (HB.out.cell (World.block_lt_of_cell? w _ hx223_2)).trans hx223_2
                  replace hx223_3 := (HB.out.cell (World.block_lt_of_cell? w _ hx223_3)).trans hx223_3
                  replace hx223_4 := (HB.out.cell (World.block_lt_of_cell? w _ hx223_4)).trans hx223_4
                  replace p223 := eq_true p223
                  replace q223 := eq_true q223
                  go_wp2_with (first | ((with_reducible refine gate_callee (f := 38) rfl ?_); refine goesL_ (some 31) rfl rfl Try.func38 (by kernel_rfl) rfl #[.agg #[.string ((rd_T78 l0_3 x4_2).f0), .int .i64 ((rd_T78 l0_3 x4_2).f1), .int .i64 ((rd_T78 l0_3 x4_2).f2), .int .i64 ((rd_T78 l0_3 x4_2).f3), .string ((rd_T78 l0_3 x4_2).f4)]] rfl (by (try simp only [List.map_toArray, List.map_cons, List.map_nil]); first | done | rfl | (simp only [List.length_drop, List.length_take]; rfl)) ?_; (with_reducible refine (beadrollref11_Right.calls k2 ((rd_T78 l0_3 x4_2).f0) ((rd_T78 l0_3 x4_2).f1) ((rd_T78 l0_3 x4_2).f2) ((rd_T78 l0_3 x4_2).f3) ((rd_T78 l0_3 x4_2).f4) true _ A14.out).mono ?_); rintro e w17 ⟨rfl, hb⟩; refine ⟨_, rfl, ?_⟩; have n0_ := Aside0.mk (blk_below (g := gb220) (o := .cells #[.int .u32 a0_0, .int .u32 a0_1, .slice A0_2 l0_2.length c0_2, .slice (some ad223) l0_3.length c0_3] 25 (0, 0)) (by (with_reducible repeat (first | refine blk_drewN ?_ _ | refine blk_drew ?_ | refine blk_alloc ?_ _)); exact BK220.out) hb); have n1_ := Aside0.mk (below_step (by repeat (first | (with_reducible first | exact HB.out | apply below_alloc | apply pw_below_drewN | apply below_drew1 | refine below_set ?_ GE220.out) | exact HB.out)) hb); clear BK220; clear HB; have BK220 := n0_; have HB := n1_; clear n0_ n1_; (try clear hb); (try clear hb2); (try clear hk); (try clear hi)))
                  go_roundg k2
                  case measure => have := HK1.out; have := HK2.out; omega
                  case rel => exact ⟨(wrap64 (x4_2 + 1)), (by first | rfl | (simp; done) | (simp [*]; done)), H', ⟨by have := HK1.out; have := HK2.out; omega⟩, ⟨by (with_reducible repeat (first | refine blk_drewN ?_ _ | refine blk_drew ?_ | refine blk_alloc ?_ _)); exact BK220.out⟩, ⟨by repeat (first | (with_reducible first | exact HB.out | apply below_alloc | apply pw_below_drewN | apply below_drew1 | refine below_set ?_ GE220.out) | exact HB.out)⟩⟩
                · replace c15 := Bool.eq_false_iff.mpr c15
                  subst c15
                  have H1 : (some false) = some r := by rw [if_neg (show ¬ (false = true) by decide)] at H; exact H
                  clear H
                  have H := H1
                  clear H1
                  obtain rfl := Option.some.inj H
                  have hcz18_0 : wr.cell? ⟨gb220, 0, none⟩ = some (.int .u32 a0_0) := (blk_cell BK220.out 0).trans rfl
                  have hcz18_1 : wr.cell? ⟨gb220, 1, none⟩ = some (.int .u32 a0_1) := (blk_cell BK220.out 1).trans rfl
                  have hcz18_2 : wr.cell? ⟨gb220, 2, none⟩ = some (.slice A0_2 l0_2.length c0_2) := (blk_cell BK220.out 2).trans rfl
                  have hcz18_3 : wr.cell? ⟨gb220, 3, none⟩ = some (.slice A0_3 l0_3.length c0_3) := (blk_cell BK220.out 3).trans rfl
                  have hfz18_0 := blk_frozen BK220.out 0
                  have hfz18_1 := blk_frozen BK220.out 1
                  have hfz18_2 := blk_frozen BK220.out 2
                  have hfz18_3 := blk_frozen BK220.out 3
                  have p223 : 0 ≤ (x4_2 : Int) := of_decide_eq_true (by first | (with_reducible assumption) | assumption)
                  have q223 : x4_2 < (l0_3.length : Int) := of_decide_eq_true (by first | (with_reducible assumption) | assumption)
                  obtain ⟨ad223, e223, hx223_0, hx223_1, hx223_2, hx223_3, hx223_4⟩ := at_T78 HR0_3.out x4_2 p223 q223
                  cases e223
                  replace hx223_0 := (HB.out.cell (World.block_lt_of_cell? w _ hx223_0)).trans hx223_0
                  replace hx223_1 := (HB.out.cell (World.block_lt_of_cell? w _ hx223_1)).trans hx223_1
                  replace hx223_2 := (HB.out.cell (World.block_lt_of_cell? w _ hx223_2)).trans hx223_2
                  replace hx223_3 := (HB.out.cell (World.block_lt_of_cell? w _ hx223_3)).trans hx223_3
                  replace hx223_4 := (HB.out.cell (World.block_lt_of_cell? w _ hx223_4)).trans hx223_4
                  replace p223 := eq_true p223
                  replace q223 := eq_true q223
                  go_wp2_with (first | ((with_reducible refine gate_callee (f := 38) rfl ?_); refine goesL_ (some 31) rfl rfl Try.func38 (by kernel_rfl) rfl #[.agg #[.string ((rd_T78 l0_3 x4_2).f0), .int .i64 ((rd_T78 l0_3 x4_2).f1), .int .i64 ((rd_T78 l0_3 x4_2).f2), .int .i64 ((rd_T78 l0_3 x4_2).f3), .string ((rd_T78 l0_3 x4_2).f4)]] rfl (by (try simp only [List.map_toArray, List.map_cons, List.map_nil]); first | done | rfl | (simp only [List.length_drop, List.length_take]; rfl)) ?_; (with_reducible refine (beadrollref11_Right.calls k2 ((rd_T78 l0_3 x4_2).f0) ((rd_T78 l0_3 x4_2).f1) ((rd_T78 l0_3 x4_2).f2) ((rd_T78 l0_3 x4_2).f3) ((rd_T78 l0_3 x4_2).f4) false _ A14.out).mono ?_); rintro e w19 ⟨rfl, hb⟩; refine ⟨_, rfl, ?_⟩; have n0_ := Aside0.mk (blk_below (g := gb220) (o := .cells #[.int .u32 a0_0, .int .u32 a0_1, .slice A0_2 l0_2.length c0_2, .slice (some ad223) l0_3.length c0_3] 25 (0, 0)) (by (with_reducible repeat (first | refine blk_drewN ?_ _ | refine blk_drew ?_ | refine blk_alloc ?_ _)); exact BK220.out) hb); have n1_ := Aside0.mk (below_step (by repeat (first | (with_reducible first | exact HB.out | apply below_alloc | apply pw_below_drewN | apply below_drew1 | refine below_set ?_ GE220.out) | exact HB.out)) hb); clear BK220; clear HB; have BK220 := n0_; have HB := n1_; clear n0_ n1_; (try clear hb); (try clear hb2); (try clear hk); (try clear hi)))
                  go_ret
                  exact ⟨by first | rfl | (simp [errW_none, errW_some] <;> rfl) | (simp [*, errW_none, errW_some] <;> rfl), by repeat (first | (with_reducible first | exact HB.out | apply below_alloc | apply pw_below_drewN | apply below_drew1 | refine below_set ?_ GE220.out) | exact HB.out)⟩
              · rw [if_neg c13] at H
                exact absurd H (by simp)
            · rw [if_neg c12] at H
              have c12b0 : decide (x4_2 < (l0_3.length : Int)) = false := decide_eq_false c12
              clear c12
              obtain rfl := Option.some.inj H
              have hcz20_0 : wr.cell? ⟨gb220, 0, none⟩ = some (.int .u32 a0_0) := (blk_cell BK220.out 0).trans rfl
              have hcz20_1 : wr.cell? ⟨gb220, 1, none⟩ = some (.int .u32 a0_1) := (blk_cell BK220.out 1).trans rfl
              have hcz20_2 : wr.cell? ⟨gb220, 2, none⟩ = some (.slice A0_2 l0_2.length c0_2) := (blk_cell BK220.out 2).trans rfl
              have hcz20_3 : wr.cell? ⟨gb220, 3, none⟩ = some (.slice A0_3 l0_3.length c0_3) := (blk_cell BK220.out 3).trans rfl
              have hfz20_0 := blk_frozen BK220.out 0
              have hfz20_1 := blk_frozen BK220.out 1
              have hfz20_2 := blk_frozen BK220.out 2
              have hfz20_3 := blk_frozen BK220.out 3
              go_wp2
              go_ret
              exact ⟨by first | rfl | (simp [errW_none, errW_some] <;> rfl) | (simp [*, errW_none, errW_some] <;> rfl), by repeat (first | (with_reducible first | exact HB.out | apply below_alloc | apply pw_below_drewN | apply below_drew1 | refine below_set ?_ GE220.out) | exact HB.out)⟩

/-! ### beadrollref11_Same -/
def beadrollref11_Same.l0 : Nat → List (S78) → List (S78) → Int → Option (Bool)
  | 0, _, _, _ => none
  | k + 1, x0, x1, x5 => if x5 < (x0.length : Int) then (if 0 ≤ x5 then (if x5 < (x1.length : Int) then (if (!((((rd_T78 x0 x5).f0).toList) == (((rd_T78 x1 x5).f0).toList)) || (!(((rd_T78 x0 x5).f1) == ((rd_T78 x1 x5).f1)) || (!(((rd_T78 x0 x5).f2) == ((rd_T78 x1 x5).f2)) || (!(((rd_T78 x0 x5).f3) == ((rd_T78 x1 x5).f3)) || (!((((rd_T78 x0 x5).f4).toList) == (((rd_T78 x1 x5).f4).toList))))))) = true then (some false) else (beadrollref11_Same.l0 k x0 x1 (wrap64 (x5 + 1)))) else (none)) else (none)) else (some true)
def beadrollref11_Same.f (k : Nat) (l0 : List (S78)) (l1 : List (S78)) : Option (Bool) := if (l0.length : Int) = (l1.length : Int) then (beadrollref11_Same.l0 k l0 l1 0) else (some false)
theorem beadrollref11_Same.mono_l : ∀ k, (∀ y0 y1 y2, LeO (beadrollref11_Same.l0 k y0 y1 y2) (beadrollref11_Same.l0 (k + 1) y0 y1 y2))
  | 0 => fun _ _ _ r h => by simp [beadrollref11_Same.l0] at h
  | k + 1 => by
    have ih0 := beadrollref11_Same.mono_l k
    · intro y0 y1 y2
      unfold beadrollref11_Same.l0
      repeat' first
      | (with_reducible exact ih0 _ _ _)
      | (with_reducible exact LeO.refl _)
      | (with_reducible exact LeO.none _)
      | (with_reducible refine LeO.ite ?_ ?_)
      | (with_reducible refine LeO.bind ?_ (fun _ => ?_))
      | exact ih0 _ _ _
      | exact LeO.none _
      | refine LeO.ite ?_ ?_
      | refine LeO.bind ?_ (fun _ => ?_)
theorem beadrollref11_Same.mono : ∀ a0 a1 k, LeO (beadrollref11_Same.f k a0 a1) (beadrollref11_Same.f (k + 1) a0 a1) := by
  intro a0 a1 k
  have ih0 := beadrollref11_Same.mono_l k
  unfold beadrollref11_Same.f
  repeat' first
      | (with_reducible exact ih0 _ _ _)
      | (with_reducible exact LeO.refl _)
      | (with_reducible exact LeO.none _)
      | (with_reducible refine LeO.ite ?_ ?_)
      | (with_reducible refine LeO.bind ?_ (fun _ => ?_))
      | exact ih0 _ _ _
      | exact LeO.none _
      | refine LeO.ite ?_ ?_
      | refine LeO.bind ?_ (fun _ => ?_)
set_option maxHeartbeats 8000000 in
set_option maxRecDepth 100000 in
theorem beadrollref11_Same.calls (k : Nat) (A0 : Option Addr) (c0 : Nat) (l0 : List (S78)) (A1 : Option Addr) (c1 : Nat) (l1 : List (S78)) (r : Bool) (w : World) (hr0 : Kd.C k78 w A0 l0.length l0) (hc0 : l0.length ≤ c0) (hr1 : Kd.C k78 w A1 l1.length l1) (hc1 : l1.length ≤ c1) (h : beadrollref11_Same.f k l0 l1 = some r) :
    Calls Try.prog 44 #[.slice A0 l0.length c0, .slice A1 l1.length c1] w fun e w' => e = .returned (.bool r) ∧ Drawn0 w w' := by
  have hu78 := Try.underlying78
  have HR0 := Aside0.mk hr0
  have HC0 := Aside0.mk hc0
  clear hr0 hc0
  have HR1 := Aside0.mk hr1
  have HC1 := Aside0.mk hc1
  clear hr1 hc1
  have H : (if (l0.length : Int) = (l1.length : Int) then (beadrollref11_Same.l0 k l0 l1 0) else (some false)) = some r := h
  clear h
  by_cases c3 : (l0.length : Int) = (l1.length : Int)
  · rw [if_pos c3] at H
    have c3b0 : ((l0.length : Int) == (l1.length : Int)) = true := beq_iff_eq.mpr c3
    have c3b1 : ((l0.length : Int) != (l1.length : Int)) = false := bne_eq_false_iff_eq.mpr c3
    have c3b2 : (l0.length == l1.length) = true := by first | simpa using c3 | (simp at c3 ⊢; omega)
    clear c3
    have H' := Aside0.mk H
    clear H
    go_enter Try.func44, Try.ntmps44
    go_wp2
    repeat (go_quiet (fail); try go_wp2)
    go_loopg [5] k (fun kq v5 w' => ∃ (x5_1 : Int), v5 = .int .i64 x5_1 ∧ Aside0 (beadrollref11_Same.l0 kq l0 l1 x5_1 = some r) ∧ Aside0 (kq ≤ k) ∧ Drawn0 w w')
    case atStart => exact ⟨(0), (by first | rfl | (simp; done) | (simp [*]; done)), H', ⟨Nat.le_refl _⟩, by repeat (first | exact Drawn0.refl _ | apply Drawn0.step)⟩
    case round =>
      clear H'
      try clear c1
      try clear p2
      try clear c3
      try clear c3b0
      try clear c3b1
      try clear c3b2
      obtain ⟨x5_1, rfl, HA, HK1, ⟨m1, rfl⟩⟩ := hrel
      cases gk with
      | zero => exact absurd HA.out (by simp [beadrollref11_Same.l0])
      | succ k1 =>
        have H := HA.out
        clear HA
        simp only [beadrollref11_Same.l0] at H
        by_cases c4 : x5_1 < (l0.length : Int)
        · rw [if_pos c4] at H
          have c4b0 : decide (x5_1 < (l0.length : Int)) = true := decide_eq_true c4
          clear c4
          by_cases c5 : 0 ≤ x5_1
          · rw [if_pos c5] at H
            have c5b0 : decide (0 ≤ x5_1) = true := decide_eq_true c5
            clear c5
            by_cases c6 : x5_1 < (l1.length : Int)
            · rw [if_pos c6] at H
              have c6b0 : decide (x5_1 < (l1.length : Int)) = true := decide_eq_true c6
              clear c6
              by_cases c7 : (!((((rd_T78 l0 x5_1).f0).toList) == (((rd_T78 l1 x5_1).f0).toList)) || (!(((rd_T78 l0 x5_1).f1) == ((rd_T78 l1 x5_1).f1)) || (!(((rd_T78 l0 x5_1).f2) == ((rd_T78 l1 x5_1).f2)) || (!(((rd_T78 l0 x5_1).f3) == ((rd_T78 l1 x5_1).f3)) || (!((((rd_T78 l0 x5_1).f4).toList) == (((rd_T78 l1 x5_1).f4).toList))))))) = true
              · rw [if_pos c7] at H
                have c7b0 : (!((((rd_T78 l0 x5_1).f0).toList) == (((rd_T78 l1 x5_1).f0).toList)) || (!(((rd_T78 l0 x5_1).f1) == ((rd_T78 l1 x5_1).f1)) || (!(((rd_T78 l0 x5_1).f2) == ((rd_T78 l1 x5_1).f2)) || (!(((rd_T78 l0 x5_1).f3) == ((rd_T78 l1 x5_1).f3)) || (!((((rd_T78 l0 x5_1).f4).toList) == (((rd_T78 l1 x5_1).f4).toList))))))) = true := c7
                clear c7
                obtain rfl := Option.some.inj H
                have p230 : 0 ≤ (x5_1 : Int) := of_decide_eq_true (by first | (with_reducible assumption) | assumption)
                have q230 : x5_1 < (l0.length : Int) := of_decide_eq_true (by first | (with_reducible assumption) | assumption)
                obtain ⟨ad230, e230, hx230_0, hx230_1, hx230_2, hx230_3, hx230_4⟩ := at_T78 HR0.out x5_1 p230 q230
                cases e230
                replace p230 := eq_true p230
                replace q230 := eq_true q230
                have p231 : 0 ≤ (x5_1 : Int) := of_decide_eq_true (by first | (with_reducible assumption) | assumption)
                have q231 : x5_1 < (l1.length : Int) := of_decide_eq_true (by first | (with_reducible assumption) | assumption)
                obtain ⟨ad231, e231, hx231_0, hx231_1, hx231_2, hx231_3, hx231_4⟩ := at_T78 HR1.out x5_1 p231 q231
                cases e231
                replace p231 := eq_true p231
                replace q231 := eq_true q231
                go_wp2
                repeat (go_quiet (fail); try go_wp2)
                go_ret
                exact ⟨by first | rfl | (simp; done) | (simp [*]; done), by repeat (first | exact Drawn0.refl _ | apply Drawn0.step)⟩
              · rw [if_neg c7] at H
                have c7b0 : (!((((rd_T78 l0 x5_1).f0).toList) == (((rd_T78 l1 x5_1).f0).toList)) || (!(((rd_T78 l0 x5_1).f1) == ((rd_T78 l1 x5_1).f1)) || (!(((rd_T78 l0 x5_1).f2) == ((rd_T78 l1 x5_1).f2)) || (!(((rd_T78 l0 x5_1).f3) == ((rd_T78 l1 x5_1).f3)) || (!((((rd_T78 l0 x5_1).f4).toList) == (((rd_T78 l1 x5_1).f4).toList))))))) = false := by simpa using c7
                clear c7
                have H' := Aside0.mk H
                clear H
                have p230 : 0 ≤ (x5_1 : Int) := of_decide_eq_true (by first | (with_reducible assumption) | assumption)
                have q230 : x5_1 < (l0.length : Int) := of_decide_eq_true (by first | (with_reducible assumption) | assumption)
                obtain ⟨ad230, e230, hx230_0, hx230_1, hx230_2, hx230_3, hx230_4⟩ := at_T78 HR0.out x5_1 p230 q230
                cases e230
                replace p230 := eq_true p230
                replace q230 := eq_true q230
                have p231 : 0 ≤ (x5_1 : Int) := of_decide_eq_true (by first | (with_reducible assumption) | assumption)
                have q231 : x5_1 < (l1.length : Int) := of_decide_eq_true (by first | (with_reducible assumption) | assumption)
                obtain ⟨ad231, e231, hx231_0, hx231_1, hx231_2, hx231_3, hx231_4⟩ := at_T78 HR1.out x5_1 p231 q231
                cases e231
                replace p231 := eq_true p231
                replace q231 := eq_true q231
                go_wp2
                repeat (go_quiet (fail); try go_wp2)
                go_roundg k1
                case measure => have := HK1.out; omega
                case rel => exact ⟨(wrap64 (x5_1 + 1)), (by first | rfl | (simp; done) | (simp [*]; done)), H', ⟨by have := HK1.out; omega⟩, by repeat (first | exact Drawn0.refl _ | apply Drawn0.step)⟩
            · rw [if_neg c6] at H
              exact absurd H (by simp)
          · rw [if_neg c5] at H
            exact absurd H (by simp)
        · rw [if_neg c4] at H
          have c4b0 : decide (x5_1 < (l0.length : Int)) = false := decide_eq_false c4
          clear c4
          obtain rfl := Option.some.inj H
          go_wp2
          repeat (go_quiet (fail); try go_wp2)
          go_ret
          exact ⟨by first | rfl | (simp; done) | (simp [*]; done), by repeat (first | exact Drawn0.refl _ | apply Drawn0.step)⟩
  · rw [if_neg c3] at H
    have c3b0 : ((l0.length : Int) == (l1.length : Int)) = false := beq_eq_false_iff_ne.mpr c3
    have c3b1 : ((l0.length : Int) != (l1.length : Int)) = true := bne_iff_ne.mpr c3
    have c3b2 : (l0.length == l1.length) = false := by first | simpa using c3 | (simp at c3 ⊢; omega)
    obtain rfl := Option.some.inj H
    go_enter Try.func44, Try.ntmps44
    go_wp2
    repeat (go_quiet (fail); try go_wp2)
    go_ret
    exact ⟨by first | rfl | (simp; done) | (simp [*]; done), by repeat (first | exact Drawn0.refl _ | apply Drawn0.step)⟩

/-! ### beadrollref17_Same -/
def beadrollref17_Same.f (k : Nat) (a0_0 : Int) (a0_1 : Int) (l0_2 : List (S78)) (l0_3 : List (S78)) (a1_0 : Int) (a1_1 : Int) (l1_2 : List (S78)) (l1_3 : List (S78)) : Option (Bool) := if a0_0 = a1_0 then (if a0_1 = a1_1 then ((beadrollref11_Same.f k l0_2 l1_2).bind fun t234 => (if t234 = true then ((beadrollref11_Same.f k l0_3 l1_3).bind fun t235 => (some t235)) else (some false))) else (some false)) else (some false)
theorem beadrollref17_Same.mono : ∀ a0 a1 a2 a3 a4 a5 a6 a7 k, LeO (beadrollref17_Same.f k a0 a1 a2 a3 a4 a5 a6 a7) (beadrollref17_Same.f (k + 1) a0 a1 a2 a3 a4 a5 a6 a7) := by
  intro a0 a1 a2 a3 a4 a5 a6 a7 k
  unfold beadrollref17_Same.f
  repeat' first
      | (with_reducible exact beadrollref11_Same.mono _ _ _)
      | (with_reducible exact LeO.refl _)
      | (with_reducible exact LeO.none _)
      | (with_reducible refine LeO.ite ?_ ?_)
      | (with_reducible refine LeO.bind ?_ (fun _ => ?_))
      | exact beadrollref11_Same.mono _ _ _
      | exact LeO.none _
      | refine LeO.ite ?_ ?_
      | refine LeO.bind ?_ (fun _ => ?_)
set_option maxHeartbeats 8000000 in
set_option maxRecDepth 100000 in
theorem beadrollref17_Same.calls (k : Nat) (a0_0 : Int) (a0_1 : Int) (A0_2 : Option Addr) (c0_2 : Nat) (l0_2 : List (S78)) (A0_3 : Option Addr) (c0_3 : Nat) (l0_3 : List (S78)) (a1_0 : Int) (a1_1 : Int) (A1_2 : Option Addr) (c1_2 : Nat) (l1_2 : List (S78)) (A1_3 : Option Addr) (c1_3 : Nat) (l1_3 : List (S78)) (r : Bool) (w : World) (hr0_2 : Kd.C k78 w A0_2 l0_2.length l0_2) (hc0_2 : l0_2.length ≤ c0_2) (hr0_3 : Kd.C k78 w A0_3 l0_3.length l0_3) (hc0_3 : l0_3.length ≤ c0_3) (hr1_2 : Kd.C k78 w A1_2 l1_2.length l1_2) (hc1_2 : l1_2.length ≤ c1_2) (hr1_3 : Kd.C k78 w A1_3 l1_3.length l1_3) (hc1_3 : l1_3.length ≤ c1_3) (h : beadrollref17_Same.f k a0_0 a0_1 l0_2 l0_3 a1_0 a1_1 l1_2 l1_3 = some r) :
    Calls Try.prog 15 #[.agg #[.int .u32 a0_0, .int .u32 a0_1, .slice A0_2 l0_2.length c0_2, .slice A0_3 l0_3.length c0_3], .agg #[.int .u32 a1_0, .int .u32 a1_1, .slice A1_2 l1_2.length c1_2, .slice A1_3 l1_3.length c1_3]] w fun e w' => e = .returned (.bool r) ∧ Below w.heap.size w w' := by
  have hu25 := Try.underlying25
  have HR0_2 := Aside0.mk hr0_2
  have HC0_2 := Aside0.mk hc0_2
  clear hr0_2 hc0_2
  have HR0_3 := Aside0.mk hr0_3
  have HC0_3 := Aside0.mk hc0_3
  clear hr0_3 hc0_3
  have HR1_2 := Aside0.mk hr1_2
  have HC1_2 := Aside0.mk hc1_2
  clear hr1_2 hc1_2
  have HR1_3 := Aside0.mk hr1_3
  have HC1_3 := Aside0.mk hc1_3
  clear hr1_3 hc1_3
  have HB := Aside0.mk (Below.refl w.heap.size w)
  have H : (if a0_0 = a1_0 then (if a0_1 = a1_1 then ((beadrollref11_Same.f k l0_2 l1_2).bind fun t234 => (if t234 = true then ((beadrollref11_Same.f k l0_3 l1_3).bind fun t235 => (some t235)) else (some false))) else (some false)) else (some false)) = some r := h
  clear h
  by_cases c3 : a0_0 = a1_0
  · rw [if_pos c3] at H
    have c3b0 : (a0_0 == a1_0) = true := beq_iff_eq.mpr c3
    have c3b1 : (a0_0 != a1_0) = false := bne_eq_false_iff_eq.mpr c3
    clear c3
    by_cases c4 : a0_1 = a1_1
    · rw [if_pos c4] at H
      have c4b0 : (a0_1 == a1_1) = true := beq_iff_eq.mpr c4
      have c4b1 : (a0_1 != a1_1) = false := bne_eq_false_iff_eq.mpr c4
      clear c4
      replace H := Option.bind_eq_some_iff.mp H
      obtain ⟨t234, A50, H⟩ := H
      replace H : (if t234 = true then ((beadrollref11_Same.f k l0_3 l1_3).bind fun t235 => (some t235)) else (some false)) = some r := H
      have A5 := Aside0.mk A50
      clear A50
      by_cases c6 : t234 = true
      · subst c6
        have H1 : ((beadrollref11_Same.f k l0_3 l1_3).bind fun t235 => (some t235)) = some r := by rw [if_pos rfl] at H; exact H
        clear H
        have H := H1
        clear H1
        replace H := Option.bind_eq_some_iff.mp H
        obtain ⟨t235, A70, H⟩ := H
        replace H : (some t235) = some r := H
        have A7 := Aside0.mk A70
        clear A70
        obtain rfl := Option.some.inj H
        go_enter Try.func15, Try.ntmps15
        go_wp2_with (first | ((with_reducible refine gate_dst (N := 2) rfl ?_); refine box_event ?hg (N := 2) ?hd (cs := #[.int .u32 a0_0, .int .u32 a0_1, .slice A0_2 l0_2.length c0_2, .slice A0_3 l0_3.length c0_3]) (t := 25) ?hr ?_; (case hd => rfl); (case hg => rfl); (case hr => first | (go_simp; done) | (go_simp; rfl)); intro gb232 hg w8 hbox hb; have n0_ := Aside0.mk (below_step (by repeat (first | (with_reducible first | exact HB.out | apply below_alloc | apply pw_below_drewN | apply below_drew1) | exact HB.out)) hb); have n1_ := Aside0.mk (hbox); have n2_ := Aside0.mk ((by rw [hg]; exact (below_size (by repeat (first | (with_reducible first | exact HB.out | apply below_alloc | apply pw_below_drewN | apply below_drew1) | exact HB.out))) : w.heap.size ≤ gb232)); have n3_ := Aside0.mk ((by rw [hg]; exact (below_size (by repeat (first | (with_reducible first | exact HB.out | apply below_alloc | apply pw_below_drewN | apply below_drew1) | exact HB.out))) : w.heap.size ≤ gb232)); clear HB; have HB := n0_; have BK232 := n1_; have GW232 := n2_; have GE232 := n3_; clear n0_ n1_ n2_ n3_; clear hb hbox hg) | ((with_reducible refine gate_dst (N := 3) rfl ?_); refine box_event ?hg (N := 3) ?hd (cs := #[.int .u32 a1_0, .int .u32 a1_1, .slice A1_2 l1_2.length c1_2, .slice A1_3 l1_3.length c1_3]) (t := 25) ?hr ?_; (case hd => rfl); (case hg => rfl); (case hr => first | (go_simp; done) | (go_simp; rfl)); intro gb233 hg w9 hbox hb; have n0_ := Aside0.mk (blk_below (g := gb232) (o := .cells #[.int .u32 a0_0, .int .u32 a0_1, .slice A0_2 l0_2.length c0_2, .slice A0_3 l0_3.length c0_3] 25 (0, 0)) (by (with_reducible repeat (first | refine blk_drewN ?_ _ | refine blk_drew ?_ | refine blk_alloc ?_ _)); exact BK232.out) hb); have n1_ := Aside0.mk (below_step (by repeat (first | (with_reducible first | exact HB.out | apply below_alloc | apply pw_below_drewN | apply below_drew1 | refine below_set ?_ GE232.out) | exact HB.out)) hb); have n2_ := Aside0.mk (hbox); have n3_ := Aside0.mk ((by rw [hg]; exact (below_size (by repeat (first | (with_reducible first | exact HB.out | apply below_alloc | apply pw_below_drewN | apply below_drew1 | refine below_set ?_ GE232.out) | exact HB.out))) : w.heap.size ≤ gb233)); have n4_ := Aside0.mk ((by rw [hg]; exact (below_size (by repeat (first | (with_reducible first | exact HB.out | apply below_alloc | apply pw_below_drewN | apply below_drew1 | refine below_set ?_ GE232.out) | exact HB.out))) : w.heap.size ≤ gb233)); have n5_ := Aside0.mk ((by rw [hg]; exact Nat.ne_of_lt (blk_lt (g := gb232) (o := .cells #[.int .u32 a0_0, .int .u32 a0_1, .slice A0_2 l0_2.length c0_2, .slice A0_3 l0_3.length c0_3] 25 (0, 0)) (by (with_reducible repeat (first | refine blk_drewN ?_ _ | refine blk_drew ?_ | refine blk_alloc ?_ _)); exact BK232.out)) : gb232 ≠ gb233)); have n6_ := Aside0.mk ((by rw [hg]; exact Nat.ne_of_gt (blk_lt (g := gb232) (o := .cells #[.int .u32 a0_0, .int .u32 a0_1, .slice A0_2 l0_2.length c0_2, .slice A0_3 l0_3.length c0_3] 25 (0, 0)) (by (with_reducible repeat (first | refine blk_drewN ?_ _ | refine blk_drew ?_ | refine blk_alloc ?_ _)); exact BK232.out)) : gb233 ≠ gb232)); clear BK232; clear HB; have BK232 := n0_; have HB := n1_; have BK233 := n2_; have GW233 := n3_; have GE233 := n4_; have NB232_233 := n5_; have NB233_232 := n6_; clear n0_ n1_ n2_ n3_ n4_ n5_ n6_; clear hb hbox hg; have hnb10 := NB232_233.out; have hnc10 := NB233_232.out; have hcz11_0 : w9.cell? ⟨gb232, 0, none⟩ = some (.int .u32 a0_0) := (blk_cell BK232.out 0).trans rfl; have hcz11_1 : w9.cell? ⟨gb232, 1, none⟩ = some (.int .u32 a0_1) := (blk_cell BK232.out 1).trans rfl; have hcz11_2 : w9.cell? ⟨gb232, 2, none⟩ = some (.slice A0_2 l0_2.length c0_2) := (blk_cell BK232.out 2).trans rfl; have hcz11_3 : w9.cell? ⟨gb232, 3, none⟩ = some (.slice A0_3 l0_3.length c0_3) := (blk_cell BK232.out 3).trans rfl; have hfz11_0 := blk_frozen BK232.out 0; have hfz11_1 := blk_frozen BK232.out 1; have hfz11_2 := blk_frozen BK232.out 2; have hfz11_3 := blk_frozen BK232.out 3; have hcz12_0 : w9.cell? ⟨gb233, 0, none⟩ = some (.int .u32 a1_0) := (blk_cell BK233.out 0).trans rfl; have hcz12_1 : w9.cell? ⟨gb233, 1, none⟩ = some (.int .u32 a1_1) := (blk_cell BK233.out 1).trans rfl; have hcz12_2 : w9.cell? ⟨gb233, 2, none⟩ = some (.slice A1_2 l1_2.length c1_2) := (blk_cell BK233.out 2).trans rfl; have hcz12_3 : w9.cell? ⟨gb233, 3, none⟩ = some (.slice A1_3 l1_3.length c1_3) := (blk_cell BK233.out 3).trans rfl; have hfz12_0 := blk_frozen BK233.out 0; have hfz12_1 := blk_frozen BK233.out 1; have hfz12_2 := blk_frozen BK233.out 2; have hfz12_3 := blk_frozen BK233.out 3) | (go_at_call 44; (with_reducible refine (beadrollref11_Same.calls k _ _ l0_2 _ _ l1_2 true _ ?side1 ?side2 ?side3 ?side4 A5.out).mono ?_); (case side1 => repeat (first | exact (Kd.C_below HR0_2.out HB.out) | (with_reducible refine Kd.C_alloc ?_ _) | (with_reducible refine Kd.C_drewN ?_ _) | (with_reducible refine Kd.C_drew ?_))); (case side2 => exact HC0_2.out); (case side3 => repeat (first | exact (Kd.C_below HR1_2.out HB.out) | (with_reducible refine Kd.C_alloc ?_ _) | (with_reducible refine Kd.C_drewN ?_ _) | (with_reducible refine Kd.C_drew ?_))); (case side4 => exact HC1_2.out); rintro e w' ⟨rfl, ⟨nd, rfl⟩⟩) | (go_at_call 44; (with_reducible refine (beadrollref11_Same.calls k _ _ l0_3 _ _ l1_3 t235 _ ?side1 ?side2 ?side3 ?side4 A7.out).mono ?_); (case side1 => repeat (first | exact (Kd.C_below HR0_3.out (by repeat (first | (with_reducible first | exact HB.out | apply below_alloc | apply pw_below_drewN | apply below_drew1 | refine below_set ?_ GE232.out | refine below_set ?_ GE233.out) | exact HB.out))) | (with_reducible refine Kd.C_alloc ?_ _) | (with_reducible refine Kd.C_drewN ?_ _) | (with_reducible refine Kd.C_drew ?_))); (case side2 => exact HC0_3.out); (case side3 => repeat (first | exact (Kd.C_below HR1_3.out (by repeat (first | (with_reducible first | exact HB.out | apply below_alloc | apply pw_below_drewN | apply below_drew1 | refine below_set ?_ GE232.out | refine below_set ?_ GE233.out) | exact HB.out))) | (with_reducible refine Kd.C_alloc ?_ _) | (with_reducible refine Kd.C_drewN ?_ _) | (with_reducible refine Kd.C_drew ?_))); (case side4 => exact HC1_3.out); rintro e w' ⟨rfl, ⟨nd, rfl⟩⟩))
        go_ret
        exact ⟨by first | rfl | (simp [errW_none, errW_some] <;> rfl) | (simp [*, errW_none, errW_some] <;> rfl), by repeat (first | (with_reducible first | exact HB.out | apply below_alloc | apply pw_below_drewN | apply below_drew1 | refine below_set ?_ GE232.out | refine below_set ?_ GE233.out) | exact HB.out)⟩
      · replace c6 := Bool.eq_false_iff.mpr c6
        subst c6
        have H1 : (some false) = some r := by rw [if_neg (show ¬ (false = true) by decide)] at H; exact H
        clear H
        have H := H1
        clear H1
        obtain rfl := Option.some.inj H
        go_enter Try.func15, Try.ntmps15
        go_wp2_with (first | ((with_reducible refine gate_dst (N := 2) rfl ?_); refine box_event ?hg (N := 2) ?hd (cs := #[.int .u32 a0_0, .int .u32 a0_1, .slice A0_2 l0_2.length c0_2, .slice A0_3 l0_3.length c0_3]) (t := 25) ?hr ?_; (case hd => rfl); (case hg => rfl); (case hr => first | (go_simp; done) | (go_simp; rfl)); intro gb232 hg w13 hbox hb; have n0_ := Aside0.mk (below_step (by repeat (first | (with_reducible first | exact HB.out | apply below_alloc | apply pw_below_drewN | apply below_drew1) | exact HB.out)) hb); have n1_ := Aside0.mk (hbox); have n2_ := Aside0.mk ((by rw [hg]; exact (below_size (by repeat (first | (with_reducible first | exact HB.out | apply below_alloc | apply pw_below_drewN | apply below_drew1) | exact HB.out))) : w.heap.size ≤ gb232)); have n3_ := Aside0.mk ((by rw [hg]; exact (below_size (by repeat (first | (with_reducible first | exact HB.out | apply below_alloc | apply pw_below_drewN | apply below_drew1) | exact HB.out))) : w.heap.size ≤ gb232)); clear HB; have HB := n0_; have BK232 := n1_; have GW232 := n2_; have GE232 := n3_; clear n0_ n1_ n2_ n3_; clear hb hbox hg) | ((with_reducible refine gate_dst (N := 3) rfl ?_); refine box_event ?hg (N := 3) ?hd (cs := #[.int .u32 a1_0, .int .u32 a1_1, .slice A1_2 l1_2.length c1_2, .slice A1_3 l1_3.length c1_3]) (t := 25) ?hr ?_; (case hd => rfl); (case hg => rfl); (case hr => first | (go_simp; done) | (go_simp; rfl)); intro gb233 hg w14 hbox hb; have n0_ := Aside0.mk (blk_below (g := gb232) (o := .cells #[.int .u32 a0_0, .int .u32 a0_1, .slice A0_2 l0_2.length c0_2, .slice A0_3 l0_3.length c0_3] 25 (0, 0)) (by (with_reducible repeat (first | refine blk_drewN ?_ _ | refine blk_drew ?_ | refine blk_alloc ?_ _)); exact BK232.out) hb); have n1_ := Aside0.mk (below_step (by repeat (first | (with_reducible first | exact HB.out | apply below_alloc | apply pw_below_drewN | apply below_drew1 | refine below_set ?_ GE232.out) | exact HB.out)) hb); have n2_ := Aside0.mk (hbox); have n3_ := Aside0.mk ((by rw [hg]; exact (below_size (by repeat (first | (with_reducible first | exact HB.out | apply below_alloc | apply pw_below_drewN | apply below_drew1 | refine below_set ?_ GE232.out) | exact HB.out))) : w.heap.size ≤ gb233)); have n4_ := Aside0.mk ((by rw [hg]; exact (below_size (by repeat (first | (with_reducible first | exact HB.out | apply below_alloc | apply pw_below_drewN | apply below_drew1 | refine below_set ?_ GE232.out) | exact HB.out))) : w.heap.size ≤ gb233)); have n5_ := Aside0.mk ((by rw [hg]; exact Nat.ne_of_lt (blk_lt (g := gb232) (o := .cells #[.int .u32 a0_0, .int .u32 a0_1, .slice A0_2 l0_2.length c0_2, .slice A0_3 l0_3.length c0_3] 25 (0, 0)) (by (with_reducible repeat (first | refine blk_drewN ?_ _ | refine blk_drew ?_ | refine blk_alloc ?_ _)); exact BK232.out)) : gb232 ≠ gb233)); have n6_ := Aside0.mk ((by rw [hg]; exact Nat.ne_of_gt (blk_lt (g := gb232) (o := .cells #[.int .u32 a0_0, .int .u32 a0_1, .slice A0_2 l0_2.length c0_2, .slice A0_3 l0_3.length c0_3] 25 (0, 0)) (by (with_reducible repeat (first | refine blk_drewN ?_ _ | refine blk_drew ?_ | refine blk_alloc ?_ _)); exact BK232.out)) : gb233 ≠ gb232)); clear BK232; clear HB; have BK232 := n0_; have HB := n1_; have BK233 := n2_; have GW233 := n3_; have GE233 := n4_; have NB232_233 := n5_; have NB233_232 := n6_; clear n0_ n1_ n2_ n3_ n4_ n5_ n6_; clear hb hbox hg; have hnb15 := NB232_233.out; have hnc15 := NB233_232.out; have hcz16_0 : w14.cell? ⟨gb232, 0, none⟩ = some (.int .u32 a0_0) := (blk_cell BK232.out 0).trans rfl; have hcz16_1 : w14.cell? ⟨gb232, 1, none⟩ = some (.int .u32 a0_1) := (blk_cell BK232.out 1).trans rfl; have hcz16_2 : w14.cell? ⟨gb232, 2, none⟩ = some (.slice A0_2 l0_2.length c0_2) := (blk_cell BK232.out 2).trans rfl; have hcz16_3 : w14.cell? ⟨gb232, 3, none⟩ = some (.slice A0_3 l0_3.length c0_3) := (blk_cell BK232.out 3).trans rfl; have hfz16_0 := blk_frozen BK232.out 0; have hfz16_1 := blk_frozen BK232.out 1; have hfz16_2 := blk_frozen BK232.out 2; have hfz16_3 := blk_frozen BK232.out 3; have hcz17_0 : w14.cell? ⟨gb233, 0, none⟩ = some (.int .u32 a1_0) := (blk_cell BK233.out 0).trans rfl; have hcz17_1 : w14.cell? ⟨gb233, 1, none⟩ = some (.int .u32 a1_1) := (blk_cell BK233.out 1).trans rfl; have hcz17_2 : w14.cell? ⟨gb233, 2, none⟩ = some (.slice A1_2 l1_2.length c1_2) := (blk_cell BK233.out 2).trans rfl; have hcz17_3 : w14.cell? ⟨gb233, 3, none⟩ = some (.slice A1_3 l1_3.length c1_3) := (blk_cell BK233.out 3).trans rfl; have hfz17_0 := blk_frozen BK233.out 0; have hfz17_1 := blk_frozen BK233.out 1; have hfz17_2 := blk_frozen BK233.out 2; have hfz17_3 := blk_frozen BK233.out 3) | (go_at_call 44; (with_reducible refine (beadrollref11_Same.calls k _ _ l0_2 _ _ l1_2 false _ ?side1 ?side2 ?side3 ?side4 A5.out).mono ?_); (case side1 => repeat (first | exact (Kd.C_below HR0_2.out HB.out) | (with_reducible refine Kd.C_alloc ?_ _) | (with_reducible refine Kd.C_drewN ?_ _) | (with_reducible refine Kd.C_drew ?_))); (case side2 => exact HC0_2.out); (case side3 => repeat (first | exact (Kd.C_below HR1_2.out HB.out) | (with_reducible refine Kd.C_alloc ?_ _) | (with_reducible refine Kd.C_drewN ?_ _) | (with_reducible refine Kd.C_drew ?_))); (case side4 => exact HC1_2.out); rintro e w' ⟨rfl, ⟨nd, rfl⟩⟩))
        go_ret
        exact ⟨by first | rfl | (simp [errW_none, errW_some] <;> rfl) | (simp [*, errW_none, errW_some] <;> rfl), by repeat (first | (with_reducible first | exact HB.out | apply below_alloc | apply pw_below_drewN | apply below_drew1 | refine below_set ?_ GE232.out | refine below_set ?_ GE233.out) | exact HB.out)⟩
    · rw [if_neg c4] at H
      have c4b0 : (a0_1 == a1_1) = false := beq_eq_false_iff_ne.mpr c4
      have c4b1 : (a0_1 != a1_1) = true := bne_iff_ne.mpr c4
      obtain rfl := Option.some.inj H
      go_enter Try.func15, Try.ntmps15
      go_wp2_with (first | ((with_reducible refine gate_dst (N := 2) rfl ?_); refine box_event ?hg (N := 2) ?hd (cs := #[.int .u32 a0_0, .int .u32 a0_1, .slice A0_2 l0_2.length c0_2, .slice A0_3 l0_3.length c0_3]) (t := 25) ?hr ?_; (case hd => rfl); (case hg => rfl); (case hr => first | (go_simp; done) | (go_simp; rfl)); intro gb232 hg w18 hbox hb; have n0_ := Aside0.mk (below_step (by repeat (first | (with_reducible first | exact HB.out | apply below_alloc | apply pw_below_drewN | apply below_drew1) | exact HB.out)) hb); have n1_ := Aside0.mk (hbox); have n2_ := Aside0.mk ((by rw [hg]; exact (below_size (by repeat (first | (with_reducible first | exact HB.out | apply below_alloc | apply pw_below_drewN | apply below_drew1) | exact HB.out))) : w.heap.size ≤ gb232)); have n3_ := Aside0.mk ((by rw [hg]; exact (below_size (by repeat (first | (with_reducible first | exact HB.out | apply below_alloc | apply pw_below_drewN | apply below_drew1) | exact HB.out))) : w.heap.size ≤ gb232)); clear HB; have HB := n0_; have BK232 := n1_; have GW232 := n2_; have GE232 := n3_; clear n0_ n1_ n2_ n3_; clear hb hbox hg) | ((with_reducible refine gate_dst (N := 3) rfl ?_); refine box_event ?hg (N := 3) ?hd (cs := #[.int .u32 a1_0, .int .u32 a1_1, .slice A1_2 l1_2.length c1_2, .slice A1_3 l1_3.length c1_3]) (t := 25) ?hr ?_; (case hd => rfl); (case hg => rfl); (case hr => first | (go_simp; done) | (go_simp; rfl)); intro gb233 hg w19 hbox hb; have n0_ := Aside0.mk (blk_below (g := gb232) (o := .cells #[.int .u32 a0_0, .int .u32 a0_1, .slice A0_2 l0_2.length c0_2, .slice A0_3 l0_3.length c0_3] 25 (0, 0)) (by (with_reducible repeat (first | refine blk_drewN ?_ _ | refine blk_drew ?_ | refine blk_alloc ?_ _)); exact BK232.out) hb); have n1_ := Aside0.mk (below_step (by repeat (first | (with_reducible first | exact HB.out | apply below_alloc | apply pw_below_drewN | apply below_drew1 | refine below_set ?_ GE232.out) | exact HB.out)) hb); have n2_ := Aside0.mk (hbox); have n3_ := Aside0.mk ((by rw [hg]; exact (below_size (by repeat (first | (with_reducible first | exact HB.out | apply below_alloc | apply pw_below_drewN | apply below_drew1 | refine below_set ?_ GE232.out) | exact HB.out))) : w.heap.size ≤ gb233)); have n4_ := Aside0.mk ((by rw [hg]; exact (below_size (by repeat (first | (with_reducible first | exact HB.out | apply below_alloc | apply pw_below_drewN | apply below_drew1 | refine below_set ?_ GE232.out) | exact HB.out))) : w.heap.size ≤ gb233)); have n5_ := Aside0.mk ((by rw [hg]; exact Nat.ne_of_lt (blk_lt (g := gb232) (o := .cells #[.int .u32 a0_0, .int .u32 a0_1, .slice A0_2 l0_2.length c0_2, .slice A0_3 l0_3.length c0_3] 25 (0, 0)) (by (with_reducible repeat (first | refine blk_drewN ?_ _ | refine blk_drew ?_ | refine blk_alloc ?_ _)); exact BK232.out)) : gb232 ≠ gb233)); have n6_ := Aside0.mk ((by rw [hg]; exact Nat.ne_of_gt (blk_lt (g := gb232) (o := .cells #[.int .u32 a0_0, .int .u32 a0_1, .slice A0_2 l0_2.length c0_2, .slice A0_3 l0_3.length c0_3] 25 (0, 0)) (by (with_reducible repeat (first | refine blk_drewN ?_ _ | refine blk_drew ?_ | refine blk_alloc ?_ _)); exact BK232.out)) : gb233 ≠ gb232)); clear BK232; clear HB; have BK232 := n0_; have HB := n1_; have BK233 := n2_; have GW233 := n3_; have GE233 := n4_; have NB232_233 := n5_; have NB233_232 := n6_; clear n0_ n1_ n2_ n3_ n4_ n5_ n6_; clear hb hbox hg; have hnb20 := NB232_233.out; have hnc20 := NB233_232.out; have hcz21_0 : w19.cell? ⟨gb232, 0, none⟩ = some (.int .u32 a0_0) := (blk_cell BK232.out 0).trans rfl; have hcz21_1 : w19.cell? ⟨gb232, 1, none⟩ = some (.int .u32 a0_1) := (blk_cell BK232.out 1).trans rfl; have hcz21_2 : w19.cell? ⟨gb232, 2, none⟩ = some (.slice A0_2 l0_2.length c0_2) := (blk_cell BK232.out 2).trans rfl; have hcz21_3 : w19.cell? ⟨gb232, 3, none⟩ = some (.slice A0_3 l0_3.length c0_3) := (blk_cell BK232.out 3).trans rfl; have hfz21_0 := blk_frozen BK232.out 0; have hfz21_1 := blk_frozen BK232.out 1; have hfz21_2 := blk_frozen BK232.out 2; have hfz21_3 := blk_frozen BK232.out 3; have hcz22_0 : w19.cell? ⟨gb233, 0, none⟩ = some (.int .u32 a1_0) := (blk_cell BK233.out 0).trans rfl; have hcz22_1 : w19.cell? ⟨gb233, 1, none⟩ = some (.int .u32 a1_1) := (blk_cell BK233.out 1).trans rfl; have hcz22_2 : w19.cell? ⟨gb233, 2, none⟩ = some (.slice A1_2 l1_2.length c1_2) := (blk_cell BK233.out 2).trans rfl; have hcz22_3 : w19.cell? ⟨gb233, 3, none⟩ = some (.slice A1_3 l1_3.length c1_3) := (blk_cell BK233.out 3).trans rfl; have hfz22_0 := blk_frozen BK233.out 0; have hfz22_1 := blk_frozen BK233.out 1; have hfz22_2 := blk_frozen BK233.out 2; have hfz22_3 := blk_frozen BK233.out 3))
      go_ret
      exact ⟨by first | rfl | (simp [errW_none, errW_some] <;> rfl) | (simp [*, errW_none, errW_some] <;> rfl), by repeat (first | (with_reducible first | exact HB.out | apply below_alloc | apply pw_below_drewN | apply below_drew1 | refine below_set ?_ GE232.out | refine below_set ?_ GE233.out) | exact HB.out)⟩
  · rw [if_neg c3] at H
    have c3b0 : (a0_0 == a1_0) = false := beq_eq_false_iff_ne.mpr c3
    have c3b1 : (a0_0 != a1_0) = true := bne_iff_ne.mpr c3
    obtain rfl := Option.some.inj H
    go_enter Try.func15, Try.ntmps15
    go_wp2_with (first | ((with_reducible refine gate_dst (N := 2) rfl ?_); refine box_event ?hg (N := 2) ?hd (cs := #[.int .u32 a0_0, .int .u32 a0_1, .slice A0_2 l0_2.length c0_2, .slice A0_3 l0_3.length c0_3]) (t := 25) ?hr ?_; (case hd => rfl); (case hg => rfl); (case hr => first | (go_simp; done) | (go_simp; rfl)); intro gb232 hg w23 hbox hb; have n0_ := Aside0.mk (below_step (by repeat (first | (with_reducible first | exact HB.out | apply below_alloc | apply pw_below_drewN | apply below_drew1) | exact HB.out)) hb); have n1_ := Aside0.mk (hbox); have n2_ := Aside0.mk ((by rw [hg]; exact (below_size (by repeat (first | (with_reducible first | exact HB.out | apply below_alloc | apply pw_below_drewN | apply below_drew1) | exact HB.out))) : w.heap.size ≤ gb232)); have n3_ := Aside0.mk ((by rw [hg]; exact (below_size (by repeat (first | (with_reducible first | exact HB.out | apply below_alloc | apply pw_below_drewN | apply below_drew1) | exact HB.out))) : w.heap.size ≤ gb232)); clear HB; have HB := n0_; have BK232 := n1_; have GW232 := n2_; have GE232 := n3_; clear n0_ n1_ n2_ n3_; clear hb hbox hg) | ((with_reducible refine gate_dst (N := 3) rfl ?_); refine box_event ?hg (N := 3) ?hd (cs := #[.int .u32 a1_0, .int .u32 a1_1, .slice A1_2 l1_2.length c1_2, .slice A1_3 l1_3.length c1_3]) (t := 25) ?hr ?_; (case hd => rfl); (case hg => rfl); (case hr => first | (go_simp; done) | (go_simp; rfl)); intro gb233 hg w24 hbox hb; have n0_ := Aside0.mk (blk_below (g := gb232) (o := .cells #[.int .u32 a0_0, .int .u32 a0_1, .slice A0_2 l0_2.length c0_2, .slice A0_3 l0_3.length c0_3] 25 (0, 0)) (by (with_reducible repeat (first | refine blk_drewN ?_ _ | refine blk_drew ?_ | refine blk_alloc ?_ _)); exact BK232.out) hb); have n1_ := Aside0.mk (below_step (by repeat (first | (with_reducible first | exact HB.out | apply below_alloc | apply pw_below_drewN | apply below_drew1 | refine below_set ?_ GE232.out) | exact HB.out)) hb); have n2_ := Aside0.mk (hbox); have n3_ := Aside0.mk ((by rw [hg]; exact (below_size (by repeat (first | (with_reducible first | exact HB.out | apply below_alloc | apply pw_below_drewN | apply below_drew1 | refine below_set ?_ GE232.out) | exact HB.out))) : w.heap.size ≤ gb233)); have n4_ := Aside0.mk ((by rw [hg]; exact (below_size (by repeat (first | (with_reducible first | exact HB.out | apply below_alloc | apply pw_below_drewN | apply below_drew1 | refine below_set ?_ GE232.out) | exact HB.out))) : w.heap.size ≤ gb233)); have n5_ := Aside0.mk ((by rw [hg]; exact Nat.ne_of_lt (blk_lt (g := gb232) (o := .cells #[.int .u32 a0_0, .int .u32 a0_1, .slice A0_2 l0_2.length c0_2, .slice A0_3 l0_3.length c0_3] 25 (0, 0)) (by (with_reducible repeat (first | refine blk_drewN ?_ _ | refine blk_drew ?_ | refine blk_alloc ?_ _)); exact BK232.out)) : gb232 ≠ gb233)); have n6_ := Aside0.mk ((by rw [hg]; exact Nat.ne_of_gt (blk_lt (g := gb232) (o := .cells #[.int .u32 a0_0, .int .u32 a0_1, .slice A0_2 l0_2.length c0_2, .slice A0_3 l0_3.length c0_3] 25 (0, 0)) (by (with_reducible repeat (first | refine blk_drewN ?_ _ | refine blk_drew ?_ | refine blk_alloc ?_ _)); exact BK232.out)) : gb233 ≠ gb232)); clear BK232; clear HB; have BK232 := n0_; have HB := n1_; have BK233 := n2_; have GW233 := n3_; have GE233 := n4_; have NB232_233 := n5_; have NB233_232 := n6_; clear n0_ n1_ n2_ n3_ n4_ n5_ n6_; clear hb hbox hg; have hnb25 := NB232_233.out; have hnc25 := NB233_232.out; have hcz26_0 : w24.cell? ⟨gb232, 0, none⟩ = some (.int .u32 a0_0) := (blk_cell BK232.out 0).trans rfl; have hcz26_1 : w24.cell? ⟨gb232, 1, none⟩ = some (.int .u32 a0_1) := (blk_cell BK232.out 1).trans rfl; have hcz26_2 : w24.cell? ⟨gb232, 2, none⟩ = some (.slice A0_2 l0_2.length c0_2) := (blk_cell BK232.out 2).trans rfl; have hcz26_3 : w24.cell? ⟨gb232, 3, none⟩ = some (.slice A0_3 l0_3.length c0_3) := (blk_cell BK232.out 3).trans rfl; have hfz26_0 := blk_frozen BK232.out 0; have hfz26_1 := blk_frozen BK232.out 1; have hfz26_2 := blk_frozen BK232.out 2; have hfz26_3 := blk_frozen BK232.out 3; have hcz27_0 : w24.cell? ⟨gb233, 0, none⟩ = some (.int .u32 a1_0) := (blk_cell BK233.out 0).trans rfl; have hcz27_1 : w24.cell? ⟨gb233, 1, none⟩ = some (.int .u32 a1_1) := (blk_cell BK233.out 1).trans rfl; have hcz27_2 : w24.cell? ⟨gb233, 2, none⟩ = some (.slice A1_2 l1_2.length c1_2) := (blk_cell BK233.out 2).trans rfl; have hcz27_3 : w24.cell? ⟨gb233, 3, none⟩ = some (.slice A1_3 l1_3.length c1_3) := (blk_cell BK233.out 3).trans rfl; have hfz27_0 := blk_frozen BK233.out 0; have hfz27_1 := blk_frozen BK233.out 1; have hfz27_2 := blk_frozen BK233.out 2; have hfz27_3 := blk_frozen BK233.out 3))
    go_ret
    exact ⟨by first | rfl | (simp [errW_none, errW_some] <;> rfl) | (simp [*, errW_none, errW_some] <;> rfl), by repeat (first | (with_reducible first | exact HB.out | apply below_alloc | apply pw_below_drewN | apply below_drew1 | refine below_set ?_ GE232.out | refine below_set ?_ GE233.out) | exact HB.out)⟩

end Go.Proofs.Ytajdlgbhofdafaa.Rf
