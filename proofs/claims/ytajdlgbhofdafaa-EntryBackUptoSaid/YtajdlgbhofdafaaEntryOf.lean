/- entry.Of. -/
import Derived.Test.YtajdlgbhofdafaaEntryB
namespace Go.Proofs.Ytajdlgbhofdafaa
open Go.RowKit Go.Shelf Go.Proofs.YtajdlgbhofdafaaW.PrintWords Go.Proofs.YtajdlgbhofdafaaW.PrintLast Go.Proofs.YtajdlgbhofdafaaW.PrintMore
set_option maxRecDepth 1000000
attribute [local go_sem] Oper.semAt_some

theorem fields3 (b : ByteArray) : fieldsB [4, 4, 4] b = none ∨ ∃ (f t n : Nat) (rest : ByteArray), fieldsB [4, 4, 4] b = some ([(f : Int), (t : Int), (n : Int)], rest) ∧ f < 4294967296 ∧ t < 4294967296 ∧ n < 4294967296 ∧ rest.size + 12 = b.size := by
  have hlt : ∀ (b : ByteArray), beN (b.extract 0 4).data.toList < 4294967296 := by
    intro b
    refine Nat.lt_of_lt_of_le (beN_lt _) ?_
    rw [show (4294967296 : Nat) = 256 ^ 4 from by decide]
    refine Nat.pow_le_pow_right (by omega) ?_
    simp
    omega
  by_cases h1 : b.size < 4
  · left; rw [fieldsB, if_pos h1]
  have e1 : (b.extract 4 b.size).size = b.size - 4 := by simp
  by_cases h2 : (b.extract 4 b.size).size < 4
  · left; rw [fieldsB, if_neg h1, fieldsB, if_pos h2]; rfl
  generalize hb1 : b.extract 4 b.size = b1 at *
  have e3 : (b1.extract 4 b1.size).size = b1.size - 4 := by simp
  by_cases h3 : (b1.extract 4 b1.size).size < 4
  · left; rw [fieldsB, if_neg h1, hb1, fieldsB, if_neg h2, fieldsB, if_pos h3]; rfl
  generalize hb2 : b1.extract 4 b1.size = b2 at *
  have e4 : (b2.extract 4 b2.size).size = b2.size - 4 := by simp
  right
  exact ⟨_, _, _, b2.extract 4 b2.size, by rw [fieldsB, if_neg h1, hb1, fieldsB, if_neg h2, hb2, fieldsB, if_neg h3, fieldsB]; rfl, hlt _, hlt _, hlt _, by omega⟩
/-- The entry of some bytes. -/
def entryOf (b : ByteArray) : Option (Nat × Nat × List SR × List SR) :=
  match fieldsB [4, 4, 4] b with
  | some ([f, t, n], rest) => (recordsB rest).bind fun l => if (l.length : Int) < n then none else some (f.toNat, t.toNat, l.take n.toNat, l.drop n.toNat)
  | _ => none
abbrev noEnt : Array Value := #[.int .u32 0, .int .u32 0, .slice none 0 0, .slice none 0 0]
/-- What Of answers. -/
def EntRet (w : World) (o : Option (Nat × Nat × List SR × List SR)) (e : Ending) (w' : World) : Prop := Below w.heap.size w w' ∧
  match o with
  | some (f, t, l1, l2) => ∃ A1 A2 c1 c2, e = .returned (.tuple #[.agg (entCells (f : Int) (t : Int) A1 A2 l1.length l2.length c1 c2), .int .i64 0]) ∧ kR.C w' A1 l1.length l1 ∧ kR.C w' A2 l2.length l2 ∧ l1.length ≤ c1 ∧ l2.length ≤ c2
  | none => e = .returned (.tuple #[.agg noEnt, .int .i64 2])
theorem ent_cells {w : World} {b : Nat} {x0 x1 x2 x3 : Value} (h : w.heap[b]? = some (.cells #[x0, x1, x2, x3] 25 (0, 0))) : w.cell? ⟨b, 0, none⟩ = some x0 ∧ w.cell? ⟨b, 1, none⟩ = some x1 ∧ w.cell? ⟨b, 2, none⟩ = some x2 ∧ w.cell? ⟨b, 3, none⟩ = some x3 :=
  ⟨cell_at h rfl, cell_at h rfl, cell_at h rfl, cell_at h rfl⟩
abbrev set4 (w : World) (b : Nat) (x0 x1 x2 x3 : Value) : World := (((w.setCell ⟨b, 0, none⟩ x0).setCell ⟨b, 1, none⟩ x1).setCell ⟨b, 2, none⟩ x2).setCell ⟨b, 3, none⟩ x3
theorem set4_fr (w : World) (b : Nat) (x0 x1 x2 x3 : Value) : Fr (fun k => k = b) w (set4 w b x0 x1 x2 x3) := by
  have h0 := (Fr.refl (fun k => k = b) w).set ⟨b, 0, none⟩ x0 (fun _ => rfl)
  have h1 := h0.set ⟨b, 1, none⟩ x1 (fun _ => rfl)
  have h2 := h1.set ⟨b, 2, none⟩ x2 (fun _ => rfl)
  exact h2.set ⟨b, 3, none⟩ x3 (fun _ => rfl)
theorem set4_heap {w : World} {b : Nat} {y0 y1 y2 y3 : Value} (x0 x1 x2 x3 : Value) (h : w.heap[b]? = some (.cells #[y0, y1, y2, y3] 25 (0, 0))) : (set4 w b x0 x1 x2 x3).heap[b]? = some (.cells #[x0, x1, x2, x3] 25 (0, 0)) := by
  have h1 := heap_set (i := 0) (v := x0) h
  have h2 := heap_set (i := 1) (v := x1) h1
  have h3 := heap_set (i := 2) (v := x2) h2
  exact heap_set (i := 3) (v := x3) h3

theorem ownL_far {w w' : World} {base B : Nat} {v : Value} {l : List SR} (h : OwnL w base v l) (hB : B < base) (hf : Fr (fun k => k = B) w w') : OwnL w' base v l :=
  Kd.R_mono (Kd.R_step (Kd.R_bound h) (fun k hk hlt => hf.block k hlt (fun e => by have := hk.2.1; omega))) (fun _ _ => trivial)
theorem recordsB_len {b : ByteArray} {l : List SR} (h : recordsB b = some l) : l.length ≤ b.size := by
  unfold recordsB at h
  cases hp : piecesB 4 b.size b with
  | none => rw [hp] at h; cases h
  | some ps =>
    rw [hp, Option.bind_some] at h
    have h1 := (piecesB_sizes 4 (by decide) _ _ _ hp).1
    have h2 : ∀ (ps : List ByteArray) (l : List SR), recordsF ps = some l → l.length = ps.length := by
      intro ps
      induction ps with
      | nil => intro l h; injection h with h; subst h; rfl
      | cons s ps ih =>
        intro l h
        rw [recordsF] at h
        cases hr : readR s 0 with
        | none => rw [hr] at h; cases h
        | some p =>
          obtain ⟨r, nx⟩ := p
          rw [hr] at h
          dsimp only at h
          by_cases hn : nx = s.size
          · rw [if_pos hn] at h
            cases hq : recordsF ps with
            | none => rw [hq] at h; cases h
            | some l' =>
              rw [hq] at h
              injection h with h
              subst h
              rw [List.length_cons, List.length_cons, ih l' hq]
          · rw [if_neg hn] at h; cases h
    rw [h2 _ _ h]
    exact h1
set_option maxHeartbeats 8000000 in
theorem Of_any (b : ByteArray) (w : World) (hb : b.size ≤ 16777216) :
    Calls Try.prog 14 #[.string b] w (EntRet w (entryOf b)) := by
  obtain ⟨W0, hW0⟩ : ∃ W0, W0 = w.alloc (.cells noEnt 25) := ⟨_, rfl⟩
  have hB0 : Below w.heap.size w W0 := by rw [hW0]; exact ((Fr.refl (fun _ => False) w).alloc _).to_below (Nat.le_refl _) (by simp)
  have hz0 : W0.heap.size = w.heap.size + 1 := by rw [hW0]; exact sz_al _ _
  have hb0 : W0.heap[w.heap.size]? = some (.cells noEnt 25 (0, 0)) := by rw [hW0, hp_al, if_pos rfl]
  have hcell := fun (W : World) (hB : Below W0.heap.size W0 W) => (hB.block w.heap.size (by omega)).trans hb0
  have hS := Split_any W0.heap.size 3 [4, 4, 4] b (W0.alloc (.cells #[.int .i64 4, .int .i64 4, .int .i64 4] 3)) (by rw [hp_al, if_pos rfl]; rfl) (by omega) (by simp) (by simp)
  have hWa : Below W0.heap.size W0 (W0.alloc (.cells #[.int .i64 4, .int .i64 4, .int .i64 4] 3)) := ((Fr.refl (fun _ => False) W0).alloc _).to_below (Nat.le_refl _) (by simp)
  obtain ⟨E, hE⟩ : ∃ E, E = entryOf b := ⟨_, rfl⟩
  rw [← hE]
  unfold entryOf at hE
  have HB0 := Lib.hid hB0
  have HHC := Lib.hid hcell
  have HW := Lib.hid hW0
  have HWA := Lib.hid hWa
  clear hB0 hcell hb0 hz0 hW0 hWa
  have hfin : ∀ W, Below W0.heap.size W0 W → Below w.heap.size w (set4 W w.heap.size (.int .u32 0) (.int .u32 0) (.slice none 0 0) (.slice none 0 0)) := fun W hB => (HB0.out.trans (hB.mono HB0.out.size)).trans ((set4_fr _ _ _ _ _ _).to_below (Nat.le_trans HB0.out.size hB.size) (fun k hk e => by omega))
  have HFIN := Lib.hid hfin
  clear hfin
  rcases fields3 b with hf | ⟨f, t, n, rest, hf, hf1, hf2, hf3, hrs⟩
  · rw [hf] at hS hE
    have HS := Lib.hid hS
    have HE := Lib.hid hE
    clear hS hE hf
    go_enter Try.func14, Try.ntmps14
    go_upto_region 1 with fail
    rw [← HW.out]
    go_wp2_with (go_at_call 42; refine HS.out.mono ?_; rintro e w1 ⟨hB1, rfl⟩; have hB1w := HWA.out.trans (hB1.mono HWA.out.size); have hc := HHC.out w1 hB1w; obtain ⟨y0, y1, y2, y3⟩ := ent_cells hc; have z0 := froz_at (o := 0) hc; have z1 := froz_at (o := 1) hc; have z2 := froz_at (o := 2) hc; have z3 := froz_at (o := 3) hc)
    refine bodyPost_ret (v := .tuple #[.agg noEnt, .int .i64 2]) (by simp [results, Try.results14, go_sem, y0, y1, y2, y3]) rfl ⟨HFIN.out _ hB1w, by rw [HE.out]⟩
  · rw [hf] at hS hE
    dsimp only at hE
    have hR := fun w => Records_any rest w (by omega)
    have HS := Lib.hid hS
    cases hrb : recordsB rest with
    | none =>
      rw [hrb] at hR hE
      have HR := Lib.hid hR
      have HE := Lib.hid hE
      clear hS hE hf hR hrb
      go_enter Try.func14, Try.ntmps14
      go_upto_region 1 with fail
      rw [← HW.out]
      go_wp2_with (first | (go_at_call 42; refine HS.out.mono ?_; rintro e w1 ⟨hB1, vv, rfl, hRv⟩; obtain ⟨gg, cc, rfl, hg1, hg2, hcc, hcl⟩ := R_ints hRv (by simp); have hB1w := HWA.out.trans (hB1.mono HWA.out.size)) | (go_at_call 43; refine (HR.out _).mono ?_; rintro e w2 ⟨hB2, rfl⟩; have hB2w := hB1w.trans (hB2.mono hB1w.size); have hc := HHC.out w2 hB2w; obtain ⟨y0, y1, y2, y3⟩ := ent_cells hc; have z0 := froz_at (o := 0) hc; have z1 := froz_at (o := 1) hc; have z2 := froz_at (o := 2) hc; have z3 := froz_at (o := 3) hc))
      refine bodyPost_ret (v := .tuple #[.agg noEnt, .int .i64 2]) (by simp [results, Try.results14, go_sem, y0, y1, y2, y3]) rfl ⟨HFIN.out _ hB2w, by rw [HE.out]; rfl⟩
    | some l =>
      rw [hrb] at hR hE
      rw [Option.bind_some] at hE
      have HR := Lib.hid hR
      have hll : l.length ≤ 16777216 := by have := recordsB_len hrb; omega
      by_cases hn : (l.length : Int) < (n : Int)
      · rw [if_pos hn] at hE
        have HE := Lib.hid hE
        have hwl : IntKind.u64.wrap (l.length : Int) = (l.length : Int) := u64_small _ (by omega) (by omega)
        have hd : decide (l.length < n) = true := by simp; omega
        clear hS hE hf hR hrb
        go_enter Try.func14, Try.ntmps14
        go_upto_region 1 with fail
        rw [← HW.out]
        go_wp2_with (first | (go_at_call 42; refine HS.out.mono ?_; rintro e w1 ⟨hB1, vv, rfl, hRv⟩; obtain ⟨gg, cc, rfl, hg1, hg2, hcc, hcl⟩ := R_ints hRv (by simp); have v2 := hcl 2 _ rfl; have hB1w := HWA.out.trans (hB1.mono HWA.out.size)) | (go_at_call 43; refine (HR.out _).mono ?_; rintro e w2 ⟨hB2, vr, rfl, hRr⟩; obtain ⟨Ar, cr, rfl⟩ := Kd.R_slice hRr; have u2 := hB2.cell_of v2; have hB2w := hB1w.trans (hB2.mono hB1w.size); have hc := HHC.out w2 hB2w; obtain ⟨y0, y1, y2, y3⟩ := ent_cells hc; have z0 := froz_at (o := 0) hc; have z1 := froz_at (o := 1) hc; have z2 := froz_at (o := 2) hc; have z3 := froz_at (o := 3) hc))
        refine bodyPost_ret (v := .tuple #[.agg noEnt, .int .i64 2]) (by simp [results, Try.results14, go_sem, y0, y1, y2, y3]) rfl ⟨HFIN.out _ hB2w, by rw [HE.out]⟩
      · rw [if_neg hn] at hE
        simp only [Int.toNat_natCast] at hE
        have HE := Lib.hid hE
        have hwl : IntKind.u64.wrap (l.length : Int) = (l.length : Int) := u64_small _ (by omega) (by omega)
        have hwn : wrap64 (n : Int) = (n : Int) := w64_in _ (by omega)
        have hd : decide (l.length < n) = false := by simp; omega
        clear hS hE hf hR hrb
        go_enter Try.func14, Try.ntmps14
        go_upto_region 1 with fail
        rw [← HW.out]
        go_wp2_with (first | (go_at_call 42; refine HS.out.mono ?_; rintro e w1 ⟨hB1, vv, rfl, hRv⟩; obtain ⟨gg, cc, rfl, hg1, hg2, hcc, hcl⟩ := R_ints hRv (by simp); have v0 := hcl 0 _ rfl; have v1 := hcl 1 _ rfl; have v2 := hcl 2 _ rfl; have hB1w := HWA.out.trans (hB1.mono HWA.out.size)) | (go_at_call 43; refine (HR.out _).mono ?_; rintro e w2 ⟨hB2, vr, rfl, hRr⟩; obtain ⟨Ar, cr, rfl, hkr, hCr⟩ := Kd.R_reads hRr; have u0 := hB2.cell_of v0; have u1 := hB2.cell_of v1; have u2 := hB2.cell_of v2; have hB2w := hB1w.trans (hB2.mono hB1w.size); have hc := HHC.out w2 hB2w; obtain ⟨y0, y1, y2, y3⟩ := ent_cells hc; have z0 := froz_at (o := 0) hc; have z1 := froz_at (o := 1) hc; have z2 := froz_at (o := 2) hc; have z3 := froz_at (o := 3) hc))
        have hu0 : w2.drew.cell? ⟨gg, 0, none⟩ = some (.int .u64 (f : Int)) := u0
        have hu1 : w2.drew.cell? ⟨gg, 1, none⟩ = some (.int .u64 (t : Int)) := u1
        have hy0 : w2.drew.cell? ⟨w.heap.size, 0, none⟩ = some (.int .u32 0) := y0
        have hy1 : w2.drew.cell? ⟨w.heap.size, 1, none⟩ = some (.int .u32 0) := y1
        have hy2 : w2.drew.cell? ⟨w.heap.size, 2, none⟩ = some (.slice none 0 0) := y2
        have hy3 : w2.drew.cell? ⟨w.heap.size, 3, none⟩ = some (.slice none 0 0) := y3
        have hw32 : ∀ k : Nat, k < 4294967296 → IntKind.u32.wrap (k : Int) = (k : Int) := fun k hk => by
          show (let m := (k : Int) % 2 ^ 32; if IntKind.u32.signed && m ≥ (2 ^ (32 - 1) : Int) then m - 2 ^ 32 else m) = k
          have h : (k : Int) % 2 ^ 32 = k := Int.emod_eq_of_lt (by omega) (by omega)
          simp only [IntKind.signed, h, Bool.false_and, Bool.false_eq_true, if_false]
        have hwf := hw32 f hf1
        have hwt := hw32 t hf2
        have hncr : n ≤ cr := by omega
        have hnl : n ≤ l.length := by omega
        clear hw32 u2 v0 v1 v2
        refine start_ (n := 18) (S := fun w' => w'.cell? ⟨gg, 0, none⟩ = some (.int .u64 (f : Int)) ∧ w'.cell? ⟨gg, 1, none⟩ = some (.int .u64 (t : Int)) ∧ w'.cell? ⟨w.heap.size, 0, none⟩ = some (.int .u32 0) ∧ w'.cell? ⟨w.heap.size, 1, none⟩ = some (.int .u32 0) ∧ w'.cell? ⟨w.heap.size, 2, none⟩ = some (.slice none 0 0) ∧ w'.cell? ⟨w.heap.size, 3, none⟩ = some (.slice none 0 0)) (ds := [16]) #[false, false, false, false, false, false, false, false, false, false, false, false, false, false, false, false, false, false] (by kernel_rfl) rfl rfl ⟨hu0, hu1, hy0, hy1, hy2, hy3⟩ (fun hHeld => ?_)
        refine pure_ (i := 0) (N := some 41) (v := ?_) (a' := ?_) #[true, false, false, false, false, false, false, false, false, false, false, false, false, false, false, false, false, false] rfl rfl (by kernel_rfl) (fun _ _ _ h => h) (Or.inl ⟨by rfl, ?_⟩) ?_ ?_
        rotate_left
        · intro w'
          go_simp
          with_reducible rfl
        rotate_left
        · simp only [Act.put, List.setIfInBounds_toArray, List.set_cons_zero, List.set_cons_succ, i64_w, i32_w]
          rfl
        refine pure_ (i := 1) (N := some 42) (v := ?_) (a' := ?_) #[true, true, false, false, false, false, false, false, false, false, false, false, false, false, false, false, false, false] rfl rfl (by kernel_rfl) (fun _ _ _ h => h) (Or.inl ⟨by rfl, ?_⟩) ?_ ?_
        rotate_left
        · intro w'
          go_simp
          with_reducible rfl
        rotate_left
        · simp only [Act.put, List.setIfInBounds_toArray, List.set_cons_zero, List.set_cons_succ, i64_w, i32_w]
          rfl
        refine pure_ (i := 4) (N := some 45) (v := ?_) (a' := ?_) #[true, true, false, false, true, false, false, false, false, false, false, false, false, false, false, false, false, false] rfl rfl (by kernel_rfl) (fun _ _ _ h => h) (Or.inl ⟨by rfl, ?_⟩) ?_ ?_
        rotate_left
        · intro w'
          go_simp
          with_reducible rfl
        rotate_left
        · simp only [Act.put, List.setIfInBounds_toArray, List.set_cons_zero, List.set_cons_succ, i64_w, i32_w]
          rfl
        refine pure_ (i := 5) (N := some 46) (v := ?_) (a' := ?_) #[true, true, false, false, true, true, false, false, false, false, false, false, false, false, false, false, false, false] rfl rfl (by kernel_rfl) (fun _ _ _ h => h) (Or.inl ⟨by rfl, ?_⟩) ?_ ?_
        rotate_left
        · intro w'
          go_simp
          with_reducible rfl
        rotate_left
        · simp only [Act.put, List.setIfInBounds_toArray, List.set_cons_zero, List.set_cons_succ, i64_w, i32_w]
          rfl
        refine pure_ (i := 8) (N := some 49) (v := ?_) (a' := ?_) #[true, true, false, false, true, true, false, false, true, false, false, false, false, false, false, false, false, false] rfl rfl (by kernel_rfl) (fun _ _ _ h => h) (Or.inl ⟨by rfl, ?_⟩) ?_ ?_
        rotate_left
        · intro w'
          go_simp
          with_reducible rfl
        rotate_left
        · simp only [Act.put, List.setIfInBounds_toArray, List.set_cons_zero, List.set_cons_succ, i64_w, i32_w]
          rfl
        refine pure_ (i := 9) (N := some 50) (v := ?_) (a' := ?_) #[true, true, false, false, true, true, false, false, true, true, false, false, false, false, false, false, false, false] rfl rfl (by kernel_rfl) (fun _ _ _ h => h) (Or.inl ⟨by rfl, ?_⟩) ?_ ?_
        rotate_left
        · intro w'
          go_simp
          with_reducible rfl
        rotate_left
        · simp only [Act.put, List.setIfInBounds_toArray, List.set_cons_zero, List.set_cons_succ, i64_w, i32_w]
          rfl
        refine pure_ (i := 10) (N := some 51) (v := ?_) (a' := ?_) #[true, true, false, false, true, true, false, false, true, true, true, false, false, false, false, false, false, false] rfl rfl (by kernel_rfl) (fun _ _ _ h => h) (Or.inl ⟨by rfl, ?_⟩) ?_ ?_
        rotate_left
        · intro w'
          go_simp
          with_reducible rfl
        rotate_left
        · simp only [Act.put, List.setIfInBounds_toArray, List.set_cons_zero, List.set_cons_succ, i64_w, i32_w]
          rfl
        refine pure_ (i := 11) (N := some 52) (v := ?_) (a' := ?_) #[true, true, false, false, true, true, false, false, true, true, true, true, false, false, false, false, false, false] rfl rfl (by kernel_rfl) (fun _ _ _ h => h) (Or.inl ⟨by rfl, ?_⟩) ?_ ?_
        rotate_left
        · intro w'
          go_simp
          with_reducible rfl
        rotate_left
        · simp only [Act.put, List.setIfInBounds_toArray, List.set_cons_zero, List.set_cons_succ, i64_w, i32_w]
          rfl
        refine pure_ (i := 12) (N := some 53) (v := ?_) (a' := ?_) #[true, true, false, false, true, true, false, false, true, true, true, true, true, false, false, false, false, false] rfl rfl (by kernel_rfl) (fun _ _ _ h => h) (Or.inl ⟨by rfl, ?_⟩) ?_ ?_
        rotate_left
        · intro w'
          go_simp
          with_reducible rfl
        rotate_left
        · simp only [Act.put, List.setIfInBounds_toArray, List.set_cons_zero, List.set_cons_succ, i64_w, i32_w]
          rfl
        refine pure_ (i := 13) (N := some 54) (v := ?_) (a' := ?_) #[true, true, false, false, true, true, false, false, true, true, true, true, true, true, false, false, false, false] rfl rfl (by kernel_rfl) (fun _ _ _ h => h) (Or.inl ⟨by rfl, ?_⟩) ?_ ?_
        rotate_left
        · intro w'
          go_simp
          with_reducible rfl
        rotate_left
        · simp only [Act.put, List.setIfInBounds_toArray, List.set_cons_zero, List.set_cons_succ, i64_w, i32_w]
          rfl
        refine pure_ (i := 14) (N := some 55) (v := ?_) (a' := ?_) #[true, true, false, false, true, true, false, false, true, true, true, true, true, true, true, false, false, false] rfl rfl (by kernel_rfl) (fun _ _ _ h => h) (Or.inl ⟨by rfl, ?_⟩) ?_ ?_
        rotate_left
        · intro w'
          go_simp
          with_reducible rfl
        rotate_left
        · simp only [Act.put, List.setIfInBounds_toArray, List.set_cons_zero, List.set_cons_succ, i64_w, i32_w]
          rfl
        refine take_ (i := 2) (N := some 43) (v := ?_) (a' := ?_) #[true, true, true, false, true, true, false, false, true, true, true, true, true, true, true, false, false, false] rfl rfl (by kernel_rfl) (fun _ _ _ h => h) (Or.inl ⟨by rfl, ?_⟩) hHeld ?_ ?_
        rotate_left
        · rintro w' ⟨s0, s1, s2, s3, s4, s5⟩
          go_simp
          with_reducible rfl
        rotate_left
        · simp only [Act.put, List.setIfInBounds_toArray, List.set_cons_zero, List.set_cons_succ, i64_w, i32_w]
          rfl
        refine pure_ (i := 3) (N := some 44) (v := ?_) (a' := ?_) #[true, true, true, true, true, true, false, false, true, true, true, true, true, true, true, false, false, false] rfl rfl (by kernel_rfl) (fun _ _ _ h => h) (Or.inl ⟨by rfl, ?_⟩) ?_ ?_
        rotate_left
        · intro w'
          go_simp
          with_reducible rfl
        rotate_left
        · simp only [Act.put, List.setIfInBounds_toArray, List.set_cons_zero, List.set_cons_succ, i64_w, i32_w]
          rfl
        refine take_ (i := 6) (N := some 47) (v := ?_) (a' := ?_) #[true, true, true, true, true, true, true, false, true, true, true, true, true, true, true, false, false, false] rfl rfl (by kernel_rfl) (fun _ _ _ h => h) (Or.inl ⟨by rfl, ?_⟩) hHeld ?_ ?_
        rotate_left
        · rintro w' ⟨s0, s1, s2, s3, s4, s5⟩
          go_simp
          with_reducible rfl
        rotate_left
        · simp only [Act.put, List.setIfInBounds_toArray, List.set_cons_zero, List.set_cons_succ, i64_w, i32_w]
          rfl
        refine pure_ (i := 7) (N := some 48) (v := ?_) (a' := ?_) #[true, true, true, true, true, true, true, true, true, true, true, true, true, true, true, false, false, false] rfl rfl (by kernel_rfl) (fun _ _ _ h => h) (Or.inl ⟨by rfl, ?_⟩) ?_ ?_
        rotate_left
        · intro w'
          go_simp
          with_reducible rfl
        rotate_left
        · simp only [Act.put, List.setIfInBounds_toArray, List.set_cons_zero, List.set_cons_succ, i64_w, i32_w]
          rfl
        refine pure_ (i := 15) (N := some 56) (v := ?_) (a' := ?_) #[true, true, true, true, true, true, true, true, true, true, true, true, true, true, true, true, false, false] rfl rfl (by kernel_rfl) (fun _ _ _ h => h) (Or.inl ⟨by rfl, ?_⟩) ?_ ?_
        rotate_left
        · intro w'
          go_simp
          with_reducible rfl
        rotate_left
        · simp only [Act.put, List.setIfInBounds_toArray, List.set_cons_zero, List.set_cons_succ, i64_w, i32_w]
          rfl
        refine last_ (i := 16) (N := none) #[true, true, true, true, true, true, true, true, true, true, true, true, true, true, true, true, true, false] rfl rfl (by kernel_rfl) (by decide) (fun K hK => ?_)
        refine skip_ (w1 := ?_) (by rfl) rfl ?_ ?_
        rotate_left
        · go_simp
          rfl
        refine hK.out _ _ ?_
        clear hK K
        refine pure_ (i := 17) (N := some 3) (v := ?_) (a' := ?_) #[true, true, true, true, true, true, true, true, true, true, true, true, true, true, true, true, true, true] rfl rfl (by kernel_rfl) (fun _ _ _ h => h) (Or.inl ⟨by rfl, ?_⟩) ?_ ?_
        rotate_left
        · intro w'
          go_simp
          with_reducible rfl
        rotate_left
        · simp only [Act.put, List.setIfInBounds_toArray, List.set_cons_zero, List.set_cons_succ, i64_w, i32_w]
          rfl
        refine done_ (by kernel_rfl) ?_
        generalize hAd : (if cr = n then Ar else Ar.map fun x => x.add (n * 5)) = Ad at *
        have HAD := Lib.hid hAd
        clear hAd
        go_wp2
        have hfr := set4_fr w2 w.heap.size (.int .u32 (f : Int)) (.int .u32 (t : Int)) (.slice Ar n n) (.slice Ad (l.length - n) (cr - n))
        have hcW := set4_heap (.int .u32 (f : Int)) (.int .u32 (t : Int)) (.slice Ar n n) (.slice Ad (l.length - n) (cr - n)) hc
        obtain ⟨WF, hWF⟩ : ∃ WF, WF = set4 w2 w.heap.size (.int .u32 (f : Int)) (.int .u32 (t : Int)) (.slice Ar n n) (.slice Ad (l.length - n) (cr - n)) := ⟨_, rfl⟩
        rw [← hWF] at hcW hfr
        have hcW' : WF.drew.heap[w.heap.size]? = some (.cells #[.int .u32 (f : Int), .int .u32 (t : Int), .slice Ar n n, .slice Ad (l.length - n) (cr - n)] 25 (0, 0)) := hcW
        obtain ⟨x0, x1, x2, x3⟩ := ent_cells hcW'
        unfold set4 at hWF
        rw [← hWF]
        have hsl : (l.take n).length = n := by rw [List.length_take]; omega
        have hsd : (l.drop n).length = l.length - n := List.length_drop
        have hRf := ownL_far hRr (by have := HB0.out.size; have := hB1w.size; have := HWA.out.size; have := (Array.getElem?_eq_some_iff.1 (HHC.out W0 (Below.refl _ _))).1; omega) hfr
        obtain ⟨A', c', hv', hk', hC'⟩ := Kd.R_reads hRf
        injection hv' with e1 e2 e3
        subst e1 e3
        refine bodyPost_ret (v := .tuple #[.agg #[.int .u32 (f : Int), .int .u32 (t : Int), .slice Ar n n, .slice Ad (l.length - n) (cr - n)], .int .i64 0]) (by simp [results, Try.results14, go_sem, x0, x1, x2, x3]) rfl ⟨?_, ?_⟩
        · exact (HB0.out.trans ((hB2w.mono HB0.out.size))).trans (hfr.to_below (Nat.le_trans HB0.out.size hB2w.size) (fun k hk e => by omega)).drew
        · rw [HE.out]
          refine ⟨Ar, Ad, n, cr - n, ?_, ?_, ?_, by rw [hsl]; exact Nat.le_refl _, by rw [hsd]; omega⟩
          · rw [hsl, hsd]
          · exact Kd.C_below (Kd.C_take hC' (by omega)) (Below.refl _ _).drew
          · have := Kd.C_below (Kd.C_drop hC' (m := n) (by omega) hkr) (Below.refl _ _).drew
            rw [show kR.sz = 5 from rfl, HAD.out] at this
            exact this
end Go.Proofs.Ytajdlgbhofdafaa
