/- record.Write. -/
import Derived.Test.YtajdlgbhofdafaaRec
namespace Go.Proofs.Ytajdlgbhofdafaa
open Go.RowKit Go.Shelf Go.Proofs.YtajdlgbhofdafaaW.PrintWords Go.Proofs.YtajdlgbhofdafaaW.PrintLast Go.Proofs.YtajdlgbhofdafaaW.PrintMore
set_option maxRecDepth 1000000
attribute [local go_sem] Oper.semAt_some

theorem Ch.ge {O O' : Nat → Prop} {a b : World} (h : Ch O O' a b) {B : Nat} (hO : ∀ k, O k → B ≤ k) (hB : B ≤ a.heap.size) : ∀ k, O' k → B ≤ k := fun k hk => by
  rcases h.new k hk with h1 | h1
  · exact hO k h1
  · omega
def zeros10 : ByteArray := ⟨#[0, 0, 0, 0, 0, 0, 0, 0, 0, 0]⟩
/-- A packer's state behind a name. -/
def nameS (st : ByteArray × Known) (n : ByteArray) (may : Bool) : ByteArray × Known := (st.1 ++ (nameR n.size st.2 st.1.size n may).1, (nameR n.size st.2 st.1.size n may).2)
/-- How many bytes a record's data have behind a state and ten bytes. -/
def dlenR (st : ByteArray × Known) (r : RRec) : Nat := (dataR (st.1 ++ zeros10, st.2) r).1.size - (st.1 ++ zeros10).size
/-- A packer's state behind a record. -/
def writeR (st : ByteArray × Known) (r : RRec) : ByteArray × Known :=
  dataR ((nameS st r.name true).1 ++ joinB [(2, r.typ.toNat), (2, r.cls.toNat), (4, r.ttl.toNat), (2, dlenR (nameS st r.name true) r)], (nameS st r.name true).2) r
theorem rightR_nums {r : RRec} (h : rightR r = true) : rightB r.name = true ∧ 0 ≤ r.typ ∧ r.typ ≤ 65535 ∧ 0 ≤ r.cls ∧ r.cls ≤ 65535 ∧ 0 ≤ r.ttl ∧ r.ttl ≤ 2147483647 ∧ r.data.size ≤ 65535 := by
  unfold rightR at h
  simp only [Bool.and_eq_true, Bool.not_eq_true', decide_eq_false_iff_not] at h
  obtain ⟨⟨⟨⟨⟨⟨⟨⟨h1, h2⟩, h3⟩, h4⟩, h5⟩, h6⟩, h7⟩, h8⟩, h9⟩ := h
  exact ⟨h1, by omega, by omega, by omega, by omega, by omega, by omega, by omega⟩
theorem rightB_size {n : ByteArray} (h : rightB n = true) : n.size ≤ 255 := by
  unfold rightB at h
  simp only [Bool.and_eq_true, decide_eq_true_eq] at h
  exact h.1
theorem nameS_ok {st : ByteArray × Known} {n : ByteArray} (may : Bool) (h : rightB n = true) (hk : KnownOk st.2) : (nameS st n may).1.size ≤ st.1.size + n.size ∧ KnownOk (nameS st n may).2 := by
  have := nameR_ok n.size st.2 st.1.size n may h (Nat.le_refl _) hk
  refine ⟨?_, this.2⟩
  unfold nameS
  dsimp only
  rw [size_app]
  omega
theorem dataR_ok {st : ByteArray × Known} {r : RRec} (h : rightR r = true) (hk : KnownOk st.2) : (dataR st r).1.size ≤ st.1.size + r.data.size ∧ KnownOk (dataR st r).2 := by
  unfold dataR
  by_cases ht : typedB r = true
  · rw [if_pos ht]
    have hd := rightD_sum (rightR_typed h ht)
    have := writeP_ok (walkL r.data r.data.size (partsL r.typ) 0).1 st (fun x hx => (walkL_mem _ _ _ _ x hx).2) hk
    rw [hd.2.2] at this
    exact this
  · rw [if_neg ht]
    exact ⟨by dsimp only; rw [size_app]; omega, hk⟩
theorem writeP_ge (l : List (Int × ByteArray)) : ∀ st : ByteArray × Known, st.1.size ≤ (writeP st l).1.size := by
  induction l with
  | nil => intro st; exact Nat.le_refl _
  | cons x l ih =>
    intro st
    refine Nat.le_trans ?_ (ih (stepP st x))
    unfold stepP
    split <;> (dsimp only; rw [size_app]; omega)
theorem dataR_ge (st : ByteArray × Known) (r : RRec) : st.1.size ≤ (dataR st r).1.size := by
  unfold dataR
  split
  · exact writeP_ge _ st
  · dsimp only; rw [size_app]; omega
theorem dlenR_le {st : ByteArray × Known} {r : RRec} (h : rightR r = true) (hk : KnownOk st.2) : dlenR st r ≤ r.data.size := by
  have := (dataR_ok (st := (st.1 ++ zeros10, st.2)) h hk).1
  unfold dlenR
  dsimp only at this
  omega

theorem pkAt_keep {b : Nat} {x : ByteArray × Known} {O : Nat → Prop} {a b' : World} (h : PkAt b x O a) (hk : ∀ k, O k → k < a.heap.size → b'.heap[k]? = a.heap[k]?) : PkAt b x O b' := pkAt_stab b x O a b' h hk
theorem two_alloc (w : World) (A B : Obj) : ((w.alloc A).alloc B).heap[w.heap.size]? = some A ∧ ((w.alloc A).alloc B).heap[w.heap.size + 1]? = some B :=
  ⟨by rw [hp_al, if_neg (by rw [sz_al]; omega), hp_al, if_pos rfl], by rw [hp_al, if_pos (by rw [sz_al])]⟩
theorem mk10 (w : World) : ∃ w', (Instr.makeSlice 51 (.int .i64 10) (.int .i64 10)).run Try.prog w = .ok (.slice (some ⟨w.heap.size, 0, none⟩) 10 10) w' ∧ (convert 51 9 (.slice (some ⟨w.heap.size, 0, none⟩) 10 10)).run Try.prog w' = .ok (.string zeros10) w' ∧ Below w.heap.size w w' := by
  obtain ⟨i, hi, hz⟩ := Option.map_eq_some_iff.1 info_byte
  injection hz with hz0 hz1
  injection hz1 with hz1 hz2
  obtain ⟨w', h1, h2, h3⟩ := run_make_full (P := Try.prog) w 0 51 5 i (.int .u8 0) 1 bytes_under hi hz0 hz1 .i64 .i64 10 (by rw [hz2]; decide) (by decide) (Nat.zero_le _)
  have e : (madeCells (Value.int IntKind.u8 0).cells (10 * 1)).toList = Lib.strCells zeros10 := by kernel_rfl
  rw [e] at h2
  have h4 : RowB w' (.slice (some ⟨w.heap.size, 0, none⟩) 10 10) zeros10 := World.ownsRowF_of h2
  exact ⟨w', h1, rowB_string h4, h3.os, h3.tape, h3.output, h3.size, fun k hk => h3.block k hk (by simp)⟩

set_option maxHeartbeats 4000000 in
theorem WriteR_any (b : Nat) (st : ByteArray × Known) (r : RRec) (O : Nat → Prop) (w : World) (h : PkAt b st O w) (hr : rightR r = true) (hk : KnownOk st.2) (hb : st.1.size ≤ 100000000) :
    Calls Try.prog 66 #[.pointer (some ⟨b, 0, none⟩), r.val] w fun e w' => e = .returned (.int .i64 0) ∧ ∃ O', PkAt b (writeR st r) O' w' ∧ Ch O O' w w' := by
  obtain ⟨hrn, n1, n2, n3, n4, n5, n6, n7⟩ := rightR_nums hr
  have hn255 := rightB_size hrn
  have hR := fun w => RightR_any r w (by omega) (by omega)
  rw [hr] at hR
  have hz : (w.alloc (.cells r.cells 78)).heap.size = w.heap.size + 1 := sz_al _ _
  have hOl := pkAt_lt h
  have hfr : Below w.heap.size w (w.alloc (.cells r.cells 78)) := ((Fr.refl (fun _ => False) w).alloc _).to_below (Nat.le_refl _) (by simp)
  have hcl := fun (w1 : World) (hB : Below (w.heap.size + 1) (w.alloc (.cells r.cells 78)) w1) => (hB.block w.heap.size (by omega)).trans (by rw [hp_al, if_pos rfl] : _ = some (.cells r.cells 78 (0, 0)))
  have hbl := fun (w1 : World) (hB : Below (w.heap.size + 1) (w.alloc (.cells r.cells 78)) w1) => hfr.trans (hB.mono (show w.heap.size ≤ w.heap.size + 1 by omega))
  have hS1 := nameS_ok true hrn hk
  have hN := fun (w1 : World) (hB : Below (w.heap.size + 1) (w.alloc (.cells r.cells 78)) w1) => Name_pk b st.1 st.2 r.name true O w1 (pkAt_stab b st O w w1 h (fun k _ hl => (hbl w1 hB).block k hl)) hrn hk (by omega)
  obtain ⟨S1, hS⟩ : ∃ S1, S1 = nameS st r.name true := ⟨_, rfl⟩
  rw [show writeR st r = dataR (S1.1 ++ joinB [(2, r.typ.toNat), (2, r.cls.toNat), (4, r.ttl.toNat), (2, dlenR S1 r)], S1.2) r from by rw [hS]; rfl]
  rw [← hS] at hS1
  have hN' : ∀ (w1 : World), Below (w.heap.size + 1) (w.alloc (.cells r.cells 78)) w1 → Calls Try.prog 63 #[.pointer (some ⟨b, 0, none⟩), .string r.name, .bool true] w1 fun e w' => e = .returned (.int .i64 0) ∧ ∃ O', PkAt b S1 O' w' ∧ Ch O O' w1 w' := by
    rw [hS]
    exact hN
  have hdl := dlenR_le (st := S1) hr hS1.2
  have hC := fun (w1 : World) (O1 : Nat → Prop) (hp : PkAt b S1 O1 w1) => Clone_pk b S1 O1 w1 hp (by omega)
  have hz10 : zeros10.size = 10 := rfl
  have hqs : (S1.1 ++ zeros10).size = S1.1.size + 10 := by rw [size_app, hz10]
  have hge := dataR_ge (S1.1 ++ zeros10, S1.2) r
  have hle := (dataR_ok (st := (S1.1 ++ zeros10, S1.2)) hr hS1.2).1
  have hRq := fun (q : Nat) (w1 : World) (O1 : Nat → Prop) (hp : PkAt q S1 O1 w1) => Raw_pk q S1.1 zeros10 S1.2 O1 w1 hp (by omega)
  have hDq := fun (q : Nat) (w1 : World) (O1 : Nat → Prop) (hp : PkAt q (S1.1 ++ zeros10, S1.2) O1 w1) => dataR_any q (S1.1 ++ zeros10, S1.2) r O1 w1 hp hr hS1.2 (by dsimp only; omega)
  have hdd : dlenR S1 r = (dataR (S1.1 ++ zeros10, S1.2) r).1.size - (S1.1 ++ zeros10).size := rfl
  rw [hdd] at hdl ⊢
  clear hdd
  dsimp only at hge hle
  generalize dataR (S1.1 ++ zeros10, S1.2) r = DS at *
  generalize S1.1 ++ zeros10 = QS at *
  obtain ⟨dl, hdl2⟩ : ∃ dl, dl = DS.1.size - QS.size := ⟨_, rfl⟩
  rw [← hdl2] at hdl ⊢
  have hx1 : IntKind.u64.wrap r.typ = ((r.typ.toNat : Nat) : Int) := by rw [u64_small _ (by omega) (by omega)]; omega
  have hx2 : IntKind.u64.wrap r.cls = ((r.cls.toNat : Nat) : Int) := by rw [u64_small _ (by omega) (by omega)]; omega
  have hx3 : IntKind.u64.wrap r.ttl = ((r.ttl.toNat : Nat) : Int) := by rw [u64_small _ (by omega) (by omega)]; omega
  have hx4 : IntKind.u64.wrap (wrap64 ((DS.1.size : Int) - (QS.size : Int))) = ((dl : Nat) : Int) := by rw [w64_in _ (by omega), u64_small _ (by omega) (by omega)]; omega
  have hJ : ∀ (a c : Nat) (w1 : World), w1.heap[a]? = some (.cells #[.int .u64 (IntKind.u64.wrap r.typ), .int .u64 (IntKind.u64.wrap r.cls), .int .u64 (IntKind.u64.wrap r.ttl), .int .u64 (IntKind.u64.wrap (wrap64 ((DS.1.size : Int) - (QS.size : Int))))] 83) → w1.heap[c]? = some (.cells #[.int .i64 2, .int .i64 2, .int .i64 4, .int .i64 2] 3) →
      Calls Try.prog 41 #[.slice (some ⟨a, 0, none⟩) 4 4, .slice (some ⟨c, 0, none⟩) 4 4] w1 fun e w' => e = .returned (.tuple #[.string (joinB [(2, r.typ.toNat), (2, r.cls.toNat), (4, r.ttl.toNat), (2, dl)]), .int .i64 0]) ∧ Below w1.heap.size w1 w' := fun a c w1 ha hc =>
    Join_any a c 4 4 [(2, r.typ.toNat), (2, r.cls.toNat), (4, r.ttl.toNat), (2, dl)] w1 (by rw [hx1, hx2, hx3, hx4] at ha; exact ha) hc (by
      intro p hp
      simp at hp
      rcases hp with rfl | rfl | rfl | rfl
      · exact ⟨.inr (.inl rfl), by simp; omega⟩
      · exact ⟨.inr (.inl rfl), by simp; omega⟩
      · exact ⟨.inr (.inr (.inl rfl)), by simp; omega⟩
      · exact ⟨.inr (.inl rfl), by simp; omega⟩) (by simp) (by simp) (by simp)
  have hjs : (joinB [(2, r.typ.toNat), (2, r.cls.toNat), (4, r.ttl.toNat), (2, dl)]).size = 10 := by rw [joinB_size]; rfl
  generalize joinB [(2, r.typ.toNat), (2, r.cls.toNat), (4, r.ttl.toNat), (2, dl)] = jb at *
  have HJ := Lib.hid hJ
  have HR := Lib.hid hR
  have HZ := Lib.hid hz
  have HC := Lib.hid hcl
  have HBL := Lib.hid hbl
  have HN := Lib.hid hN'
  have HCL := Lib.hid hC
  have HRQ := Lib.hid hRq
  have HDQ := Lib.hid hDq
  have HOL := Lib.hid hOl
  have HX := Lib.hid (And.intro hjs (And.intro hqs (And.intro hge hle)))
  have HS1 := Lib.hid hS1
  clear hR hz hcl hbl hN hN' hS hC hRq hDq hOl h hJ hx1 hx2 hx3 hx4 hdl hdl2 hjs hqs hge hle hS1 hz10 n1 n2 n3 n4 n5 n6 hn255
  go_enter Try.func66, Try.ntmps66
  go_wp2_with (first | (go_at_call 74; refine (HR.out _).mono ?_; rintro e w1 ⟨rfl, hB1⟩; rw [HZ.out] at hB1; obtain ⟨c0, c1, c2, c3, c4⟩ := rec_cells (HC.out _ hB1)) | (go_at_call 63; refine (HN.out _ hB1).mono ?_; rintro e w2 ⟨rfl, O2, hp2, hch2⟩) | (go_at_call 111; refine (HCL.out _ _ hp2).mono ?_; rintro e w3 ⟨q, Oq, rfl, hq3, hB3, hOq⟩; obtain ⟨w4, hmk, hcv, hB4⟩ := mk10 w3; have hq4 := pkAt_stab q _ _ _ w4 hq3 (fun k _ hl => hB4.block k hl); clear hq3) | (go_at_call 62; refine (HRQ.out _ _ _ hq4).mono ?_; rintro e w5 ⟨rfl, Oq5, hq5, hch5⟩) | (go_at_call 65; refine (Len_pk _ _ _ _ hq5).mono ?_; rintro e w6 ⟨rfl, rfl⟩; have hs2 := hch2.fr.size; have hs3 := hB3.size; have hs4 := hB4.size; have hB35 : Below w2.heap.size w2 w6 := (hB3.trans (hB4.mono hs3)).trans (hch5.to_below (by omega) hOq); have hr5 := rec_cells ((hB35.block w.heap.size (by have := hB1.size; rw [HZ.out] at this; omega)).trans ((hch2.fr.block w.heap.size (by have := hB1.size; rw [HZ.out] at this; omega) (fun h => by have := HOL.out _ h; omega)).trans (HC.out _ hB1))); obtain ⟨d0, d1, d2, d3, d4⟩ := hr5) | (go_at_call 112; refine (HDQ.out _ _ _ hq5).mono ?_; rintro e w7 ⟨rfl, Oq7, hq7, hch7⟩; have hB7 : Below w2.heap.size w2 w7 := hB35.trans (hch7.to_below hB35.size (hch5.ge hOq (by omega))); have hr7 := rec_cells ((hB7.block w.heap.size (by have := hB1.size; rw [HZ.out] at this; omega)).trans ((hch2.fr.block w.heap.size (by have := hB1.size; rw [HZ.out] at this; omega) (fun h => by have := HOL.out _ h; omega)).trans (HC.out _ hB1))); obtain ⟨f0, f1, f2, f3, f4⟩ := hr7))
  have g1 : w7.drew.cell? ⟨w.heap.size, 1, none⟩ = some (.int .i64 r.typ) := f1
  have g2 : w7.drew.cell? ⟨w.heap.size, 2, none⟩ = some (.int .i64 r.cls) := f2
  have g3 : w7.drew.cell? ⟨w.heap.size, 3, none⟩ = some (.int .i64 r.ttl) := f3
  refine start_ (n := 22) (S := fun w' => w'.cell? ⟨w.heap.size, 1, none⟩ = some (.int .i64 r.typ) ∧ w'.cell? ⟨w.heap.size, 2, none⟩ = some (.int .i64 r.cls) ∧ w'.cell? ⟨w.heap.size, 3, none⟩ = some (.int .i64 r.ttl)) (ds := []) #[false, false, false, false, false, false, false, false, false, false, false, false, false, false, false, false, false, false, false, false, false, false] (by kernel_rfl) rfl rfl ⟨g1, g2, g3⟩ (fun hHeld => ?_)
  refine pure_ (i := 0) (N := some 28) (v := ?_) (a' := ?_) #[true, false, false, false, false, false, false, false, false, false, false, false, false, false, false, false, false, false, false, false, false, false] rfl rfl (by kernel_rfl) (fun _ _ _ h => h) (Or.inl ⟨by rfl, ?_⟩) ?_ ?_
  rotate_left
  · intro w'
    go_simp
    with_reducible rfl
  rotate_left
  · simp only [Act.put, List.setIfInBounds_toArray, List.set_cons_zero, List.set_cons_succ, i64_w, i32_w]
    rfl
  refine pure_ (i := 3) (N := some 31) (v := ?_) (a' := ?_) #[true, false, false, true, false, false, false, false, false, false, false, false, false, false, false, false, false, false, false, false, false, false] rfl rfl (by kernel_rfl) (fun _ _ _ h => h) (Or.inl ⟨by rfl, ?_⟩) ?_ ?_
  rotate_left
  · intro w'
    go_simp
    with_reducible rfl
  rotate_left
  · simp only [Act.put, List.setIfInBounds_toArray, List.set_cons_zero, List.set_cons_succ, i64_w, i32_w]
    rfl
  refine pure_ (i := 6) (N := some 34) (v := ?_) (a' := ?_) #[true, false, false, true, false, false, true, false, false, false, false, false, false, false, false, false, false, false, false, false, false, false] rfl rfl (by kernel_rfl) (fun _ _ _ h => h) (Or.inl ⟨by rfl, ?_⟩) ?_ ?_
  rotate_left
  · intro w'
    go_simp
    with_reducible rfl
  rotate_left
  · simp only [Act.put, List.setIfInBounds_toArray, List.set_cons_zero, List.set_cons_succ, i64_w, i32_w]
    rfl
  refine pure_ (i := 9) (N := some 37) (v := ?_) (a' := ?_) #[true, false, false, true, false, false, true, false, false, true, false, false, false, false, false, false, false, false, false, false, false, false] rfl rfl (by kernel_rfl) (fun _ _ _ h => h) (Or.inl ⟨by rfl, ?_⟩) ?_ ?_
  rotate_left
  · intro w'
    go_simp
    with_reducible rfl
  rotate_left
  · simp only [Act.put, List.setIfInBounds_toArray, List.set_cons_zero, List.set_cons_succ, i64_w, i32_w]
    rfl
  refine pure_ (i := 11) (N := some 39) (v := ?_) (a' := ?_) #[true, false, false, true, false, false, true, false, false, true, false, true, false, false, false, false, false, false, false, false, false, false] rfl rfl (by kernel_rfl) (fun _ _ _ h => h) (Or.inl ⟨by rfl, ?_⟩) ?_ ?_
  rotate_left
  · intro w'
    go_simp
    with_reducible rfl
  rotate_left
  · simp only [Act.put, List.setIfInBounds_toArray, List.set_cons_zero, List.set_cons_succ, i64_w, i32_w]
    rfl
  refine take_ (i := 1) (N := some 29) (v := ?_) (a' := ?_) #[true, true, false, true, false, false, true, false, false, true, false, true, false, false, false, false, false, false, false, false, false, false] rfl rfl (by kernel_rfl) (fun _ _ _ h => h) (Or.inl ⟨by rfl, ?_⟩) hHeld ?_ ?_
  rotate_left
  · rintro w' ⟨s0, s1, s2⟩
    go_simp
    with_reducible rfl
  rotate_left
  · simp only [Act.put, List.setIfInBounds_toArray, List.set_cons_zero, List.set_cons_succ, i64_w, i32_w]
    rfl
  refine pure_ (i := 2) (N := some 30) (v := ?_) (a' := ?_) #[true, true, true, true, false, false, true, false, false, true, false, true, false, false, false, false, false, false, false, false, false, false] rfl rfl (by kernel_rfl) (fun _ _ _ h => h) (Or.inl ⟨by rfl, ?_⟩) ?_ ?_
  rotate_left
  · intro w'
    go_simp
    with_reducible rfl
  rotate_left
  · simp only [Act.put, List.setIfInBounds_toArray, List.set_cons_zero, List.set_cons_succ, i64_w, i32_w]
    rfl
  refine take_ (i := 4) (N := some 32) (v := ?_) (a' := ?_) #[true, true, true, true, true, false, true, false, false, true, false, true, false, false, false, false, false, false, false, false, false, false] rfl rfl (by kernel_rfl) (fun _ _ _ h => h) (Or.inl ⟨by rfl, ?_⟩) hHeld ?_ ?_
  rotate_left
  · rintro w' ⟨s0, s1, s2⟩
    go_simp
    with_reducible rfl
  rotate_left
  · simp only [Act.put, List.setIfInBounds_toArray, List.set_cons_zero, List.set_cons_succ, i64_w, i32_w]
    rfl
  refine pure_ (i := 5) (N := some 33) (v := ?_) (a' := ?_) #[true, true, true, true, true, true, true, false, false, true, false, true, false, false, false, false, false, false, false, false, false, false] rfl rfl (by kernel_rfl) (fun _ _ _ h => h) (Or.inl ⟨by rfl, ?_⟩) ?_ ?_
  rotate_left
  · intro w'
    go_simp
    with_reducible rfl
  rotate_left
  · simp only [Act.put, List.setIfInBounds_toArray, List.set_cons_zero, List.set_cons_succ, i64_w, i32_w]
    rfl
  refine take_ (i := 7) (N := some 35) (v := ?_) (a' := ?_) #[true, true, true, true, true, true, true, true, false, true, false, true, false, false, false, false, false, false, false, false, false, false] rfl rfl (by kernel_rfl) (fun _ _ _ h => h) (Or.inl ⟨by rfl, ?_⟩) hHeld ?_ ?_
  rotate_left
  · rintro w' ⟨s0, s1, s2⟩
    go_simp
    with_reducible rfl
  rotate_left
  · simp only [Act.put, List.setIfInBounds_toArray, List.set_cons_zero, List.set_cons_succ, i64_w, i32_w]
    rfl
  refine pure_ (i := 8) (N := some 36) (v := ?_) (a' := ?_) #[true, true, true, true, true, true, true, true, true, true, false, true, false, false, false, false, false, false, false, false, false, false] rfl rfl (by kernel_rfl) (fun _ _ _ h => h) (Or.inl ⟨by rfl, ?_⟩) ?_ ?_
  rotate_left
  · intro w'
    go_simp
    with_reducible rfl
  rotate_left
  · simp only [Act.put, List.setIfInBounds_toArray, List.set_cons_zero, List.set_cons_succ, i64_w, i32_w]
    rfl
  refine join_ (σ := Nat × Nat) 6 #[true, true, true, true, true, true, true, true, true, true, true, true, true, true, true, true, false, false, false, false, false, false] (fun s => [(38, .int .i64 (DS.1.size : Int)), (40, .int .i64 (wrap64 ((DS.1.size : Int) - (QS.size : Int)))), (41, .int .u64 (IntKind.u64.wrap (wrap64 ((DS.1.size : Int) - (QS.size : Int))))), (42, .slice (some ⟨s.1, 0, none⟩) 4 4), (43, .slice (some ⟨s.2, 0, none⟩) 4 4)]) (fun s w' => Below w7.heap.size w7 w' ∧ w'.heap[s.1]? = some (.cells #[.int .u64 (IntKind.u64.wrap r.typ), .int .u64 (IntKind.u64.wrap r.cls), .int .u64 (IntKind.u64.wrap r.ttl), .int .u64 (IntKind.u64.wrap (wrap64 ((DS.1.size : Int) - (QS.size : Int))))] 83) ∧ w'.heap[s.2]? = some (.cells #[.int .i64 2, .int .i64 2, .int .i64 4, .int .i64 2] 3)) ?_ ?_
  rotate_left
  · intro hCont
    refine two_ (i := 10) (j := 15) (Ni := some 38) (Nj := some 43) #[true, true, true, true, true, true, true, true, true, true, true, true, false, false, false, false, false, false, false, false, false, false] #[true, true, true, true, true, true, true, true, true, true, false, true, false, false, false, true, false, false, false, false, false, false] rfl rfl rfl rfl (by kernel_rfl) (by decide) (by decide) (fun K hK => ?_) (fun K hK => ?_)
    · skip
      refine goes_ Try.func65 (by kernel_rfl) rfl #[.pointer (some ⟨q, 0, none⟩)] (by rfl) rfl rfl (by simp only [List.map_toArray, List.map_cons, List.map_nil]; rfl) ?_
      with_reducible refine (Len_pk q _ _ w7.drew (pkAt_keep hq7 (fun _ _ hl => rfl))).mono ?_
      rintro e w8 ⟨rfl, rfl⟩
      refine ⟨_, rfl, ?_⟩
      refine hK.out _ _ ⟨hHeld.1, hHeld.2.1, hHeld.2.2⟩ (fun hHeld => ?_)
      clear hK K
      refine norm_ (a' := ?_) ?_ ?_
      rotate_left
      · show Act.put _ (some 38) _ = _
        simp only [Act.put, List.setIfInBounds_toArray, List.set_cons_zero, List.set_cons_succ, i64_w, i32_w]
        rfl
      refine pure_ (i := 12) (N := some 40) (v := ?_) (a' := ?_) #[true, true, true, true, true, true, true, true, true, true, true, true, true, false, false, false, false, false, false, false, false, false] rfl rfl (by kernel_rfl) (fun _ _ _ h => h) (Or.inl ⟨by rfl, ?_⟩) ?_ ?_
      rotate_left
      · intro w'
        go_simp
        with_reducible rfl
      rotate_left
      · simp only [Act.put, List.setIfInBounds_toArray, List.set_cons_zero, List.set_cons_succ, i64_w, i32_w]
        rfl
      refine pure_ (i := 13) (N := some 41) (v := ?_) (a' := ?_) #[true, true, true, true, true, true, true, true, true, true, true, true, true, true, false, false, false, false, false, false, false, false] rfl rfl (by kernel_rfl) (fun _ _ _ h => h) (Or.inl ⟨by rfl, ?_⟩) ?_ ?_
      rotate_left
      · intro w'
        go_simp
        with_reducible rfl
      rotate_left
      · simp only [Act.put, List.setIfInBounds_toArray, List.set_cons_zero, List.set_cons_succ, i64_w, i32_w]
        rfl
      refine two_ (i := 14) (j := 15) (Ni := some 42) (Nj := some 43) #[true, true, true, true, true, true, true, true, true, true, true, true, true, true, true, false, false, false, false, false, false, false] #[true, true, true, true, true, true, true, true, true, true, true, true, true, true, false, true, false, false, false, false, false, false] rfl rfl rfl rfl (by kernel_rfl) (by decide) (by decide) (fun K hK => ?_) (fun K hK => ?_)
      · skip
        refine value_ (w1 := ?_) (v := ?_) (by rfl) rfl ?_ ?_
        rotate_left 2
        · go_simp
          constructor
          · rfl
          · rfl
        refine hK.out _ _ ⟨cell_al hHeld.1 _, cell_al hHeld.2.1 _, cell_al hHeld.2.2 _⟩ (fun hHeld => ?_)
        clear hK K
        refine norm_ (a' := ?_) ?_ ?_
        rotate_left
        · show Act.put _ (some 42) _ = _
          simp only [Act.put, List.setIfInBounds_toArray, List.set_cons_zero, List.set_cons_succ, i64_w, i32_w]
          rfl
        refine one_ (i := 15) (N := some 43) #[true, true, true, true, true, true, true, true, true, true, true, true, true, true, true, true, false, false, false, false, false, false] rfl rfl (by kernel_rfl) (by decide) (fun K hK => ?_)
        refine value_ (w1 := ?_) (v := ?_) (by rfl) rfl ?_ ?_
        rotate_left 2
        · go_simp
          constructor
          · rfl
          · rfl
        refine hK.out _ _ ⟨cell_al hHeld.1 _, cell_al hHeld.2.1 _, cell_al hHeld.2.2 _⟩ (fun hHeld => ?_)
        clear hK K
        refine norm_ (a' := ?_) ?_ ?_
        rotate_left
        · show Act.put _ (some 43) _ = _
          simp only [Act.put, List.setIfInBounds_toArray, List.set_cons_zero, List.set_cons_succ, i64_w, i32_w]
          rfl
        exact norm_ (by simp only [putAll, Act.put, List.setIfInBounds_toArray, List.set_cons_zero, List.set_cons_succ]) (hCont (w7.heap.size, w7.heap.size + 1) _ ⟨((((Fr.refl (fun _ => False) w7).drew).alloc _).alloc _).to_below (Nat.le_refl _) (by simp), (two_alloc w7 _ _).1, (two_alloc w7 _ _).2⟩)
      · skip
        refine value_ (w1 := ?_) (v := ?_) (by rfl) rfl ?_ ?_
        rotate_left 2
        · go_simp
          constructor
          · rfl
          · rfl
        refine hK.out _ _ ⟨cell_al hHeld.1 _, cell_al hHeld.2.1 _, cell_al hHeld.2.2 _⟩ (fun hHeld => ?_)
        clear hK K
        refine norm_ (a' := ?_) ?_ ?_
        rotate_left
        · show Act.put _ (some 43) _ = _
          simp only [Act.put, List.setIfInBounds_toArray, List.set_cons_zero, List.set_cons_succ, i64_w, i32_w]
          rfl
        refine one_ (i := 14) (N := some 42) #[true, true, true, true, true, true, true, true, true, true, true, true, true, true, true, true, false, false, false, false, false, false] rfl rfl (by kernel_rfl) (by decide) (fun K hK => ?_)
        refine value_ (w1 := ?_) (v := ?_) (by rfl) rfl ?_ ?_
        rotate_left 2
        · go_simp
          constructor
          · rfl
          · rfl
        refine hK.out _ _ ⟨cell_al hHeld.1 _, cell_al hHeld.2.1 _, cell_al hHeld.2.2 _⟩ (fun hHeld => ?_)
        clear hK K
        refine norm_ (a' := ?_) ?_ ?_
        rotate_left
        · show Act.put _ (some 42) _ = _
          simp only [Act.put, List.setIfInBounds_toArray, List.set_cons_zero, List.set_cons_succ, i64_w, i32_w]
          rfl
        exact norm_ (by simp only [putAll, Act.put, List.setIfInBounds_toArray, List.set_cons_zero, List.set_cons_succ]) (hCont (w7.heap.size + 1, w7.heap.size) _ ⟨((((Fr.refl (fun _ => False) w7).drew).alloc _).alloc _).to_below (Nat.le_refl _) (by simp), (two_alloc w7 _ _).2, (two_alloc w7 _ _).1⟩)
    · skip
      refine value_ (w1 := ?_) (v := ?_) (by rfl) rfl ?_ ?_
      rotate_left 2
      · go_simp
        constructor
        · rfl
        · rfl
      refine hK.out _ _ ⟨cell_al hHeld.1 _, cell_al hHeld.2.1 _, cell_al hHeld.2.2 _⟩ (fun hHeld => ?_)
      clear hK K
      refine norm_ (a' := ?_) ?_ ?_
      rotate_left
      · show Act.put _ (some 43) _ = _
        simp only [Act.put, List.setIfInBounds_toArray, List.set_cons_zero, List.set_cons_succ, i64_w, i32_w]
        rfl
      refine one_ (i := 10) (N := some 38) #[true, true, true, true, true, true, true, true, true, true, true, true, false, false, false, true, false, false, false, false, false, false] rfl rfl (by kernel_rfl) (by decide) (fun K hK => ?_)
      refine goes_ Try.func65 (by kernel_rfl) rfl #[.pointer (some ⟨q, 0, none⟩)] (by rfl) rfl rfl (by simp only [List.map_toArray, List.map_cons, List.map_nil]; rfl) ?_
      with_reducible refine (Len_pk q _ _ _ (pkAt_keep hq7 (fun _ _ hl => Lib.alloc_old w7.drew _ _ hl))).mono ?_
      rintro e w8 ⟨rfl, rfl⟩
      refine ⟨_, rfl, ?_⟩
      refine hK.out _ _ ⟨hHeld.1, hHeld.2.1, hHeld.2.2⟩ (fun hHeld => ?_)
      clear hK K
      refine norm_ (a' := ?_) ?_ ?_
      rotate_left
      · show Act.put _ (some 38) _ = _
        simp only [Act.put, List.setIfInBounds_toArray, List.set_cons_zero, List.set_cons_succ, i64_w, i32_w]
        rfl
      refine pure_ (i := 12) (N := some 40) (v := ?_) (a' := ?_) #[true, true, true, true, true, true, true, true, true, true, true, true, true, false, false, true, false, false, false, false, false, false] rfl rfl (by kernel_rfl) (fun _ _ _ h => h) (Or.inl ⟨by rfl, ?_⟩) ?_ ?_
      rotate_left
      · intro w'
        go_simp
        with_reducible rfl
      rotate_left
      · simp only [Act.put, List.setIfInBounds_toArray, List.set_cons_zero, List.set_cons_succ, i64_w, i32_w]
        rfl
      refine pure_ (i := 13) (N := some 41) (v := ?_) (a' := ?_) #[true, true, true, true, true, true, true, true, true, true, true, true, true, true, false, true, false, false, false, false, false, false] rfl rfl (by kernel_rfl) (fun _ _ _ h => h) (Or.inl ⟨by rfl, ?_⟩) ?_ ?_
      rotate_left
      · intro w'
        go_simp
        with_reducible rfl
      rotate_left
      · simp only [Act.put, List.setIfInBounds_toArray, List.set_cons_zero, List.set_cons_succ, i64_w, i32_w]
        rfl
      refine one_ (i := 14) (N := some 42) #[true, true, true, true, true, true, true, true, true, true, true, true, true, true, true, true, false, false, false, false, false, false] rfl rfl (by kernel_rfl) (by decide) (fun K hK => ?_)
      refine value_ (w1 := ?_) (v := ?_) (by rfl) rfl ?_ ?_
      rotate_left 2
      · go_simp
        constructor
        · rfl
        · rfl
      refine hK.out _ _ ⟨cell_al hHeld.1 _, cell_al hHeld.2.1 _, cell_al hHeld.2.2 _⟩ (fun hHeld => ?_)
      clear hK K
      refine norm_ (a' := ?_) ?_ ?_
      rotate_left
      · show Act.put _ (some 42) _ = _
        simp only [Act.put, List.setIfInBounds_toArray, List.set_cons_zero, List.set_cons_succ, i64_w, i32_w]
        rfl
      exact norm_ (by simp only [putAll, Act.put, List.setIfInBounds_toArray, List.set_cons_zero, List.set_cons_succ]) (hCont (w7.heap.size + 1, w7.heap.size) _ ⟨((((Fr.refl (fun _ => False) w7).drew).alloc _).alloc _).to_below (Nat.le_refl _) (by simp), (two_alloc w7 _ _).2, (two_alloc w7 _ _).1⟩)
  rintro ⟨a, c⟩ w8 ⟨hB8, ha, hc⟩
  dsimp only at ha hc
  have hHeld : w8.cell? ⟨w.heap.size, 1, none⟩ = some (.int .i64 r.typ) ∧ w8.cell? ⟨w.heap.size, 2, none⟩ = some (.int .i64 r.cls) ∧ w8.cell? ⟨w.heap.size, 3, none⟩ = some (.int .i64 r.ttl) := ⟨hB8.cell_of f1, hB8.cell_of f2, hB8.cell_of f3⟩
  refine norm_ (a' := ?_) ?_ ?_
  rotate_left
  · simp only [putAll, Act.put, List.setIfInBounds_toArray, List.set_cons_zero, List.set_cons_succ]
    rfl
  refine one_ (i := 16) (N := some 44) #[true, true, true, true, true, true, true, true, true, true, true, true, true, true, true, true, true, false, false, false, false, false] rfl rfl (by kernel_rfl) (by decide) (fun K hK => ?_)
  refine goes_ Try.func41 (by kernel_rfl) rfl #[.slice (some ⟨a, 0, none⟩) 4 4, .slice (some ⟨c, 0, none⟩) 4 4] (by rfl) rfl rfl (by simp only [List.map_toArray, List.map_cons, List.map_nil]; rfl) ?_
  with_reducible refine (HJ.out a c _ ha hc).mono ?_
  rintro e w9 ⟨rfl, hB9⟩
  refine ⟨_, rfl, ?_⟩
  refine hK.out _ _ ⟨(hB9.cell_of hHeld.1), (hB9.cell_of hHeld.2.1), (hB9.cell_of hHeld.2.2)⟩ (fun hHeld => ?_)
  clear hK K
  refine norm_ (a' := ?_) ?_ ?_
  rotate_left
  · show Act.put _ (some 44) _ = _
    simp only [Act.put, List.setIfInBounds_toArray, List.set_cons_zero, List.set_cons_succ, i64_w, i32_w]
    rfl
  refine pure_ (i := 17) (N := some 27) (v := ?_) (a' := ?_) #[true, true, true, true, true, true, true, true, true, true, true, true, true, true, true, true, true, true, false, false, false, false] rfl rfl (by kernel_rfl) (fun _ _ _ h => h) (Or.inl ⟨by rfl, ?_⟩) ?_ ?_
  rotate_left
  · intro w'
    go_simp
    with_reducible rfl
  rotate_left
  · simp only [Act.put, List.setIfInBounds_toArray, List.set_cons_zero, List.set_cons_succ, i64_w, i32_w]
    rfl
  refine pure_ (i := 18) (N := some 45) (v := ?_) (a' := ?_) #[true, true, true, true, true, true, true, true, true, true, true, true, true, true, true, true, true, true, true, false, false, false] rfl rfl (by kernel_rfl) (fun _ _ _ h => h) (Or.inl ⟨by rfl, ?_⟩) ?_ ?_
  rotate_left
  · intro w'
    go_simp
    with_reducible rfl
  rotate_left
  · simp only [Act.put, List.setIfInBounds_toArray, List.set_cons_zero, List.set_cons_succ, i64_w, i32_w]
    rfl
  refine pure_ (i := 19) (N := some 46) (v := ?_) (a' := ?_) #[true, true, true, true, true, true, true, true, true, true, true, true, true, true, true, true, true, true, true, true, false, false] rfl rfl (by kernel_rfl) (fun _ _ _ h => h) (Or.inl ⟨by rfl, ?_⟩) ?_ ?_
  rotate_left
  · intro w'
    go_simp
    with_reducible rfl
  rotate_left
  · simp only [Act.put, List.setIfInBounds_toArray, List.set_cons_zero, List.set_cons_succ, i64_w, i32_w]
    rfl
  refine pure_ (i := 20) (N := some 7) (v := ?_) (a' := ?_) #[true, true, true, true, true, true, true, true, true, true, true, true, true, true, true, true, true, true, true, true, true, false] rfl rfl (by kernel_rfl) (fun _ _ _ h => h) (Or.inl ⟨by rfl, ?_⟩) ?_ ?_
  rotate_left
  · intro w'
    go_simp
    with_reducible rfl
  rotate_left
  · simp only [Act.put, List.setIfInBounds_toArray, List.set_cons_zero, List.set_cons_succ, i64_w, i32_w]
    rfl
  refine pure_ (i := 21) (N := some 8) (v := ?_) (a' := ?_) #[true, true, true, true, true, true, true, true, true, true, true, true, true, true, true, true, true, true, true, true, true, true] rfl rfl (by kernel_rfl) (fun _ _ _ h => h) (Or.inl ⟨by rfl, ?_⟩) ?_ ?_
  rotate_left
  · intro w'
    go_simp
    with_reducible rfl
  rotate_left
  · simp only [Act.put, List.setIfInBounds_toArray, List.set_cons_zero, List.set_cons_succ, i64_w, i32_w]
    rfl
  refine done_ (by kernel_rfl) ?_
  have hs1 := hB1.size
  rw [HZ.out] at hs1
  have hn255 := rightB_size hrn
  have hs2 := hch2.fr.size
  have hs7 := hB7.size
  have hs8 := hB8.size
  have hs9 := hB9.size
  have hB29 : Below w2.heap.size w2 w9 := (hB7.trans (hB8.mono hs7)).trans (hB9.mono (by omega))
  have hnO2 : ¬ O2 w.heap.size := hch2.not_own (by omega) (fun h => by have := HOL.out _ h; omega)
  have hr9 : w9.heap[w.heap.size]? = some (.cells r.cells 78 (0, 0)) := (hB29.block w.heap.size (by omega)).trans ((hch2.fr.block w.heap.size (by omega) (fun h => by have := HOL.out _ h; omega)).trans (HC.out _ hB1))
  have hRaw := Raw_pk b S1.1 jb S1.2 O2 w9 (pkAt_keep hp2 (fun k hk hl => hB29.block k hl)) (by have := HS1.out.1; have := HX.out.1; omega)
  have hDat := fun (w1 : World) (O1 : Nat → Prop) (hp : PkAt b (S1.1 ++ jb, S1.2) O1 w1) => dataR_any b (S1.1 ++ jb, S1.2) r O1 w1 hp hr HS1.out.2 (by dsimp only; rw [size_app]; have := HS1.out.1; have := HX.out.1; omega)
  have HRW := Lib.hid hRaw
  have HDT := Lib.hid hDat
  have hchw : Ch O O2 w w9 := (((Ch.refl O w).below (HBL.out _ hB1)).trans hch2).trans ((Ch.refl O2 w2).below hB29)
  have hlt9 : w.heap.size < w9.heap.size := by omega
  clear hRaw hDat hp2 hB29 hB9 hB8 hB7 hch7 hq7 hch5 hq5 hB35 hB3 hB4 hq4 hOq hch2 hHeld
  go_wp2_with (first | (go_at_call 62; refine HRW.out.mono ?_; rintro e w10 ⟨rfl, O10, hp10, hch10⟩; obtain ⟨k0, k1, k2, k3, k4⟩ := rec_cells ((hch10.fr.block w.heap.size hlt9 hnO2).trans hr9)) | (go_at_call 112; refine (HDT.out _ _ hp10).mono ?_; rintro e w11 ⟨rfl, O11, hp11, hch11⟩))
  go_ret
  exact ⟨rfl, O11, hp11, (hchw.trans hch10).trans hch11⟩
end Go.Proofs.Ytajdlgbhofdafaa
