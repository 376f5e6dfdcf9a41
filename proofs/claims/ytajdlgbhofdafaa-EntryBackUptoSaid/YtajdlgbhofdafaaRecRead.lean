/- record.Read. -/
import Derived.Test.YtajdlgbhofdafaaRec
import Derived.Deep.DeepCutAuto
namespace Go.Proofs.Ytajdlgbhofdafaa
open Go.RowKit Go.Shelf Go.Proofs.YtajdlgbhofdafaaW.PrintWords Go.Proofs.YtajdlgbhofdafaaW.PrintLast Go.Proofs.YtajdlgbhofdafaaW.PrintMore
set_option maxRecDepth 1000000
attribute [local go_sem] Oper.semAt_some

/-- A record's fixed numbers, and what is behind them. -/
def headR (msg : ByteArray) (next : Nat) : Option (Nat × Nat × Nat × Nat × Nat) :=
  match fieldsB [2, 2, 4, 2] (msg.extract next msg.size) with
  | some ([t, c, tt, sz], rest) => if (rest.size : Int) < sz then none else some (t.toNat, c.toNat, tt.toNat, sz.toNat, msg.size - rest.size)
  | _ => none
/-- The record that stands at a place, its data as they stand. -/
def recOf (msg n : ByteArray) (h : Nat × Nat × Nat × Nat × Nat) : RRec := ⟨n, h.1, h.2.1, if 2147483647 < h.2.2.1 then 0 else h.2.2.1, msg.extract h.2.2.2.2 (h.2.2.2.2 + h.2.2.2.1)⟩
/-- The record behind a name, and the place behind it. -/
def readR2 (msg n : ByteArray) (nx : Nat) : Option (RRec × Nat) :=
  match headR msg nx with
  | none => none
  | some h =>
    if typedB (recOf msg n h) then (readD msg h.2.2.2.2 h.2.2.2.1 h.1).map fun d => ({ recOf msg n h with data := d }, h.2.2.2.2 + h.2.2.2.1)
    else some (recOf msg n h, h.2.2.2.2 + h.2.2.2.1)
/-- The record that stands at a place, and the place behind it. -/
def readR (msg : ByteArray) (i : Nat) : Option (RRec × Nat) := (readB msg i).bind fun p => readR2 msg p.1 p.2.toNat
abbrev noRec : RRec := ⟨⟨#[]⟩, 0, 0, 0, ⟨#[]⟩⟩
theorem fields4 (b : ByteArray) : fieldsB [2, 2, 4, 2] b = none ∨ ∃ (t c tt sz : Nat) (rest : ByteArray), fieldsB [2, 2, 4, 2] b = some ([(t : Int), (c : Int), (tt : Int), (sz : Int)], rest) ∧ t < 65536 ∧ c < 65536 ∧ tt < 4294967296 ∧ sz < 65536 ∧ rest.size + 10 = b.size := by
  have hlt : ∀ (b : ByteArray) (n : Nat), n ≤ 4 → beN (b.extract 0 n).data.toList < 256 ^ n := by
    intro b n _
    refine Nat.lt_of_lt_of_le (beN_lt _) (Nat.pow_le_pow_right (by omega) ?_)
    simp
    omega
  by_cases h1 : b.size < 2
  · left; rw [fieldsB, if_pos h1]
  have e1 : (b.extract 2 b.size).size = b.size - 2 := by simp
  by_cases h2 : (b.extract 2 b.size).size < 2
  · left; rw [fieldsB, if_neg h1, fieldsB, if_pos h2]; rfl
  have e2 := e1
  generalize hb1 : b.extract 2 b.size = b1 at *
  have e3 : (b1.extract 2 b1.size).size = b1.size - 2 := by simp
  by_cases h3 : (b1.extract 2 b1.size).size < 4
  · left; rw [fieldsB, if_neg h1, hb1, fieldsB, if_neg h2, fieldsB, if_pos h3]; rfl
  generalize hb2 : b1.extract 2 b1.size = b2 at *
  have e4 : (b2.extract 4 b2.size).size = b2.size - 4 := by simp
  by_cases h4 : (b2.extract 4 b2.size).size < 2
  · left; rw [fieldsB, if_neg h1, hb1, fieldsB, if_neg h2, hb2, fieldsB, if_neg h3, fieldsB, if_pos h4]; rfl
  generalize hb3 : b2.extract 4 b2.size = b3 at *
  have e5 : (b3.extract 2 b3.size).size = b3.size - 2 := by simp
  right
  refine ⟨_, _, _, _, b3.extract 2 b3.size, by rw [fieldsB, if_neg h1, hb1, fieldsB, if_neg h2, hb2, fieldsB, if_neg h3, hb3, fieldsB, if_neg h4, fieldsB]; rfl, hlt _ 2 (by omega), hlt _ 2 (by omega), hlt _ 4 (by omega), hlt _ 2 (by omega), by omega⟩

/-- What Read answers. -/
def ReadRRet (w : World) (o : Option (RRec × Nat)) (e : Ending) (w' : World) : Prop := Below w.heap.size w w' ∧
  match o with
  | some (r, next) => e = .returned (.tuple #[r.val, .int .i64 next, .int .i64 0])
  | none => e = .returned (.tuple #[noRec.val, .int .i64 0, .int .i64 2])

/-- A record is stored, field by field. -/
abbrev set5 (w : World) (b : Nat) (r : RRec) : World := ((((w.setCell ⟨b, 0, none⟩ (.string r.name)).setCell ⟨b, 1, none⟩ (.int .i64 r.typ)).setCell ⟨b, 2, none⟩ (.int .i64 r.cls)).setCell ⟨b, 3, none⟩ (.int .i64 r.ttl)).setCell ⟨b, 4, none⟩ (.string r.data)
theorem set5_heap {w : World} {b : Nat} {r0 r : RRec} (h : w.heap[b]? = some (.cells r0.cells 78 (0, 0))) : (set5 w b r).heap[b]? = some (.cells r.cells 78 (0, 0)) := by
  have h1 := heap_set (i := 0) (v := .string r.name) h
  have h2 := heap_set (i := 1) (v := .int .i64 r.typ) h1
  have h3 := heap_set (i := 2) (v := .int .i64 r.cls) h2
  have h4 := heap_set (i := 3) (v := .int .i64 r.ttl) h3
  have h5 := heap_set (i := 4) (v := .string r.data) h4
  exact h5
theorem set5_fr (w : World) (b : Nat) (r : RRec) : Fr (fun k => k = b) w (set5 w b r) := by
  have h0 := (Fr.refl (fun k => k = b) w).set ⟨b, 0, none⟩ (.string r.name) (fun _ => rfl)
  have h1 := h0.set ⟨b, 1, none⟩ (.int .i64 r.typ) (fun _ => rfl)
  have h2 := h1.set ⟨b, 2, none⟩ (.int .i64 r.cls) (fun _ => rfl)
  have h3 := h2.set ⟨b, 3, none⟩ (.int .i64 r.ttl) (fun _ => rfl)
  exact h3.set ⟨b, 4, none⟩ (.string r.data) (fun _ => rfl)

theorem fr_wrap {a b fr : Nat} (h : fr = a - b) (hm : a ≤ 16777216) : wrap64 ((a - b : Nat) : Int) = (fr : Int) := by rw [← h]; exact w64_in _ (by omega)
theorem rec_set3 {w : World} {b : Nat} {n d : ByteArray} {t c tt x : Int} (h : w.heap[b]? = some (.cells (RRec.mk n t c tt d).cells 78 (0, 0))) : (w.setCell ⟨b, 3, none⟩ (.int .i64 x)).heap[b]? = some (.cells (RRec.mk n t c x d).cells 78 (0, 0)) := heap_set h
theorem rec_set4 {w : World} {b : Nat} {n d e : ByteArray} {t c tt : Int} (h : w.heap[b]? = some (.cells (RRec.mk n t c tt d).cells 78 (0, 0))) : (w.setCell ⟨b, 4, none⟩ (.string e)).heap[b]? = some (.cells (RRec.mk n t c tt e).cells 78 (0, 0)) := heap_set h
/-- A record is made at p; the result is not yet written. -/
def RdAt (w : World) (p : Nat) (r : RRec) (wx : World) : Prop :=
  w.heap.size < p ∧ Below w.heap.size w wx ∧ wx.heap[p]? = some (.cells r.cells 78 (0, 0)) ∧ wx.heap[w.heap.size]? = some (.cells noRec.cells 78 (0, 0))
theorem RdAt.drew {w wx : World} {p : Nat} {r : RRec} (h : RdAt w p r wx) : RdAt w p r wx.drew := ⟨h.1, h.2.1.drew, h.2.2.1, h.2.2.2⟩
theorem RdAt.set3 {w wx : World} {p : Nat} {n d : ByteArray} {t c tt : Int} (x : Int) (h : RdAt w p ⟨n, t, c, tt, d⟩ wx) : RdAt w p ⟨n, t, c, x, d⟩ (wx.setCell ⟨p, 3, none⟩ (.int .i64 x)) :=
  ⟨h.1, h.2.1.setCell (Nat.le_of_lt h.1) _, rec_set3 h.2.2.1, (Below.heap_setCell _ _ _ _ (Nat.ne_of_lt h.1)).trans h.2.2.2⟩
theorem RdAt.set4 {w wx : World} {p : Nat} {n d : ByteArray} {t c tt : Int} (x : ByteArray) (h : RdAt w p ⟨n, t, c, tt, d⟩ wx) : RdAt w p ⟨n, t, c, tt, x⟩ (wx.setCell ⟨p, 4, none⟩ (.string x)) :=
  ⟨h.1, h.2.1.setCell (Nat.le_of_lt h.1) _, rec_set4 h.2.2.1, (Below.heap_setCell _ _ _ _ (Nat.ne_of_lt h.1)).trans h.2.2.2⟩
theorem RdAt.below {w wx wy : World} {p : Nat} {r : RRec} (h : RdAt w p r wx) (hB : Below wx.heap.size wx wy) : RdAt w p r wy :=
  ⟨h.1, h.2.1.trans (hB.mono h.2.1.size), (hB.block p (Array.getElem?_eq_some_iff.1 h.2.2.1).1).trans h.2.2.1, (hB.block _ (Array.getElem?_eq_some_iff.1 h.2.2.2).1).trans h.2.2.2⟩
theorem rec_cellsM {w : World} {b : Nat} {n d : ByteArray} {t c tt : Int} (h : w.heap[b]? = some (.cells (RRec.mk n t c tt d).cells 78 (0, 0))) : w.cell? ⟨b, 0, none⟩ = some (.string n) ∧ w.cell? ⟨b, 1, none⟩ = some (.int .i64 t) ∧ w.cell? ⟨b, 2, none⟩ = some (.int .i64 c) ∧ w.cell? ⟨b, 3, none⟩ = some (.int .i64 tt) ∧ w.cell? ⟨b, 4, none⟩ = some (.string d) := rec_cells h
theorem rdAt_new {w w1 : World} (r : RRec) (h : Below (w.heap.size + 1) (w.alloc (.cells noRec.cells 78)) w1) : RdAt w w1.heap.size r (w1.alloc (.cells r.cells 78)).drew := by
  have hs := h.size
  rw [sz_al] at hs
  have h0 : Below w.heap.size w (w.alloc (.cells noRec.cells 78)) := ((Fr.refl (fun _ => False) w).alloc _).to_below (Nat.le_refl _) (by simp)
  refine ⟨by omega, ((h0.trans (h.mono (by omega))).alloc (by omega) _).drew, ?_, ?_⟩
  · show (w1.alloc _).heap[_]? = _
    rw [hp_al, if_pos rfl]
  · show (w1.alloc _).heap[_]? = _
    rw [hp_al, if_neg (by omega)]
    exact (h.block _ (by omega)).trans (by rw [hp_al, if_pos rfl])
theorem RdAt.cell3 {w wx : World} {p g : Nat} {v v3 : Value} {r : RRec} (h : RdAt w p r wx) (hg : ¬ g = p) (hc : wx.cell? ⟨g, 3, none⟩ = some v) : (wx.setCell ⟨p, 3, none⟩ v3).cell? ⟨g, 3, none⟩ = some v := by
  rw [World.cell?_of_block (Below.heap_setCell wx ⟨p, 3, none⟩ v3 g hg)]; exact hc
theorem big_lt {tt : Nat} (h : 2147483647 < tt) : decide ((2147483647 : Int) < (tt : Int)) = true := decide_eq_true (by omega)
theorem big_le {tt : Nat} (h : ¬ 2147483647 < tt) : decide ((2147483647 : Int) < (tt : Int)) = false := decide_eq_false (by omega)
set_option maxHeartbeats 16000000 in
theorem ReadR_any (msg : ByteArray) (i : Nat) (w : World) (hi : i ≤ msg.size) (hb : msg.size ≤ 16777216) :
    Calls Try.prog 70 #[.string msg, .int .i64 i] w (ReadRRet w (readR msg i)) := by
  have hR := fun w => Read_any msg i w hi (by omega)
  have hz : (w.alloc (.cells noRec.cells 78)).heap.size = w.heap.size + 1 := sz_al _ _
  have hfr : Below w.heap.size w (w.alloc (.cells noRec.cells 78)) := ((Fr.refl (fun _ => False) w).alloc _).to_below (Nat.le_refl _) (by simp)
  have hcl := fun (w1 : World) (hB : Below (w.heap.size + 1) (w.alloc (.cells noRec.cells 78)) w1) => (hB.block w.heap.size (by omega)).trans (by rw [hp_al, if_pos rfl] : _ = some (.cells noRec.cells 78 (0, 0)))
  have hbl := fun (w1 : World) (hB : Below (w.heap.size + 1) (w.alloc (.cells noRec.cells 78)) w1) => hfr.trans (hB.mono (show w.heap.size ≤ w.heap.size + 1 by omega))
  unfold readR
  cases hrb : readB msg i with
  | none =>
    rw [hrb] at hR
    have HR := Lib.hid hR
    have HZ := Lib.hid hz
    have HC := Lib.hid hcl
    have HBL := Lib.hid hbl
    clear hR hz hcl hbl hrb
    go_enter Try.func70, Try.ntmps70
    go_wp2_with (go_at_call 114; refine (HR.out _).mono ?_; rintro e w1 ⟨hB1, rfl⟩; rw [HZ.out] at hB1; have hr1 := HC.out _ hB1; obtain ⟨c0, c1, c2, c3, c4⟩ := rec_cells hr1; have q0 := froz_at (o := 0) hr1; have q1 := froz_at (o := 1) hr1; have q2 := froz_at (o := 2) hr1; have q3 := froz_at (o := 3) hr1; have q4 := froz_at (o := 4) hr1)
    refine bodyPost_ret (v := .tuple #[noRec.val, .int .i64 0, .int .i64 2]) (by simp [results, Try.results70, go_sem, c0, c1, c2, c3, c4]) rfl ⟨?_, rfl⟩
    exact (HBL.out _ hB1).trans ((set5_fr _ _ noRec).to_below (HBL.out _ hB1).size (fun k hk => by omega))
  | some p =>
    obtain ⟨n, next⟩ := p
    rw [hrb] at hR
    have hon := readB_on hrb hi
    obtain ⟨nx, rfl⟩ : ∃ nx : Nat, next = nx := ⟨next.toNat, by omega⟩
    rw [Option.bind_some]
    dsimp only
    rw [Int.toNat_natCast]
    have hd0 : decide (msg.size < nx) = false := by simp; omega
    have hS := fun (a : Nat) (w1 : World) (ha : w1.heap[a]? = some (.cells #[.int .i64 2, .int .i64 2, .int .i64 4, .int .i64 2] 3)) => Split_any a 4 [2, 2, 4, 2] (msg.extract nx msg.size) w1 ha (by simp; omega) (by simp) (by simp)
    have hsz : (msg.extract nx msg.size).size = msg.size - nx := by simp
    have HR := Lib.hid hR
    have HZ := Lib.hid hz
    have HC := Lib.hid hcl
    have HBL := Lib.hid hbl
    clear hR hz hcl hbl hrb
    rcases fields4 (msg.extract nx msg.size) with hf | ⟨t, c, tt, sz, rest, hf, ht, hc, htt, hszb, hrs⟩
    · rw [show readR2 msg n nx = none from by unfold readR2; rw [show headR msg nx = none from by unfold headR; rw [hf]]]
      rw [hf] at hS
      have HS := Lib.hid hS
      clear hS hf
      go_enter Try.func70, Try.ntmps70
      go_wp2_with (first | (go_at_call 114; refine (HR.out _).mono ?_; rintro e w0 ⟨hB0, rfl⟩; rw [HZ.out] at hB0) | (go_at_call 42; refine (HS.out w0.heap.size (w0.alloc (.cells #[.int .i64 2, .int .i64 2, .int .i64 4, .int .i64 2] 3)) (by rw [hp_al, if_pos rfl])).mono ?_; rintro e w1 ⟨hB2, rfl⟩; have hs0 := hB0.size; rw [HZ.out] at hs0; have hB1 : Below (w.heap.size + 1) (w.alloc (.cells noRec.cells 78)) w1 := (hB0.alloc hs0 _).trans (hB2.mono (by rw [sz_al]; omega)); have hr1 := HC.out _ hB1; obtain ⟨c0, c1, c2, c3, c4⟩ := rec_cells hr1; have q0 := froz_at (o := 0) hr1; have q1 := froz_at (o := 1) hr1; have q2 := froz_at (o := 2) hr1; have q3 := froz_at (o := 3) hr1; have q4 := froz_at (o := 4) hr1))
      refine bodyPost_ret (v := .tuple #[noRec.val, .int .i64 0, .int .i64 2]) (by simp [results, Try.results70, go_sem, c0, c1, c2, c3, c4]) rfl ⟨?_, rfl⟩
      exact (HBL.out _ hB1).trans ((set5_fr _ _ noRec).to_below (HBL.out _ hB1).size (fun k hk => by omega))
    · rw [hf] at hS
      have HS := Lib.hid hS
      by_cases hbig : (rest.size : Int) < (sz : Int)
      · rw [show readR2 msg n nx = none from by unfold readR2; rw [show headR msg nx = none from by unfold headR; rw [hf]; exact if_pos hbig]]
        have hd1 : decide (rest.size < sz) = true := by simp; omega
        clear hS hf
        go_enter Try.func70, Try.ntmps70
        go_wp2_with (first | (go_at_call 114; refine (HR.out _).mono ?_; rintro e w0 ⟨hB0, rfl⟩; rw [HZ.out] at hB0) | (go_at_call 42; refine (HS.out w0.heap.size (w0.alloc (.cells #[.int .i64 2, .int .i64 2, .int .i64 4, .int .i64 2] 3)) (by rw [hp_al, if_pos rfl])).mono ?_; rintro e w1 ⟨hB2, vv, rfl, hRv⟩; obtain ⟨gg, cc, rfl, hg1, hg2, hcc, hcl⟩ := R_ints hRv (by simp); have v3 := hcl 3 _ rfl; have hs0 := hB0.size; rw [HZ.out] at hs0; have hB1 : Below (w.heap.size + 1) (w.alloc (.cells noRec.cells 78)) w1 := (hB0.alloc hs0 _).trans (hB2.mono (by rw [sz_al]; omega)); have hr1 := HC.out _ hB1; obtain ⟨c0, c1, c2, c3, c4⟩ := rec_cells hr1; have q0 := froz_at (o := 0) hr1; have q1 := froz_at (o := 1) hr1; have q2 := froz_at (o := 2) hr1; have q3 := froz_at (o := 3) hr1; have q4 := froz_at (o := 4) hr1))
        refine bodyPost_ret (v := .tuple #[noRec.val, .int .i64 0, .int .i64 2]) (by simp [results, Try.results70, go_sem, c0, c1, c2, c3, c4]) rfl ⟨?_, rfl⟩
        exact (HBL.out _ hB1).trans ((set5_fr _ _ noRec).to_below (HBL.out _ hB1).size (fun k hk => by omega))
      · have hh : headR msg nx = some (t, c, tt, sz, msg.size - rest.size) := by unfold headR; rw [hf]; exact if_neg hbig
        have hd1 : decide (rest.size < sz) = false := by simp; omega
        obtain ⟨fr, hfr2⟩ : ∃ fr, fr = msg.size - rest.size := ⟨_, rfl⟩
        rw [← hfr2] at hh
        have hfrI : (msg.size : Int) - (rest.size : Int) = (fr : Int) := by omega
        have hin : fr + sz ≤ msg.size := by omega
        have hwt : wrap64 (t : Int) = (t : Int) := w64_in _ (by omega)
        have hwc : wrap64 (c : Int) = (c : Int) := w64_in _ (by omega)
        have hwtt : wrap64 (tt : Int) = (tt : Int) := w64_in _ (by omega)
        have hws : wrap64 (sz : Int) = (sz : Int) := w64_in _ (by omega)
        have hd3 : decide (msg.size < fr + sz) = false := by simp; omega
        have hd4 : decide (fr + sz < fr) = false := by simp
        have hD := fun w => ReadD_any msg fr sz t w hin hb
        obtain ⟨ttl, httl⟩ : ∃ ttl : Int, ttl = if 2147483647 < tt then 0 else (tt : Int) := ⟨_, rfl⟩
        have hro : recOf msg n (t, c, tt, sz, fr) = ⟨n, t, c, ttl, msg.extract fr (fr + sz)⟩ := by rw [httl]; rfl
        have hO : readR2 msg n nx = if typedB ⟨n, t, c, ttl, msg.extract fr (fr + sz)⟩ then (readD msg fr sz t).map fun d => (⟨n, t, c, ttl, d⟩, fr + sz) else some (⟨n, t, c, ttl, msg.extract fr (fr + sz)⟩, fr + sz) := by
          unfold readR2
          rw [hh]
          dsimp only
          rw [hro]
        generalize readR2 msg n nx = O at *
        have HT := Lib.hid httl
        have HO := Lib.hid hO
        clear hro httl hO hS hf hh
        go_enter Try.func70, Try.ntmps70
        go_upto_region 7 with (first | (go_at_call 114; refine (HR.out _).mono ?_; rintro e w0 ⟨hB0, rfl⟩; rw [HZ.out] at hB0) | (go_at_call 42; refine (HS.out w0.heap.size (w0.alloc (.cells #[.int .i64 2, .int .i64 2, .int .i64 4, .int .i64 2] 3)) (by rw [hp_al, if_pos rfl])).mono ?_; rintro e w1 ⟨hB2, vv, rfl, hRv⟩; obtain ⟨gg, cc, rfl, hg1, hg2, hcc, hcl⟩ := R_ints hRv (by simp); have v0 := hcl 0 _ rfl; have v1 := hcl 1 _ rfl; have v2 := hcl 2 _ rfl; have v3 := hcl 3 _ rfl; have hs0 := hB0.size; rw [HZ.out] at hs0; have hB1 : Below (w.heap.size + 1) (w.alloc (.cells noRec.cells 78)) w1 := (hB0.alloc hs0 _).trans (hB2.mono (by rw [sz_al]; omega)); clear hcl hRv))
        go_cut [12] (fun s12 wx => ∃ p : Nat, s12 = .pointer (some ⟨p, 0, none⟩) ∧ RdAt w p ⟨n, t, c, tt, ⟨#[]⟩⟩ wx ∧ wx.cell? ⟨gg, 3, none⟩ = some (.int .u64 (sz : Int)) ∧ ¬ gg = p)
        case first =>
          have u0 : w1.drew.cell? ⟨gg, 0, none⟩ = some (.int .u64 (t : Int)) := v0
          have u1 : w1.drew.cell? ⟨gg, 1, none⟩ = some (.int .u64 (c : Int)) := v1
          have u2 : w1.drew.cell? ⟨gg, 2, none⟩ = some (.int .u64 (tt : Int)) := v2
          refine start_ (n := 16) (S := fun w' => w'.cell? ⟨gg, 0, none⟩ = some (.int .u64 (t : Int)) ∧ w'.cell? ⟨gg, 1, none⟩ = some (.int .u64 (c : Int)) ∧ w'.cell? ⟨gg, 2, none⟩ = some (.int .u64 (tt : Int))) (ds := [15]) #[false, false, false, false, false, false, false, false, false, false, false, false, false, false, false, false] (by kernel_rfl) rfl rfl ⟨u0, u1, u2⟩ (fun hHeld => ?_)
          refine pure_ (i := 0) (N := some 47) (v := ?_) (a' := ?_) #[true, false, false, false, false, false, false, false, false, false, false, false, false, false, false, false] rfl rfl (by kernel_rfl) (fun _ _ _ h => h) (Or.inl ⟨by rfl, ?_⟩) ?_ ?_
          rotate_left
          · intro w'
            go_simp
            with_reducible rfl
          rotate_left
          · simp only [Act.put, List.setIfInBounds_toArray, List.set_cons_zero, List.set_cons_succ, i64_w, i32_w]
            rfl
          refine pure_ (i := 1) (N := some 48) (v := ?_) (a' := ?_) #[true, true, false, false, false, false, false, false, false, false, false, false, false, false, false, false] rfl rfl (by kernel_rfl) (fun _ _ _ h => h) (Or.inl ⟨by rfl, ?_⟩) ?_ ?_
          rotate_left
          · intro w'
            go_simp
            with_reducible rfl
          rotate_left
          · simp only [Act.put, List.setIfInBounds_toArray, List.set_cons_zero, List.set_cons_succ, i64_w, i32_w]
            rfl
          refine pure_ (i := 2) (N := some 49) (v := ?_) (a' := ?_) #[true, true, true, false, false, false, false, false, false, false, false, false, false, false, false, false] rfl rfl (by kernel_rfl) (fun _ _ _ h => h) (Or.inl ⟨by rfl, ?_⟩) ?_ ?_
          rotate_left
          · intro w'
            go_simp
            with_reducible rfl
          rotate_left
          · simp only [Act.put, List.setIfInBounds_toArray, List.set_cons_zero, List.set_cons_succ, i64_w, i32_w]
            rfl
          refine pure_ (i := 5) (N := some 52) (v := ?_) (a' := ?_) #[true, true, true, false, false, true, false, false, false, false, false, false, false, false, false, false] rfl rfl (by kernel_rfl) (fun _ _ _ h => h) (Or.inl ⟨by rfl, ?_⟩) ?_ ?_
          rotate_left
          · intro w'
            go_simp
            with_reducible rfl
          rotate_left
          · simp only [Act.put, List.setIfInBounds_toArray, List.set_cons_zero, List.set_cons_succ, i64_w, i32_w]
            rfl
          refine pure_ (i := 6) (N := some 53) (v := ?_) (a' := ?_) #[true, true, true, false, false, true, true, false, false, false, false, false, false, false, false, false] rfl rfl (by kernel_rfl) (fun _ _ _ h => h) (Or.inl ⟨by rfl, ?_⟩) ?_ ?_
          rotate_left
          · intro w'
            go_simp
            with_reducible rfl
          rotate_left
          · simp only [Act.put, List.setIfInBounds_toArray, List.set_cons_zero, List.set_cons_succ, i64_w, i32_w]
            rfl
          refine pure_ (i := 9) (N := some 56) (v := ?_) (a' := ?_) #[true, true, true, false, false, true, true, false, false, true, false, false, false, false, false, false] rfl rfl (by kernel_rfl) (fun _ _ _ h => h) (Or.inl ⟨by rfl, ?_⟩) ?_ ?_
          rotate_left
          · intro w'
            go_simp
            with_reducible rfl
          rotate_left
          · simp only [Act.put, List.setIfInBounds_toArray, List.set_cons_zero, List.set_cons_succ, i64_w, i32_w]
            rfl
          refine pure_ (i := 10) (N := some 57) (v := ?_) (a' := ?_) #[true, true, true, false, false, true, true, false, false, true, true, false, false, false, false, false] rfl rfl (by kernel_rfl) (fun _ _ _ h => h) (Or.inl ⟨by rfl, ?_⟩) ?_ ?_
          rotate_left
          · intro w'
            go_simp
            with_reducible rfl
          rotate_left
          · simp only [Act.put, List.setIfInBounds_toArray, List.set_cons_zero, List.set_cons_succ, i64_w, i32_w]
            rfl
          refine take_ (i := 3) (N := some 50) (v := ?_) (a' := ?_) #[true, true, true, true, false, true, true, false, false, true, true, false, false, false, false, false] rfl rfl (by kernel_rfl) (fun _ _ _ h => h) (Or.inl ⟨by rfl, ?_⟩) hHeld ?_ ?_
          rotate_left
          · rintro w' ⟨s0, s1, s2⟩
            go_simp
            with_reducible rfl
          rotate_left
          · simp only [Act.put, List.setIfInBounds_toArray, List.set_cons_zero, List.set_cons_succ, i64_w, i32_w]
            rfl
          refine pure_ (i := 4) (N := some 51) (v := ?_) (a' := ?_) #[true, true, true, true, true, true, true, false, false, true, true, false, false, false, false, false] rfl rfl (by kernel_rfl) (fun _ _ _ h => h) (Or.inl ⟨by rfl, ?_⟩) ?_ ?_
          rotate_left
          · intro w'
            go_simp
            with_reducible rfl
          rotate_left
          · simp only [Act.put, List.setIfInBounds_toArray, List.set_cons_zero, List.set_cons_succ, i64_w, i32_w]
            rfl
          refine take_ (i := 7) (N := some 54) (v := ?_) (a' := ?_) #[true, true, true, true, true, true, true, true, false, true, true, false, false, false, false, false] rfl rfl (by kernel_rfl) (fun _ _ _ h => h) (Or.inl ⟨by rfl, ?_⟩) hHeld ?_ ?_
          rotate_left
          · rintro w' ⟨s0, s1, s2⟩
            go_simp
            with_reducible rfl
          rotate_left
          · simp only [Act.put, List.setIfInBounds_toArray, List.set_cons_zero, List.set_cons_succ, i64_w, i32_w]
            rfl
          refine pure_ (i := 8) (N := some 55) (v := ?_) (a' := ?_) #[true, true, true, true, true, true, true, true, true, true, true, false, false, false, false, false] rfl rfl (by kernel_rfl) (fun _ _ _ h => h) (Or.inl ⟨by rfl, ?_⟩) ?_ ?_
          rotate_left
          · intro w'
            go_simp
            with_reducible rfl
          rotate_left
          · simp only [Act.put, List.setIfInBounds_toArray, List.set_cons_zero, List.set_cons_succ, i64_w, i32_w]
            rfl
          refine take_ (i := 11) (N := some 58) (v := ?_) (a' := ?_) #[true, true, true, true, true, true, true, true, true, true, true, true, false, false, false, false] rfl rfl (by kernel_rfl) (fun _ _ _ h => h) (Or.inl ⟨by rfl, ?_⟩) hHeld ?_ ?_
          rotate_left
          · rintro w' ⟨s0, s1, s2⟩
            go_simp
            with_reducible rfl
          rotate_left
          · simp only [Act.put, List.setIfInBounds_toArray, List.set_cons_zero, List.set_cons_succ, i64_w, i32_w]
            rfl
          refine pure_ (i := 12) (N := some 59) (v := ?_) (a' := ?_) #[true, true, true, true, true, true, true, true, true, true, true, true, true, false, false, false] rfl rfl (by kernel_rfl) (fun _ _ _ h => h) (Or.inl ⟨by rfl, ?_⟩) ?_ ?_
          rotate_left
          · intro w'
            go_simp
            with_reducible rfl
          rotate_left
          · simp only [Act.put, List.setIfInBounds_toArray, List.set_cons_zero, List.set_cons_succ, i64_w, i32_w]
            rfl
          refine pure_ (i := 13) (N := some 60) (v := ?_) (a' := ?_) #[true, true, true, true, true, true, true, true, true, true, true, true, true, true, false, false] rfl rfl (by kernel_rfl) (fun _ _ _ h => h) (Or.inl ⟨by rfl, ?_⟩) ?_ ?_
          rotate_left
          · intro w'
            go_simp
            with_reducible rfl
          rotate_left
          · simp only [Act.put, List.setIfInBounds_toArray, List.set_cons_zero, List.set_cons_succ, i64_w, i32_w]
            rfl
          refine one_ (i := 14) (N := some 12) #[true, true, true, true, true, true, true, true, true, true, true, true, true, true, true, false] rfl rfl (by kernel_rfl) (by decide) (fun K hK => ?_)
          refine value_ (w1 := ?_) (v := ?_) (by rfl) rfl ?_ ?_
          rotate_left 2
          · go_simp
            constructor
            · rfl
            · rfl
          refine hK.out _ _ ⟨(cell_al hHeld.1 _), (cell_al hHeld.2.1 _), (cell_al hHeld.2.2 _)⟩ (fun hHeld => ?_)
          clear hK K
          refine norm_ (a' := ?_) ?_ ?_
          rotate_left
          · show Act.put _ (some 12) _ = _
            simp only [Act.put, List.setIfInBounds_toArray, List.set_cons_zero, List.set_cons_succ, i64_w, i32_w]
            rfl
          refine last_ (i := 15) (N := none) #[true, true, true, true, true, true, true, true, true, true, true, true, true, true, true, true] rfl rfl (by kernel_rfl) (by decide) (fun K hK => ?_)
          refine skip_ (w1 := ?_) (by rfl) rfl ?_ ?_
          rotate_left
          · go_simp
            rfl
          refine hK.out _ _ ?_
          clear hK K
          refine done_ (by kernel_rfl) ?_
          go_wp2_with fail
          go_meet
          exact ⟨w1.heap.size, rfl, rdAt_new ⟨n, t, c, tt, ⟨#[]⟩⟩ hB1, cell_al (o := .cells (RRec.mk n t c tt ⟨#[]⟩).cells 78) v3, by omega⟩
        case rest =>
          obtain ⟨p, rfl, hRd, hv3, hgp⟩ := hcut
          clear hB0 hB1 hB2 v0 v1 v2 v3 hg1 hg2 hcc hs0 hbig
          obtain ⟨c0, c1, c2, c3, c4⟩ := rec_cellsM hRd.2.2.1
          have q3 := froz_at (o := 3) hRd.2.2.1
          have httl := HT.out
          clear HT
          go_upto_if 63 with fail
          go_cut [] (fun wx => RdAt w p ⟨n, t, c, ttl, ⟨#[]⟩⟩ wx ∧ wx.cell? ⟨gg, 3, none⟩ = some (.int .u64 (sz : Int)))
          case first =>
            by_cases htl : 2147483647 < tt
            · have hdt : decide ((2147483647 : Int) < (tt : Int)) = true := big_lt htl
              rw [if_pos htl] at httl
              subst httl
              have HR' := Lib.hid (hRd.set3 0)
              have HV := Lib.hid (hRd.cell3 (v3 := .int .i64 0) hgp hv3)
              have hI : (2147483647 : Int) < (tt : Int) := Int.ofNat_lt.2 htl
              clear htl hRd hv3
              go_wp2_with fail
              all_goals first | exact absurd ‹(tt : Int) ≤ 2147483647› (Int.not_le.2 hI) | (go_meet; exact ⟨HR'.out, HV.out⟩)
            · have hdt : decide ((2147483647 : Int) < (tt : Int)) = false := big_le htl
              rw [if_neg htl] at httl
              subst httl
              have HR' := Lib.hid hRd
              have HV := Lib.hid hv3
              have hI : ¬ (2147483647 : Int) < (tt : Int) := fun h => htl (Int.ofNat_lt.1 h)
              clear htl hRd hv3
              go_wp2_with fail
              all_goals first | exact absurd ‹(2147483647 : Int) < (tt : Int)› hI | (go_meet; exact ⟨HR'.out, HV.out⟩)
          case rest =>
            obtain ⟨hRt, hvt⟩ := hcut
            clear hRd hv3 c0 c1 c2 c3 c4 q3
            have hv4 : wc.drew.cell? ⟨gg, 3, none⟩ = some (.int .u64 (sz : Int)) := hvt
            clear httl
            go_upto_region 10 with fail
            go_cut [13, 14] (fun s13 s14 wx => s13 = .int .i64 (fr : Int) ∧ s14 = .int .i64 (sz : Int) ∧ RdAt w p ⟨n, t, c, ttl, ⟨#[]⟩⟩ wx)
            case first =>
              refine start_ (n := 11) (S := fun w' => w'.cell? ⟨gg, 3, none⟩ = some (.int .u64 (sz : Int))) (ds := []) #[false, false, false, false, false, false, false, false, false, false, false] (by kernel_rfl) rfl rfl (hv4) (fun hHeld => ?_)
              refine pure_ (i := 0) (N := some 65) (v := ?_) (a' := ?_) #[true, false, false, false, false, false, false, false, false, false, false] rfl rfl (by kernel_rfl) (fun _ _ _ h => h) (Or.inl ⟨by rfl, ?_⟩) ?_ ?_
              rotate_left
              · intro w'
                go_simp
                with_reducible rfl
              rotate_left
              · simp only [Act.put, List.setIfInBounds_toArray, List.set_cons_zero, List.set_cons_succ, i64_w, i32_w]
                rfl
              refine pure_ (i := 1) (N := some 66) (v := ?_) (a' := ?_) #[true, true, false, false, false, false, false, false, false, false, false] rfl rfl (by kernel_rfl) (fun _ _ _ h => h) (Or.inl ⟨by rfl, ?_⟩) ?_ ?_
              rotate_left
              · intro w'
                go_simp
                with_reducible rfl
              rotate_left
              · simp only [Act.put, List.setIfInBounds_toArray, List.set_cons_zero, List.set_cons_succ, i64_w, i32_w]
                rfl
              refine pure_ (i := 2) (N := some 67) (v := ?_) (a' := ?_) #[true, true, true, false, false, false, false, false, false, false, false] rfl rfl (by kernel_rfl) (fun _ _ _ h => h) (Or.inl ⟨by rfl, ?_⟩) ?_ ?_
              rotate_left
              · intro w'
                go_simp
                with_reducible rfl
              rotate_left
              · simp only [Act.put, List.setIfInBounds_toArray, List.set_cons_zero, List.set_cons_succ, i64_w, i32_w]
                rfl
              refine pure_ (i := 3) (N := some 68) (v := ?_) (a' := ?_) #[true, true, true, true, false, false, false, false, false, false, false] rfl rfl (by kernel_rfl) (fun _ _ _ h => h) (Or.inl ⟨by rfl, ?_⟩) ?_ ?_
              rotate_left
              · intro w'
                go_simp
                with_reducible rfl
              rotate_left
              · simp only [Act.put, List.setIfInBounds_toArray, List.set_cons_zero, List.set_cons_succ, i64_w, i32_w]
                rfl
              refine pure_ (i := 4) (N := some 69) (v := ?_) (a' := ?_) #[true, true, true, true, true, false, false, false, false, false, false] rfl rfl (by kernel_rfl) (fun _ _ _ h => h) (Or.inl ⟨by rfl, ?_⟩) ?_ ?_
              rotate_left
              · intro w'
                go_simp
                with_reducible rfl
              rotate_left
              · simp only [Act.put, List.setIfInBounds_toArray, List.set_cons_zero, List.set_cons_succ, i64_w, i32_w]
                rfl
              refine pure_ (i := 5) (N := some 70) (v := ?_) (a' := ?_) #[true, true, true, true, true, true, false, false, false, false, false] rfl rfl (by kernel_rfl) (fun _ _ _ h => h) (Or.inl ⟨by rfl, ?_⟩) ?_ ?_
              rotate_left
              · intro w'
                go_simp
                with_reducible rfl
              rotate_left
              · simp only [Act.put, List.setIfInBounds_toArray, List.set_cons_zero, List.set_cons_succ, i64_w, i32_w]
                rfl
              refine pure_ (i := 6) (N := some 71) (v := ?_) (a' := ?_) #[true, true, true, true, true, true, true, false, false, false, false] rfl rfl (by kernel_rfl) (fun _ _ _ h => h) (Or.inl ⟨by rfl, ?_⟩) ?_ ?_
              rotate_left
              · intro w'
                go_simp
                with_reducible rfl
              rotate_left
              · simp only [Act.put, List.setIfInBounds_toArray, List.set_cons_zero, List.set_cons_succ, i64_w, i32_w]
                rfl
              refine pure_ (i := 9) (N := some 13) (v := ?_) (a' := ?_) #[true, true, true, true, true, true, true, false, false, true, false] rfl rfl (by kernel_rfl) (fun _ _ _ h => h) (Or.inl ⟨by rfl, ?_⟩) ?_ ?_
              rotate_left
              · intro w'
                go_simp
                with_reducible rfl
              rotate_left
              · simp only [Act.put, List.setIfInBounds_toArray, List.set_cons_zero, List.set_cons_succ, i64_w, i32_w]
                rfl
              refine take_ (i := 7) (N := some 72) (v := ?_) (a' := ?_) #[true, true, true, true, true, true, true, true, false, true, false] rfl rfl (by kernel_rfl) (fun _ _ _ h => h) (Or.inl ⟨by rfl, ?_⟩) hHeld ?_ ?_
              rotate_left
              · intro w' s0
                go_simp
                with_reducible rfl
              rotate_left
              · simp only [Act.put, List.setIfInBounds_toArray, List.set_cons_zero, List.set_cons_succ, i64_w, i32_w]
                rfl
              refine pure_ (i := 8) (N := some 73) (v := ?_) (a' := ?_) #[true, true, true, true, true, true, true, true, true, true, false] rfl rfl (by kernel_rfl) (fun _ _ _ h => h) (Or.inl ⟨by rfl, ?_⟩) ?_ ?_
              rotate_left
              · intro w'
                go_simp
                with_reducible rfl
              rotate_left
              · simp only [Act.put, List.setIfInBounds_toArray, List.set_cons_zero, List.set_cons_succ, i64_w, i32_w]
                rfl
              refine pure_ (i := 10) (N := some 14) (v := ?_) (a' := ?_) #[true, true, true, true, true, true, true, true, true, true, true] rfl rfl (by kernel_rfl) (fun _ _ _ h => h) (Or.inl ⟨by rfl, ?_⟩) ?_ ?_
              rotate_left
              · intro w'
                go_simp
                with_reducible rfl
              rotate_left
              · simp only [Act.put, List.setIfInBounds_toArray, List.set_cons_zero, List.set_cons_succ, i64_w, i32_w]
                rfl
              refine done_ (by kernel_rfl) ?_
              rw [fr_wrap hfr2 hb]
              have HR' := Lib.hid hRt.drew
              clear hRt hvt hv4 hHeld
              go_wp2_with fail
              go_meet
              exact ⟨rfl, rfl, HR'.out⟩
            case rest =>
              obtain ⟨rfl, rfl, hRu⟩ := hcut
              clear hRt hvt hv4
              have q4 := froz_at (o := 4) hRu.2.2.1
              obtain ⟨c0, c1, c2, c3, c4⟩ := rec_cellsM hRu.2.2.1
              have hRs := hRu.set4 (msg.extract fr (fr + sz))
              obtain ⟨ds, hds⟩ : ∃ ds, ds = msg.extract fr (fr + sz) := ⟨_, rfl⟩
              rw [← hds] at hRs
              have HDS := Lib.hid hds
              clear hds hfr hon hd0 hsz HR HS hd1 hfr2 hfrI hwt hwc hwtt hws hrs ht hc htt hszb hgp HZ HC HBL
              have HRS := Lib.hid hRs
              clear hRs
              go_upto_region 12 with fail
              rw [← HDS.out]
              have hW := HRS.out
              generalize wc.setCell ⟨p, 4, none⟩ (.string ds) = W at *
              clear hRu q4 c0 c1 c2 c3 c4 HRS
              obtain ⟨c0, c1, c2, c3, c4⟩ := rec_cellsM hW.2.2.1
              have hT := typed_any ⟨n, t, c, ttl, ds⟩ W
              have HW := Lib.hid hW
              clear hW
              cases htb : typedB ⟨n, t, c, ttl, ds⟩ with
              | false =>
                have hO2 : O = some (⟨n, t, c, ttl, ds⟩, fr + sz) := by
                  rw [HO.out, ← HDS.out, htb]
                  rfl
                rw [htb] at hT
                have HT := Lib.hid hT
                have HO2 := Lib.hid hO2
                clear hT htb hD HO hO2 HDS
                go_wp2_with (go_at_call 115; refine HT.out.mono ?_; rintro e w9 ⟨rfl, hB9⟩; have h9 := HW.out.below hB9; clear c0 c1 c2 c3 c4; obtain ⟨x0, x1, x2, x3, x4⟩ := rec_cellsM h9.2.2.1; obtain ⟨y0, y1, y2, y3, y4⟩ := rec_cellsM h9.2.2.2; have z0 := froz_at (o := 0) h9.2.2.2; have z1 := froz_at (o := 1) h9.2.2.2; have z2 := froz_at (o := 2) h9.2.2.2; have z3 := froz_at (o := 3) h9.2.2.2; have z4 := froz_at (o := 4) h9.2.2.2)
                refine bodyPost_ret (v := .tuple #[(RRec.mk n t c ttl ds).val, .int .i64 ((fr + sz : Nat) : Int), .int .i64 0]) (by simp [results, Try.results70, go_sem, y0, y1, y2, y3, y4]) rfl ⟨?_, by rw [HO2.out]⟩
                exact h9.2.1.trans ((set5_fr _ _ ⟨n, t, c, ttl, ds⟩).to_below h9.2.1.size (fun k hk e => by subst e; exact Nat.lt_irrefl _ hk))
              | true =>
                rw [htb] at hT
                have HT := Lib.hid hT
                cases hdo : readD msg fr sz t with
                | none =>
                  have hO2 : O = none := by
                    rw [HO.out, ← HDS.out, htb, hdo]
                    rfl
                  rw [hdo] at hD
                  have HD := Lib.hid hD
                  have HO2 := Lib.hid hO2
                  clear hT htb hD HO hO2 HDS hdo
                  go_upto_region 14 with (first | (go_at_call 115; refine HT.out.mono ?_; rintro e w9 ⟨rfl, hB9⟩; have h9 := HW.out.below hB9; obtain ⟨x0, x1, x2, x3, x4⟩ := rec_cellsM h9.2.2.1) | (go_at_call 116; refine (HD.out _).mono ?_; rintro e wA ⟨hBA, rfl⟩; have hA := h9.below hBA; have hS := hA.set4 ⟨#[]⟩; clear x0 x1 x2 x3 x4; obtain ⟨x0, x1, x2, x3, x4⟩ := rec_cellsM hA.2.2.1; have f4 := froz_at (o := 4) hA.2.2.1))
                  have HS := Lib.hid hS
                  clear hS
                  generalize wA.setCell ⟨p, 4, none⟩ (.string ⟨#[]⟩) = WB at *
                  have hS := HS.out
                  clear x0 x1 x2 x3 x4 f4 hA h9 hBA hB9 c0 c1 c2 c3 c4
                  obtain ⟨x0, x1, x2, x3, x4⟩ := rec_cellsM hS.2.2.1
                  obtain ⟨y0, y1, y2, y3, y4⟩ := rec_cellsM hS.2.2.2
                  have z0 := froz_at (o := 0) hS.2.2.2
                  have z1 := froz_at (o := 1) hS.2.2.2
                  have z2 := froz_at (o := 2) hS.2.2.2
                  have z3 := froz_at (o := 3) hS.2.2.2
                  have z4 := froz_at (o := 4) hS.2.2.2
                  clear hS
                  go_wp2
                  have hS := HS.out
                  refine bodyPost_ret (v := .tuple #[noRec.val, .int .i64 0, .int .i64 2]) (by simp [results, Try.results70, go_sem, y0, y1, y2, y3, y4]) rfl ⟨?_, by rw [HO2.out]⟩
                  exact hS.2.1.trans ((set5_fr _ _ noRec).to_below hS.2.1.size (fun k hk e => by subst e; exact Nat.lt_irrefl _ hk))
                | some d =>
                  have hO2 : O = some (⟨n, t, c, ttl, d⟩, fr + sz) := by
                    rw [HO.out, ← HDS.out, htb, hdo]
                    rfl
                  rw [hdo] at hD
                  have HD := Lib.hid hD
                  have HO2 := Lib.hid hO2
                  clear hT htb hD HO hO2 HDS hdo
                  go_upto_region 14 with (first | (go_at_call 115; refine HT.out.mono ?_; rintro e w9 ⟨rfl, hB9⟩; have h9 := HW.out.below hB9; obtain ⟨x0, x1, x2, x3, x4⟩ := rec_cellsM h9.2.2.1) | (go_at_call 116; refine (HD.out _).mono ?_; rintro e wA ⟨hBA, rfl⟩; have hA := h9.below hBA; have hS := hA.set4 d; clear x0 x1 x2 x3 x4; obtain ⟨x0, x1, x2, x3, x4⟩ := rec_cellsM hA.2.2.1; have f4 := froz_at (o := 4) hA.2.2.1))
                  have HS := Lib.hid hS
                  clear hS
                  generalize wA.setCell ⟨p, 4, none⟩ (.string d) = WB at *
                  have hS := HS.out
                  clear x0 x1 x2 x3 x4 f4 hA h9 hBA hB9 c0 c1 c2 c3 c4
                  obtain ⟨x0, x1, x2, x3, x4⟩ := rec_cellsM hS.2.2.1
                  obtain ⟨y0, y1, y2, y3, y4⟩ := rec_cellsM hS.2.2.2
                  have z0 := froz_at (o := 0) hS.2.2.2
                  have z1 := froz_at (o := 1) hS.2.2.2
                  have z2 := froz_at (o := 2) hS.2.2.2
                  have z3 := froz_at (o := 3) hS.2.2.2
                  have z4 := froz_at (o := 4) hS.2.2.2
                  clear hS
                  go_wp2
                  have hS := HS.out
                  refine bodyPost_ret (v := .tuple #[(RRec.mk n t c ttl d).val, .int .i64 ((fr + sz : Nat) : Int), .int .i64 0]) (by simp [results, Try.results70, go_sem, y0, y1, y2, y3, y4]) rfl ⟨?_, by rw [HO2.out]⟩
                  exact hS.2.1.trans ((set5_fr _ _ ⟨n, t, c, ttl, d⟩).to_below hS.2.1.size (fun k hk e => by subst e; exact Nat.lt_irrefl _ hk))
end Go.Proofs.Ytajdlgbhofdafaa
