/- The document's answers that the laws of entries and messages ask, as the kit's print tool has printed them for this seat. -/
import Derived.Test.YtajdlgbhofdafaaProg
import Derived.Below
import Derived.Tactics
import Derived.Lib.ConvBytes
import Derived.WalkKit
import Derived.KernelRfl
import Derived.RowKit
import Derived.Deep.Draws
import Derived.Deep.AppendLies
import Derived.Maps.AppendAt
import Derived.OwnWalk
import Derived.Laws.BytesArg
import Derived.Laws.MakeOwn
import Derived.Laws.OwnMore
import Derived.Deep.OwnRows
import Derived.Laws.Slices
import Derived.RowKit3
import Derived.Deep.LoopGhost
import Derived.Deep.QuietTactic
import Derived.BigQuiet
import Derived.WideLaws
import Derived.Deep.DeepCutAuto
import Derived.Deep.CutBlock
import Derived.Deep.RegionHeld3
import Derived.Laws.Rows
import Derived.Lib.AppendStr
import Derived.ArgAppend
import Derived.Laws.IdiomCopy
import Derived.OrdersHeld
import Derived.Laws.BitsLemmas
import Derived.Test.YtajdlgbhofdafaaLittle
namespace Go.Proofs.Ytajdlgbhofdafaa.Rf
open Go.RowKit Go.Proofs.YtajdlgbhofdafaaW.PrintWords Go.Proofs.YtajdlgbhofdafaaW.PrintLast Go.Proofs.YtajdlgbhofdafaaW.PrintMore
set_option linter.unusedVariables false
set_option linter.unusedSimpArgs false
def errW : Option Int → Value
  | none => .nilIface
  | some c => .iface 0 (.int .i64 c)
theorem errW_none : errW none = .nilIface := rfl
theorem errW_some (c : Int) : errW (some c) = .iface 0 (.int .i64 c) := rfl

theorem info3 : (Try.prog.info? 3).map (fun i => (i.zero, i.size, i.bytes)) = some (some (.int .i64 0), 1, 8) := by kernel_rfl
theorem info5 : (Try.prog.info? 5).map (fun i => (i.zero, i.size, i.bytes)) = some (some (.int .u8 0), 1, 1) := by kernel_rfl
theorem info9 : (Try.prog.info? 9).map (fun i => (i.zero, i.size, i.bytes)) = some (some (.string ⟨#[]⟩), 1, 16) := by kernel_rfl
theorem info78 : (Try.prog.info? 78).map (fun i => (i.zero, i.size, i.bytes)) = some (some (.agg #[(.string ⟨#[]⟩), (.int .i64 0), (.int .i64 0), (.int .i64 0), (.string ⟨#[]⟩)]), 5, 56) := by kernel_rfl
-- the values' own types
/-! #### struct type 78 -/
structure S78 where
  f0 : ByteArray
  f1 : Int
  f2 : Int
  f3 : Int
  f4 : ByteArray
def z78 : S78 := ⟨(⟨#[]⟩ : ByteArray), (0 : Int), (0 : Int), (0 : Int), (⟨#[]⟩ : ByteArray)⟩
def k78 : Kd S78 := Kd.iso (Kd.pair Kd.string (Kd.pair (Kd.int .i64) (Kd.pair (Kd.int .i64) (Kd.pair (Kd.int .i64) Kd.string)))) (fun x : S78 => (x.f0, x.f1, x.f2, x.f3, x.f4))
theorem k78_open {w : World} {x : S78} {cs : List Value} (h : k78.K w x cs) : cs = [.string x.f0, .int .i64 x.f1, .int .i64 x.f2, .int .i64 x.f3, .string x.f4] := by
  obtain ⟨_, _, rfl, rfl, ⟨_, _, rfl, rfl, ⟨_, _, rfl, rfl, ⟨_, _, rfl, rfl, rfl⟩⟩⟩⟩ := h
  exact rfl
theorem k78_openM {w : World} {base : Nat} {ok : Nat → Prop} {x : S78} {cs : List Value} (h : k78.M w base ok x cs) : cs = [.string x.f0, .int .i64 x.f1, .int .i64 x.f2, .int .i64 x.f3, .string x.f4] := by
  obtain ⟨_, _, rfl, rfl, ⟨_, _, rfl, rfl, ⟨_, _, rfl, rfl, ⟨_, _, rfl, rfl, rfl⟩⟩⟩⟩ := h
  exact rfl
theorem k78_mk (w : World) (x : S78)  : k78.K w x [.string x.f0, .int .i64 x.f1, .int .i64 x.f2, .int .i64 x.f3, .string x.f4] := ⟨[.string x.f0], [.int .i64 x.f1, .int .i64 x.f2, .int .i64 x.f3, .string x.f4], rfl, rfl, ⟨[.int .i64 x.f1], [.int .i64 x.f2, .int .i64 x.f3, .string x.f4], rfl, rfl, ⟨[.int .i64 x.f2], [.int .i64 x.f3, .string x.f4], rfl, rfl, ⟨[.int .i64 x.f3], [.string x.f4], rfl, rfl, rfl⟩⟩⟩⟩
theorem k78_mkM (w : World) (base : Nat) (ok : Nat → Prop) (x : S78)  : k78.M w base ok x [.string x.f0, .int .i64 x.f1, .int .i64 x.f2, .int .i64 x.f3, .string x.f4] := ⟨[.string x.f0], [.int .i64 x.f1, .int .i64 x.f2, .int .i64 x.f3, .string x.f4], rfl, rfl, ⟨[.int .i64 x.f1], [.int .i64 x.f2, .int .i64 x.f3, .string x.f4], rfl, rfl, ⟨[.int .i64 x.f2], [.int .i64 x.f3, .string x.f4], rfl, rfl, ⟨[.int .i64 x.f3], [.string x.f4], rfl, rfl, rfl⟩⟩⟩⟩
def rd_T78 (xs : List S78) (i : Int) : S78 := xs.getD i.toNat z78
theorem at_T78 {w : World} {A : Option Addr} {n : Nat} {xs : List S78} (h : Kd.C k78 w A n xs) (i : Int) (h0 : 0 ≤ i) (h1 : i < n) : ∃ ad , A = some ad ∧ w.cell? (ad.add (i.toNat * 5)) = some (.string (rd_T78 xs i).f0) ∧ w.cell? ⟨(ad.add (i.toNat * 5)).block, (ad.add (i.toNat * 5)).off + 1, none⟩ = some (.int .i64 (rd_T78 xs i).f1) ∧ w.cell? ⟨(ad.add (i.toNat * 5)).block, (ad.add (i.toNat * 5)).off + 2, none⟩ = some (.int .i64 (rd_T78 xs i).f2) ∧ w.cell? ⟨(ad.add (i.toNat * 5)).block, (ad.add (i.toNat * 5)).off + 3, none⟩ = some (.int .i64 (rd_T78 xs i).f3) ∧ w.cell? ⟨(ad.add (i.toNat * 5)).block, (ad.add (i.toNat * 5)).off + 4, none⟩ = some (.string (rd_T78 xs i).f4) := by
  obtain ⟨ad, c, e, _, hK, hc0⟩ := Kd.C_get h z78 i h0 h1
  have hc : ∀ j u, c[j]? = some u → w.cell? (ad.add (i.toNat * 5 + j)) = some u := hc0
  obtain rfl := k78_open hK
  exact ⟨ad, e, hc 0 _ rfl, by rw [← add_field _ _ 1 (by omega)]; exact hc 1 _ rfl, by rw [← add_field _ _ 2 (by omega)]; exact hc 2 _ rfl, by rw [← add_field _ _ 3 (by omega)]; exact hc 3 _ rfl, by rw [← add_field _ _ 4 (by omega)]; exact hc 4 _ rfl⟩

def rd_L5 (xs : List (List S78)) (i : Int) : (List S78) := xs.getD i.toNat ([] : List S78)
theorem at_L5 {w : World} {A : Option Addr} {n : Nat} {xs : List (List S78)} (h : Kd.C (Kd.slice 78 k78) w A n xs) (i : Int) (h0 : 0 ≤ i) (h1 : i < n) : ∃ ad A0 c0, A = some ad ∧ w.cell? (ad.add i.toNat) = some (.slice A0 (rd_L5 xs i).length c0) ∧ (rd_L5 xs i).length ≤ c0 ∧ k78.C w A0 (rd_L5 xs i).length (rd_L5 xs i) := by
  obtain ⟨ad, c, e, _, hK, hc0⟩ := Kd.C_get h ([] : List S78) i h0 h1
  have hc : ∀ j u, c[j]? = some u → w.cell? (ad.add (i.toNat * 1 + j)) = some u := hc0
  obtain ⟨A0, c0, rfl, l0, g0⟩ := hK
  exact ⟨ad, A0, c0, e, by have hq := hc 0 _ rfl; rwa [Nat.mul_one, Nat.add_zero] at hq, l0, g0⟩
theorem eqA78 (d : Nat) (w : World) (x0 y0 : ByteArray) (x1 y1 : Int) (x2 y2 : Int) (x3 y3 : Int) (x4 y4 : ByteArray) :
    (Op.equalIn (d + 2) 78 (.agg #[.string x0, .int .i64 x1, .int .i64 x2, .int .i64 x3, .string x4]) (.agg #[.string y0, .int .i64 y1, .int .i64 y2, .int .i64 y3, .string y4])).run Try.prog w = .ok (x0.toList == y0.toList && (x1 == y1 && (x2 == y2 && (x3 == y3 && (x4.toList == y4.toList))))) w := by
  refine eqA_of Try.underlying78 (by kernel_rfl) ?_
  refine eqf_cons (by rfl) (by go_simp; rfl) (by go_simp; rfl) (by go_simp) ?_
  refine eqf_cons (by rfl) (by go_simp; rfl) (by go_simp; rfl) (by go_simp) ?_
  refine eqf_cons (by rfl) (by go_simp; rfl) (by go_simp; rfl) (by go_simp) ?_
  refine eqf_cons (by rfl) (by go_simp; rfl) (by go_simp; rfl) (by go_simp) ?_
  exact eqf_last (by rfl) (by go_simp; rfl) (by go_simp; rfl) (by go_simp)
/-! ### beadrollref17_Few -/
def beadrollref17_Few.l0 : Nat → List (S78) → Int → Option (Bool)
  | 0, _, _ => none
  | k + 1, x3, x4 => if x4 < (x3.length : Int) then (if 0 ≤ x4 then (if (((rd_T78 x3 x4).f0).size : Int) > 600 then (some false) else (if (((rd_T78 x3 x4).f4).size : Int) > 2000 then (some false) else (beadrollref17_Few.l0 k x3 (wrap64 (x4 + 1))))) else (none)) else (some (decide ((x3.length : Int) ≤ 30)))
def beadrollref17_Few.f (k : Nat) (a0_0 : Int) (a0_1 : Int) (l0_2 : List (S78)) (l0_3 : List (S78)) : Option (Bool) := (some (([] : List (S78)) : List (S78))).bind fun y156 => (if y156.length + l0_2.length < 2513169434916 then ((some (y156 ++ l0_2 : List (S78))).bind fun y159 => (if y159.length + l0_3.length < 2513169434916 then (beadrollref17_Few.l0 k (y159 ++ l0_3) 0) else (none))) else (none))
theorem beadrollref17_Few.mono_l : ∀ k, (∀ y0 y1, LeO (beadrollref17_Few.l0 k y0 y1) (beadrollref17_Few.l0 (k + 1) y0 y1))
  | 0 => fun _ _ r h => by simp [beadrollref17_Few.l0] at h
  | k + 1 => by
    have ih0 := beadrollref17_Few.mono_l k
    · intro y0 y1
      unfold beadrollref17_Few.l0
      repeat' first
      | (with_reducible exact ih0 _ _)
      | (with_reducible exact LeO.refl _)
      | (with_reducible exact LeO.none _)
      | (with_reducible refine LeO.ite ?_ ?_)
      | (with_reducible refine LeO.bind ?_ (fun _ => ?_))
      | exact ih0 _ _
      | exact LeO.none _
      | refine LeO.ite ?_ ?_
      | refine LeO.bind ?_ (fun _ => ?_)
theorem beadrollref17_Few.mono : ∀ a0 a1 a2 a3 k, LeO (beadrollref17_Few.f k a0 a1 a2 a3) (beadrollref17_Few.f (k + 1) a0 a1 a2 a3) := by
  intro a0 a1 a2 a3 k
  have ih0 := beadrollref17_Few.mono_l k
  unfold beadrollref17_Few.f
  repeat' first
      | (with_reducible exact ih0 _ _)
      | (with_reducible exact LeO.refl _)
      | (with_reducible exact LeO.none _)
      | (with_reducible refine LeO.ite ?_ ?_)
      | (with_reducible refine LeO.bind ?_ (fun _ => ?_))
      | exact ih0 _ _
      | exact LeO.none _
      | refine LeO.ite ?_ ?_
      | refine LeO.bind ?_ (fun _ => ?_)
def beadrollref17_Few.T1 : Bool × List (List Nat × List Nat) := (true, [([], []), ([], []), ([1], [1]), ([0, 2], [0, 2]), ([], []), ([4], [4]), ([3, 5, 3], [3, 5]), ([6, 6, 0, 1, 2, 3, 4, 5, 6], [6])])
def beadrollref17_Few.B1 : List Nat := [0, 0, 2, 7, 0, 16, 63, 127]
theorem beadrollref17_Few.tab1 : rtab .any (opsOf Try.f11 1) = beadrollref17_Few.T1 := by kernel_rfl
theorem beadrollref17_Few.bits1 : waitsOk beadrollref17_Few.T1.2 beadrollref17_Few.B1 = true := by kernel_rfl
set_option maxHeartbeats 8000000 in
set_option maxRecDepth 100000 in
theorem beadrollref17_Few.calls (k : Nat) (a0_0 : Int) (a0_1 : Int) (A0_2 : Option Addr) (c0_2 : Nat) (l0_2 : List (S78)) (A0_3 : Option Addr) (c0_3 : Nat) (l0_3 : List (S78)) (r : Bool) (w : World) (hr0_2 : Kd.C k78 w A0_2 l0_2.length l0_2) (hc0_2 : l0_2.length ≤ c0_2) (hr0_3 : Kd.C k78 w A0_3 l0_3.length l0_3) (hc0_3 : l0_3.length ≤ c0_3) (h : beadrollref17_Few.f k a0_0 a0_1 l0_2 l0_3 = some r) :
    Calls Try.prog 11 #[.agg #[.int .u32 a0_0, .int .u32 a0_1, .slice A0_2 l0_2.length c0_2, .slice A0_3 l0_3.length c0_3]] w fun e w' => e = .returned (.bool r) ∧ Below w.heap.size w w' := by
  have hu25 := Try.underlying25
  have HR0_2 := Aside0.mk hr0_2
  have HC0_2 := Aside0.mk hc0_2
  clear hr0_2 hc0_2
  have HR0_3 := Aside0.mk hr0_3
  have HC0_3 := Aside0.mk hc0_3
  clear hr0_3 hc0_3
  have HB := Aside0.mk (Below.refl w.heap.size w)
  have H : ((some (([] : List (S78)) : List (S78))).bind fun y156 => (if y156.length + l0_2.length < 2513169434916 then ((some (y156 ++ l0_2 : List (S78))).bind fun y159 => (if y159.length + l0_3.length < 2513169434916 then (beadrollref17_Few.l0 k (y159 ++ l0_3) 0) else (none))) else (none))) = some r := h
  clear h
  obtain ⟨y156, hy156⟩ : ∃ y_ : List (S78), y_ = (([] : List (S78))) := ⟨_, rfl⟩
  replace H : (if y156.length + l0_2.length < 2513169434916 then ((some (y156 ++ l0_2 : List (S78))).bind fun y159 => (if y159.length + l0_3.length < 2513169434916 then (beadrollref17_Few.l0 k (y159 ++ l0_3) 0) else (none))) else (none)) = some r := by first | (rw [hy156]; with_reducible exact H) | (have H2_ := (Option.bind_some _ _).symm.trans H; rw [hy156]; with_reducible exact H2_) | (have H2_ := (Option.bind_some _ _).symm.trans H; with_reducible exact H2_) | with_reducible exact H | (rw [hy156]; exact H) | exact H
  have Ny156 := Aside0.mk hy156
  clear hy156
  by_cases c2 : y156.length + l0_2.length < 2513169434916
  · rw [if_pos c2] at H
    have LMc2 := Aside0.mk c2
    clear c2
    obtain ⟨y159, hy159⟩ : ∃ y_ : List (S78), y_ = (y156 ++ l0_2) := ⟨_, rfl⟩
    replace H : (if y159.length + l0_3.length < 2513169434916 then (beadrollref17_Few.l0 k (y159 ++ l0_3) 0) else (none)) = some r := by first | (rw [hy159]; with_reducible exact H) | (have H2_ := (Option.bind_some _ _).symm.trans H; rw [hy159]; with_reducible exact H2_) | (have H2_ := (Option.bind_some _ _).symm.trans H; with_reducible exact H2_) | with_reducible exact H | (rw [hy159]; exact H) | exact H
    have Ny159 := Aside0.mk hy159
    clear hy159
    by_cases c3 : y159.length + l0_3.length < 2513169434916
    · rw [if_pos c3] at H
      have LMc3 := Aside0.mk c3
      clear c3
      obtain ⟨y162, hy162⟩ : ∃ y_ : List (S78), y_ = (y159 ++ l0_3) := ⟨_, rfl⟩
      replace H : (beadrollref17_Few.l0 k y162 0) = some r := by first | (rw [hy162]; with_reducible exact H) | (have H2_ := (Option.bind_some _ _).symm.trans H; rw [hy162]; with_reducible exact H2_) | (have H2_ := (Option.bind_some _ _).symm.trans H; with_reducible exact H2_) | with_reducible exact H | (rw [hy162]; exact H) | exact H
      have Ny162 := Aside0.mk hy162
      clear hy162
      have H' := Aside0.mk H
      clear H
      go_enter Try.func11, Try.ntmps11
      try go_wp2_with (first | ((with_reducible refine gate_dst (N := 1) rfl ?_); (try (refine gate_guard (by rfl) ?_; dsimp only)); refine box_event ?hg (N := 1) ?hd (cs := #[.int .u32 a0_0, .int .u32 a0_1, .slice A0_2 l0_2.length c0_2, .slice A0_3 l0_3.length c0_3]) (t := 25) ?hr ?_; (case hd => rfl); (case hg => rfl); (case hr => first | (go_simp; done) | (go_simp; rfl)); intro gb155 hg w4 hbox hb; have n0_ := Aside0.mk (below_step (by repeat (first | (with_reducible first | exact HB.out | apply below_alloc | apply pw_below_drewN | apply below_drew1) | exact HB.out)) hb); have n1_ := Aside0.mk (hbox); have n2_ := Aside0.mk ((by rw [hg]; exact (below_size (by repeat (first | (with_reducible first | exact HB.out | apply below_alloc | apply pw_below_drewN | apply below_drew1) | exact HB.out))) : w.heap.size ≤ gb155)); have n3_ := Aside0.mk ((by rw [hg]; exact (below_size (by repeat (first | (with_reducible first | exact HB.out | apply below_alloc | apply pw_below_drewN | apply below_drew1) | exact HB.out))) : w.heap.size ≤ gb155)); clear HB; have HB := n0_; have BK155 := n1_; have GW155 := n2_; have GE155 := n3_; clear n0_ n1_ n2_ n3_; clear hb hbox hg))
      have n0_ := Aside0.mk (blk_drew BK155.out)
      have n1_ := Aside0.mk (below_drew1 HB.out)
      clear BK155
      clear HB
      have BK155 := n0_
      have HB := n1_
      clear n0_ n1_
      refine start_ (n := 8) (S := fun w' => w'.cell? ⟨gb155, 0, none⟩ = some (.int .u32 a0_0) ∧ w'.cell? ⟨gb155, 1, none⟩ = some (.int .u32 a0_1) ∧ w'.cell? ⟨gb155, 2, none⟩ = some (.slice A0_2 l0_2.length c0_2) ∧ w'.cell? ⟨gb155, 3, none⟩ = some (.slice A0_3 l0_3.length c0_3)) (ds := []) #[false, false, false, false, false, false, false, false] (by kernel_rfl) rfl rfl ⟨(blk_cell BK155.out 0).trans rfl, (blk_cell BK155.out 1).trans rfl, (blk_cell BK155.out 2).trans rfl, (blk_cell BK155.out 3).trans rfl⟩ (fun hHeld => ?_); refine with_tabW beadrollref17_Few.tab1 beadrollref17_Few.bits1 (fun HT_ HW_ => ?_)
      generalize w4.drew = w5 at BK155 HB hHeld ⊢
      refine pure_ (i := 1) (N := some 6) (v := ?_) (a' := ?_) #[false, true, false, false, false, false, false, false] rfl rfl (any_of HT_.out (by kernel_rfl)) (fun _ _ _ h => h) (Or.inl ⟨by rfl, ?_⟩) ?_ ?_
      rotate_left
      · intro w'
        go_simp
        with_reducible rfl
      rotate_left
      · simp only [Act.put, List.setIfInBounds_toArray, List.set_cons_zero, List.set_cons_succ, i64_w, i32_w]
        rfl
      refine pure_ (i := 4) (N := some 9) (v := ?_) (a' := ?_) #[false, true, false, false, true, false, false, false] rfl rfl (any_of HT_.out (by kernel_rfl)) (fun _ _ _ h => h) (Or.inl ⟨by rfl, ?_⟩) ?_ ?_
      rotate_left
      · intro w'
        go_simp
        with_reducible rfl
      rotate_left
      · simp only [Act.put, List.setIfInBounds_toArray, List.set_cons_zero, List.set_cons_succ, i64_w, i32_w]
        rfl
      refine take_ (i := 2) (N := some 7) (v := ?_) (a' := ?_) #[false, true, true, false, true, false, false, false] rfl rfl (take_ofW HT_.out HW_.out (by kernel_rfl)) (fun _ _ _ h => h) (Or.inl ⟨by rfl, ?_⟩) hHeld ?_ ?_
      rotate_left
      · rintro w' ⟨s0, s1, s2, s3⟩
        go_simp
        with_reducible rfl
      rotate_left
      · simp only [Act.put, List.setIfInBounds_toArray, List.set_cons_zero, List.set_cons_succ, i64_w, i32_w]
        rfl
      refine take_ (i := 5) (N := some 10) (v := ?_) (a' := ?_) #[false, true, true, false, true, true, false, false] rfl rfl (take_ofW HT_.out HW_.out (by kernel_rfl)) (fun _ _ _ h => h) (Or.inl ⟨by rfl, ?_⟩) hHeld ?_ ?_
      rotate_left
      · rintro w' ⟨s0, s1, s2, s3⟩
        go_simp
        with_reducible rfl
      rotate_left
      · simp only [Act.put, List.setIfInBounds_toArray, List.set_cons_zero, List.set_cons_succ, i64_w, i32_w]
        rfl
      refine one_ (i := 0) (N := some 5) #[true, true, true, false, true, true, false, false] rfl rfl (one_of HT_.out (by kernel_rfl)) (by decide) (fun K hK => ?_)
      refine Kd.R_lit_step k78 _ 78 ?hg (N := 5) ?hd (xs := ([] : List (S78))) (inner := []) (ok := fun _ => True) (okp := fun _ => True) ?hr ?hp (fun _ hk => hk) trivial (Below.refl _ _) (Nat.le_refl _) (by simp) ?_; (case hd => rfl); (case hg => rfl); (case hr => first | (go_simp; done) | (go_simp; rfl)); (case hp => exact (Reps.none _ _))
      intro v157 w6 ho7 hb hg_ hnew_
      clear hg_ hnew_
      (first | rw [← Ny156.out] at ho7 | (simp only [Int.reduceToNat] at ho7; rw [← Ny156.out] at ho7))
      have n0_ := Aside0.mk (Kd.R_lower ho7 (below_size (by repeat (first | (with_reducible first | exact HB.out | apply below_alloc | apply pw_below_drewN | apply below_drew1 | refine below_set ?_ GE155.out) | exact HB.out))))
      have n1_ := Aside0.mk (blk_below (g := gb155) (o := .cells #[.int .u32 a0_0, .int .u32 a0_1, .slice A0_2 l0_2.length c0_2, .slice A0_3 l0_3.length c0_3] 25 (0, 0)) (by (with_reducible repeat (first | refine blk_drewN ?_ _ | refine blk_drew ?_ | refine blk_alloc ?_ _)); exact BK155.out) hb)
      have n2_ := Aside0.mk (below_step (by repeat (first | (with_reducible first | exact HB.out | apply below_alloc | apply pw_below_drewN | apply below_drew1 | refine below_set ?_ GE155.out) | exact HB.out)) hb)
      clear BK155
      clear HB
      have HO158 := n0_
      have BK155 := n1_
      have HB := n2_
      clear n0_ n1_ n2_
      clear hb ho7
      refine hK.out _ _ ⟨(blk_cell BK155.out 0).trans rfl, (blk_cell BK155.out 1).trans rfl, (blk_cell BK155.out 2).trans rfl, (blk_cell BK155.out 3).trans rfl⟩ (fun hHeld => ?_)
      clear hK K
      refine norm_ (a' := ?_) ?_ ?_
      rotate_left
      · show Act.put _ (some 5) _ = _
        simp only [Act.put, List.setIfInBounds_toArray, List.set_cons_zero, List.set_cons_succ, i64_w, i32_w]
        rfl
      refine one_ (i := 3) (N := some 8) #[true, true, true, true, true, true, false, false] rfl rfl (one_of HT_.out (by kernel_rfl)) (by decide) (fun K hK => ?_)
      refine Kd.R_append_rows_step k78 (w0 := w) w.heap.size (by rfl) (.tmp 5) (.tmp 7) 23 78 (.agg #[(.string ⟨#[]⟩), (.int .i64 0), (.int .i64 0), (.int .i64 0), (.string ⟨#[]⟩)]) 56 rfl Try.underlying23 info78 rfl (by decide) (by omega) v157 y156 l0_2 _ _ _ (fun _ => True) (fun _ => False) rfl rfl ?aO ?aR (fun _ _ h => h) (fun _ h => h.elim) ?aF ?aB ?aS ?aL ?_
      (case aR => repeat (first | exact (Kd.C_below HR0_2.out HB.out) | (with_reducible refine Kd.C_alloc ?_ _) | (with_reducible refine Kd.C_drewN ?_ _) | (with_reducible refine Kd.C_drew ?_)))
      (case aB => exact (by repeat (first | (with_reducible first | exact HB.out | apply below_alloc | apply pw_below_drewN | apply below_drew1 | refine below_set ?_ GE155.out) | exact HB.out)))
      (case aF => exact (fun _ _ => trivial))
      (case aO => exact (by (with_reducible repeat (first | apply Kd.R_alloc | apply Kd.R_drewN | apply Kd.R_drew)); exact HO158.out))
      (case aS => exact (below_size (by repeat (first | (with_reducible first | exact HB.out | apply below_alloc | apply pw_below_drewN | apply below_drew1 | refine below_set ?_ GE155.out) | exact HB.out))))
      (case aL => have := LMc2.out; omega)
      intro v160 w8 ho hb hg hat
      rw [← Ny159.out] at ho
      have n0_ := Aside0.mk (blk_grown (g := gb155) (o := .cells #[.int .u32 a0_0, .int .u32 a0_1, .slice A0_2 l0_2.length c0_2, .slice A0_3 l0_3.length c0_3] 25 (0, 0)) (by (with_reducible repeat (first | refine blk_drewN ?_ _ | refine blk_drew ?_ | refine blk_alloc ?_ _)); exact BK155.out) hg (Kd.R_ne HO158.out BK155.out (by decide)))
      have n1_ := Aside0.mk (hb)
      have n2_ := Aside0.mk (ho)
      clear BK155
      clear HB
      clear HO158
      have BK155 := n0_
      have HB := n1_
      have HO161 := n2_
      clear n0_ n1_ n2_
      clear ho hb hg hat
      refine hK.out _ _ ⟨(blk_cell BK155.out 0).trans rfl, (blk_cell BK155.out 1).trans rfl, (blk_cell BK155.out 2).trans rfl, (blk_cell BK155.out 3).trans rfl⟩ (fun hHeld => ?_)
      clear hK K
      refine norm_ (a' := ?_) ?_ ?_
      rotate_left
      · show Act.put _ (some 8) _ = _
        simp only [Act.put, List.setIfInBounds_toArray, List.set_cons_zero, List.set_cons_succ, i64_w, i32_w]
        rfl
      refine one_ (i := 6) (N := some 11) #[true, true, true, true, true, true, true, false] rfl rfl (one_of HT_.out (by kernel_rfl)) (by decide) (fun K hK => ?_)
      refine Kd.R_append_rows_step k78 (w0 := w) w.heap.size (by rfl) (.tmp 8) (.tmp 10) 23 78 (.agg #[(.string ⟨#[]⟩), (.int .i64 0), (.int .i64 0), (.int .i64 0), (.string ⟨#[]⟩)]) 56 rfl Try.underlying23 info78 rfl (by decide) (by omega) v160 y159 l0_3 _ _ _ (fun _ => True) (fun _ => False) rfl rfl ?aO ?aR (fun _ _ h => h) (fun _ h => h.elim) ?aF ?aB ?aS ?aL ?_
      (case aR => repeat (first | exact (Kd.C_below HR0_3.out HB.out) | (with_reducible refine Kd.C_alloc ?_ _) | (with_reducible refine Kd.C_drewN ?_ _) | (with_reducible refine Kd.C_drew ?_)))
      (case aB => exact (by repeat (first | (with_reducible first | exact HB.out | apply below_alloc | apply pw_below_drewN | apply below_drew1 | refine below_set ?_ GE155.out) | exact HB.out)))
      (case aF => exact (fun _ _ => trivial))
      (case aO => exact (by (with_reducible repeat (first | apply Kd.R_alloc | apply Kd.R_drewN | apply Kd.R_drew)); exact HO161.out))
      (case aS => exact (below_size (by repeat (first | (with_reducible first | exact HB.out | apply below_alloc | apply pw_below_drewN | apply below_drew1 | refine below_set ?_ GE155.out) | exact HB.out))))
      (case aL => have := LMc3.out; omega)
      intro v163 w9 ho hb hg hat
      rw [← Ny162.out] at ho
      have n0_ := Aside0.mk (blk_grown (g := gb155) (o := .cells #[.int .u32 a0_0, .int .u32 a0_1, .slice A0_2 l0_2.length c0_2, .slice A0_3 l0_3.length c0_3] 25 (0, 0)) (by (with_reducible repeat (first | refine blk_drewN ?_ _ | refine blk_drew ?_ | refine blk_alloc ?_ _)); exact BK155.out) hg (Kd.R_ne HO161.out BK155.out (by decide)))
      have n1_ := Aside0.mk (hb)
      have n2_ := Aside0.mk (ho)
      clear BK155
      clear HB
      clear HO161
      have BK155 := n0_
      have HB := n1_
      have HO164 := n2_
      clear n0_ n1_ n2_
      clear ho hb hg hat
      refine hK.out _ _ ⟨(blk_cell BK155.out 0).trans rfl, (blk_cell BK155.out 1).trans rfl, (blk_cell BK155.out 2).trans rfl, (blk_cell BK155.out 3).trans rfl⟩ (fun hHeld => ?_)
      clear hK K
      refine norm_ (a' := ?_) ?_ ?_
      rotate_left
      · show Act.put _ (some 11) _ = _
        simp only [Act.put, List.setIfInBounds_toArray, List.set_cons_zero, List.set_cons_succ, i64_w, i32_w]
        rfl
      refine pure_ (i := 7) (N := some 3) (v := ?_) (a' := ?_) #[true, true, true, true, true, true, true, true] rfl rfl (any_of HT_.out (by kernel_rfl)) (fun _ _ _ h => h) (Or.inl ⟨by rfl, ?_⟩) ?_ ?_
      rotate_left
      · intro w'
        go_simp
        with_reducible rfl
      rotate_left
      · simp only [Act.put, List.setIfInBounds_toArray, List.set_cons_zero, List.set_cons_succ, i64_w, i32_w]
        rfl
      refine done_ (done_of HT_.out (by kernel_rfl)) ?_
      try go_wp2
      go_loopg [4] k (fun kq v4 w' => ∃ (x4_1 : Int), v4 = .int .i64 x4_1 ∧ Aside0 (beadrollref17_Few.l0 kq y162 x4_1 = some r) ∧ Aside0 (kq ≤ k) ∧ Aside0 (Kd.R k78 78 w' w.heap.size (fun _ => True) v163 y162) ∧ Aside0 (w'.heap[gb155]? = some (.cells #[.int .u32 a0_0, .int .u32 a0_1, (.slice A0_2 l0_2.length c0_2), (.slice A0_3 l0_3.length c0_3)] 25 (0, 0))) ∧ Aside0 (Below w.heap.size w w'))
      case atStart => exact ⟨(0), (by first | rfl | (simp; done) | (simp [*]; done)), H', ⟨Nat.le_refl _⟩, ⟨by (with_reducible repeat (first | apply Kd.R_alloc | apply Kd.R_drewN | apply Kd.R_drew)); exact HO164.out⟩, ⟨by (with_reducible repeat (first | refine blk_drewN ?_ _ | refine blk_drew ?_ | refine blk_alloc ?_ _)); exact BK155.out⟩, ⟨by repeat (first | (with_reducible first | exact HB.out | apply below_alloc | apply pw_below_drewN | apply below_drew1 | refine below_set ?_ GE155.out) | exact HB.out)⟩⟩
      case round =>
        clear H'
        try clear c1
        try clear c2
        try clear p2
        try clear c3
        obtain ⟨x4_1, rfl, HA, HK1, HO_3, BK155, HB⟩ := hrel
        cases gk with
        | zero => exact absurd HA.out (by simp [beadrollref17_Few.l0])
        | succ k1 =>
          have H := HA.out
          clear HA
          simp only [beadrollref17_Few.l0] at H
          by_cases c10 : x4_1 < (y162.length : Int)
          · rw [if_pos c10] at H
            have c10b0 : decide (x4_1 < (y162.length : Int)) = true := decide_eq_true c10
            clear c10
            by_cases c11 : 0 ≤ x4_1
            · rw [if_pos c11] at H
              have c11b0 : decide (0 ≤ x4_1) = true := decide_eq_true c11
              clear c11
              by_cases c12 : (((rd_T78 y162 x4_1).f0).size : Int) > 600
              · rw [if_pos c12] at H
                have c12b0 : decide (600 < (((rd_T78 y162 x4_1).f0).size : Int)) = true := decide_eq_true c12
                have c12b1 : decide (600 < ((rd_T78 y162 x4_1).f0).size) = true := decide_eq_true (by omega)
                clear c12
                obtain rfl := Option.some.inj H
                obtain ⟨Ao13, co13, eo13⟩ := Kd.R_slice HO_3.out
                subst eo13
                have p165 : 0 ≤ (x4_1 : Int) := of_decide_eq_true (by first | (with_reducible assumption) | assumption)
                have q165 : x4_1 < (y162.length : Int) := of_decide_eq_true (by first | (with_reducible assumption) | assumption)
                obtain ⟨ad165, e165, hx165_0, hx165_1, hx165_2, hx165_3, hx165_4⟩ := at_T78 (Kd.R_reads' HO_3.out).2.2 x4_1 p165 q165
                cases e165
                replace p165 := eq_true p165
                replace q165 := eq_true q165
                go_wp2
                go_ret
                exact ⟨by first | rfl | (simp [errW_none, errW_some] <;> rfl) | (simp [*, errW_none, errW_some] <;> rfl), by repeat (first | (with_reducible first | exact HB.out | apply below_alloc | apply pw_below_drewN | apply below_drew1 | refine below_set ?_ GE155.out) | exact HB.out)⟩
              · rw [if_neg c12] at H
                have c12b0 : decide (600 < (((rd_T78 y162 x4_1).f0).size : Int)) = false := decide_eq_false c12
                have c12b1 : decide (600 < ((rd_T78 y162 x4_1).f0).size) = false := decide_eq_false (by omega)
                clear c12
                by_cases c14 : (((rd_T78 y162 x4_1).f4).size : Int) > 2000
                · rw [if_pos c14] at H
                  have c14b0 : decide (2000 < (((rd_T78 y162 x4_1).f4).size : Int)) = true := decide_eq_true c14
                  have c14b1 : decide (2000 < ((rd_T78 y162 x4_1).f4).size) = true := decide_eq_true (by omega)
                  clear c14
                  obtain rfl := Option.some.inj H
                  obtain ⟨Ao15, co15, eo15⟩ := Kd.R_slice HO_3.out
                  subst eo15
                  have p165 : 0 ≤ (x4_1 : Int) := of_decide_eq_true (by first | (with_reducible assumption) | assumption)
                  have q165 : x4_1 < (y162.length : Int) := of_decide_eq_true (by first | (with_reducible assumption) | assumption)
                  obtain ⟨ad165, e165, hx165_0, hx165_1, hx165_2, hx165_3, hx165_4⟩ := at_T78 (Kd.R_reads' HO_3.out).2.2 x4_1 p165 q165
                  cases e165
                  replace p165 := eq_true p165
                  replace q165 := eq_true q165
                  have p166 : 0 ≤ (x4_1 : Int) := of_decide_eq_true (by first | (with_reducible assumption) | assumption)
                  have q166 : x4_1 < (y162.length : Int) := of_decide_eq_true (by first | (with_reducible assumption) | assumption)
                  obtain ⟨ad166, e166, hx166_0, hx166_1, hx166_2, hx166_3, hx166_4⟩ := at_T78 (Kd.R_reads' HO_3.out).2.2 x4_1 p166 q166
                  obtain rfl : ad165 = ad166 := (by injection e166)
                  replace p166 := eq_true p166
                  replace q166 := eq_true q166
                  go_wp2
                  go_ret
                  exact ⟨by first | rfl | (simp [errW_none, errW_some] <;> rfl) | (simp [*, errW_none, errW_some] <;> rfl), by repeat (first | (with_reducible first | exact HB.out | apply below_alloc | apply pw_below_drewN | apply below_drew1 | refine below_set ?_ GE155.out) | exact HB.out)⟩
                · rw [if_neg c14] at H
                  have c14b0 : decide (2000 < (((rd_T78 y162 x4_1).f4).size : Int)) = false := decide_eq_false c14
                  have c14b1 : decide (2000 < ((rd_T78 y162 x4_1).f4).size) = false := decide_eq_false (by omega)
                  clear c14
                  have H' := Aside0.mk H
                  clear H
                  obtain ⟨Ao16, co16, eo16⟩ := Kd.R_slice HO_3.out
                  subst eo16
                  have p165 : 0 ≤ (x4_1 : Int) := of_decide_eq_true (by first | (with_reducible assumption) | assumption)
                  have q165 : x4_1 < (y162.length : Int) := of_decide_eq_true (by first | (with_reducible assumption) | assumption)
                  obtain ⟨ad165, e165, hx165_0, hx165_1, hx165_2, hx165_3, hx165_4⟩ := at_T78 (Kd.R_reads' HO_3.out).2.2 x4_1 p165 q165
                  cases e165
                  replace p165 := eq_true p165
                  replace q165 := eq_true q165
                  have p166 : 0 ≤ (x4_1 : Int) := of_decide_eq_true (by first | (with_reducible assumption) | assumption)
                  have q166 : x4_1 < (y162.length : Int) := of_decide_eq_true (by first | (with_reducible assumption) | assumption)
                  obtain ⟨ad166, e166, hx166_0, hx166_1, hx166_2, hx166_3, hx166_4⟩ := at_T78 (Kd.R_reads' HO_3.out).2.2 x4_1 p166 q166
                  obtain rfl : ad165 = ad166 := (by injection e166)
                  replace p166 := eq_true p166
                  replace q166 := eq_true q166
                  go_wp2
                  go_roundg k1
                  case measure => have := HK1.out; omega
                  case rel => exact ⟨(wrap64 (x4_1 + 1)), (by first | rfl | (simp; done) | (simp [*]; done)), H', ⟨by have := HK1.out; omega⟩, ⟨by (with_reducible repeat (first | apply Kd.R_alloc | apply Kd.R_drewN | apply Kd.R_drew)); exact HO_3.out⟩, ⟨by (with_reducible repeat (first | refine blk_drewN ?_ _ | refine blk_drew ?_ | refine blk_alloc ?_ _)); exact BK155.out⟩, ⟨by repeat (first | (with_reducible first | exact HB.out | apply below_alloc | apply pw_below_drewN | apply below_drew1 | refine below_set ?_ GE155.out) | exact HB.out)⟩⟩
            · rw [if_neg c11] at H
              exact absurd H (by simp)
          · rw [if_neg c10] at H
            have c10b0 : decide (x4_1 < (y162.length : Int)) = false := decide_eq_false c10
            clear c10
            obtain rfl := Option.some.inj H
            obtain ⟨Ao17, co17, eo17⟩ := Kd.R_slice HO_3.out
            subst eo17
            go_wp2
            go_ret
            exact ⟨by first | rfl | (simp [errW_none, errW_some] <;> rfl) | (simp [*, errW_none, errW_some] <;> rfl), by repeat (first | (with_reducible first | exact HB.out | apply below_alloc | apply pw_below_drewN | apply below_drew1 | refine below_set ?_ GE155.out) | exact HB.out)⟩
    · rw [if_neg c3] at H
      exact absurd H (by simp)
  · rw [if_neg c2] at H
    exact absurd H (by simp)

/-! ### beadrollref07_Labels -/
mutual
def beadrollref07_Labels.l0 : Nat → ByteArray → List ByteArray → Int → Option (List ByteArray × Bool)
  | 0, _, _, _ => none
  | k + 1, x0, x4, x5 => if x5 < (x0.size : Int) then (if 0 ≤ x5 then (beadrollref07_Labels.j1 k x0 x4 x5 (decide ((bt x0 x5) > 0))) else (none)) else (beadrollref07_Labels.j1 k x0 x4 x5 false)
def beadrollref07_Labels.j1 : Nat → ByteArray → List ByteArray → Int → Bool → Option (List ByteArray × Bool)
  | 0, _, _, _, _ => none
  | k + 1, x0, x4, x5, x19 => if x19 = true then (if 0 ≤ x5 then (if x5 < (x0.size : Int) then (if (wrap64 (bt x0 x5)) > 63 then (some (([] : List ByteArray), false)) else (if (wrap64 ((wrap64 (x5 + 1)) + (wrap64 (bt x0 x5)))) > (x0.size : Int) then (some (([] : List ByteArray), false)) else (if 0 ≤ (wrap64 (x5 + 1)) then (if (wrap64 (x5 + 1)) ≤ (wrap64 ((wrap64 (x5 + 1)) + (wrap64 (bt x0 x5)))) then (if (wrap64 ((wrap64 (x5 + 1)) + (wrap64 (bt x0 x5)))) ≤ (x0.size : Int) then (if x4.length < 8796093022208 then (beadrollref07_Labels.l0 k x0 (x4 ++ [x0.extract ((wrap64 (x5 + 1)) : Int).toNat ((wrap64 ((wrap64 (x5 + 1)) + (wrap64 (bt x0 x5)))) : Int).toNat]) (wrap64 (x5 + (wrap64 (1 + (wrap64 (bt x0 x5))))))) else (none)) else (none)) else (none)) else (none)))) else (none)) else (none)) else (if x5 = (wrap64 ((x0.size : Int) - 1)) then (if 0 ≤ x5 then (if x5 < (x0.size : Int) then (some (x4, ((bt x0 x5) == 0))) else (none)) else (none)) else (some (x4, false)))
end
def beadrollref07_Labels.f (k : Nat) (a0 : ByteArray) : Option (List ByteArray × Bool) := if (a0.size : Int) > 255 then (some (([] : List ByteArray), false)) else (beadrollref07_Labels.l0 k a0 ([] : List ByteArray) 0)
theorem beadrollref07_Labels.mono_l : ∀ k, (∀ y0 y1 y2, LeO (beadrollref07_Labels.l0 k y0 y1 y2) (beadrollref07_Labels.l0 (k + 1) y0 y1 y2)) ∧ (∀ y0 y1 y2 y3, LeO (beadrollref07_Labels.j1 k y0 y1 y2 y3) (beadrollref07_Labels.j1 (k + 1) y0 y1 y2 y3))
  | 0 => ⟨fun _ _ _ r h => by simp [beadrollref07_Labels.l0] at h, fun _ _ _ _ r h => by simp [beadrollref07_Labels.j1] at h⟩
  | k + 1 => by
    obtain ⟨ih0, ih1⟩ := beadrollref07_Labels.mono_l k
    refine ⟨?_, ?_⟩
    · intro y0 y1 y2
      unfold beadrollref07_Labels.l0
      repeat' first
      | (with_reducible exact ih0 _ _ _)
      | (with_reducible exact ih1 _ _ _ _)
      | (with_reducible exact LeO.refl _)
      | (with_reducible exact LeO.none _)
      | (with_reducible refine LeO.ite ?_ ?_)
      | (with_reducible refine LeO.bind ?_ (fun _ => ?_))
      | exact ih0 _ _ _
      | exact ih1 _ _ _ _
      | exact LeO.none _
      | refine LeO.ite ?_ ?_
      | refine LeO.bind ?_ (fun _ => ?_)
    · intro y0 y1 y2 y3
      unfold beadrollref07_Labels.j1
      repeat' first
      | (with_reducible exact ih0 _ _ _)
      | (with_reducible exact ih1 _ _ _ _)
      | (with_reducible exact LeO.refl _)
      | (with_reducible exact LeO.none _)
      | (with_reducible refine LeO.ite ?_ ?_)
      | (with_reducible refine LeO.bind ?_ (fun _ => ?_))
      | exact ih0 _ _ _
      | exact ih1 _ _ _ _
      | exact LeO.none _
      | refine LeO.ite ?_ ?_
      | refine LeO.bind ?_ (fun _ => ?_)
theorem beadrollref07_Labels.mono : ∀ a0 k, LeO (beadrollref07_Labels.f k a0) (beadrollref07_Labels.f (k + 1) a0) := by
  intro a0 k
  obtain ⟨ih0, ih1⟩ := beadrollref07_Labels.mono_l k
  unfold beadrollref07_Labels.f
  repeat' first
      | (with_reducible exact ih0 _ _ _)
      | (with_reducible exact ih1 _ _ _ _)
      | (with_reducible exact LeO.refl _)
      | (with_reducible exact LeO.none _)
      | (with_reducible refine LeO.ite ?_ ?_)
      | (with_reducible refine LeO.bind ?_ (fun _ => ?_))
      | exact ih0 _ _ _
      | exact ih1 _ _ _ _
      | exact LeO.none _
      | refine LeO.ite ?_ ?_
      | refine LeO.bind ?_ (fun _ => ?_)
set_option maxHeartbeats 8000000 in
set_option maxRecDepth 100000 in
theorem beadrollref07_Labels.calls (k : Nat) (a0 : ByteArray) (r1 : List ByteArray) (r2 : Bool) (w : World) (h : beadrollref07_Labels.f k a0 = some (r1, r2)) :
    Calls Try.prog 107 #[.string a0] w fun e w' => ∃ v0_ : Value, e = .returned (.tuple #[v0_, .bool r2]) ∧ Kd.R Kd.string 9 w' w.heap.size (fun _ => True) v0_ r1 ∧ Below w.heap.size w w' := by
  have HB := Aside0.mk (Below.refl w.heap.size w)
  have H : (if (a0.size : Int) > 255 then (some (([] : List ByteArray), false)) else (beadrollref07_Labels.l0 k a0 ([] : List ByteArray) 0)) = some (r1, r2) := h
  clear h
  by_cases c2 : (a0.size : Int) > 255
  · rw [if_pos c2] at H
    have c2b0 : decide (255 < (a0.size : Int)) = true := decide_eq_true c2
    have c2b1 : decide (255 < a0.size) = true := decide_eq_true (by omega)
    clear c2
    simp only [Option.some.injEq, Prod.mk.injEq] at H
    obtain ⟨rfl, rfl⟩ := H
    go_enter Try.func107, Try.ntmps107
    go_wp2
    repeat (go_quiet (fail); try go_wp2)
    go_ret2
    exact ⟨_, by first | rfl | (simp [errW_none, errW_some] <;> rfl) | (simp [*, errW_none, errW_some] <;> rfl), by first | exact Kd.R_nil _ _ _ _ _ | exact Kd.N_nil _ _ _ _ _ | exact Kd.V_nil _ _ _ _ _ | exact Kd.Q_nil _ _ _ _ _ | exact Kd.S_nil _ _ _ _ _, by repeat (first | (with_reducible first | exact HB.out | apply below_alloc | apply pw_below_drewN | apply below_drew1) | exact HB.out)⟩
  · rw [if_neg c2] at H
    have c2b0 : decide (255 < (a0.size : Int)) = false := decide_eq_false c2
    have c2b1 : decide (255 < a0.size) = false := decide_eq_false (by omega)
    clear c2
    have H' := Aside0.mk H
    clear H
    go_enter Try.func107, Try.ntmps107
    go_wp2
    repeat (go_quiet (fail); try go_wp2)
    go_loopg [4, 5] k (fun kq v4 v5 w' => ∃ (x4_1 : List ByteArray) (x5_1 : Int), v5 = .int .i64 x5_1 ∧ Aside0 (beadrollref07_Labels.l0 kq a0 x4_1 x5_1 = some (r1, r2)) ∧ Aside0 (kq ≤ k) ∧ Aside0 (Kd.R Kd.string 9 w' w.heap.size (fun _ => True) v4 x4_1) ∧ Aside0 (Below w.heap.size w w'))
    case atStart => exact ⟨(([] : List ByteArray)), (0), (by first | rfl | (simp; done) | (simp [*]; done)), H', ⟨Nat.le_refl _⟩, ⟨by first | exact Kd.R_nil _ _ _ _ _ | exact Kd.N_nil _ _ _ _ _ | exact Kd.V_nil _ _ _ _ _ | exact Kd.Q_nil _ _ _ _ _ | exact Kd.S_nil _ _ _ _ _⟩, ⟨by repeat (first | (with_reducible first | exact HB.out | apply below_alloc | apply pw_below_drewN | apply below_drew1) | exact HB.out)⟩⟩
    case round =>
      clear H'
      try clear c1
      try clear c2
      try clear c2b0
      try clear c2b1
      try clear p2
      obtain ⟨x4_1, x5_1, rfl, HA, HK1, HO_4, HB⟩ := hrel
      cases gk with
      | zero => exact absurd HA.out (by simp [beadrollref07_Labels.l0])
      | succ k1 =>
        have H := HA.out
        clear HA
        simp only [beadrollref07_Labels.l0] at H
        have HC3 := Aside0.mk H
        clear H
        go_upto_region 5 with (fail)
        repeat (go_quiet (fail); go_upto_region 5 with (fail))
        go_cut [19] (fun v19 wc => ∃ (kq : Nat) (x19_2 : Bool), v19 = .bool x19_2 ∧ Aside0 (beadrollref07_Labels.j1 kq a0 x4_1 x5_1 x19_2 = some (r1, r2)) ∧ Aside0 (kq ≤ k1) ∧ Aside0 (Kd.R Kd.string 9 wc w.heap.size (fun _ => True) u4 x4_1) ∧ Aside0 (Below w.heap.size w wc))
        case first =>
          have H := HC3.out
          clear HC3
          by_cases c4 : x5_1 < (a0.size : Int)
          · rw [if_pos c4] at H
            have c4b0 : decide (x5_1 < (a0.size : Int)) = true := decide_eq_true c4
            clear c4
            (first | rw [c4b0] | (simp only [i64_w, i32_w]; rw [c4b0]) | skip)
            by_cases c5 : 0 ≤ x5_1
            · rw [if_pos c5] at H
              have c5b0 : decide (0 ≤ x5_1) = true := decide_eq_true c5
              clear c5
              have H' := Aside0.mk H
              clear H
              have p6 : 0 ≤ (x5_1 : Int) := of_decide_eq_true (by first | (with_reducible assumption) | assumption)
              have q6 : x5_1 < (a0.size : Int) := of_decide_eq_true (by first | (with_reducible assumption) | assumption)
              have hx6 := bt_at a0 x5_1
              replace p6 := eq_true p6
              replace q6 := eq_true q6
              go_wp2
              repeat (go_quiet (fail); try go_wp2)
              go_meet
              case rel => exact ⟨_, (decide ((bt a0 x5_1) > 0)), (by first | rfl | (simp; done) | (simp [*]; done)), H', ⟨by have := HK1.out; first | omega | exact Nat.le_refl _⟩, ⟨by (with_reducible repeat (first | apply Kd.R_alloc | apply Kd.R_drewN | apply Kd.R_drew)); exact HO_4.out⟩, ⟨by repeat (first | (with_reducible first | exact HB.out | apply below_alloc | apply pw_below_drewN | apply below_drew1) | exact HB.out)⟩⟩
            · rw [if_neg c5] at H
              exact absurd H (by simp)
          · rw [if_neg c4] at H
            have c4b0 : decide (x5_1 < (a0.size : Int)) = false := decide_eq_false c4
            clear c4
            (first | rw [c4b0] | (simp only [i64_w, i32_w]; rw [c4b0]) | skip)
            have H' := Aside0.mk H
            clear H
            go_wp2
            repeat (go_quiet (fail); try go_wp2)
            go_meet
            case rel => exact ⟨_, (false), (by first | rfl | (simp; done) | (simp [*]; done)), H', ⟨by have := HK1.out; first | omega | exact Nat.le_refl _⟩, ⟨by (with_reducible repeat (first | apply Kd.R_alloc | apply Kd.R_drewN | apply Kd.R_drew)); exact HO_4.out⟩, ⟨by repeat (first | (with_reducible first | exact HB.out | apply below_alloc | apply pw_below_drewN | apply below_drew1) | exact HB.out)⟩⟩
        case rest =>
          clear HC3
          try clear c1
          try clear c2
          try clear c2b0
          try clear c2b1
          try clear p2
          try clear c4
          try clear c4b0
          try clear c5
          try clear c5b0
          try clear p6
          try clear q6
          try clear hx6
          try clear p2
          try clear p6
          try clear q6
          obtain ⟨kq, x19_2, rfl, HA, HJ2, HO_4, HB⟩ := hcut
          cases kq with
          | zero => exact absurd HA.out (by simp [beadrollref07_Labels.j1])
          | succ kj2 =>
            have H := HA.out
            clear HA
            simp only [beadrollref07_Labels.j1] at H
            by_cases c7 : x19_2 = true
            · subst c7
              have H1 : (if 0 ≤ x5_1 then (if x5_1 < (a0.size : Int) then (if (wrap64 (bt a0 x5_1)) > 63 then (some (([] : List ByteArray), false)) else (if (wrap64 ((wrap64 (x5_1 + 1)) + (wrap64 (bt a0 x5_1)))) > (a0.size : Int) then (some (([] : List ByteArray), false)) else (if 0 ≤ (wrap64 (x5_1 + 1)) then (if (wrap64 (x5_1 + 1)) ≤ (wrap64 ((wrap64 (x5_1 + 1)) + (wrap64 (bt a0 x5_1)))) then (if (wrap64 ((wrap64 (x5_1 + 1)) + (wrap64 (bt a0 x5_1)))) ≤ (a0.size : Int) then (if x4_1.length < 8796093022208 then (beadrollref07_Labels.l0 kj2 a0 (x4_1 ++ [a0.extract ((wrap64 (x5_1 + 1)) : Int).toNat ((wrap64 ((wrap64 (x5_1 + 1)) + (wrap64 (bt a0 x5_1)))) : Int).toNat]) (wrap64 (x5_1 + (wrap64 (1 + (wrap64 (bt a0 x5_1))))))) else (none)) else (none)) else (none)) else (none)))) else (none)) else (none)) = some (r1, r2) := by rw [if_pos rfl] at H; exact H
              clear H
              have H := H1
              clear H1
              by_cases c8 : 0 ≤ x5_1
              · rw [if_pos c8] at H
                have c8b0 : decide (0 ≤ x5_1) = true := decide_eq_true c8
                clear c8
                by_cases c9 : x5_1 < (a0.size : Int)
                · rw [if_pos c9] at H
                  have c9b0 : decide (x5_1 < (a0.size : Int)) = true := decide_eq_true c9
                  clear c9
                  by_cases c11 : (wrap64 (bt a0 x5_1)) > 63
                  · rw [if_pos c11] at H
                    have c11b0 : decide (63 < (wrap64 (bt a0 x5_1))) = true := decide_eq_true c11
                    clear c11
                    simp only [Option.some.injEq, Prod.mk.injEq] at H
                    obtain ⟨rfl, rfl⟩ := H
                    have p10 : 0 ≤ (x5_1 : Int) := of_decide_eq_true (by first | (with_reducible assumption) | assumption)
                    have q10 : x5_1 < (a0.size : Int) := of_decide_eq_true (by first | (with_reducible assumption) | assumption)
                    have hx10 := bt_at a0 x5_1
                    replace p10 := eq_true p10
                    replace q10 := eq_true q10
                    go_wp2
                    repeat (go_quiet (fail); try go_wp2)
                    go_ret2
                    exact ⟨_, by first | rfl | (simp [errW_none, errW_some] <;> rfl) | (simp [*, errW_none, errW_some] <;> rfl), by first | exact Kd.R_nil _ _ _ _ _ | exact Kd.N_nil _ _ _ _ _ | exact Kd.V_nil _ _ _ _ _ | exact Kd.Q_nil _ _ _ _ _ | exact Kd.S_nil _ _ _ _ _, by repeat (first | (with_reducible first | exact HB.out | apply below_alloc | apply pw_below_drewN | apply below_drew1) | exact HB.out)⟩
                  · rw [if_neg c11] at H
                    have c11b0 : decide (63 < (wrap64 (bt a0 x5_1))) = false := decide_eq_false c11
                    clear c11
                    by_cases c12 : (wrap64 ((wrap64 (x5_1 + 1)) + (wrap64 (bt a0 x5_1)))) > (a0.size : Int)
                    · rw [if_pos c12] at H
                      have c12b0 : decide ((a0.size : Int) < (wrap64 ((wrap64 (x5_1 + 1)) + (wrap64 (bt a0 x5_1))))) = true := decide_eq_true c12
                      clear c12
                      simp only [Option.some.injEq, Prod.mk.injEq] at H
                      obtain ⟨rfl, rfl⟩ := H
                      have p10 : 0 ≤ (x5_1 : Int) := of_decide_eq_true (by first | (with_reducible assumption) | assumption)
                      have q10 : x5_1 < (a0.size : Int) := of_decide_eq_true (by first | (with_reducible assumption) | assumption)
                      have hx10 := bt_at a0 x5_1
                      replace p10 := eq_true p10
                      replace q10 := eq_true q10
                      go_wp2
                      repeat (go_quiet (fail); try go_wp2)
                      go_ret2
                      exact ⟨_, by first | rfl | (simp [errW_none, errW_some] <;> rfl) | (simp [*, errW_none, errW_some] <;> rfl), by first | exact Kd.R_nil _ _ _ _ _ | exact Kd.N_nil _ _ _ _ _ | exact Kd.V_nil _ _ _ _ _ | exact Kd.Q_nil _ _ _ _ _ | exact Kd.S_nil _ _ _ _ _, by repeat (first | (with_reducible first | exact HB.out | apply below_alloc | apply pw_below_drewN | apply below_drew1) | exact HB.out)⟩
                    · rw [if_neg c12] at H
                      have c12b0 : decide ((a0.size : Int) < (wrap64 ((wrap64 (x5_1 + 1)) + (wrap64 (bt a0 x5_1))))) = false := decide_eq_false c12
                      clear c12
                      obtain ⟨ji13, hji13⟩ : ∃ j_ : Int, (wrap64 (x5_1 + 1)) = j_ := ⟨_, rfl⟩
                      replace H : (if 0 ≤ (ji13) then (if (ji13) ≤ (wrap64 ((ji13) + (wrap64 (bt a0 x5_1)))) then (if (wrap64 ((ji13) + (wrap64 (bt a0 x5_1)))) ≤ (a0.size : Int) then (if x4_1.length < 8796093022208 then (beadrollref07_Labels.l0 kj2 a0 (x4_1 ++ [a0.extract ((ji13) : Int).toNat ((wrap64 ((ji13) + (wrap64 (bt a0 x5_1)))) : Int).toNat]) (wrap64 (x5_1 + (wrap64 (1 + (wrap64 (bt a0 x5_1))))))) else (none)) else (none)) else (none)) else (none)) = some (r1, r2) := by first | (rw [hji13] at H; exact H) | (simp only [hji13] at H ⊢; exact H)
                      (try rw [hji13] at c12b0)
                      have hji13w : (IntKind.i64.wrap (x5_1 + 1)) = ji13 := (i64_w _).trans hji13
                      by_cases c14 : 0 ≤ (ji13)
                      · rw [if_pos c14] at H
                        have c14b0 := eq_true c14
                        have c14b1 : decide (0 ≤ (ji13)) = true := decide_eq_true c14
                        clear c14
                        by_cases c15 : (ji13) ≤ (wrap64 ((ji13) + (wrap64 (bt a0 x5_1))))
                        · rw [if_pos c15] at H
                          have c15b0 := eq_true c15
                          have c15b1 : decide ((ji13) ≤ (wrap64 ((ji13) + (wrap64 (bt a0 x5_1))))) = true := decide_eq_true c15
                          by_cases c16 : (wrap64 ((ji13) + (wrap64 (bt a0 x5_1)))) ≤ (a0.size : Int)
                          · rw [if_pos c16] at H
                            have c16b0 := eq_true c16
                            have c16b1 : decide ((wrap64 ((ji13) + (wrap64 (bt a0 x5_1)))) ≤ (a0.size : Int)) = true := decide_eq_true c16
                            by_cases c17 : x4_1.length < 8796093022208
                            · rw [if_pos c17] at H
                              have LMc17 := Aside0.mk c17
                              clear c17
                              obtain ⟨y167, hy167⟩ : ∃ y_ : List ByteArray, y_ = (x4_1 ++ [a0.extract ((ji13) : Int).toNat ((wrap64 ((ji13) + (wrap64 (bt a0 x5_1)))) : Int).toNat]) := ⟨_, rfl⟩
                              replace H : (beadrollref07_Labels.l0 kj2 a0 y167 (wrap64 (x5_1 + (wrap64 (1 + (wrap64 (bt a0 x5_1))))))) = some (r1, r2) := by first | (rw [hy167]; with_reducible exact H) | (have H2_ := (Option.bind_some _ _).symm.trans H; rw [hy167]; with_reducible exact H2_) | (have H2_ := (Option.bind_some _ _).symm.trans H; with_reducible exact H2_) | with_reducible exact H | (rw [hy167]; exact H) | exact H
                              have Ny167 := Aside0.mk hy167
                              clear hy167
                              have H' := Aside0.mk H
                              clear H
                              have p10 : 0 ≤ (x5_1 : Int) := of_decide_eq_true (by first | (with_reducible assumption) | assumption)
                              have q10 : x5_1 < (a0.size : Int) := of_decide_eq_true (by first | (with_reducible assumption) | assumption)
                              have hx10 := bt_at a0 x5_1
                              replace p10 := eq_true p10
                              replace q10 := eq_true q10
                              go_wp2_with (first | ((with_reducible refine gate_builtin (b := .append) (xs := #[.tmp 35, .tmp 44]) rfl ?_); (try (refine gate_guard (by rfl) ?_; dsimp only)); at_builtin; refine Kd.R_append Kd.string (w0 := w) w.heap.size rfl (.tmp 35) (.tmp 44) 73 9 (.string ⟨#[]⟩) 16 rfl Try.underlying73 info9 rfl (by decide) (by omega) u4 x4_1 (a0.extract ((ji13) : Int).toNat ((wrap64 ((ji13) + (wrap64 (bt a0 x5_1)))) : Int).toNat) [.string (a0.extract ((ji13) : Int).toNat ((wrap64 ((ji13) + (wrap64 (bt a0 x5_1)))) : Int).toNat)] (fun _ => True) (fun _ => False) rfl rfl ?aP (fun _ hk => hk.elim) ?aF ?aO ?aB ?aS ?aL ?_; (case aP => exact rfl); (case aB => exact (by repeat (first | (with_reducible first | exact HB.out | apply below_alloc | apply pw_below_drewN | apply below_drew1) | exact HB.out))); (case aF => exact (fun _ _ => trivial)); (case aO => exact (by (with_reducible repeat (first | apply Kd.R_alloc | apply Kd.R_drewN | apply Kd.R_drew)); exact HO_4.out)); (case aS => exact (below_size (by repeat (first | (with_reducible first | exact HB.out | apply below_alloc | apply pw_below_drewN | apply below_drew1) | exact HB.out)))); (case aL => have := LMc17.out; omega); intro v168 w18 ho hb hg hat; rw [← Ny167.out] at ho; have n0_ := Aside0.mk (hb); have n1_ := Aside0.mk (ho); clear HB; clear HO_4; have HB := n0_; have HO169 := n1_; clear n0_ n1_; clear ho hb hg hat))
                              repeat (go_quiet (first | ((with_reducible refine gate_builtin (b := .append) (xs := #[.tmp 35, .tmp 44]) rfl ?_); (try (refine gate_guard (by rfl) ?_; dsimp only)); at_builtin; refine Kd.R_append Kd.string (w0 := w) w.heap.size rfl (.tmp 35) (.tmp 44) 73 9 (.string ⟨#[]⟩) 16 rfl Try.underlying73 info9 rfl (by decide) (by omega) u4 x4_1 (a0.extract ((ji13) : Int).toNat ((wrap64 ((ji13) + (wrap64 (bt a0 x5_1)))) : Int).toNat) [.string (a0.extract ((ji13) : Int).toNat ((wrap64 ((ji13) + (wrap64 (bt a0 x5_1)))) : Int).toNat)] (fun _ => True) (fun _ => False) rfl rfl ?aP (fun _ hk => hk.elim) ?aF ?aO ?aB ?aS ?aL ?_; (case aP => exact rfl); (case aB => exact (by repeat (first | (with_reducible first | exact HB.out | apply below_alloc | apply pw_below_drewN | apply below_drew1) | exact HB.out))); (case aF => exact (fun _ _ => trivial)); (case aO => exact (by (with_reducible repeat (first | apply Kd.R_alloc | apply Kd.R_drewN | apply Kd.R_drew)); exact HO_4.out)); (case aS => exact (below_size (by repeat (first | (with_reducible first | exact HB.out | apply below_alloc | apply pw_below_drewN | apply below_drew1) | exact HB.out)))); (case aL => have := LMc17.out; omega); intro v168 w18 ho hb hg hat; rw [← Ny167.out] at ho; have n0_ := Aside0.mk (hb); have n1_ := Aside0.mk (ho); clear HB; clear HO_4; have HB := n0_; have HO169 := n1_; clear n0_ n1_; clear ho hb hg hat)); try go_wp2_with (first | ((with_reducible refine gate_builtin (b := .append) (xs := #[.tmp 35, .tmp 44]) rfl ?_); (try (refine gate_guard (by rfl) ?_; dsimp only)); at_builtin; refine Kd.R_append Kd.string (w0 := w) w.heap.size rfl (.tmp 35) (.tmp 44) 73 9 (.string ⟨#[]⟩) 16 rfl Try.underlying73 info9 rfl (by decide) (by omega) u4 x4_1 (a0.extract ((ji13) : Int).toNat ((wrap64 ((ji13) + (wrap64 (bt a0 x5_1)))) : Int).toNat) [.string (a0.extract ((ji13) : Int).toNat ((wrap64 ((ji13) + (wrap64 (bt a0 x5_1)))) : Int).toNat)] (fun _ => True) (fun _ => False) rfl rfl ?aP (fun _ hk => hk.elim) ?aF ?aO ?aB ?aS ?aL ?_; (case aP => exact rfl); (case aB => exact (by repeat (first | (with_reducible first | exact HB.out | apply below_alloc | apply pw_below_drewN | apply below_drew1) | exact HB.out))); (case aF => exact (fun _ _ => trivial)); (case aO => exact (by (with_reducible repeat (first | apply Kd.R_alloc | apply Kd.R_drewN | apply Kd.R_drew)); exact HO_4.out)); (case aS => exact (below_size (by repeat (first | (with_reducible first | exact HB.out | apply below_alloc | apply pw_below_drewN | apply below_drew1) | exact HB.out)))); (case aL => have := LMc17.out; omega); intro v168 w18 ho hb hg hat; rw [← Ny167.out] at ho; have n0_ := Aside0.mk (hb); have n1_ := Aside0.mk (ho); clear HB; clear HO_4; have HB := n0_; have HO169 := n1_; clear n0_ n1_; clear ho hb hg hat)))
                              go_roundg kj2
                              case measure => have := HK1.out; have := HJ2.out; omega
                              case rel => exact ⟨(y167), (wrap64 (x5_1 + (wrap64 (1 + (wrap64 (bt a0 x5_1)))))), (by first | rfl | (simp; done) | (simp [*]; done)), H', ⟨by have := HK1.out; have := HJ2.out; omega⟩, ⟨by (with_reducible repeat (first | apply Kd.R_alloc | apply Kd.R_drewN | apply Kd.R_drew)); exact HO169.out⟩, ⟨by repeat (first | (with_reducible first | exact HB.out | apply below_alloc | apply pw_below_drewN | apply below_drew1) | exact HB.out)⟩⟩
                            · rw [if_neg c17] at H
                              exact absurd H (by simp)
                          · rw [if_neg c16] at H
                            exact absurd H (by simp)
                        · rw [if_neg c15] at H
                          exact absurd H (by simp)
                      · rw [if_neg c14] at H
                        exact absurd H (by simp)
                · rw [if_neg c9] at H
                  exact absurd H (by simp)
              · rw [if_neg c8] at H
                exact absurd H (by simp)
            · replace c7 := Bool.eq_false_iff.mpr c7
              subst c7
              have H1 : (if x5_1 = (wrap64 ((a0.size : Int) - 1)) then (if 0 ≤ x5_1 then (if x5_1 < (a0.size : Int) then (some (x4_1, ((bt a0 x5_1) == 0))) else (none)) else (none)) else (some (x4_1, false))) = some (r1, r2) := by rw [if_neg (show ¬ (false = true) by decide)] at H; exact H
              clear H
              have H := H1
              clear H1
              by_cases c19 : x5_1 = (wrap64 ((a0.size : Int) - 1))
              · rw [if_pos c19] at H
                have c19b0 : (x5_1 == (wrap64 ((a0.size : Int) - 1))) = true := beq_iff_eq.mpr c19
                have c19b1 : (x5_1 != (wrap64 ((a0.size : Int) - 1))) = false := bne_eq_false_iff_eq.mpr c19
                clear c19
                by_cases c20 : 0 ≤ x5_1
                · rw [if_pos c20] at H
                  have c20b0 : decide (0 ≤ x5_1) = true := decide_eq_true c20
                  clear c20
                  by_cases c21 : x5_1 < (a0.size : Int)
                  · rw [if_pos c21] at H
                    have c21b0 : decide (x5_1 < (a0.size : Int)) = true := decide_eq_true c21
                    clear c21
                    simp only [Option.some.injEq, Prod.mk.injEq] at H
                    obtain ⟨rfl, rfl⟩ := H
                    have p22 : 0 ≤ (x5_1 : Int) := of_decide_eq_true (by first | (with_reducible assumption) | assumption)
                    have q22 : x5_1 < (a0.size : Int) := of_decide_eq_true (by first | (with_reducible assumption) | assumption)
                    have hx22 := bt_at a0 x5_1
                    replace p22 := eq_true p22
                    replace q22 := eq_true q22
                    go_wp2
                    repeat (go_quiet (fail); try go_wp2)
                    go_ret2
                    exact ⟨_, by first | rfl | (simp [errW_none, errW_some] <;> rfl) | (simp [*, errW_none, errW_some] <;> rfl), by (with_reducible repeat (first | apply Kd.R_alloc | apply Kd.R_drewN | apply Kd.R_drew)); exact HO_4.out, by repeat (first | (with_reducible first | exact HB.out | apply below_alloc | apply pw_below_drewN | apply below_drew1) | exact HB.out)⟩
                  · rw [if_neg c21] at H
                    exact absurd H (by simp)
                · rw [if_neg c20] at H
                  exact absurd H (by simp)
              · rw [if_neg c19] at H
                have c19b0 : (x5_1 == (wrap64 ((a0.size : Int) - 1))) = false := beq_eq_false_iff_ne.mpr c19
                have c19b1 : (x5_1 != (wrap64 ((a0.size : Int) - 1))) = true := bne_iff_ne.mpr c19
                simp only [Option.some.injEq, Prod.mk.injEq] at H
                obtain ⟨rfl, rfl⟩ := H
                go_wp2
                repeat (go_quiet (fail); try go_wp2)
                go_ret2
                exact ⟨_, by first | rfl | (simp [errW_none, errW_some] <;> rfl) | (simp [*, errW_none, errW_some] <;> rfl), by (with_reducible repeat (first | apply Kd.R_alloc | apply Kd.R_drewN | apply Kd.R_drew)); exact HO_4.out, by repeat (first | (with_reducible first | exact HB.out | apply below_alloc | apply pw_below_drewN | apply below_drew1) | exact HB.out)⟩

/-! ### beadrollref07_Right -/
def beadrollref07_Right.f (k : Nat) (a0 : ByteArray) : Option (Bool) := (beadrollref07_Labels.f k a0).bind fun bt170 => (some bt170.2)
theorem beadrollref07_Right.mono : ∀ a0 k, LeO (beadrollref07_Right.f k a0) (beadrollref07_Right.f (k + 1) a0) := by
  intro a0 k
  unfold beadrollref07_Right.f
  repeat' first
      | (with_reducible exact beadrollref07_Labels.mono _ _)
      | (with_reducible exact LeO.refl _)
      | (with_reducible exact LeO.none _)
      | (with_reducible refine LeO.ite ?_ ?_)
      | (with_reducible refine LeO.bind ?_ (fun _ => ?_))
      | exact beadrollref07_Labels.mono _ _
      | exact LeO.none _
      | refine LeO.ite ?_ ?_
      | refine LeO.bind ?_ (fun _ => ?_)
set_option maxHeartbeats 8000000 in
set_option maxRecDepth 100000 in
theorem beadrollref07_Right.calls (k : Nat) (a0 : ByteArray) (r : Bool) (w : World) (h : beadrollref07_Right.f k a0 = some r) :
    Calls Try.prog 57 #[.string a0] w fun e w' => e = .returned (.bool r) ∧ Below w.heap.size w w' := by
  have HB := Aside0.mk (Below.refl w.heap.size w)
  have H : ((beadrollref07_Labels.f k a0).bind fun bt170 => (some bt170.2)) = some r := h
  clear h
  replace H := Option.bind_eq_some_iff.mp H
  obtain ⟨⟨t170, t171⟩, A20, H⟩ := H
  replace H : (some t171) = some r := H
  have A2 := Aside0.mk A20
  clear A20
  obtain rfl := Option.some.inj H
  go_enter Try.func57, Try.ntmps57
  go_wp2_with (first | ((with_reducible refine gate_callee (f := 107) rfl ?_); refine goesL_ (some 7) rfl rfl Try.func107 (by kernel_rfl) rfl #[.string a0] rfl (by (try simp only [List.map_toArray, List.map_cons, List.map_nil]); first | done | rfl | (simp only [List.length_drop, List.length_take]; rfl)) ?_; (with_reducible refine (beadrollref07_Labels.calls k a0 t170 t171 _ A2.out).mono ?_); rintro e w3 ⟨v172, rfl, ho0, hb⟩; refine ⟨_, rfl, ?_⟩; have n0_ := Aside0.mk (Kd.R_lower ho0 (below_size (by repeat (first | (with_reducible first | exact HB.out | apply below_alloc | apply pw_below_drewN | apply below_drew1) | exact HB.out)))); have n1_ := Aside0.mk (below_step (by repeat (first | (with_reducible first | exact HB.out | apply below_alloc | apply pw_below_drewN | apply below_drew1) | exact HB.out)) hb); clear HB; have HO173 := n0_; have HB := n1_; clear n0_ n1_; (try clear hb); (try clear hb2); (try clear hk); (try clear hi); (try clear ho0)))
  go_ret
  exact ⟨by first | rfl | (simp [errW_none, errW_some] <;> rfl) | (simp [*, errW_none, errW_some] <;> rfl), by repeat (first | (with_reducible first | exact HB.out | apply below_alloc | apply pw_below_drewN | apply below_drew1) | exact HB.out)⟩

/-! ### beadrollref11_typed -/
def beadrollref11_typed.f (a0 : Int) (a1 : Bool) : Option (Bool) := if a0 = 1 then (some true) else (if a0 = 254 then (some (!a1)) else (some false))
set_option maxHeartbeats 8000000 in
set_option maxRecDepth 100000 in
theorem beadrollref11_typed.calls (a0 : Int) (a1 : Bool) (r : Bool) (w : World) (h : beadrollref11_typed.f a0 a1 = some r) :
    Calls Try.prog 89 #[.int .i64 a0, .bool a1] w fun e w' => e = .returned (.bool r) ∧ Drawn0 w w' := by
  have H : (if a0 = 1 then (some true) else (if a0 = 254 then (some (!a1)) else (some false))) = some r := h
  clear h
  by_cases c3 : a0 = 1
  · rw [if_pos c3] at H
    have c3b0 : (a0 == 1) = true := beq_iff_eq.mpr c3
    have c3b1 : (a0 != 1) = false := bne_eq_false_iff_eq.mpr c3
    clear c3
    obtain rfl := Option.some.inj H
    go_enter Try.func89, Try.ntmps89
    go_wp2
    go_ret
    exact ⟨by first | rfl | (simp; done) | (simp [*]; done), by repeat (first | exact Drawn0.refl _ | apply Drawn0.step)⟩
  · rw [if_neg c3] at H
    have c3b0 : (a0 == 1) = false := beq_eq_false_iff_ne.mpr c3
    have c3b1 : (a0 != 1) = true := bne_iff_ne.mpr c3
    by_cases c4 : a0 = 254
    · rw [if_pos c4] at H
      have c4b0 : (a0 == 254) = true := beq_iff_eq.mpr c4
      have c4b1 : (a0 != 254) = false := bne_eq_false_iff_eq.mpr c4
      clear c4
      obtain rfl := Option.some.inj H
      go_enter Try.func89, Try.ntmps89
      go_wp2
      go_ret
      exact ⟨by first | rfl | (simp; done) | (simp [*]; done), by repeat (first | exact Drawn0.refl _ | apply Drawn0.step)⟩
    · rw [if_neg c4] at H
      have c4b0 : (a0 == 254) = false := beq_eq_false_iff_ne.mpr c4
      have c4b1 : (a0 != 254) = true := bne_iff_ne.mpr c4
      obtain rfl := Option.some.inj H
      go_enter Try.func89, Try.ntmps89
      go_wp2
      go_ret
      exact ⟨by first | rfl | (simp; done) | (simp [*]; done), by repeat (first | exact Drawn0.refl _ | apply Drawn0.step)⟩

/-! ### beadrollref10_Parts -/
def beadrollref10_Parts.j0 : Nat → Int → Bool → Option (ByteArray)
  | 0, _, _ => none
  | k + 1, x3, x8 => if x8 = true then (some (⟨#[110]⟩ : ByteArray)) else (if x3 = 15 then (some (⟨#[50, 110]⟩ : ByteArray)) else (if x3 = 6 then (some (⟨#[110, 110, 52, 52, 52, 52, 52]⟩ : ByteArray)) else (if x3 = 16 then (some (⟨#[116]⟩ : ByteArray)) else (if x3 = 33 then (some (⟨#[50, 50, 50, 117]⟩ : ByteArray)) else (some (⟨#[111]⟩ : ByteArray))))))
def beadrollref10_Parts.f (k : Nat) (a0 : Int) : Option (ByteArray) := if a0 = 1 then (some (⟨#[52]⟩ : ByteArray)) else (if a0 = 28 then (some (⟨#[104]⟩ : ByteArray)) else (if a0 = 2 then (beadrollref10_Parts.j0 k a0 (a0 == 2)) else (if a0 = 5 then (beadrollref10_Parts.j0 k a0 (a0 == 5)) else (beadrollref10_Parts.j0 k a0 (a0 == 12)))))
theorem beadrollref10_Parts.mono_l : ∀ k, (∀ y0 y1, LeO (beadrollref10_Parts.j0 k y0 y1) (beadrollref10_Parts.j0 (k + 1) y0 y1))
  | 0 => fun _ _ r h => by simp [beadrollref10_Parts.j0] at h
  | k + 1 => by
    have ih0 := beadrollref10_Parts.mono_l k
    · intro y0 y1
      unfold beadrollref10_Parts.j0
      repeat' first
      | (with_reducible exact ih0 _ _)
      | (with_reducible exact LeO.refl _)
      | (with_reducible exact LeO.none _)
      | (with_reducible refine LeO.ite ?_ ?_)
      | (with_reducible refine LeO.bind ?_ (fun _ => ?_))
      | exact ih0 _ _
      | exact LeO.none _
      | refine LeO.ite ?_ ?_
      | refine LeO.bind ?_ (fun _ => ?_)
theorem beadrollref10_Parts.mono : ∀ a0 k, LeO (beadrollref10_Parts.f k a0) (beadrollref10_Parts.f (k + 1) a0) := by
  intro a0 k
  have ih0 := beadrollref10_Parts.mono_l k
  unfold beadrollref10_Parts.f
  repeat' first
      | (with_reducible exact ih0 _ _)
      | (with_reducible exact LeO.refl _)
      | (with_reducible exact LeO.none _)
      | (with_reducible refine LeO.ite ?_ ?_)
      | (with_reducible refine LeO.bind ?_ (fun _ => ?_))
      | exact ih0 _ _
      | exact LeO.none _
      | refine LeO.ite ?_ ?_
      | refine LeO.bind ?_ (fun _ => ?_)
set_option maxHeartbeats 8000000 in
set_option maxRecDepth 100000 in
theorem beadrollref10_Parts.calls (k : Nat) (a0 : Int) (r : ByteArray) (w : World) (h : beadrollref10_Parts.f k a0 = some r) :
    Calls Try.prog 169 #[.int .i64 a0] w fun e w' => e = .returned (.string r) ∧ Drawn0 w w' := by
  have H : (if a0 = 1 then (some (⟨#[52]⟩ : ByteArray)) else (if a0 = 28 then (some (⟨#[104]⟩ : ByteArray)) else (if a0 = 2 then (beadrollref10_Parts.j0 k a0 (a0 == 2)) else (if a0 = 5 then (beadrollref10_Parts.j0 k a0 (a0 == 5)) else (beadrollref10_Parts.j0 k a0 (a0 == 12)))))) = some r := h
  clear h
  by_cases c2 : a0 = 1
  · rw [if_pos c2] at H
    have c2b0 : (a0 == 1) = true := beq_iff_eq.mpr c2
    have c2b1 : (a0 != 1) = false := bne_eq_false_iff_eq.mpr c2
    clear c2
    obtain rfl := Option.some.inj H
    go_enter Try.func169, Try.ntmps169
    go_wp2
    go_ret
    exact ⟨by first | rfl | (simp; done) | (simp [*]; done), by repeat (first | exact Drawn0.refl _ | apply Drawn0.step)⟩
  · rw [if_neg c2] at H
    have c2b0 : (a0 == 1) = false := beq_eq_false_iff_ne.mpr c2
    have c2b1 : (a0 != 1) = true := bne_iff_ne.mpr c2
    by_cases c3 : a0 = 28
    · rw [if_pos c3] at H
      have c3b0 : (a0 == 28) = true := beq_iff_eq.mpr c3
      have c3b1 : (a0 != 28) = false := bne_eq_false_iff_eq.mpr c3
      clear c3
      obtain rfl := Option.some.inj H
      go_enter Try.func169, Try.ntmps169
      go_wp2
      go_ret
      exact ⟨by first | rfl | (simp; done) | (simp [*]; done), by repeat (first | exact Drawn0.refl _ | apply Drawn0.step)⟩
    · rw [if_neg c3] at H
      have c3b0 : (a0 == 28) = false := beq_eq_false_iff_ne.mpr c3
      have c3b1 : (a0 != 28) = true := bne_iff_ne.mpr c3
      have HC4 := Aside0.mk H
      clear H
      go_enter Try.func169, Try.ntmps169
      go_upto_if 8 with (fail)
      go_cut [8] (fun v8 wc => ∃ (kq : Nat) (x8_3 : Bool), v8 = .bool x8_3 ∧ Aside0 (beadrollref10_Parts.j0 kq a0 x8_3 = some r) ∧ Aside0 (kq ≤ k) ∧ Drawn0 w wc)
      case first =>
        have H := HC4.out
        clear HC4
        by_cases c5 : a0 = 2
        · rw [if_pos c5] at H
          have c5b0 : (a0 == 2) = true := beq_iff_eq.mpr c5
          have c5b1 : (a0 != 2) = false := bne_eq_false_iff_eq.mpr c5
          clear c5
          (first | rw [c5b0] | (simp only [i64_w, i32_w]; rw [c5b0]) | skip)
          have H' := Aside0.mk H
          clear H
          go_wp2
          go_meet
          case rel => exact ⟨_, ((a0 == 2)), (by first | rfl | (simp; done) | (simp [*]; done)), H', ⟨by first | omega | exact Nat.le_refl _⟩, by repeat (first | exact Drawn0.refl _ | apply Drawn0.step)⟩
        · rw [if_neg c5] at H
          have c5b0 : (a0 == 2) = false := beq_eq_false_iff_ne.mpr c5
          have c5b1 : (a0 != 2) = true := bne_iff_ne.mpr c5
          (first | rw [c5b0] | (simp only [i64_w, i32_w]; rw [c5b0]) | skip)
          by_cases c6 : a0 = 5
          · rw [if_pos c6] at H
            have c6b0 : (a0 == 5) = true := beq_iff_eq.mpr c6
            have c6b1 : (a0 != 5) = false := bne_eq_false_iff_eq.mpr c6
            clear c6
            have H' := Aside0.mk H
            clear H
            go_wp2
            go_meet
            case rel => exact ⟨_, ((a0 == 5)), (by first | rfl | (simp; done) | (simp [*]; done)), H', ⟨by first | omega | exact Nat.le_refl _⟩, by repeat (first | exact Drawn0.refl _ | apply Drawn0.step)⟩
          · rw [if_neg c6] at H
            have c6b0 : (a0 == 5) = false := beq_eq_false_iff_ne.mpr c6
            have c6b1 : (a0 != 5) = true := bne_iff_ne.mpr c6
            have H' := Aside0.mk H
            clear H
            go_wp2
            go_meet
            case rel => exact ⟨_, ((a0 == 12)), (by first | rfl | (simp; done) | (simp [*]; done)), H', ⟨by first | omega | exact Nat.le_refl _⟩, by repeat (first | exact Drawn0.refl _ | apply Drawn0.step)⟩
      case rest =>
        clear HC4
        try clear c1
        try clear c2
        try clear c2b0
        try clear c2b1
        try clear p2
        try clear c3
        try clear c3b0
        try clear c3b1
        try clear c5
        try clear c5b0
        try clear c5b1
        try clear c6
        try clear c6b0
        try clear c6b1
        obtain ⟨kq, x8_3, rfl, HA, HJ3, ⟨mc3, rfl⟩⟩ := hcut
        cases kq with
        | zero => exact absurd HA.out (by simp [beadrollref10_Parts.j0])
        | succ kj3 =>
          have H := HA.out
          clear HA
          simp only [beadrollref10_Parts.j0] at H
          by_cases c7 : x8_3 = true
          · subst c7
            have H1 : (some (⟨#[110]⟩ : ByteArray)) = some r := by rw [if_pos rfl] at H; exact H
            clear H
            have H := H1
            clear H1
            obtain rfl := Option.some.inj H
            go_wp2
            go_ret
            exact ⟨by first | rfl | (simp; done) | (simp [*]; done), by repeat (first | exact Drawn0.refl _ | apply Drawn0.step)⟩
          · replace c7 := Bool.eq_false_iff.mpr c7
            subst c7
            have H1 : (if a0 = 15 then (some (⟨#[50, 110]⟩ : ByteArray)) else (if a0 = 6 then (some (⟨#[110, 110, 52, 52, 52, 52, 52]⟩ : ByteArray)) else (if a0 = 16 then (some (⟨#[116]⟩ : ByteArray)) else (if a0 = 33 then (some (⟨#[50, 50, 50, 117]⟩ : ByteArray)) else (some (⟨#[111]⟩ : ByteArray)))))) = some r := by rw [if_neg (show ¬ (false = true) by decide)] at H; exact H
            clear H
            have H := H1
            clear H1
            by_cases c8 : a0 = 15
            · rw [if_pos c8] at H
              have c8b0 : (a0 == 15) = true := beq_iff_eq.mpr c8
              have c8b1 : (a0 != 15) = false := bne_eq_false_iff_eq.mpr c8
              clear c8
              obtain rfl := Option.some.inj H
              go_wp2
              go_ret
              exact ⟨by first | rfl | (simp; done) | (simp [*]; done), by repeat (first | exact Drawn0.refl _ | apply Drawn0.step)⟩
            · rw [if_neg c8] at H
              have c8b0 : (a0 == 15) = false := beq_eq_false_iff_ne.mpr c8
              have c8b1 : (a0 != 15) = true := bne_iff_ne.mpr c8
              by_cases c9 : a0 = 6
              · rw [if_pos c9] at H
                have c9b0 : (a0 == 6) = true := beq_iff_eq.mpr c9
                have c9b1 : (a0 != 6) = false := bne_eq_false_iff_eq.mpr c9
                clear c9
                obtain rfl := Option.some.inj H
                go_wp2
                go_ret
                exact ⟨by first | rfl | (simp; done) | (simp [*]; done), by repeat (first | exact Drawn0.refl _ | apply Drawn0.step)⟩
              · rw [if_neg c9] at H
                have c9b0 : (a0 == 6) = false := beq_eq_false_iff_ne.mpr c9
                have c9b1 : (a0 != 6) = true := bne_iff_ne.mpr c9
                by_cases c10 : a0 = 16
                · rw [if_pos c10] at H
                  have c10b0 : (a0 == 16) = true := beq_iff_eq.mpr c10
                  have c10b1 : (a0 != 16) = false := bne_eq_false_iff_eq.mpr c10
                  clear c10
                  obtain rfl := Option.some.inj H
                  go_wp2
                  go_ret
                  exact ⟨by first | rfl | (simp; done) | (simp [*]; done), by repeat (first | exact Drawn0.refl _ | apply Drawn0.step)⟩
                · rw [if_neg c10] at H
                  have c10b0 : (a0 == 16) = false := beq_eq_false_iff_ne.mpr c10
                  have c10b1 : (a0 != 16) = true := bne_iff_ne.mpr c10
                  by_cases c11 : a0 = 33
                  · rw [if_pos c11] at H
                    have c11b0 : (a0 == 33) = true := beq_iff_eq.mpr c11
                    have c11b1 : (a0 != 33) = false := bne_eq_false_iff_eq.mpr c11
                    clear c11
                    obtain rfl := Option.some.inj H
                    go_wp2
                    go_ret
                    exact ⟨by first | rfl | (simp; done) | (simp [*]; done), by repeat (first | exact Drawn0.refl _ | apply Drawn0.step)⟩
                  · rw [if_neg c11] at H
                    have c11b0 : (a0 == 33) = false := beq_eq_false_iff_ne.mpr c11
                    have c11b1 : (a0 != 33) = true := bne_iff_ne.mpr c11
                    obtain rfl := Option.some.inj H
                    go_wp2
                    go_ret
                    exact ⟨by first | rfl | (simp; done) | (simp [*]; done), by repeat (first | exact Drawn0.refl _ | apply Drawn0.step)⟩

/-! ### beadrollref09_Read -/
mutual
def beadrollref09_Read.j0 : Nat → ByteArray → Int → Bool → Option (ByteArray × Int × Int)
  | 0, _, _, _ => none
  | k + 1, x0, x1, x19 => if x19 = true then (some ((⟨#[]⟩ : ByteArray), 0, 1)) else (beadrollref09_Read.l0 k x0 x1 (⟨#[]⟩ : ByteArray) (-1) x1)
def beadrollref09_Read.l0 : Nat → ByteArray → Int → ByteArray → Int → Int → Option (ByteArray × Int × Int)
  | 0, _, _, _, _, _ => none
  | k + 1, x0, x1, x7, x8, x9 => if x1 < (x0.size : Int) then (beadrollref09_Read.j2 k x0 x1 x7 x8 x9 (decide ((x7.size : Int) < 300))) else (beadrollref09_Read.j2 k x0 x1 x7 x8 x9 false)
def beadrollref09_Read.j2 : Nat → ByteArray → Int → ByteArray → Int → Int → Bool → Option (ByteArray × Int × Int)
  | 0, _, _, _, _, _, _ => none
  | k + 1, x0, x1, x7, x8, x9, x29 => if x29 = true then (if 0 ≤ x1 then (if x1 < (x0.size : Int) then (if (wrap64 (bt x0 x1)) = 0 then (if x7.size + 1 ≤ 9223372036854775807 then (if x8 < 0 then ((beadrollref07_Right.f k (x7 ++ (⟨#[0]⟩ : ByteArray))).bind fun t174 => (if t174 = true then (some (x7 ++ (⟨#[0]⟩ : ByteArray), wrap64 (x1 + 1), 0)) else (some ((⟨#[]⟩ : ByteArray), 0, 2)))) else ((beadrollref07_Right.f k (x7 ++ (⟨#[0]⟩ : ByteArray))).bind fun t175 => (if t175 = true then (some (x7 ++ (⟨#[0]⟩ : ByteArray), x8, 0)) else (some ((⟨#[]⟩ : ByteArray), 0, 2))))) else (none)) else (if (wrap64 (bt x0 x1)) ≥ 192 then (if (wrap64 (x1 + 1)) ≥ (x0.size : Int) then (some ((⟨#[]⟩ : ByteArray), 0, 2)) else (if 0 ≤ (wrap64 (x1 + 1)) then (if (wrap64 (x1 + 1)) < (x0.size : Int) then (if (wrap64 ((wrap64 ((wrap64 ((wrap64 (bt x0 x1)) - 192)) * 256)) + (wrap64 (bt x0 (wrap64 (x1 + 1)))))) ≥ x9 then (some ((⟨#[]⟩ : ByteArray), 0, 2)) else (if x8 < 0 then (beadrollref09_Read.l0 k x0 (wrap64 ((wrap64 ((wrap64 ((wrap64 (bt x0 x1)) - 192)) * 256)) + (wrap64 (bt x0 (wrap64 (x1 + 1)))))) x7 (wrap64 (x1 + 2)) (wrap64 ((wrap64 ((wrap64 ((wrap64 (bt x0 x1)) - 192)) * 256)) + (wrap64 (bt x0 (wrap64 (x1 + 1))))))) else (beadrollref09_Read.l0 k x0 (wrap64 ((wrap64 ((wrap64 ((wrap64 (bt x0 x1)) - 192)) * 256)) + (wrap64 (bt x0 (wrap64 (x1 + 1)))))) x7 x8 (wrap64 ((wrap64 ((wrap64 ((wrap64 (bt x0 x1)) - 192)) * 256)) + (wrap64 (bt x0 (wrap64 (x1 + 1))))))))) else (none)) else (none))) else (if (wrap64 (bt x0 x1)) ≥ 64 then (some ((⟨#[]⟩ : ByteArray), 0, 2)) else (if (wrap64 ((wrap64 (x1 + 1)) + (wrap64 (bt x0 x1)))) > (x0.size : Int) then (some ((⟨#[]⟩ : ByteArray), 0, 2)) else (if x1 ≤ (wrap64 ((wrap64 (x1 + 1)) + (wrap64 (bt x0 x1)))) then (if (wrap64 ((wrap64 (x1 + 1)) + (wrap64 (bt x0 x1)))) ≤ (x0.size : Int) then (if x7.size + (x0.extract (x1 : Int).toNat ((wrap64 ((wrap64 (x1 + 1)) + (wrap64 (bt x0 x1)))) : Int).toNat).size ≤ 9223372036854775807 then (beadrollref09_Read.l0 k x0 (wrap64 (x1 + (wrap64 (1 + (wrap64 (bt x0 x1)))))) (x7 ++ (x0.extract (x1 : Int).toNat ((wrap64 ((wrap64 (x1 + 1)) + (wrap64 (bt x0 x1)))) : Int).toNat)) x8 x9) else (none)) else (none)) else (none)))))) else (none)) else (none)) else (some ((⟨#[]⟩ : ByteArray), 0, 2))
end
def beadrollref09_Read.f (k : Nat) (a0 : ByteArray) (a1 : Int) : Option (ByteArray × Int × Int) := if a1 < 0 then (beadrollref09_Read.j0 k a0 a1 true) else (beadrollref09_Read.j0 k a0 a1 (decide (a1 > (a0.size : Int))))
theorem beadrollref09_Read.mono_l : ∀ k, (∀ y0 y1 y2, LeO (beadrollref09_Read.j0 k y0 y1 y2) (beadrollref09_Read.j0 (k + 1) y0 y1 y2)) ∧ (∀ y0 y1 y2 y3 y4, LeO (beadrollref09_Read.l0 k y0 y1 y2 y3 y4) (beadrollref09_Read.l0 (k + 1) y0 y1 y2 y3 y4)) ∧ (∀ y0 y1 y2 y3 y4 y5, LeO (beadrollref09_Read.j2 k y0 y1 y2 y3 y4 y5) (beadrollref09_Read.j2 (k + 1) y0 y1 y2 y3 y4 y5))
  | 0 => ⟨fun _ _ _ r h => by simp [beadrollref09_Read.j0] at h, fun _ _ _ _ _ r h => by simp [beadrollref09_Read.l0] at h, fun _ _ _ _ _ _ r h => by simp [beadrollref09_Read.j2] at h⟩
  | k + 1 => by
    obtain ⟨ih0, ih1, ih2⟩ := beadrollref09_Read.mono_l k
    refine ⟨?_, ?_, ?_⟩
    · intro y0 y1 y2
      unfold beadrollref09_Read.j0
      repeat' first
      | (with_reducible exact ih0 _ _ _)
      | (with_reducible exact ih1 _ _ _ _ _)
      | (with_reducible exact ih2 _ _ _ _ _ _)
      | (with_reducible exact beadrollref07_Right.mono _ _)
      | (with_reducible exact LeO.refl _)
      | (with_reducible exact LeO.none _)
      | (with_reducible refine LeO.ite ?_ ?_)
      | (with_reducible refine LeO.bind ?_ (fun _ => ?_))
      | exact ih0 _ _ _
      | exact ih1 _ _ _ _ _
      | exact ih2 _ _ _ _ _ _
      | exact beadrollref07_Right.mono _ _
      | exact LeO.none _
      | refine LeO.ite ?_ ?_
      | refine LeO.bind ?_ (fun _ => ?_)
    · intro y0 y1 y2 y3 y4
      unfold beadrollref09_Read.l0
      repeat' first
      | (with_reducible exact ih0 _ _ _)
      | (with_reducible exact ih1 _ _ _ _ _)
      | (with_reducible exact ih2 _ _ _ _ _ _)
      | (with_reducible exact beadrollref07_Right.mono _ _)
      | (with_reducible exact LeO.refl _)
      | (with_reducible exact LeO.none _)
      | (with_reducible refine LeO.ite ?_ ?_)
      | (with_reducible refine LeO.bind ?_ (fun _ => ?_))
      | exact ih0 _ _ _
      | exact ih1 _ _ _ _ _
      | exact ih2 _ _ _ _ _ _
      | exact beadrollref07_Right.mono _ _
      | exact LeO.none _
      | refine LeO.ite ?_ ?_
      | refine LeO.bind ?_ (fun _ => ?_)
    · intro y0 y1 y2 y3 y4 y5
      unfold beadrollref09_Read.j2
      repeat' first
      | (with_reducible exact ih0 _ _ _)
      | (with_reducible exact ih1 _ _ _ _ _)
      | (with_reducible exact ih2 _ _ _ _ _ _)
      | (with_reducible exact beadrollref07_Right.mono _ _)
      | (with_reducible exact LeO.refl _)
      | (with_reducible exact LeO.none _)
      | (with_reducible refine LeO.ite ?_ ?_)
      | (with_reducible refine LeO.bind ?_ (fun _ => ?_))
      | exact ih0 _ _ _
      | exact ih1 _ _ _ _ _
      | exact ih2 _ _ _ _ _ _
      | exact beadrollref07_Right.mono _ _
      | exact LeO.none _
      | refine LeO.ite ?_ ?_
      | refine LeO.bind ?_ (fun _ => ?_)
theorem beadrollref09_Read.mono : ∀ a0 a1 k, LeO (beadrollref09_Read.f k a0 a1) (beadrollref09_Read.f (k + 1) a0 a1) := by
  intro a0 a1 k
  obtain ⟨ih0, ih1, ih2⟩ := beadrollref09_Read.mono_l k
  unfold beadrollref09_Read.f
  repeat' first
      | (with_reducible exact ih0 _ _ _)
      | (with_reducible exact ih1 _ _ _ _ _)
      | (with_reducible exact ih2 _ _ _ _ _ _)
      | (with_reducible exact beadrollref07_Right.mono _ _)
      | (with_reducible exact LeO.refl _)
      | (with_reducible exact LeO.none _)
      | (with_reducible refine LeO.ite ?_ ?_)
      | (with_reducible refine LeO.bind ?_ (fun _ => ?_))
      | exact ih0 _ _ _
      | exact ih1 _ _ _ _ _
      | exact ih2 _ _ _ _ _ _
      | exact beadrollref07_Right.mono _ _
      | exact LeO.none _
      | refine LeO.ite ?_ ?_
      | refine LeO.bind ?_ (fun _ => ?_)
set_option maxHeartbeats 8000000 in
set_option maxRecDepth 100000 in
theorem beadrollref09_Read.calls (k : Nat) (a0 : ByteArray) (a1 : Int) (r1 : ByteArray) (r2 : Int) (r3 : Int) (w : World) (h : beadrollref09_Read.f k a0 a1 = some (r1, r2, r3)) :
    Calls Try.prog 170 #[.string a0, .int .i64 a1] w fun e w' => e = .returned (.tuple #[.string r1, .int .i64 r2, .int .i64 r3]) ∧ Below w.heap.size w w' := by
  have HB := Aside0.mk (Below.refl w.heap.size w)
  have H : (if a1 < 0 then (beadrollref09_Read.j0 k a0 a1 true) else (beadrollref09_Read.j0 k a0 a1 (decide (a1 > (a0.size : Int))))) = some (r1, r2, r3) := h
  clear h
  have HC3 := Aside0.mk H
  clear H
  go_enter Try.func170, Try.ntmps170
  go_upto_region 1 with (fail)
  go_cut [19] (fun v19 wc => ∃ (kq : Nat) (x19_2 : Bool), v19 = .bool x19_2 ∧ Aside0 (beadrollref09_Read.j0 kq a0 a1 x19_2 = some (r1, r2, r3)) ∧ Aside0 (kq ≤ k) ∧ Aside0 (Below w.heap.size w wc))
  case first =>
    have H := HC3.out
    clear HC3
    by_cases c4 : a1 < 0
    · rw [if_pos c4] at H
      have c4b0 : decide (a1 < 0) = true := decide_eq_true c4
      clear c4
      (first | rw [c4b0] | (simp only [i64_w, i32_w]; rw [c4b0]) | skip)
      have H' := Aside0.mk H
      clear H
      go_wp2
      go_meet
      case rel => exact ⟨_, (true), (by first | rfl | (simp; done) | (simp [*]; done)), H', ⟨by first | omega | exact Nat.le_refl _⟩, ⟨by repeat (first | (with_reducible first | exact HB.out | apply below_alloc | apply pw_below_drewN | apply below_drew1) | exact HB.out)⟩⟩
    · rw [if_neg c4] at H
      have c4b0 : decide (a1 < 0) = false := decide_eq_false c4
      clear c4
      (first | rw [c4b0] | (simp only [i64_w, i32_w]; rw [c4b0]) | skip)
      have H' := Aside0.mk H
      clear H
      go_wp2
      go_meet
      case rel => exact ⟨_, (decide (a1 > (a0.size : Int))), (by first | rfl | (simp; done) | (simp [*]; done)), H', ⟨by first | omega | exact Nat.le_refl _⟩, ⟨by repeat (first | (with_reducible first | exact HB.out | apply below_alloc | apply pw_below_drewN | apply below_drew1) | exact HB.out)⟩⟩
  case rest =>
    clear HC3
    try clear c1
    try clear p2
    try clear c4
    try clear c4b0
    obtain ⟨kq, x19_2, rfl, HA, HJ2, HB⟩ := hcut
    cases kq with
    | zero => exact absurd HA.out (by simp [beadrollref09_Read.j0])
    | succ kj2 =>
      have H := HA.out
      clear HA
      simp only [beadrollref09_Read.j0] at H
      by_cases c5 : x19_2 = true
      · subst c5
        have H1 : (some ((⟨#[]⟩ : ByteArray), 0, 1)) = some (r1, r2, r3) := by rw [if_pos rfl] at H; exact H
        clear H
        have H := H1
        clear H1
        simp only [Option.some.injEq, Prod.mk.injEq] at H
        obtain ⟨rfl, rfl, rfl⟩ := H
        go_wp2
        go_ret3
        exact ⟨by first | rfl | (simp [errW_none, errW_some] <;> rfl) | (simp [*, errW_none, errW_some] <;> rfl), by repeat (first | (with_reducible first | exact HB.out | apply below_alloc | apply pw_below_drewN | apply below_drew1) | exact HB.out)⟩
      · replace c5 := Bool.eq_false_iff.mpr c5
        subst c5
        have H1 : (beadrollref09_Read.l0 kj2 a0 a1 (⟨#[]⟩ : ByteArray) (-1) a1) = some (r1, r2, r3) := by rw [if_neg (show ¬ (false = true) by decide)] at H; exact H
        clear H
        have H := H1
        clear H1
        have H' := Aside0.mk H
        clear H
        go_wp2
        go_loopg [1, 7, 8, 9] kj2 (fun kq v1 v7 v8 v9 w' => ∃ (x1_2 : Int) (x7_2 : ByteArray) (x8_2 : Int) (x9_2 : Int), v1 = .int .i64 x1_2 ∧ v7 = .string x7_2 ∧ v8 = .int .i64 x8_2 ∧ v9 = .int .i64 x9_2 ∧ Aside0 (beadrollref09_Read.l0 kq a0 x1_2 x7_2 x8_2 x9_2 = some (r1, r2, r3)) ∧ Aside0 (kq ≤ kj2) ∧ Aside0 (Below w.heap.size w w'))
        case atStart => exact ⟨(a1), ((⟨#[]⟩ : ByteArray)), ((-1)), (a1), (by first | rfl | (simp; done) | (simp [*]; done)), (by first | rfl | (simp; done) | (simp [*]; done)), (by first | rfl | (simp; done) | (simp [*]; done)), (by first | rfl | (simp; done) | (simp [*]; done)), H', ⟨Nat.le_refl _⟩, ⟨by repeat (first | (with_reducible first | exact HB.out | apply below_alloc | apply pw_below_drewN | apply below_drew1) | exact HB.out)⟩⟩
        case round =>
          clear H'
          try clear c1
          try clear p2
          try clear c4
          try clear c4b0
          try clear c5
          try clear p2
          obtain ⟨x1_2, x7_2, x8_2, x9_2, rfl, rfl, rfl, rfl, HA, HK2, HB⟩ := hrel
          cases gk with
          | zero => exact absurd HA.out (by simp [beadrollref09_Read.l0])
          | succ k2 =>
            have H := HA.out
            clear HA
            simp only [beadrollref09_Read.l0] at H
            have HC6 := Aside0.mk H
            clear H
            go_upto_region 6 with (fail)
            go_cut [29] (fun v29 wc => ∃ (kq : Nat) (x29_5 : Bool), v29 = .bool x29_5 ∧ Aside0 (beadrollref09_Read.j2 kq a0 x1_2 x7_2 x8_2 x9_2 x29_5 = some (r1, r2, r3)) ∧ Aside0 (kq ≤ k2) ∧ Aside0 (Below w.heap.size w wc))
            case first =>
              have H := HC6.out
              clear HC6
              by_cases c7 : x1_2 < (a0.size : Int)
              · rw [if_pos c7] at H
                have c7b0 : decide (x1_2 < (a0.size : Int)) = true := decide_eq_true c7
                clear c7
                (first | rw [c7b0] | (simp only [i64_w, i32_w]; rw [c7b0]) | skip)
                have H' := Aside0.mk H
                clear H
                go_wp2
                go_meet
                case rel => exact ⟨_, (decide ((x7_2.size : Int) < 300)), (by first | rfl | (simp; done) | (simp [*]; done)), H', ⟨by have := HJ2.out; have := HK2.out; first | omega | exact Nat.le_refl _⟩, ⟨by repeat (first | (with_reducible first | exact HB.out | apply below_alloc | apply pw_below_drewN | apply below_drew1) | exact HB.out)⟩⟩
              · rw [if_neg c7] at H
                have c7b0 : decide (x1_2 < (a0.size : Int)) = false := decide_eq_false c7
                clear c7
                (first | rw [c7b0] | (simp only [i64_w, i32_w]; rw [c7b0]) | skip)
                have H' := Aside0.mk H
                clear H
                go_wp2
                go_meet
                case rel => exact ⟨_, (false), (by first | rfl | (simp; done) | (simp [*]; done)), H', ⟨by have := HJ2.out; have := HK2.out; first | omega | exact Nat.le_refl _⟩, ⟨by repeat (first | (with_reducible first | exact HB.out | apply below_alloc | apply pw_below_drewN | apply below_drew1) | exact HB.out)⟩⟩
            case rest =>
              clear HC6
              try clear c1
              try clear p2
              try clear c4
              try clear c4b0
              try clear c5
              try clear c7
              try clear c7b0
              try clear p2
              obtain ⟨kq, x29_5, rfl, HA, HJ5, HB⟩ := hcut
              cases kq with
              | zero => exact absurd HA.out (by simp [beadrollref09_Read.j2])
              | succ kj5 =>
                have H := HA.out
                clear HA
                simp only [beadrollref09_Read.j2] at H
                by_cases c8 : x29_5 = true
                · subst c8
                  have H1 : (if 0 ≤ x1_2 then (if x1_2 < (a0.size : Int) then (if (wrap64 (bt a0 x1_2)) = 0 then (if x7_2.size + 1 ≤ 9223372036854775807 then (if x8_2 < 0 then ((beadrollref07_Right.f kj5 (x7_2 ++ (⟨#[0]⟩ : ByteArray))).bind fun t174 => (if t174 = true then (some (x7_2 ++ (⟨#[0]⟩ : ByteArray), wrap64 (x1_2 + 1), 0)) else (some ((⟨#[]⟩ : ByteArray), 0, 2)))) else ((beadrollref07_Right.f kj5 (x7_2 ++ (⟨#[0]⟩ : ByteArray))).bind fun t175 => (if t175 = true then (some (x7_2 ++ (⟨#[0]⟩ : ByteArray), x8_2, 0)) else (some ((⟨#[]⟩ : ByteArray), 0, 2))))) else (none)) else (if (wrap64 (bt a0 x1_2)) ≥ 192 then (if (wrap64 (x1_2 + 1)) ≥ (a0.size : Int) then (some ((⟨#[]⟩ : ByteArray), 0, 2)) else (if 0 ≤ (wrap64 (x1_2 + 1)) then (if (wrap64 (x1_2 + 1)) < (a0.size : Int) then (if (wrap64 ((wrap64 ((wrap64 ((wrap64 (bt a0 x1_2)) - 192)) * 256)) + (wrap64 (bt a0 (wrap64 (x1_2 + 1)))))) ≥ x9_2 then (some ((⟨#[]⟩ : ByteArray), 0, 2)) else (if x8_2 < 0 then (beadrollref09_Read.l0 kj5 a0 (wrap64 ((wrap64 ((wrap64 ((wrap64 (bt a0 x1_2)) - 192)) * 256)) + (wrap64 (bt a0 (wrap64 (x1_2 + 1)))))) x7_2 (wrap64 (x1_2 + 2)) (wrap64 ((wrap64 ((wrap64 ((wrap64 (bt a0 x1_2)) - 192)) * 256)) + (wrap64 (bt a0 (wrap64 (x1_2 + 1))))))) else (beadrollref09_Read.l0 kj5 a0 (wrap64 ((wrap64 ((wrap64 ((wrap64 (bt a0 x1_2)) - 192)) * 256)) + (wrap64 (bt a0 (wrap64 (x1_2 + 1)))))) x7_2 x8_2 (wrap64 ((wrap64 ((wrap64 ((wrap64 (bt a0 x1_2)) - 192)) * 256)) + (wrap64 (bt a0 (wrap64 (x1_2 + 1))))))))) else (none)) else (none))) else (if (wrap64 (bt a0 x1_2)) ≥ 64 then (some ((⟨#[]⟩ : ByteArray), 0, 2)) else (if (wrap64 ((wrap64 (x1_2 + 1)) + (wrap64 (bt a0 x1_2)))) > (a0.size : Int) then (some ((⟨#[]⟩ : ByteArray), 0, 2)) else (if x1_2 ≤ (wrap64 ((wrap64 (x1_2 + 1)) + (wrap64 (bt a0 x1_2)))) then (if (wrap64 ((wrap64 (x1_2 + 1)) + (wrap64 (bt a0 x1_2)))) ≤ (a0.size : Int) then (if x7_2.size + (a0.extract (x1_2 : Int).toNat ((wrap64 ((wrap64 (x1_2 + 1)) + (wrap64 (bt a0 x1_2)))) : Int).toNat).size ≤ 9223372036854775807 then (beadrollref09_Read.l0 kj5 a0 (wrap64 (x1_2 + (wrap64 (1 + (wrap64 (bt a0 x1_2)))))) (x7_2 ++ (a0.extract (x1_2 : Int).toNat ((wrap64 ((wrap64 (x1_2 + 1)) + (wrap64 (bt a0 x1_2)))) : Int).toNat)) x8_2 x9_2) else (none)) else (none)) else (none)))))) else (none)) else (none)) = some (r1, r2, r3) := by rw [if_pos rfl] at H; exact H
                  clear H
                  have H := H1
                  clear H1
                  by_cases c9 : 0 ≤ x1_2
                  · rw [if_pos c9] at H
                    have c9b0 : decide (0 ≤ x1_2) = true := decide_eq_true c9
                    clear c9
                    by_cases c10 : x1_2 < (a0.size : Int)
                    · rw [if_pos c10] at H
                      have c10b0 : decide (x1_2 < (a0.size : Int)) = true := decide_eq_true c10
                      clear c10
                      by_cases c12 : (wrap64 (bt a0 x1_2)) = 0
                      · rw [if_pos c12] at H
                        have c12b0 : ((wrap64 (bt a0 x1_2)) == 0) = true := beq_iff_eq.mpr c12
                        have c12b1 : ((wrap64 (bt a0 x1_2)) != 0) = false := bne_eq_false_iff_eq.mpr c12
                        clear c12
                        by_cases c13 : x7_2.size + 1 ≤ 9223372036854775807
                        · rw [if_pos c13] at H
                          have c13b0 := eq_true c13
                          have c13b1 : decide (x7_2.size + 1 ≤ 9223372036854775807) = true := decide_eq_true c13
                          try have c13b2 : (9223372036854775807 < x7_2.size + 1) = False := eq_false (Nat.not_lt.2 c13)
                          by_cases c14 : x8_2 < 0
                          · rw [if_pos c14] at H
                            have c14b0 : decide (x8_2 < 0) = true := decide_eq_true c14
                            clear c14
                            replace H := Option.bind_eq_some_iff.mp H
                            obtain ⟨t174, A150, H⟩ := H
                            replace H : (if t174 = true then (some (x7_2 ++ (⟨#[0]⟩ : ByteArray), wrap64 (x1_2 + 1), 0)) else (some ((⟨#[]⟩ : ByteArray), 0, 2))) = some (r1, r2, r3) := H
                            have A15 := Aside0.mk A150
                            clear A150
                            by_cases c16 : t174 = true
                            · subst c16
                              have H1 : (some (x7_2 ++ (⟨#[0]⟩ : ByteArray), wrap64 (x1_2 + 1), 0)) = some (r1, r2, r3) := by rw [if_pos rfl] at H; exact H
                              clear H
                              have H := H1
                              clear H1
                              simp only [Option.some.injEq, Prod.mk.injEq] at H
                              obtain ⟨rfl, rfl, rfl⟩ := H
                              have p11 : 0 ≤ (x1_2 : Int) := of_decide_eq_true (by first | (with_reducible assumption) | assumption)
                              have q11 : x1_2 < (a0.size : Int) := of_decide_eq_true (by first | (with_reducible assumption) | assumption)
                              have hx11 := bt_at a0 x1_2
                              replace p11 := eq_true p11
                              replace q11 := eq_true q11
                              go_wp2_with (first | ((with_reducible refine gate_callee (f := 57) rfl ?_); refine goesL_ (some 43) rfl rfl Try.func57 (by kernel_rfl) rfl #[.string (x7_2 ++ (⟨#[0]⟩ : ByteArray))] rfl (by (try simp only [List.map_toArray, List.map_cons, List.map_nil]); first | done | rfl | (simp only [List.length_drop, List.length_take]; rfl)) ?_; (with_reducible refine (beadrollref07_Right.calls kj5 (x7_2 ++ (⟨#[0]⟩ : ByteArray)) true _ A15.out).mono ?_); rintro e w17 ⟨rfl, hb⟩; refine ⟨_, rfl, ?_⟩; have n0_ := Aside0.mk (below_step (by repeat (first | (with_reducible first | exact HB.out | apply below_alloc | apply pw_below_drewN | apply below_drew1) | exact HB.out)) hb); clear HB; have HB := n0_; clear n0_; (try clear hb); (try clear hb2); (try clear hk); (try clear hi)))
                              go_ret3
                              exact ⟨by first | rfl | (simp [errW_none, errW_some] <;> rfl) | (simp [*, errW_none, errW_some] <;> rfl), by repeat (first | (with_reducible first | exact HB.out | apply below_alloc | apply pw_below_drewN | apply below_drew1) | exact HB.out)⟩
                            · replace c16 := Bool.eq_false_iff.mpr c16
                              subst c16
                              have H1 : (some ((⟨#[]⟩ : ByteArray), 0, 2)) = some (r1, r2, r3) := by rw [if_neg (show ¬ (false = true) by decide)] at H; exact H
                              clear H
                              have H := H1
                              clear H1
                              simp only [Option.some.injEq, Prod.mk.injEq] at H
                              obtain ⟨rfl, rfl, rfl⟩ := H
                              have p11 : 0 ≤ (x1_2 : Int) := of_decide_eq_true (by first | (with_reducible assumption) | assumption)
                              have q11 : x1_2 < (a0.size : Int) := of_decide_eq_true (by first | (with_reducible assumption) | assumption)
                              have hx11 := bt_at a0 x1_2
                              replace p11 := eq_true p11
                              replace q11 := eq_true q11
                              go_wp2_with (first | ((with_reducible refine gate_callee (f := 57) rfl ?_); refine goesL_ (some 43) rfl rfl Try.func57 (by kernel_rfl) rfl #[.string (x7_2 ++ (⟨#[0]⟩ : ByteArray))] rfl (by (try simp only [List.map_toArray, List.map_cons, List.map_nil]); first | done | rfl | (simp only [List.length_drop, List.length_take]; rfl)) ?_; (with_reducible refine (beadrollref07_Right.calls kj5 (x7_2 ++ (⟨#[0]⟩ : ByteArray)) false _ A15.out).mono ?_); rintro e w18 ⟨rfl, hb⟩; refine ⟨_, rfl, ?_⟩; have n0_ := Aside0.mk (below_step (by repeat (first | (with_reducible first | exact HB.out | apply below_alloc | apply pw_below_drewN | apply below_drew1) | exact HB.out)) hb); clear HB; have HB := n0_; clear n0_; (try clear hb); (try clear hb2); (try clear hk); (try clear hi)))
                              go_ret3
                              exact ⟨by first | rfl | (simp [errW_none, errW_some] <;> rfl) | (simp [*, errW_none, errW_some] <;> rfl), by repeat (first | (with_reducible first | exact HB.out | apply below_alloc | apply pw_below_drewN | apply below_drew1) | exact HB.out)⟩
                          · rw [if_neg c14] at H
                            have c14b0 : decide (x8_2 < 0) = false := decide_eq_false c14
                            clear c14
                            replace H := Option.bind_eq_some_iff.mp H
                            obtain ⟨t175, A190, H⟩ := H
                            replace H : (if t175 = true then (some (x7_2 ++ (⟨#[0]⟩ : ByteArray), x8_2, 0)) else (some ((⟨#[]⟩ : ByteArray), 0, 2))) = some (r1, r2, r3) := H
                            have A19 := Aside0.mk A190
                            clear A190
                            by_cases c20 : t175 = true
                            · subst c20
                              have H1 : (some (x7_2 ++ (⟨#[0]⟩ : ByteArray), x8_2, 0)) = some (r1, r2, r3) := by rw [if_pos rfl] at H; exact H
                              clear H
                              have H := H1
                              clear H1
                              simp only [Option.some.injEq, Prod.mk.injEq] at H
                              obtain ⟨rfl, rfl, rfl⟩ := H
                              have p11 : 0 ≤ (x1_2 : Int) := of_decide_eq_true (by first | (with_reducible assumption) | assumption)
                              have q11 : x1_2 < (a0.size : Int) := of_decide_eq_true (by first | (with_reducible assumption) | assumption)
                              have hx11 := bt_at a0 x1_2
                              replace p11 := eq_true p11
                              replace q11 := eq_true q11
                              go_wp2_with (first | ((with_reducible refine gate_callee (f := 57) rfl ?_); refine goesL_ (some 43) rfl rfl Try.func57 (by kernel_rfl) rfl #[.string (x7_2 ++ (⟨#[0]⟩ : ByteArray))] rfl (by (try simp only [List.map_toArray, List.map_cons, List.map_nil]); first | done | rfl | (simp only [List.length_drop, List.length_take]; rfl)) ?_; (with_reducible refine (beadrollref07_Right.calls kj5 (x7_2 ++ (⟨#[0]⟩ : ByteArray)) true _ A19.out).mono ?_); rintro e w21 ⟨rfl, hb⟩; refine ⟨_, rfl, ?_⟩; have n0_ := Aside0.mk (below_step (by repeat (first | (with_reducible first | exact HB.out | apply below_alloc | apply pw_below_drewN | apply below_drew1) | exact HB.out)) hb); clear HB; have HB := n0_; clear n0_; (try clear hb); (try clear hb2); (try clear hk); (try clear hi)))
                              go_ret3
                              exact ⟨by first | rfl | (simp [errW_none, errW_some] <;> rfl) | (simp [*, errW_none, errW_some] <;> rfl), by repeat (first | (with_reducible first | exact HB.out | apply below_alloc | apply pw_below_drewN | apply below_drew1) | exact HB.out)⟩
                            · replace c20 := Bool.eq_false_iff.mpr c20
                              subst c20
                              have H1 : (some ((⟨#[]⟩ : ByteArray), 0, 2)) = some (r1, r2, r3) := by rw [if_neg (show ¬ (false = true) by decide)] at H; exact H
                              clear H
                              have H := H1
                              clear H1
                              simp only [Option.some.injEq, Prod.mk.injEq] at H
                              obtain ⟨rfl, rfl, rfl⟩ := H
                              have p11 : 0 ≤ (x1_2 : Int) := of_decide_eq_true (by first | (with_reducible assumption) | assumption)
                              have q11 : x1_2 < (a0.size : Int) := of_decide_eq_true (by first | (with_reducible assumption) | assumption)
                              have hx11 := bt_at a0 x1_2
                              replace p11 := eq_true p11
                              replace q11 := eq_true q11
                              go_wp2_with (first | ((with_reducible refine gate_callee (f := 57) rfl ?_); refine goesL_ (some 43) rfl rfl Try.func57 (by kernel_rfl) rfl #[.string (x7_2 ++ (⟨#[0]⟩ : ByteArray))] rfl (by (try simp only [List.map_toArray, List.map_cons, List.map_nil]); first | done | rfl | (simp only [List.length_drop, List.length_take]; rfl)) ?_; (with_reducible refine (beadrollref07_Right.calls kj5 (x7_2 ++ (⟨#[0]⟩ : ByteArray)) false _ A19.out).mono ?_); rintro e w22 ⟨rfl, hb⟩; refine ⟨_, rfl, ?_⟩; have n0_ := Aside0.mk (below_step (by repeat (first | (with_reducible first | exact HB.out | apply below_alloc | apply pw_below_drewN | apply below_drew1) | exact HB.out)) hb); clear HB; have HB := n0_; clear n0_; (try clear hb); (try clear hb2); (try clear hk); (try clear hi)))
                              go_ret3
                              exact ⟨by first | rfl | (simp [errW_none, errW_some] <;> rfl) | (simp [*, errW_none, errW_some] <;> rfl), by repeat (first | (with_reducible first | exact HB.out | apply below_alloc | apply pw_below_drewN | apply below_drew1) | exact HB.out)⟩
                        · rw [if_neg c13] at H
                          exact absurd H (by simp)
                      · rw [if_neg c12] at H
                        have c12b0 : ((wrap64 (bt a0 x1_2)) == 0) = false := beq_eq_false_iff_ne.mpr c12
                        have c12b1 : ((wrap64 (bt a0 x1_2)) != 0) = true := bne_iff_ne.mpr c12
                        by_cases c23 : (wrap64 (bt a0 x1_2)) ≥ 192
                        · rw [if_pos c23] at H
                          have c23b0 : decide (192 ≤ (wrap64 (bt a0 x1_2))) = true := decide_eq_true c23
                          clear c23
                          by_cases c24 : (wrap64 (x1_2 + 1)) ≥ (a0.size : Int)
                          · rw [if_pos c24] at H
                            have c24b0 : decide ((a0.size : Int) ≤ (wrap64 (x1_2 + 1))) = true := decide_eq_true c24
                            clear c24
                            simp only [Option.some.injEq, Prod.mk.injEq] at H
                            obtain ⟨rfl, rfl, rfl⟩ := H
                            have p11 : 0 ≤ (x1_2 : Int) := of_decide_eq_true (by first | (with_reducible assumption) | assumption)
                            have q11 : x1_2 < (a0.size : Int) := of_decide_eq_true (by first | (with_reducible assumption) | assumption)
                            have hx11 := bt_at a0 x1_2
                            replace p11 := eq_true p11
                            replace q11 := eq_true q11
                            go_wp2
                            go_ret3
                            exact ⟨by first | rfl | (simp [errW_none, errW_some] <;> rfl) | (simp [*, errW_none, errW_some] <;> rfl), by repeat (first | (with_reducible first | exact HB.out | apply below_alloc | apply pw_below_drewN | apply below_drew1) | exact HB.out)⟩
                          · rw [if_neg c24] at H
                            have c24b0 : decide ((a0.size : Int) ≤ (wrap64 (x1_2 + 1))) = false := decide_eq_false c24
                            clear c24
                            obtain ⟨ji25, hji25⟩ : ∃ j_ : Int, (wrap64 (x1_2 + 1)) = j_ := ⟨_, rfl⟩
                            replace H : (if 0 ≤ (ji25) then (if (ji25) < (a0.size : Int) then (if (wrap64 ((wrap64 ((wrap64 ((wrap64 (bt a0 x1_2)) - 192)) * 256)) + (wrap64 (bt a0 (ji25))))) ≥ x9_2 then (some ((⟨#[]⟩ : ByteArray), 0, 2)) else (if x8_2 < 0 then (beadrollref09_Read.l0 kj5 a0 (wrap64 ((wrap64 ((wrap64 ((wrap64 (bt a0 x1_2)) - 192)) * 256)) + (wrap64 (bt a0 (ji25))))) x7_2 (wrap64 (x1_2 + 2)) (wrap64 ((wrap64 ((wrap64 ((wrap64 (bt a0 x1_2)) - 192)) * 256)) + (wrap64 (bt a0 (ji25)))))) else (beadrollref09_Read.l0 kj5 a0 (wrap64 ((wrap64 ((wrap64 ((wrap64 (bt a0 x1_2)) - 192)) * 256)) + (wrap64 (bt a0 (ji25))))) x7_2 x8_2 (wrap64 ((wrap64 ((wrap64 ((wrap64 (bt a0 x1_2)) - 192)) * 256)) + (wrap64 (bt a0 (ji25)))))))) else (none)) else (none)) = some (r1, r2, r3) := by first | (rw [hji25] at H; exact H) | (simp only [hji25] at H ⊢; exact H)
                            (try rw [hji25] at c24b0)
                            have hji25w : (IntKind.i64.wrap (x1_2 + 1)) = ji25 := (i64_w _).trans hji25
                            by_cases c26 : 0 ≤ (ji25)
                            · rw [if_pos c26] at H
                              have c26b0 : decide (0 ≤ (ji25)) = true := decide_eq_true c26
                              clear c26
                              by_cases c27 : (ji25) < (a0.size : Int)
                              · rw [if_pos c27] at H
                                have c27b0 : decide ((ji25) < (a0.size : Int)) = true := decide_eq_true c27
                                clear c27
                                by_cases c29 : (wrap64 ((wrap64 ((wrap64 ((wrap64 (bt a0 x1_2)) - 192)) * 256)) + (wrap64 (bt a0 (ji25))))) ≥ x9_2
                                · rw [if_pos c29] at H
                                  have c29b0 : decide (x9_2 ≤ (wrap64 ((wrap64 ((wrap64 ((wrap64 (bt a0 x1_2)) - 192)) * 256)) + (wrap64 (bt a0 (ji25)))))) = true := decide_eq_true c29
                                  clear c29
                                  simp only [Option.some.injEq, Prod.mk.injEq] at H
                                  obtain ⟨rfl, rfl, rfl⟩ := H
                                  have p11 : 0 ≤ (x1_2 : Int) := of_decide_eq_true (by first | (with_reducible assumption) | assumption)
                                  have q11 : x1_2 < (a0.size : Int) := of_decide_eq_true (by first | (with_reducible assumption) | assumption)
                                  have hx11 := bt_at a0 x1_2
                                  replace p11 := eq_true p11
                                  replace q11 := eq_true q11
                                  have p28 : 0 ≤ ((ji25) : Int) := of_decide_eq_true (by first | (with_reducible assumption) | assumption)
                                  have q28 : (ji25) < (a0.size : Int) := of_decide_eq_true (by first | (with_reducible assumption) | assumption)
                                  have hx28 := bt_at a0 (ji25)
                                  replace p28 := eq_true p28
                                  replace q28 := eq_true q28
                                  go_wp2
                                  go_ret3
                                  exact ⟨by first | rfl | (simp [errW_none, errW_some] <;> rfl) | (simp only [← hji25]; first | rfl | (simp [errW_none, errW_some] <;> rfl)) | (simp [*, errW_none, errW_some] <;> rfl), by repeat (first | (with_reducible first | exact HB.out | apply below_alloc | apply pw_below_drewN | apply below_drew1) | exact HB.out)⟩
                                · rw [if_neg c29] at H
                                  have c29b0 : decide (x9_2 ≤ (wrap64 ((wrap64 ((wrap64 ((wrap64 (bt a0 x1_2)) - 192)) * 256)) + (wrap64 (bt a0 (ji25)))))) = false := decide_eq_false c29
                                  clear c29
                                  by_cases c30 : x8_2 < 0
                                  · rw [if_pos c30] at H
                                    have c30b0 : decide (x8_2 < 0) = true := decide_eq_true c30
                                    clear c30
                                    have H' := Aside0.mk H
                                    clear H
                                    have p11 : 0 ≤ (x1_2 : Int) := of_decide_eq_true (by first | (with_reducible assumption) | assumption)
                                    have q11 : x1_2 < (a0.size : Int) := of_decide_eq_true (by first | (with_reducible assumption) | assumption)
                                    have hx11 := bt_at a0 x1_2
                                    replace p11 := eq_true p11
                                    replace q11 := eq_true q11
                                    have p28 : 0 ≤ ((ji25) : Int) := of_decide_eq_true (by first | (with_reducible assumption) | assumption)
                                    have q28 : (ji25) < (a0.size : Int) := of_decide_eq_true (by first | (with_reducible assumption) | assumption)
                                    have hx28 := bt_at a0 (ji25)
                                    replace p28 := eq_true p28
                                    replace q28 := eq_true q28
                                    go_wp2
                                    go_roundg kj5
                                    case measure => have := HJ2.out; have := HK2.out; have := HJ5.out; omega
                                    case rel => exact ⟨(wrap64 ((wrap64 ((wrap64 ((wrap64 (bt a0 x1_2)) - 192)) * 256)) + (wrap64 (bt a0 (ji25))))), (x7_2), (wrap64 (x1_2 + 2)), (wrap64 ((wrap64 ((wrap64 ((wrap64 (bt a0 x1_2)) - 192)) * 256)) + (wrap64 (bt a0 (ji25))))), (by first | rfl | (simp; done) | (simp only [← hji25] <;> (first | rfl | simp)) | (simp [*]; done)), (by first | rfl | (simp; done) | (simp [*]; done)), (by first | rfl | (simp; done) | (simp [*]; done)), (by first | rfl | (simp; done) | (simp only [← hji25] <;> (first | rfl | simp)) | (simp [*]; done)), H', ⟨by have := HJ2.out; have := HK2.out; have := HJ5.out; omega⟩, ⟨by repeat (first | (with_reducible first | exact HB.out | apply below_alloc | apply pw_below_drewN | apply below_drew1) | exact HB.out)⟩⟩
                                  · rw [if_neg c30] at H
                                    have c30b0 : decide (x8_2 < 0) = false := decide_eq_false c30
                                    clear c30
                                    have H' := Aside0.mk H
                                    clear H
                                    have p11 : 0 ≤ (x1_2 : Int) := of_decide_eq_true (by first | (with_reducible assumption) | assumption)
                                    have q11 : x1_2 < (a0.size : Int) := of_decide_eq_true (by first | (with_reducible assumption) | assumption)
                                    have hx11 := bt_at a0 x1_2
                                    replace p11 := eq_true p11
                                    replace q11 := eq_true q11
                                    have p28 : 0 ≤ ((ji25) : Int) := of_decide_eq_true (by first | (with_reducible assumption) | assumption)
                                    have q28 : (ji25) < (a0.size : Int) := of_decide_eq_true (by first | (with_reducible assumption) | assumption)
                                    have hx28 := bt_at a0 (ji25)
                                    replace p28 := eq_true p28
                                    replace q28 := eq_true q28
                                    go_wp2
                                    go_roundg kj5
                                    case measure => have := HJ2.out; have := HK2.out; have := HJ5.out; omega
                                    case rel => exact ⟨(wrap64 ((wrap64 ((wrap64 ((wrap64 (bt a0 x1_2)) - 192)) * 256)) + (wrap64 (bt a0 (ji25))))), (x7_2), (x8_2), (wrap64 ((wrap64 ((wrap64 ((wrap64 (bt a0 x1_2)) - 192)) * 256)) + (wrap64 (bt a0 (ji25))))), (by first | rfl | (simp; done) | (simp only [← hji25] <;> (first | rfl | simp)) | (simp [*]; done)), (by first | rfl | (simp; done) | (simp [*]; done)), (by first | rfl | (simp; done) | (simp [*]; done)), (by first | rfl | (simp; done) | (simp only [← hji25] <;> (first | rfl | simp)) | (simp [*]; done)), H', ⟨by have := HJ2.out; have := HK2.out; have := HJ5.out; omega⟩, ⟨by repeat (first | (with_reducible first | exact HB.out | apply below_alloc | apply pw_below_drewN | apply below_drew1) | exact HB.out)⟩⟩
                              · rw [if_neg c27] at H
                                exact absurd H (by simp)
                            · rw [if_neg c26] at H
                              exact absurd H (by simp)
                        · rw [if_neg c23] at H
                          have c23b0 : decide (192 ≤ (wrap64 (bt a0 x1_2))) = false := decide_eq_false c23
                          clear c23
                          by_cases c31 : (wrap64 (bt a0 x1_2)) ≥ 64
                          · rw [if_pos c31] at H
                            have c31b0 : decide (64 ≤ (wrap64 (bt a0 x1_2))) = true := decide_eq_true c31
                            clear c31
                            simp only [Option.some.injEq, Prod.mk.injEq] at H
                            obtain ⟨rfl, rfl, rfl⟩ := H
                            have p11 : 0 ≤ (x1_2 : Int) := of_decide_eq_true (by first | (with_reducible assumption) | assumption)
                            have q11 : x1_2 < (a0.size : Int) := of_decide_eq_true (by first | (with_reducible assumption) | assumption)
                            have hx11 := bt_at a0 x1_2
                            replace p11 := eq_true p11
                            replace q11 := eq_true q11
                            go_wp2
                            go_ret3
                            exact ⟨by first | rfl | (simp [errW_none, errW_some] <;> rfl) | (simp [*, errW_none, errW_some] <;> rfl), by repeat (first | (with_reducible first | exact HB.out | apply below_alloc | apply pw_below_drewN | apply below_drew1) | exact HB.out)⟩
                          · rw [if_neg c31] at H
                            have c31b0 : decide (64 ≤ (wrap64 (bt a0 x1_2))) = false := decide_eq_false c31
                            clear c31
                            by_cases c32 : (wrap64 ((wrap64 (x1_2 + 1)) + (wrap64 (bt a0 x1_2)))) > (a0.size : Int)
                            · rw [if_pos c32] at H
                              have c32b0 : decide ((a0.size : Int) < (wrap64 ((wrap64 (x1_2 + 1)) + (wrap64 (bt a0 x1_2))))) = true := decide_eq_true c32
                              clear c32
                              simp only [Option.some.injEq, Prod.mk.injEq] at H
                              obtain ⟨rfl, rfl, rfl⟩ := H
                              have p11 : 0 ≤ (x1_2 : Int) := of_decide_eq_true (by first | (with_reducible assumption) | assumption)
                              have q11 : x1_2 < (a0.size : Int) := of_decide_eq_true (by first | (with_reducible assumption) | assumption)
                              have hx11 := bt_at a0 x1_2
                              replace p11 := eq_true p11
                              replace q11 := eq_true q11
                              go_wp2
                              go_ret3
                              exact ⟨by first | rfl | (simp [errW_none, errW_some] <;> rfl) | (simp [*, errW_none, errW_some] <;> rfl), by repeat (first | (with_reducible first | exact HB.out | apply below_alloc | apply pw_below_drewN | apply below_drew1) | exact HB.out)⟩
                            · rw [if_neg c32] at H
                              have c32b0 : decide ((a0.size : Int) < (wrap64 ((wrap64 (x1_2 + 1)) + (wrap64 (bt a0 x1_2))))) = false := decide_eq_false c32
                              clear c32
                              have c33b0 := eq_true (of_decide_eq_true (by first | (with_reducible assumption) | assumption) : 0 ≤ x1_2)
                              by_cases c34 : x1_2 ≤ (wrap64 ((wrap64 (x1_2 + 1)) + (wrap64 (bt a0 x1_2))))
                              · rw [if_pos c34] at H
                                have c34b0 := eq_true c34
                                have c34b1 : decide (x1_2 ≤ (wrap64 ((wrap64 (x1_2 + 1)) + (wrap64 (bt a0 x1_2))))) = true := decide_eq_true c34
                                by_cases c35 : (wrap64 ((wrap64 (x1_2 + 1)) + (wrap64 (bt a0 x1_2)))) ≤ (a0.size : Int)
                                · rw [if_pos c35] at H
                                  have c35b0 := eq_true c35
                                  have c35b1 : decide ((wrap64 ((wrap64 (x1_2 + 1)) + (wrap64 (bt a0 x1_2)))) ≤ (a0.size : Int)) = true := decide_eq_true c35
                                  by_cases c36 : x7_2.size + (a0.extract (x1_2 : Int).toNat ((wrap64 ((wrap64 (x1_2 + 1)) + (wrap64 (bt a0 x1_2)))) : Int).toNat).size ≤ 9223372036854775807
                                  · rw [if_pos c36] at H
                                    have c36b0 := eq_true c36
                                    have c36b1 : decide (x7_2.size + (a0.extract (x1_2 : Int).toNat ((wrap64 ((wrap64 (x1_2 + 1)) + (wrap64 (bt a0 x1_2)))) : Int).toNat).size ≤ 9223372036854775807) = true := decide_eq_true c36
                                    try have c36b2 : (9223372036854775807 < x7_2.size + (a0.extract (x1_2 : Int).toNat ((wrap64 ((wrap64 (x1_2 + 1)) + (wrap64 (bt a0 x1_2)))) : Int).toNat).size) = False := eq_false (Nat.not_lt.2 c36)
                                    have H' := Aside0.mk H
                                    clear H
                                    have p11 : 0 ≤ (x1_2 : Int) := of_decide_eq_true (by first | (with_reducible assumption) | assumption)
                                    have q11 : x1_2 < (a0.size : Int) := of_decide_eq_true (by first | (with_reducible assumption) | assumption)
                                    have hx11 := bt_at a0 x1_2
                                    replace p11 := eq_true p11
                                    replace q11 := eq_true q11
                                    go_wp2
                                    go_roundg kj5
                                    case measure => have := HJ2.out; have := HK2.out; have := HJ5.out; omega
                                    case rel => exact ⟨(wrap64 (x1_2 + (wrap64 (1 + (wrap64 (bt a0 x1_2)))))), (x7_2 ++ (a0.extract (x1_2 : Int).toNat ((wrap64 ((wrap64 (x1_2 + 1)) + (wrap64 (bt a0 x1_2)))) : Int).toNat)), (x8_2), (x9_2), (by first | rfl | (simp; done) | (simp [*]; done)), (by first | rfl | (simp; done) | (simp [*]; done)), (by first | rfl | (simp; done) | (simp [*]; done)), (by first | rfl | (simp; done) | (simp [*]; done)), H', ⟨by have := HJ2.out; have := HK2.out; have := HJ5.out; omega⟩, ⟨by repeat (first | (with_reducible first | exact HB.out | apply below_alloc | apply pw_below_drewN | apply below_drew1) | exact HB.out)⟩⟩
                                  · rw [if_neg c36] at H
                                    exact absurd H (by simp)
                                · rw [if_neg c35] at H
                                  exact absurd H (by simp)
                              · rw [if_neg c34] at H
                                exact absurd H (by simp)
                    · rw [if_neg c10] at H
                      exact absurd H (by simp)
                  · rw [if_neg c9] at H
                    exact absurd H (by simp)
                · replace c8 := Bool.eq_false_iff.mpr c8
                  subst c8
                  have H1 : (some ((⟨#[]⟩ : ByteArray), 0, 2)) = some (r1, r2, r3) := by rw [if_neg (show ¬ (false = true) by decide)] at H; exact H
                  clear H
                  have H := H1
                  clear H1
                  simp only [Option.some.injEq, Prod.mk.injEq] at H
                  obtain ⟨rfl, rfl, rfl⟩ := H
                  go_wp2
                  go_ret3
                  exact ⟨by first | rfl | (simp [errW_none, errW_some] <;> rfl) | (simp [*, errW_none, errW_some] <;> rfl), by repeat (first | (with_reducible first | exact HB.out | apply below_alloc | apply pw_below_drewN | apply below_drew1) | exact HB.out)⟩

end Go.Proofs.Ytajdlgbhofdafaa.Rf
