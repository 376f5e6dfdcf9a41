/- pack.Read: the contract. -/
import Derived.Test.YtajdlgbhofdafaaPackAt
import Derived.Deep.LoopGhost
import Derived.RegionTactic
import Derived.WalkMore
namespace Go.Proofs.Ytajdlgbhofdafaa
open Go.RowKit Go.Shelf Go.Proofs.YtajdlgbhofdafaaW.PrintWords Go.Proofs.YtajdlgbhofdafaaW.PrintLast Go.Proofs.YtajdlgbhofdafaaW.PrintMore
set_option maxRecDepth 1000000

/-- What one round of reading makes of what stands at a place. -/
def readK (go : ByteArray → Int → Int → Nat → Option (ByteArray × Int × Nat)) (n : ByteArray) (next fr : Int) : Option (ByteArray × Int × Nat) → Option (ByteArray × Int × Nat)
  | none => none
  | some (s, pt, nx) =>
    if fr ≤ pt then none else
    if 0 ≤ pt then go n (if next < 0 then nx else next) pt pt.toNat else
    if s = ⟨#[0]⟩ then some (n ++ s, next, nx) else go (n ++ s) next fr nx
/-- A name is read: its bytes so far, what is behind its first pointer (-1: none yet), where pointers must lead before, and the place. -/
def readL (msg : ByteArray) : Nat → ByteArray → Int → Int → Nat → Option (ByteArray × Int × Nat)
  | 0, _, _, _, _ => none
  | f + 1, n, next, fr, i => if 255 < n.size then some (n, next, i) else readK (readL msg f) n next fr (atB msg i)
/-- The name that stands at a place, and the place behind. -/
def readB (msg : ByteArray) (i : Nat) : Option (ByteArray × Int) :=
  (readL msg (257 + i) ⟨#[]⟩ (-1) i i).bind fun p => if rightB p.1 then some (p.1, if p.2.1 < 0 then (p.2.2 : Int) else p.2.1) else none

theorem ptrB_spec {msg s : ByteArray} {i nx : Nat} {pt : Int} (h : ptrB msg i = some (s, pt, nx)) (_hi : i ≤ msg.size) : nx ≤ msg.size ∧ s.size ≤ 64 ∧ 0 ≤ pt ∧ pt < 65536 := by
  unfold ptrB at h
  have hsz : (msg.extract i msg.size).size = msg.size - i := by simp
  rw [fieldsB] at h
  by_cases h2 : (msg.extract i msg.size).size < 2
  · rw [if_pos h2] at h; cases h
  · rw [if_neg h2, fieldsB] at h
    have hlt := beN_lt ((msg.extract i msg.size).extract 0 2).data.toList
    have hle : ((msg.extract i msg.size).extract 0 2).data.toList.length ≤ 2 := by simp; omega
    have hlt2 : beN ((msg.extract i msg.size).extract 0 2).data.toList < 65536 := Nat.lt_of_lt_of_le hlt (by
      rw [show (65536 : Nat) = 256 ^ 2 from by decide]
      exact Nat.pow_le_pow_right (by omega) hle)
    generalize beN ((msg.extract i msg.size).extract 0 2).data.toList = v at *
    simp only [Option.map_some] at h
    by_cases h3 : (v : Int) < 49152
    · rw [if_pos h3] at h; cases h
    · rw [if_neg h3] at h
      injection h with h
      injection h with h4 h5
      injection h5 with h5 h6
      subst h4 h5 h6
      exact ⟨by omega, by decide, by omega, by omega⟩
theorem atB_spec {msg s : ByteArray} {i nx : Nat} {pt : Int} (h : atB msg i = some (s, pt, nx)) (hi : i ≤ msg.size) : nx ≤ msg.size ∧ s.size ≤ 64 ∧ -1 ≤ pt ∧ pt < 65536 ∧ (pt < 0 → 1 ≤ s.size) := by
  unfold atB at h
  have hsz : (msg.extract i msg.size).size = msg.size - i := by simp
  cases hc : cutB 1 (msg.extract i msg.size) with
  | none =>
    rw [hc] at h
    have := ptrB_spec h hi
    omega
  | some p =>
    obtain ⟨s', rest⟩ := p
    rw [hc] at h
    have hcs := cutB_size hc
    unfold atO at h
    dsimp only at h
    by_cases h3 : s'.size ≤ 63
    · rw [if_pos h3] at h
      injection h with h
      injection h with h4 h5
      injection h5 with h5 h6
      subst h4 h5 h6
      refine ⟨by omega, ?_, by omega, by omega, fun _ => ?_⟩ <;> simp <;> omega
    · rw [if_neg h3] at h
      have := ptrB_spec h hi
      omega

/-- What Read makes of what it came to. -/
def readEnd (p : ByteArray × Int × Nat) : Option (ByteArray × Int) := if rightB p.1 then some (p.1, if p.2.1 < 0 then (p.2.2 : Int) else p.2.1) else none
/-- Where Read stands at a round's head. -/
def ReadAt (w : World) (msg : ByteArray) (o : Option (ByteArray × Int)) (f : Nat) (n : ByteArray) (next fr : Int) (j : Nat) (wr : World) : Prop :=
  Below w.heap.size w wr ∧ o = (readL msg f n next fr j).bind readEnd ∧ j ≤ msg.size ∧ 0 ≤ fr ∧ fr ≤ msg.size ∧ n.size ≤ 319 ∧ -1 ≤ next ∧ next ≤ msg.size ∧ 257 + fr ≤ f + n.size

/-- What Read answers. -/
def ReadRet (w : World) (o : Option (ByteArray × Int)) (e : Ending) (w' : World) : Prop := Below w.heap.size w w' ∧
  match o with
  | some (s, next) => e = .returned (.tuple #[.string s, .int .i64 next, .int .i64 0])
  | none => e = .returned (.tuple #[.string ⟨#[]⟩, .int .i64 0, .int .i64 2])

set_option maxHeartbeats 1000000 in
theorem Read_any (msg : ByteArray) (i : Nat) (w : World) (hi : i ≤ msg.size) (hb : msg.size ≤ 4398046511104) :
    Calls Try.prog 114 #[.string msg, .int .i64 i] w (ReadRet w (readB msg i)) := by
  have hd1 : decide ((i : Int) < 0) = false := by simp
  have hd2 : decide (msg.size < i) = false := by simp; omega
  go_enter Try.func114, Try.ntmps114
  go_wp2
  go_step3
  go_wp2
  go_step3
  have HS0 : Hid (ReadAt w msg (readB msg i) (257 + i) ⟨#[]⟩ (-1) i i w) := ⟨Below.refl _ _, rfl, hi, by omega, by omega, by decide, by omega, by omega, by rw [show (⟨#[]⟩ : ByteArray).size = 0 from rfl]; omega⟩
  go_wp2
  go_loopg [1, 7, 8, 9] (257 + i) (fun f v1 v7 v8 v9 wr => ∃ (j : Nat) (n : ByteArray) (next fr : Int), v1 = .int .i64 j ∧ v7 = .string n ∧ v8 = .int .i64 next ∧ v9 = .int .i64 fr ∧ ReadAt w msg (readB msg i) f n next fr j wr)
  case atStart => exact ⟨i, ⟨#[]⟩, -1, i, rfl, rfl, rfl, rfl, HS0.out⟩
  case round =>
    obtain ⟨j, n, next, fr, rfl, rfl, rfl, rfl, hB, ho, hj, hf0, hf1, hn, hx0, hx1, hfu⟩ := hrel
    have HO := Lib.hid ho
    clear ho
    by_cases hlong : 255 < n.size
    · have hrd : rightB n = false := by simp [rightB]; omega
      have hR := fun w => Right_any n w (by omega)
      rw [hrd] at hR
      have hfin : readB msg i = none := by
        rw [HO.out]
        cases gk with
        | zero => rfl
        | succ f =>
          rw [readL, if_pos hlong]
          simp [readEnd, hrd]
      have HF := Lib.hid hfin
      have HR := Lib.hid hR
      clear hfin hR hrd
      go_wp2_with (go_at_call 109; refine (HR.out _).mono ?_; rintro e w3 ⟨rfl, hB3⟩)
      rw [Exit.noGoto_ret]
      go_ret3
      rw [HF.out]
      exact ⟨hB.trans (hB3.mono hB.size), rfl⟩
    · obtain ⟨f, rfl⟩ : ∃ f, gk = f + 1 := ⟨gk - 1, by omega⟩
      have hA := at_any msg j wr hj hb
      generalize hat : atB msg j = oa at hA
      have HA := Lib.hid hA
      have hstep : readB msg i = (readK (readL msg f) n next fr oa).bind readEnd := by
        rw [HO.out, readL, if_neg hlong, hat]
      have HST := Lib.hid hstep
      clear hA hstep HO
      cases oa with
      | none =>
        clear hat
        have HF : Hid (readB msg i = none) := HST.out
        go_wp2_with (go_at_call 143; refine HA.out.mono ?_; rintro e w3 ⟨hB3, rfl⟩)
        rw [Exit.noGoto_ret]
        go_ret3
        rw [HF.out]
        exact ⟨(hB.trans (hB3.mono hB.size)).alloc (Nat.le_trans hB.size hB3.size) _, rfl⟩
      | some pr =>
        obtain ⟨s, pt, nx⟩ := pr
        obtain ⟨a1, a2, a3, a4, a5⟩ := atB_spec hat hj
        clear hat
        by_cases hback : fr ≤ pt
        · have HF : Hid (readB msg i = none) := by
            have := HST.out
            rw [readK, if_pos hback] at this
            exact this
          go_wp2_with (go_at_call 143; refine HA.out.mono ?_; rintro e w3 ⟨hB3, rfl⟩)
          rw [Exit.noGoto_ret]
          go_ret3
          rw [HF.out]
          exact ⟨(hB.trans (hB3.mono hB.size)).alloc (Nat.le_trans hB.size hB3.size) _, rfl⟩
        · by_cases hp : 0 ≤ pt
          · have HQ : Hid (readB msg i = (readL msg f n (if next < 0 then (nx : Int) else next) pt pt.toNat).bind readEnd) := by
              have := HST.out
              rw [readK, if_neg hback, if_pos hp] at this
              exact this
            clear a5
            by_cases hn0 : next < 0
            · go_wp2_with (go_at_call 143; refine HA.out.mono ?_; rintro e w3 ⟨hB3, rfl⟩)
              go_region
              have HS' : Hid (ReadAt w msg (readB msg i) f n nx pt pt.toNat (w3.alloc (.cells #[.string s, .int .i64 pt, .int .i64 nx] 214)).drew) := by
                refine ⟨((hB.trans (hB3.mono hB.size)).alloc (Nat.le_trans hB.size hB3.size) _).drew, ?_, by omega, by omega, by omega, hn, by omega, by omega, by omega⟩
                have := HQ.out
                rw [if_pos hn0] at this
                exact this
              go_wp2
              go_roundg f
              case measure => omega
              case rel => exact ⟨pt.toNat, n, nx, pt, by rw [Int.toNat_of_nonneg hp], rfl, rfl, rfl, HS'.out⟩
            · go_wp2_with (go_at_call 143; refine HA.out.mono ?_; rintro e w3 ⟨hB3, rfl⟩)
              go_region
              have HS' : Hid (ReadAt w msg (readB msg i) f n next pt pt.toNat (w3.alloc (.cells #[.string s, .int .i64 pt, .int .i64 nx] 214)).drew) := by
                refine ⟨((hB.trans (hB3.mono hB.size)).alloc (Nat.le_trans hB.size hB3.size) _).drew, ?_, by omega, by omega, by omega, hn, by omega, by omega, by omega⟩
                have := HQ.out
                rw [if_neg (by omega)] at this
                exact this
              go_wp2
              go_roundg f
              case measure => omega
              case rel => exact ⟨pt.toNat, n, next, pt, by rw [Int.toNat_of_nonneg hp], rfl, rfl, rfl, HS'.out⟩
          · have hs1 := a5 (by omega)
            by_cases hroot : s = ⟨#[0]⟩
            · subst hroot
              have hsz : (n ++ ⟨#[0]⟩).size ≤ 319 := by
                rw [size_app]
                have : (⟨#[0]⟩ : ByteArray).size = 1 := rfl
                omega
              have hR := fun w => Right_any (n ++ ⟨#[0]⟩) w (by omega)
              have hq : readB msg i = readEnd (n ++ ⟨#[0]⟩, next, nx) := by
                have := HST.out
                rw [readK, if_neg hback, if_neg hp, if_pos rfl] at this
                exact this
              have hlt : -1 = pt := by omega
              subst hlt
              generalize hnm : n ++ (⟨#[0]⟩ : ByteArray) = nm at *
              cases hrd : rightB nm with
              | false =>
                rw [hrd] at hR
                have HF : Hid (readB msg i = none) := by
                  rw [readEnd] at hq
                  dsimp only at hq
                  rw [hrd] at hq
                  exact hq
                have HR := Lib.hid hR
                have HNM := Lib.hid hnm
                clear hR hrd hq hnm
                go_wp2_with (first | (go_at_call 143; refine HA.out.mono ?_; rintro e w3 ⟨hB3, rfl⟩) | (rw [HNM.out]; go_at_call 109; refine (HR.out _).mono ?_; rintro e w4 ⟨rfl, hB4⟩))
                rw [Exit.noGoto_ret]
                go_ret3
                rw [HF.out]
                exact ⟨((hB.trans (hB3.mono hB.size)).alloc (Nat.le_trans hB.size hB3.size) _).trans (hB4.mono (by rw [sz_al]; have := hB.size; have := hB3.size; omega)), rfl⟩
              | true =>
                rw [hrd] at hR
                by_cases hn0 : next < 0
                · have HF : Hid (readB msg i = some (nm, (nx : Int))) := by
                    rw [readEnd] at hq
                    dsimp only at hq
                    rw [hrd, if_pos hn0] at hq
                    exact hq
                  have HR := Lib.hid hR
                  have HNM := Lib.hid hnm
                  clear hR hrd hq hnm
                  go_wp2_with (first | (go_at_call 143; refine HA.out.mono ?_; rintro e w3 ⟨hB3, rfl⟩) | (rw [HNM.out]; go_at_call 109; refine (HR.out _).mono ?_; rintro e w4 ⟨rfl, hB4⟩))
                  rw [Exit.noGoto_ret]
                  go_ret3
                  rw [HF.out]
                  exact ⟨((hB.trans (hB3.mono hB.size)).alloc (Nat.le_trans hB.size hB3.size) _).trans (hB4.mono (by rw [sz_al]; have := hB.size; have := hB3.size; omega)), rfl⟩
                · have HF : Hid (readB msg i = some (nm, next)) := by
                    rw [readEnd] at hq
                    dsimp only at hq
                    rw [hrd, if_neg hn0] at hq
                    exact hq
                  have HR := Lib.hid hR
                  have HNM := Lib.hid hnm
                  clear hR hrd hq hnm
                  go_wp2_with (first | (go_at_call 143; refine HA.out.mono ?_; rintro e w3 ⟨hB3, rfl⟩) | (rw [HNM.out]; go_at_call 109; refine (HR.out _).mono ?_; rintro e w4 ⟨rfl, hB4⟩))
                  rw [Exit.noGoto_ret]
                  go_ret3
                  rw [HF.out]
                  exact ⟨((hB.trans (hB3.mono hB.size)).alloc (Nat.le_trans hB.size hB3.size) _).trans (hB4.mono (by rw [sz_al]; have := hB.size; have := hB3.size; omega)), rfl⟩
            · have hr1 : (s.toList == [0]) = false := by
                rw [beq_eq_false_iff_ne]
                intro h
                apply hroot
                rw [ByteArray.toList_eq] at h
                apply ByteArray.ext
                exact Array.ext' h
              have HQ : Hid (readB msg i = (readL msg f (n ++ s) next fr nx).bind readEnd) := by
                have := HST.out
                rw [readK, if_neg hback, if_neg hp, if_neg hroot] at this
                exact this
              have hlt : -1 = pt := by omega
              subst hlt
              have hsz : (n ++ s).size = n.size + s.size := size_app n s
              have HSZ := Lib.hid hsz
              clear hsz hroot a5
              go_wp2_with (go_at_call 143; refine HA.out.mono ?_; rintro e w3 ⟨hB3, rfl⟩)
              have HS' : Hid (ReadAt w msg (readB msg i) f (n ++ s) next fr nx (w3.alloc (.cells #[.string s, .int .i64 (-1), .int .i64 nx] 214))) := by
                have := HSZ.out
                exact ⟨(hB.trans (hB3.mono hB.size)).alloc (Nat.le_trans hB.size hB3.size) _, HQ.out, by omega, by omega, by omega, by omega, by omega, by omega, by omega⟩
              go_roundg f
              case measure => omega
              case rel => exact ⟨nx, n ++ s, next, fr, rfl, rfl, rfl, rfl, HS'.out⟩

end Go.Proofs.Ytajdlgbhofdafaa
