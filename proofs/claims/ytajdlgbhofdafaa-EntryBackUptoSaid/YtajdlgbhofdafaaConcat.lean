/- slices.Grow, slices.Concat, of records. -/
import Derived.Test.YtajdlgbhofdafaaRecords
namespace Go.Proofs.Ytajdlgbhofdafaa
open Go.RowKit Go.Shelf Go.Proofs.YtajdlgbhofdafaaW.PrintWords Go.Proofs.YtajdlgbhofdafaaW.PrintLast Go.Proofs.YtajdlgbhofdafaaW.PrintMore
set_option maxRecDepth 1000000
attribute [local go_sem] Oper.semAt_some

abbrev kR := Rf.k78
/-- The call's own records. -/
abbrev OwnL (w : World) (base : Nat) (v : Value) (l : List SR) : Prop := Kd.R kR 78 w base (fun _ => True) v l
theorem zeroM (w : World) (base : Nat) : kR.M w base (fun _ => False) Rf.z78 (Value.agg #[(.string ⟨#[]⟩), (.int .i64 0), (.int .i64 0), (.int .i64 0), (.string ⟨#[]⟩)]).cells.toList := Rf.k78_mkM w base _ Rf.z78

set_option maxHeartbeats 2000000 in
theorem Grow_any (n : Int) (w : World) (h0 : 0 ≤ n) (h1 : n ≤ 1000000) :
    Calls Try.prog 95 #[.slice none 0 0, .int .i64 n] w fun e w' => ∃ v, e = .returned v ∧ OwnL w' w.heap.size v [] ∧ Below w.heap.size w w' := by
  by_cases hn : n = 0
  · subst hn
    go_enter Try.func95, Try.ntmps95
    go_wp2
    go_ret
    exact ⟨_, rfl, Kd.R_nil _ _ _ _ _, Below.refl _ _⟩
  · have hd0 : decide (n < 0) = false := by simp; omega
    have hd1 : decide (0 < n) = true := by simp; omega
    go_enter Try.func95, Try.ntmps95
    go_wp2_with (at_builtin; refine Kd.R_append_zeros kR (w0 := w) (W := w) w.heap.size rfl (.tmp 20) (.tmp 21) 23 3 78 (.agg #[(.string ⟨#[]⟩), (.int .i64 0), (.int .i64 0), (.int .i64 0), (.string ⟨#[]⟩)]) 56 rfl Try.underlying23 Try.underlying3 Rf.info78 rfl (by decide) (by decide) (.slice none 0 0) [] Rf.z78 n (fun _ => True) rfl rfl (zeroM _ _) (fun _ _ => trivial) (Kd.R_nil _ _ _ _ _) h0 (Below.refl _ _) (Nat.le_refl _) (by simp; omega) ?_; intro v5 w5 hR5 hB5 hg5 hat5; obtain ⟨A5, c5, rfl⟩ := Kd.R_slice hR5; have hT := Kd.R_take (m := 0) hR5 (Nat.zero_le _))
    go_ret
    exact ⟨_, rfl, hT, hB5⟩

/-- How many records lists have. -/
def lenL (ls : List (List SR)) : Nat := (ls.map List.length).sum
theorem lenL_cons (x : List SR) (ls : List (List SR)) : lenL (x :: ls) = x.length + lenL ls := by simp [lenL]
theorem lenL_take (ls : List (List SR)) : ∀ k, lenL (ls.take k) ≤ lenL ls := by
  induction ls with
  | nil => intro k; simp
  | cons x ls ih =>
    intro k
    cases k with
    | zero => simp [lenL]
    | succ k => rw [List.take_succ_cons, lenL_cons, lenL_cons]; have := ih k; omega
theorem lenL_snoc (ls : List (List SR)) (k : Nat) (h : k < ls.length) : lenL (ls.take (k + 1)) = lenL (ls.take k) + (ls.getD k []).length := by
  rw [List.take_succ_eq_append_getElem h, List.getD_eq_getElem?_getD, List.getElem?_eq_getElem h, Option.getD_some]
  unfold lenL
  rw [List.map_append, List.sum_append]
  simp only [List.map_cons, List.map_nil, List.sum_cons, List.sum_nil, Nat.add_zero]
theorem flat_len (ls : List (List SR)) : ls.flatten.length = lenL ls := by simp [lenL, List.length_flatten]
theorem flat_snoc (ls : List (List SR)) (k : Nat) (h : k < ls.length) : (ls.take (k + 1)).flatten = (ls.take k).flatten ++ ls.getD k [] := by
  rw [List.take_succ_eq_append_getElem h, List.getD_eq_getElem?_getD, List.getElem?_eq_getElem h, Option.getD_some, List.flatten_append]
  simp only [List.flatten_cons, List.flatten_nil, List.append_nil]
theorem at_ls {w : World} {A : Option Addr} {n : Nat} {xs : List (List SR)} (h : Kd.C (Kd.slice 78 kR) w A n xs) (i : Int) (h0 : 0 ≤ i) (h1 : i < n) : ∃ ad A0 c0, A = some ad ∧ w.cell? (ad.add i.toNat) = some (.slice A0 (xs.getD i.toNat []).length c0) ∧ kR.C w A0 (xs.getD i.toNat []).length (xs.getD i.toNat []) := by
  obtain ⟨ad, c, e, _, hK, hc0⟩ := Kd.C_get h ([] : List SR) i h0 h1
  have hc : ∀ j u, c[j]? = some u → w.cell? (ad.add (i.toNat * 1 + j)) = some u := hc0
  obtain ⟨A0, c0, rfl, l0, g0⟩ := hK
  exact ⟨ad, A0, c0, e, by have hq := hc 0 _ rfl; rwa [Nat.mul_one, Nat.add_zero] at hq, g0⟩
theorem kR_flat {w w' : World} {base : Nat} {ok : Nat → Prop} {x : SR} {cs : List Value} (h : kR.K w x cs) : kR.M w' base ok x cs := by
  rw [Rf.k78_open h]
  exact Rf.k78_mkM _ _ _ x

set_option maxHeartbeats 4000000 in
theorem Concat_any (A : Option Addr) (c : Nat) (ls : List (List SR)) (w : World) (hC : Kd.C (Kd.slice 78 kR) w A ls.length ls) (hl : ls.length ≤ 1000000) (hs : lenL ls ≤ 1000000) :
    Calls Try.prog 40 #[.slice A ls.length c] w fun e w' => ∃ v, e = .returned v ∧ OwnL w' w.heap.size v ls.flatten ∧ Below w.heap.size w w' := by
  have HC := Aside0.mk hC
  have HL := Lib.hid (And.intro hl hs)
  clear hC hl hs
  go_enter Try.func40, Try.ntmps40
  go_wp2
  go_loop [3, 11] (fun v3 v11 => ∃ i s : Int, v11 = .int .i64 i ∧ v3 = .int .i64 s ∧ 0 ≤ i ∧ i ≤ ls.length ∧ 0 ≤ s ∧ Aside0 (s = (lenL (ls.take i.toNat) : Nat))) (fun _ v11 => ls.length - (intOf v11).toNat)
  case atStart => exact ⟨0, 0, rfl, rfl, by omega, by omega, by omega, ⟨by simp [lenL]⟩⟩
  case round =>
    obtain ⟨i, s, rfl, rfl, hi0, hi1, hs0, HA⟩ := hrel
    by_cases hlt : i < (ls.length : Int)
    · obtain ⟨ad, A0, c0, e, x0, hx⟩ := at_ls HC.out i hi0 hlt
      cases e
      have hsn := lenL_snoc ls i.toNat (by omega)
      have htk := lenL_take ls (i.toNat + 1)
      generalize hx' : ls.getD i.toNat [] = x at *
      have hA := HA.out
      have hw2 : wrap64 (s + (x.length : Int)) = s + (x.length : Int) := w64_in _ (by have := HL.out; omega)
      have hw1 : wrap64 (i + 1) = i + 1 := w64_in _ (by have := HL.out; omega)
      have hd : decide (s + (x.length : Int) < 0) = false := by simp; omega
      have HH := Lib.hid (And.intro hsn (And.intro hA (And.intro hw1 hw2)))
      clear hsn htk hA hx hx' hw1
      go_wp2
      rw [HH.out.2.2.1, HH.out.2.2.2]
      go_round
      case rel => exact ⟨i + 1, s + (x.length : Int), rfl, rfl, by omega, by omega, by omega, ⟨by have := HH.out.1; have := HH.out.2.1; rw [show (i + 1).toNat = i.toNat + 1 from by omega]; omega⟩⟩
      case measure => simp [intOf]; omega
    · have hse : s = (lenL ls : Nat) := by
        have := HA.out
        rw [List.take_of_length_le (by omega)] at this
        exact this
      have hG := Grow_any s w hs0 (by have := HL.out.2; omega)
      have HG := Lib.hid hG
      have HSE := Lib.hid hse
      clear hG hse HA
      go_wp2_with (go_at_call 95; refine HG.out.mono ?_; rintro e w1 ⟨v6, rfl, hR6, hB6⟩; obtain ⟨A6, c6, rfl⟩ := Kd.R_slice hR6)
      have HB1 := Lib.hid hB6
      have HR6 := Lib.hid hR6
      clear hB6 hR6 hlt hi0 hi1 hs0
      go_loopw [27, 6] (fun v27 v6 wr => ∃ i : Int, v27 = .int .i64 i ∧ 0 ≤ i ∧ i ≤ ls.length ∧ Aside0 (Below w.heap.size w wr ∧ OwnL wr w.heap.size v6 (ls.take i.toNat).flatten)) (fun v27 _ _ => ls.length - (intOf v27).toNat)
      case atStart => exact ⟨0, rfl, by omega, by omega, ⟨HB1.out, by simpa using HR6.out⟩⟩
      case round =>
        obtain ⟨i, rfl, hi0, hi1, HA⟩ := hrel
        by_cases hlt : i < (ls.length : Int)
        · obtain ⟨ad, A0, c0, e, x0, hx⟩ := at_ls HC.out i hi0 hlt
          cases e
          have hsn := flat_snoc ls i.toNat (by omega)
          have hln := lenL_snoc ls i.toNat (by omega)
          have htk := lenL_take ls (i.toNat + 1)
          have hfl := flat_len (ls.take i.toNat)
          generalize ls.getD i.toNat [] = x at *
          have hB := HA.out.1
          replace x0 := (hB.cell (World.block_lt_of_cell? w _ x0)).trans x0
          have hx2 := Kd.C_below hx hB
          have hw1 : wrap64 (i + 1) = i + 1 := w64_in _ (by have := HL.out; omega)
          have HH := Lib.hid (And.intro hsn (And.intro hw1 (And.intro hln (And.intro htk hfl))))
          have HX := Lib.hid hx2
          clear hsn hw1 hx hx2 hB hln htk hfl
          go_wp2_with (at_builtin; refine Kd.R_append_rows kR (Rr := kR.K wr) (w0 := w) (W := wr) w.heap.size rfl (.tmp 31) (.tmp 32) 23 78 (.agg #[(.string ⟨#[]⟩), (.int .i64 0), (.int .i64 0), (.int .i64 0), (.string ⟨#[]⟩)]) 56 rfl Try.underlying23 Rf.info78 rfl (by decide) (by decide) u6 _ x A0 x.length c0 (fun _ => True) (fun _ => False) rfl rfl HA.out.2 HX.out (fun _ _ h => kR_flat h) (fun _ hk => hk.elim) (fun _ _ => trivial) HA.out.1 HA.out.1.size (by have := HH.out; have := HL.out; omega) ?_; intro v5 w5 hR5 hB5 hg5 hat5; obtain ⟨A5, c5, rfl⟩ := Kd.R_slice hR5)
          rw [HH.out.2.1]
          go_roundw
          case rel => exact ⟨i + 1, rfl, by omega, by omega, ⟨hB5, by rw [show (i + 1).toNat = i.toNat + 1 from by omega, HH.out.1]; simpa using hR5⟩⟩
          case measure => simp [intOf]; omega
        · have hR := HA.out.2
          rw [List.take_of_length_le (by omega)] at hR
          have HR := Lib.hid hR
          clear hR
          go_wp2
          go_ret
          exact ⟨_, rfl, HR.out, HA.out.1⟩
end Go.Proofs.Ytajdlgbhofdafaa
