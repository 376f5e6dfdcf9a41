/- octets.Pieces, and Cut by a function: the contracts. -/
import Derived.Test.YtajdlgbhofdafaaSplit
import Derived.Deep.LoopGhost
namespace Go.Proofs.Ytajdlgbhofdafaa
open Go.RowKit Go.Shelf Go.Proofs.YtajdlgbhofdafaaW.PrintWords Go.Proofs.YtajdlgbhofdafaaW.PrintLast Go.Proofs.YtajdlgbhofdafaaW.PrintMore
set_option maxRecDepth 100000

/-- The piece that bytes begin with, and what is left. -/
def cutB (n : Nat) (b : ByteArray) : Option (ByteArray × ByteArray) :=
  if b.size < n then none else
  if (b.extract n b.size).size < beN (b.extract 0 n).data.toList then none else
  some ((b.extract n b.size).extract 0 (beN (b.extract 0 n).data.toList), (b.extract n b.size).extract (beN (b.extract 0 n).data.toList) (b.extract n b.size).size)

theorem cutB_spec (n : Nat) (b : ByteArray) : (∃ h s t, b = h ++ (s ++ t) ∧ h.size = n ∧ beN h.data.toList = s.size ∧ cutB n b = some (s, t)) ∨ (b.size < n ∧ cutB n b = none) ∨
    (∃ h t, b = h ++ t ∧ h.size = n ∧ t.size < beN h.data.toList ∧ cutB n b = none) := by
  unfold cutB
  by_cases h1 : b.size < n
  · exact .inr (.inl ⟨h1, by rw [if_pos h1]⟩)
  obtain ⟨h, r, hb, hh, rfl, rfl⟩ := split_at b n (by omega)
  rw [if_neg h1]
  by_cases h2 : (b.extract n b.size).size < beN (b.extract 0 n).data.toList
  · exact .inr (.inr ⟨_, _, hb, hh, h2, by rw [if_pos h2]⟩)
  obtain ⟨s, t, hr, hs, h3, h4⟩ := split_at (b.extract n b.size) (beN (b.extract 0 n).data.toList) (by omega)
  refine .inl ⟨_, s, t, by rw [← hr]; exact hb, hh, hs.symm, ?_⟩
  rw [if_neg h2, ← h3, ← h4]

/-- The pieces that bytes are (of f rounds at most). -/
def piecesB (n : Nat) : Nat → ByteArray → Option (List ByteArray)
  | 0, b => if b.size = 0 then some [] else none
  | f + 1, b => if b.size = 0 then some [] else (cutB n b).bind fun p => (piecesB n f p.2).map (p.1 :: ·)

/-- What cut does to its reader. -/
def CutPost (w : World) (B n : Nat) (b : ByteArray) (e : Ending) (w' : World) : Prop := w.grownBy w' (some B) ∧
  match cutB n b with
  | some (s, t) => e = .returned (.string s) ∧ w'.cell? ⟨B, 0, none⟩ = some (.string t) ∧ w'.frozen? ⟨B, 0, none⟩ = false
  | none => e = .panicked shortP

theorem cut_any (B n : Nat) (b : ByteArray) (w : World) (hc : w.cell? ⟨B, 0, none⟩ = some (.string b)) (hf : w.frozen? ⟨B, 0, none⟩ = false) (hb : b.size ≤ 140737488351232) (hn : n ≤ 4) :
    Calls Try.prog 135 #[.pointer (some ⟨B, 0, none⟩), .int .i64 n] w (CutPost w B n b) := by
  rcases cutB_spec n b with ⟨h, s, t, rfl, rfl, hs, he⟩ | ⟨hlt, he⟩ | ⟨h, t, rfl, rfl, hs, he⟩
  · refine (cut_ok B h s t w hc hf (by simpa using hb) hn hs).mono ?_
    rintro e w' ⟨h1, h2, h3, h4⟩
    refine ⟨h2, ?_⟩
    rw [he]
    exact ⟨h1, h3, h4⟩
  · refine (cut_short B b n w hc hlt hb).mono ?_
    rintro e w' ⟨h1, h2⟩
    refine ⟨h2, ?_⟩
    rw [he]
    exact h1
  · refine (cut_long B h t w hc hf (by simpa using hb) hn hs).mono ?_
    rintro e w' ⟨h1, h2⟩
    refine ⟨h2, ?_⟩
    rw [he]
    exact h1

/-- What Cut answers. -/
def CutRet (w : World) (o : Option (ByteArray × ByteArray)) (e : Ending) (w' : World) : Prop := Below w.heap.size w w' ∧
  match o with
  | some (s, t) => e = .returned (.tuple #[.string s, .string t, .int .i64 0])
  | none => e = .returned (.tuple #[.string ⟨#[]⟩, .string ⟨#[]⟩, .int .i64 2])

theorem Cut_any (n : Nat) (b : ByteArray) (w : World) (hb : b.size ≤ 140737488351232) (hn : n = 1 ∨ n = 2 ∨ n = 4) :
    Calls Try.prog 165 #[.string b, .int .i64 n] w (CutRet w (cutB n b)) := by
  rcases cutB_spec n b with ⟨h, s, t, rfl, rfl, hs, he⟩ | ⟨hlt, he⟩ | ⟨h, t, rfl, rfl, hs, he⟩
  · refine (Cut_ok h s t w (by simpa using hb) hn hs).mono ?_
    rintro e w' ⟨h1, h2⟩
    rw [he]
    exact ⟨h2, h1⟩
  · refine (Cut_bad b n w hn (fun r W h1 _ => cut_short r b n W h1 hlt hb)).mono ?_
    rintro e w' ⟨h1, h2⟩
    rw [he]
    exact ⟨h2, h1⟩
  · refine (Cut_bad (h ++ t) h.size w hn (fun r W h1 h2 => cut_long r h t W h1 h2 (by simpa using hb) (by omega) hs)).mono ?_
    rintro e w' ⟨h1, h2⟩
    rw [he]
    exact ⟨h2, h1⟩


theorem cutB_size {n : Nat} {b s t : ByteArray} (h : cutB n b = some (s, t)) : n + s.size + t.size = b.size := by
  rcases cutB_spec n b with ⟨h1, s1, t1, rfl, rfl, hs, he⟩ | ⟨hlt, he⟩ | ⟨h1, t1, rfl, rfl, hs, he⟩
  · rw [he] at h
    injection h with h
    injection h with h2 h3
    subst h2 h3
    simp
    omega
  · rw [he] at h; cases h
  · rw [he] at h; cases h
theorem piecesB_step {n f : Nat} {t s1 t1 : ByteArray} {xs : List ByteArray} {o : Option (List ByteArray)} (h : o = (piecesB n (f + 1) t).map fun p => xs ++ p) (h0 : ¬ t.size = 0) (hc : cutB n t = some (s1, t1)) :
    o = (piecesB n f t1).map fun p => (xs ++ [s1]) ++ p := by
  rw [h, piecesB, if_neg h0, hc]
  cases hq : piecesB n f t1 <;> simp [hq]

theorem info_str : (Try.prog.info? 9).map (fun i => (i.zero, i.size, i.bytes)) = some (some (.string ⟨#[]⟩), 1, 16) := by kernel_rfl

/-- What the reader of Pieces leaves. -/
def PiecesPost (w : World) (r q : Nat) (o : Option (List ByteArray)) (e : Ending) (w' : World) : Prop := Fr (fun k => k = r ∨ k = q) w w' ∧
  match o with
  | some xs => e = .returned (.tuple #[]) ∧ w'.cell? ⟨r, 0, none⟩ = some (.string ⟨#[]⟩) ∧ ∃ v, w'.cell? ⟨q, 0, none⟩ = some v ∧ Kd.R Kd.string 9 w' w.heap.size (fun _ => True) v xs
  | none => e = .panicked shortP

/-- Where the reader of Pieces stands at a round's head. -/
def PiecesAt (w : World) (r q n f : Nat) (b : ByteArray) (o : Option (List ByteArray)) (wr : World) : Prop :=
  Fr (fun k => k = r ∨ k = q) w wr ∧ ∃ t v xs, wr.cell? ⟨r, 0, none⟩ = some (.string t) ∧ wr.frozen? ⟨r, 0, none⟩ = false ∧ wr.cell? ⟨q, 0, none⟩ = some v ∧ wr.frozen? ⟨q, 0, none⟩ = false ∧ t.size + xs.length ≤ b.size ∧ t.size ≤ f ∧
    Kd.R Kd.string 9 wr w.heap.size (fun _ => True) v xs ∧ o = (piecesB n f t).map fun p => xs ++ p

theorem size0 {t : ByteArray} (h : t.size = 0) : t = ⟨#[]⟩ := by
  apply ByteArray.ext
  exact Array.eq_empty_of_size_eq_zero h
theorem isE {t : ByteArray} (h : ¬ t.size = 0) : t.toList.isEmpty = false := by
  have : t.toList = t.data.toList := ByteArray.toList_eq t
  rw [this]
  cases hq : t.data.toList with
  | nil => exfalso; apply h; have := congrArg List.length hq; simpa using this
  | cons a l => rfl

set_option maxHeartbeats 1000000 in
theorem piecesfn (r p q n : Nat) (b : ByteArray) (w : World) (hr : w.cell? ⟨r, 0, none⟩ = some (.string b)) (hrf : w.frozen? ⟨r, 0, none⟩ = false)
    (hp : w.cell? ⟨p, 0, none⟩ = some (.int .i64 n)) (hq : w.cell? ⟨q, 0, none⟩ = some (.slice none 0 0)) (hqf : w.frozen? ⟨q, 0, none⟩ = false)
    (hqr : ¬ q = r) (hpr : ¬ p = r) (hpq : ¬ p = q) (hb : b.size ≤ 4398046511104) (hn : n ≤ 4) (hn1 : 1 ≤ n) :
    Calls Try.prog 134 #[.pointer (some ⟨r, 0, none⟩), .pointer (some ⟨q, 0, none⟩), .pointer (some ⟨p, 0, none⟩)] w (PiecesPost w r q (piecesB n b.size b)) := by
  have hlt1 : r < w.heap.size := World.block_lt_of_cell? w _ hr
  have hlt2 : q < w.heap.size := World.block_lt_of_cell? w _ hq
  have hlt3 : p < w.heap.size := World.block_lt_of_cell? w _ hp
  have HP := Lib.hid hp
  have HS0 : Hid (PiecesAt w r q n b.size b (piecesB n b.size b) w) := ⟨Fr.refl _ _, b, .slice none 0 0, [], hr, hrf, hq, hqf, by simp, Nat.le_refl _, Kd.R_nil _ _ _ _ _, by simp⟩
  go_enter Try.func134, Try.ntmps134
  go_wp2
  clear hr hrf hq hqf hp
  go_loopg [4] b.size (fun f _ wr => PiecesAt w r q n f b (piecesB n b.size b) wr)
  case atStart => exact HS0.out
  case round =>
    obtain ⟨hfr, t, v, xs, hc, hcf, hv, hvf, htb, htf, hR, ho⟩ := hrel
    by_cases h0 : t.size = 0
    · have ht0 := size0 h0
      subst ht0
      go_wp2
      have hfin : PiecesPost w r q (piecesB n b.size b) (.returned (.tuple #[])) wr := by
        have e0 : piecesB n gk ⟨#[]⟩ = some [] := by cases gk <;> rfl
        rw [ho, e0]
        refine ⟨hfr, rfl, hc, v, hv, ?_⟩
        rw [show (fun p => xs ++ p) [] = xs from List.append_nil xs]
        exact hR
      go_end0
      exact hfin
    · have hne := isE h0
      obtain ⟨f, rfl⟩ : ∃ f, gk = f + 1 := ⟨gk - 1, by omega⟩
      have hp : wr.cell? ⟨p, 0, none⟩ = some (.int .i64 n) := by
        rw [hfr.cell (p := ⟨p, 0, none⟩) hlt3 (by simp only; omega)]
        exact HP.out
      have hcu := cut_any r n t wr.drew hc hcf (by omega) hn
      have HO := Lib.hid ho
      have HR := Lib.hid hR
      have HF := Lib.hid hfr
      clear ho hR hfr
      unfold CutPost at hcu
      generalize hcb : cutB n t = oc at hcu
      have HCB := Lib.hid hcb
      clear hcb
      cases oc with
      | none =>
        have HC := Lib.hid hcu
        have HFI : Hid (∀ w', wr.drew.grownBy w' (some r) → PiecesPost w r q (piecesB n b.size b) (.panicked shortP) w') := by
          intro w' hg
          have e0 : piecesB n b.size b = none := by rw [HO.out, piecesB, if_neg h0, HCB.out]; rfl
          rw [e0]
          exact ⟨(HF.out.drew).grown hg (fun k e _ => .inl (by injection e with e; exact e.symm)), rfl⟩
        clear hcu
        go_wp2_with fail
        refine start_ (n := 7) (S := fun w' => w'.cell? ⟨q, 0, none⟩ = some v ∧ w'.cell? ⟨p, 0, none⟩ = some (.int .i64 n)) (ds := [6]) #[false, false, false, false, false, false, false] (by kernel_rfl) rfl rfl ⟨hv, hp⟩ (fun hHeld => ?_)
        refine pure_ (i := 1) (N := some 10) (v := ?_) (a' := ?_) #[false, true, false, false, false, false, false] rfl rfl (by kernel_rfl) (fun _ _ _ h => h) (Or.inl ⟨by rfl, ?_⟩) ?_ ?_
        rotate_left
        · intro w'
          go_simp
          with_reducible rfl
        rotate_left
        · simp only [Act.put, List.setIfInBounds_toArray, List.set_cons_zero, List.set_cons_succ, i64_w, i32_w]
          rfl
        refine take_ (i := 0) (N := some 9) (v := ?_) (a' := ?_) #[true, true, false, false, false, false, false] rfl rfl (by kernel_rfl) (fun _ _ _ h => h) (Or.inl ⟨by rfl, ?_⟩) hHeld ?_ ?_
        rotate_left
        · rintro w' ⟨s0, s1⟩
          go_simp
          with_reducible rfl
        rotate_left
        · simp only [Act.put, List.setIfInBounds_toArray, List.set_cons_zero, List.set_cons_succ, i64_w, i32_w]
          rfl
        refine take_ (i := 2) (N := some 11) (v := ?_) (a' := ?_) #[true, true, true, false, false, false, false] rfl rfl (by kernel_rfl) (fun _ _ _ h => h) (Or.inl ⟨by rfl, ?_⟩) hHeld ?_ ?_
        rotate_left
        · rintro w' ⟨s0, s1⟩
          go_simp
          with_reducible rfl
        rotate_left
        · simp only [Act.put, List.setIfInBounds_toArray, List.set_cons_zero, List.set_cons_succ, i64_w, i32_w]
          rfl
        refine one_ (i := 3) (N := some 12) #[true, true, true, true, false, false, false] rfl rfl (by kernel_rfl) (by decide) (fun K hK => ?_)
        refine callP_ 135 #[.pointer (some ⟨r, 0, none⟩), .int .i64 n] rfl rfl (by go_simp) ?_
        refine HC.out.mono ?_
        rintro e w' ⟨hg, rfl⟩
        exact .inr ⟨_, rfl, rfl, HFI.out _ hg⟩
      | some pr =>
        obtain ⟨s1, t1⟩ := pr
        have HC := Lib.hid hcu
        clear hcu
        go_wp2_with fail
        refine start_ (n := 7) (S := fun w' => w'.cell? ⟨q, 0, none⟩ = some v ∧ w'.cell? ⟨p, 0, none⟩ = some (.int .i64 n)) (ds := [6]) #[false, false, false, false, false, false, false] (by kernel_rfl) rfl rfl ⟨hv, hp⟩ (fun hHeld => ?_)
        refine pure_ (i := 1) (N := some 10) (v := ?_) (a' := ?_) #[false, true, false, false, false, false, false] rfl rfl (by kernel_rfl) (fun _ _ _ h => h) (Or.inl ⟨by rfl, ?_⟩) ?_ ?_
        rotate_left
        · intro w'
          go_simp
          with_reducible rfl
        rotate_left
        · simp only [Act.put, List.setIfInBounds_toArray, List.set_cons_zero, List.set_cons_succ, i64_w, i32_w]
          rfl
        refine take_ (i := 0) (N := some 9) (v := ?_) (a' := ?_) #[true, true, false, false, false, false, false] rfl rfl (by kernel_rfl) (fun _ _ _ h => h) (Or.inl ⟨by rfl, ?_⟩) hHeld ?_ ?_
        rotate_left
        · rintro w' ⟨s0, s1⟩
          go_simp
          with_reducible rfl
        rotate_left
        · simp only [Act.put, List.setIfInBounds_toArray, List.set_cons_zero, List.set_cons_succ, i64_w, i32_w]
          rfl
        refine take_ (i := 2) (N := some 11) (v := ?_) (a' := ?_) #[true, true, true, false, false, false, false] rfl rfl (by kernel_rfl) (fun _ _ _ h => h) (Or.inl ⟨by rfl, ?_⟩) hHeld ?_ ?_
        rotate_left
        · rintro w' ⟨s0, s1⟩
          go_simp
          with_reducible rfl
        rotate_left
        · simp only [Act.put, List.setIfInBounds_toArray, List.set_cons_zero, List.set_cons_succ, i64_w, i32_w]
          rfl
        refine one_ (i := 3) (N := some 12) #[true, true, true, true, false, false, false] rfl rfl (by kernel_rfl) (by decide) (fun K hK => ?_)
        refine goes_ Try.func135 (by kernel_rfl) rfl #[.pointer (some ⟨r, 0, none⟩), .int .i64 n] (by rfl) rfl rfl (by simp only [List.map_toArray, List.map_cons, List.map_nil]; rfl) ?_
        with_reducible refine (HC.out).mono ?_
        rintro e w1 ⟨hg, rfl, hc1, hf1⟩
        refine ⟨_, rfl, ?_⟩
        have hv1 := hg.cell hv (by simpa using hqr)
        have hp1 := hg.cell hp (by simpa using hpr)
        have hvf1 := (World.frozen?_of_block (hg.block q (World.block_lt_of_cell? wr _ hv) (by simpa using hqr))).trans hvf
        refine hK.out _ _ ⟨hv1, hp1⟩ (fun hHeld => ?_)
        clear hK K
        refine norm_ (a' := ?_) ?_ ?_
        rotate_left
        · show Act.put _ (some 12) _ = _
          simp only [Act.put, List.setIfInBounds_toArray, List.set_cons_zero, List.set_cons_succ, i64_w, i32_w]
          rfl
        refine one_ (i := 4) (N := some 13) #[true, true, true, true, true, false, false] rfl rfl (by kernel_rfl) (by decide) (fun K hK => ?_)
        refine value_ (w1 := ?_) (v := ?_) (by rfl) rfl ?_ ?_
        rotate_left 2
        · go_simp
          constructor
          · rfl
          · rfl
        have hv2 := cell_al hv1 (.cells #[.string s1] 9)
        have hp2 := cell_al hp1 (.cells #[.string s1] 9)
        refine hK.out _ _ ⟨hv2, hp2⟩ (fun hHeld => ?_)
        clear hK K
        refine norm_ (a' := ?_) ?_ ?_
        rotate_left
        · show Act.put _ (some 13) _ = _
          simp only [Act.put, List.setIfInBounds_toArray, List.set_cons_zero, List.set_cons_succ, i64_w, i32_w]
          rfl
        refine one_ (i := 5) (N := some 14) #[true, true, true, true, true, true, false] rfl rfl (by kernel_rfl) (by decide) (fun K hK => ?_)
        have FR1 := (HF.out.drew).grown hg (fun k e _ => .inl (by injection e with e; exact e.symm))
        have hRw := R_old HR.out (w1 := w1) (fun k h1 h2 => hg.block k h2 (by intro e; injection e with e; subst e; omega))
        refine Kd.R_append_step Kd.string (w0 := w1) w.heap.size rfl (.tmp 9) (.tmp 13) 73 9 (.string ⟨#[]⟩) 16 rfl Try.underlying73 info_str rfl (by decide) (by decide) v xs s1 [.string s1] (fun _ => True) (fun _ => False) rfl rfl rfl (fun _ hk => hk.elim) (fun _ _ => trivial) hRw (Below.refl _ _) FR1.size (by omega) ?_
        intro v1 w3 hR3 _ hg3 _
        obtain ⟨A1, c1, rfl⟩ := Kd.R_slice hR3
        have hlo := fun k (hk : v.ownBlock = some k) => R_lo hRw k hk
        have hqo : ¬ some q = v.ownBlock := fun e => by have := hlo q e.symm; omega
        have hro : ¬ some r = v.ownBlock := fun e => by have := hlo r e.symm; omega
        have hpo : ¬ some p = v.ownBlock := fun e => by have := hlo p e.symm; omega
        have hv3 := hg3.cell hv1 hqo
        have hp3 := hg3.cell hp1 hpo
        have hvf3 := (World.frozen?_of_block (hg3.block q (World.block_lt_of_cell? w1 _ hv1) hqo)).trans hvf1
        have hc3 := hg3.cell hc1 hro
        have hf3 := (World.frozen?_of_block (hg3.block r (World.block_lt_of_cell? w1 _ hc1) hro)).trans hf1
        have FR3 := FR1.grown hg3 (fun k e hk => absurd (hlo k e) (by omega))
        refine hK.out _ _ ⟨hv3, hp3⟩ (fun hHeld => ?_)
        clear hK K
        refine norm_ (a' := ?_) ?_ ?_
        rotate_left
        · show Act.put _ (some 14) _ = _
          simp only [Act.put, List.setIfInBounds_toArray, List.set_cons_zero, List.set_cons_succ, i64_w, i32_w]
          rfl
        refine last_ (i := 6) (N := none) #[true, true, true, true, true, true, true] rfl rfl (by kernel_rfl) (by decide) (fun K hK => ?_)
        refine skip_ (w1 := ?_) (by rfl) rfl ?_ ?_
        rotate_left
        · go_simp
          rfl
        refine hK.out _ _ ?_
        clear hK K
        refine done_ (by kernel_rfl) ?_
        have hsz := cutB_size HCB.out
        have hS' : PiecesAt w r q n f b (piecesB n b.size b) (w3.setCell ⟨q, 0, none⟩ (.slice A1 (xs ++ [s1]).length c1)) := by
          refine ⟨FR3.set _ _ (fun _ => .inr rfl), t1, _, xs ++ [s1], ?_, ?_, World.cell?_setCell_same' _ _ _ (by rw [hv3]; rfl), by rw [World.frozen?_setCell]; exact hvf3, by simp only [List.length_append, List.length_singleton]; omega, by omega, ?_, piecesB_step HO.out h0 HCB.out⟩
          · rw [World.cell?_setCell_other _ _ _ _ (by intro e; have := congrArg Addr.block e; simp at this; omega)]
            exact hc3
          · rw [World.frozen?_setCell]; exact hf3
          · exact R_old hR3 (fun k h1 h2 => Below.heap_setCell _ _ _ _ (by simp only; omega))
        rw [show (xs ++ [s1]).length = xs.length + 1 from by simp] at hS'
        have HS' := Lib.hid hS'
        clear hS' FR1 FR3
        go_wp2
        go_roundg f
        case measure => omega
        case rel => exact HS'.out


/-- The world in which Pieces calls its reader: the width, and the pieces, in variables. -/
abbrev piecesW (w : World) (n : Nat) : World := (w.alloc (.cells #[.int .i64 n] 3)).alloc (.cells #[.slice none 0 0] 73)
theorem piecesW_size (w : World) (n : Nat) : (piecesW w n).heap.size = w.heap.size + 1 + 1 := by simp only [piecesW, sz_al]
theorem piecesW_0 (w : World) (n : Nat) : (piecesW w n).heap[w.heap.size]? = some (.cells #[.int .i64 n] 3) := by
  rw [piecesW, hp_al, if_neg (by simp only [sz_al]; omega), hp_al, if_pos rfl]
theorem piecesW_1 (w : World) (n : Nat) : (piecesW w n).heap[w.heap.size + 1]? = some (.cells #[.slice none 0 0] 73) := by
  rw [piecesW, hp_al, if_pos (by simp only [sz_al])]
theorem piecesW_fr (w : World) (n : Nat) : Fr (fun _ => False) w (piecesW w n) := ((Fr.refl _ w).alloc _).alloc _
theorem enters_pieces : Enters Try.prog 134 := enters_of Try.func134 (by kernel_rfl) rfl

theorem pieces_read (w : World) (n : Nat) (b : ByteArray) (hb : b.size ≤ 4398046511104) (hn : n ≤ 4) (hn1 : 1 ≤ n) :
    Calls Try.prog 99 #[.string b, .func (.func 134) #[] #[.pointer (some ⟨w.heap.size + 1, 0, none⟩), .pointer (some ⟨w.heap.size, 0, none⟩)]] (piecesW w n) fun e w' => Below w.heap.size w w' ∧
      match piecesB n b.size b with
      | some xs => e = .returned (.tuple #[.string ⟨#[]⟩, .int .i64 0]) ∧ ∃ v, w'.cell? ⟨w.heap.size + 1, 0, none⟩ = some v ∧ Kd.R Kd.string 9 w' w.heap.size (fun _ => True) v xs
      | none => e = .returned (.tuple #[.string ⟨#[]⟩, .int .i64 2]) := by
  generalize hWq : piecesW w n = W at *
  have hz : W.heap.size = w.heap.size + 1 + 1 := by rw [← hWq]; exact piecesW_size _ _
  have hW0 : W.heap[w.heap.size]? = some (.cells #[.int .i64 n] 3) := by rw [← hWq]; exact piecesW_0 _ _
  have hW1 : W.heap[w.heap.size + 1]? = some (.cells #[.slice none 0 0] 73) := by rw [← hWq]; exact piecesW_1 _ _
  have hWf : Fr (fun _ => False) w W := by rw [← hWq]; exact piecesW_fr _ _
  have hr0 := rdW_2 W b
  have h0 := ((rdW_fr W b).block w.heap.size (by omega) (by simp)).trans hW0
  have h1 := ((rdW_fr W b).block (w.heap.size + 1) (by omega) (by simp)).trans hW1
  have hsz := rdW_size W b
  have K := piecesfn (W.heap.size + 1 + 1) w.heap.size (w.heap.size + 1) n b (rdW W b) (cell_at hr0 rfl) (froz_at hr0) (cell_at h0 rfl) (cell_at h1 rfl) (froz_at h1) (by omega) (by omega) (by omega) hb hn hn1
  have g0 : Fr (fun k => w.heap.size ≤ k) w (rdW W b) := (hWf.mono (by simp)).trans ((rdW_fr W b).mono (by simp))
  generalize hq : piecesB n b.size b = o at K
  cases o with
  | none =>
    refine (reading_badF _ enters_pieces _ _ b W (fun w1 => Fr (fun k => k = W.heap.size + 1 + 1 ∨ k = w.heap.size + 1) (rdW W b) w1) (K.mono ?_)).mono ?_
    · rintro e w' ⟨hf, rfl⟩
      exact ⟨rfl, fun k hk1 hk2 => hf.block k (by omega) (by omega), hf⟩
    · rintro e w' ⟨rfl, w1, hf, hf2⟩
      have g2 : Fr (fun k => w.heap.size ≤ k) w w' := (g0.trans (hf.mono (by intro k _ hk; omega))).trans (hf2.mono (by intro k _ hk; omega))
      exact ⟨g2.to_below (Nat.le_refl _) (by intro k hk; omega), rfl⟩
  | some xs =>
    refine (reading_okF _ enters_pieces _ _ b ⟨#[]⟩ W (fun w1 => Fr (fun k => k = W.heap.size + 1 + 1 ∨ k = w.heap.size + 1) (rdW W b) w1 ∧ ∃ v, w1.cell? ⟨w.heap.size + 1, 0, none⟩ = some v ∧ Kd.R Kd.string 9 w1 (rdW W b).heap.size (fun _ => True) v xs) (K.mono ?_)).mono ?_
    · rintro e w' ⟨hf, rfl, hc, v, hv, hR⟩
      exact ⟨rfl, hc, fun k hk1 hk2 => hf.block k (by omega) (by omega), hf, v, hv, hR⟩
    · rintro e w' ⟨rfl, w1, ⟨hf, v, hv, hR⟩, hf2⟩
      have g2 : Fr (fun k => w.heap.size ≤ k) w w' := (g0.trans (hf.mono (by intro k _ hk; omega))).trans (hf2.mono (by intro k _ hk; omega))
      refine ⟨g2.to_below (Nat.le_refl _) (by intro k hk; omega), rfl, v, ?_, ?_⟩
      · rw [hf2.cell (p := ⟨w.heap.size + 1, 0, none⟩) (by have := hf.size; simp only; omega) (by simp only; omega)]
        exact hv
      · exact Kd.R_lower (R_old hR (fun k h1 h2 => hf2.block k h2 (by omega))) (by omega)

/-- What Pieces answers. -/
def PiecesRet (w : World) (o : Option (List ByteArray)) (e : Ending) (w' : World) : Prop := Below w.heap.size w w' ∧
  match o with
  | some xs => ∃ v, e = .returned (.tuple #[v, .int .i64 0]) ∧ Kd.R Kd.string 9 w' w.heap.size (fun _ => True) v xs
  | none => e = .returned (.tuple #[.slice none 0 0, .int .i64 2])

set_option maxHeartbeats 400000 in
theorem Pieces_any (n : Nat) (b : ByteArray) (w : World) (hb : b.size ≤ 4398046511104) (hn : n = 1 ∨ n = 2 ∨ n = 4) :
    Calls Try.prog 102 #[.string b, .int .i64 n] w (PiecesRet w (piecesB n b.size b)) := by
  have K := pieces_read w n b hb (by omega) (by omega)
  have hp := fun w => piece_any (n : Int) w
  have hpt : ((n : Int) == 1 || (n : Int) == 2 || (n : Int) == 4) = true := by rcases hn with e | e | e <;> simp [e]
  rw [hpt] at hp
  have hmf : ∀ (fn : Fn) (first cap : Array Value) (w : World), (Instr.makeFunc fn first cap).run Try.prog w = .ok (.func fn first cap) w := fun _ _ _ _ => rfl
  generalize hq : piecesB n b.size b = o at *
  clear hq
  have K' := Lib.hid K
  clear K hn hpt
  cases o with
  | none =>
    go_enter Try.func102, Try.ntmps102
    go_wp2_with (first | (go_at_call 129; refine (hp _).mono ?_; rintro e w' ⟨rfl, rfl⟩) | (go_at_call 99; refine K'.out.mono ?_; rintro e w2 ⟨hB, rfl⟩))
    go_ret2
    exact ⟨hB, rfl⟩
  | some xs =>
    go_enter Try.func102, Try.ntmps102
    go_wp2_with (first | (go_at_call 129; refine (hp _).mono ?_; rintro e w' ⟨rfl, rfl⟩) | (go_at_call 99; refine K'.out.mono ?_; rintro e w2 ⟨hB, rfl, v, hv, hR⟩))
    go_ret2
    exact ⟨hB, v, rfl, hR⟩

end Go.Proofs.Ytajdlgbhofdafaa
