/- rdata.Write. -/
import Derived.Test.YtajdlgbhofdafaaData
namespace Go.Proofs.Ytajdlgbhofdafaa
open Go.RowKit Go.Shelf
set_option maxRecDepth 1000000
attribute [local go_sem] Oper.semAt_some

theorem knownOk_add {es : Known} {n : ByteArray} {len : Nat} (h : KnownOk es) : KnownOk (if len < 16384 then es ++ [(n, len)] else es) := by
  by_cases hl : len < 16384
  · rw [if_pos hl]
    intro p hp
    rcases List.mem_append.1 hp with hp | hp
    · exact h p hp
    · simp at hp
      subst hp
      exact hl
  · rw [if_neg hl]
    exact h
theorem nameR_ok : ∀ (f : Nat) (es : Known) (len : Nat) (n : ByteArray) (may : Bool), rightB n = true → n.size ≤ f → KnownOk es → (nameR f es len n may).1.size ≤ n.size ∧ KnownOk (nameR f es len n may).2 := by
  intro f
  induction f with
  | zero => intro es len n may _ _ hk; exact ⟨Nat.zero_le _, hk⟩
  | succ f ih =>
    intro es len n may hr hf hk
    rcases right_cases hr with rfl | ⟨hroot, t, t', hcut, hs0, hs63, hrt, hpar, hmsz, hm255, hsplit⟩
    · rw [nameR_root]; exact ⟨Nat.le_refl _, hk⟩
    · cases hq : getV es n with
      | some q =>
        cases may with
        | true =>
          rw [nameR_ptr hroot hq]
          refine ⟨?_, hk⟩
          dsimp only
          rw [joinB_size]
          have : t'.size ≠ 0 := by
            intro h0
            have := size0 h0
            subst this
            have : rightB ⟨#[]⟩ = false := by
              unfold rightB
              have h1 : labelsB (⟨#[]⟩ : ByteArray).size ⟨#[]⟩ = [] := rfl
              rw [h1]
              have h2 : (endOf ⟨#[]⟩ [] == (⟨#[0]⟩ : ByteArray)) = false := rfl
              have h3 : ((endOf ⟨#[]⟩ []).toList == [0]) = false := by
                rw [beq_eq_false_iff_ne, ByteArray.toList_eq]
                decide
              rw [h3, Bool.and_false]
            rw [this] at hrt
            cases hrt
          simp; omega
        | false =>
          rw [nameR_old hroot hq hpar (by omega)]
          have := ih es (len + (n.size - t'.size)) t' false hrt (by omega) hk
          refine ⟨?_, this.2⟩
          dsimp only
          rw [size_app]
          have h2 : (n.extract 0 (n.size - t'.size)).size = n.size - t'.size := by simp
          omega
      | none =>
        rw [nameR_new hroot hq hpar (by omega)]
        have := ih (if len < 16384 then es ++ [(n, len)] else es) (len + (n.size - t'.size)) t' may hrt (by omega) (knownOk_add hk)
        refine ⟨?_, this.2⟩
        dsimp only
        rw [size_app]
        have h2 : (n.extract 0 (n.size - t'.size)).size = n.size - t'.size := by simp
        omega
/-- What Write does with a part. -/
def stepP (st : ByteArray × Known) (x : Int × ByteArray) : ByteArray × Known :=
  if x.1 = -1 ∨ x.1 = -2 then (st.1 ++ (nameR x.2.size st.2 st.1.size x.2 (x.1 == -1)).1, (nameR x.2.size st.2 st.1.size x.2 (x.1 == -1)).2) else (st.1 ++ x.2, st.2)
def writeP (st : ByteArray × Known) (l : List (Int × ByteArray)) : ByteArray × Known := l.foldl stepP st
theorem writeP_snoc (st : ByteArray × Known) (l : List (Int × ByteArray)) (x : Int × ByteArray) : writeP st (l ++ [x]) = stepP (writeP st l) x := by simp [writeP]
theorem stepP_ok {st : ByteArray × Known} {x : Int × ByteArray} (h : (x.1 = -1 ∨ x.1 = -2) → rightB x.2 = true) (hk : KnownOk st.2) : (stepP st x).1.size ≤ st.1.size + x.2.size ∧ KnownOk (stepP st x).2 := by
  unfold stepP
  by_cases hx : x.1 = -1 ∨ x.1 = -2
  · rw [if_pos hx]
    have := nameR_ok x.2.size st.2 st.1.size x.2 (x.1 == -1) (h hx) (Nat.le_refl _) hk
    refine ⟨?_, this.2⟩
    dsimp only
    rw [size_app]
    omega
  · rw [if_neg hx]
    exact ⟨by dsimp only; rw [size_app]; omega, hk⟩
theorem writeP_ok (l : List (Int × ByteArray)) : ∀ (st : ByteArray × Known), (∀ x ∈ l, (x.1 = -1 ∨ x.1 = -2) → rightB x.2 = true) → KnownOk st.2 → (writeP st l).1.size ≤ st.1.size + sumP l ∧ KnownOk (writeP st l).2 := by
  induction l with
  | nil => intro st _ hk; exact ⟨by simp [writeP, sumP], hk⟩
  | cons x l ih =>
    intro st h hk
    have h1 := stepP_ok (h x (by simp)) hk
    have h2 := ih (stepP st x) (fun y hy => h y (by simp [hy])) h1.2
    refine ⟨?_, h2.2⟩
    have : (writeP st (x :: l)) = writeP (stepP st x) l := rfl
    rw [this]
    simp only [sumP, List.map_cons, List.sum_cons] at h2 ⊢
    omega
/-- A cell that points to a packer that parts were written to. -/
def WrAt (b pc : Nat) (st : ByteArray × Known) (l : List (Int × ByteArray)) (O : Nat → Prop) (w : World) : Prop :=
  ∃ O1, w.heap[pc]? = some (.cells #[.pointer (some ⟨b, 0, none⟩)] 120 (0, 0)) ∧ PkAt b (writeP st l) O1 w ∧ ¬ O1 pc ∧ ∀ k, O k ↔ (k = pc ∨ O1 k)
theorem wrAt_stab (b pc : Nat) (st : ByteArray × Known) : Stab (WrAt b pc st) := by
  rintro x O a b' ⟨O1, h1, h2, h3, h4⟩ hk
  exact ⟨O1, (hk pc ((h4 pc).2 (.inl rfl)) (Array.getElem?_eq_some_iff.1 h1).1).trans h1, pkAt_stab b _ _ _ _ h2 (fun k hO hl => hk k ((h4 k).2 (.inr hO)) hl), h3, h4⟩
theorem enters_write1 : Enters Try.prog 166 := enters_of Try.func166 (by kernel_rfl) rfl
theorem wrAt_step {b pc : Nat} {st : ByteArray × Known} {l : List (Int × ByteArray)} {x : Int × ByteArray} {O O1 O1' : Nat → Prop} {w w' : World} (h1 : w.heap[pc]? = some (.cells #[.pointer (some ⟨b, 0, none⟩)] 120 (0, 0))) (h3 : ¬ O1 pc) (h4 : ∀ k, O k ↔ (k = pc ∨ O1 k))
    (hp : PkAt b (stepP (writeP st l) x) O1' w') (hch : Ch O1 O1' w w') : ∃ O', WrAt b pc st (l ++ [x]) O' w' ∧ Ch O O' w w' := by
  have hlt := (Array.getElem?_eq_some_iff.1 h1).1
  refine ⟨fun k => k = pc ∨ O1' k, ⟨O1', (hch.fr.block pc hlt h3).trans h1, by rw [writeP_snoc]; exact hp, hch.not_own hlt h3, fun k => Iff.rfl⟩, hch.fr.mono (fun k _ h => (h4 k).2 (.inr h)), fun k hk => ?_⟩
  rcases hk with rfl | hk
  · exact .inl ((h4 _).2 (.inl rfl))
  · exact (hch.new k hk).imp_left (fun h => (h4 k).2 (.inr h))
set_option maxHeartbeats 2000000 in
theorem write1_any (b pc : Nat) (st : ByteArray × Known) (l : List (Int × ByteArray)) (x : Int × ByteArray) (O : Nat → Prop) (w : World) (h : WrAt b pc st l O w) (hx : (x.1 = -1 ∨ x.1 = -2) → rightB x.2 = true) (hk : KnownOk (writeP st l).2) (hb : (writeP st l).1.size + x.2.size ≤ 1000000000) :
    Calls Try.prog 166 #[.int .i64 x.1, .string x.2, .pointer (some ⟨pc, 0, none⟩)] w fun e w' => e = .returned (.tuple #[]) ∧ ∃ O', WrAt b pc st (l ++ [x]) O' w' ∧ Ch O O' w w' := by
  obtain ⟨O1, h1, h2, h3, h4⟩ := h
  have c0 : w.cell? ⟨pc, 0, none⟩ = some (.pointer (some ⟨b, 0, none⟩)) := cell_at h1 rfl
  obtain ⟨k, s⟩ := x
  dsimp only at hx hb ⊢
  have hst := fun (w' : World) (O1' : Nat → Prop) => wrAt_step (st := st) (l := l) (x := (k, s)) (w' := w') (O1' := O1') h1 h3 h4
  by_cases hn : k = -1
  · subst hn
    have hN := Name_pk b (writeP st l).1 (writeP st l).2 s true O1 w h2 (hx (.inl rfl)) hk hb
    have e : stepP (writeP st l) (-1, s) = ((writeP st l).1 ++ (nameR s.size (writeP st l).2 (writeP st l).1.size s true).1, (nameR s.size (writeP st l).2 (writeP st l).1.size s true).2) := by
      unfold stepP; rw [if_pos (.inl rfl)]; rfl
    rw [e] at hst
    have HN := Lib.hid hN
    have HS := Lib.hid hst
    clear hN hst h1 h2 h3 h4 hx hk hb e
    go_enter Try.func166, Try.ntmps166
    go_wp2_with (go_at_call 63; refine HN.out.mono ?_; rintro e w1 ⟨rfl, O2, hp2, hch2⟩)
    refine bodyPost_ret (results_none rfl _ _ _) rfl ?_
    exact ⟨rfl, HS.out _ _ hp2 hch2⟩
  by_cases hn2 : k = -2
  · subst hn2
    have hN := Name_pk b (writeP st l).1 (writeP st l).2 s false O1 w h2 (hx (.inr rfl)) hk hb
    have e : stepP (writeP st l) (-2, s) = ((writeP st l).1 ++ (nameR s.size (writeP st l).2 (writeP st l).1.size s false).1, (nameR s.size (writeP st l).2 (writeP st l).1.size s false).2) := by
      unfold stepP; rw [if_pos (.inr rfl)]; rfl
    rw [e] at hst
    have HN := Lib.hid hN
    have HS := Lib.hid hst
    clear hN hst h1 h2 h3 h4 hx hk hb e
    go_enter Try.func166, Try.ntmps166
    go_wp2_with (go_at_call 63; refine HN.out.mono ?_; rintro e w1 ⟨rfl, O2, hp2, hch2⟩)
    refine bodyPost_ret (results_none rfl _ _ _) rfl ?_
    exact ⟨rfl, HS.out _ _ hp2 hch2⟩
  · have hN := Raw_pk b (writeP st l).1 s (writeP st l).2 O1 w h2 (by omega)
    have e : stepP (writeP st l) (k, s) = ((writeP st l).1 ++ s, (writeP st l).2) := by
      unfold stepP; rw [if_neg (by rintro (h | h) <;> contradiction)]
    rw [e] at hst
    have e1 : (k == -1) = false := by simpa using hn
    have e2 : (k == -2) = false := by simpa using hn2
    have HN := Lib.hid hN
    have HS := Lib.hid hst
    clear hN hst h1 h2 h3 h4 hx hk hb e
    go_enter Try.func166, Try.ntmps166
    go_wp2_with (go_at_call 62; refine HN.out.mono ?_; rintro e w1 ⟨rfl, O2, hp2, hch2⟩)
    go_end0
    exact ⟨rfl, HS.out _ _ hp2 hch2⟩

/-- A packer's state behind right data. -/
def writeD (st : ByteArray × Known) (t : Int) (data : ByteArray) : ByteArray × Known := writeP st (walkL data data.size (partsL t) 0).1
theorem rightD_sum {t : Int} {data : ByteArray} (h : rightD t data = true) : data.size ≤ 65535 ∧ (walkL data data.size (partsL t) 0).2 = some data.size ∧ sumP (walkL data data.size (partsL t) 0).1 = data.size := by
  unfold rightD at h
  simp only [Bool.and_eq_true, decide_eq_true_eq, beq_iff_eq] at h
  exact ⟨h.1.1, h.1.2, h.2⟩
theorem sumP_prefix {l r : List (Int × ByteArray)} (h : l <+: r) : sumP l ≤ sumP r := by
  obtain ⟨s, rfl⟩ := h
  simp [sumP]

set_option maxHeartbeats 2000000 in
/-- Write, of right data. -/
theorem WriteD_any (b : Nat) (st : ByteArray × Known) (t : Int) (data : ByteArray) (O : Nat → Prop) (w : World) (h : PkAt b st O w) (hr : rightD t data = true) (hk : KnownOk st.2) (hb : st.1.size + data.size ≤ 1000000000) :
    Calls Try.prog 142 #[.pointer (some ⟨b, 0, none⟩), .int .i64 t, .string data] w fun e w' => e = .returned (.int .i64 0) ∧ ∃ O', PkAt b (writeD st t data) O' w' ∧ Ch O O' w w' := by
  obtain ⟨hsz, hend, hsum⟩ := rightD_sum hr
  have hR := fun w => RightD_any t data w (by omega)
  rw [hr] at hR
  have hmem := walkL_mem data data.size (partsL t) 0
  have hOl := pkAt_lt h
  have hzw : (w.alloc (.cells #[.pointer (some ⟨b, 0, none⟩)] 120)).heap.size = w.heap.size + 1 := sz_al _ _
  have hfr0 : Ch O (fun k => k = w.heap.size ∨ O k) w (w.alloc (.cells #[.pointer (some ⟨b, 0, none⟩)] 120)) := ⟨(Fr.refl _ w).alloc _, fun k hk => hk.elim (fun h => .inr (by omega)) .inl⟩
  have hwalk := fun (w1 : World) (hB1 : Below (w.heap.size + 1) (w.alloc (.cells #[.pointer (some ⟨b, 0, none⟩)] 120)) w1) => walk_any 166 enters_write1 (.pointer (some ⟨w.heap.size, 0, none⟩)) data 0 data.size t (WrAt b w.heap.size st) (fun k => k = w.heap.size ∨ O k) w1 (Nat.zero_le _) (Nat.le_refl _) (by omega) (wrAt_stab b _ st)
    (fun k hk => by have := hB1.size; rw [hzw] at this; exact hk.elim (fun h => by omega) (fun h => by have := hOl k h; omega))
    ⟨O, (hB1.block w.heap.size (by omega)).trans (by rw [hp_al, if_pos rfl]), pkAt_stab b _ _ _ _ h (fun k hO hl => (hB1.block k (by omega)).trans (by rw [hp_al, if_neg (by omega)])), fun hO => by have := hOl _ hO; omega, fun k => Iff.rfl⟩
    (fun pre x O2 wr hJ hpre => by
      have hp1 : pre <+: (walkL data data.size (partsL t) 0).1 := List.IsPrefix.trans (List.prefix_append _ _) hpre
      have hin : ∀ y ∈ pre ++ [x], y ∈ (walkL data data.size (partsL t) 0).1 := fun y hy => by
        obtain ⟨suf, hsuf⟩ := hpre
        rw [← hsuf]
        exact List.mem_append_left _ hy
      have hok := writeP_ok pre st (fun y hy => (hmem y (hin y (List.mem_append_left _ hy))).2) hk
      have hs2 := sumP_prefix hpre
      rw [sumP_snoc] at hs2
      exact write1_any b _ st pre x O2 wr hJ (hmem x (hin x (by simp))).2 hok.2 (by omega))
  unfold writeD
  generalize hW : walkL data data.size (partsL t) 0 = R at *
  have hmf : ∀ (fn : Fn) (first cap : Array Value) (w : World), (Instr.makeFunc fn first cap).run Try.prog w = .ok (.func fn first cap) w := fun _ _ _ _ => rfl
  have HR := Lib.hid hR
  have HW := Lib.hid hwalk
  clear hR hwalk hmem hW hsum hend h hr hk hb
  go_enter Try.func142, Try.ntmps142
  go_wp2_with (first | (go_at_call 118; refine (HR.out _).mono ?_; rintro e w1 ⟨rfl, hB1⟩; rw [hzw] at hB1) | (go_at_call 144; refine (HW.out w1 hB1).mono ?_; rintro e w2 ⟨rfl, O2, ⟨O3, hc, hp, hn, hO3⟩, hch⟩))
  go_ret
  have hch2 : Ch O O2 w w2 := (hfr0.below (hB1.mono (by rw [hzw]; omega))).trans hch
  exact ⟨rfl, O3, hp, hch2.fr, fun k hk => hch2.new k ((hO3 k).2 (.inr hk))⟩
end Go.Proofs.Ytajdlgbhofdafaa
