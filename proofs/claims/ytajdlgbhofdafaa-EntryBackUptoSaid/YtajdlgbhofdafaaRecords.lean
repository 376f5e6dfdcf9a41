/- entry.Records. -/
import Derived.Test.YtajdlgbhofdafaaEntry
namespace Go.Proofs.Ytajdlgbhofdafaa
open Go.RowKit Go.Shelf Go.Proofs.YtajdlgbhofdafaaW.PrintWords Go.Proofs.YtajdlgbhofdafaaW.PrintLast Go.Proofs.YtajdlgbhofdafaaW.PrintMore
set_option maxRecDepth 1000000
attribute [local go_sem] Oper.semAt_some

def ofR (r : RRec) : SR := ⟨r.name, r.typ, r.cls, r.ttl, r.data⟩
theorem toR_ofR (r : RRec) : toR (ofR r) = r := rfl
theorem ofR_toR (x : SR) : ofR (toR x) = x := rfl
/-- The records that pieces are. -/
def recordsF : List ByteArray → Option (List SR)
  | [] => some []
  | s :: l => match readR s 0 with
    | none => none
    | some (r, nx) => if nx = s.size then (recordsF l).map (ofR r :: ·) else none
/-- The records that bytes are. -/
def recordsB (b : ByteArray) : Option (List SR) := (piecesB 4 b.size b).bind recordsF
/-- What Records answers. -/
def RecordsRet (w : World) (o : Option (List SR)) (e : Ending) (w' : World) : Prop := Below w.heap.size w w' ∧
  match o with
  | some l => ∃ v, e = .returned (.tuple #[v, .int .i64 0]) ∧ Kd.R Rf.k78 78 w' w.heap.size (fun _ => True) v l
  | none => e = .returned (.tuple #[.slice none 0 0, .int .i64 2])
theorem at_str {w : World} {A : Option Addr} {n : Nat} {xs : List ByteArray} (h : Kd.string.C w A n xs) (i : Int) (h0 : 0 ≤ i) (h1 : i < n) : ∃ ad, A = some ad ∧ w.cell? (ad.add i.toNat) = some (.string (xs.getD i.toNat ⟨#[]⟩)) := by
  obtain ⟨ad, c, e, _, hK, hc⟩ := Kd.C_get h (⟨#[]⟩ : ByteArray) i h0 h1
  have hK' : c = [.string (xs.getD i.toNat ⟨#[]⟩)] := hK
  subst hK'
  refine ⟨ad, e, ?_⟩
  have hq := hc 0 _ rfl
  have e1 : (Kd.string).sz = 1 := rfl
  rw [e1, Nat.mul_one, Nat.add_zero] at hq
  exact hq
theorem piecesB_sizes (k : Nat) (hk1 : 1 ≤ k) : ∀ (f : Nat) (b : ByteArray) (l : List ByteArray), piecesB k f b = some l → l.length ≤ b.size ∧ ∀ s ∈ l, s.size ≤ b.size := by
  intro f
  induction f with
  | zero =>
    intro b l h
    rw [piecesB] at h
    split at h
    · injection h with h; subst h; exact ⟨Nat.zero_le _, by simp⟩
    · cases h
  | succ f ih =>
    intro b l h
    rw [piecesB] at h
    split at h
    · injection h with h; subst h; exact ⟨Nat.zero_le _, by simp⟩
    · cases hc : cutB k b with
      | none => rw [hc] at h; cases h
      | some p =>
        obtain ⟨s, t⟩ := p
        rw [hc, Option.bind_some] at h
        dsimp only at h
        have hsz := cutB_size hc
        cases hp : piecesB k f t with
        | none => rw [hp] at h; cases h
        | some l' =>
          rw [hp] at h
          injection h with h
          subst h
          have := ih t l' hp
          refine ⟨by rw [List.length_cons]; omega, ?_⟩
          intro x hx
          rcases List.mem_cons.1 hx with rfl | hx
          · omega
          · have := this.2 x hx; omega

set_option maxHeartbeats 8000000 in
theorem Records_any (b : ByteArray) (w : World) (hb : b.size ≤ 16777216) :
    Calls Try.prog 43 #[.string b] w (RecordsRet w (recordsB b)) := by
  have hP := Pieces_any 4 b w (by omega) (.inr (.inr rfl))
  obtain ⟨R, hR⟩ : ∃ R, R = recordsB b := ⟨_, rfl⟩
  rw [← hR]
  unfold recordsB at hR
  cases hps : piecesB 4 b.size b with
  | none =>
    rw [hps] at hP hR
    have hRn : R = none := hR
    have HP := Lib.hid hP
    have HRN := Lib.hid hRn
    clear hP hR hps hRn
    go_enter Try.func43, Try.ntmps43
    go_wp2_with (go_at_call 102; refine HP.out.mono ?_; rintro e w1 ⟨hB1, rfl⟩)
    go_ret2
    exact ⟨hB1, by rw [HRN.out]; first | done | rfl⟩
  | some ps =>
    rw [hps] at hP hR
    rw [Option.bind_some] at hR
    obtain ⟨hl1, hl2⟩ := piecesB_sizes 4 (by decide) _ _ _ hps
    have HP := Lib.hid hP
    have HR0 := Lib.hid hR
    have HL := Lib.hid (And.intro hl1 hl2)
    clear hP hR hps hl1 hl2
    go_enter Try.func43, Try.ntmps43
    go_wp2_with (go_at_call 102; refine HP.out.mono ?_; rintro e w1 ⟨hB1, v4, rfl, hR4⟩; obtain ⟨A4, c4, rfl, hc4, hC4⟩ := Kd.R_reads hR4)
    have HC := Aside0.mk hC4
    have HB1 := Lib.hid hB1
    clear hC4 hR4 hB1 hc4
    go_loopw [22, 6] (fun v22 v6 wr => ∃ (i : Int) (xs : List SR), v22 = .int .i64 i ∧ 0 ≤ i ∧ i ≤ ps.length ∧ Aside0 (Below w1.heap.size w1 wr ∧ Kd.R Rf.k78 78 wr w1.heap.size (fun _ => True) v6 xs ∧ R = (recordsF (ps.drop i.toNat)).map (xs ++ ·) ∧ (xs.length : Int) = i)) (fun v22 _ _ => ps.length - (intOf v22).toNat)
    case atStart =>
      refine ⟨0, [], rfl, by omega, by omega, ⟨Below.refl _ _, Kd.R_nil _ _ _ _ _, ?_, rfl⟩⟩
      rw [HR0.out]
      simp
    case round =>
      obtain ⟨i, xs, rfl, hi0, hi1, HA⟩ := hrel
      by_cases hlt : i < (ps.length : Int)
      · obtain ⟨ad, e, x0⟩ := at_str HC.out i hi0 hlt
        cases e
        obtain ⟨s, hs⟩ : ∃ s, s = ps.getD i.toNat ⟨#[]⟩ := ⟨_, rfl⟩
        rw [← hs] at x0
        have hk : i.toNat < ps.length := by omega
        have hse : s = ps[i.toNat] := by rw [hs, List.getD_eq_getElem?_getD, List.getElem?_eq_getElem hk, Option.getD_some]
        have hdr : ps.drop i.toNat = s :: ps.drop (i.toNat + 1) := by rw [hse]; exact List.drop_eq_getElem_cons hk
        have hss := HL.out.2 s (by rw [hse]; exact List.getElem_mem hk)
        have hB := HA.out.1
        replace x0 := (hB.cell (World.block_lt_of_cell? w1 _ x0)).trans x0
        have hRd := fun w => ReadR_any s 0 w (Nat.zero_le _) (by omega)
        have hw1 : wrap64 (i + 1) = i + 1 := w64_in _ (by have := HL.out.1; omega)
        cases hrd : readR s 0 with
        | none =>
          have hRn : R = none := by rw [HA.out.2.2.1, hdr, recordsF, hrd]; rfl
          rw [hrd] at hRd
          have HRD := Lib.hid hRd
          have HRN := Lib.hid hRn
          have HB := Lib.hid hB
          clear hRd hRn hB hs hse hdr hss HR0 hrd hw1 hk
          go_wp2_with (go_at_call 70; refine (HRD.out _).mono ?_; rintro e w2 ⟨hB2, rfl⟩)
          go_ret2
          refine ⟨?_, by rw [HRN.out]; first | done | rfl⟩
          exact HB1.out.trans (((HB.out.trans (hB2.mono HB.out.size)).alloc (Nat.le_trans HB.out.size hB2.size) _).mono HB1.out.size)
        | some p =>
          obtain ⟨r, nx⟩ := p
          rw [hrd] at hRd
          by_cases hnx : nx = s.size
          · have hRs : R = (recordsF (ps.drop (i.toNat + 1))).map ((xs ++ [ofR r]) ++ ·) := by
              rw [HA.out.2.2.1, hdr, recordsF, hrd]
              dsimp only
              rw [if_pos hnx, Option.map_map]
              congr 1
              funext l
              simp
            have hne : ((nx : Int) != (s.size : Int)) = false := by simp [hnx]
            have HRD := Lib.hid hRd
            have HRS := Lib.hid hRs
            have HB := Lib.hid hB
            have HI := Lib.hid (And.intro hi0 (And.intro hlt hw1))
            clear hRd hRs hB hs hse hdr hss HR0 hrd hw1 hk hnx
            go_wp2_with (first | (go_at_call 70; refine (HRD.out _).mono ?_; rintro e w2 ⟨hB2, rfl⟩; have hB2a := (HB.out.trans (hB2.mono HB.out.size)).alloc (Nat.le_trans HB.out.size hB2.size) (.cells r.cells 78)) | (at_builtin; go_loud (refine Kd.R_append Rf.k78 (w0 := w1) (W := w2.alloc (.cells r.cells 78)) w1.heap.size rfl (.tmp 40) (.tmp 42) 23 78 (.agg #[(.string ⟨#[]⟩), (.int .i64 0), (.int .i64 0), (.int .i64 0), (.string ⟨#[]⟩)]) 56 rfl Try.underlying23 Rf.info78 rfl (by decide) (by decide) u6 xs (ofR r) [.string r.name, .int .i64 r.typ, .int .i64 r.cls, .int .i64 r.ttl, .string r.data] (fun _ => True) (fun _ => False) rfl (congrArg (fun n => Value.slice (some ⟨n, 0, none⟩) 1 1) (sz_al w2 (.cells r.cells 78)).symm) (Rf.k78_mkM _ _ _ (ofR r)) (fun _ hk => hk.elim) (fun _ _ => trivial) (Kd.R_alloc (Kd.R_below HA.out.2.1 hB2) _) hB2a hB2a.size (by have := HA.out.2.2.2; have := HI.out; have := HL.out.1; omega) ?_); intro v5 w5 hR5 hB5 hg5 hat5; obtain ⟨A5, c5, rfl⟩ := Kd.R_slice hR5))
            rw [HI.out.2.2]
            go_roundw
            case rel =>
              refine ⟨i + 1, xs ++ [ofR r], rfl, by omega, by omega, ⟨hB5, by simpa using hR5, ?_, ?_⟩⟩
              · rw [HRS.out, show (i + 1).toNat = i.toNat + 1 from by omega]
              · have := HA.out.2.2.2
                rw [List.length_append, List.length_singleton]
                omega
            case measure => simp [intOf]; omega
          · have hRn : R = none := by
              rw [HA.out.2.2.1, hdr, recordsF, hrd]
              dsimp only
              rw [if_neg hnx]
              rfl
            have hne : ((nx : Int) != (s.size : Int)) = true := by simp; omega
            have HRD := Lib.hid hRd
            have HRN := Lib.hid hRn
            have HB := Lib.hid hB
            clear hRd hRn hB hs hse hdr hss HR0 hrd hw1 hk
            go_wp2_with (go_at_call 70; refine (HRD.out _).mono ?_; rintro e w2 ⟨hB2, rfl⟩)
            go_ret2
            refine ⟨?_, by rw [HRN.out]; first | done | rfl⟩
            exact HB1.out.trans (((HB.out.trans (hB2.mono HB.out.size)).alloc (Nat.le_trans HB.out.size hB2.size) _).mono HB1.out.size)
      · have hRe : R = some xs := by
          rw [HA.out.2.2.1, List.drop_eq_nil_of_le (by omega)]
          simp [recordsF]
        have HRE := Lib.hid hRe
        clear hRe HR0
        go_wp2
        go_ret2
        refine ⟨HB1.out.trans (HA.out.1.mono HB1.out.size), ?_⟩
        rw [HRE.out]
        exact ⟨_, rfl, Kd.R_lower HA.out.2.1 HB1.out.size⟩
end Go.Proofs.Ytajdlgbhofdafaa
