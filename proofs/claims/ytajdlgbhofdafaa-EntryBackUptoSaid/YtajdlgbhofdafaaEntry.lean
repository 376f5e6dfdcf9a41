/- entry.pieces. -/
import Derived.Test.YtajdlgbhofdafaaOwn
import Derived.Test.YtajdlgbhofdafaaRecRead
import Derived.Test.YtajdlgbhofdafaaRefC
namespace Go.Proofs.Ytajdlgbhofdafaa
open Go.RowKit Go.Shelf Go.Proofs.YtajdlgbhofdafaaW.PrintWords Go.Proofs.YtajdlgbhofdafaaW.PrintLast Go.Proofs.YtajdlgbhofdafaaW.PrintMore
set_option maxRecDepth 1000000
attribute [local go_sem] Oper.semAt_some

/-- A record, as it lies in a slice. -/
abbrev SR := Rf.S78
def toR (x : SR) : RRec := ⟨x.f0, x.f1, x.f2, x.f3, x.f4⟩
/-- Records that a slice may hold. -/
def SizedL (l : List SR) : Prop := l.length ≤ 1000000 ∧ ∀ x ∈ l, x.f0.size ≤ 1099511627776 ∧ x.f4.size ≤ 1099511627776
theorem ownR_size {r : RRec} {s : ByteArray} (h : ownR r = some s) : s.size ≤ 65800 := by
  unfold ownR at h
  split at h
  · rename_i hr
    injection h with h
    subst h
    obtain ⟨hrn, _, _, _, _, _, _, hd⟩ := rightR_nums hr
    have h1 := nameS_ok (st := (⟨#[]⟩, [])) true hrn knownOk_nil
    have h2 := rightB_size hrn
    unfold writeR
    have h3 := dataR_ok (st := ((nameS (⟨#[]⟩, []) r.name true).1 ++ joinB [(2, r.typ.toNat), (2, r.cls.toNat), (4, r.ttl.toNat), (2, dlenR (nameS (⟨#[]⟩, []) r.name true) r)], (nameS (⟨#[]⟩, []) r.name true).2)) hr h1.2
    dsimp only at h3 h1
    rw [size_app, joinB_size] at h3
    have h4 : (⟨#[]⟩ : ByteArray).size = 0 := rfl
    have h5 : (List.map (·.1) [(2, r.typ.toNat), (2, r.cls.toNat), (4, r.ttl.toNat), (2, dlenR (nameS (⟨#[]⟩, []) r.name true) r)]).sum = 10 := rfl
    omega
  · cases h
/-- A piece. -/
def pieceB (s : ByteArray) : ByteArray := joinB [(4, s.size)] ++ s
theorem pieceB_size (s : ByteArray) : (pieceB s).size = 4 + s.size := by unfold pieceB; rw [size_app, joinB_size]; rfl
/-- Records' own bytes, as pieces, behind bytes. -/
def piecesF : List SR → ByteArray → Option ByteArray
  | [], a => some a
  | x :: l, a => (ownR (toR x)).bind fun s => piecesF l (a ++ pieceB s)

set_option maxHeartbeats 8000000 in
theorem pieces_any (A : Option Addr) (c : Nat) (l : List SR) (w : World) (hC : Kd.C Rf.k78 w A l.length l) (hs : SizedL l) :
    Calls Try.prog 39 #[.slice A l.length c] w (BytesRet w (piecesF l ⟨#[]⟩)) := by
  have HC := Aside0.mk hC
  have HS := Lib.hid hs
  obtain ⟨R, hR⟩ : ∃ R, R = piecesF l ⟨#[]⟩ := ⟨_, rfl⟩
  rw [← hR]
  have HR0 := Lib.hid hR
  have hb0 := bldAt_new w
  have HB0 := Lib.hid hb0
  clear hC hs hR hb0
  go_enter Try.func39, Try.ntmps39
  go_wp2
  go_loopw [13] (fun v13 wr => ∃ (i : Int) (O : Nat → Prop) (s : ByteArray), v13 = .int .i64 i ∧ 0 ≤ i ∧ i ≤ l.length ∧ Aside0 (BldAt w.heap.size s O wr ∧ (∀ k, O k → w.heap.size ≤ k) ∧ Below w.heap.size w wr ∧ R = piecesF (l.drop i.toNat) s ∧ (s.size : Int) ≤ i * 65804)) (fun v13 _ => l.length - (intOf v13).toNat)
  case atStart =>
    exact ⟨0, fun k => k = w.heap.size, ⟨#[]⟩, rfl, by omega, by omega, ⟨HB0.out, fun k hk => by omega, ((Fr.refl (fun _ => False) w).alloc _).to_below (Nat.le_refl _) (by simp), HR0.out, by decide⟩⟩
  case round =>
    obtain ⟨i, O, s, rfl, hi0, hi1, HA⟩ := hrel
    by_cases hlt : i < (l.length : Int)
    · obtain ⟨ad, e, x0, x1, x2, x3, x4⟩ := Rf.at_T78 HC.out i hi0 hlt
      cases e
      obtain ⟨x, hx⟩ : ∃ x, x = Rf.rd_T78 l i := ⟨_, rfl⟩
      rw [← hx] at x0 x1 x2 x3 x4
      have hk : i.toNat < l.length := by omega
      have hxe : x = l[i.toNat] := by rw [hx]; unfold Rf.rd_T78; rw [List.getD_eq_getElem?_getD, List.getElem?_eq_getElem hk, Option.getD_some]
      have hdr : l.drop i.toNat = x :: l.drop (i.toNat + 1) := by rw [hxe]; exact List.drop_eq_getElem_cons hk
      have hxs := HS.out.2 x (by rw [hxe]; exact List.getElem_mem hk)
      have hB := HA.out.2.2.1
      replace x0 := (hB.cell (World.block_lt_of_cell? w _ x0)).trans x0
      replace x1 := (hB.cell (World.block_lt_of_cell? w _ x1)).trans x1
      replace x2 := (hB.cell (World.block_lt_of_cell? w _ x2)).trans x2
      replace x3 := (hB.cell (World.block_lt_of_cell? w _ x3)).trans x3
      replace x4 := (hB.cell (World.block_lt_of_cell? w _ x4)).trans x4
      have hO := fun w => Own_any (toR x) w (by have := hxs.1; show x.f0.size ≤ _; omega) (by have := hxs.2; show x.f4.size ≤ _; omega)
      have hw1 : wrap64 (i + 1) = i + 1 := w64_in _ (by have := HS.out.1; omega)
      cases ho : ownR (toR x) with
      | none =>
        have hRn : R = none := by rw [HA.out.2.2.2.1, hdr, piecesF, ho]; rfl
        rw [ho] at hO
        have HO := Lib.hid hO
        have HB := Lib.hid hB
        have HRN := Lib.hid hRn
        clear hO ho hB hx hxe hdr hxs hRn HR0
        go_wp2_with (go_at_call 91; refine (HO.out _).mono ?_; rintro e w2 ⟨hB2, rfl⟩)
        go_ret2
        refine ⟨?_, ?_⟩
        · exact (HB.out.alloc HB.out.size _).trans (hB2.mono (by rw [sz_al]; have := HB.out.size; omega))
        · rw [HRN.out]; rfl
      | some s1 =>
        have hRs : R = piecesF (l.drop (i.toNat + 1)) (s ++ pieceB s1) := by rw [HA.out.2.2.2.1, hdr, piecesF, ho]; rfl
        have hs1 := ownR_size ho
        have hP := fun w => Piece_any s1 4 w (.inr (.inr rfl)) (by omega) (by omega)
        have hps := pieceB_size s1
        have hPe : joinB [(4, s1.size)] ++ s1 = pieceB s1 := rfl
        rw [hPe] at hP
        generalize pieceB s1 = pb at *
        rw [ho] at hO
        have HO := Lib.hid hO
        have HP := Lib.hid hP
        have HB := Lib.hid hB
        have HRS := Lib.hid hRs
        have HI := Lib.hid (And.intro hi0 (And.intro hlt hw1))
        have HPS := Lib.hid (And.intro hps hs1)
        clear hO ho hB hx hxe hdr hxs hRs HR0 hP hw1 hps hs1 hk hPe
        go_wp2_with (first | (go_at_call 91; refine (HO.out _).mono ?_; rintro e w2 ⟨hB2, rfl⟩; have hB2w := (HB.out.alloc HB.out.size _).trans (hB2.mono (by rw [sz_al]; have := HB.out.size; omega)); have ha2 := bldAt_stab _ _ _ _ w2 HA.out.1 (fun k _ hl => (hB2.block k (by rw [sz_al]; omega)).trans (by rw [hp_al, if_neg (by omega)]))) | (go_at_call 92; refine (HP.out _).mono ?_; rintro e w3 ⟨rfl, hB3⟩; have hB3w := hB2w.trans (hB3.mono hB2w.size); have ha3 := bldAt_stab _ _ _ _ w3 ha2 (fun k _ hl => hB3.block k hl)) | (go_at_call 93; refine (WriteString_any _ _ _ _ _ ha3 (by have := HA.out.2.2.2.2; have := HS.out.1; have := HI.out; have := HPS.out; omega)).mono ?_; rintro e w4 ⟨rfl, O4, ha4, hch4⟩))
        rw [HI.out.2.2]
        go_roundw
        case rel =>
          have hO4 := hch4.ge HA.out.2.1 hB3w.size
          refine ⟨i + 1, O4, s ++ pb, rfl, by omega, by omega, ⟨ha4, hO4, ?_, ?_, ?_⟩⟩
          · exact hB3w.trans (hch4.to_below hB3w.size HA.out.2.1)
          · rw [HRS.out, show (i + 1).toNat = i.toNat + 1 from by omega]
          · have := HA.out.2.2.2.2
            have := HPS.out
            rw [size_app]
            omega
        case measure => simp [intOf]; omega
    · have hBS := BString_any _ _ _ _ HA.out.1
      have HBS := Lib.hid hBS
      have hie : i.toNat = l.length := by omega
      have hRe : R = some s := by rw [HA.out.2.2.2.1, List.drop_eq_nil_of_le (by omega)]; rfl
      have HRE := Lib.hid hRe
      clear hBS hRe hie HR0
      go_wp2_with (go_at_call 94; refine HBS.out.mono ?_; rintro e w2 ⟨rfl, hfr⟩)
      go_ret2
      refine ⟨?_, by rw [HRE.out]; rfl⟩
      exact HA.out.2.2.1.trans (hfr.to_below HA.out.2.2.1.size (fun k hk ho => by have := HA.out.2.1 k ho; omega))
end Go.Proofs.Ytajdlgbhofdafaa
