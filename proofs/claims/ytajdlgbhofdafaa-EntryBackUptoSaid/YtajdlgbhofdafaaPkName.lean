/- pack.Packer.Name: the walk. -/
import Derived.Test.YtajdlgbhofdafaaPk
import Derived.Test.YtajdlgbhofdafaaNameLaw
import Derived.Deep.LoopGhost
import Derived.RegionTactic
import Derived.WalkMore
namespace Go.Proofs.Ytajdlgbhofdafaa
open Go.RowKit Go.Shelf
set_option maxRecDepth 1000000
attribute [local go_sem] Oper.semAt_some

theorem joinB_size (ps : List (Nat × Nat)) : (joinB ps).size = (ps.map (·.1)).sum := by rw [joinB, strOfNums_size, joinL_length]
theorem nameR_root (f : Nat) (es : Known) (len : Nat) (may : Bool) : nameR (f + 1) es len ⟨#[0]⟩ may = (⟨#[0]⟩, es) := by rw [nameR, if_pos rfl]
theorem nameR_ptr {f : Nat} {es : Known} {len q : Nat} {n : ByteArray} (hn : ¬ n = ⟨#[0]⟩) (hq : getV es n = some q) : nameR (f + 1) es len n true = (joinB [(2, 49152 + q)], es) := by rw [nameR, if_neg hn, hq]; rfl
theorem nameR_old {f : Nat} {es : Known} {len q : Nat} {n t : ByteArray} (hn : ¬ n = ⟨#[0]⟩) (hq : getV es n = some q) (hp : parentB n = (t, true)) (hs : t.size ≤ n.size) :
    nameR (f + 1) es len n false = (n.extract 0 (n.size - t.size) ++ (nameR f es (len + (n.size - t.size)) t false).1, (nameR f es (len + (n.size - t.size)) t false).2) := by
  have e : (n.extract 0 (n.size - t.size)).size = n.size - t.size := by simp
  rw [nameR, if_neg hn, hq, hp]
  simp [e]
theorem nameR_new {f : Nat} {es : Known} {len : Nat} {n t : ByteArray} {may : Bool} (hn : ¬ n = ⟨#[0]⟩) (hq : getV es n = none) (hp : parentB n = (t, true)) (hs : t.size ≤ n.size) :
    nameR (f + 1) es len n may = (n.extract 0 (n.size - t.size) ++ (nameR f (if len < 16384 then es ++ [(n, len)] else es) (len + (n.size - t.size)) t may).1, (nameR f (if len < 16384 then es ++ [(n, len)] else es) (len + (n.size - t.size)) t may).2) := by
  have e : (n.extract 0 (n.size - t.size)).size = n.size - t.size := by simp
  rw [nameR, if_neg hn, hq, hp]
  simp [e]
theorem map_str_int : Try.prog.underlying 172 = some (.map 9 3) := by kernel_rfl
/-- Where Name stands at a round's head. -/
def NameAt (b : Nat) (O : Nat → Prop) (w : World) (may : Bool) (S : ByteArray) (E : Known) (f : Nat) (m : ByteArray) (wr : World) : Prop :=
  ∃ s es O', PkAt b (s, es) O' wr ∧ Ch O O' w wr ∧ rightB m = true ∧ m.size ≤ f ∧ KnownOk es ∧ s.size + m.size ≤ 1000000000 ∧ S = s ++ (nameR f es s.size m may).1 ∧ E = (nameR f es s.size m may).2
def NameRet (b : Nat) (O : Nat → Prop) (w : World) (S : ByteArray) (E : Known) (e : Ending) (w' : World) : Prop :=
  e = .returned (.int .i64 0) ∧ ∃ O', PkAt b (S, E) O' w' ∧ Ch O O' w w'

set_option maxHeartbeats 1000000 in
theorem Name_pk (b : Nat) (s : ByteArray) (es : Known) (n : ByteArray) (may : Bool) (O : Nat → Prop) (w : World) (h : PkAt b (s, es) O w) (hr : rightB n = true) (hk : KnownOk es) (hsz : s.size + n.size ≤ 1000000000) :
    Calls Try.prog 63 #[.pointer (some ⟨b, 0, none⟩), .string n, .bool may] w (NameRet b O w (s ++ (nameR n.size es s.size n may).1) (nameR n.size es s.size n may).2) := by
  have hR := Right_any n w (by omega)
  rw [hr] at hR
  obtain ⟨S, hS⟩ : ∃ S, S = s ++ (nameR n.size es s.size n may).1 := ⟨_, rfl⟩
  obtain ⟨E, hE⟩ : ∃ E, E = (nameR n.size es s.size n may).2 := ⟨_, rfl⟩
  rw [← hS, ← hE]
  have H0 : ∀ w1, Below w.heap.size w w1 → NameAt b O w may S E n.size n w1 := fun w1 hB => ⟨s, es, O, pkAt_stab b _ _ _ _ h (fun k _ hk => hB.block k hk), (Ch.refl O w).below hB, hr, Nat.le_refl _, hk, hsz, hS, hE⟩
  have HR := Lib.hid hR
  have HH := Lib.hid H0
  clear hR H0 hS hE hr hk hsz h
  go_enter Try.func63, Try.ntmps63
  go_wp2_with (go_at_call 109; refine HR.out.mono ?_; rintro e w1 ⟨rfl, hB1⟩)
  have H1 := Lib.hid (HH.out _ hB1)
  clear HH hB1 HR
  go_loopg [1] n.size (fun f v1 wr => ∃ m : ByteArray, v1 = .string m ∧ NameAt b O w may S E f m wr)
  case atStart => exact ⟨n, rfl, H1.out⟩
  case round =>
    clear H1
    obtain ⟨m, rfl, s', es', O', hpk, hch, hrm, hmf, hko, hsz, hS, hE⟩ := hrel
    rcases right_cases hrm with rfl | ⟨hroot, t, t', hcut, hs0, hs63, hrt, hpar, hmsz, hm255, hsplit⟩
    · -- the root
      obtain ⟨f, rfl⟩ : ∃ f, gk = f + 1 := ⟨gk - 1, by have : (⟨#[0]⟩ : ByteArray).size = 1 := rfl; omega⟩
      rw [nameR_root] at hS hE
      dsimp only at hS hE
      have hRaw := Raw_pk b s' ⟨#[0]⟩ es' O' wr hpk (by omega)
      rw [← hS] at hRaw
      subst hE
      have HRW := Lib.hid hRaw
      clear hRaw hpk hS hsz hko hmf hrm
      go_wp2_with (go_at_call 62; refine HRW.out.mono ?_; rintro e w2 ⟨rfl, O2, hpk2, hch2⟩)
      go_ret
      exact ⟨rfl, O2, hpk2, hch.trans hch2⟩
    · obtain ⟨f, rfl⟩ : ∃ f, gk = f + 1 := ⟨gk - 1, by omega⟩
      have hne0 : (m.toList == [0]) = false := by
        rw [beq_eq_false_iff_ne]
        intro h
        apply hroot
        rw [ByteArray.toList_eq] at h
        exact ByteArray.ext (Array.ext' h)
      have hpk0 := hpk
      obtain ⟨v, r, hbk, hv, hm, hne, hrb, hO⟩ := hpk
      have hlk := mapS_look (w := wr) map_str_int Try.zeroValue3 hm (n := m) (by omega)
      have hgm : getV (knownV es') m = (getV es' m).map (fun q : Nat => Value.int .i64 (q : Int)) := getV_map (fun q : Nat => Value.int .i64 (q : Int)) es' m
      rw [hgm] at hlk
      have c1 : wr.cell? ⟨b, 1, none⟩ = some (.map (some r)) := cell_at hbk rfl
      have hPar := fun w => Parent_any m w (by omega)
      rw [hpar] at hPar
      cases hq : getV es' m with
      | some q =>
        rw [hq] at hlk hgm
        simp only [Option.map_some] at hlk hgm
        cases may with
        | true =>
          rw [nameR_ptr hroot hq] at hS hE
          dsimp only at hS hE
          have hq16 : q < 16384 := hko _ (getV_mem hq)
          have hcast : (49152 + (q : Int)) = ((49152 + q : Nat) : Int) := by omega
          have hJ := fun (a c : Nat) (w : World) (ha : w.heap[a]? = some (.cells #[.int .u64 (49152 + (q : Int))] 83)) (hc : w.heap[c]? = some (.cells #[.int .i64 2] 3)) => Join_any a c 1 1 [(2, 49152 + q)] w (by rw [hcast] at ha; exact ha) hc (by intro p hp; simp at hp; subst hp; exact ⟨.inr (.inl rfl), by simp; omega⟩) (by simp) (by simp) (by simp)
          have hwr : IntKind.u64.wrap (wrap64 (49152 + (q : Int))) = 49152 + (q : Int) := by rw [w64_in _ (by omega)]; exact u64_small _ (by omega) (by omega)
          have hjs : (joinB [(2, 49152 + q)]).size = 2 := by rw [joinB_size]; rfl
          subst hE
          have hB0 : Below wr.heap.size wr ((wr.alloc (.cells #[.int .u64 (49152 + (q : Int))] 83)).alloc (.cells #[.int .i64 2] 3)) := (((Fr.refl (fun _ => False) wr).alloc _).alloc _).to_below (Nat.le_refl _) (by simp)
          have hRaw := fun (w2 : World) (hB : Below wr.heap.size wr w2) => Raw_pk b s' (joinB [(2, 49152 + q)]) E O' w2 (pkAt_stab b _ _ _ _ hpk0 (fun k _ hk => hB.block k hk)) (by omega)
          rw [← hS] at hRaw
          have hfin := fun (w2 w3 : World) (hB : Below wr.heap.size wr w2) (O2 : Nat → Prop) (hch2 : Ch O' O2 w2 w3) => (hch.below hB).trans hch2
          have HRW := Lib.hid hRaw
          have HJ := Lib.hid hJ
          have HFN := Lib.hid hfin
          clear hRaw hJ hfin hS hPar hpk0 hbk hv hm hne hO hgm hq hsz hko hcut hsplit hpar hmf hq16 hjs hcast
          generalize joinB [(2, 49152 + q)] = jb at *
          go_wp2_with (first | (go_at_call 41; go_loud (refine (HJ.out wr.heap.size (wr.heap.size + 1) _ (by rw [hp_al, if_neg (by rw [sz_al]; omega), hp_al, if_pos rfl]) (by rw [hp_al, if_pos (by rw [sz_al])])).mono ?_; rintro e w2 ⟨rfl, hB2⟩; have hB3 := hB0.trans (hB2.mono hB0.size))) | (go_at_call 62; refine (HRW.out _ hB3).mono ?_; rintro e w3 ⟨rfl, O2, hpk2, hch2⟩))
          go_ret
          exact ⟨rfl, O2, hpk2, HFN.out _ _ hB3 _ hch2⟩
        | false =>
          rw [nameR_old hroot hq hpar (by omega)] at hS hE
          dsimp only at hS hE
          rw [← ByteArray.append_assoc] at hS
          have hlab : (m.extract 0 (m.size - t'.size)).size = m.size - t'.size := by simp
          have hRaw := fun (w2 : World) (hB : Below wr.heap.size wr w2) => Raw_pk b s' (m.extract 0 (m.size - t'.size)) es' O' w2 (pkAt_stab b _ _ _ _ hpk0 (fun k _ hk => hB.block k hk)) (by omega)
          have hfin : ∀ (w2 w3 : World) (hB : Below wr.heap.size wr w2) (O2 : Nat → Prop), PkAt b (s' ++ m.extract 0 (m.size - t'.size), es') O2 w3 → Ch O' O2 w2 w3 → NameAt b O w false S E f t' w3 := by
            intro w2 w3 hB O2 hpk2 hch2
            refine ⟨_, es', O2, hpk2, (hch.below hB).trans hch2, hrt, by omega, hko, by rw [size_app, hlab]; omega, ?_, ?_⟩
            · rw [size_app, hlab]; exact hS
            · rw [size_app, hlab]; exact hE
          have hdec : decide (m.size < t'.size) = false := by simp; omega
          have hcs : (wrap64 ((m.size : Int) - (t'.size : Int))).toNat = m.size - t'.size := by rw [w64_in _ (by omega)]; omega
          have hbnd : 0 ≤ wrap64 ((m.size : Int) - (t'.size : Int)) ∧ wrap64 ((m.size : Int) - (t'.size : Int)) ≤ (m.size : Int) := by rw [w64_in _ (by omega)]; omega
          have HCS := Lib.hid hcs
          clear hcs
          have HRW := Lib.hid hRaw
          have HFN := Lib.hid hfin
          have HP := Lib.hid hPar
          have hmf2 : t'.size ≤ f := by omega
          have HMS := Lib.hid hmsz
          clear hmsz hRaw hfin hS hE hPar hpk0 hbk hv hm hne hO hgm hq hko hcut hsplit hpar hlab
          go_wp2_with (first | (go_at_call 110; refine (HP.out _).mono ?_; rintro e w2 ⟨rfl, hB2⟩) | (go_at_call 62; rw [HCS.out]; refine (HRW.out _ hB2).mono ?_; rintro e w3 ⟨rfl, O2, hpk2, hch2⟩))
          go_roundg f
          case measure => have := HMS.out; omega
          case rel => exact ⟨t', rfl, HFN.out _ _ hB2 O2 hpk2 hch2⟩
      | none =>
        rw [hq] at hlk hgm
        simp only [Option.map_none] at hlk hgm
        rw [nameR_new hroot hq hpar (by omega)] at hS hE
        dsimp only at hS hE
        rw [← ByteArray.append_assoc] at hS
        obtain ⟨ao, cap, rfl⟩ := rowB_slice hv
        have c0 : wr.cell? ⟨b, 0, none⟩ = some (.slice ao s'.size cap) := cell_at hbk rfl
        by_cases hlen : s'.size < 16384
        · rw [if_pos hlen] at hS hE
          have hdl : decide ((s'.size : Int) < 16384) = true := by simp; omega
          have d0 : wr.drew.cell? ⟨b, 0, none⟩ = some (.slice ao s'.size cap) := cell_at (w := wr.drew) (fz := (0, 0)) hbk rfl
          have d1 : wr.drew.cell? ⟨b, 1, none⟩ = some (.map (some r)) := cell_at (w := wr.drew) (fz := (0, 0)) hbk rfl
          obtain ⟨W0, hup, hm0, hf0⟩ := mapS_new (w := wr.drew) (t := 172) (e := 3) map_str_int (mapS_keep hm rfl) (n := m) (by omega) (.int .i64 (s'.size : Int)) hgm
          obtain ⟨ES, hES⟩ : ∃ ES, ES = es' ++ [(m, s'.size)] := ⟨_, rfl⟩
          rw [← hES] at hS hE
          have hpk1 : PkAt b (s', ES) O' W0 := by
            refine ⟨_, r, (hf0.block b (Array.getElem?_eq_some_iff.1 hbk).1 (fun e => hrb e.symm)).trans hbk, rowB_keep hv (fun k hk => hf0.block k (rowB_lt hv k hk) (hne k hk).2), ?_, hne, hrb, hO⟩
            rw [hES, knownV_app]
            exact hm0
          have hch1 : Ch O' O' wr W0 := ⟨((Fr.refl O' wr).drew).trans (hf0.mono (fun k _ e => (hO k).2 (.inr (.inr e)))), fun k hk => .inl hk⟩
          have hko1 : KnownOk ES := by
            intro p hp
            rw [hES] at hp
            rcases List.mem_append.1 hp with hp | hp
            · exact hko p hp
            · simp at hp
              subst hp
              exact hlen
          clear hES hm0 hf0 hlen
          have hlab : (m.extract 0 (m.size - t'.size)).size = m.size - t'.size := by simp
          have hRaw := fun (w2 : World) (hB : Below W0.heap.size W0 w2) => Raw_pk b s' (m.extract 0 (m.size - t'.size)) ES O' w2 (pkAt_stab b _ _ _ _ hpk1 (fun k _ hk => hB.block k hk)) (by omega)
          have hfin : ∀ (w2 w3 : World) (hB : Below W0.heap.size W0 w2) (O2 : Nat → Prop), PkAt b (s' ++ m.extract 0 (m.size - t'.size), ES) O2 w3 → Ch O' O2 w2 w3 → NameAt b O w may S E f t' w3 := by
            intro w2 w3 hB O2 hpk2 hch2
            refine ⟨_, ES, O2, hpk2, ((hch.trans hch1).below hB).trans hch2, hrt, by omega, hko1, by rw [size_app, hlab]; omega, ?_, ?_⟩
            · rw [size_app, hlab]; exact hS
            · rw [size_app, hlab]; exact hE
          have hdec : decide (m.size < t'.size) = false := by simp; omega
          have hcs : (wrap64 ((m.size : Int) - (t'.size : Int))).toNat = m.size - t'.size := by rw [w64_in _ (by omega)]; omega
          have hbnd : 0 ≤ wrap64 ((m.size : Int) - (t'.size : Int)) ∧ wrap64 ((m.size : Int) - (t'.size : Int)) ≤ (m.size : Int) := by rw [w64_in _ (by omega)]; omega
          have HCS := Lib.hid hcs
          have HRW := Lib.hid hRaw
          have HFN := Lib.hid hfin
          have HP := Lib.hid hPar
          have hmf2 : t'.size ≤ f := by omega
          have HMS := Lib.hid hmsz
          clear hcs hmsz hRaw hfin hS hE hPar hpk0 hpk1 hch1 hbk hv hm hne hO hgm hq hko hko1 hcut hsplit hpar hlab
          go_wp2
          go_region
          go_wp2_with (first | (go_at_call 110; refine (HP.out _).mono ?_; rintro e w2 ⟨rfl, hB2⟩) | (go_at_call 62; rw [HCS.out]; refine (HRW.out _ hB2).mono ?_; rintro e w3 ⟨rfl, O2, hpk2, hch2⟩))
          go_roundg f
          case measure => have := HMS.out; omega
          case rel => exact ⟨t', rfl, HFN.out _ _ hB2 O2 hpk2 hch2⟩
        · rw [if_neg hlen] at hS hE
          have hdl : decide ((s'.size : Int) < 16384) = false := by simp; omega
          obtain ⟨ES, hES⟩ : ∃ ES, ES = es' := ⟨_, rfl⟩
          obtain ⟨W0, hW0⟩ : ∃ W0, W0 = wr := ⟨_, rfl⟩
          have hpk1 : PkAt b (s', ES) O' W0 := by rw [hES, hW0]; exact hpk0
          have hch1 : Ch O' O' wr W0 := by rw [hW0]; exact Ch.refl _ _
          have hko1 : KnownOk ES := by rw [hES]; exact hko
          rw [← hES] at hS hE
          clear hES hlen
          have hlab : (m.extract 0 (m.size - t'.size)).size = m.size - t'.size := by simp
          have hRaw := fun (w2 : World) (hB : Below W0.heap.size W0 w2) => Raw_pk b s' (m.extract 0 (m.size - t'.size)) ES O' w2 (pkAt_stab b _ _ _ _ hpk1 (fun k _ hk => hB.block k hk)) (by omega)
          have hfin : ∀ (w2 w3 : World) (hB : Below W0.heap.size W0 w2) (O2 : Nat → Prop), PkAt b (s' ++ m.extract 0 (m.size - t'.size), ES) O2 w3 → Ch O' O2 w2 w3 → NameAt b O w may S E f t' w3 := by
            intro w2 w3 hB O2 hpk2 hch2
            refine ⟨_, ES, O2, hpk2, ((hch.trans hch1).below hB).trans hch2, hrt, by omega, hko1, by rw [size_app, hlab]; omega, ?_, ?_⟩
            · rw [size_app, hlab]; exact hS
            · rw [size_app, hlab]; exact hE
          have hdec : decide (m.size < t'.size) = false := by simp; omega
          have hcs : (wrap64 ((m.size : Int) - (t'.size : Int))).toNat = m.size - t'.size := by rw [w64_in _ (by omega)]; omega
          have hbnd : 0 ≤ wrap64 ((m.size : Int) - (t'.size : Int)) ∧ wrap64 ((m.size : Int) - (t'.size : Int)) ≤ (m.size : Int) := by rw [w64_in _ (by omega)]; omega
          have HCS := Lib.hid hcs
          have HRW := Lib.hid hRaw
          have HFN := Lib.hid hfin
          have HP := Lib.hid hPar
          have hmf2 : t'.size ≤ f := by omega
          have HMS := Lib.hid hmsz
          clear hcs hmsz hRaw hfin hS hE hPar hpk0 hpk1 hch1 hbk hv hm hne hO hgm hq hko hko1 hcut hsplit hpar hlab
          subst hW0
          go_wp2_with (first | (go_at_call 110; refine (HP.out _).mono ?_; rintro e w2 ⟨rfl, hB2⟩) | (go_at_call 62; rw [HCS.out]; refine (HRW.out _ hB2).mono ?_; rintro e w3 ⟨rfl, O2, hpk2, hch2⟩))
          go_roundg f
          case measure => have := HMS.out; omega
          case rel => exact ⟨t', rfl, HFN.out _ _ hB2 O2 hpk2 hch2⟩
end Go.Proofs.Ytajdlgbhofdafaa
