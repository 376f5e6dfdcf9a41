/- entry.Bytes. -/
import Derived.Test.YtajdlgbhofdafaaConcat
import Derived.Deep.DeepCutAuto
namespace Go.Proofs.Ytajdlgbhofdafaa
open Go.RowKit Go.Shelf Go.Proofs.YtajdlgbhofdafaaW.PrintWords Go.Proofs.YtajdlgbhofdafaaW.PrintLast Go.Proofs.YtajdlgbhofdafaaW.PrintMore
set_option maxRecDepth 1000000
attribute [local go_sem] Oper.semAt_some

/-- An entry's bytes. -/
def entryB (f t : Int) (l1 l2 : List SR) : Option ByteArray :=
  if 65536 < l1.length ∨ 65536 < l2.length then none else (piecesF (l1 ++ l2) ⟨#[]⟩).map fun b => joinB [(4, f.toNat), (4, t.toNat), (4, l1.length)] ++ b
theorem C_two {w : World} {g c1 c2 : Nat} {A1 A2 : Option Addr} {l1 l2 : List SR} {T : TypeId} (hg : w.heap[g]? = some (.cells #[.slice A1 l1.length c1, .slice A2 l2.length c2] T (0, 0))) (h1 : kR.C w A1 l1.length l1) (h2 : kR.C w A2 l2.length l2) (k1 : l1.length ≤ c1) (k2 : l2.length ≤ c2) :
    Kd.C (Kd.slice 78 kR) w (some ⟨g, 0, none⟩) [l1, l2].length [l1, l2] := by
  refine ⟨rfl, by simp, fun _ => ⟨_, rfl, fun j p hp => ?_⟩⟩
  have e1 : (Kd.slice 78 kR).sz = 1 := rfl
  have ead : ∀ k, (⟨g, 0, none⟩ : Addr).add k = ⟨g, k, none⟩ := fun k => by unfold Addr.add; split <;> simp_all
  match j, hp with
  | 0, hp =>
    injection hp with hp
    subst hp
    refine ⟨[.slice A1 l1.length c1], rfl, ⟨A1, c1, rfl, k1, h1⟩, fun i u hu => ?_⟩
    have hi : i = 0 := by have := (List.getElem?_eq_some_iff.1 hu).1; simp at this; omega
    subst hi
    injection hu with hu
    subst hu
    rw [e1, ead]
    exact cell_at hg rfl
  | 1, hp =>
    injection hp with hp
    subst hp
    refine ⟨[.slice A2 l2.length c2], rfl, ⟨A2, c2, rfl, k2, h2⟩, fun i u hu => ?_⟩
    have hi : i = 0 := by have := (List.getElem?_eq_some_iff.1 hu).1; simp at this; omega
    subst hi
    injection hu with hu
    subst hu
    rw [e1, ead]
    exact cell_at hg rfl
theorem piecesF_size : ∀ (l : List SR) (a b : ByteArray), piecesF l a = some b → a.size ≤ b.size ∧ b.size ≤ a.size + l.length * 65804 := by
  intro l
  induction l with
  | nil => intro a b h; injection h with h; subst h; exact ⟨Nat.le_refl _, by simp⟩
  | cons x l ih =>
    intro a b h
    rw [piecesF] at h
    cases ho : ownR (toR x) with
    | none => rw [ho] at h; cases h
    | some s =>
      rw [ho] at h
      have := ih _ _ h
      have := ownR_size ho
      rw [size_app, pieceB_size] at *
      rw [List.length_cons]
      omega
abbrev entCells (f t : Int) (A1 A2 : Option Addr) (n1 n2 c1 c2 : Nat) : Array Value := #[.int .u32 f, .int .u32 t, .slice A1 n1 c1, .slice A2 n2 c2]

set_option maxHeartbeats 8000000 in
theorem Bytes_any (f t : Int) (A1 A2 : Option Addr) (c1 c2 : Nat) (l1 l2 : List SR) (w : World) (hf : 0 ≤ f ∧ f < 4294967296) (ht : 0 ≤ t ∧ t < 4294967296) (h1 : kR.C w A1 l1.length l1) (h2 : kR.C w A2 l2.length l2) (k1 : l1.length ≤ c1) (k2 : l2.length ≤ c2) (hs : SizedL (l1 ++ l2)) :
    Calls Try.prog 13 #[.agg (entCells f t A1 A2 l1.length l2.length c1 c2)] w (BytesRet w (entryB f t l1 l2)) := by
  obtain ⟨W0, hW0⟩ : ∃ W0, W0 = w.alloc (.cells (entCells f t A1 A2 l1.length l2.length c1 c2) 25) := ⟨_, rfl⟩
  have hB0 : Below w.heap.size w W0 := by rw [hW0]; exact ((Fr.refl (fun _ => False) w).alloc _).to_below (Nat.le_refl _) (by simp)
  have hz0 : W0.heap.size = w.heap.size + 1 := by rw [hW0]; exact sz_al _ _
  have hb0 : W0.heap[w.heap.size]? = some (.cells (entCells f t A1 A2 l1.length l2.length c1 c2) 25 (0, 0)) := by rw [hW0, hp_al, if_pos rfl]
  have hcell := fun (W : World) (hB : Below W0.heap.size W0 W) => (hB.block w.heap.size (by omega)).trans hb0
  have hc1 := Kd.C_below h1 hB0
  have hc2 := Kd.C_below h2 hB0
  have hlen : (l1 ++ l2).length = l1.length + l2.length := List.length_append
  have HS := Lib.hid hs
  have hx1 : IntKind.u64.wrap f = ((f.toNat : Nat) : Int) := by rw [u64_small _ (by omega) (by omega)]; omega
  have hx2 : IntKind.u64.wrap t = ((t.toNat : Nat) : Int) := by rw [u64_small _ (by omega) (by omega)]; omega
  have hx3 : IntKind.u64.wrap (l1.length : Int) = ((l1.length : Nat) : Int) := by have := hs.1; rw [u64_small _ (by omega) (by omega)]
  have hE : entryB f t l1 l2 = if 65536 < l1.length ∨ 65536 < l2.length then none else (piecesF (l1 ++ l2) ⟨#[]⟩).map fun b => joinB [(4, f.toNat), (4, t.toNat), (4, l1.length)] ++ b := rfl
  generalize entryB f t l1 l2 = E at *
  have hk1 : ∀ (p q : Value) (z : Nat), (Value.agg #[p, q, .slice A1 l1.length c1, .slice A2 l2.length c2]) = .agg #[p, q, .slice A1 l1.length c1, .slice A2 l2.length c2] := fun _ _ _ => rfl
  clear hk1
  have HE := Lib.hid hE
  have HB0 := Lib.hid hB0
  have HHC := Lib.hid hcell
  have HC1 := Lib.hid hc1
  have HC2 := Lib.hid hc2
  have HK := Lib.hid (And.intro k1 k2)
  have HX := Lib.hid (And.intro hx1 (And.intro hx2 hx3))
  have HW := Lib.hid hW0
  have HF := Lib.hid (And.intro hf ht)
  have HZ := Lib.hid hz0
  clear hE hB0 hcell hc1 hc2 h1 h2 hs hx1 hx2 hx3 hlen hb0 hz0 hW0 hf ht k1 k2
  by_cases hb1 : 65536 < l1.length
  · have hd1 : decide ((65536 : Int) < (l1.length : Int)) = true := by simp; omega
    go_enter Try.func13, Try.ntmps13
    go_upto_region 1 with fail
    rw [← HW.out]
    have d2 : W0.cell? ⟨w.heap.size, 2, none⟩ = some (.slice A1 l1.length c1) := cell_at (HHC.out W0 (Below.refl _ _)) rfl
    have d3 : W0.cell? ⟨w.heap.size, 3, none⟩ = some (.slice A2 l2.length c2) := cell_at (HHC.out W0 (Below.refl _ _)) rfl
    go_wp2
    go_ret2
    exact ⟨HB0.out, by rw [HE.out, if_pos (.inl hb1)]; first | done | rfl⟩
  have hd1 : decide ((65536 : Int) < (l1.length : Int)) = false := by simp; omega
  by_cases hb2 : 65536 < l2.length
  · have hd2 : decide ((65536 : Int) < (l2.length : Int)) = true := by simp; omega
    go_enter Try.func13, Try.ntmps13
    go_upto_region 1 with fail
    rw [← HW.out]
    have d2 : W0.cell? ⟨w.heap.size, 2, none⟩ = some (.slice A1 l1.length c1) := cell_at (HHC.out W0 (Below.refl _ _)) rfl
    have d3 : W0.cell? ⟨w.heap.size, 3, none⟩ = some (.slice A2 l2.length c2) := cell_at (HHC.out W0 (Below.refl _ _)) rfl
    go_wp2
    go_ret2
    exact ⟨HB0.out, by rw [HE.out, if_pos (.inr hb2)]; first | done | rfl⟩
  have hd2 : decide ((65536 : Int) < (l2.length : Int)) = false := by simp; omega
  have hE2 : E = (piecesF (l1 ++ l2) ⟨#[]⟩).map fun b => joinB [(4, f.toNat), (4, t.toNat), (4, l1.length)] ++ b := by rw [HE.out, if_neg (by omega)]
  have hP := fun A c w hC => pieces_any A c (l1 ++ l2) w hC HS.out
  have hN := fun (g : Nat) (W : World) (hB : Below W0.heap.size W0 W) (hg : W.heap[g]? = some (.cells #[.slice A1 l1.length c1, .slice A2 l2.length c2] 23 (0, 0))) => Concat_any (some ⟨g, 0, none⟩) 2 [l1, l2] W (C_two hg (Kd.C_below HC1.out hB) (Kd.C_below HC2.out hB) HK.out.1 HK.out.2) (by simp) (by have := HS.out.1; rw [List.length_append] at this; simp [lenL]; omega)
  have hflat : [l1, l2].flatten = l1 ++ l2 := by simp
  have hl2 : [l1, l2].length = 2 := rfl
  simp only [hflat, hl2] at hN
  generalize hL : l1 ++ l2 = L at *
  have HP := Lib.hid hP
  have HN := Lib.hid hN
  have HE2 := Lib.hid hE2
  clear hP hN hE2 HE hflat hl2 hb1 hb2
  cases hpf : piecesF L ⟨#[]⟩ with
  | none =>
    have hEn : E = none := by rw [HE2.out, hpf]; rfl
    have HEN := Lib.hid hEn
    have hP := HP.out
    rw [hpf] at hP
    have HP := Lib.hid hP
    clear hEn hP hpf
    go_enter Try.func13, Try.ntmps13
    go_upto_region 1 with fail
    rw [← HW.out]
    have d2 : W0.cell? ⟨w.heap.size, 2, none⟩ = some (.slice A1 l1.length c1) := cell_at (HHC.out W0 (Below.refl _ _)) rfl
    have d3 : W0.cell? ⟨w.heap.size, 3, none⟩ = some (.slice A2 l2.length c2) := cell_at (HHC.out W0 (Below.refl _ _)) rfl
    go_wp2_with (first | (go_at_call 40; refine (HN.out W0.heap.size _ ((Below.refl _ _).alloc (Nat.le_refl _) _) (by rw [hp_al, if_pos rfl])).mono ?_; rintro e w1 ⟨v6, rfl, hR6, hB6⟩; have hB1 := ((Below.refl W0.heap.size W0).alloc (Nat.le_refl _) _).trans (hB6.mono (by rw [sz_al]; omega)); obtain ⟨A6, c6, rfl, hk6, hC6⟩ := Kd.R_reads hR6) | (go_at_call 39; refine (HP.out _ _ _ hC6).mono ?_; rintro e w2 ⟨hB2, rfl⟩))
    go_ret2
    exact ⟨HB0.out.trans ((hB1.trans (hB2.mono hB1.size)).mono HB0.out.size), by rw [HEN.out]; first | done | rfl⟩
  | some pb =>
    have hEn : E = some (joinB [(4, f.toNat), (4, t.toNat), (4, l1.length)] ++ pb) := by rw [HE2.out, hpf]; rfl
    have HEN := Lib.hid hEn
    have hP := HP.out
    rw [hpf] at hP
    have HP := Lib.hid hP
    have hJ : ∀ (a c : Nat) (w1 : World), w1.heap[a]? = some (.cells #[.int .u64 (IntKind.u64.wrap f), .int .u64 (IntKind.u64.wrap t), .int .u64 (IntKind.u64.wrap (l1.length : Int))] 83) → w1.heap[c]? = some (.cells #[.int .i64 4, .int .i64 4, .int .i64 4] 3) →
        Calls Try.prog 41 #[.slice (some ⟨a, 0, none⟩) 3 3, .slice (some ⟨c, 0, none⟩) 3 3] w1 fun e w' => e = .returned (.tuple #[.string (joinB [(4, f.toNat), (4, t.toNat), (4, l1.length)]), .int .i64 0]) ∧ Below w1.heap.size w1 w' := fun a c w1 ha hc =>
      Join_any a c 3 3 [(4, f.toNat), (4, t.toNat), (4, l1.length)] w1 (by rw [HX.out.1, HX.out.2.1, HX.out.2.2] at ha; exact ha) hc (by
        have := HS.out.1
        have hLl := congrArg List.length hL
        rw [List.length_append] at hLl
        have := HF.out
        intro p hp
        simp at hp
        rcases hp with rfl | rfl | rfl
        · exact ⟨.inr (.inr (.inl rfl)), by simp; omega⟩
        · exact ⟨.inr (.inr (.inl rfl)), by simp; omega⟩
        · exact ⟨.inr (.inr (.inl rfl)), by simp; omega⟩) (by simp) (by simp) (by simp)
    have hjb : (joinB [(4, f.toNat), (4, t.toNat), (4, l1.length)]).size ≤ 100 := by
      rw [joinB_size]
      show 12 ≤ 100
      omega
    have hpb : pb.size ≤ 100000000000 := by
      have h1 := (piecesF_size _ _ _ hpf).2
      have h2 := HS.out.1
      have h3 : (⟨#[]⟩ : ByteArray).size = 0 := rfl
      omega
    generalize joinB [(4, f.toNat), (4, t.toNat), (4, l1.length)] = jb at *
    have HJ := Lib.hid hJ
    clear hEn hP hpf hJ
    go_enter Try.func13, Try.ntmps13
    go_upto_region 1 with fail
    rw [← HW.out]
    have d2 : W0.cell? ⟨w.heap.size, 2, none⟩ = some (.slice A1 l1.length c1) := cell_at (HHC.out W0 (Below.refl _ _)) rfl
    have d3 : W0.cell? ⟨w.heap.size, 3, none⟩ = some (.slice A2 l2.length c2) := cell_at (HHC.out W0 (Below.refl _ _)) rfl
    go_wp2_with (first | (go_at_call 40; refine (HN.out W0.heap.size _ ((Below.refl _ _).alloc (Nat.le_refl _) _) (by rw [hp_al, if_pos rfl])).mono ?_; rintro e w1 ⟨v6, rfl, hR6, hB6⟩; have hB1 := ((Below.refl W0.heap.size W0).alloc (Nat.le_refl _) _).trans (hB6.mono (by rw [sz_al]; omega)); obtain ⟨A6, c6, rfl, hk6, hC6⟩ := Kd.R_reads hR6) | (go_at_call 39; refine (HP.out _ _ _ hC6).mono ?_; rintro e w2 ⟨hB2, rfl⟩; have hB2w := hB1.trans (hB2.mono hB1.size); have hcc := HHC.out w2 hB2w; have f0 : w2.cell? ⟨w.heap.size, 0, none⟩ = some (.int .u32 f) := cell_at hcc rfl; have f1 : w2.cell? ⟨w.heap.size, 1, none⟩ = some (.int .u32 t) := cell_at hcc rfl; have f2 : w2.cell? ⟨w.heap.size, 2, none⟩ = some (.slice A1 l1.length c1) := cell_at hcc rfl) | (go_at_call 41; refine (HJ.out _ _ _ (two_alloc w2 _ _).1 (two_alloc w2 _ _).2).mono ?_; rintro e w3 ⟨rfl, hB3⟩))
    go_ret2
    refine ⟨HB0.out.trans ((hB2w.trans ((((Below.refl w2.heap.size w2).alloc (Nat.le_refl _) _).alloc (by rw [sz_al]; omega) _).trans (hB3.mono (by rw [sz_al, sz_al]; omega)) |>.mono hB2w.size)).mono HB0.out.size), by rw [HEN.out]; first | done | rfl⟩
end Go.Proofs.Ytajdlgbhofdafaa
