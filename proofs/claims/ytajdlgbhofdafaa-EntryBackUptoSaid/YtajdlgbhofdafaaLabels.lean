/- name's labels: the iterator's contract. -/
import Derived.Test.YtajdlgbhofdafaaPieces
import Derived.Test.YtajdlgbhofdafaaRange
namespace Go.Proofs.Ytajdlgbhofdafaa
open Go.RowKit Go.Shelf
set_option maxRecDepth 100000
attribute [local go_sem] Oper.semAt_some

/-- The labels that bytes begin with, and what is left behind each (of f rounds at most). -/
def labelsB : Nat → ByteArray → List (ByteArray × ByteArray)
  | 0, _ => []
  | f + 1, n => if n = ⟨#[0]⟩ then [] else
    match cutB 1 n with
    | none => []
    | some (s, t) => if s.size = 0 ∨ 63 < s.size then [] else (s, t) :: labelsB f t

theorem labelsB_bad {f : Nat} {m s t : ByteArray} (h : ¬ m = ⟨#[0]⟩) (hc : cutB 1 m = some (s, t)) (hb : s.size = 0 ∨ 63 < s.size) : labelsB (f + 1) m = [] := by
  rw [labelsB, if_neg h, hc]
  exact if_pos hb
theorem labelsB_on {f : Nat} {m s t : ByteArray} (h : ¬ m = ⟨#[0]⟩) (hc : cutB 1 m = some (s, t)) (hb : ¬ (s.size = 0 ∨ 63 < s.size)) : labelsB (f + 1) m = (s, t) :: labelsB f t := by
  rw [labelsB, if_neg h, hc]
  exact if_neg hb

/-- The string in a cell. -/
def strAt (w : World) (B : Nat) : Nat := match w.cell? ⟨B, 0, none⟩ with | some (.string s) => s.size | _ => 0
theorem strAt_eq {w : World} {B : Nat} {s : ByteArray} (h : w.cell? ⟨B, 0, none⟩ = some (.string s)) : strAt w B = s.size := by simp [strAt, h]

set_option maxHeartbeats 1000000 in
theorem labels_seq (n Bn : Nat) (b : ByteArray) (w : World) (hc : w.cell? ⟨Bn, 0, none⟩ = some (.string b)) (hf : w.frozen? ⟨Bn, 0, none⟩ = false) (hb : b.size ≤ 140737488351232) :
    SeqC n Try.prog 164 #[.pointer (some ⟨Bn, 0, none⟩)] (fun x : ByteArray × ByteArray => #[.string x.1, .string x.2]) (labelsB b.size b) (fun k => k = Bn) w := by
  intro T l J Jx W hTS hW hJ hJx hY h0
  have hlt := World.block_lt_of_cell? w _ hc
  have hcW : W.cell? ⟨Bn, 0, none⟩ = some (.string b) := (hW.cell (p := ⟨Bn, 0, none⟩) hlt (by simp)).trans hc
  have hfW : W.frozen? ⟨Bn, 0, none⟩ = false := (hW.frozen (p := ⟨Bn, 0, none⟩) hlt (by simp)).trans hf
  generalize hxs : labelsB b.size b = xs at *
  have HXS := Lib.hid hxs
  have HY := Lib.hid hY
  have HJ := Lib.hid hJ
  have HT := Lib.hid hTS
  clear hxs hY hJ hJx hTS hc hf hlt hW
  refine callsIn_of_wp Try.func164 rfl trivial ?_ rfl
  simp only [Try.ntmps164, List.size_toArray, List.length_cons, List.length_nil, Nat.reduceAdd, Nat.reduceSub, Array.replicate_succ, Array.replicate_zero, List.push_toArray, List.append_toArray, List.nil_append, List.cons_append]
  gi_wp2
  gi_loopw [] (fun wr => ∃ (pre : List (ByteArray × ByteArray)) (f : Nat) (m : ByteArray), xs = pre ++ labelsB f m ∧ m.size ≤ f ∧ m.size ≤ 140737488351232 ∧ wr.cell? ⟨Bn, 0, none⟩ = some (.string m) ∧ wr.frozen? ⟨Bn, 0, none⟩ = false ∧ J pre wr) (fun wr => strAt wr Bn)
  case atStart => exact ⟨[], b.size, b, HXS.out.symm, Nat.le_refl _, hb, hcW, hfW, h0⟩
  case round =>
    obtain ⟨pre, f, m, hx, hmf, hmb, hc, hf, hJp⟩ := hrel
    have hlt := World.block_lt_of_cell? wr _ hc
    by_cases hroot : m = ⟨#[0]⟩
    · subst hroot
      have hfin : J xs wr := by
        have : labelsB f ⟨#[0]⟩ = [] := by cases f <;> simp [labelsB]
        rw [hx, this, List.append_nil]
        exact hJp
      have HF := Lib.hid hfin
      clear hfin hx
      gi_wp2
      go_end0
      exact ⟨⟨_, rfl⟩, .inl HF.out⟩
    · have hr1 : (m.toList == [0]) = false := by
        rw [beq_eq_false_iff_ne]
        intro h
        apply hroot
        rw [ByteArray.toList_eq] at h
        apply ByteArray.ext
        exact Array.ext' h
      have hr2 : (m.toList != [0]) = true := by rw [bne, hr1]; rfl
      generalize hcb : cutB 1 m = oc
      have HCB := Lib.hid hcb
      have HX := Lib.hid hx
      clear hcb hx
      cases oc with
      | none =>
        have hfin : ∀ w1, Below wr.heap.size wr w1 → J xs w1 := by
          intro w1 hB
          have : labelsB f m = [] := by cases f <;> simp [labelsB, HCB.out]
          rw [HX.out, this, List.append_nil]
          exact HJ.out _ _ _ hJp (Fr.of_below hB)
        have HF := Lib.hid hfin
        clear hfin
        gi_wp2_with (refine ⟨trivial, fun h => absurd h (by simp [Fence.wide]), ?_⟩; gi_at_call 165; refine (callsIn_wide.2 (Cut_any 1 m _ hmb (Or.inl rfl))).mono ?_; rw [HCB.out]; rintro e w1 ⟨hB, rfl⟩)
        refine bodyPost_ret (results_none rfl _ _ _) rfl ?_
        exact ⟨⟨_, rfl⟩, .inl (HF.out _ hB)⟩
      | some pr =>
        obtain ⟨s, t⟩ := pr
        have hsz := cutB_size HCB.out
        obtain ⟨f, rfl⟩ : ∃ g, f = g + 1 := ⟨f - 1, by omega⟩
        by_cases hbad : s.size = 0 ∨ 63 < s.size
        · have hfin : ∀ w1, Below wr.heap.size wr w1 → J xs w1 := by
            intro w1 hB
            have : labelsB (f + 1) m = [] := labelsB_bad hroot HCB.out hbad
            rw [HX.out, this, List.append_nil]
            exact HJ.out _ _ _ hJp (Fr.of_below hB)
          have HF := Lib.hid hfin
          clear hfin
          by_cases hs0 : s.size = 0
          · have := size0 hs0
            subst this
            clear hbad hs0 hsz
            gi_wp2_with (refine ⟨trivial, fun h => absurd h (by simp [Fence.wide]), ?_⟩; gi_at_call 165; refine (callsIn_wide.2 (Cut_any 1 m _ hmb (Or.inl rfl))).mono ?_; rw [HCB.out]; rintro e w1 ⟨hB, rfl⟩)
            refine bodyPost_ret (results_none rfl _ _ _) rfl ?_
            exact ⟨⟨_, rfl⟩, .inl (HF.out _ hB)⟩
          · have hs63 : 63 < s.size := by omega
            have hne := isE hs0
            clear hbad hs0 hsz
            gi_wp2_with (refine ⟨trivial, fun h => absurd h (by simp [Fence.wide]), ?_⟩; gi_at_call 165; refine (callsIn_wide.2 (Cut_any 1 m _ hmb (Or.inl rfl))).mono ?_; rw [HCB.out]; rintro e w1 ⟨hB, rfl⟩)
            refine bodyPost_ret (results_none rfl _ _ _) rfl ?_
            exact ⟨⟨_, rfl⟩, .inl (HF.out _ hB)⟩
        · have hs0 : ¬ s.size = 0 := by omega
          have hs63 : s.size ≤ 63 := by omega
          have hne := isE hs0
          have hx2 : xs = (pre ++ [(s, t)]) ++ labelsB f t := by
            rw [HX.out, labelsB_on hroot HCB.out hbad]; simp
          have HX2 := Lib.hid hx2
          clear hbad hs0 hx2
          gi_wp2_with (refine ⟨trivial, fun h => absurd h (by simp [Fence.wide]), ?_⟩; gi_at_call 165; refine (callsIn_wide.2 (Cut_any 1 m _ hmb (Or.inl rfl))).mono ?_; rw [HCB.out]; rintro e w1 ⟨hB, rfl⟩; have hc1 := (hB.cell (p := ⟨Bn, 0, none⟩) hlt).trans hc; have hf1 := (hB.frozen (p := ⟨Bn, 0, none⟩) hlt).trans hf; have hJ2 := HJ.out _ _ _ hJp (((Fr.of_below hB).set ⟨Bn, 0, none⟩ (.string t) (fun _ => rfl)) : Fr (fun k => k = Bn) wr _); obtain ⟨fn, tmps, assign, body, hy, hR⟩ := HY.out pre (s, t) _ hJ2 ⟨labelsB f t, HX2.out.symm⟩; dsimp only at hy)
          refine ⟨fun h => absurd h (by simp [Fence.wide]), hR.mono ?_⟩
          clear hy
          rintro e W3 (⟨rfl, hJ3, hT3⟩ | ⟨rfl, hJx3, hT3⟩)
          · have hlt1 := World.block_lt_of_cell? w1 _ hc1
            have hcs : (w1.setCell ⟨Bn, 0, none⟩ (.string t)).cell? ⟨Bn, 0, none⟩ = some (.string t) := World.cell?_setCell_same' _ _ _ (by rw [hc1]; rfl)
            have hc3 : W3.cell? ⟨Bn, 0, none⟩ = some (.string t) := (hT3.cell (p := ⟨Bn, 0, none⟩) (by rw [size_set]; exact hlt1) (fun h => HT.out _ h rfl)).trans hcs
            have hf3 : W3.frozen? ⟨Bn, 0, none⟩ = false := (hT3.frozen (p := ⟨Bn, 0, none⟩) (by rw [size_set]; exact hlt1) (fun h => HT.out _ h rfl)).trans (by rw [World.frozen?_setCell]; exact hf1)
            have hmeas : strAt W3 Bn < strAt wr Bn := by rw [strAt_eq hc3, strAt_eq hc]; omega
            have HM := Lib.hid hmeas
            clear hmeas hcs hT3 hR hJ2
            gi_wp2
            go_roundw
            case rel => exact ⟨pre ++ [(s, t)], f, t, HX2.out, by omega, by omega, hc3, hf3, hJ3⟩
            case measure => exact HM.out
          · gi_wp2
            refine bodyPost_ret (results_none rfl _ _ _) rfl ?_
            exact ⟨⟨_, rfl⟩, .inr ⟨pre ++ [(s, t)], ⟨labelsB f t, HX2.out.symm⟩, hJx3⟩⟩

end Go.Proofs.Ytajdlgbhofdafaa
