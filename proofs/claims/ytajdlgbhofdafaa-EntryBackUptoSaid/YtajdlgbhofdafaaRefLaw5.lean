/- Plain laws: what the document's records and lists of them come to. Plain laws: what the document's tests of entries come to. -/
import Derived.Test.YtajdlgbhofdafaaRefLaw
import Derived.Test.YtajdlgbhofdafaaEntry
import Derived.Test.YtajdlgbhofdafaaEntryLaw
namespace Go.Proofs.Ytajdlgbhofdafaa
open Go.RowKit Go.Proofs.YtajdlgbhofdafaaW.PrintWords Go.Proofs.YtajdlgbhofdafaaW.PrintLast Go.Proofs.YtajdlgbhofdafaaW.PrintMore

theorem foldl_app (l : List ByteArray) : ∀ a : ByteArray, (l.foldl (fun a s => a ++ s) a).size = a.size + (l.map (·.size)).sum := by
  induction l with
  | nil => intro a; simp
  | cons x l ih => intro a; rw [List.foldl_cons, ih, size_app]; simp; omega
theorem ref_join_l0 (l : List ByteArray) (hl : l.length ≤ 1000) (hs : (l.map (·.size)).sum ≤ 1000000000) : ∀ (d i : Nat) (a : ByteArray), i ≤ l.length → l.length - i ≤ d → a.size + ((l.drop i).map (·.size)).sum ≤ 2000000000 →
    Evt (fun k => Rf.beadrollref10_join.l0 k l a (i : Int)) ((l.drop i).foldl (fun a s => a ++ s) a) := by
  intro d
  induction d with
  | zero =>
    intro i a hi hd _
    rw [List.drop_eq_nil_of_le (by omega)]
    refine Evt.one fun k => ?_
    simp only [Rf.beadrollref10_join.l0]
    rw [if_neg (by omega)]
    rfl
  | succ d ih =>
    intro i a hi hd ha
    by_cases hlt : i < l.length
    · have hdr : l.drop i = l[i] :: l.drop (i + 1) := List.drop_eq_getElem_cons hlt
      have hrd : rdOf ByteArray.empty l (i : Int) = l[i] := by
        unfold rdOf
        rw [Int.toNat_natCast, List.getD_eq_getElem?_getD, List.getElem?_eq_getElem hlt, Option.getD_some]
      rw [hdr] at ha ⊢
      simp only [List.map_cons, List.sum_cons] at ha
      rw [List.foldl_cons]
      have hn := ih (i + 1) (a ++ l[i]) (by omega) (by omega) (by rw [size_app]; omega)
      refine Evt.succ (fun k => ?_) hn
      simp only [Rf.beadrollref10_join.l0]
      rw [if_pos (by omega), if_pos (by omega), hrd, if_pos (by omega), w64_in ((i : Int) + 1) (by omega)]
      rfl
    · rw [List.drop_eq_nil_of_le (by omega)]
      refine Evt.one fun k => ?_
      simp only [Rf.beadrollref10_join.l0]
      rw [if_neg (by omega)]
      rfl
theorem foldl_parts (l : List (Int × ByteArray)) : ∀ a : ByteArray, (l.map (·.2)).foldl (fun a s => a ++ s) a = l.foldl (fun a p => a ++ p.2) a := by
  induction l with
  | nil => intro a; rfl
  | cons x l ih => intro a; rw [List.map_cons, List.foldl_cons, List.foldl_cons, ih]
theorem ref_join (l : List ByteArray) (hl : l.length ≤ 1000) (hs : (l.map (·.size)).sum ≤ 1000000000) : Evt (fun k => Rf.beadrollref10_join.f k l) (l.foldl (fun a s => a ++ s) ⟨#[]⟩) :=
  ref_join_l0 l hl hs l.length 0 ⟨#[]⟩ (Nat.zero_le _) (by omega) (by rw [show (⟨#[]⟩ : ByteArray).size = 0 from rfl, List.drop_zero]; omega)
/-- The document's right data are the program's. -/
theorem ref_rightD (t : Int) (d : ByteArray) (hd : d.size ≤ 1000000) : Evt (fun k => Rf.beadrollref10_Right.f k t d) (rightD t d) := by
  have hlen := partsL_len t
  have hw := ref_read_l0 d (ByteArray.mk ((partsL t).map codeOf).toArray) d.size rfl hd (by rw [size_mk, List.length_map]; omega) (partsL t) 0 0 [] (by rw [data_mk, List.drop_zero]) (partsL_codes t) (partsL_last t) (Nat.zero_le _) (by simp; omega)
  have hread : Evt (fun k => Rf.beadrollref10_Read.f k d 0 (d.size : Int) t) (refRead [] d.size (walkL d d.size (partsL t) 0)) := by
    refine Evt.bind (ref_parts t) (Evt.congr (fun k => ?_) hw)
    rw [if_pos (by omega), if_pos (by omega), Int.toNat_natCast, extract_all]
    rfl
  have hmem := walkL_mem d d.size (partsL t) 0
  have hwl := walkL_len d d.size (partsL t) 0
  cases hq : walkL d d.size (partsL t) 0 with
  | mk l o =>
    rw [hq] at hread hmem hwl
    dsimp only at hmem hwl
    have hrd : rightD t d = (decide (d.size ≤ 65535) && (o == some d.size) && (sumP l == d.size)) := by unfold rightD; rw [hq]
    have hsum : sumP l ≤ 7 * (255 + d.size) := by
      have := sumP_le (255 + d.size) l (fun x hx => (hmem x hx).1)
      have h2 : l.length * (255 + d.size) ≤ 7 * (255 + d.size) := Nat.mul_le_mul_right _ (by omega)
      omega
    cases o with
    | none =>
      have hf : rightD t d = false := by rw [hrd]; simp
      rw [hf]
      have hj := ref_join [] (by simp) (by simp)
      refine Evt.bind (r := (((⟨#[]⟩ : ByteArray)), false)) (Evt.bind hread (Evt.bind hj ?_)) ?_
      · exact Evt.of fun k => rfl
      · exact Evt.of fun k => rfl
    | some q =>
      have hj := ref_join (l.map (·.2)) (by rw [List.length_map]; omega) (by
        rw [List.map_map]
        have : (List.map ((fun x => x.size) ∘ fun x => x.snd) l).sum = sumP l := rfl
        omega)
      rw [foldl_parts] at hj
      have hc : (l.foldl (fun a p => a ++ p.2) ⟨#[]⟩ : ByteArray) = catP l := rfl
      rw [hc] at hj
      have hcs := catP_size l
      by_cases he : q = d.size
      · subst he
        have hwhole : Evt (fun k => Rf.beadrollref10_Whole.f k d 0 (d.size : Int) t) (catP l, decide ((catP l).size ≤ 65535)) := by
          refine Evt.bind hread (Evt.bind hj (Evt.of fun k => ?_))
          show (if (d.size == d.size) = true then _ else _) = _
          rw [if_pos (by simp)]
          congr 2
          rw [decide_eq_decide]
          omega
        have hres : rightD t d = if decide ((catP l).size ≤ 65535) = true then ((catP l).toList == d.toList) else false := by
          by_cases h65 : (catP l).size ≤ 65535
          · rw [if_pos (by simpa using h65)]
            by_cases heq : catP l = d
            · rw [heq] at hcs h65 ⊢
              rw [hrd, ← hcs]
              simp [h65]
            · have hne : ((catP l).toList == d.toList) = false := by
                rw [beq_eq_false_iff_ne, ByteArray.toList_eq, ByteArray.toList_eq]
                exact fun h => heq (ba_ext h)
              rw [hne]
              cases hr : rightD t d with
              | false => rfl
              | true =>
                exfalso
                obtain ⟨l', h1, _, _, h4, _⟩ := rightD_parts hr
                rw [hq] at h1
                injection h1 with h1 _
                exact heq (by rw [h1]; exact h4)
          · rw [if_neg (by simpa using h65)]
            cases hr : rightD t d with
            | false => rfl
            | true =>
              exfalso
              obtain ⟨l', h1, _, _, _, h5, h6⟩ := rightD_parts hr
              rw [hq] at h1
              injection h1 with h1 _
              rw [← h1] at h5
              omega
        rw [hres]
        refine Evt.bind hwhole (Evt.of fun k => ?_)
        dsimp only
        split
        · rfl
        · rfl
      · have hf : rightD t d = false := by
          rw [hrd]
          have : (some q == some d.size) = false := by simpa using he
          rw [this]
          simp
        rw [hf]
        have hwhole : Evt (fun k => Rf.beadrollref10_Whole.f k d 0 (d.size : Int) t) (catP l, false) := by
          refine Evt.bind hread (Evt.bind hj (Evt.of fun k => ?_))
          show (if (q == d.size) = true then _ else _) = _
          rw [if_neg (by simpa using he)]
        exact Evt.bind hwhole (Evt.of fun k => rfl)
/-- The document's right records are the program's. -/
theorem ref_rightR (x : SR) (h0 : x.f0.size ≤ 1000000) (h4 : x.f4.size ≤ 1000000) : Evt (fun k => Rf.beadrollref11_Right.f k x.f0 x.f1 x.f2 x.f3 x.f4) (rightR (toR x)) := by
  have hn := ref_right x.f0 (by omega)
  have hd := ref_rightD x.f1 x.f4 h4
  have hj : ∀ b, Evt (fun k => Rf.beadrollref11_Right.j0 k b x.f0 x.f1 x.f2 x.f3 x.f4) (!b && (!(typedB (toR x)) || rightD x.f1 x.f4)) := fun b => by
    have htyp : Rf.beadrollref11_typed.f x.f2 x.f4.toList.isEmpty = some (typedB (toR x)) := by
      unfold Rf.beadrollref11_typed.f typedB
      show _ = some (x.f2 == 1 || (x.f2 == 254 && !(x.f4.size == 0)))
      by_cases h1 : x.f2 = 1
      · rw [if_pos h1]; simp [h1]
      · rw [if_neg h1]
        by_cases h2 : x.f2 = 254
        · rw [if_pos h2]
          by_cases hz : x.f4.size = 0
          · have he := size0 hz
            rw [he]
            simp [h2]
            rfl
          · rw [isE hz]
            simp [h2, hz]
        · rw [if_neg h2]
          simp [h1, h2]
    cases b with
    | true =>
      refine Evt.one fun k => ?_
      simp only [Rf.beadrollref11_Right.j0]
      rfl
    | false =>
      cases ht : typedB (toR x) with
      | false =>
        refine Evt.one fun k => ?_
        simp only [Rf.beadrollref11_Right.j0]
        rw [htyp, ht]
        rfl
      | true =>
        refine Evt.succ (h := fun k => (Rf.beadrollref10_Right.f k x.f1 x.f4).bind fun t => some t) (fun k => ?_) (Evt.bind hd (Evt.of fun k => by simp))
        simp only [Rf.beadrollref11_Right.j0]
        rw [htyp, ht]
        rfl
  have hrr : rightR (toR x) = (rightB x.f0 && !(decide (x.f1 < 0)) && !(decide (65535 < x.f1)) && !(decide (x.f2 < 0)) && !(decide (65535 < x.f2)) && !(decide (x.f3 < 0)) && !(decide (2147483647 < x.f3)) && !(decide (65535 < (x.f4.size : Int))) && (!(typedB (toR x)) || rightD x.f1 x.f4)) := rfl
  rw [hrr]
  refine Evt.bind hn ?_
  cases rightB x.f0 with
  | false => exact Evt.congr (fun k => by rw [if_neg Bool.false_ne_true]) (hj true)
  | true =>
    by_cases c1 : x.f1 < 0
    · refine Evt.congr (fun k => by rw [if_pos rfl, if_pos c1]) ?_
      simpa [c1] using hj true
    by_cases c2 : x.f1 > 65535
    · refine Evt.congr (fun k => by rw [if_pos rfl, if_neg c1, if_pos c2]) ?_
      have c2' : 65535 < x.f1 := c2
      simpa [c2'] using hj true
    by_cases c3 : x.f2 < 0
    · refine Evt.congr (fun k => by rw [if_pos rfl, if_neg c1, if_neg c2, if_pos c3]) ?_
      simpa [c3] using hj true
    by_cases c4 : x.f2 > 65535
    · refine Evt.congr (fun k => by rw [if_pos rfl, if_neg c1, if_neg c2, if_neg c3, if_pos c4]) ?_
      have c4' : 65535 < x.f2 := c4
      simpa [c4'] using hj true
    by_cases c5 : x.f3 < 0
    · refine Evt.congr (fun k => by rw [if_pos rfl, if_neg c1, if_neg c2, if_neg c3, if_neg c4, if_pos c5]) ?_
      simpa [c5] using hj true
    by_cases c6 : x.f3 > 2147483647
    · refine Evt.congr (fun k => by rw [if_pos rfl, if_neg c1, if_neg c2, if_neg c3, if_neg c4, if_neg c5, if_pos c6]) ?_
      have c6' : 2147483647 < x.f3 := c6
      simpa [c6'] using hj true
    · refine Evt.congr (fun k => by rw [if_pos rfl, if_neg c1, if_neg c2, if_neg c3, if_neg c4, if_neg c5, if_neg c6]) ?_
      have hb := hj (decide ((x.f4.size : Int) > 65535))
      have e : (true && !(decide (x.f1 < 0)) && !(decide (65535 < x.f1)) && !(decide (x.f2 < 0)) && !(decide (65535 < x.f2)) && !(decide (x.f3 < 0)) && !(decide (2147483647 < x.f3)) && !(decide (65535 < (x.f4.size : Int)))) = !(decide ((x.f4.size : Int) > 65535)) := by
        have d2 : ¬ 65535 < x.f1 := c2
        have d4 : ¬ 65535 < x.f2 := c4
        have d6 : ¬ 2147483647 < x.f3 := c6
        rw [decide_eq_false c1, decide_eq_false d2, decide_eq_false c3, decide_eq_false d4, decide_eq_false c5, decide_eq_false d6]
        rfl
      rw [e]
      exact hb
end Go.Proofs.Ytajdlgbhofdafaa
namespace Go.Proofs.Ytajdlgbhofdafaa
open Go.RowKit Go.Proofs.YtajdlgbhofdafaaW.PrintWords Go.Proofs.YtajdlgbhofdafaaW.PrintLast Go.Proofs.YtajdlgbhofdafaaW.PrintMore

theorem rd_at (l : List SR) (i : Nat) (h : i < l.length) : Rf.rd_T78 l (i : Int) = l[i] := by
  unfold Rf.rd_T78
  rw [Int.toNat_natCast, List.getD_eq_getElem?_getD, List.getElem?_eq_getElem h, Option.getD_some]
theorem w64_succ (i : Nat) (h : i ≤ 4611686018427387904) : wrap64 ((i : Int) + 1) = ((i + 1 : Nat) : Int) := by rw [w64_in _ (by omega)]; omega
/-- Records of a size that is looked at. -/
def fewL (l : List SR) : Prop := l.length ≤ 30 ∧ ∀ x ∈ l, x.f0.size ≤ 600 ∧ x.f4.size ≤ 2000
theorem few_l0 (l : List SR) (hl : l.length ≤ 4611686018427387904) : ∀ (d i : Nat), i ≤ l.length → l.length - i ≤ d →
    ∃ r, Evt (fun k => Rf.beadrollref17_Few.l0 k l (i : Int)) r ∧ (r = true → l.length ≤ 30 ∧ ∀ x ∈ l.drop i, x.f0.size ≤ 600 ∧ x.f4.size ≤ 2000) := by
  intro d
  induction d with
  | zero =>
    intro i hi hd
    refine ⟨decide ((l.length : Int) ≤ 30), Evt.one fun k => ?_, fun h => ?_⟩
    · simp only [Rf.beadrollref17_Few.l0]
      rw [if_neg (by omega)]
    · rw [List.drop_eq_nil_of_le (by omega)]
      have := of_decide_eq_true h
      exact ⟨by omega, by simp⟩
  | succ d ih =>
    intro i hi hd
    by_cases hlt : i < l.length
    · have hrd := rd_at l i hlt
      have hdr : l.drop i = l[i] :: l.drop (i + 1) := List.drop_eq_getElem_cons hlt
      by_cases h6 : ((l[i].f0.size : Nat) : Int) > 600
      · refine ⟨false, Evt.one fun k => ?_, fun h => by cases h⟩
        simp only [Rf.beadrollref17_Few.l0]
        rw [if_pos (by omega), if_pos (by omega), hrd, if_pos h6]
      by_cases h2 : ((l[i].f4.size : Nat) : Int) > 2000
      · refine ⟨false, Evt.one fun k => ?_, fun h => by cases h⟩
        simp only [Rf.beadrollref17_Few.l0]
        rw [if_pos (by omega), if_pos (by omega), hrd, if_neg h6, if_pos h2]
      · obtain ⟨r, hr, hp⟩ := ih (i + 1) (by omega) (by omega)
        refine ⟨r, Evt.succ (fun k => ?_) hr, fun h => ?_⟩
        · simp only [Rf.beadrollref17_Few.l0]
          rw [if_pos (by omega), if_pos (by omega), hrd, if_neg h6, if_neg h2, w64_succ i (by omega)]
        · obtain ⟨p1, p2⟩ := hp h
          refine ⟨p1, ?_⟩
          rw [hdr]
          intro x hx
          rcases List.mem_cons.1 hx with rfl | hx
          · exact ⟨by omega, by omega⟩
          · exact p2 x hx
    · refine ⟨decide ((l.length : Int) ≤ 30), Evt.one fun k => ?_, fun h => ?_⟩
      · simp only [Rf.beadrollref17_Few.l0]
        rw [if_neg (by omega)]
      · rw [List.drop_eq_nil_of_le (by omega)]
        have := of_decide_eq_true h
        exact ⟨by omega, by simp⟩
theorem few_evt (f t : Int) (l1 l2 : List SR) (h1 : l1.length ≤ 1000000000) (h2 : l2.length ≤ 1000000000) : ∃ r, Evt (fun k => Rf.beadrollref17_Few.f k f t l1 l2) r ∧ (r = true → fewL (l1 ++ l2)) := by
  obtain ⟨r, hr, hp⟩ := few_l0 (l1 ++ l2) (by rw [List.length_append]; omega) (l1 ++ l2).length 0 (Nat.zero_le _) (by omega)
  refine ⟨r, Evt.congr (fun k => ?_) hr, fun h => hp h⟩
  unfold Rf.beadrollref17_Few.f
  rw [Option.bind_some, if_pos (by simp; omega), Option.bind_some, List.nil_append, if_pos (by omega)]
  rfl
theorem formed_l1 (f t : Int) (l1 l2 : List SR) (hl : l2.length ≤ 1000000000) (hs : ∀ x ∈ l2, x.f0.size ≤ 1000000 ∧ x.f4.size ≤ 1000000) : ∀ (d i : Nat), i ≤ l2.length → l2.length - i ≤ d →
    Evt (fun k => Rf.beadrollref17_Formed.l1 k (i : Int) f t l1 l2) ((l2.drop i).all fun x => rightR (toR x)) := by
  intro d
  induction d with
  | zero =>
    intro i hi hd
    rw [List.drop_eq_nil_of_le (by omega)]
    refine Evt.one fun k => ?_
    simp only [Rf.beadrollref17_Formed.l1]
    rw [if_neg (by omega)]
    rfl
  | succ d ih =>
    intro i hi hd
    by_cases hlt : i < l2.length
    · have hrd := rd_at l2 i hlt
      have hdr : l2.drop i = l2[i] :: l2.drop (i + 1) := List.drop_eq_getElem_cons hlt
      have hx := hs l2[i] (List.getElem_mem hlt)
      have hR := ref_rightR l2[i] hx.1 hx.2
      rw [hdr, List.all_cons]
      refine Evt.succ (h := fun k => (Rf.beadrollref11_Right.f k l2[i].f0 l2[i].f1 l2[i].f2 l2[i].f3 l2[i].f4).bind fun b => if b = true then Rf.beadrollref17_Formed.l1 k (((i + 1 : Nat)) : Int) f t l1 l2 else some false) (fun k => ?_) (Evt.bind hR ?_)
      · simp only [Rf.beadrollref17_Formed.l1]
        rw [if_pos (by omega), if_pos (by omega), hrd, w64_succ i (by omega)]
      · cases rightR (toR l2[i]) with
        | false => exact Evt.of fun k => rfl
        | true =>
          refine Evt.congr (fun k => if_pos rfl) ?_
          rw [Bool.true_and]
          exact ih (i + 1) (by omega) (by omega)
    · rw [List.drop_eq_nil_of_le (by omega)]
      refine Evt.one fun k => ?_
      simp only [Rf.beadrollref17_Formed.l1]
      rw [if_neg (by omega)]
      rfl
theorem formed_l0 (f t : Int) (l1 l2 : List SR) (hl : l1.length ≤ 1000000000) (hl2 : l2.length ≤ 1000000000) (hs : ∀ x ∈ l1 ++ l2, x.f0.size ≤ 1000000 ∧ x.f4.size ≤ 1000000) : ∀ (d i : Nat), i ≤ l1.length → l1.length - i ≤ d →
    Evt (fun k => Rf.beadrollref17_Formed.l0 k (i : Int) f t l1 l2) (((l1.drop i) ++ l2).all fun x => rightR (toR x)) := by
  have hend : ∀ i, i = l1.length → Evt (fun k => Rf.beadrollref17_Formed.l0 k (i : Int) f t l1 l2) (((l1.drop i) ++ l2).all fun x => rightR (toR x)) := fun i hi => by
    have h := formed_l1 f t l1 l2 hl2 (fun x hx => hs x (List.mem_append.2 (.inr hx))) l2.length 0 (Nat.zero_le _) (by omega)
    rw [List.drop_eq_nil_of_le (by omega), List.nil_append]
    refine Evt.succ (fun k => ?_) h
    simp only [Rf.beadrollref17_Formed.l0]
    rw [if_neg (by omega)]
    rfl
  intro d
  induction d with
  | zero => intro i hi hd; exact hend i (by omega)
  | succ d ih =>
    intro i hi hd
    by_cases hlt : i < l1.length
    · have hrd := rd_at l1 i hlt
      have hdr : l1.drop i = l1[i] :: l1.drop (i + 1) := List.drop_eq_getElem_cons hlt
      have hx := hs l1[i] (List.mem_append.2 (.inl (List.getElem_mem hlt)))
      have hR := ref_rightR l1[i] hx.1 hx.2
      rw [hdr, List.cons_append, List.all_cons]
      refine Evt.succ (h := fun k => (Rf.beadrollref11_Right.f k l1[i].f0 l1[i].f1 l1[i].f2 l1[i].f3 l1[i].f4).bind fun b => if b = true then Rf.beadrollref17_Formed.l0 k (((i + 1 : Nat)) : Int) f t l1 l2 else some false) (fun k => ?_) (Evt.bind hR ?_)
      · simp only [Rf.beadrollref17_Formed.l0]
        rw [if_pos (by omega), if_pos (by omega), hrd, w64_succ i (by omega)]
      · cases rightR (toR l1[i]) with
        | false => exact Evt.of fun k => rfl
        | true =>
          refine Evt.congr (fun k => if_pos rfl) ?_
          rw [Bool.true_and]
          exact ih (i + 1) (by omega) (by omega)
    · exact hend i (by omega)
theorem formed_evt (f t : Int) (l1 l2 : List SR) (hl : l1.length ≤ 1000000000) (hl2 : l2.length ≤ 1000000000) (hs : ∀ x ∈ l1 ++ l2, x.f0.size ≤ 1000000 ∧ x.f4.size ≤ 1000000) :
    Evt (fun k => Rf.beadrollref17_Formed.f k f t l1 l2) ((l1 ++ l2).all fun x => rightR (toR x)) :=
  formed_l0 f t l1 l2 hl hl2 hs l1.length 0 (Nat.zero_le _) (by omega)
theorem same_l0 (l : List SR) (hl : l.length ≤ 1000000000) : ∀ (d i : Nat), i ≤ l.length → l.length - i ≤ d → Evt (fun k => Rf.beadrollref11_Same.l0 k l l (i : Int)) true := by
  intro d
  induction d with
  | zero =>
    intro i hi hd
    refine Evt.one fun k => ?_
    simp only [Rf.beadrollref11_Same.l0]
    rw [if_neg (by omega)]
  | succ d ih =>
    intro i hi hd
    by_cases hlt : i < l.length
    · refine Evt.succ (fun k => ?_) (ih (i + 1) (by omega) (by omega))
      simp only [Rf.beadrollref11_Same.l0]
      rw [if_pos (by omega), if_pos (by omega), if_pos (by omega), if_neg (by simp), w64_succ i (by omega)]
    · refine Evt.one fun k => ?_
      simp only [Rf.beadrollref11_Same.l0]
      rw [if_neg (by omega)]
theorem same_evt (l : List SR) (hl : l.length ≤ 1000000000) : Evt (fun k => Rf.beadrollref11_Same.f k l l) true := by
  refine Evt.congr (fun k => ?_) (same_l0 l hl l.length 0 (Nat.zero_le _) (by omega))
  unfold Rf.beadrollref11_Same.f
  rw [if_pos rfl]
  rfl
theorem sameE_evt (f t : Int) (l1 l2 : List SR) (hl : l1.length ≤ 1000000000) (hl2 : l2.length ≤ 1000000000) : Evt (fun k => Rf.beadrollref17_Same.f k f t l1 l2 f t l1 l2) true := by
  refine Evt.congr (h := fun k => (Rf.beadrollref11_Same.f k l1 l1).bind fun a => if a = true then (Rf.beadrollref11_Same.f k l2 l2).bind fun b => some b else some false) (fun k => ?_) (Evt.bind (same_evt l1 hl) ?_)
  · unfold Rf.beadrollref17_Same.f
    rw [if_pos rfl, if_pos rfl]
  · refine Evt.congr (fun k => if_pos rfl) (Evt.bind (same_evt l2 hl2) (Evt.of fun k => rfl))
end Go.Proofs.Ytajdlgbhofdafaa
