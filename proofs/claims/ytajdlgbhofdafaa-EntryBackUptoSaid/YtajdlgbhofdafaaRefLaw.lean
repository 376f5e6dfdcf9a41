/- Plain laws: what the document's functions (names, reading of names) come to. Plain laws: what the document's reading of names and of pieces comes to. Plain laws: what the document's pieces and data come to. Plain laws: what the document's data and records come to. -/
import Derived.Test.YtajdlgbhofdafaaRefC
import Derived.Lib.Hide
import Derived.Test.YtajdlgbhofdafaaPureB
namespace Go.Proofs.Ytajdlgbhofdafaa
open Go.RowKit Go.Proofs.YtajdlgbhofdafaaW.PrintWords Go.Proofs.YtajdlgbhofdafaaW.PrintLast Go.Proofs.YtajdlgbhofdafaaW.PrintMore

/-- With rounds enough, r is told. -/
def Evt {α : Type} (g : Nat → Option α) (r : α) : Prop := ∃ K, ∀ k, K ≤ k → g k = some r
namespace Evt
variable {α β : Type} {g h : Nat → Option α} {r : α}
theorem of (hg : ∀ k, g k = some r) : Evt g r := ⟨0, fun k _ => hg k⟩
theorem succ (hg : ∀ k, g (k + 1) = h k) (he : Evt h r) : Evt g r := by
  obtain ⟨K, hK⟩ := he
  refine ⟨K + 1, fun k hk => ?_⟩
  obtain ⟨j, rfl⟩ : ∃ j, k = j + 1 := ⟨k - 1, by omega⟩
  rw [hg]
  exact hK j (by omega)
theorem one (hg : ∀ k, g (k + 1) = some r) : Evt g r := succ hg (of (fun _ => rfl))
theorem congr (hg : ∀ k, g k = h k) (he : Evt h r) : Evt g r := by
  obtain ⟨K, hK⟩ := he
  exact ⟨K, fun k hk => (hg k).trans (hK k hk)⟩
theorem bind {f : Nat → α → Option β} {s : β} (hg : Evt g r) (hf : Evt (fun k => f k r) s) : Evt (fun k => (g k).bind (f k)) s := by
  obtain ⟨K, hK⟩ := hg
  obtain ⟨L, hL⟩ := hf
  refine ⟨max K L, fun k hk => ?_⟩
  dsimp only
  rw [hK k (by omega), Option.bind_some]
  exact hL k (by omega)
theorem ex (he : Evt g r) : ∃ k, g k = some r := by
  obtain ⟨K, hK⟩ := he
  exact ⟨K, hK K (Nat.le_refl _)⟩
theorem both {g2 : Nat → Option β} {s : β} (h1 : Evt g r) (h2 : Evt g2 s) : ∃ k, g k = some r ∧ g2 k = some s := by
  obtain ⟨K, hK⟩ := h1
  obtain ⟨L, hL⟩ := h2
  exact ⟨max K L, hK _ (by omega), hL _ (by omega)⟩
end Evt

theorem bt_list (s : ByteArray) (i : Nat) (c : UInt8) (l : List UInt8) (h : s.data.toList.drop i = c :: l) : bt s (i : Int) = (c.toNat : Int) := by
  have hlt : i < s.size := by
    refine Nat.lt_of_not_le fun hle => ?_
    rw [List.drop_eq_nil_of_le (by rw [data_len]; exact hle)] at h
    cases h
  have h2 : s.data.toList[i]? = some c := by
    have : (s.data.toList.drop i)[0]? = some c := by rw [h]; rfl
    rw [List.getElem?_drop] at this
    simpa using this
  unfold bt
  rw [Int.toNat_natCast, dif_pos hlt]
  have h3 : s[i] = c := by
    have h4 : s.data.toList[i]'(by rw [data_len]; exact hlt) = c := (List.getElem?_eq_some_iff.1 h2).2
    exact h4
  rw [h3]
theorem drop_next {s : ByteArray} {i : Nat} {c : UInt8} {l : List UInt8} (h : s.data.toList.drop i = c :: l) (n : Nat) : s.data.toList.drop (i + 1 + n) = l.drop n := by
  have : s.data.toList.drop (i + 1 + n) = (s.data.toList.drop i).drop (1 + n) := by rw [List.drop_drop]; congr 1; omega
  rw [this, h, Nat.add_comm 1 n, List.drop_succ_cons]
theorem drop_len (s : ByteArray) (i : Nat) : (s.data.toList.drop i).length = s.size - i := by rw [List.length_drop, data_len]

/-! ### Names -/
/-- Do bytes end as a name does? -/
def endsB (m : ByteArray) : Bool := (endOf m (labelsB m.size m)).toList == [0]
theorem endsB_root {m : ByteArray} (h : m.data.toList = [0]) : endsB m = true := by
  have : m = ⟨#[0]⟩ := ba_ext h
  subst this
  have := root_right
  unfold rightB at this
  simp only [Bool.and_eq_true] at this
  exact this.2
theorem endsB_none {m : ByteArray} (hm : ¬ m = ⟨#[0]⟩) (h : cutB 1 m = none ∨ ∃ s t, cutB 1 m = some (s, t) ∧ (s.size = 0 ∨ 63 < s.size)) : endsB m = false := by
  have hl : labelsB m.size m = [] := by
    cases hs : m.size with
    | zero => rfl
    | succ f =>
      rcases h with h | ⟨s, t, h, hb⟩
      · rw [labelsB, if_neg hm, h]
      · exact labelsB_bad hm h hb
  unfold endsB
  rw [hl]
  show (m.toList == [0]) = false
  rw [beq_eq_false_iff_ne, ByteArray.toList_eq]
  exact fun h => hm (ba_ext h)
theorem endsB_step {m s t : ByteArray} (hm : ¬ m = ⟨#[0]⟩) (h : cutB 1 m = some (s, t)) (hb : ¬ (s.size = 0 ∨ 63 < s.size)) : endsB m = endsB t := by
  have hsz := cutB_size h
  unfold endsB
  cases hs : m.size with
  | zero => omega
  | succ f =>
    rw [labelsB_on hm h hb, endOf_cons, labelsB_fuel f t.size t (by omega) (Nat.le_refl _)]
theorem w64_nat (n : Nat) (h : n ≤ 4611686018427387904) : wrap64 (n : Int) = (n : Int) := w64_in _ (by omega)

set_option maxHeartbeats 1000000 in
theorem labels_evt (n : ByteArray) (hn : n.size ≤ 255) : ∀ (d i : Nat) (x : List ByteArray), i ≤ n.size → n.size - i ≤ d → x.length ≤ i →
    ∃ y, Evt (fun k => Rf.beadrollref07_Labels.l0 k n x (i : Int)) (y, endsB (n.extract i n.size)) := by
  intro d
  induction d using Nat.strongRecOn with
  | _ d ih =>
  intro i x hi hd hx
  have ht := data_tail n i
  have hln := drop_len n i
  cases hl : n.data.toList.drop i with
  | nil =>
    rw [hl] at ht hln
    have hin : i = n.size := by simp at hln; omega
    have he : endsB (n.extract i n.size) = false := endsB_none (fun e => by rw [e] at ht; cases ht) (.inl (cutB_nil1 ht))
    rw [he]
    refine ⟨x, Evt.succ (h := fun k => Rf.beadrollref07_Labels.j1 k n x (i : Int) false) (fun k => ?_) (Evt.one fun k => ?_)⟩
    · simp only [Rf.beadrollref07_Labels.l0]
      rw [if_neg (by omega)]
    · simp only [Rf.beadrollref07_Labels.j1]
      rw [if_neg (by simp), w64_in ((n.size : Int) - 1) (by omega), if_neg (by omega)]
  | cons c l =>
    rw [hl] at ht hln
    simp only [List.length_cons] at hln
    have hlt : i < n.size := by omega
    have hb := bt_list n i c l hl
    have hc := c.toNat_lt
    have hcut := cutB_list ht
    have HW1 : Hid (wrap64 ((i : Int) + 1) = ((i + 1 : Nat) : Int)) := Lib.hid (by rw [w64_in _ (by omega)]; omega)
    have HWC : Hid (wrap64 (c.toNat : Int) = (c.toNat : Int)) := Lib.hid (w64_nat _ (by omega))
    by_cases h0 : c.toNat = 0
    · have hc0 : c = 0 := UInt8.toNat_inj.1 (by rw [h0]; rfl)
      have hres : ∃ r, endsB (n.extract i n.size) = r ∧ Evt (fun k => Rf.beadrollref07_Labels.j1 k n x (i : Int) false) (x, r) := by
        by_cases hlast : l = []
        · subst hlast
          refine ⟨true, endsB_root (by rw [ht, hc0]), Evt.one fun k => ?_⟩
          simp only [Rf.beadrollref07_Labels.j1]
          rw [if_neg (by simp), w64_in ((n.size : Int) - 1) (by omega), if_pos (by simp at hln; omega), if_pos (by omega), if_pos (by omega), hb, h0]
          rfl
        · refine ⟨false, endsB_none (fun e => ?_) (.inr ⟨⟨(l.take c.toNat).toArray⟩, ⟨(l.drop c.toNat).toArray⟩, by rw [hcut, if_neg (by omega)], .inl ?_⟩), Evt.one fun k => ?_⟩
          · rw [e, hc0] at ht
            injection ht with _ ht
            exact hlast ht.symm
          · rw [size_mk, h0]; rfl
          · have : l.length ≠ 0 := fun h => hlast (List.eq_nil_of_length_eq_zero h)
            simp only [Rf.beadrollref07_Labels.j1]
            rw [if_neg (by simp), w64_in ((n.size : Int) - 1) (by omega), if_neg (by omega)]
      obtain ⟨r, hr, hE⟩ := hres
      rw [hr]
      refine ⟨x, Evt.succ (h := fun k => Rf.beadrollref07_Labels.j1 k n x (i : Int) false) (fun k => ?_) hE⟩
      simp only [Rf.beadrollref07_Labels.l0]
      rw [if_pos (by omega), if_pos (by omega), hb, h0]
      rfl
    · have hne : ¬ n.extract i n.size = ⟨#[0]⟩ := fun e => by
        rw [e] at ht
        injection ht with ht _
        rw [← ht] at h0
        exact h0 rfl
      have hj : ∀ {y}, Evt (fun k => Rf.beadrollref07_Labels.j1 k n x (i : Int) true) y → Evt (fun k => Rf.beadrollref07_Labels.l0 k n x (i : Int)) y := fun {y} hy => by
        refine Evt.succ (h := fun k => Rf.beadrollref07_Labels.j1 k n x (i : Int) true) (fun k => ?_) hy
        simp only [Rf.beadrollref07_Labels.l0]
        rw [if_pos (by omega), if_pos (by omega), hb, decide_eq_true (by omega : (c.toNat : Int) > 0)]
      by_cases h63 : 63 < c.toNat
      · have he : endsB (n.extract i n.size) = false := by
          by_cases hsh : l.length < c.toNat
          · exact endsB_none hne (.inl (by rw [hcut, if_pos hsh]))
          · have hcs : cutB 1 (n.extract i n.size) = some (⟨(l.take c.toNat).toArray⟩, ⟨(l.drop c.toNat).toArray⟩) := by rw [hcut, if_neg hsh]
            have hsz : (ByteArray.mk (l.take c.toNat).toArray).size = c.toNat := by rw [size_mk, List.length_take, Nat.min_eq_left (by omega)]
            exact endsB_none hne (.inr ⟨_, _, hcs, .inr (by rw [hsz]; exact h63)⟩)
        rw [he]
        refine ⟨[], hj (Evt.one fun k => ?_)⟩
        simp only [Rf.beadrollref07_Labels.j1]
        rw [if_pos trivial, if_pos (by omega), if_pos (by omega), hb, HWC.out, if_pos (by omega)]
      · have HW2 : Hid (wrap64 (((i + 1 : Nat) : Int) + (c.toNat : Int)) = ((i + 1 + c.toNat : Nat) : Int)) := Lib.hid (by rw [w64_in _ (by omega)]; omega)
        by_cases hsh : l.length < c.toNat
        · rw [endsB_none hne (.inl (by rw [hcut, if_pos hsh]))]
          refine ⟨[], hj (Evt.one fun k => ?_)⟩
          simp only [Rf.beadrollref07_Labels.j1]
          rw [if_pos trivial, if_pos (by omega), if_pos (by omega), hb, HWC.out, if_neg (by omega), HW1.out, HW2.out, if_pos (by omega)]
        · have hcs : cutB 1 (n.extract i n.size) = some (⟨(l.take c.toNat).toArray⟩, ⟨(l.drop c.toNat).toArray⟩) := by rw [hcut, if_neg hsh]
          have hst := endsB_step hne hcs (by rw [size_mk, List.length_take]; omega)
          have htl : (⟨(l.drop c.toNat).toArray⟩ : ByteArray) = n.extract (i + 1 + c.toNat) n.size := ba_ext (by rw [data_mk, data_tail, drop_next hl])
          rw [hst, htl]
          obtain ⟨y, hy⟩ := ih (n.size - (i + 1 + c.toNat)) (by omega) (i + 1 + c.toNat) (x ++ [n.extract (i + 1) (i + 1 + c.toNat)]) (by omega) (Nat.le_refl _) (by rw [List.length_append, List.length_singleton]; omega)
          have HW3 : Hid (wrap64 ((i : Int) + wrap64 (1 + (c.toNat : Int))) = ((i + 1 + c.toNat : Nat) : Int)) := Lib.hid (by rw [w64_in (1 + (c.toNat : Int)) (by omega), w64_in _ (by omega)]; omega)
          refine ⟨y, hj (Evt.succ (fun k => ?_) hy)⟩
          simp only [Rf.beadrollref07_Labels.j1]
          rw [if_pos trivial, if_pos (by omega), if_pos (by omega), hb, HWC.out, if_neg (by omega), HW1.out, HW2.out, if_neg (by omega), if_pos (by omega), if_pos (by omega), if_pos (by omega), if_pos (by omega), HW3.out, Int.toNat_natCast, Int.toNat_natCast]
/-- The document's names are the program's. -/
theorem ref_right (n : ByteArray) (hn : n.size ≤ 4611686018427387904) : Evt (fun k => Rf.beadrollref07_Right.f k n) (rightB n) := by
  have hrb : rightB n = (decide (n.size ≤ 255) && endsB n) := rfl
  by_cases h : n.size ≤ 255
  · obtain ⟨y, hy⟩ := labels_evt n h n.size 0 [] (Nat.zero_le _) (by omega) (by simp)
    rw [extract_all] at hy
    rw [hrb, decide_eq_true h, Bool.true_and]
    refine Evt.bind (g := fun k => Rf.beadrollref07_Labels.f k n) (f := fun k bt170 => some bt170.2) (Evt.congr (fun k => ?_) hy) (Evt.of fun k => rfl)
    unfold Rf.beadrollref07_Labels.f
    rw [if_neg (by omega)]
    rfl
  · rw [hrb, decide_eq_false h, Bool.false_and]
    refine Evt.of fun k => ?_
    unfold Rf.beadrollref07_Right.f Rf.beadrollref07_Labels.f
    rw [if_pos (by omega)]
    rfl
end Go.Proofs.Ytajdlgbhofdafaa
namespace Go.Proofs.Ytajdlgbhofdafaa
open Go.RowKit Go.Proofs.YtajdlgbhofdafaaW.PrintWords Go.Proofs.YtajdlgbhofdafaaW.PrintLast Go.Proofs.YtajdlgbhofdafaaW.PrintMore

/-- What the document's reading of a name answers. -/
def refEnd : Option (ByteArray × Int) → ByteArray × Int × Int
  | some (n, q) => (n, q, 0)
  | none => (⟨#[]⟩, 0, 2)
theorem readEnd_long {n : ByteArray} {a : Int} {b : Nat} (h : 255 < n.size) : readEnd (n, a, b) = none := by
  have : rightB n = false := by
    cases hr : rightB n with
    | false => rfl
    | true => have := right255 hr; omega
  unfold readEnd
  rw [this]
  rfl
theorem right_long {n : ByteArray} (h : 255 < n.size) : rightB n = false := by
  cases hr : rightB n with
  | false => rfl
  | true => have := right255 hr; omega

/-- One round of the document's reading. -/
theorem ref_round (msg n : ByteArray) (next : Int) (fr i : Nat) (hi : i ≤ msg.size) (hm : msg.size ≤ 1000000000) (hn : n.size ≤ 1000) (hx : -1 ≤ next ∧ next ≤ msg.size) (res : ByteArray × Int × Int)
    (h300 : 300 ≤ n.size → res = (⟨#[]⟩, 0, 2))
    (hend : i = msg.size → res = (⟨#[]⟩, 0, 2))
    (h0 : ∀ l, msg.data.toList.drop i = 0 :: l → n.size < 300 → res = refEnd (readEnd (n ++ ⟨#[0]⟩, next, i + 1)))
    (hlow : ∀ c l, msg.data.toList.drop i = c :: l → n.size < 300 → 0 < c.toNat → c.toNat ≤ 63 → (l.length < c.toNat → res = (⟨#[]⟩, 0, 2)) ∧ (c.toNat ≤ l.length → Evt (fun k => Rf.beadrollref09_Read.l0 k msg ((i + 1 + c.toNat : Nat) : Int) (n ++ msg.extract i (i + 1 + c.toNat)) next (fr : Int)) res))
    (hmid : ∀ c l, msg.data.toList.drop i = c :: l → 63 < c.toNat → c.toNat < 192 → res = (⟨#[]⟩, 0, 2))
    (hone : ∀ c, msg.data.toList.drop i = [c] → 192 ≤ c.toNat → res = (⟨#[]⟩, 0, 2))
    (hptr : ∀ c d l, msg.data.toList.drop i = c :: d :: l → n.size < 300 → 192 ≤ c.toNat → (fr ≤ (c.toNat - 192) * 256 + d.toNat → res = (⟨#[]⟩, 0, 2)) ∧ ((c.toNat - 192) * 256 + d.toNat < fr → Evt (fun k => Rf.beadrollref09_Read.l0 k msg (((c.toNat - 192) * 256 + d.toNat : Nat) : Int) n (if next < 0 then ((i + 2 : Nat) : Int) else next) (((c.toNat - 192) * 256 + d.toNat : Nat) : Int)) res)) :
    Evt (fun k => Rf.beadrollref09_Read.l0 k msg (i : Int) n next (fr : Int)) res := by
  have hln := drop_len msg i
  have hjf : res = (⟨#[]⟩, 0, 2) → Evt (fun k => Rf.beadrollref09_Read.j2 k msg (i : Int) n next (fr : Int) false) res := fun h => by
    rw [h]
    refine Evt.one fun k => ?_
    simp only [Rf.beadrollref09_Read.j2]
    rw [if_neg (by simp)]
  by_cases hin : i = msg.size
  · refine Evt.succ (h := fun k => Rf.beadrollref09_Read.j2 k msg (i : Int) n next (fr : Int) false) (fun k => ?_) (hjf (hend hin))
    simp only [Rf.beadrollref09_Read.l0]
    rw [if_neg (by omega)]
  by_cases hbig : 300 ≤ n.size
  · refine Evt.succ (h := fun k => Rf.beadrollref09_Read.j2 k msg (i : Int) n next (fr : Int) false) (fun k => ?_) (hjf (h300 hbig))
    simp only [Rf.beadrollref09_Read.l0]
    rw [if_pos (by omega), decide_eq_false (by omega)]
  have hn3 : n.size < 300 := by omega
  refine Evt.succ (h := fun k => Rf.beadrollref09_Read.j2 k msg (i : Int) n next (fr : Int) true) (fun k => ?_) ?_
  · simp only [Rf.beadrollref09_Read.l0]
    rw [if_pos (by omega), decide_eq_true (by omega)]
  cases hl : msg.data.toList.drop i with
  | nil => rw [hl] at hln; simp at hln; omega
  | cons c l =>
    rw [hl] at hln
    simp only [List.length_cons] at hln
    have hb := bt_list msg i c l hl
    have hc := c.toNat_lt
    have HW1 : Hid (wrap64 ((i : Int) + 1) = ((i + 1 : Nat) : Int)) := Lib.hid (by rw [w64_in _ (by omega)]; omega)
    have HWC : Hid (wrap64 (c.toNat : Int) = (c.toNat : Int)) := Lib.hid (w64_nat _ (by omega))
    by_cases hc0 : c.toNat = 0
    · have hcz : c = 0 := UInt8.toNat_inj.1 (by rw [hc0]; rfl)
      subst hcz
      have hR := ref_right (n ++ ⟨#[0]⟩) (by rw [size_app, show (⟨#[0]⟩ : ByteArray).size = 1 from rfl]; omega)
      rw [h0 l hl hn3]
      unfold readEnd
      dsimp only
      refine Evt.succ (h := fun k => (Rf.beadrollref07_Right.f k (n ++ ⟨#[0]⟩)).bind fun t => if t = true then some (n ++ ⟨#[0]⟩, if next < 0 then ((i + 1 : Nat) : Int) else next, 0) else some ((⟨#[]⟩ : ByteArray), 0, 2)) (fun k => ?_) (Evt.bind hR ?_)
      · simp only [Rf.beadrollref09_Read.j2]
        rw [if_pos trivial, if_pos (by omega), if_pos (by omega), hb, HWC.out, if_pos (by omega), if_pos (by omega), HW1.out]
        by_cases hx0 : next < 0
        · rw [if_pos hx0, if_pos hx0]
        · rw [if_neg hx0, if_neg hx0]
      · cases rightB (n ++ ⟨#[0]⟩) with
        | true => exact Evt.of fun k => rfl
        | false => exact Evt.of fun k => rfl
    · by_cases h192 : 192 ≤ c.toNat
      · cases l with
        | nil =>
          rw [hone c hl h192]
          refine Evt.one fun k => ?_
          simp only [Rf.beadrollref09_Read.j2]
          rw [if_pos trivial, if_pos (by omega), if_pos (by omega), hb, HWC.out, if_neg (by omega), if_pos (by omega), HW1.out, if_pos (by simp at hln; omega)]
        | cons d l =>
          simp only [List.length_cons] at hln
          obtain ⟨hp1, hp2⟩ := hptr c d l hl hn3 h192
          have hb2 : bt msg ((i + 1 : Nat) : Int) = (d.toNat : Int) := bt_list msg (i + 1) d l (by have := drop_next hl 0; simpa using this)
          have hdl := d.toNat_lt
          have HWD : Hid (wrap64 (d.toNat : Int) = (d.toNat : Int)) := Lib.hid (w64_nat _ (by omega))
          have HWP : Hid (wrap64 (wrap64 (wrap64 ((c.toNat : Int) - 192) * 256) + (d.toNat : Int)) = (((c.toNat - 192) * 256 + d.toNat : Nat) : Int)) := Lib.hid (by
            rw [w64_in ((c.toNat : Int) - 192) (by omega), w64_in (((c.toNat : Int) - 192) * 256) (by omega), w64_in _ (by omega)]; omega)
          have HW2 : Hid (wrap64 ((i : Int) + 2) = ((i + 2 : Nat) : Int)) := Lib.hid (by rw [w64_in _ (by omega)]; omega)
          generalize hP : (c.toNat - 192) * 256 + d.toNat = p at *
          by_cases hfp : fr ≤ p
          · rw [hp1 hfp]
            refine Evt.one fun k => ?_
            simp only [Rf.beadrollref09_Read.j2]
            rw [if_pos trivial, if_pos (by omega), if_pos (by omega), hb, HWC.out, if_neg (by omega), if_pos (by omega), HW1.out, if_neg (by omega), if_pos (by omega), if_pos (by omega), hb2, HWD.out, HWP.out, if_pos (by omega)]
          · refine Evt.succ (fun k => ?_) (hp2 (by omega))
            simp only [Rf.beadrollref09_Read.j2]
            rw [if_pos trivial, if_pos (by omega), if_pos (by omega), hb, HWC.out, if_neg (by omega), if_pos (by omega), HW1.out, if_neg (by omega), if_pos (by omega), if_pos (by omega), hb2, HWD.out, HWP.out, if_neg (by omega), HW2.out]
            by_cases hx0 : next < 0
            · rw [if_pos hx0, if_pos hx0]
            · rw [if_neg hx0, if_neg hx0]
      · by_cases h63 : 63 < c.toNat
        · rw [hmid c l hl h63 (by omega)]
          refine Evt.one fun k => ?_
          simp only [Rf.beadrollref09_Read.j2]
          rw [if_pos trivial, if_pos (by omega), if_pos (by omega), hb, HWC.out, if_neg (by omega), if_neg (by omega), if_pos (by omega)]
        · obtain ⟨hl1, hl2⟩ := hlow c l hl hn3 (by omega) (by omega)
          have HW3 : Hid (wrap64 (((i + 1 : Nat) : Int) + (c.toNat : Int)) = ((i + 1 + c.toNat : Nat) : Int)) := Lib.hid (by rw [w64_in _ (by omega)]; omega)
          by_cases hsh : l.length < c.toNat
          · rw [hl1 hsh]
            refine Evt.one fun k => ?_
            simp only [Rf.beadrollref09_Read.j2]
            rw [if_pos trivial, if_pos (by omega), if_pos (by omega), hb, HWC.out, if_neg (by omega), if_neg (by omega), if_neg (by omega), HW1.out, HW3.out, if_pos (by omega)]
          · have HW4 : Hid (wrap64 ((i : Int) + wrap64 (1 + (c.toNat : Int))) = ((i + 1 + c.toNat : Nat) : Int)) := Lib.hid (by rw [w64_in (1 + (c.toNat : Int)) (by omega), w64_in _ (by omega)]; omega)
            have hez := size_ext msg (i := i) (j := i + 1 + c.toNat) (by omega)
            refine Evt.succ (fun k => ?_) (hl2 (by omega))
            simp only [Rf.beadrollref09_Read.j2]
            rw [if_pos trivial, if_pos (by omega), if_pos (by omega), hb, HWC.out, if_neg (by omega), if_neg (by omega), if_neg (by omega), HW1.out, HW3.out, if_neg (by omega), if_pos (by omega), if_pos (by omega), Int.toNat_natCast, Int.toNat_natCast, if_pos (by omega), HW4.out]
/-- Too long a name is none. -/
theorem ref_long (msg : ByteArray) (hm : msg.size ≤ 1000000000) : ∀ (d : Nat) (n : ByteArray) (next : Int) (fr i : Nat), i ≤ msg.size → 255 < n.size → n.size ≤ 400 → -1 ≤ next ∧ next ≤ msg.size → fr ≤ msg.size → 400 - n.size + fr ≤ d →
    Evt (fun k => Rf.beadrollref09_Read.l0 k msg (i : Int) n next (fr : Int)) ((⟨#[]⟩ : ByteArray), 0, 2) := by
  intro d
  induction d using Nat.strongRecOn with
  | _ d ih =>
  intro n next fr i hi hn hn4 hx hfr hd
  refine ref_round msg n next fr i hi hm (by omega) hx _ (fun _ => rfl) (fun _ => rfl) (fun l hl _ => ?_) (fun c l hl h3 h0 h63 => ⟨fun _ => rfl, fun hle => ?_⟩) (fun _ _ _ _ _ => rfl) (fun _ _ _ => rfl) (fun c d' l hl h3 h192 => ⟨fun _ => rfl, fun hlt => ?_⟩)
  · rw [readEnd_long (by rw [size_app]; omega)]
    rfl
  · have hln := drop_len msg i
    rw [hl] at hln
    simp only [List.length_cons] at hln
    have hez := size_ext msg (i := i) (j := i + 1 + c.toNat) (by omega)
    have hsz : (n ++ msg.extract i (i + 1 + c.toNat)).size = n.size + 1 + c.toNat := by rw [size_app, hez]; omega
    exact ih (400 - (n.size + 1 + c.toNat) + fr) (by omega) _ next fr _ (by omega) (by omega) (by omega) hx hfr (by omega)
  · have hln := drop_len msg i
    rw [hl] at hln
    simp only [List.length_cons] at hln
    generalize hP : (c.toNat - 192) * 256 + d'.toNat = p at *
    exact ih (400 - n.size + p) (by omega) n _ p p (by omega) hn hn4 (by split <;> omega) (by omega) (Nat.le_refl _)
set_option maxRecDepth 100000 in
theorem ref_readL (msg : ByteArray) (hm : msg.size ≤ 1000000000) : ∀ (f : Nat) (n : ByteArray) (next : Int) (fr i : Nat), i ≤ msg.size → n.size ≤ 255 → -1 ≤ next ∧ next ≤ msg.size → fr ≤ msg.size → 257 + fr ≤ f + n.size →
    Evt (fun k => Rf.beadrollref09_Read.l0 k msg (i : Int) n next (fr : Int)) (refEnd ((readL msg f n next fr i).bind readEnd)) := by
  intro f
  induction f with
  | zero => intro n next fr i hi hn hx hfr hf; omega
  | succ f ih =>
    intro n next fr i hi hn hx hfr hf
    have hln := drop_len msg i
    have hat := atB_list msg i hi
    rw [readL, if_neg (by omega), hat]
    refine ref_round msg n next fr i hi hm (by omega) hx _ (fun h => by omega) (fun h => ?_) (fun l hl _ => ?_) (fun c l hl h3 h0 h63 => ⟨fun hsh => ?_, fun hle => ?_⟩) (fun c l hl h63 h192 => ?_) (fun c hl h192 => ?_) (fun c d l hl h3 h192 => ?_)
    · rw [List.drop_eq_nil_of_le (by rw [data_len]; omega)]
      rfl
    · rw [hl]
      have h1 : atL i ((0 : UInt8) :: l) = some (⟨#[0]⟩, -1, i + 1) := by
        simp only [atL]
        rw [if_pos (by decide), if_pos (by simp)]
        simp
      rw [h1]
      simp only [readK]
      rw [if_neg (by omega), if_neg (by omega), if_pos trivial, Option.bind_some]
    · rw [hl]
      have h1 : atL i (c :: l) = none := by
        simp only [atL]
        rw [if_pos h63, if_neg (by omega)]
      rw [h1]
      rfl
    · rw [hl] at hln ⊢
      simp only [List.length_cons] at hln
      have hse : (⟨(c :: l.take c.toNat).toArray⟩ : ByteArray) = msg.extract i (i + 1 + c.toNat) := ba_ext (by
        rw [data_mk, data_extract, List.drop_take, hl, show i + 1 + c.toNat - i = c.toNat + 1 from by omega, List.take_succ_cons])
      have h1 : atL i (c :: l) = some (msg.extract i (i + 1 + c.toNat), -1, i + 1 + c.toNat) := by
        simp only [atL]
        rw [if_pos h63, if_pos hle, hse]
      have hez := size_ext msg (i := i) (j := i + 1 + c.toNat) (by omega)
      have hne : ¬ msg.extract i (i + 1 + c.toNat) = ⟨#[0]⟩ := fun e => by rw [e] at hez; rw [show (⟨#[0]⟩ : ByteArray).size = 1 from rfl] at hez; omega
      have hsz : (n ++ msg.extract i (i + 1 + c.toNat)).size = n.size + 1 + c.toNat := by rw [size_app, hez]; omega
      rw [h1]
      simp only [readK]
      rw [if_neg (by omega), if_neg (by omega), if_neg hne]
      by_cases hl2 : n.size + 1 + c.toNat ≤ 255
      · exact ih _ next fr _ (by omega) (by omega) hx hfr (by omega)
      · have hf1 : ∃ g, f = g + 1 := ⟨f - 1, by omega⟩
        obtain ⟨g, rfl⟩ := hf1
        rw [readL, if_pos (by omega), Option.bind_some, readEnd_long (by omega)]
        exact ref_long msg hm _ _ next fr _ (by omega) (by omega) (by omega) hx hfr (Nat.le_refl _)
    · rw [hl]
      have h1 : atL i (c :: l) = none := by
        simp only [atL]
        rw [if_neg (by omega)]
        cases l with
        | nil => rfl
        | cons d l => dsimp only; rw [if_pos h192]
      rw [h1]
      rfl
    · rw [hl]
      have h1 : atL i [c] = none := by
        simp only [atL]
        rw [if_neg (by omega)]
      rw [h1]
      rfl
    · rw [hl] at hln ⊢
      simp only [List.length_cons] at hln
      have hp : ((c.toNat * 256 + d.toNat : Nat) : Int) - 49152 = (((c.toNat - 192) * 256 + d.toNat : Nat) : Int) := by omega
      have h1 : atL i (c :: d :: l) = some (⟨#[]⟩, (((c.toNat - 192) * 256 + d.toNat : Nat) : Int), i + 2) := by
        simp only [atL]
        rw [if_neg (by omega), if_neg (by omega), hp]
      rw [h1]
      generalize (c.toNat - 192) * 256 + d.toNat = p at *
      simp only [readK]
      refine ⟨fun hle => ?_, fun hlt => ?_⟩
      · rw [if_pos (show ((fr : Int) ≤ ((p : Nat) : Int)) by omega)]
        rfl
      · rw [if_neg (show ¬ ((fr : Int) ≤ ((p : Nat) : Int)) by omega), if_pos (show (0 : Int) ≤ ((p : Nat) : Int) by omega), Int.toNat_natCast]
        exact ih n _ p p (by omega) hn (by split <;> omega) (by omega) (by omega)
/-- The document reads names as the program does. -/
theorem ref_read (msg : ByteArray) (i : Nat) (hi : i ≤ msg.size) (hm : msg.size ≤ 1000000000) : Evt (fun k => Rf.beadrollref09_Read.f k msg (i : Int)) (refEnd (readB msg i)) := by
  have h := ref_readL msg hm (257 + i) ⟨#[]⟩ (-1) i i hi (by decide) (by omega) hi (by rw [show (⟨#[]⟩ : ByteArray).size = 0 from rfl]; omega)
  refine Evt.congr (h := fun k => Rf.beadrollref09_Read.j0 k msg (i : Int) false) (fun k => ?_) (Evt.succ (fun k => ?_) h)
  · unfold Rf.beadrollref09_Read.f
    rw [if_neg (by omega), decide_eq_false (by omega)]
  · simp only [Rf.beadrollref09_Read.j0]
    rw [if_neg (by simp)]
end Go.Proofs.Ytajdlgbhofdafaa
namespace Go.Proofs.Ytajdlgbhofdafaa
open Go.RowKit Go.Proofs.YtajdlgbhofdafaaW.PrintWords Go.Proofs.YtajdlgbhofdafaaW.PrintLast Go.Proofs.YtajdlgbhofdafaaW.PrintMore

theorem ref_number (b : ByteArray) (hb : b.size ≤ 7) : ∀ (d i : Nat) (v : Nat), i ≤ b.size → b.size - i ≤ d → v < 256 ^ i → Evt (fun k => Rf.beadrollref01_Number.l0 k b (v : Int) (i : Int)) ((((b.data.toList.drop i).foldl (fun v c => v * 256 + c.toNat) v : Nat)) : Int) := by
  intro d
  induction d with
  | zero =>
    intro i v hi hd hv
    rw [List.drop_eq_nil_of_le (by rw [data_len]; omega)]
    refine Evt.one fun k => ?_
    simp only [Rf.beadrollref01_Number.l0]
    rw [if_neg (by omega)]
    rfl
  | succ d ih =>
    intro i v hi hd hv
    have hln := drop_len b i
    cases hl : b.data.toList.drop i with
    | nil =>
      rw [hl] at hln
      refine Evt.one fun k => ?_
      simp only [Rf.beadrollref01_Number.l0]
      rw [if_neg (by simp at hln; omega)]
      rfl
    | cons c l =>
      rw [hl] at hln
      simp only [List.length_cons] at hln
      have hbt := bt_list b i c l hl
      have hc := c.toNat_lt
      have hv2 : v < 72057594037927936 := by
        refine Nat.lt_of_lt_of_le hv ?_
        rw [show (72057594037927936 : Nat) = 256 ^ 7 from by decide]
        exact Nat.pow_le_pow_right (by omega) (by omega)
      have hnext := ih (i + 1) (v * 256 + c.toNat) (by omega) (by omega) (by rw [Nat.pow_succ]; omega)
      rw [show b.data.toList.drop (i + 1) = l from by have := drop_next hl 0; simpa using this] at hnext
      rw [List.foldl_cons]
      refine Evt.succ (fun k => ?_) hnext
      simp only [Rf.beadrollref01_Number.l0]
      rw [if_pos (by omega), if_pos (by omega), hbt, u64_small ((v : Int) * 256) (by omega) (by omega), u64_small (c.toNat : Int) (by omega) (by omega), u64_small ((v : Int) * 256 + (c.toNat : Int)) (by omega) (by omega), w64_in ((i : Int) + 1) (by omega)]
      have e1 : ((v * 256 + c.toNat : Nat) : Int) = (v : Int) * 256 + (c.toNat : Int) := by omega
      have e2 : ((i + 1 : Nat) : Int) = (i : Int) + 1 := by omega
      rw [e1, e2]
theorem ref_num (b : ByteArray) (hb : b.size ≤ 7) : Evt (fun k => Rf.beadrollref01_Number.f k b) ((beN b.data.toList : Nat) : Int) := by
  have := ref_number b hb b.size 0 0 (Nat.zero_le _) (by omega) (by simp)
  exact this
/-- What the document's Cut answers. -/
def refCut : Option (ByteArray × ByteArray) → ByteArray × ByteArray × Int
  | some (s, t) => (s, t, 0)
  | none => (⟨#[]⟩, ⟨#[]⟩, 2)
theorem ref_cut (n : Nat) (hn : n = 1 ∨ n = 2 ∨ n = 4) (b : ByteArray) (hb : b.size ≤ 1000000000) : Evt (fun k => Rf.beadrollref01_Cut.f k b (n : Int)) (refCut (cutB n b)) := by
  have hw : Rf.beadrollref01_Width.f (n : Int) = some true := by rcases hn with rfl | rfl | rfl <;> rfl
  have h8 : ((n : Int) == 8) = false := by rcases hn with rfl | rfl | rfl <;> rfl
  have hn4 : 1 ≤ n ∧ n ≤ 4 := by omega
  refine Evt.congr (h := fun k => Rf.beadrollref01_Cut.j0 k b (n : Int) false) (fun k => ?_) ?_
  · unfold Rf.beadrollref01_Cut.f
    rw [hw, Option.bind_some, if_pos rfl, h8]
  by_cases hs : b.size < n
  · have : cutB n b = none := by unfold cutB; rw [if_pos hs]
    rw [this]
    refine Evt.one fun k => ?_
    simp only [Rf.beadrollref01_Cut.j0]
    rw [if_neg (by simp), if_pos (by omega)]
    rfl
  have hnum := ref_num (b.extract 0 n) (by rw [size_ext _ (by omega)]; omega)
  have hlt : beN (b.extract 0 n).data.toList < 4294967296 := by
    refine Nat.lt_of_lt_of_le (beN_lt _) ?_
    rw [show (4294967296 : Nat) = 256 ^ 4 from by decide]
    refine Nat.pow_le_pow_right (by omega) ?_
    rw [data_len, size_ext _ (by omega)]
    omega
  have hez := size_ext b (i := n) (Nat.le_refl _)
  unfold cutB
  rw [if_neg hs]
  generalize beN (b.extract 0 n).data.toList = v at *
  refine Evt.succ (h := fun k => (Rf.beadrollref01_Number.f k (b.extract 0 n)).bind fun t => if t > (b.size : Int) - (n : Int) then some ((⟨#[]⟩ : ByteArray), (⟨#[]⟩ : ByteArray), 2) else if (n : Int) ≤ wrap64 ((n : Int) + wrap64 t) then (if wrap64 ((n : Int) + wrap64 t) ≤ (b.size : Int) then (if 0 ≤ wrap64 ((n : Int) + wrap64 t) then some (b.extract n (wrap64 ((n : Int) + wrap64 t)).toNat, b.extract (wrap64 ((n : Int) + wrap64 t)).toNat b.size, 0) else none) else none) else none) (fun k => ?_) (Evt.bind hnum ?_)
  · simp only [Rf.beadrollref01_Cut.j0]
    rw [if_neg (by simp), if_neg (by omega), if_pos (by omega), if_pos (by omega), Int.toNat_natCast, w64_in ((b.size : Int) - (n : Int)) (by omega), u64_small ((b.size : Int) - (n : Int)) (by omega) (by omega)]
  · by_cases hv : (b.extract n b.size).size < v
    · rw [if_pos hv]
      refine Evt.of fun k => ?_
      rw [if_pos (by omega)]
      rfl
    · rw [if_neg hv]
      have hw1 : wrap64 ((n : Int) + wrap64 ((v : Nat) : Int)) = ((n + v : Nat) : Int) := by rw [w64_in ((v : Nat) : Int) (by omega), w64_in _ (by omega)]; omega
      have hS : b.extract n (n + v) = (b.extract n b.size).extract 0 v := ba_ext (by rw [data_extract, data_extract, data_tail, List.drop_zero, List.drop_take]; congr 1; omega)
      have hT : b.extract (n + v) b.size = (b.extract n b.size).extract v (b.extract n b.size).size := ba_ext (by rw [data_tail, data_tail, data_tail, List.drop_drop])
      refine Evt.of fun k => ?_
      rw [if_neg (by omega), hw1, if_pos (by omega), if_pos (by omega), if_pos (by omega), Int.toNat_natCast, hS, hT]
      rfl
/-- What the document's Pieces answers. -/
def refPieces : Option (List ByteArray) → List ByteArray × Int
  | some l => (l, 0)
  | none => ([], 2)
theorem ref_pieces_l0 (n : Nat) (hn : n = 1 ∨ n = 2 ∨ n = 4) : ∀ (f : Nat) (b : ByteArray) (x : List ByteArray), b.size ≤ f → x.length + f ≤ 1000000000 →
    Evt (fun k => Rf.beadrollref01_Pieces.l0 k b (n : Int) x) (refPieces ((piecesB n f b).map (x ++ ·))) := by
  intro f
  induction f with
  | zero =>
    intro b x hf _
    have h0 : b.size = 0 := by omega
    rw [piecesB, if_pos h0]
    refine Evt.one fun k => ?_
    simp only [Rf.beadrollref01_Pieces.l0]
    rw [if_neg (by omega)]
    simp [refPieces]
  | succ f ih =>
    intro b x hf hx
    by_cases h0 : b.size = 0
    · rw [piecesB, if_pos h0]
      refine Evt.one fun k => ?_
      simp only [Rf.beadrollref01_Pieces.l0]
      rw [if_neg (by omega)]
      simp [refPieces]
    · have hc := ref_cut n hn b (by omega)
      rw [piecesB, if_neg h0]
      refine Evt.succ (h := fun k => (Rf.beadrollref01_Cut.f k b (n : Int)).bind fun bt => if bt.2.2 = 0 then (if x.length < 8796093022208 then Rf.beadrollref01_Pieces.l0 k bt.2.1 (n : Int) (x ++ [bt.1]) else none) else some ([], bt.2.2)) (fun k => ?_) (Evt.bind hc ?_)
      · simp only [Rf.beadrollref01_Pieces.l0]
        rw [if_pos (by omega)]
      · cases hcb : cutB n b with
        | none => exact Evt.of fun k => rfl
        | some p =>
          obtain ⟨s, t⟩ := p
          have hsz := cutB_size hcb
          have := ih t (x ++ [s]) (by omega) (by rw [List.length_append, List.length_singleton]; omega)
          rw [Option.bind_some]
          dsimp only
          refine Evt.congr (h := fun k => Rf.beadrollref01_Pieces.l0 k t (n : Int) (x ++ [s])) (fun k => ?_) ?_
          · show (if (0 : Int) = 0 then _ else _) = _
            rw [if_pos rfl, if_pos (by omega)]
            rfl
          · have e : ((piecesB n f t).map (s :: ·)).map (x ++ ·) = (piecesB n f t).map ((x ++ [s]) ++ ·) := by
              rw [Option.map_map]
              congr 1
              funext l
              simp
            rw [e]
            exact this
theorem ref_pieces (n : Nat) (hn : n = 1 ∨ n = 2 ∨ n = 4) (b : ByteArray) (hb : b.size ≤ 100000000) : Evt (fun k => Rf.beadrollref01_Pieces.f k b (n : Int)) (refPieces (piecesB n b.size b)) := by
  have hw : Rf.beadrollref01_Width.f (n : Int) = some true := by rcases hn with rfl | rfl | rfl <;> rfl
  have h8 : ((n : Int) == 8) = false := by rcases hn with rfl | rfl | rfl <;> rfl
  have h := ref_pieces_l0 n hn b.size b [] (Nat.le_refl _) (by simp; omega)
  have e : (piecesB n b.size b).map ([] ++ ·) = piecesB n b.size b := by cases piecesB n b.size b <;> rfl
  rw [e] at h
  refine Evt.congr (h := fun k => Rf.beadrollref01_Pieces.j0 k b (n : Int) false) (fun k => ?_) (Evt.succ (fun k => ?_) h)
  · unfold Rf.beadrollref01_Pieces.f
    rw [hw, Option.bind_some, if_pos rfl, h8]
  · simp only [Rf.beadrollref01_Pieces.j0]
    rw [if_neg (by simp)]

/-! ### Data -/
/-- The document's letter for a part. -/
def codeOf (k : Int) : UInt8 := if k = -1 then 110 else if k = -2 then 117 else if k = -3 then 116 else if k = -4 then 111 else if k = 16 then 104 else UInt8.ofNat (48 + k.toNat)
theorem ref_parts (t : Int) : Evt (fun k => Rf.beadrollref10_Parts.f k t) (ByteArray.mk ((partsL t).map codeOf).toArray) := by
  have hj : ∀ b, Evt (fun k => Rf.beadrollref10_Parts.j0 k t b) (if b = true then (⟨#[110]⟩ : ByteArray) else if t = 15 then ⟨#[50, 110]⟩ else if t = 6 then ⟨#[110, 110, 52, 52, 52, 52, 52]⟩ else if t = 16 then ⟨#[116]⟩ else if t = 33 then ⟨#[50, 50, 50, 117]⟩ else ⟨#[111]⟩) := fun b => by
    refine Evt.one fun k => ?_
    simp only [Rf.beadrollref10_Parts.j0]
    repeat' split
    all_goals first | rfl | (exfalso; contradiction)
  unfold partsL
  by_cases h1 : t = 1
  · subst h1
    exact Evt.of fun k => rfl
  rw [if_neg h1]
  by_cases h28 : t = 28
  · subst h28
    exact Evt.of fun k => rfl
  rw [if_neg h28]
  have hf : ∀ b r, (t = 2 → b = true) → (t = 5 → b = true) → (t = 12 → b = true) → (b = true → t = 2 ∨ t = 5 ∨ t = 12) → Evt (fun k => Rf.beadrollref10_Parts.j0 k t b) r → Evt (fun k => Rf.beadrollref10_Parts.f k t) r := fun b r h2 h5 h12 hb he => by
    refine Evt.congr (fun k => ?_) he
    unfold Rf.beadrollref10_Parts.f
    rw [if_neg h1, if_neg h28]
    by_cases e2 : t = 2
    · rw [if_pos e2, h2 e2]; subst e2; rfl
    rw [if_neg e2]
    by_cases e5 : t = 5
    · rw [if_pos e5, h5 e5]; subst e5; rfl
    rw [if_neg e5]
    by_cases e12 : t = 12
    · rw [h12 e12]; subst e12; rfl
    · have : b = false := by
        cases b with
        | false => rfl
        | true => rcases hb rfl with h | h | h <;> contradiction
      rw [this, show (t == 12) = false from by simpa using e12]
  by_cases h2 : t = 2 ∨ t = 5 ∨ t = 12
  · rw [if_pos h2]
    refine hf true _ (fun _ => rfl) (fun _ => rfl) (fun _ => rfl) (fun _ => h2) ?_
    exact hj true
  rw [if_neg h2]
  refine hf false _ (fun h => absurd (.inl h) h2) (fun h => absurd (.inr (.inl h)) h2) (fun h => absurd (.inr (.inr h)) h2) (fun h => by cases h) ?_
  have := hj false
  rw [if_neg Bool.false_ne_true] at this
  by_cases h15 : t = 15
  · rw [if_pos h15] at this ⊢; exact this
  rw [if_neg h15] at this ⊢
  by_cases h6 : t = 6
  · rw [if_pos h6] at this ⊢; exact this
  rw [if_neg h6] at this ⊢
  by_cases h16 : t = 16
  · rw [if_pos h16] at this ⊢; exact this
  rw [if_neg h16] at this ⊢
  by_cases h33 : t = 33
  · rw [if_pos h33] at this ⊢; exact this
  rw [if_neg h33] at this ⊢
  exact this
end Go.Proofs.Ytajdlgbhofdafaa
namespace Go.Proofs.Ytajdlgbhofdafaa
open Go.RowKit Go.Proofs.YtajdlgbhofdafaaW.PrintWords Go.Proofs.YtajdlgbhofdafaaW.PrintLast Go.Proofs.YtajdlgbhofdafaaW.PrintMore

/-- A part's kind that has a letter. -/
def IsCode (k : Int) : Prop := k = -1 ∨ k = -2 ∨ k = -3 ∨ k = -4 ∨ k = 2 ∨ k = 4 ∨ k = 16
theorem partsL_codes (t : Int) : ∀ k ∈ partsL t, IsCode k := by
  unfold partsL IsCode
  intro k hk
  repeat' split at hk
  all_goals simp at hk; omega
def refRead (out : List ByteArray) (e : Nat) : List (Int × ByteArray) × Option Nat → List ByteArray × Bool
  | (l, some q) => (out ++ l.map (·.2), q == e)
  | (_, none) => ([], false)
theorem bt_at_code {p : ByteArray} {j : Nat} {k : Int} {ks : List Int} (h : p.data.toList.drop j = (k :: ks).map codeOf) : bt p (j : Int) = ((codeOf k).toNat : Int) ∧ j < p.size ∧ p.data.toList.drop (j + 1) = ks.map codeOf := by
  have hln := drop_len p j
  rw [h] at hln
  simp only [List.map_cons, List.length_cons] at hln
  refine ⟨bt_list p j _ _ h, by omega, ?_⟩
  have := drop_next h 0
  simpa using this
set_option maxHeartbeats 1000000 in
theorem ref_read_l0 (msg p : ByteArray) (e : Nat) (he : msg.size = e) (hm : e ≤ 1000000) (hp : p.size ≤ 100) : ∀ (ks : List Int) (i j : Nat) (out : List ByteArray), p.data.toList.drop j = ks.map codeOf → (∀ k ∈ ks, IsCode k) → LastOk ks → i ≤ e → out.length + ks.length ≤ 100 →
    Evt (fun k => Rf.beadrollref10_Read.l0 k msg (i : Int) (e : Int) out p (j : Int)) (refRead out e (walkL msg e ks i)) := by
  intro ks
  induction ks with
  | nil =>
    intro i j out hd _ _ hi _
    have hln := drop_len p j
    rw [hd] at hln
    refine Evt.one fun k => ?_
    simp only [Rf.beadrollref10_Read.l0]
    rw [if_neg (by simp at hln; omega), nat_beq]
    simp [refRead, walkL]
  | cons kd ks ih =>
    intro i j out hd hc hl hi ho
    obtain ⟨hb, hjp, hd1⟩ := bt_at_code hd
    have hkd := hc kd (by simp)
    rw [List.length_cons] at ho
    have hrec := fun (q : Nat) (s : ByteArray) (hq : q ≤ e) => ih q (j + 1) (out ++ [s]) hd1 (fun k hk => hc k (by simp [hk])) hl.2.2 hq (by rw [List.length_append, List.length_singleton]; omega)
    have HWJ : Hid (wrap64 ((j : Int) + 1) = ((j + 1 : Nat) : Int)) := Lib.hid (by rw [w64_in _ (by omega)]; omega)
    have hgood : ∀ (s : ByteArray) (q : Nat), partB msg i e kd = some (s, q) → refRead out e (walkL msg e (kd :: ks) i) = refRead (out ++ [s]) e (walkL msg e ks q) := fun s q h => by
      rw [walkL, h]
      dsimp only
      cases hq : walkL msg e ks q with
      | mk l o =>
        cases o with
        | none => rfl
        | some z => simp [refRead]
    have hbad : partB msg i e kd = none → refRead out e (walkL msg e (kd :: ks) i) = ([], false) := fun h => by
      rw [walkL, h]
      rfl
    have hex : msg.extract 0 e = msg := by rw [← he]; exact extract_all msg
    -- the parts behind the letter
    have hj2 : ∀ (s : ByteArray) (q : Nat), q ≤ e → Evt (fun k => Rf.beadrollref10_Read.j2 k msg (e : Int) out p (j : Int) s (q : Int) false) (refRead (out ++ [s]) e (walkL msg e ks q)) := fun s q hq => by
      refine Evt.succ (fun k => ?_) (hrec q s hq)
      simp only [Rf.beadrollref10_Read.j2]
      rw [if_neg (by simp), if_pos (by omega), HWJ.out]
    have hj2t : ∀ (s : ByteArray) (q : Int), Evt (fun k => Rf.beadrollref10_Read.j2 k msg (e : Int) out p (j : Int) s q true) ([], false) := fun s q => by
      refine Evt.one fun k => ?_
      simp only [Rf.beadrollref10_Read.j2]
      rw [if_pos trivial]
    have hread := ref_read msg i (by omega) (by omega)
    by_cases k1 : kd = -1
    · subst k1
      have hcode : ((codeOf (-1)).toNat : Int) = 110 := by decide
      rw [hcode] at hb
      refine Evt.succ (h := fun k => Rf.beadrollref10_Read.j1 k msg (i : Int) (e : Int) out p (j : Int) 110 true) (fun k => ?_) ?_
      · simp only [Rf.beadrollref10_Read.l0]
        rw [if_pos (by omega), if_pos (by omega), hb, if_pos rfl]
        rfl
      have hpart : partB msg i e (-1) = (readB msg i).map fun p => (p.1, p.2.toNat) := by unfold partB; rw [if_pos rfl, hex]
      refine Evt.succ (h := fun k => (Rf.beadrollref09_Read.f k msg (i : Int)).bind fun bt => if bt.2.2 = 0 then Rf.beadrollref10_Read.j2 k msg (e : Int) out p (j : Int) bt.1 bt.2.1 false else Rf.beadrollref10_Read.j2 k msg (e : Int) out p (j : Int) bt.1 bt.2.1 true) (fun k => ?_) (Evt.bind hread ?_)
      · simp only [Rf.beadrollref10_Read.j1]
        rw [if_pos trivial]
        congr 1
        funext bt
        by_cases hz : bt.2.2 = 0
        · rw [if_pos hz, if_pos hz, if_pos (by omega), if_pos (by omega), hb, if_neg (by decide)]
        · rw [if_neg hz, if_neg hz]
      · cases hr : readB msg i with
        | none =>
          rw [hbad (by rw [hpart, hr]; rfl)]
          exact hj2t _ _
        | some q =>
          obtain ⟨n, nx⟩ := q
          obtain ⟨hrn, nq, rfl, hn⟩ := of_readB hr
          rw [hgood n nq (by rw [hpart, hr]; rfl)]
          exact hj2 n nq (by have := hn.le; omega)
    by_cases k2 : kd = -2
    · subst k2
      have hcode : ((codeOf (-2)).toNat : Int) = 117 := by decide
      rw [hcode] at hb
      refine Evt.succ (h := fun k => Rf.beadrollref10_Read.j1 k msg (i : Int) (e : Int) out p (j : Int) 117 true) (fun k => ?_) ?_
      · simp only [Rf.beadrollref10_Read.l0]
        rw [if_pos (by omega), if_pos (by omega), hb, if_neg (by decide)]
        rfl
      have hpart : partB msg i e (-2) = (readB msg i).bind fun p => if p.1 = msg.extract i p.2.toNat then some (p.1, p.2.toNat) else none := by unfold partB; rw [if_neg (by decide), if_pos rfl, hex]
      refine Evt.succ (h := fun k => (Rf.beadrollref09_Read.f k msg (i : Int)).bind fun bt => if bt.2.2 = 0 then (if (i : Int) ≤ bt.2.1 then (if bt.2.1 ≤ (msg.size : Int) then Rf.beadrollref10_Read.j2 k msg (e : Int) out p (j : Int) bt.1 bt.2.1 (bt.1.toList != (msg.extract i bt.2.1.toNat).toList) else none) else none) else Rf.beadrollref10_Read.j2 k msg (e : Int) out p (j : Int) bt.1 bt.2.1 true) (fun k => ?_) (Evt.bind hread ?_)
      · simp only [Rf.beadrollref10_Read.j1]
        rw [if_pos trivial]
        congr 1
        funext bt
        by_cases hz : bt.2.2 = 0
        · rw [if_pos hz, if_pos hz, if_pos (by omega), if_pos (by omega), hb, if_pos rfl, if_pos (show (0 : Int) ≤ (i : Int) by omega), Int.toNat_natCast]
        · rw [if_neg hz, if_neg hz]
      · cases hr : readB msg i with
        | none =>
          rw [hbad (by rw [hpart, hr]; rfl)]
          exact hj2t _ _
        | some q =>
          obtain ⟨n, nx⟩ := q
          obtain ⟨hrn, nq, rfl, hn⟩ := of_readB hr
          have hle := hn.le
          refine Evt.congr (h := fun k => Rf.beadrollref10_Read.j2 k msg (e : Int) out p (j : Int) n (nq : Int) (n.toList != (msg.extract i nq).toList)) (fun k => ?_) ?_
          · show (if (0 : Int) = 0 then (if (i : Int) ≤ (nq : Int) then (if (nq : Int) ≤ (msg.size : Int) then _ else none) else none) else _) = _
            rw [if_pos rfl, if_pos (by omega), if_pos (by omega)]
            rfl
          · by_cases heq : n = msg.extract i nq
            · rw [hgood n nq (by rw [hpart, hr, Option.bind_some]; dsimp only; rw [Int.toNat_natCast, if_pos heq])]
              have : (n.toList != (msg.extract i nq).toList) = false := by rw [← heq]; simp
              rw [this]
              exact hj2 n nq (by omega)
            · rw [hbad (by rw [hpart, hr, Option.bind_some]; dsimp only; rw [Int.toNat_natCast, if_neg heq])]
              have : (n.toList != (msg.extract i nq).toList) = true := by
                rw [bne_iff_ne, ByteArray.toList_eq, ByteArray.toList_eq]
                exact fun h => heq (ba_ext h)
              rw [this]
              exact hj2t _ _
    -- the rest are no names
    have hj1 : ∀ (c : Int), ((codeOf kd).toNat : Int) = c → ¬ c = 110 → ¬ c = 117 → ∀ {r}, Evt (fun k => Rf.beadrollref10_Read.j1 k msg (i : Int) (e : Int) out p (j : Int) c false) r → Evt (fun k => Rf.beadrollref10_Read.l0 k msg (i : Int) (e : Int) out p (j : Int)) r := fun c hcode c1 c2 r hr => by
      refine Evt.succ (fun k => ?_) hr
      simp only [Rf.beadrollref10_Read.l0]
      rw [if_pos (by omega), if_pos (by omega), hb, hcode, if_neg c1, show (c == 117) = false from by simpa using c2]
    have hbc : ∀ c, ((codeOf kd).toNat : Int) = c → bt p (j : Int) = c := fun c h => hb.trans h
    have HWE : Hid (wrap64 ((i : Int) + wrap64 ((e : Int) - (i : Int))) = ((e : Nat) : Int)) := Lib.hid (by rw [w64_in ((e : Int) - (i : Int)) (by omega), w64_in _ (by omega)]; omega)
    by_cases k3 : kd = -3
    · subst k3
      refine hj1 116 (by decide) (by decide) (by decide) ?_
      have hpc := ref_pieces 1 (.inl rfl) (msg.extract i msg.size) (by rw [size_ext _ (Nat.le_refl _)]; omega)
      have hpart : partB msg i e (-3) = match piecesB 1 (msg.extract i e).size (msg.extract i e) with | some (_ :: _) => some (msg.extract i e, e) | _ => none := by unfold partB; rw [if_neg (by decide), if_neg (by decide), if_pos rfl]; rfl
      have hj3t : Evt (fun k => Rf.beadrollref10_Read.j3 k msg (i : Int) (e : Int) out p (j : Int) true) ([], false) := by
        refine Evt.one fun k => ?_
        simp only [Rf.beadrollref10_Read.j3]
        rw [if_pos trivial]
      refine Evt.succ (h := fun k => (Rf.beadrollref01_Pieces.f k (msg.extract i msg.size) ((1 : Nat) : Int)).bind fun bt => if bt.2 = 0 then Rf.beadrollref10_Read.j3 k msg (i : Int) (e : Int) out p (j : Int) ((bt.1.length : Int) == 0) else Rf.beadrollref10_Read.j3 k msg (i : Int) (e : Int) out p (j : Int) true) (fun k => ?_) (Evt.bind hpc ?_)
      · simp only [Rf.beadrollref10_Read.j1]
        rw [if_neg (by simp), if_pos trivial, if_pos (by omega), if_pos (by omega), Int.toNat_natCast]
        rfl
      · rw [he]
        cases hq : piecesB 1 (msg.extract i e).size (msg.extract i e) with
        | none =>
          rw [hbad (by rw [hpart, hq])]
          exact hj3t
        | some l =>
          cases l with
          | nil =>
            rw [hbad (by rw [hpart, hq])]
            exact hj3t
          | cons s l =>
            rw [hgood (msg.extract i e) e (by rw [hpart, hq])]
            refine Evt.congr (h := fun k => Rf.beadrollref10_Read.j3 k msg (i : Int) (e : Int) out p (j : Int) false) (fun k => ?_) (Evt.succ (fun k => ?_) (hrec e (msg.extract i e) (Nat.le_refl _)))
            · show (if (0 : Int) = 0 then _ else _) = _
              rw [if_pos rfl]
              have : ((((s :: l).length : Nat) : Int) == 0) = false := by rw [beq_eq_false_iff_ne]; simp; omega
              show Rf.beadrollref10_Read.j3 k msg (i : Int) (e : Int) out p (j : Int) ((((s :: l).length : Nat) : Int) == 0) = _
              rw [this]
            · simp only [Rf.beadrollref10_Read.j3]
              rw [if_neg (by simp), HWE.out, if_neg (by omega), if_pos (by omega), if_pos (by omega), if_pos (by omega), if_pos (by omega), Int.toNat_natCast, Int.toNat_natCast, HWJ.out]
    by_cases k4 : kd = -4
    · subst k4
      refine hj1 111 (by decide) (by decide) (by decide) ?_
      have hpart : partB msg i e (-4) = some (msg.extract i e, e) := by unfold partB; rw [if_neg (by decide), if_neg (by decide), if_neg (by decide), if_pos rfl]
      rw [hgood _ _ hpart]
      refine Evt.succ (fun k => ?_) (hrec e (msg.extract i e) (Nat.le_refl _))
      simp only [Rf.beadrollref10_Read.j1]
      rw [if_neg (by simp), if_neg (by decide), if_pos trivial, HWE.out, if_neg (by omega), if_pos (by omega), if_pos (by omega), if_pos (by omega), if_pos (by omega), Int.toNat_natCast, Int.toNat_natCast, HWJ.out]
    have hpart : ∀ n : Nat, kd = (n : Int) → partB msg i e kd = if (e : Int) - i < kd then none else some (msg.extract i (i + n), i + n) := fun n hn => by
      unfold partB
      rw [if_neg k1, if_neg k2, if_neg k3, if_neg k4, hn, Int.toNat_natCast]
    by_cases k16 : kd = 16
    · refine hj1 104 (by rw [k16]; decide) (by decide) (by decide) ?_
      have hp16 := hpart 16 k16
      have HW16 : Hid (wrap64 ((i : Int) + 16) = ((i + 16 : Nat) : Int)) := Lib.hid (by rw [w64_in _ (by omega)]; omega)
      by_cases hsh : e < i + 16
      · rw [hbad (by rw [hp16, if_pos (by omega)])]
        refine Evt.one fun k => ?_
        simp only [Rf.beadrollref10_Read.j1]
        rw [if_neg (by simp), if_neg (by decide), if_neg (by decide), if_pos trivial, HW16.out, if_pos (by omega)]
      · rw [hgood _ _ (by rw [hp16, if_neg (by omega)])]
        refine Evt.succ (fun k => ?_) (hrec (i + 16) (msg.extract i (i + 16)) (by omega))
        simp only [Rf.beadrollref10_Read.j1]
        rw [if_neg (by simp), if_neg (by decide), if_neg (by decide), if_pos trivial, HW16.out, if_neg (by omega), if_pos (by omega), if_pos (by omega), if_pos (by omega), if_pos (by omega), Int.toNat_natCast, Int.toNat_natCast, HWJ.out]
    · have hdig : ∃ n : Nat, kd = (n : Int) ∧ (n = 2 ∨ n = 4) := by
        unfold IsCode at hkd
        rcases hkd with h | h | h | h | h | h | h
        · contradiction
        · contradiction
        · contradiction
        · contradiction
        · exact ⟨2, h, .inl rfl⟩
        · exact ⟨4, h, .inr rfl⟩
        · contradiction
      obtain ⟨n, hn, hn24⟩ := hdig
      have hcode : ((codeOf kd).toNat : Int) = ((48 + n : Nat) : Int) := by rw [hn]; rcases hn24 with rfl | rfl <;> decide
      refine hj1 _ hcode (by omega) (by omega) ?_
      have hpn := hpart n hn
      have hbn := hbc _ hcode
      have HWN : Hid (wrap64 ((i : Int) + wrap64 (wrap64 (((48 + n : Nat) : Int)) - 48)) = ((i + n : Nat) : Int)) := Lib.hid (by
        rw [w64_in (((48 + n : Nat) : Int)) (by omega), w64_in ((((48 + n : Nat) : Int)) - 48) (by omega), w64_in _ (by omega)]; omega)
      by_cases hsh : e < i + n
      · rw [hbad (by rw [hpn, if_pos (by omega)])]
        refine Evt.one fun k => ?_
        simp only [Rf.beadrollref10_Read.j1]
        rw [if_neg (by simp), if_neg (by omega), if_neg (by omega), if_neg (by omega), if_pos (by omega), if_pos (by omega), hbn, HWN.out, if_pos (by omega)]
      · rw [hgood _ _ (by rw [hpn, if_neg (by omega)])]
        refine Evt.succ (fun k => ?_) (hrec (i + n) (msg.extract i (i + n)) (by omega))
        simp only [Rf.beadrollref10_Read.j1]
        rw [if_neg (by simp), if_neg (by omega), if_neg (by omega), if_neg (by omega), if_pos (by omega), if_pos (by omega), hbn, HWN.out, if_neg (by omega), if_pos (by omega), if_pos (by omega), if_pos (by omega), if_pos (by omega), Int.toNat_natCast, Int.toNat_natCast, HWJ.out]
end Go.Proofs.Ytajdlgbhofdafaa
