/- Plain laws of names. -/
import Derived.Test.YtajdlgbhofdafaaPackRead
namespace Go.Proofs.Ytajdlgbhofdafaa

theorem labelsB_fuel : ∀ (f g : Nat) (n : ByteArray), n.size ≤ f → n.size ≤ g → labelsB f n = labelsB g n := by
  intro f
  induction f with
  | zero =>
    intro g n h _
    have := size0 (show n.size = 0 by omega)
    subst this
    cases g with
    | zero => rfl
    | succ g =>
      have : cutB 1 ⟨#[]⟩ = none := by decide
      rw [labelsB, labelsB, this]
      split <;> rfl
  | succ f ih =>
    intro g n h hg
    cases g with
    | zero =>
      have := size0 (show n.size = 0 by omega)
      subst this
      have : cutB 1 ⟨#[]⟩ = none := by decide
      rw [labelsB, labelsB, this]
      split <;> rfl
    | succ g =>
      by_cases hr : n = ⟨#[0]⟩
      · rw [labelsB, labelsB, if_pos hr, if_pos hr]
      · cases hc : cutB 1 n with
        | none => rw [labelsB, labelsB, if_neg hr, if_neg hr, hc]
        | some p =>
          obtain ⟨s, t⟩ := p
          have := cutB_size hc
          by_cases hb : s.size = 0 ∨ 63 < s.size
          · rw [labelsB_bad hr hc hb, labelsB_bad hr hc hb]
          · rw [labelsB_on hr hc hb, labelsB_on hr hc hb, ih g t (by omega) (by omega)]
theorem root_right : rightB ⟨#[0]⟩ = true := by
  unfold rightB
  have h1 : labelsB (⟨#[0]⟩ : ByteArray).size ⟨#[0]⟩ = [] := by
    show labelsB 1 ⟨#[0]⟩ = []
    rw [labelsB, if_pos rfl]
  rw [h1]
  simp only [Bool.and_eq_true, decide_eq_true_eq, beq_iff_eq]
  refine ⟨by decide, ?_⟩
  rw [ByteArray.toList_eq]
  rfl
theorem endOf_cons (b : ByteArray) (x : ByteArray × ByteArray) (l : List (ByteArray × ByteArray)) : endOf b (x :: l) = endOf x.2 l := by
  cases l with
  | nil => rfl
  | cons y l => simp [endOf]; rfl
/-- A right name is the root, or a label and a right name. -/
theorem right_cases {n : ByteArray} (h : rightB n = true) : n = ⟨#[0]⟩ ∨ (¬ n = ⟨#[0]⟩ ∧ ∃ s t, cutB 1 n = some (s, t) ∧ s.size ≠ 0 ∧ s.size ≤ 63 ∧ rightB t = true ∧ parentB n = (t, true) ∧ n.size = 1 + s.size + t.size ∧ n.size ≤ 255 ∧ n = n.extract 0 (n.size - t.size) ++ t) := by
  by_cases hr : n = ⟨#[0]⟩
  · exact .inl hr
  refine .inr ⟨hr, ?_⟩
  have h0 := h
  unfold rightB at h
  simp only [Bool.and_eq_true, decide_eq_true_eq, beq_iff_eq] at h
  obtain ⟨h1, h2⟩ := h
  have hn : ∀ e : ByteArray, e.toList = [0] → e = ⟨#[0]⟩ := by
    intro e he
    rw [ByteArray.toList_eq] at he
    exact ByteArray.ext (Array.ext' he)
  have hnil : labelsB n.size n ≠ [] := by
    intro he
    rw [he] at h2
    exact hr (hn _ h2)
  cases hsz : n.size with
  | zero => exact absurd (by rw [hsz]; rfl) hnil
  | succ f =>
    rw [hsz] at h2 hnil
    cases hc : cutB 1 n with
    | none => exact absurd (by rw [labelsB, if_neg hr, hc]) hnil
    | some p =>
      obtain ⟨s, t⟩ := p
      have hcs := cutB_size hc
      by_cases hb : s.size = 0 ∨ 63 < s.size
      · exact absurd (labelsB_bad hr hc hb) hnil
      · have hl := labelsB_on (f := f) hr hc hb
        rw [hl, endOf_cons] at h2
        refine ⟨s, t, rfl, by omega, by omega, ?_, ?_, by omega, by omega, ?_⟩
        · unfold rightB
          rw [labelsB_fuel t.size f t (Nat.le_refl _) (by omega)]
          simp only [Bool.and_eq_true, decide_eq_true_eq, beq_iff_eq]
          exact ⟨by omega, h2⟩
        · unfold parentB
          rw [h0, hsz, hl]
          rfl
        · rcases cutB_spec 1 n with ⟨h1', s1, t1, hb1, hh, hs, he⟩ | ⟨hlt, he⟩ | ⟨h1', t1, hb1, hh, hs, he⟩
          · rw [hc] at he
            injection he with he
            injection he with e1 e2
            subst e1 e2
            have hsz2 : n.size = (h1' ++ s).size + t.size := by rw [hb1]; simp only [size_app]; omega
            have : n = (h1' ++ s) ++ t := by rw [hb1, ByteArray.append_assoc]
            conv => lhs; rw [this]
            congr 1
            rw [← hsz, hsz2, Nat.add_sub_cancel]
            conv => rhs; rw [this]
            exact (ext_left _ _).symm
          · rw [hc] at he; cases he
          · rw [hc] at he; cases he
end Go.Proofs.Ytajdlgbhofdafaa
