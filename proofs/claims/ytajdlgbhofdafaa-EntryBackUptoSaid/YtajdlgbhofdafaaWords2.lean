/- More words on rows of the call's own. -/
import Derived.Test.YtajdlgbhofdafaaSplit
namespace Go.Proofs.Ytajdlgbhofdafaa
open Go.RowKit Go.Shelf Go.Proofs.YtajdlgbhofdafaaW.PrintWords Go.Proofs.YtajdlgbhofdafaaW.PrintLast Go.Proofs.YtajdlgbhofdafaaW.PrintMore

/-- The cells of a row of the call's own: element j's begin at j * size. -/
theorem R_cells {α : Type} {d : Kd α} {e : Nat} {w : World} {base : Nat} {ok : Nat → Prop} {v : Value} {xs : List α} (h : d.R e w base ok v xs) (hne : xs ≠ []) (hs : 0 < d.sz) :
    ∃ g c, v = .slice (some ⟨g, 0, none⟩) xs.length c ∧ base ≤ g ∧ g < w.heap.size ∧ xs.length ≤ c ∧ ∀ j x, xs[j]? = some x → ∃ cs, d.K w x cs ∧ ∀ i u, cs[i]? = some u → w.cell? ⟨g, j * d.sz + i, none⟩ = some u := by
  obtain ⟨_, inner, hown, hlen, hrep⟩ := h
  rcases hown.2 with ⟨_, h0⟩ | ⟨g, cap, cur, rfl, hb, hg, hn, hm, hsz, htake⟩
  · exfalso
    apply hne
    exact List.eq_nil_of_length_eq_zero h0
  · refine ⟨g, cap, rfl, hb, (Array.getElem?_eq_some_iff.1 hg).1, hn, fun j x hx => ⟨_, d.K_of_M (hrep j x hx), fun i u hu => ?_⟩⟩
    refine cell_at hg ?_
    have hj : j < xs.length := (List.getElem?_eq_some_iff.1 hx).1
    have hi : i < d.sz := by
      have := (List.getElem?_eq_some_iff.1 hu).1
      simp only [List.length_take] at this
      omega
    rw [List.getElem?_take, if_pos hi, List.getElem?_drop, ← htake, List.getElem?_take] at hu
    have hlt : j * d.sz + i < xs.length * d.sz := by
      have : (j + 1) * d.sz ≤ xs.length * d.sz := Nat.mul_le_mul_right _ hj
      rw [Nat.add_mul, Nat.one_mul] at this
      omega
    rw [if_pos hlt] at hu
    simpa using hu
theorem R_ints {k : IntKind} {e : Nat} {w : World} {base : Nat} {ok : Nat → Prop} {v : Value} {xs : List Int} (h : (Kd.int k).R e w base ok v xs) (hne : xs ≠ []) :
    ∃ g c, v = .slice (some ⟨g, 0, none⟩) xs.length c ∧ base ≤ g ∧ g < w.heap.size ∧ xs.length ≤ c ∧ ∀ j x, xs[j]? = some x → w.cell? ⟨g, j, none⟩ = some (.int k x) := by
  obtain ⟨g, c, h1, h2, h3, h4, h5⟩ := R_cells h hne (show 0 < 1 by omega)
  refine ⟨g, c, h1, h2, h3, h4, fun j x hx => ?_⟩
  obtain ⟨cs, hk, hc⟩ := h5 j x hx
  have hk' : cs = [.int k x] := hk
  subst hk'
  have := hc 0 _ rfl
  rw [show (Kd.int k).sz = 1 from rfl, Nat.mul_one, Nat.add_zero] at this
  exact this
theorem R_strs {e : Nat} {w : World} {base : Nat} {ok : Nat → Prop} {v : Value} {xs : List ByteArray} (h : Kd.string.R e w base ok v xs) (hne : xs ≠ []) :
    ∃ g c, v = .slice (some ⟨g, 0, none⟩) xs.length c ∧ base ≤ g ∧ g < w.heap.size ∧ xs.length ≤ c ∧ ∀ j x, xs[j]? = some x → w.cell? ⟨g, j, none⟩ = some (.string x) := by
  obtain ⟨g, c, h1, h2, h3, h4, h5⟩ := R_cells h hne (show 0 < 1 by omega)
  refine ⟨g, c, h1, h2, h3, h4, fun j x hx => ?_⟩
  obtain ⟨cs, hk, hc⟩ := h5 j x hx
  have hk' : cs = [.string x] := hk
  subst hk'
  have := hc 0 _ rfl
  rw [show Kd.string.sz = 1 from rfl, Nat.mul_one, Nat.add_zero] at this
  exact this
end Go.Proofs.Ytajdlgbhofdafaa
