/- What an argument that holds records reads as; what the bound on the arguments' bulk gives. -/
import Derived.Test.YtajdlgbhofdafaaConcat
import Derived.Test.YtajdlgbhofdafaaRows
import Derived.Deep.Slices
import Derived.Lib.SmallJoins
import Derived.ProofKit
import Derived.OpenShut
import Derived.JoinedCond
import Derived.Deep.CondSized
import Derived.ShutString
import Derived.ChangeOld
import Derived.SizedLaws
namespace Go.Proofs.Ytajdlgbhofdafaa
open Go.RowKit Go.Deep Go.Joins Go.ChangeShapes Go.WideShapes Go.Proofs.YtajdlgbhofdafaaW.PrintWords Go.Proofs.YtajdlgbhofdafaaW.PrintLast Go.Proofs.YtajdlgbhofdafaaW.PrintMore

set_option maxRecDepth 100000
section
variable {H : Type}
theorem bulk_one (d : DataW H) : 1 ≤ Rows.uptoBulk d := by
  cases d with
  | lit l => cases l <;> simp [Rows.uptoBulk]
  | _ => simp [Rows.uptoBulk]
theorem bulk_mem {d : DataW H} {l : List (DataW H)} (h : d ∈ l) : Rows.uptoBulk d ≤ Rows.uptoBulkAll l := by
  induction l with
  | nil => cases h
  | cons x r ih =>
    rw [Rows.uptoBulkAll]
    rcases List.mem_cons.1 h with rfl | h
    · omega
    · have := ih h; omega
theorem bulk_len (l : List (DataW H)) : l.length ≤ Rows.uptoBulkAll l := by
  induction l with
  | nil => simp
  | cons x r ih => have := bulk_one x; rw [Rows.uptoBulkAll, List.length_cons]; omega
theorem bulk_slice (l r : List (DataW H)) : Rows.uptoBulkAll l ≤ Rows.uptoBulk (.slice l r) := by rw [Rows.uptoBulk]; omega
theorem bulk_agg (l : List (DataW H)) : Rows.uptoBulkAll l ≤ Rows.uptoBulk (.agg l) := by rw [Rows.uptoBulk]; omega
theorem bulk_string (s : ByteArray) : s.size ≤ Rows.uptoBulk (DataW.lit (H := H) (.string s.data.toList)) := by simp [Rows.uptoBulk]
end
/-- A list whose elements are told one by one. -/
theorem list_of {α : Type} {Q : Nat → α → Prop} : ∀ n : Nat, (∀ i, i < n → ∃ s, Q i s) → ∃ l : List α, l.length = n ∧ ∀ i s, l[i]? = some s → Q i s := by
  intro n
  induction n with
  | zero => intro _; exact ⟨[], rfl, fun i s h => by simp at h⟩
  | succ n ih =>
    intro h
    obtain ⟨l, hl, hq⟩ := ih (fun i hi => h i (by omega))
    obtain ⟨s, hs⟩ := h n (by omega)
    refine ⟨l ++ [s], by rw [List.length_append, List.length_singleton, hl], fun i x hx => ?_⟩
    by_cases hi : i < l.length
    · rw [List.getElem?_append_left hi] at hx
      exact hq i x hx
    · rw [List.getElem?_append_right (by omega)] at hx
      have hin : i = n := by
        have := (List.getElem?_eq_some_iff.1 hx).1
        simp at this
        omega
      subst hin
      rw [hl, Nat.sub_self] at hx
      injection hx with hx
      subst hx
      exact hs
set_option maxRecDepth 100000
section
variable {H : Type} {enc : TypeId × Value → H} {w : World} {base : Nat} {spare : Nat → Bool} {held : Bool}
theorem cells_RR : Try.prog.cellsOf 78 = 5 := by kernel_rfl
theorem cells_str : Try.prog.cellsOf 9 = 1 := by kernel_rfl
theorem cells_int : Try.prog.cellsOf 3 = 1 := by kernel_rfl
/-- A record that lies in five cells. -/
theorem open_rec {fuel : Nat} {cs : List Value} {x : DataW H × List MemPlace} (h : DataW.trod enc Try.prog w base spare held fuel 78 cs = some x) :
    ∃ s : SR, cs = [.string s.f0, .int .i64 s.f1, .int .i64 s.f2, .int .i64 s.f3, .string s.f4] ∧ s.f0.size ≤ Rows.uptoBulk x.1 ∧ s.f4.size ≤ Rows.uptoBulk x.1 := by
  obtain ⟨xs, n, _, rfl, hlen, hxl, hf⟩ := DataW.trod_struct Try.underlying78 h
  rw [cells_RR] at hlen
  match cs, hlen, xs, hxl with
  | [c0, c1, c2, c3, c4], _, [y0, y1, y2, y3, y4], _ =>
    have g0 : DataW.trod enc Try.prog w base spare held n 9 (List.take (Try.prog.cellsOf 9) (List.drop 0 [c0, c1, c2, c3, c4])) = some y0 := hf 0 _ rfl
    have g1 : DataW.trod enc Try.prog w base spare held n 3 (List.take (Try.prog.cellsOf 3) (List.drop 1 [c0, c1, c2, c3, c4])) = some y1 := hf 1 _ rfl
    have g2 : DataW.trod enc Try.prog w base spare held n 3 (List.take (Try.prog.cellsOf 3) (List.drop 2 [c0, c1, c2, c3, c4])) = some y2 := hf 2 _ rfl
    have g3 : DataW.trod enc Try.prog w base spare held n 3 (List.take (Try.prog.cellsOf 3) (List.drop 3 [c0, c1, c2, c3, c4])) = some y3 := hf 3 _ rfl
    have g4 : DataW.trod enc Try.prog w base spare held n 9 (List.take (Try.prog.cellsOf 9) (List.drop 4 [c0, c1, c2, c3, c4])) = some y4 := hf 4 _ rfl
    rw [cells_str] at g0 g4
    rw [cells_int] at g1 g2 g3
    obtain ⟨s0, e0, z0, _⟩ := DataW.trod_string Try.underlying9 g0
    obtain ⟨n1, e1, _, _⟩ := DataW.trod_int Try.underlying3 g1
    obtain ⟨n2, e2, _, _⟩ := DataW.trod_int Try.underlying3 g2
    obtain ⟨n3, e3, _, _⟩ := DataW.trod_int Try.underlying3 g3
    obtain ⟨s4, e4, z4, _⟩ := DataW.trod_string Try.underlying9 g4
    simp at e0 e1 e2 e3 e4
    subst e0 e1 e2 e3 e4
    have hb : ∀ (s : ByteArray) (y : DataW H × List MemPlace), y ∈ [y0, y1, y2, y3, y4] → y = (DataW.lit (.string s.data.toList), []) → s.size ≤ Rows.uptoBulk (DataW.agg (List.map (fun x => x.fst) [y0, y1, y2, y3, y4])) := by
      intro s y hy hz
      have h1 := bulk_mem (List.mem_map.2 ⟨y, hy, rfl⟩ : y.1 ∈ List.map (fun x : DataW H × List MemPlace => x.fst) [y0, y1, y2, y3, y4])
      have h2 := bulk_agg (List.map (fun x : DataW H × List MemPlace => x.fst) [y0, y1, y2, y3, y4])
      have h3 := bulk_string (H := H) s
      rw [hz] at h1
      dsimp only at h1
      omega
    refine ⟨⟨s0, n1, n2, n3, s4⟩, rfl, hb s0 y0 (by simp) z0, hb s4 y4 (by simp) z4⟩
/-- An argument that is a slice of records. -/
theorem open_recs {fuel : Nat} {cs : List Value} {x : DataW H × List MemPlace} (h : DataW.trod enc Try.prog w base spare held fuel 23 cs = some x) :
    ∃ A l c, cs = [.slice A l.length c] ∧ l.length ≤ c ∧ kR.C w A l.length l ∧ l.length ≤ Rows.uptoBulk x.1 ∧ ∀ s ∈ l, s.f0.size ≤ Rows.uptoBulk x.1 ∧ s.f4.size ≤ Rows.uptoBulk x.1 := by
  rcases open_slice Try.underlying23 h with ⟨rfl, rfl⟩ | ⟨a, len, cap, m, n, D, Pl, rfl, hb, hl, hm, hmm, rfl, hi⟩
  · exact ⟨none, [], 0, rfl, by simp, Kd.C_nil _ _, by simp, by simp⟩
  · have hml : len ≤ m := by rw [hmm]; split <;> omega
    obtain ⟨l, hll, hq⟩ := list_of (Q := fun i (s : SR) => (∀ j u, [Value.string s.f0, .int .i64 s.f1, .int .i64 s.f2, .int .i64 s.f3, .string s.f4][j]? = some u → w.cell? ((a.add (i * 5)).add j) = some u) ∧ s.f0.size ≤ Rows.uptoBulk (D i) ∧ s.f4.size ≤ Rows.uptoBulk (D i)) len (fun i hlt => by
      obtain ⟨cs', hc, ht⟩ := hi i (by omega)
      obtain ⟨s, rfl, h1, h2⟩ := open_rec ht
      rw [cells_RR] at hc
      obtain ⟨_, _, hat⟩ := World.cells?_some hc
      exact ⟨s, fun j u hu => (hat j (by have := (List.getElem?_eq_some_iff.1 hu).1; simpa using this)).trans hu, h1, h2⟩)
    have hbl : ∀ i, i < len → Rows.uptoBulk (D i) ≤ Rows.uptoBulk (DataW.slice ((List.range len).map D) ((List.range (m - len)).map fun j => D (len + j))) := fun i hi => by
      have h1 := bulk_mem (List.mem_map.2 ⟨i, List.mem_range.2 hi, rfl⟩ : D i ∈ (List.range len).map D)
      have h2 := bulk_slice ((List.range len).map D) ((List.range (m - len)).map fun j => D (len + j))
      omega
    refine ⟨some a, l, cap, by rw [hll], by omega, ⟨rfl, by unfold maxLen at hm; omega, fun _ => ⟨a, rfl, fun j p hp => ?_⟩⟩, ?_, ?_⟩
    · obtain ⟨h1, h2, h3⟩ := hq j p hp
      refine ⟨[.string p.f0, .int .i64 p.f1, .int .i64 p.f2, .int .i64 p.f3, .string p.f4], rfl, Rf.k78_mk w p, fun i u hu => ?_⟩
      have := h1 i u hu
      rw [Go.Deep.add_add] at this
      exact this
    · have h1 := bulk_len ((List.range len).map D)
      have h2 := bulk_slice ((List.range len).map D) ((List.range (m - len)).map fun j => D (len + j))
      rw [List.length_map, List.length_range] at h1
      dsimp only
      omega
    · intro s hs
      obtain ⟨i, hi2⟩ := List.mem_iff_getElem?.1 hs
      obtain ⟨_, h2, h3⟩ := hq i s hi2
      have := hbl i (by have := (List.getElem?_eq_some_iff.1 hi2).1; omega)
      dsimp only
      omega
end
end Go.Proofs.Ytajdlgbhofdafaa
