/- An entry is read back from its bytes, and is none without the last byte of them: for every entry whose reading is of bulk at most 1048576, the law 'EntryBack' of layer 17 returns true and its argument reads as before. -/
import Derived.Test.YtajdlgbhofdafaaEntryBack
import Derived.Test.YtajdlgbhofdafaaOpen
import Derived.WalkKit
namespace Go.Proofs.Ytajdlgbhofdafaa.entryBack
open Go.ChangeShapes Go.WideShapes Go.ChangeAt Go.RowKit Go.Joins
set_option linter.unusedVariables false

theorem own : ownKnob Try.prog.godebug = none := by kernel_rfl
theorem laidOut : laidOutB Try.prog = true := by kernel_rfl

set_option maxRecDepth 100000 in
/-- What the walk gives. -/
theorem contract (H : Type) (enc : TypeId × Value → H) (W : World) (base : Nat) (args : Array Value) (ds gs : List (DataW H)) (before : List MemPlace)
    (hval : ∀ (j : Nat) t v, Try.f3.params[j]? = some t → args[j]? = some v → Value.okWide Try.prog W .any base t v)
    (hW : DataW.Whole enc Try.prog Try.f3.params.toList Rows.entryBackSpec.vars false W args.toList ds gs before) (hk : Rows.uptoSmall H (ds ++ gs) = true) :
    Calls Try.prog 3 args W fun e W' => ∃ v, e = .returned v ∧ Rows.entryBackSpec.post enc Try.prog Try.f3 false true false false W args v W' := by
  have hW' := hW
  obtain ⟨p, q, hA0, hV, rfl, hfz, hnd⟩ := hW
  have hA : DataW.TrodAll enc Try.prog W 0 (fun _ => true) true Try.f3.params.toList args.toList ds p := hA0
  rw [Try.params3] at hA hval
  obtain ⟨v0, vs0, d0, ds0, p0, q0, hargs, rfl, rfl, h0, r0⟩ := trodAll_cons hA
  obtain ⟨rfl, rfl, rfl⟩ := trodAll_nil r0
  obtain rfl : args = #[v0] := by cases args; simp_all
  obtain ⟨rfl, rfl⟩ := trodVars_none hV
  have k0 := h0
  have lt0 : ∀ x ∈ p0, x.block < W.heap.size := by obtain ⟨m, hm⟩ := k0; exact DataW.trod_lt m _ _ _ hm
  obtain ⟨x0, x1, x2, x3, y0, y1, y2, y3, n, rfl, rfl, hp, t0, t1, t2, t3⟩ := open_agg4 Try.underlying25 (by kernel_rfl) (by kernel_rfl) (hval 0 25 v0 rfl rfl) h0
  obtain ⟨f, e0, rfl, wf0⟩ := DataW.trod_int Try.underlying22 t0
  obtain ⟨t, e1, rfl, wf1⟩ := DataW.trod_int Try.underlying22 t1
  obtain ⟨A1, l1, c1, e2, k1, hC1, b1, _⟩ := open_recs t2
  obtain ⟨A2, l2, c2, e3, k2, hC2, b2, _⟩ := open_recs t3
  simp only [List.cons.injEq, and_true] at e0 e1 e2 e3
  subst e0 e1 e2 e3
  have hbulk : Rows.uptoBulkAll (DataW.agg [DataW.lit (.int .u32 f), DataW.lit (.int .u32 t), y2.1, y3.1] :: ([] : List (DataW H))) ≤ 1048576 := by
    have := of_decide_eq_true hk
    simpa using this
  have hb2 : Rows.uptoBulk y2.1 ≤ 1048576 ∧ Rows.uptoBulk y3.1 ≤ 1048576 := by
    simp only [Rows.uptoBulkAll, Rows.uptoBulk] at hbulk
    omega
  have hf : 0 ≤ f ∧ f < 4294967296 := by
    have : 0 ≤ f ∧ f ≤ 4294967295 := by simpa [Lit.wf, IntKind.min, IntKind.max, IntKind.signed, IntKind.bits] using wf0
    omega
  have ht : 0 ≤ t ∧ t < 4294967296 := by
    have : 0 ≤ t ∧ t ≤ 4294967295 := by simpa [Lit.wf, IntKind.min, IntKind.max, IntKind.signed, IntKind.bits] using wf1
    omega
  clear hA0
  refine (EntryBack_any f t A1 A2 c1 c2 l1 l2 W hf ht hC1 hC2 k1 k2 (by omega) (by omega)).mono fun e W' ⟨he, bel⟩ => ?_
  subst he
  exact ⟨_, rfl, _, _, _, [], _, [], hW', trodAll_mk1 (shut_bool Try.underlying4 _), (trodAll_cons_mk (Below.trod laidOut (by kernel_rfl) (of_decide_eq_true (by kernel_rfl)) k0 bel lt0) trodAll_mk0), rfl, bel.frame _, fun h => by cases h⟩

set_option maxRecDepth 100000 in
theorem lifted (os : Os) (started : os.Started) (H : Type) (enc : TypeId × Value → H) (F : Stop.Interp) :
    ReturnsInHanded {} Try.checked os 3 .any ((Rows.OpenSpec.upto Rows.entryBackSpec).pre6 enc Try.prog Try.f3 Rows.entryBackUptoRow.domain false) (((Rows.OpenSpec.upto Rows.entryBackSpec).at F).post enc Try.prog Try.f3 false true false false) := by
  refine returnsInHanded_of_cond (C := Try.checked) (s := Rows.OpenSpec.upto Rows.entryBackSpec) (k := Rows.uptoSmall) rfl own started (by kernel_rfl) Try.func3
    (OpenSpec.witness (enc := enc) (C := Try.checked) (s := Rows.OpenSpec.upto Rows.entryBackSpec) (k := Rows.uptoSmall) rfl false ⟨#[], #[.agg #[.int .u32 0, .int .u32 0, .slice none 0 0, .slice none 0 0]], []⟩ 8 (by kernel_rfl) (by kernel_rfl) (by kernel_rfl)
      (x := ([.agg [.lit (.int .u32 0), .lit (.int .u32 0), .nil, .nil]], [], [])) (by kernel_rfl) rfl (by kernel_rfl)) ?_
  intro W base args ds gs before hval hW _ hk _
  exact contract H enc W base args ds gs before hval hW hk

theorem over : Rows.entryBackUptoRow.holds Try.pinned (Rows.OpenSpec.upto Rows.entryBackSpec) :=
  OpenClaim.holds_of_cond 3 Try.f3 rfl rfl rfl rfl rfl rfl rfl ⟨rfl, rfl, rfl, rfl, rfl⟩ rfl rfl rfl rfl rfl (by kernel_rfl) Try.func3 (by kernel_rfl)
    (of_decide_eq_true (by kernel_rfl)) (by unfold Func.isWrapper; first | (rw [if_pos (by decide +kernel)]; kernel_rfl) | (rw [if_neg (by decide +kernel)]; exact ⟨rfl, rfl⟩))
    (fun os started H enc _ F => lifted os started H enc F)
theorem proved : Rows.EntryBackUptoSaid := over
#print axioms proved
end Go.Proofs.Ytajdlgbhofdafaa.entryBack
namespace Go.Proofs.Ytajdlgbhofdafaa
/-- The row, under a short name, for the claim. -/
theorem entryBackUpto_holds : Rows.EntryBackUptoSaid := entryBack.proved
end Go.Proofs.Ytajdlgbhofdafaa
