/- name: the functions' contracts. -/
import Derived.Test.YtajdlgbhofdafaaLabels
namespace Go.Proofs.Ytajdlgbhofdafaa
open Go.RowKit Go.Shelf
set_option maxRecDepth 100000
attribute [local go_sem] Oper.semAt_some

/-- What is left behind the labels that bytes begin with. -/
def endOf (b : ByteArray) (l : List (ByteArray × ByteArray)) : ByteArray := (l.getLast?.map (·.2)).getD b
theorem endOf_snoc (b : ByteArray) (l : List (ByteArray × ByteArray)) (x : ByteArray × ByteArray) : endOf b (l ++ [x]) = x.2 := by simp [endOf]
/-- A name? -/
def rightB (b : ByteArray) : Bool := decide (b.size ≤ 255) && (endOf b (labelsB b.size b)).toList == [0]

set_option maxHeartbeats 400000 in
theorem labels_any (b : ByteArray) (w : World) :
    Calls Try.prog 139 #[.string b] w fun e w' => e = .returned (.func (.func 164) #[] #[.pointer (some ⟨w.heap.size, 0, none⟩)]) ∧ w' = w.alloc (.cells #[.string b] 9) := by
  have hmf : ∀ (fn : Fn) (first cap : Array Value) (w : World), (Instr.makeFunc fn first cap).run Try.prog w = .ok (.func fn first cap) w := fun _ _ _ _ => rfl
  go_enter Try.func139, Try.ntmps139
  go_wp2
  go_ret
  exact ⟨rfl, rfl⟩

theorem enters_labels : Enters Try.prog 164 := enters_of Try.func164 (by kernel_rfl) rfl

set_option maxHeartbeats 1000000 in
theorem Right_any (b : ByteArray) (w : World) (hb : b.size ≤ 140737488351232) :
    Calls Try.prog 109 #[.string b] w fun e w' => e = .returned (.bool (rightB b)) ∧ Below w.heap.size w w' := by
  by_cases hlong : 255 < b.size
  · have hfin : rightB b = false := by simp [rightB]; omega
    rw [hfin]
    clear hfin
    go_enter Try.func109, Try.ntmps109
    go_wp2
    go_ret
    exact ⟨rfl, Below.refl _ _⟩
  · refine (callsIn_wide (n := 3)).1 ?_
    refine callsIn_of_wp_marks Try.func109 rfl trivial ?_ rfl
    simp only [Try.ntmps109, List.size_toArray, List.length_cons, List.length_nil, Nat.reduceAdd, Nat.reduceSub, Array.replicate_succ, Array.replicate_zero, List.push_toArray, List.append_toArray, List.nil_append, List.cons_append]
    have hd : decide ((255 : Int) < (b.size : Int)) = false := by simp; omega
    gi_wp2_with (refine ⟨trivial, ?_⟩; gi_at_call 139; refine (callsIn_wide.2 (labels_any b _)).mono ?_; rintro e w1 ⟨rfl, rfl⟩)
    obtain ⟨W0, hW0⟩ : ∃ W0, (w.alloc (.cells #[.string b] 9)).alloc (.cells #[.string b] 9) = W0 := ⟨_, rfl⟩
    rw [hW0]
    have hz : W0.heap.size = w.heap.size + 1 + 1 := by rw [← hW0, sz_al, sz_al]
    have hE : W0.heap[w.heap.size]? = some (.cells #[.string b] 9) := by rw [← hW0, hp_al, if_neg (by rw [sz_al]; omega), hp_al, if_pos rfl]
    have hB : W0.heap[w.heap.size + 1]? = some (.cells #[.string b] 9) := by rw [← hW0, hp_al, if_pos (by rw [sz_al])]
    have hF : Below w.heap.size w W0 := by rw [← hW0]; exact (((Fr.refl (fun _ => False) w).alloc _).alloc _).to_below (Nat.le_refl _) (by simp)
    clear hW0
    refine wpIn_rangeFunc_c (by decide) (gf := 164) (lb := #[.pointer (some ⟨w.heap.size + 1, 0, none⟩)]) rfl enters_labels
      (labels_seq (3 - 1) (w.heap.size + 1) b W0 (cell_at hB rfl) (froz_at hB) hb) (T := fun k => k = w.heap.size) (fun _ => rfl) (by intro k h; omega) (by intro k h; omega)
      (fun pre W => W.cell? ⟨w.heap.size, 0, none⟩ = some (.string (endOf b pre)) ∧ W.frozen? ⟨w.heap.size, 0, none⟩ = false ∧ Below w.heap.size w W ∧ w.heap.size < W.heap.size)
      (fun _ _ _ => False) ?hI (fun _ _ _ _ h _ => h) ⟨cell_at hE rfl, froz_at hE, hF, by omega⟩
      (fun x => { tmps := #[.string b, undef, .bool false, .pointer (some ⟨w.heap.size, 0, none⟩), undef, .string x.2, .string b, .int .i64 b.size, .bool false, .string b, .string b, .func (.func 164) #[] #[.pointer (some ⟨w.heap.size + 1, 0, none⟩)], .string x.1, .string x.2, undef, undef, undef], defers := [] }) ?assign ?body ?done ?stop
    case hI =>
      rintro pre A B ⟨h1, h2, h3, h4⟩ f
      have h5 : Fr (fun k => w.heap.size + 1 ≤ k) A B := f.mono (by intro k _ h; omega)
      exact ⟨(h5.cell (p := ⟨w.heap.size, 0, none⟩) h4 (by simp)).trans h1, (h5.frozen (p := ⟨w.heap.size, 0, none⟩) h4 (by simp)).trans h2, h3.trans (h5.to_below (by omega) (by intro k hk; omega)), Nat.lt_of_lt_of_le h4 f.size⟩
    case assign =>
      intro l x W K hK
      gi_wp2
      exact hK
    case body =>
      rintro l pre x W ⟨h1, h2, h3, h4⟩ _
      gi_wp2
      refine ⟨(Fr.refl _ W).set _ _ (fun _ => rfl), ?_, by rw [World.frozen?_setCell]; exact h2, h3.setCell (p := ⟨w.heap.size, 0, none⟩) (Nat.le_refl _) _, by rw [size_set]; exact h4⟩
      rw [endOf_snoc]
      exact World.cell?_setCell_same' _ _ _ (by rw [h1]; rfl)
    case done =>
      rintro W ⟨h1, h2, h3, h4⟩ hK
      have hfin : rightB b = ((endOf b (labelsB b.size b)).toList == [0]) := by simp [rightB]; omega
      have HF := Lib.hid hfin
      clear hfin
      generalize endOf b (labelsB b.size b) = z at *
      gi_wp2
      refine ⟨by simp, .inl ⟨_, _, rfl, run_takeDeferred hK, ?_⟩⟩
      refine ⟨_, results_tmp rfl _ _ _, ?_, ?_⟩
      · rw [HF.out]; rfl
      · exact h3.trans ((fr_put W W0.heap.size _).to_below (by omega) (by intro k hk; omega))
    case stop =>
      rintro c pre W _ h _
      exact h.elim


/-- A name without its first label. -/
def parentB (b : ByteArray) : ByteArray × Bool := if rightB b then (match labelsB b.size b with | [] => (⟨#[]⟩, false) | x :: _ => (x.2, true)) else (⟨#[]⟩, false)

set_option maxHeartbeats 1000000 in
theorem Parent_any (b : ByteArray) (w : World) (hb : b.size ≤ 140737488351232) :
    Calls Try.prog 110 #[.string b] w fun e w' => e = .returned (.tuple #[.string (parentB b).1, .bool (parentB b).2]) ∧ Below w.heap.size w w' := by
  have hR := fun w => Right_any b w hb
  generalize hrb : rightB b = rb at hR
  cases rb with
  | false =>
    have hfin : parentB b = (⟨#[]⟩, false) := by rw [parentB, hrb]; rfl
    rw [hfin]
    clear hfin hrb
    have HR := Lib.hid hR
    clear hR
    have hN := fun (B : World) (h : Below (w.heap.size + 1 + 1) ((w.alloc (.cells #[.string ⟨#[]⟩] 9)).alloc (.cells #[.bool false] 4)) B) => (h.block w.heap.size (by omega)).trans (show _ = some (.cells #[.string ⟨#[]⟩] 9) from by rw [hp_al, if_neg (by rw [sz_al]; omega), hp_al, if_pos rfl])
    have hN1 := fun (B : World) (h : Below (w.heap.size + 1 + 1) ((w.alloc (.cells #[.string ⟨#[]⟩] 9)).alloc (.cells #[.bool false] 4)) B) => (h.block (w.heap.size + 1) (by omega)).trans (show _ = some (.cells #[.bool false] 4) from by rw [hp_al, if_pos (by rw [sz_al])])
    have HN := Lib.hid hN
    have HN1 := Lib.hid hN1
    clear hN hN1
    go_enter Try.func110, Try.ntmps110
    go_wp2_with (go_at_call 109; refine (HR.out _).mono ?_; rintro e w1 ⟨rfl, hB⟩; rw [sz_al, sz_al] at hB; have c0 := cell_at (o := 0) (v := .string ⟨#[]⟩) (HN.out _ hB) rfl; have f0 := froz_at (o := 0) (HN.out _ hB); have c1 := cell_at (o := 0) (v := .bool false) (HN1.out _ hB) rfl; have f1 := froz_at (o := 0) (HN1.out _ hB))
    refine bodyPost_ret (v := .tuple #[.string ⟨#[]⟩, .bool false]) (by simp [results, Try.results110, go_sem, c0, c1]) rfl ⟨rfl, ?_⟩
    exact ((((((Fr.refl (fun k => w.heap.size ≤ k) w).alloc _).alloc _).trans ((Fr.of_below (w := (w.alloc (.cells #[.string ⟨#[]⟩] 9)).alloc (.cells #[.bool false] 4)) (by rw [sz_al, sz_al]; exact hB)))).set _ _ (fun h => absurd h (by simp))).set _ _ (fun h => absurd h (by simp))).to_below (Nat.le_refl _) (by intro k hk; omega)
  | true =>
    obtain ⟨W0, hW0⟩ : ∃ W0, (w.alloc (.cells #[.string ⟨#[]⟩] 9)).alloc (.cells #[.bool false] 4) = W0 := ⟨_, rfl⟩
    have hz : W0.heap.size = w.heap.size + 1 + 1 := by rw [← hW0, sz_al, sz_al]
    have hE : W0.heap[w.heap.size]? = some (.cells #[.string ⟨#[]⟩] 9) := by rw [← hW0, hp_al, if_neg (by rw [sz_al]; omega), hp_al, if_pos rfl]
    have hE1 : W0.heap[w.heap.size + 1]? = some (.cells #[.bool false] 4) := by rw [← hW0, hp_al, if_pos (by rw [sz_al])]
    have hF : Below w.heap.size w W0 := by rw [← hW0]; exact (((Fr.refl (fun _ => False) w).alloc _).alloc _).to_below (Nat.le_refl _) (by simp)
    have hfinP : parentB b = match labelsB b.size b with | [] => (⟨#[]⟩, false) | x :: _ => (x.2, true) := by rw [parentB, hrb]; rfl
    have HFP := Lib.hid hfinP
    have HR := Lib.hid hR
    have HW0 := Lib.hid hW0
    clear hfinP hrb hR hW0
    refine (callsIn_wide (n := 3)).1 ?_
    refine callsIn_of_wp_marks Try.func110 rfl trivial ?_ rfl
    simp only [Try.ntmps110, List.size_toArray, List.length_cons, List.length_nil, Nat.reduceAdd, Nat.reduceSub, Array.replicate_succ, Array.replicate_zero, List.push_toArray, List.append_toArray, List.nil_append, List.cons_append]
    gi_wp2_with (refine ⟨trivial, ?_⟩; first | (gi_at_call 109; rw [HW0.out]; refine (callsIn_wide.2 (HR.out _)).mono ?_; rintro e w1 ⟨rfl, hB1⟩) | (gi_at_call 139; refine (callsIn_wide.2 (labels_any b _)).mono ?_; rintro e w2 ⟨rfl, rfl⟩))
    obtain ⟨V0, hV0⟩ : ∃ V0, w1.alloc (.cells #[.string b] 9) = V0 := ⟨_, rfl⟩
    rw [hV0]
    have hzV : V0.heap.size = w1.heap.size + 1 := by rw [← hV0, sz_al]
    have hz1 := hB1.size
    have hBn : V0.heap[w1.heap.size]? = some (.cells #[.string b] 9) := by rw [← hV0, hp_al, if_pos rfl]
    have g1 : Fr (fun _ => False) W0 V0 := by rw [← hV0]; exact (Fr.of_below hB1).alloc _
    have hV : V0.heap[w.heap.size]? = some (.cells #[.string ⟨#[]⟩] 9) := (g1.block _ (by omega) (by simp)).trans hE
    have hV1 : V0.heap[w.heap.size + 1]? = some (.cells #[.bool false] 4) := (g1.block _ (by omega) (by simp)).trans hE1
    have hFV : Below w.heap.size w V0 := hF.trans (g1.to_below (by omega) (by simp))
    clear hV0 g1 hB1
    refine wpIn_rangeFunc_c (by decide) (gf := 164) (lb := #[.pointer (some ⟨w1.heap.size, 0, none⟩)]) rfl enters_labels
      (labels_seq (3 - 1) w1.heap.size b V0 (cell_at hBn rfl) (froz_at hBn) hb) (T := fun k => k = w.heap.size ∨ k = w.heap.size + 1) (fun _ => rfl) (by intro k h; omega) (by intro k h; omega)
      (fun pre W => pre = [] ∧ W.cell? ⟨w.heap.size, 0, none⟩ = some (.string ⟨#[]⟩) ∧ W.frozen? ⟨w.heap.size, 0, none⟩ = false ∧ W.cell? ⟨w.heap.size + 1, 0, none⟩ = some (.bool false) ∧ W.frozen? ⟨w.heap.size + 1, 0, none⟩ = false ∧ Below w.heap.size w W ∧ w.heap.size + 1 < W.heap.size)
      (fun c pre W => c = .ret ∧ (∃ x, pre = [x] ∧ W.cell? ⟨w.heap.size, 0, none⟩ = some (.string x.2)) ∧ W.cell? ⟨w.heap.size + 1, 0, none⟩ = some (.bool true) ∧ Below w.heap.size w W ∧ w.heap.size + 1 < W.heap.size) ?hI ?hIx ⟨rfl, cell_at hV rfl, froz_at hV, cell_at hV1 rfl, froz_at hV1, hFV, by omega⟩
      (fun x => { tmps := #[.string b, undef, .pointer (some ⟨w.heap.size, 0, none⟩), .pointer (some ⟨w.heap.size + 1, 0, none⟩), undef, .string x.2, .string b, .bool true, .bool false, .string b, .func (.func 164) #[] #[.pointer (some ⟨w1.heap.size, 0, none⟩)], .string x.1, .string x.2, undef], defers := [] }) ?assign ?body ?done ?stop
    case hI =>
      rintro pre A B ⟨h0, h1, h2, h3, h4, h5, h6⟩ f
      have h7 : Fr (fun k => w.heap.size + 1 + 1 ≤ k) A B := f.mono (by intro k _ h; omega)
      exact ⟨h0, (h7.cell (p := ⟨w.heap.size, 0, none⟩) (by simp only; omega) (by simp only; omega)).trans h1, (h7.frozen (p := ⟨w.heap.size, 0, none⟩) (by simp only; omega) (by simp only; omega)).trans h2, (h7.cell (p := ⟨w.heap.size + 1, 0, none⟩) (by simp only; omega) (by simp only; omega)).trans h3, (h7.frozen (p := ⟨w.heap.size + 1, 0, none⟩) (by simp only; omega) (by simp only; omega)).trans h4, h5.trans (h7.to_below (by omega) (by intro k hk; omega)), Nat.lt_of_lt_of_le h6 f.size⟩
    case hIx =>
      rintro c pre A B ⟨h0, ⟨x, hx, h1⟩, h3, h5, h6⟩ f
      have h7 : Fr (fun k => w.heap.size + 1 + 1 ≤ k) A B := f.mono (by intro k _ h; omega)
      exact ⟨h0, ⟨x, hx, (h7.cell (p := ⟨w.heap.size, 0, none⟩) (by simp only; omega) (by simp only; omega)).trans h1⟩, (h7.cell (p := ⟨w.heap.size + 1, 0, none⟩) (by simp only; omega) (by simp only; omega)).trans h3, h5.trans (h7.to_below (by omega) (by intro k hk; omega)), Nat.lt_of_lt_of_le h6 f.size⟩
    case assign =>
      intro l x W K hK
      gi_wp2
      exact hK
    case body =>
      rintro l pre x W ⟨rfl, h1, h2, h3, h4, h5, h6⟩ _
      have e1 : ¬ w.heap.size = w.heap.size + 1 := by omega
      gi_wp2
      refine ⟨((Fr.refl _ W).set _ _ (fun _ => .inl rfl)).set _ _ (fun _ => .inr rfl), rfl, ⟨x, rfl, ?_⟩, ?_, (h5.setCell (p := ⟨w.heap.size, 0, none⟩) (Nat.le_refl _) _).setCell (p := ⟨w.heap.size + 1, 0, none⟩) (by simp) _, by rw [size_set, size_set]; exact h6⟩
      · rw [World.cell?_setCell_other _ _ _ _ (by intro e; have := congrArg Addr.block e; simp at this)]
        exact World.cell?_setCell_same' _ _ _ (by rw [h1]; rfl)
      · refine World.cell?_setCell_same' _ _ _ ?_
        rw [World.cell?_setCell_other _ _ _ _ (by intro e; have := congrArg Addr.block e; simp at this), h3]
        rfl
    case done =>
      rintro W ⟨h0, h1, h2, h3, h4, h5, h6⟩ hK
      have hfin : parentB b = (⟨#[]⟩, false) := by rw [HFP.out, h0]
      have HF := Lib.hid hfin
      have H0 := Lib.hid h0
      clear hfin h0
      gi_wp2
      have hW2 : Fr (fun k => k = w.heap.size ∨ k = w.heap.size + 1) W ((W.setCell ⟨w.heap.size, 0, none⟩ (.string ⟨#[]⟩)).setCell ⟨w.heap.size + 1, 0, none⟩ (.bool false)) := ((Fr.refl _ W).set _ _ (fun _ => .inl rfl)).set _ _ (fun _ => .inr rfl)
      have c0 : ((W.setCell ⟨w.heap.size, 0, none⟩ (.string ⟨#[]⟩)).setCell ⟨w.heap.size + 1, 0, none⟩ (.bool false)).cell? ⟨w.heap.size, 0, none⟩ = some (.string ⟨#[]⟩) := by
        rw [World.cell?_setCell_other _ _ _ _ (by intro e; have := congrArg Addr.block e; simp at this)]
        exact World.cell?_setCell_same' _ _ _ (by rw [h1]; rfl)
      have c1 : ((W.setCell ⟨w.heap.size, 0, none⟩ (.string ⟨#[]⟩)).setCell ⟨w.heap.size + 1, 0, none⟩ (.bool false)).cell? ⟨w.heap.size + 1, 0, none⟩ = some (.bool false) := by
        refine World.cell?_setCell_same' _ _ _ ?_
        rw [World.cell?_setCell_other _ _ _ _ (by intro e; have := congrArg Addr.block e; simp at this), h3]
        rfl
      generalize (W.setCell ⟨w.heap.size, 0, none⟩ (.string ⟨#[]⟩)).setCell ⟨w.heap.size + 1, 0, none⟩ (.bool false) = W2 at *
      have hK2 := (hW2.block V0.heap.size (Array.getElem?_eq_some_iff.1 hK).1 (by omega)).trans hK
      refine ⟨by simp, .inl ⟨_, _, rfl, run_takeDeferred hK2, ?_⟩⟩
      have hp := fr_put W2 V0.heap.size (.deferred none)
      have hs2 := hW2.size
      have d0 := (hp.cell (p := ⟨w.heap.size, 0, none⟩) (by simp only; omega) (by simp only; omega)).trans c0
      have d1 := (hp.cell (p := ⟨w.heap.size + 1, 0, none⟩) (by simp only; omega) (by simp only; omega)).trans c1
      refine ⟨.tuple #[.string ⟨#[]⟩, .bool false], ?_, by rw [HF.out], (h5.trans (hW2.to_below (by omega) (by intro k hk; omega))).trans (hp.to_below (by omega) (by intro k hk; omega))⟩
      simp [results, Try.f110, go_sem, d0, d1]
    case stop =>
      rintro c pre W hpre ⟨rfl, ⟨x, rfl, h1⟩, h3, h5, h6⟩ hK
      have hfin : parentB b = (x.2, true) := by
        rw [HFP.out]
        obtain ⟨t, ht⟩ := hpre
        rw [← ht]
        rfl
      have HF := Lib.hid hfin
      clear hfin
      gi_wp2
      refine ⟨by simp, .inl ⟨_, _, rfl, run_takeDeferred hK, ?_⟩⟩
      have hp := fr_put W V0.heap.size (.deferred none)
      have c0 := (hp.cell (p := ⟨w.heap.size, 0, none⟩) (by simp only; omega) (by simp only; omega)).trans h1
      have c1 := (hp.cell (p := ⟨w.heap.size + 1, 0, none⟩) (by simp only; omega) (by simp only; omega)).trans h3
      refine ⟨.tuple #[.string x.2, .bool true], ?_, by rw [HF.out], h5.trans (hp.to_below (by omega) (by intro k hk; omega))⟩
      simp [results, Try.f110, go_sem, c0, c1]

end Go.Proofs.Ytajdlgbhofdafaa
