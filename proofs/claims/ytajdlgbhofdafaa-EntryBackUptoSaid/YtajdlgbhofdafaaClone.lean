/- pack.Packer.Clone. -/
import Derived.Test.YtajdlgbhofdafaaPkName
import Derived.Lib.LazyBuf
namespace Go.Proofs.Ytajdlgbhofdafaa
open Go.RowKit Go.Shelf Go.Proofs.YtajdlgbhofdafaaW.PrintWords Go.Proofs.YtajdlgbhofdafaaW.PrintLast Go.Proofs.YtajdlgbhofdafaaW.PrintMore
set_option maxRecDepth 100000
attribute [local go_sem] Oper.semAt_some

set_option maxHeartbeats 1000000 in
theorem sclone_any (v : Value) (s : ByteArray) (w : World) (h : RowB w v s) (hb : s.size ≤ 140737488351232) :
    Calls Try.prog 140 #[v] w fun e w' => ∃ v', e = .returned v' ∧ RowB w' v' s ∧ Below w.heap.size w w' ∧ ∀ k, v'.ownBlock = some k → w.heap.size ≤ k := by
  rcases h.2 with ⟨rfl, h0⟩ | ⟨g, cap, cur, fz, rfl, hbg, hg, hfz, hnc, hcm, hcs, htake⟩
  · have hs := size0 h0
    subst hs
    have hq : ∀ w, (binOp .eql 51 (.slice none 0 0) (.slice none 0 0)).run Try.prog w = .ok (.bool true) w := fun w => by kernel_rfl
    go_enter Try.func140, Try.ntmps140
    go_wp2
    go_ret
    exact ⟨_, rfl, rowB_nil _, Below.refl _ _, fun k hk => by simp [Value.ownBlock] at hk⟩
  · obtain ⟨i, hi, hz⟩ := Option.map_eq_some_iff.1 info_byte
    injection hz with hz0 hz1
    injection hz1 with hz1 hz2
    have hB0 : Below w.heap.size w (w.alloc (.cells #[] 5)) := ((Fr.refl (fun _ => False) w).alloc _).to_below (Nat.le_refl _) (by simp)
    have hlt : g < w.heap.size := (Array.getElem?_eq_some_iff.1 hg).1
    have hown : (w.alloc (.cells #[] 5)).ownsRow w.heap.size 5 1 (.slice (some ⟨w.heap.size, 0, none⟩) 0 0) 0 [] :=
      ⟨rfl, .inr ⟨w.heap.size, 0, #[], rfl, Nat.le_refl _, by rw [hp_al, if_pos rfl], Nat.le_refl _, by unfold maxLen; omega, rfl, rfl⟩⟩
    have hv2 : RowB (w.alloc (.cells #[] 5)) (.slice (some ⟨g, 0, none⟩) s.size cap) s := rowB_keep h (fun k hk => by simp [Value.ownBlock] at hk; subst hk; rw [hp_al, if_neg (by omega)])
    obtain ⟨v', w', hr, h2, h3, h4⟩ := run_append_own (P := Try.prog) (w.alloc (.cells #[] 5)) w.heap.size 51 51 5 i (.int .u8 0) 1 1 bytes_under hi hz0 hz1 hz2 rfl (by omega) _ 0 [] hown ⟨g, 0, none⟩ s.size cap (Lib.strCells s) (by rw [Lib.strCells_length]; omega) (hv2.cells (g := g) rfl) (Lib.strCells_oneCell s) (by unfold maxLen; omega) (by omega) (by rw [sz_al]; omega)
    rw [Nat.zero_add, List.nil_append] at h2
    have hB2 : Below w.heap.size w w' := (((Fr.refl (fun k => w.heap.size ≤ k) w).alloc _).grown h3 (fun k hk _ => by simp [Value.ownBlock] at hk; omega)).to_below (Nat.le_refl _) (fun k hk => by omega)
    have hfin : RowB w' v' s := World.ownsRowF_of (by
      obtain ⟨e1, e2⟩ := h2
      refine ⟨e1, ?_⟩
      rcases e2 with e2 | ⟨g, cap, cur, e3, e4, e5⟩
      · exact .inl e2
      · exact .inr ⟨g, cap, cur, e3, Nat.zero_le _, e5⟩)
    have hlo : ∀ k, v'.ownBlock = some k → w.heap.size ≤ k := fun k hk => (h2.lt k hk).1
    have HR := Lib.hid hr
    have hq : ∀ w, (binOp .eql 51 (.slice (some ⟨g, 0, none⟩) s.size cap) (.slice none 0 0)).run Try.prog w = .ok (.bool false) w := fun w => by kernel_rfl
    clear h2 h3 h4 hown hv2 htake hcs hcm hnc hfz h hr
    go_enter Try.func140, Try.ntmps140
    go_wp2_with (at_builtin; refine wpList_append HR.out rfl _ _ rfl rfl rfl ?_)
    go_ret
    exact ⟨_, rfl, hfin, hB2, hlo⟩

set_option maxHeartbeats 1000000 in
theorem mclone_any (r : Nat) (es : Known) (w : World) (h : MapS w r (knownV es)) :
    Calls Try.prog 141 #[.map (some r)] w fun e w' => e = .returned (.map (some w.heap.size)) ∧ MapS w' w.heap.size (knownV es) ∧ Below w.heap.size w w' ∧ w'.heap.size = w.heap.size + 1 := by
  obtain ⟨ms, c, h1, h2⟩ := h
  have hfin : MapS (w.alloc (.map ms c)) w.heap.size (knownV es) := ⟨ms, c, by rw [hp_al, if_pos rfl], h2⟩
  have hB : Below w.heap.size w (w.alloc (.map ms c)) := ((Fr.refl (fun _ => False) w).alloc _).to_below (Nat.le_refl _) (by simp)
  have hext : (Extern.MapsClone.clone #[.iface 172 (.map (some r))]).run Try.prog w = .ok (.iface 172 (.map (some w.heap.size))) (w.alloc (.map ms c)) := by
    have e : Extern.MapsClone.clone #[.iface 172 (.map (some r))] = (getObj r >>= fun o => match o with
        | .map entries clock => (newObj (.map entries clock) >>= fun n => pure (.iface 172 (.map (some n))))
        | _ => stuck "maps.clone: a map expected") := rfl
    rw [e]
    simp [MapKept.run_getObj_map h1, Result.andThen, go_sem]
  have hq : ∀ w, (binOp .eql 172 (.map (some r)) (.map none)).run Try.prog w = .ok (.bool false) w := fun w => by kernel_rfl
  have hta : ∀ w v, (Instr.typeAssert (.iface 172 v) 20 172 false).run Try.prog w = .ok v w := fun w v => by
    simp [Instr.typeAssert, run_underlying map_str_int, go_sem, Result.andThen]
  clear h2
  go_enter Try.func141, Try.ntmps141
  go_wp2
  rw [run_callFunc_extern Try.func103 (by kernel_rfl) (by kernel_rfl) (by kernel_rfl) (e := Extern.MapsClone.clone) (by kernel_rfl), hext]
  simp only [Result.andThen]
  rw [Oper.upon_value]
  go_wp2
  go_ret
  exact ⟨rfl, hfin, hB, sz_al _ _⟩

theorem _root_.Go.RowKit.Below.cell_of {w w' : World} {p : Addr} {v : Value} (h : Below w.heap.size w w') (hc : w.cell? p = some v) : w'.cell? p = some v := (h.cell (World.block_lt_of_cell? w _ hc)).trans hc
set_option maxHeartbeats 2000000 in
/-- Clone, of a packer. -/
theorem Clone_pk (b : Nat) (x : ByteArray × Known) (O : Nat → Prop) (w : World) (h : PkAt b x O w) (hb : x.1.size ≤ 140737488351232) :
    Calls Try.prog 111 #[.pointer (some ⟨b, 0, none⟩)] w fun e w' => ∃ b' O', e = .returned (.pointer (some ⟨b', 0, none⟩)) ∧ PkAt b' x O' w' ∧ Below w.heap.size w w' ∧ ∀ k, O' k → w.heap.size ≤ k := by
  obtain ⟨v, r, hbk, hv, hm, hne, hrb, hO⟩ := h
  have hlt : b < w.heap.size := (Array.getElem?_eq_some_iff.1 hbk).1
  have hrl := mapS_lt hm
  have c0 : w.drew.cell? ⟨b, 0, none⟩ = some v := cell_at (w := w.drew) (fz := (0, 0)) hbk rfl
  have c1 : w.drew.cell? ⟨b, 1, none⟩ = some (.map (some r)) := cell_at (w := w.drew) (fz := (0, 0)) hbk rfl
  have hS := fun w => sclone_any v x.1 w
  have hvd : RowB w.drew v x.1 := rowB_keep hv (fun _ _ => rfl)
  have hM := fun (w2 : World) (hB : Below w.heap.size w w2) => mclone_any r x.2 w2 (mapS_keep hm (hB.block r hrl))
  obtain ⟨ao, cap, rfl⟩ := rowB_slice hv
  have HS := Lib.hid (hS w.drew hvd hb)
  have HM := Lib.hid hM
  clear hS hM hvd hne hO
  go_enter Try.func111, Try.ntmps111
  go_wp2_with fail
  refine start_ (n := 13) (S := fun w' => w'.cell? ⟨b, 0, none⟩ = some (.slice ao x.1.size cap) ∧ w'.cell? ⟨b, 1, none⟩ = some (.map (some r))) (ds := []) #[false, false, false, false, false, false, false, false, false, false, false, false, false] (by kernel_rfl) rfl rfl ⟨c0, c1⟩ (fun hHeld => ?_)
  refine pure_ (i := 0) (N := some 3) (v := ?_) (a' := ?_) #[true, false, false, false, false, false, false, false, false, false, false, false, false] rfl rfl (by kernel_rfl) (fun _ _ _ h => h) (Or.inl ⟨by rfl, ?_⟩) ?_ ?_
  rotate_left
  · intro w'
    go_simp
    with_reducible rfl
  rotate_left
  · simp only [Act.put, List.setIfInBounds_toArray, List.set_cons_zero, List.set_cons_succ, i64_w, i32_w]
    rfl
  refine pure_ (i := 1) (N := some 4) (v := ?_) (a' := ?_) #[true, true, false, false, false, false, false, false, false, false, false, false, false] rfl rfl (by kernel_rfl) (fun _ _ _ h => h) (Or.inl ⟨by rfl, ?_⟩) ?_ ?_
  rotate_left
  · intro w'
    go_simp
    with_reducible rfl
  rotate_left
  · simp only [Act.put, List.setIfInBounds_toArray, List.set_cons_zero, List.set_cons_succ, i64_w, i32_w]
    rfl
  refine pure_ (i := 2) (N := some 5) (v := ?_) (a' := ?_) #[true, true, true, false, false, false, false, false, false, false, false, false, false] rfl rfl (by kernel_rfl) (fun _ _ _ h => h) (Or.inl ⟨by rfl, ?_⟩) ?_ ?_
  rotate_left
  · intro w'
    go_simp
    with_reducible rfl
  rotate_left
  · simp only [Act.put, List.setIfInBounds_toArray, List.set_cons_zero, List.set_cons_succ, i64_w, i32_w]
    rfl
  refine pure_ (i := 5) (N := some 8) (v := ?_) (a' := ?_) #[true, true, true, false, false, true, false, false, false, false, false, false, false] rfl rfl (by kernel_rfl) (fun _ _ _ h => h) (Or.inl ⟨by rfl, ?_⟩) ?_ ?_
  rotate_left
  · intro w'
    go_simp
    with_reducible rfl
  rotate_left
  · simp only [Act.put, List.setIfInBounds_toArray, List.set_cons_zero, List.set_cons_succ, i64_w, i32_w]
    rfl
  refine pure_ (i := 6) (N := some 9) (v := ?_) (a' := ?_) #[true, true, true, false, false, true, true, false, false, false, false, false, false] rfl rfl (by kernel_rfl) (fun _ _ _ h => h) (Or.inl ⟨by rfl, ?_⟩) ?_ ?_
  rotate_left
  · intro w'
    go_simp
    with_reducible rfl
  rotate_left
  · simp only [Act.put, List.setIfInBounds_toArray, List.set_cons_zero, List.set_cons_succ, i64_w, i32_w]
    rfl
  refine pure_ (i := 7) (N := some 10) (v := ?_) (a' := ?_) #[true, true, true, false, false, true, true, true, false, false, false, false, false] rfl rfl (by kernel_rfl) (fun _ _ _ h => h) (Or.inl ⟨by rfl, ?_⟩) ?_ ?_
  rotate_left
  · intro w'
    go_simp
    with_reducible rfl
  rotate_left
  · simp only [Act.put, List.setIfInBounds_toArray, List.set_cons_zero, List.set_cons_succ, i64_w, i32_w]
    rfl
  refine take_ (i := 3) (N := some 6) (v := ?_) (a' := ?_) #[true, true, true, true, false, true, true, true, false, false, false, false, false] rfl rfl (by kernel_rfl) (fun _ _ _ h => h) (Or.inl ⟨by rfl, ?_⟩) hHeld ?_ ?_
  rotate_left
  · rintro w' ⟨s0, s1⟩
    go_simp
    with_reducible rfl
  rotate_left
  · simp only [Act.put, List.setIfInBounds_toArray, List.set_cons_zero, List.set_cons_succ, i64_w, i32_w]
    rfl
  refine take_ (i := 8) (N := some 11) (v := ?_) (a' := ?_) #[true, true, true, true, false, true, true, true, true, false, false, false, false] rfl rfl (by kernel_rfl) (fun _ _ _ h => h) (Or.inl ⟨by rfl, ?_⟩) hHeld ?_ ?_
  rotate_left
  · rintro w' ⟨s0, s1⟩
    go_simp
    with_reducible rfl
  rotate_left
  · simp only [Act.put, List.setIfInBounds_toArray, List.set_cons_zero, List.set_cons_succ, i64_w, i32_w]
    rfl
  refine one_ (i := 4) (N := some 7) #[true, true, true, true, true, true, true, true, true, false, false, false, false] rfl rfl (by kernel_rfl) (by decide) (fun K hK => ?_)
  refine goes_ Try.func140 (by kernel_rfl) rfl #[.slice ao x.1.size cap] (by rfl) rfl rfl (by simp only [List.map_toArray, List.map_cons, List.map_nil]; rfl) ?_
  with_reducible refine (HS.out).mono ?_
  rintro e w1 ⟨v1, rfl, hv1, hB1, hn1⟩
  refine ⟨_, rfl, ?_⟩
  have d0 := hB1.cell_of c0
  have d1 := hB1.cell_of c1
  have hB1w : Below w.heap.size w w1 := ⟨hB1.os, hB1.tape, hB1.output, hB1.size, hB1.block⟩
  obtain ⟨ao1, cap1, rfl⟩ := rowB_slice hv1
  refine hK.out _ _ ⟨d0, d1⟩ (fun hHeld => ?_)
  clear hK K
  refine norm_ (a' := ?_) ?_ ?_
  rotate_left
  · show Act.put _ (some 7) _ = _
    simp only [Act.put, List.setIfInBounds_toArray, List.set_cons_zero, List.set_cons_succ, i64_w, i32_w]
    rfl
  refine one_ (i := 9) (N := some 12) #[true, true, true, true, true, true, true, true, true, true, false, false, false] rfl rfl (by kernel_rfl) (by decide) (fun K hK => ?_)
  refine goes_ Try.func141 (by kernel_rfl) rfl #[.map (some r)] (by rfl) rfl rfl (by simp only [List.map_toArray, List.map_cons, List.map_nil]; rfl) ?_
  with_reducible refine (HM.out _ hB1w).mono ?_
  rintro e w2 ⟨rfl, hm2, hB2, hz2⟩
  refine ⟨_, rfl, ?_⟩
  have e0 := hB2.cell_of d0
  have e1 := hB2.cell_of d1
  refine hK.out _ _ ⟨e0, e1⟩ (fun hHeld => ?_)
  clear hK K
  refine norm_ (a' := ?_) ?_ ?_
  rotate_left
  · show Act.put _ (some 12) _ = _
    simp only [Act.put, List.setIfInBounds_toArray, List.set_cons_zero, List.set_cons_succ, i64_w, i32_w]
    rfl
  refine pure_ (i := 10) (N := some 13) (v := ?_) (a' := ?_) #[true, true, true, true, true, true, true, true, true, true, true, false, false] rfl rfl (by kernel_rfl) (fun _ _ _ h => h) (Or.inl ⟨by rfl, ?_⟩) ?_ ?_
  rotate_left
  · intro w'
    go_simp
    with_reducible rfl
  rotate_left
  · simp only [Act.put, List.setIfInBounds_toArray, List.set_cons_zero, List.set_cons_succ, i64_w, i32_w]
    rfl
  refine one_ (i := 11) (N := some 14) #[true, true, true, true, true, true, true, true, true, true, true, true, false] rfl rfl (by kernel_rfl) (by decide) (fun K hK => ?_)
  refine value_ (w1 := ?_) (v := ?_) (by rfl) rfl ?_ ?_
  rotate_left 2
  · go_simp
    constructor
    · rfl
    · rfl
  have g0 := cell_al e0 (.cells #[.slice ao1 x.1.size cap1, .map (some w1.heap.size)] 174)
  have g1 := cell_al e1 (.cells #[.slice ao1 x.1.size cap1, .map (some w1.heap.size)] 174)
  refine hK.out _ _ ⟨g0, g1⟩ (fun hHeld => ?_)
  clear hK K
  refine norm_ (a' := ?_) ?_ ?_
  rotate_left
  · show Act.put _ (some 14) _ = _
    simp only [Act.put, List.setIfInBounds_toArray, List.set_cons_zero, List.set_cons_succ, i64_w, i32_w]
    rfl
  refine pure_ (i := 12) (N := some 2) (v := ?_) (a' := ?_) #[true, true, true, true, true, true, true, true, true, true, true, true, true] rfl rfl (by kernel_rfl) (fun _ _ _ h => h) (Or.inl ⟨by rfl, ?_⟩) ?_ ?_
  rotate_left
  · intro w'
    go_simp
    with_reducible rfl
  rotate_left
  · simp only [Act.put, List.setIfInBounds_toArray, List.set_cons_zero, List.set_cons_succ, i64_w, i32_w]
    rfl
  refine done_ (by kernel_rfl) ?_
  go_wp2
  go_ret
  have hs1 := hB1w.size
  have hn1' : ∀ k, (Value.slice ao1 x.1.size cap1).ownBlock = some k → w.heap.size ≤ k ∧ k < w1.heap.size := fun k hk => ⟨hn1 k hk, rowB_lt hv1 k hk⟩
  refine ⟨_, fun k => k = w2.heap.size ∨ (Value.slice ao1 x.1.size cap1).ownBlock = some k ∨ k = w1.heap.size, rfl, ⟨_, w1.heap.size, by rw [hp_al, if_pos (by omega)], ?_, ?_, ?_, ?_, fun k => by rw [← hz2]⟩, ?_, ?_⟩
  · exact rowB_keep hv1 (fun k hk => by have := hn1' k hk; rw [hp_al, if_neg (by omega)]; exact hB2.block k this.2)
  · exact mapS_keep hm2 (by rw [hp_al, if_neg (by omega)])
  · intro k hk
    have := hn1' k hk
    omega
  · omega
  · exact (hB1w.trans (hB2.mono hs1)).alloc (by omega) _
  · intro k hk
    rcases hk with h1 | h1 | h1
    · omega
    · exact (hn1' k h1).1
    · omega
end Go.Proofs.Ytajdlgbhofdafaa
