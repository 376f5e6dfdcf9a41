/- Rows of bytes that a call has made, and strings.Builder. -/
import Derived.Test.YtajdlgbhofdafaaPackRead
import Derived.Lib.Builder
import Derived.Lib.FrozenHead
import Derived.Lib.UnsafeStr
import Derived.Shelf.RegionOpen
namespace Go.Proofs.Ytajdlgbhofdafaa
open Go.RowKit Go.Shelf
set_option maxRecDepth 100000
attribute [local go_sem] Oper.semAt_some

/-- A slice whose bytes are s, in a row of its own. -/
abbrev RowB (w : World) (v : Value) (s : ByteArray) : Prop := w.ownsRowF 0 5 1 v s.size (Lib.strCells s)

theorem strCells_app (s t : ByteArray) : Lib.strCells (s ++ t) = Lib.strCells s ++ Lib.strCells t := by
  simp [Lib.strCells]
theorem rowB_nil (w : World) : RowB w (.slice none 0 0) ⟨#[]⟩ := ⟨rfl, .inl ⟨rfl, rfl⟩⟩
theorem rowB_keep {w w' : World} {v : Value} {s : ByteArray} (h : RowB w v s) (hk : ∀ k, v.ownBlock = some k → w'.heap[k]? = w.heap[k]?) : RowB w' v s := by
  refine ⟨h.1, ?_⟩
  rcases h.2 with hn | ⟨g, cap, cur, fz, rfl, hb, hgg, rest⟩
  · exact .inl hn
  · exact .inr ⟨g, cap, cur, fz, rfl, hb, (hk g rfl).trans hgg, rest⟩
theorem rowB_slice {w : World} {v : Value} {s : ByteArray} (h : RowB w v s) : ∃ ao cap, v = .slice ao s.size cap := by
  rcases h.2 with ⟨hv, h0⟩ | ⟨g, cap, cur, fz, hv, _⟩
  · exact ⟨none, 0, by rw [hv, h0]⟩
  · exact ⟨_, _, hv⟩
theorem rowB_lt {w : World} {v : Value} {s : ByteArray} (h : RowB w v s) : ∀ k, v.ownBlock = some k → k < w.heap.size := fun k hk => (h.lt k hk).2

theorem info_byte : (Try.prog.info? 5).map (fun i => (i.zero, i.size, i.bytes)) = some (some (.int .u8 0), 1, 1) := by kernel_rfl
theorem bytes_under : Try.prog.underlying 51 = some (.slice 5) := by kernel_rfl
theorem string_under : Try.prog.underlying 9 = some .string := by kernel_rfl

/-- A string is put behind a row of bytes. -/
theorem append_str {v : Value} {s : ByteArray} (x : ByteArray) (w : World) (h : RowB w v s) (hb : s.size + x.size ≤ 140737488355328) :
    ∃ v' w', (Builtin.append_ #[51, 9] 51 #[v, .string x]).run Try.prog w = .ok v' w' ∧ RowB w' v' (s ++ x) ∧ w.grownBy w' v.ownBlock ∧
      (∀ k, v'.ownBlock = some k → v.ownBlock = some k ∨ w.heap.size ≤ k) ∧ ∃ ao cap, v' = .slice ao (s.size + x.size) cap := by
  obtain ⟨i, hi, hz⟩ := Option.map_eq_some_iff.1 info_byte
  injection hz with hz0 hz1
  injection hz1 with hz1 hz2
  obtain ⟨v', w', hr, h2, h3, h4⟩ := Lib.run_append_own_stringF (P := Try.prog) w 0 51 9 51 5 i bytes_under string_under hi hz0 hz1 hz2 v s.size (Lib.strCells s) h x (by unfold maxLen; omega) hb (Nat.zero_le _)
  refine ⟨v', w', hr, ?_, h3, ?_, ?_⟩
  · show w'.ownsRowF 0 5 1 v' (s ++ x).size (Lib.strCells (s ++ x))
    rw [size_app, strCells_app]
    exact h2
  · intro k hk
    rcases h.2 with ⟨rfl, h0⟩ | ⟨g, cap, cur, fz, rfl, hbg, hg, hfz, hnc, hcm, hcs, htake⟩
    · obtain ⟨v2, w2, hr2, h22, _⟩ := Lib.run_append_own_stringF (P := Try.prog) w w.heap.size 51 9 51 5 i bytes_under string_under hi hz0 hz1 hz2 (.slice none 0 0) s.size (Lib.strCells s) ⟨h.1, .inl ⟨rfl, h0⟩⟩ x (by unfold maxLen; omega) hb (Nat.le_refl _)
      rw [hr] at hr2
      injection hr2 with e1 e2
      subst e1
      exact .inr (h22.lt k hk).1
    · by_cases hroom : s.size + x.size ≤ cap
      · have hr2 := Lib.run_append_room_stringF (P := Try.prog) w 51 9 51 5 i bytes_under string_under hi hz1 g s.size cap cur fz hg (by simpa using hfz) x hroom (by rw [hcs]; omega)
        rw [hr] at hr2
        injection hr2 with e1 e2
        subst e1
        exact .inl hk
      · have hr2 := Lib.run_append_grow_string (P := Try.prog) w 51 9 51 5 i (.int .u8 0) bytes_under string_under hi hz0 ⟨g, 0, none⟩ s.size cap (Lib.strCells s) (by rw [hz1]; simpa using h.1) (h.cells (g := g) rfl) x (by omega) (by omega) (by rw [hz2]; exact growslice_fits (by omega) (by omega))
        rw [hr] at hr2
        injection hr2 with e1 e2
        subst e1
        simp [Value.ownBlock] at hk
        exact .inr (by omega)
  · have hs := h2.1
    rcases h2.2 with ⟨hv, h0⟩ | ⟨g, cap, cur, fz, hv, _⟩
    · exact ⟨none, 0, by rw [hv, h0]⟩
    · exact ⟨_, _, hv⟩

/-- The operation 'append', whatever it gives. -/
theorem wpList_append {P : Program} {ops : Array Oper} {rest : List Oper} {o : Oper} {a : Act} {Q : Exit → Act → World → Prop} {w w' : World} {v x v' : Value} {t u : TypeId} (hr : (Builtin.append_ #[t, u] o.type #[v, x]).run P w = .ok v' w') (hgd : o.guard = none) (sl xo : Operand)
    (ho : o.op = .call { callee := .builtin .append, args := #[sl, xo], argTypes := #[t, u] }) (hs : a.eval sl = v) (hx : a.eval xo = x)
    (h : wpList P ops Q rest (a.put o.dst v') w') : wpList P ops Q (o :: rest) a w := by
  refine wpList_plain hgd fun K hK => ?_
  unfold Oper.wp execOp
  simp only [ho, resolve, invoke, builtin, Sem.run_bind, Sem.run_pure, Result.andThen_ok, List.map_toArray, List.map_cons, List.map_nil, hs, hx, hr]
  exact hK _ _ h

/-- What a call owns, and what it may change of it: the rest stands as it stood. -/
structure Ch (O O' : Nat → Prop) (a b : World) : Prop where
  fr : Fr O a b
  new : ∀ k, O' k → O k ∨ a.heap.size ≤ k
namespace Ch
variable {O O' O'' : Nat → Prop} {a b c : World}
theorem refl (O : Nat → Prop) (a : World) : Ch O O a a := ⟨Fr.refl _ _, fun _ h => .inl h⟩
theorem trans (h : Ch O O' a b) (k : Ch O' O'' b c) : Ch O O'' a c := by
  have hs := h.fr.size
  refine ⟨⟨k.fr.os.trans h.fr.os, k.fr.tape.trans h.fr.tape, k.fr.output.trans h.fr.output, Nat.le_trans hs k.fr.size, fun i hi hn => (k.fr.block i (by omega) ?_).trans (h.fr.block i hi hn)⟩, fun j hj => ?_⟩
  · intro ho
    rcases h.new i ho with h1 | h1
    · exact hn h1
    · omega
  · rcases k.new j hj with h1 | h1
    · exact h.new j h1
    · exact .inr (by omega)
theorem below (h : Ch O O' a b) (k : Below b.heap.size b c) : Ch O O' a c := ⟨h.fr.below k, h.new⟩
theorem to_below {B : Nat} (h : Ch O O' a b) (hB : B ≤ a.heap.size) (hO : ∀ k, O k → B ≤ k) : Below B a b := h.fr.to_below hB (fun k hk hn => by have := hO k hn; omega)
/-- What lies outside of what was owned is not owned later. -/
theorem not_own (h : Ch O O' a b) {k : Nat} (hk : k < a.heap.size) (hn : ¬ O k) : ¬ O' k := fun ho => by
  rcases h.new k ho with h1 | h1
  · exact hn h1
  · omega
end Ch
/-- A predicate on what is owned that nothing outside disturbs. -/
def Stab {α : Type} (J : α → (Nat → Prop) → World → Prop) : Prop :=
  ∀ x O a b, J x O a → (∀ k, O k → k < a.heap.size → b.heap[k]? = a.heap[k]?) → J x O b

/-- A builder at block b that holds s. -/
def BldAt (b : Nat) (s : ByteArray) (O : Nat → Prop) (w : World) : Prop :=
  ∃ p v, (p = .pointer none ∨ p = .pointer (some ⟨b, 0, none⟩)) ∧ w.heap[b]? = some (.cells #[p, v] 152 (0, 0)) ∧ RowB w v s ∧ (∀ k, v.ownBlock = some k → k ≠ b) ∧ ∀ k, O k ↔ (k = b ∨ v.ownBlock = some k)
theorem bldAt_stab (b : Nat) : Stab (BldAt b) := by
  rintro s O a b' ⟨p, v, hp, hb, hv, hne, hO⟩ hk
  have hlt : b < a.heap.size := (Array.getElem?_eq_some_iff.1 hb).1
  exact ⟨p, v, hp, (hk b ((hO b).2 (.inl rfl)) hlt).trans hb, rowB_keep hv (fun k h => hk k ((hO k).2 (.inr h)) (rowB_lt hv k h)), hne, hO⟩
theorem bldAt_lt {b : Nat} {s : ByteArray} {O : Nat → Prop} {w : World} (h : BldAt b s O w) : ∀ k, O k → k < w.heap.size := by
  obtain ⟨p, v, hp, hb, hv, hne, hO⟩ := h
  intro k hk
  rcases (hO k).1 hk with rfl | h1
  · exact (Array.getElem?_eq_some_iff.1 hb).1
  · exact rowB_lt hv k h1
theorem bldAt_new (w : World) : BldAt w.heap.size ⟨#[]⟩ (fun k => k = w.heap.size) (w.alloc (.cells #[.pointer none, .slice none 0 0] 152)) :=
  ⟨_, _, .inl rfl, by rw [hp_al, if_pos rfl], rowB_nil _, fun k h => by simp [Value.ownBlock] at h, fun k => by simp [Value.ownBlock]⟩

theorem heap_set {w : World} {b i : Nat} {cs : Array Value} {t : TypeId} {fz : Nat × Nat} {v : Value} (h : w.heap[b]? = some (.cells cs t fz)) : (w.setCell ⟨b, i, none⟩ v).heap[b]? = some (.cells (cs.setIfInBounds i v) t fz) := by
  simp only [World.setCell, Array.getElem?_modify, if_true, h, Option.map_some]
  rfl
theorem info_bld : (Try.prog.info? 152).map (·.size) = some 2 := by kernel_rfl
theorem ptr_bld_under : Try.prog.underlying 150 = some (.pointer 152) := by kernel_rfl
theorem uptr_under : Try.prog.underlying 223 = some .unsafePointer := by kernel_rfl
theorem lies_bld : liesAt Try.prog Try.prog.depth 152 (2 / Try.prog.cellsOf 152) 0 152 1 = true := by kernel_rfl

set_option maxHeartbeats 1000000 in
theorem copyCheck_any (b : Nat) (p v : Value) (w : World) (hp : p = .pointer none ∨ p = .pointer (some ⟨b, 0, none⟩)) (hb : w.heap[b]? = some (.cells #[p, v] 152 (0, 0))) :
    Calls Try.prog 130 #[.pointer (some ⟨b, 0, none⟩)] w fun e w' => e = .returned (.tuple #[]) ∧ w'.heap[b]? = some (.cells #[.pointer (some ⟨b, 0, none⟩), v] 152 (0, 0)) ∧ Fr (fun k => k = b) w w' := by
  obtain ⟨j, hj, hjs⟩ := Option.map_eq_some_iff.1 info_bld
  have c0 : w.cell? ⟨b, 0, none⟩ = some p := cell_at hb rfl
  have f0 : w.frozen? ⟨b, 0, none⟩ = false := froz_at hb
  rcases hp with rfl | rfl
  · have hsh : w.shape? b = some (152, 2) := by simp [World.shape?, hb]
    have hfin : (w.setCell ⟨b, 0, none⟩ (.pointer (some ⟨b, 0, none⟩))).heap[b]? = some (.cells #[.pointer (some ⟨b, 0, none⟩), v] 152 (0, 0)) := by
      rw [heap_set hb]; rfl
    go_enter Try.func130, Try.ntmps130
    go_wp2
    rw [Lib.run_to_unsafe w ⟨b, 0, none⟩ ptr_bld_under uptr_under hj (by rw [hjs]; decide) hsh (Nat.zero_lt_succ 1)]
    simp only [Result.andThen]
    rw [Oper.upon_value]
    go_wp2
    rw [run_callFunc_extern Try.func152 (by kernel_rfl) (by kernel_rfl) (by kernel_rfl) (e := Extern.AbiNoEscape.same) (by kernel_rfl)]
    rw [Lib.run_noEscape]
    simp only [Result.andThen]
    rw [Oper.upon_value]
    go_wp2
    rw [Lib.run_from_unsafe w ⟨b, 0, none⟩ uptr_under ptr_bld_under hj hsh lies_bld]
    simp only [Result.andThen]
    rw [Oper.upon_value]
    go_wp2
    go_end0
    exact ⟨rfl, hfin, (Fr.refl _ w).set _ _ (fun _ => rfl)⟩
  · go_enter Try.func130, Try.ntmps130
    go_wp2
    rw [Lib.run_neq_ptr_same w _ ptr_bld_under hj]
    go_wp2
    go_end0
    exact ⟨rfl, hb, Fr.refl _ _⟩

/-- A struct in block b whose cell i is a row of bytes: the row is another one, and the cell. -/
theorem row_put {b i : Nat} {cs : Array Value} {T : TypeId} {s x : ByteArray} {v v' : Value} {w w1 w2 : World} (hf1 : Fr (fun k => k = b) w w1) (hlt : b < w.heap.size) (hb1 : w1.heap[b]? = some (.cells cs T (0, 0)))
    (hv : RowB w v s) (hne : ∀ k, v.ownBlock = some k → k ≠ b) (hv2 : RowB w2 v' (s ++ x)) (hg2 : w1.grownBy w2 v.ownBlock) (hnew : ∀ k, v'.ownBlock = some k → v.ownBlock = some k ∨ w1.heap.size ≤ k) :
    w2.heap[b]? = some (.cells cs T (0, 0)) ∧ (w2.setCell ⟨b, i, none⟩ v').heap[b]? = some (.cells (cs.setIfInBounds i v') T (0, 0)) ∧ RowB (w2.setCell ⟨b, i, none⟩ v') v' (s ++ x) ∧ (∀ k, v'.ownBlock = some k → k ≠ b) ∧
      Ch (fun k => k = b ∨ v.ownBlock = some k) (fun k => k = b ∨ v'.ownBlock = some k) w (w2.setCell ⟨b, i, none⟩ v') := by
  have hlt1 : b < w1.heap.size := (Array.getElem?_eq_some_iff.1 hb1).1
  have hb2 : w2.heap[b]? = some (.cells cs T (0, 0)) := (hg2.block b hlt1 (fun e => hne b e.symm rfl)).trans hb1
  have hne' : ∀ k, v'.ownBlock = some k → k ≠ b := by
    intro k hk e
    subst e
    rcases hnew k hk with h1 | h1
    · exact hne k h1 rfl
    · omega
  refine ⟨hb2, heap_set hb2, rowB_keep hv2 (fun k hk => Below.heap_setCell _ _ _ _ (fun e => hne' k hk (by simpa using e))), hne', ?_, ?_⟩
  · exact ((hf1.mono (fun k _ h => .inl h)).grown hg2 (fun k hk _ => .inr hk)).set _ _ (fun _ => .inl rfl)
  · intro k hk
    have := hf1.size
    rcases hk with rfl | hk
    · exact .inl (.inl rfl)
    · rcases hnew k hk with h1 | h1
      · exact .inl (.inr h1)
      · exact .inr (by omega)

set_option maxHeartbeats 1000000 in
theorem WriteString_any (b : Nat) (s x : ByteArray) (O : Nat → Prop) (w : World) (h : BldAt b s O w) (hb : s.size + x.size ≤ 140737488355328) :
    Calls Try.prog 93 #[.pointer (some ⟨b, 0, none⟩), .string x] w fun e w' => e = .returned (.tuple #[.int .i64 x.size, .nilIface]) ∧ ∃ O', BldAt b (s ++ x) O' w' ∧ Ch O O' w w' := by
  obtain ⟨p, v, hp, hbk, hv, hne, hO⟩ := h
  have hC := copyCheck_any b p v w hp hbk
  have hlt : b < w.heap.size := (Array.getElem?_eq_some_iff.1 hbk).1
  go_enter Try.func93, Try.ntmps93
  go_wp2_with (first | (go_at_call 130; refine hC.mono ?_; rintro e w1 ⟨rfl, hb1, hf1⟩; have c1 : w1.cell? ⟨b, 1, none⟩ = some v := cell_at hb1 rfl) | (at_builtin; have hv1 : RowB w1 v s := rowB_keep hv (fun k hk => hf1.block k (rowB_lt hv k hk) (hne k hk)); obtain ⟨v', w2, hap, hv2, hg2, hnew, ao, cap, hsl⟩ := append_str x w1 hv1 hb; subst hsl; obtain ⟨hb2, hb3, hv3, hne3, hch⟩ := row_put (i := 1) hf1 hlt hb1 hv hne hv2 hg2 hnew; have f2 : w2.frozen? ⟨b, 1, none⟩ = false := froz_at hb2; have c2 : w2.cell? ⟨b, 1, none⟩ = some v := cell_at hb2 rfl; have c20 : w2.cell? ⟨b, 0, none⟩ = some (.pointer (some ⟨b, 0, none⟩)) := cell_at hb2 rfl; clear hb hC hv1 hnew; refine wpList_append hap rfl _ _ rfl rfl rfl ?_))
  go_ret2
  exact ⟨rfl, _, ⟨_, _, .inr rfl, hb3, hv3, hne3, fun k => Iff.rfl⟩, hch.fr.mono (fun k _ h => (hO k).2 h), fun k hk => (hch.new k hk).imp_left (hO k).2⟩

set_option maxHeartbeats 1000000 in
theorem BLen_any (b : Nat) (s : ByteArray) (O : Nat → Prop) (w : World) (h : BldAt b s O w) :
    Calls Try.prog 146 #[.pointer (some ⟨b, 0, none⟩)] w fun e w' => e = .returned (.int .i64 s.size) ∧ w' = w := by
  obtain ⟨p, v, hp, hbk, hv, hne, hO⟩ := h
  obtain ⟨ao, cap, rfl⟩ := rowB_slice hv
  have c1 : w.cell? ⟨b, 1, none⟩ = some (.slice ao s.size cap) := cell_at hbk rfl
  go_enter Try.func146, Try.ntmps146
  go_wp2
  go_ret
  exact ⟨rfl, rfl⟩

theorem ptr_u8_under : Try.prog.underlying 198 = some (.pointer 5) := by kernel_rfl
theorem cells_u8 : Try.prog.cellsOf 5 = 1 := by kernel_rfl

/-- What String makes of a builder: its bytes; the world but for new blocks, and the bytes' block frozen. -/
theorem rowB_read {w : World} {v : Value} {s : ByteArray} (h : RowB w v s) : ∀ g cap n, v = .slice (some ⟨g, 0, none⟩) n cap → ∀ j x, s.data.toList[j]? = some x → w.cell? ((⟨g, 0, none⟩ : Addr).add j) = some (.int .u8 x.toNat) := by
  intro g cap n hv j x hx
  exact h.cells (g := g) (by rw [hv]; rfl) j _ (by rw [Lib.strCells, List.getElem?_map, hx]; rfl)

theorem Fr.freeze {S : Nat → Prop} {a w : World} (h : Fr S a w) (p : Addr) (n : Nat) (hp : p.block < a.heap.size → S p.block) : Fr S a (w.freeze p n) := by
  unfold World.freeze
  split
  · exact h
  · exact ⟨h.os, h.tape, h.output, by have := h.size; simpa using this, fun k hk hn => by
      have hne : p.block ≠ k := fun e => by subst e; exact hn (hp hk)
      rw [← h.block k hk hn]
      simp only [Array.getElem?_modify]
      rw [if_neg hne]⟩

set_option maxHeartbeats 2000000 in
theorem BString_any (b : Nat) (s : ByteArray) (O : Nat → Prop) (w : World) (h : BldAt b s O w) :
    Calls Try.prog 94 #[.pointer (some ⟨b, 0, none⟩)] w fun e w' => e = .returned (.string s) ∧ Fr O w w' := by
  obtain ⟨p, v, hp, hbk, hv, hne, hO⟩ := h
  have hlt : b < w.heap.size := (Array.getElem?_eq_some_iff.1 hbk).1
  rcases hv.2 with ⟨rfl, h0⟩ | ⟨g, cap, cur, fz, rfl, hbg, hg, hfz, hnc, hcm, hcs, htake⟩
  · have hs0 := size0 h0
    subst hs0
    have c1 : w.drew.cell? ⟨b, 1, none⟩ = some (.slice none 0 0) := cell_at (w := w.drew) (fz := (0, 0)) hbk rfl
    have hSD : (Builtin.unsafeSliceData_ #[51] 198 #[.slice none 0 0]).run Try.prog w.drew = .ok (.pointer none) w.drew := rfl
    have hUS : ∀ w, (Builtin.unsafeString_ #[198, 3] 9 #[.pointer none, .int .i64 0]).run Try.prog w = .ok (.string .empty) w := fun w => Lib.run_unsafeString_none w _ _ _ _
    go_enter Try.func94, Try.ntmps94
    go_wp2
    go_region
    all_goals (go_wp2; go_ret; exact ⟨rfl, (Fr.refl _ w).drew⟩)
  · have hne' : ∀ k, k = g → O k := fun k e => (hO k).2 (.inr (by rw [e]; rfl))
    by_cases h0 : s.size = 0
    · have hs0 := size0 h0
      subst hs0
      have hUS : ∀ w p, (Builtin.unsafeString_ #[198, 3] 9 #[.pointer p, .int .i64 0]).run Try.prog w = .ok (.string .empty) w := fun w p => Lib.run_unsafeString_none w _ _ _ _
      have c1 : w.drew.cell? ⟨b, 1, none⟩ = some (.slice (some ⟨g, 0, none⟩) 0 cap) := cell_at (w := w.drew) (fz := (0, 0)) hbk rfl
      by_cases hc0 : cap = 0
      · subst hc0
        have hSD : (Builtin.unsafeSliceData_ #[51] 198 #[.slice (some ⟨g, 0, none⟩) 0 0]).run Try.prog w.drew = .ok (.pointer (some ⟨w.drew.heap.size, 0, none⟩)) (w.drew.alloc (.view ⟨g, 0, none⟩ 5)) :=
          Lib.run_unsafeSliceData_zero w.drew _ _ 5 ptr_u8_under ⟨g, 0, none⟩ 0 (5, cur.size) (by have hg' : w.drew.heap[g]? = some (.cells cur 5 fz) := hg; simp [World.shape?, hg'])
        have c2 : (w.drew.alloc (.view ⟨g, 0, none⟩ 5)).cell? ⟨b, 1, none⟩ = some (.slice (some ⟨g, 0, none⟩) 0 0) := by
          have : (w.drew.alloc (.view ⟨g, 0, none⟩ 5)).heap[b]? = _ := (Lib.alloc_old w.drew _ b hlt).trans hbk
          rw [Lib.cell_of_heap this]; rfl
        have c3 : (w.alloc (.view ⟨g, 0, none⟩ 5)).drew.cell? ⟨b, 1, none⟩ = some (.slice (some ⟨g, 0, none⟩) 0 0) := c2
        have c0 : w.cell? ⟨b, 1, none⟩ = some (.slice (some ⟨g, 0, none⟩) 0 0) := c1
        go_enter Try.func94, Try.ntmps94
        go_wp2
        go_region
        all_goals (go_wp2; go_ret; exact ⟨rfl, (Fr.refl _ w).drew.alloc _⟩)
      · have hSD : (Builtin.unsafeSliceData_ #[51] 198 #[.slice (some ⟨g, 0, none⟩) 0 cap]).run Try.prog w.drew = .ok (.pointer (some ⟨g, 0, none⟩)) w.drew :=
          Lib.run_unsafeSliceData_row _ _ _ _ _ _ hc0
        clear hc0
        go_enter Try.func94, Try.ntmps94
        go_wp2
        go_region
        all_goals (go_wp2; go_ret; exact ⟨rfl, (Fr.refl _ w).drew⟩)
    · have c1 : w.drew.cell? ⟨b, 1, none⟩ = some (.slice (some ⟨g, 0, none⟩) s.size cap) := cell_at (w := w.drew) (fz := (0, 0)) hbk rfl
      have hSD : (Builtin.unsafeSliceData_ #[51] 198 #[.slice (some ⟨g, 0, none⟩) s.size cap]).run Try.prog w.drew = .ok (.pointer (some ⟨g, 0, none⟩)) w.drew :=
        Lib.run_unsafeSliceData_row _ _ _ _ _ _ (by omega)
      have hsl : s.data.toList.length = s.size := by simp
      have hUS : (Builtin.unsafeString_ #[198, 3] 9 #[.pointer (some ⟨g, 0, none⟩), .int .i64 s.size]).run Try.prog w.drew = .ok (.string s) (w.drew.freeze ⟨g, 0, none⟩ s.size) := by
        have K := Lib.run_unsafeString_row (P := Try.prog) w.drew 198 3 9 5 ptr_u8_under cells_u8 g cur.size (by have hg' : w.drew.heap[g]? = some (.cells cur 5 fz) := hg; simp [World.shape?, hg']) s.data.toList (by intro h; rw [h] at hsl; simp at hsl; omega) (by omega) (by unfold maxLen at hcm; omega) (rowB_read hv g cap s.size rfl)
        rw [hsl] at K
        exact K
      have hfr : Fr O w (w.drew.freeze ⟨g, 0, none⟩ s.size) := (Fr.refl _ w).drew.freeze _ _ (fun _ => hne' _ rfl)
      clear htake hv hcs hfz hnc hcm
      go_enter Try.func94, Try.ntmps94
      go_wp2
      go_region
      all_goals (go_wp2; go_ret; exact ⟨rfl, hfr⟩)

/-! ### The packer's bytes -/
set_option maxHeartbeats 1000000 in
theorem Raw_any (b : Nat) (s x : ByteArray) (v m : Value) (w : World) (hbk : w.heap[b]? = some (.cells #[v, m] 174 (0, 0))) (hv : RowB w v s) (hne : ∀ k, v.ownBlock = some k → k ≠ b) (hb : s.size + x.size ≤ 140737488355328) :
    Calls Try.prog 62 #[.pointer (some ⟨b, 0, none⟩), .string x] w fun e w' => e = .returned (.tuple #[]) ∧ ∃ v', w'.heap[b]? = some (.cells #[v', m] 174 (0, 0)) ∧ RowB w' v' (s ++ x) ∧ (∀ k, v'.ownBlock = some k → k ≠ b) ∧
      Ch (fun k => k = b ∨ v.ownBlock = some k) (fun k => k = b ∨ v'.ownBlock = some k) w w' := by
  have hlt : b < w.heap.size := (Array.getElem?_eq_some_iff.1 hbk).1
  have c1 : w.cell? ⟨b, 0, none⟩ = some v := cell_at hbk rfl
  obtain ⟨v', w2, hap, hv2, hg2, hnew, ao, cap, hsl⟩ := append_str x w hv hb
  subst hsl
  obtain ⟨hb2, hb3, hv3, hne3, hch⟩ := row_put (i := 0) (Fr.refl _ w) hlt hbk hv hne hv2 hg2 hnew
  have f2 : w2.frozen? ⟨b, 0, none⟩ = false := froz_at hb2
  have c2 : w2.cell? ⟨b, 0, none⟩ = some v := cell_at hb2 rfl
  have hap' := Lib.hid hap
  clear hb hnew hap hv2 hg2 hv hne
  go_enter Try.func62, Try.ntmps62
  go_wp2_with (at_builtin; refine wpList_append hap'.out rfl _ _ rfl rfl rfl ?_)
  go_end0
  exact ⟨rfl, _, hb3, hv3, hne3, hch⟩

set_option maxHeartbeats 1000000 in
theorem PLen_any (b n : Nat) (ao : Option Addr) (cap : Nat) (m : Value) (w : World) (hbk : w.heap[b]? = some (.cells #[.slice ao n cap, m] 174 (0, 0))) :
    Calls Try.prog 65 #[.pointer (some ⟨b, 0, none⟩)] w fun e w' => e = .returned (.int .i64 n) ∧ w' = w := by
  have c1 : w.cell? ⟨b, 0, none⟩ = some (.slice ao n cap) := cell_at hbk rfl
  go_enter Try.func65, Try.ntmps65
  go_wp2
  go_ret
  exact ⟨rfl, rfl⟩
end Go.Proofs.Ytajdlgbhofdafaa
