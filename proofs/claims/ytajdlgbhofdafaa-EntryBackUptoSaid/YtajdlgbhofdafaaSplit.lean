/- octets.Split: the contract. -/
import Derived.Test.YtajdlgbhofdafaaOct
import Derived.Test.YtajdlgbhofdafaaLittle
import Derived.Deep.RegionWith
import Derived.Deep.AppendLies
import Derived.RegionTactic
namespace Go.Proofs.Ytajdlgbhofdafaa
open Go.RowKit Go.Shelf Go.Proofs.YtajdlgbhofdafaaW.PrintWords Go.Proofs.YtajdlgbhofdafaaW.PrintLast Go.Proofs.YtajdlgbhofdafaaW.PrintMore
set_option maxRecDepth 100000

theorem R_old {α : Type} {d : Kd α} {e : Nat} {w w1 : World} {base : Nat} {v : Value} {xs : List α} (h : d.R e w base (fun _ => True) v xs) (hm : ∀ k, base ≤ k → k < w.heap.size → w1.heap[k]? = w.heap[k]?) : d.R e w1 base (fun _ => True) v xs :=
  Kd.R_mono (Kd.R_step (Kd.R_mono (ok' := fun k => base ≤ k) (Kd.R_bound h) (fun _ hk => hk.2.1)) (fun k hk hl => hm k hk hl)) (fun _ _ => trivial)
theorem R_lo {α : Type} {d : Kd α} {e : Nat} {w : World} {base : Nat} {ok : Nat → Prop} {v : Value} {xs : List α} (h : d.R e w base ok v xs) (k : Nat) (hk : v.ownBlock = some k) : base ≤ k := ((Kd.R_bound h).1 k hk).2.1

/-- A call in a region, by a contract that may end in a panic. -/
theorem callP_ {P : Program} {ops : Array Oper} {Q : Exit → Act → World → Prop} {oi : Oper} {N : Option Tmp} {a : Act} {w : World} {K : Act → World → Prop} (f : FuncId) (args : Array Value) (hw : Region.wanted oi (yielded ops a.tmps) = true) (hN : oi.dst = N) (hrun : (execOp a.eval oi).run P w = .ok (.enter f args) w)
    (h : Calls P f args w fun e w' => (∃ v, e = .returned v ∧ K (a.put N v) w') ∨ (∃ c, e = .panicked c ∧ Q (.panic c) a w')) : if Region.wanted oi (yielded ops a.tmps) = true then Oper.wp P oi a w K Q else K (a.put N undef) w := by
  rw [if_pos hw]
  subst hN
  unfold Oper.wp
  rw [hrun, Oper.upon_enter]
  refine h.mono fun e w'' hh => ?_
  rcases hh with ⟨v, rfl, hk⟩ | ⟨c, rfl, hk⟩
  · exact hk
  · exact hk

/-- Numbers of the widths off the front of bytes, and what is left. -/
def fieldsB : List Nat → ByteArray → Option (List Int × ByteArray)
  | [], b => some ([], b)
  | n :: ws, b => if b.size < n then none else (fieldsB ws (b.extract n b.size)).map fun p => ((beN (b.extract 0 n).data.toList : Int) :: p.1, p.2)

theorem fieldsB_step {o : Option (List Int × ByteArray)} {ws : List Nat} {n x : Nat} {s t : ByteArray} {xs : List Int} (h : o = (fieldsB (n :: ws) (s ++ t)).map fun p => (xs ++ p.1, p.2)) (hs : s.size = n) (hx : beN s.data.toList = x) :
    o = (fieldsB ws t).map fun p => ((xs ++ [(x : Int)]) ++ p.1, p.2) := by
  have h1 : (s ++ t).size = s.size + t.size := size_app s t
  have h2 := ext_left s t
  have h3 := ext_right s t
  rw [h, fieldsB, if_neg (by omega), ← hs, h2, h1, h3, hx]
  cases fieldsB ws t <;> simp

theorem info_u64 : (Try.prog.info? 83).map (fun i => (i.zero, i.size, i.bytes)) = some (some (.int .u64 0), 1, 8) := by kernel_rfl

/-- What the reader of Split leaves. -/
def SplitPost (w : World) (r q : Nat) (o : Option (List Int × ByteArray)) (e : Ending) (w' : World) : Prop :=
  match o with
  | some (xs, t) => e = .returned (.tuple #[]) ∧ Fr (fun k => k = r ∨ k = q) w w' ∧ w'.cell? ⟨r, 0, none⟩ = some (.string t) ∧ ∃ v, w'.cell? ⟨q, 0, none⟩ = some v ∧ Kd.R (Kd.int .u64) 83 w' w.heap.size (fun _ => True) v xs
  | none => e = .panicked shortP ∧ Fr (fun k => k = r ∨ k = q) w w'

/-- Where the reader of Split stands at a round's head. -/
def SplitAt (w : World) (r q : Nat) (ws : List Nat) (o : Option (List Int × ByteArray)) (k : Nat) (wr : World) : Prop :=
  Fr (fun k => k = r ∨ k = q) w wr ∧ ∃ t v xs, wr.cell? ⟨r, 0, none⟩ = some (.string t) ∧ wr.frozen? ⟨r, 0, none⟩ = false ∧ wr.cell? ⟨q, 0, none⟩ = some v ∧ wr.frozen? ⟨q, 0, none⟩ = false ∧ t.size ≤ 140737488351232 ∧
    Kd.R (Kd.int .u64) 83 wr w.heap.size (fun _ => True) v xs ∧ xs.length = k ∧ o = (fieldsB (ws.drop k) t).map fun p => (xs ++ p.1, p.2)

set_option maxHeartbeats 1000000 in
theorem splitfn (r p q a c : Nat) (ws : List Nat) (b : ByteArray) (w : World) (hr : w.cell? ⟨r, 0, none⟩ = some (.string b)) (hrf : w.frozen? ⟨r, 0, none⟩ = false)
    (hp : w.cell? ⟨p, 0, none⟩ = some (.slice (some ⟨a, 0, none⟩) ws.length c)) (hq : w.cell? ⟨q, 0, none⟩ = some (.slice none 0 0)) (hqf : w.frozen? ⟨q, 0, none⟩ = false)
    (ha : w.heap[a]? = some (.cells (ws.map (fun n : Nat => Value.int .i64 (n : Int))).toArray 3)) (hqr : ¬ q = r) (har : ¬ a = r) (haq : ¬ a = q) (hpr : ¬ p = r) (hpq : ¬ p = q)
    (hb : b.size ≤ 140737488351232) (h8 : ∀ n ∈ ws, n ≤ 8) (hl : ws.length ≤ 100) :
    Calls Try.prog 100 #[.pointer (some ⟨r, 0, none⟩), .pointer (some ⟨p, 0, none⟩), .pointer (some ⟨q, 0, none⟩)] w (SplitPost w r q (fieldsB ws b)) := by
  have HA := Lib.hid ha
  have HW := Lib.hid h8
  clear ha h8
  go_enter Try.func100, Try.ntmps100
  go_wp2
  have hw2 : w = w := rfl
  have hlt1 := World.block_lt_of_cell? w _ hr
  have hlt2 := World.block_lt_of_cell? w _ hq
  have hS0 : SplitAt w r q ws (fieldsB ws b) 0 w := ⟨Fr.refl _ _, b, .slice none 0 0, [], hr, hrf, hq, hqf, hb, Kd.R_nil _ _ _ _ _, rfl, by simp⟩
  have HS0 := Lib.hid hS0
  clear hS0 hw2
  go_loopw [8] (fun i wr => ∃ k : Nat, k ≤ ws.length ∧ i = .int .i64 k ∧ SplitAt w r q ws (fieldsB ws b) k wr) (fun i _ => ws.length - (intOf i).toNat)
  case atStart => exact ⟨0, Nat.zero_le _, rfl, HS0.out⟩
  case round =>
    obtain ⟨k, hk, rfl, hS⟩ := hrel
    obtain ⟨hfr, t, v, xs, hc, hcf, hv, hvf, htb, hR, hxl, ho⟩ := hS
    by_cases hlt : k < ws.length
    · obtain ⟨n, hn⟩ : ∃ n, ws[k]? = some n := ⟨ws[k], List.getElem?_eq_getElem hlt⟩
      have hal : a < w.heap.size := by
        rcases Nat.lt_or_ge a w.heap.size with h | h
        · exact h
        · have := HA.out; rw [Array.getElem?_eq_none h] at this; cases this
      have hcell : wr.cell? ⟨a, k, none⟩ = some (.int .i64 n) := by
        rw [hfr.cell (p := ⟨a, k, none⟩) hal (by simp only; omega)]
        exact cell_at HA.out (by simp [hn])
      have hn8 : n ≤ 8 := HW.out n (List.mem_of_getElem? hn)
      have hdrop : ws.drop k = n :: ws.drop (k + 1) := by
        rw [List.drop_eq_getElem_cons hlt]
        rw [List.getElem?_eq_getElem hlt] at hn
        injection hn with hn
        rw [hn]
      have HN := Lib.hid hn
      have HD := Lib.hid hdrop
      have HO := Lib.hid ho
      have HX := Lib.hid hxl
      have HR := Lib.hid hR
      have HF := Lib.hid hfr
      clear hn hdrop ho hxl hR hfr
      by_cases hs : t.size < n
      · have hfin : SplitPost w r q (fieldsB ws b) (.panicked shortP) wr.drew := by
          have e0 : fieldsB ws b = none := by rw [HO.out, HD.out, fieldsB, if_pos hs]; rfl
          rw [e0]
          exact ⟨rfl, HF.out.drew⟩
        have HFI := Lib.hid hfin
        clear hfin
        go_wp2_with fail
        refine start_ (n := 7) (S := fun w' => w'.cell? ⟨q, 0, none⟩ = some v) (ds := [6]) #[false, false, false, false, false, false, false] (by kernel_rfl) rfl rfl (hv) (fun hHeld => ?_)
        refine pure_ (i := 1) (N := some 13) (v := ?_) (a' := ?_) #[false, true, false, false, false, false, false] rfl rfl (by kernel_rfl) (fun _ _ _ h => h) (Or.inl ⟨by rfl, ?_⟩) ?_ ?_
        rotate_left
        · intro w'
          go_simp
          with_reducible rfl
        rotate_left
        · simp only [Act.put, List.setIfInBounds_toArray, List.set_cons_zero, List.set_cons_succ, i64_w, i32_w]
          rfl
        refine pure_ (i := 2) (N := some 14) (v := ?_) (a' := ?_) #[false, true, true, false, false, false, false] rfl rfl (by kernel_rfl) (fun _ _ _ h => h) (Or.inl ⟨by rfl, ?_⟩) ?_ ?_
        rotate_left
        · intro w'
          go_simp
          with_reducible rfl
        rotate_left
        · simp only [Act.put, List.setIfInBounds_toArray, List.set_cons_zero, List.set_cons_succ, i64_w, i32_w]
          rfl
        refine take_ (i := 0) (N := some 12) (v := ?_) (a' := ?_) #[true, true, true, false, false, false, false] rfl rfl (by kernel_rfl) (fun _ _ _ h => h) (Or.inl ⟨by rfl, ?_⟩) hHeld ?_ ?_
        rotate_left
        · intro w' s0
          go_simp
          with_reducible rfl
        rotate_left
        · simp only [Act.put, List.setIfInBounds_toArray, List.set_cons_zero, List.set_cons_succ, i64_w, i32_w]
          rfl
        refine one_ (i := 3) (N := some 15) #[true, true, true, true, false, false, false] rfl rfl (by kernel_rfl) (by decide) (fun K hK => ?_)
        refine callP_ 101 #[.pointer (some ⟨r, 0, none⟩), .int .i64 n] rfl rfl (by go_simp) ?_
        refine (number_short r t n wr.drew hc hs htb).mono ?_
        rintro e w' ⟨rfl, rfl⟩
        exact .inr ⟨_, rfl, rfl, HFI.out⟩
      · obtain ⟨s1, t1, hst, hsz, hs1, ht1⟩ := split_at t n (by omega)
        have HST := Lib.hid hs1
        have HTT := Lib.hid ht1
        clear hs1 ht1
        subst hst
        have htb2 : s1.size + t1.size ≤ 140737488351232 := by simpa using htb
        have hN := fun w hc hf => number_ok r s1 t1 w hc hf htb2 (by omega)
        rw [hsz] at hN
        generalize hxx : beN s1.data.toList = x at hN
        have HXX := Lib.hid hxx
        have HNN := Lib.hid hN
        have HSZ := Lib.hid hsz
        clear hxx hN htb hs hsz
        have hcd : wr.drew.cell? ⟨r, 0, none⟩ = some (.string (s1 ++ t1)) := hc
        have hcfd : wr.drew.frozen? ⟨r, 0, none⟩ = false := hcf
        go_wp2_with fail
        refine start_ (n := 7) (S := fun w' => w'.cell? ⟨q, 0, none⟩ = some v) (ds := [6]) #[false, false, false, false, false, false, false] (by kernel_rfl) rfl rfl (hv) (fun hHeld => ?_)
        refine pure_ (i := 1) (N := some 13) (v := ?_) (a' := ?_) #[false, true, false, false, false, false, false] rfl rfl (by kernel_rfl) (fun _ _ _ h => h) (Or.inl ⟨by rfl, ?_⟩) ?_ ?_
        rotate_left
        · intro w'
          go_simp
          with_reducible rfl
        rotate_left
        · simp only [Act.put, List.setIfInBounds_toArray, List.set_cons_zero, List.set_cons_succ, i64_w, i32_w]
          rfl
        refine pure_ (i := 2) (N := some 14) (v := ?_) (a' := ?_) #[false, true, true, false, false, false, false] rfl rfl (by kernel_rfl) (fun _ _ _ h => h) (Or.inl ⟨by rfl, ?_⟩) ?_ ?_
        rotate_left
        · intro w'
          go_simp
          with_reducible rfl
        rotate_left
        · simp only [Act.put, List.setIfInBounds_toArray, List.set_cons_zero, List.set_cons_succ, i64_w, i32_w]
          rfl
        refine take_ (i := 0) (N := some 12) (v := ?_) (a' := ?_) #[true, true, true, false, false, false, false] rfl rfl (by kernel_rfl) (fun _ _ _ h => h) (Or.inl ⟨by rfl, ?_⟩) hHeld ?_ ?_
        rotate_left
        · intro w' s0
          go_simp
          with_reducible rfl
        rotate_left
        · simp only [Act.put, List.setIfInBounds_toArray, List.set_cons_zero, List.set_cons_succ, i64_w, i32_w]
          rfl
        refine one_ (i := 3) (N := some 15) #[true, true, true, true, false, false, false] rfl rfl (by kernel_rfl) (by decide) (fun K hK => ?_)
        refine goes_ Try.func101 (by kernel_rfl) rfl #[.pointer (some ⟨r, 0, none⟩), .int .i64 n] (by rfl) rfl rfl (by simp only [List.map_toArray, List.map_cons, List.map_nil]; rfl) ?_
        with_reducible refine (HNN.out wr.drew hcd hcfd).mono ?_
        rintro e w1 ⟨rfl, hg, hc1, hf1⟩
        refine ⟨_, rfl, ?_⟩
        have hv1 := hg.cell hv (by simpa using hqr)
        have hvf1 := (World.frozen?_of_block (hg.block q (World.block_lt_of_cell? wr _ hv) (by simpa using hqr))).trans hvf
        refine hK.out _ _ (hv1) (fun hHeld => ?_)
        clear hK K
        refine norm_ (a' := ?_) ?_ ?_
        rotate_left
        · show Act.put _ (some 15) _ = _
          simp only [Act.put, List.setIfInBounds_toArray, List.set_cons_zero, List.set_cons_succ, i64_w, i32_w]
          rfl
        refine one_ (i := 4) (N := some 16) #[true, true, true, true, true, false, false] rfl rfl (by kernel_rfl) (by decide) (fun K hK => ?_)
        refine value_ (w1 := ?_) (v := ?_) (by rfl) rfl ?_ ?_
        rotate_left 2
        · go_simp
          constructor
          · rfl
          · rfl
        have hv2 := cell_al hv1 (.cells #[.int .u64 x] 83)
        refine hK.out _ _ (hv2) (fun hHeld => ?_)
        clear hK K
        refine norm_ (a' := ?_) ?_ ?_
        rotate_left
        · show Act.put _ (some 16) _ = _
          simp only [Act.put, List.setIfInBounds_toArray, List.set_cons_zero, List.set_cons_succ, i64_w, i32_w]
          rfl
        refine one_ (i := 5) (N := some 17) #[true, true, true, true, true, true, false] rfl rfl (by kernel_rfl) (by decide) (fun K hK => ?_)
        have FR1 := (HF.out.drew).grown hg (fun k e _ => .inl (by injection e with e; exact e.symm))
        have hRw := R_old HR.out (w1 := w1) (fun k h1 h2 => hg.block k h2 (by intro e; injection e with e; subst e; omega))
        refine Kd.R_append_step (Kd.int .u64) (w0 := w1) w.heap.size rfl (.tmp 12) (.tmp 16) 84 83 (.int .u64 0) 8 rfl Try.underlying84 info_u64 rfl (by decide) (by decide) v xs (x : Int) [.int .u64 x] (fun _ => True) (fun _ => False) rfl rfl rfl (fun _ hk => hk.elim) (fun _ _ => trivial) hRw (Below.refl _ _) FR1.size (by have := HX.out; omega) ?_
        intro v1 w3 hR3 _ hg3 _
        obtain ⟨A1, c1, rfl⟩ := Kd.R_slice hR3
        have hlo := fun k (hk : v.ownBlock = some k) => R_lo hRw k hk
        have hqo : ¬ some q = v.ownBlock := fun e => by have := hlo q e.symm; omega
        have hro : ¬ some r = v.ownBlock := fun e => by have := hlo r e.symm; omega
        have hv3 := hg3.cell hv1 hqo
        have hvf3 := (World.frozen?_of_block (hg3.block q (World.block_lt_of_cell? w1 _ hv1) hqo)).trans hvf1
        have hc3 := hg3.cell hc1 hro
        have hf3 := (World.frozen?_of_block (hg3.block r (World.block_lt_of_cell? w1 _ hc1) hro)).trans hf1
        have FR3 := FR1.grown hg3 (fun k e hk => absurd (hlo k e) (by omega))
        refine hK.out _ _ (hv3) (fun hHeld => ?_)
        clear hK K
        refine norm_ (a' := ?_) ?_ ?_
        rotate_left
        · show Act.put _ (some 17) _ = _
          simp only [Act.put, List.setIfInBounds_toArray, List.set_cons_zero, List.set_cons_succ, i64_w, i32_w]
          rfl
        refine last_ (i := 6) (N := none) #[true, true, true, true, true, true, true] rfl rfl (by kernel_rfl) (by decide) (fun K hK => ?_)
        refine skip_ (w1 := ?_) (by rfl) rfl ?_ ?_
        rotate_left
        · go_simp
          rfl
        refine hK.out _ _ ?_
        clear hK K
        refine done_ (by kernel_rfl) ?_
        have hS' : SplitAt w r q ws (fieldsB ws b) (k + 1) (w3.setCell ⟨q, 0, none⟩ (.slice A1 (xs ++ [(x : Int)]).length c1)) := by
          refine ⟨FR3.set _ _ (fun _ => .inr rfl), t1, _, xs ++ [(x : Int)], ?_, ?_, World.cell?_setCell_same' _ _ _ (by rw [hv3]; rfl), by rw [World.frozen?_setCell]; exact hvf3, by omega, ?_, by rw [List.length_append, HX.out]; rfl, fieldsB_step (by rw [HO.out, HD.out]) HSZ.out HXX.out⟩
          · rw [World.cell?_setCell_other _ _ _ _ (by intro e; have := congrArg Addr.block e; simp at this; omega)]
            exact hc3
          · rw [World.frozen?_setCell]; exact hf3
          · exact R_old hR3 (fun k h1 h2 => Below.heap_setCell _ _ _ _ (by simp only; omega))
        rw [show (xs ++ [(x : Int)]).length = xs.length + 1 from by simp] at hS'
        have HS' := Lib.hid hS'
        clear hS' FR1 FR3
        go_wp2
        go_roundw
        case rel => exact ⟨k + 1, by omega, by go_num, HS'.out⟩
        case measure => simp [intOf]; omega
    · have hfin : SplitPost w r q (fieldsB ws b) (.returned (.tuple #[])) wr := by
        rw [ho, List.drop_of_length_le (by omega)]
        refine ⟨rfl, hfr, hc, v, hv, ?_⟩
        rw [List.append_nil]
        exact hR
      have HFI := Lib.hid hfin
      clear hfin ho hR hfr hxl
      go_wp2
      go_end0
      exact HFI.out


set_option maxHeartbeats 400000 in
theorem width_ok (n : Nat) (w : World) (h : n = 1 ∨ n = 2 ∨ n = 4 ∨ n = 8) : Calls Try.prog 131 #[.int .i64 n] w fun e w' => e = .returned (.bool true) ∧ w = w' := by
  rcases h with rfl | rfl | rfl | rfl <;>
  · go_enter Try.func131, Try.ntmps131
    go_wp2
    go_ret
    exact ⟨rfl, rfl⟩

set_option maxHeartbeats 400000 in
theorem whole_ok (a c : Nat) (ws : List Nat) (w : World) (ha : w.heap[a]? = some (.cells (ws.map (fun n : Nat => Value.int .i64 (n : Int))).toArray 3)) (hw : ∀ n ∈ ws, n = 1 ∨ n = 2 ∨ n = 4 ∨ n = 8) (hl : ws.length ≤ 100) :
    Calls Try.prog 96 #[.slice (some ⟨a, 0, none⟩) ws.length c] w fun e w' => e = .returned (.bool true) ∧ w = w' := by
  have HA := Lib.hid ha
  have HW := Lib.hid hw
  clear ha hw
  go_enter Try.func96, Try.ntmps96
  go_wp2
  go_loop [7] (fun i => ∃ k : Nat, k ≤ ws.length ∧ i = .int .i64 k) (fun i => ws.length - (intOf i).toNat)
  case atStart => exact ⟨0, Nat.zero_le _, rfl⟩
  case round =>
    obtain ⟨k, hk, rfl⟩ := hrel
    by_cases hlt : k < ws.length
    · obtain ⟨n, hn⟩ : ∃ n, ws[k]? = some n := ⟨ws[k], List.getElem?_eq_getElem hlt⟩
      have hcell : w.cell? ⟨a, k, none⟩ = some (.int .i64 n) := cell_at HA.out (by simp [hn])
      have hn8 := Lib.hid (HW.out n (List.mem_of_getElem? hn))
      clear hn
      go_wp2_with (go_at_call 131; refine (width_ok n _ hn8.out).mono ?_; rintro e w' ⟨rfl, rfl⟩)
      go_round
      case rel => exact ⟨k + 1, by omega, by go_num⟩
      case measure => simp [intOf]; omega
    · go_wp2
      go_ret
      exact ⟨rfl, rfl⟩

/-- The world in which Split calls its reader: the widths, and the numbers, in variables. -/
abbrev splitW (w : World) (a n c : Nat) : World := (w.alloc (.cells #[.slice (some ⟨a, 0, none⟩) n c] 85)).alloc (.cells #[.slice none 0 0] 84)
theorem splitW_size (w : World) (a n c : Nat) : (splitW w a n c).heap.size = w.heap.size + 1 + 1 := by simp only [splitW, sz_al]
theorem splitW_0 (w : World) (a n c : Nat) : (splitW w a n c).heap[w.heap.size]? = some (.cells #[.slice (some ⟨a, 0, none⟩) n c] 85) := by
  rw [splitW, hp_al, if_neg (by simp only [sz_al]; omega), hp_al, if_pos rfl]
theorem splitW_1 (w : World) (a n c : Nat) : (splitW w a n c).heap[w.heap.size + 1]? = some (.cells #[.slice none 0 0] 84) := by
  rw [splitW, hp_al, if_pos (by simp only [sz_al])]
theorem splitW_fr (w : World) (a n c : Nat) : Fr (fun _ => False) w (splitW w a n c) := ((Fr.refl _ w).alloc _).alloc _
theorem enters_split : Enters Try.prog 100 := enters_of Try.func100 (by kernel_rfl) rfl

theorem split_read (w : World) (a c : Nat) (ws : List Nat) (b : ByteArray) (ha : w.heap[a]? = some (.cells (ws.map (fun n : Nat => Value.int .i64 (n : Int))).toArray 3))
    (hb : b.size ≤ 140737488351232) (h8 : ∀ n ∈ ws, n ≤ 8) (hl : ws.length ≤ 100) :
    Calls Try.prog 99 #[.string b, .func (.func 100) #[] #[.pointer (some ⟨w.heap.size, 0, none⟩), .pointer (some ⟨w.heap.size + 1, 0, none⟩)]] (splitW w a ws.length c) fun e w' => Below w.heap.size w w' ∧
      match fieldsB ws b with
      | some (xs, t) => e = .returned (.tuple #[.string t, .int .i64 0]) ∧ ∃ v, w'.cell? ⟨w.heap.size + 1, 0, none⟩ = some v ∧ Kd.R (Kd.int .u64) 83 w' w.heap.size (fun _ => True) v xs
      | none => e = .returned (.tuple #[.string ⟨#[]⟩, .int .i64 2]) := by
  generalize hWq : splitW w a ws.length c = W at *
  have hz : W.heap.size = w.heap.size + 1 + 1 := by rw [← hWq]; exact splitW_size _ _ _ _
  have hW0 : W.heap[w.heap.size]? = some (.cells #[.slice (some ⟨a, 0, none⟩) ws.length c] 85) := by rw [← hWq]; exact splitW_0 _ _ _ _
  have hW1 : W.heap[w.heap.size + 1]? = some (.cells #[.slice none 0 0] 84) := by rw [← hWq]; exact splitW_1 _ _ _ _
  have hWf : Fr (fun _ => False) w W := by rw [← hWq]; exact splitW_fr _ _ _ _
  have hal : a < w.heap.size := (Array.getElem?_eq_some_iff.1 ha).1
  have hr0 := rdW_2 W b
  have h0 := ((rdW_fr W b).block w.heap.size (by omega) (by simp)).trans hW0
  have h1 := ((rdW_fr W b).block (w.heap.size + 1) (by omega) (by simp)).trans hW1
  have h2 := ((rdW_fr W b).block a (by omega) (by simp)).trans ((hWf.block a hal (by simp)).trans ha)
  have hsz := rdW_size W b
  have K := splitfn (W.heap.size + 1 + 1) w.heap.size (w.heap.size + 1) a c ws b (rdW W b) (cell_at hr0 rfl) (froz_at hr0) (cell_at h0 rfl) (cell_at h1 rfl) (froz_at h1) h2 (by omega) (by omega) (by omega) (by omega) (by omega) hb h8 hl
  have g0 : Fr (fun k => w.heap.size ≤ k) w (rdW W b) := (hWf.mono (by simp)).trans ((rdW_fr W b).mono (by simp))
  generalize hq : fieldsB ws b = o at K
  cases o with
  | none =>
    refine (reading_badF _ enters_split _ _ b W (fun w1 => Fr (fun k => k = W.heap.size + 1 + 1 ∨ k = w.heap.size + 1) (rdW W b) w1) (K.mono ?_)).mono ?_
    · rintro e w' ⟨rfl, hf⟩
      exact ⟨rfl, fun k hk1 hk2 => hf.block k (by omega) (by omega), hf⟩
    · rintro e w' ⟨rfl, w1, hf, hf2⟩
      have g2 : Fr (fun k => w.heap.size ≤ k) w w' := (g0.trans (hf.mono (by intro k _ hk; omega))).trans (hf2.mono (by intro k _ hk; omega))
      exact ⟨g2.to_below (Nat.le_refl _) (by intro k hk; omega), rfl⟩
  | some p =>
    obtain ⟨xs, t⟩ := p
    refine (reading_okF _ enters_split _ _ b t W (fun w1 => Fr (fun k => k = W.heap.size + 1 + 1 ∨ k = w.heap.size + 1) (rdW W b) w1 ∧ ∃ v, w1.cell? ⟨w.heap.size + 1, 0, none⟩ = some v ∧ Kd.R (Kd.int .u64) 83 w1 (rdW W b).heap.size (fun _ => True) v xs) (K.mono ?_)).mono ?_
    · rintro e w' ⟨rfl, hf, hc, v, hv, hR⟩
      exact ⟨rfl, hc, fun k hk1 hk2 => hf.block k (by omega) (by omega), hf, v, hv, hR⟩
    · rintro e w' ⟨rfl, w1, ⟨hf, v, hv, hR⟩, hf2⟩
      have g2 : Fr (fun k => w.heap.size ≤ k) w w' := (g0.trans (hf.mono (by intro k _ hk; omega))).trans (hf2.mono (by intro k _ hk; omega))
      refine ⟨g2.to_below (Nat.le_refl _) (by intro k hk; omega), rfl, v, ?_, ?_⟩
      · rw [hf2.cell (p := ⟨w.heap.size + 1, 0, none⟩) (by have := hf.size; simp only; omega) (by simp only; omega)]
        exact hv
      · exact Kd.R_lower (R_old hR (fun k h1 h2 => hf2.block k h2 (by omega))) (by omega)

/-- What Split answers. -/
def SplitRet (w : World) (o : Option (List Int × ByteArray)) (e : Ending) (w' : World) : Prop := Below w.heap.size w w' ∧
  match o with
  | some (xs, t) => ∃ v, e = .returned (.tuple #[v, .string t, .int .i64 0]) ∧ Kd.R (Kd.int .u64) 83 w' w.heap.size (fun _ => True) v xs
  | none => e = .returned (.tuple #[.slice none 0 0, .string ⟨#[]⟩, .int .i64 2])

set_option maxHeartbeats 400000 in
theorem Split_any (a c : Nat) (ws : List Nat) (b : ByteArray) (w : World) (ha : w.heap[a]? = some (.cells (ws.map (fun n : Nat => Value.int .i64 (n : Int))).toArray 3))
    (hb : b.size ≤ 140737488351232) (hw : ∀ n ∈ ws, n = 1 ∨ n = 2 ∨ n = 4 ∨ n = 8) (hl : ws.length ≤ 100) :
    Calls Try.prog 42 #[.string b, .slice (some ⟨a, 0, none⟩) ws.length c] w (SplitRet w (fieldsB ws b)) := by
  have K := split_read w a c ws b ha hb (fun n hn => by have := hw n hn; omega) hl
  have hWh := whole_ok a c ws (w.alloc (.cells #[.slice (some ⟨a, 0, none⟩) ws.length c] 85)) (by rw [hp_al, if_neg (by have := (Array.getElem?_eq_some_iff.1 ha).1; omega)]; exact ha) hw hl
  have hmf : ∀ (fn : Fn) (first cap : Array Value) (w : World), (Instr.makeFunc fn first cap).run Try.prog w = .ok (.func fn first cap) w := fun _ _ _ _ => rfl
  generalize hq : fieldsB ws b = o at *
  clear hq
  have K' := Lib.hid K
  have HWH := Lib.hid hWh
  clear K hWh ha hw
  cases o with
  | none =>
    go_enter Try.func42, Try.ntmps42
    go_wp2_with (first | (go_at_call 96; refine HWH.out.mono ?_; rintro e w' ⟨rfl, rfl⟩) | (go_at_call 99; refine K'.out.mono ?_; rintro e w2 ⟨hB, rfl⟩))
    go_ret3
    exact ⟨hB, rfl⟩
  | some p =>
    obtain ⟨xs, t⟩ := p
    go_enter Try.func42, Try.ntmps42
    go_wp2_with (first | (go_at_call 96; refine HWH.out.mono ?_; rintro e w' ⟨rfl, rfl⟩) | (go_at_call 99; refine K'.out.mono ?_; rintro e w2 ⟨hB, rfl, v, hv, hR⟩))
    go_ret3
    exact ⟨hB, v, rfl, hR⟩

end Go.Proofs.Ytajdlgbhofdafaa
