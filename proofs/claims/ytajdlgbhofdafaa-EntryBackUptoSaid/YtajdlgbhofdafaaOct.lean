/- octets: each function's contract. -/
import Derived.Test.YtajdlgbhofdafaaProg
import Derived.Test.YtajdlgbhofdafaaBase
import Derived.Recover
import Derived.Shelf.Abstract
namespace Go.Proofs.Ytajdlgbhofdafaa
open Go.RowKit Go.Shelf
set_option maxRecDepth 100000

/-- What octets panics with where bytes are lacking. -/
def shortP : List PanicEntry := [{ v := .iface 200 (.agg #[]), recovered := false }]

set_option maxHeartbeats 400000 in
theorem take_ok (B : Nat) (s t : ByteArray) (w : World) (hc : w.cell? ⟨B, 0, none⟩ = some (.string (s ++ t))) (hf : w.frozen? ⟨B, 0, none⟩ = false)
   (hb : s.size + t.size ≤ 140737488351232) :
    Calls Try.prog 133 #[.pointer (some ⟨B, 0, none⟩), .int .i64 s.size] w fun e w' => e = .returned (.string s) ∧ w' = w.setCell ⟨B, 0, none⟩ (.string t) := by
  have h1 := ext_left s t
  have h2 := ext_right s t
  have hz := size_app s t
  generalize s ++ t = S at *
  have hle : s.size ≤ S.size := by omega
  have hb2 : S.size ≤ 140737488351232 := by omega
  rw [← hz] at h2
  have H1 := Lib.hid h1
  have H2 := Lib.hid h2
  clear h1 h2 hz
  go_enter Try.func133, Try.ntmps133
  go_wp2
  go_ret
  exact ⟨ret_str H1.out, congrArg (fun x => w.setCell ⟨B, 0, none⟩ (.string x)) H2.out⟩

set_option maxHeartbeats 400000 in
theorem take_short (B : Nat) (b : ByteArray) (n : Nat) (w : World) (hc : w.cell? ⟨B, 0, none⟩ = some (.string b))
   (hn : b.size < n) (hb : b.size ≤ 140737488351232)  :
    Calls Try.prog 133 #[.pointer (some ⟨B, 0, none⟩), .int .i64 n] w fun e w' => e = .panicked shortP ∧ w' = w := by
  go_enter Try.func133, Try.ntmps133
  go_wp2
  exact ⟨rfl, rfl, rfl⟩


set_option maxHeartbeats 400000 in
theorem number_ok (B : Nat) (s t : ByteArray) (w : World) (hc : w.cell? ⟨B, 0, none⟩ = some (.string (s ++ t))) (hf : w.frozen? ⟨B, 0, none⟩ = false)
   (hb : s.size + t.size ≤ 140737488351232) (hn8 : s.size ≤ 8) :
    Calls Try.prog 101 #[.pointer (some ⟨B, 0, none⟩), .int .i64 s.size] w fun e w' => e = .returned (.int .u64 (beN s.data.toList)) ∧ w.grownBy w' (some B) ∧ w'.cell? ⟨B, 0, none⟩ = some (.string t) ∧ w'.frozen? ⟨B, 0, none⟩ = false := by
  have hBlt : B < w.heap.size := World.block_lt_of_cell? w _ hc
  have hcv := fun (w : World) (s : ByteArray) => Lib.run_convert_string_bytes (P := Try.prog) w 9 51 5 s Try.underlying9 Try.underlying51 Try.underlying5
  go_enter Try.func101, Try.ntmps101
  go_wp2_with (go_at_call 133; refine (take_ok B s t _ hc hf hb).mono ?_; rintro e w' ⟨rfl, rfl⟩)
  clear hcv
  generalize hw2 : Lib.bytesWorld _ _ _ = w2
  have hcell : ∀ k, k < s.size → w2.cell? ⟨w.heap.size, k, none⟩ = some (.int .u8 (s.data.toList.getD k 0).toNat) := by
    intro k hk
    rw [← hw2, ← Lib.bytesWorld_cell (w.setCell ⟨B, 0, none⟩ (.string t)) 5 s k hk, size_set]
  have hfin : w.grownBy w2 (some B) ∧ w2.cell? ⟨B, 0, none⟩ = some (.string t) ∧ w2.frozen? ⟨B, 0, none⟩ = false := by
    rw [← hw2]
    refine ⟨grown_trans (grown_set w ⟨B, 0, none⟩ _) (grown_bytes _ _ _ _), ?_, ?_⟩
    · rw [Lib.bytesWorld_old _ _ _ _ (by rw [size_set]; exact hBlt)]
      exact World.cell?_setCell_same' _ _ _ (by rw [hc]; rfl)
    · rw [World.frozen?_of_block (Lib.bytesWorld_at_old _ _ _ B (by rw [size_set]; exact hBlt)), World.frozen?_setCell]
      exact hf
  have HW2 := Lib.hid hfin
  have HC := Lib.hid hcell
  clear hcell hfin hw2
  go_loop [5, 13] (fun v i => ∃ k : Nat, k ≤ s.size ∧ i = .int .i64 k ∧ v = .int .u64 (beN (s.data.toList.take k))) (fun _ i => s.size - (intOf i).toNat)
  case atStart => exact ⟨0, Nat.zero_le _, rfl, rfl⟩
  case round =>
    obtain ⟨k, hk, rfl, rfl⟩ := hrel
    by_cases hlt : k < s.size
    · have hcell := HC.out k hlt
      generalize hd : s.data.toList.getD k 0 = d at hcell
      go_wp2
      go_round
      case rel =>
        refine ⟨k + 1, by omega, by go_num, ?_⟩
        rw [take_snoc_byte s k hlt, hd, beN_snoc, num_step _ _ (Nat.lt_of_lt_of_le (beN_lt _) (by
          rw [show (2 : Nat) ^ 56 = 256 ^ 7 from by decide]
          refine Nat.pow_le_pow_right (by omega) ?_
          have := List.length_take_le k s.data.toList
          omega))]
      case measure => simp [intOf]; omega
    · go_wp2
      go_ret
      exact ⟨ret_int (by rw [List.take_of_length_le (by simp; omega)]), HW2.out⟩


set_option maxHeartbeats 400000 in
theorem number_short (B : Nat) (b : ByteArray) (n : Nat) (w : World) (hc : w.cell? ⟨B, 0, none⟩ = some (.string b))
   (hn : b.size < n) (hb : b.size ≤ 140737488351232)  :
    Calls Try.prog 101 #[.pointer (some ⟨B, 0, none⟩), .int .i64 n] w fun e w' => e = .panicked shortP ∧ w' = w := by
  go_enter Try.func101, Try.ntmps101
  go_wp2_with (go_at_call 133; refine (take_short B b n _ hc hn hb).mono ?_; rintro e w' ⟨rfl, rfl⟩)
  exact ⟨rfl, rfl, rfl⟩


set_option maxHeartbeats 400000 in
theorem cut_ok (B : Nat) (h s t : ByteArray) (w : World) (hc : w.cell? ⟨B, 0, none⟩ = some (.string (h ++ (s ++ t)))) (hf : w.frozen? ⟨B, 0, none⟩ = false)
   (hb : h.size + (s.size + t.size) ≤ 140737488351232) (hn8 : h.size ≤ 4) (hs : beN h.data.toList = s.size) :
    Calls Try.prog 135 #[.pointer (some ⟨B, 0, none⟩), .int .i64 h.size] w fun e w' => e = .returned (.string s) ∧ w.grownBy w' (some B) ∧ w'.cell? ⟨B, 0, none⟩ = some (.string t) ∧ w'.frozen? ⟨B, 0, none⟩ = false := by
  have hz := size_app s t
  have HN := number_ok B h (s ++ t) w hc hf (by omega) (by omega)
  have HT := fun w => take_ok B s t w
  rw [hs] at HN
  generalize s ++ t = S at *
  clear hs hc hf
  go_enter Try.func135, Try.ntmps135
  go_wp2_with (first | (go_at_call 101; refine HN.mono ?_; rintro e w1 ⟨rfl, hg, hc1, hf1⟩) | (go_at_call 133; refine (HT _ hc1 hf1 (by omega)).mono ?_; rintro e w2 ⟨rfl, rfl⟩))
  go_ret
  refine ⟨rfl, grown_trans hg (grown_set w1 ⟨B, 0, none⟩ _), World.cell?_setCell_same' _ _ _ (by rw [hc1]; rfl), by rw [World.frozen?_setCell]; exact hf1⟩


set_option maxHeartbeats 400000 in
theorem cut_short (B : Nat) (b : ByteArray) (n : Nat) (w : World) (hc : w.cell? ⟨B, 0, none⟩ = some (.string b))
   (hn : b.size < n) (hb : b.size ≤ 140737488351232)  :
    Calls Try.prog 135 #[.pointer (some ⟨B, 0, none⟩), .int .i64 n] w fun e w' => e = .panicked shortP ∧ w.grownBy w' (some B) := by
  go_enter Try.func135, Try.ntmps135
  go_wp2_with (go_at_call 101; refine (number_short B b n _ hc hn hb).mono ?_; rintro e w' ⟨rfl, rfl⟩)
  exact ⟨rfl, rfl, ⟨rfl, rfl, rfl, Nat.le_refl _, fun _ _ _ => rfl⟩⟩


set_option maxHeartbeats 400000 in
theorem cut_long (B : Nat) (h t : ByteArray) (w : World) (hc : w.cell? ⟨B, 0, none⟩ = some (.string (h ++ t))) (hf : w.frozen? ⟨B, 0, none⟩ = false)
   (hb : h.size + t.size ≤ 140737488351232) (hn8 : h.size ≤ 4) (hs : t.size < beN h.data.toList) :
    Calls Try.prog 135 #[.pointer (some ⟨B, 0, none⟩), .int .i64 h.size] w fun e w' => e = .panicked shortP ∧ w.grownBy w' (some B) := by
  have HN := number_ok B h t w hc hf (by omega) (by omega)
  generalize beN h.data.toList = v at *
  clear hc hf
  go_enter Try.func135, Try.ntmps135
  go_wp2_with (go_at_call 101; refine HN.mono ?_; rintro e w1 ⟨rfl, hg, hc1, hf1⟩)
  exact ⟨rfl, rfl, hg⟩


set_option maxHeartbeats 400000 in
theorem catch_short (P Q : Nat) (x y : Value) (w : World) (hp : w.cell? ⟨P, 0, none⟩ = some x) (hpz : w.frozen? ⟨P, 0, none⟩ = false) (hq : w.cell? ⟨Q, 0, none⟩ = some y) (hqz : w.frozen? ⟨Q, 0, none⟩ = false) (hne : ¬ P = Q) :
    CallsD Try.prog 132 #[.pointer (some ⟨P, 0, none⟩), .pointer (some ⟨Q, 0, none⟩)] (.panicking shortP) w fun e u' w' =>
      e = .returned (.tuple #[]) ∧ u' = .panicking [{ v := .iface 200 (.agg #[]), recovered := true }] ∧ w' = ((w.alloc (.cells #[] 200)).setCell ⟨P, 0, none⟩ (.string ⟨#[]⟩)).setCell ⟨Q, 0, none⟩ (.int .i64 2) := by
  have hta : ∀ w, (Instr.typeAssert (Value.iface 200 (.agg #[])) 20 200 true).run Try.prog w = .ok (.tuple #[.agg #[], .bool true]) w := fun _ => by kernel_rfl
  have hst : ∀ (a : Addr) (w : World), (Instr.storeAt 200 (.pointer (some a)) (.agg #[])).run Try.prog w = .ok () w := fun _ _ => by kernel_rfl
  have hne' : ¬ Q = P := fun e => hne e.symm
  have hp2 := cell_al hp (.cells #[] 200)
  have hq2 := cell_al hq (.cells #[] 200)
  have hpz2 := froz_al hp hpz (.cells #[] 200)
  have hqz2 := froz_al hq hqz (.cells #[] 200)
  refine callsD_of_wpS Try.func132 rfl fun c₀ cs hu => ?_
  simp only [Try.ntmps132, List.size_toArray, List.length_cons, List.length_nil, Nat.reduceAdd, Nat.reduceSub, Array.replicate_succ,
     Array.replicate_zero, List.push_toArray, List.append_toArray, List.nil_append, List.cons_append]
  apply wpS_seq
  apply wpS_region
  simp [wpOpsS, go_sem, recoverD, hu, Exit.thenS, shortP]
  refine wpS_of_wp ?_
  go_wp2
  cases c₀
  simp_all [bodyPostS, results, Try.results132]

set_option maxHeartbeats 400000 in
theorem catch_none (P Q : Nat) (w : World) :
    CallsD Try.prog 132 #[.pointer (some ⟨P, 0, none⟩), .pointer (some ⟨Q, 0, none⟩)] .returning w fun e u' w' =>
      e = .returned (.tuple #[]) ∧ u' = .returning ∧ w' = w := by
  refine callsD_of_wpS Try.func132 rfl fun c₀ cs hu => ?_
  simp only [Try.ntmps132, List.size_toArray, List.length_cons, List.length_nil, Nat.reduceAdd, Nat.reduceSub, Array.replicate_succ,
     Array.replicate_zero, List.push_toArray, List.append_toArray, List.nil_append, List.cons_append]
  apply wpS_seq
  apply wpS_region
  simp [wpOpsS, go_sem, recoverD, hu, Exit.thenS, shortP]
  refine wpS_of_wp ?_
  go_wp2
  cases c₀
  simp_all [bodyPostS, results, Try.results132]


/-- The world in which a reader begins: its two results, and the reader over the bytes. -/
abbrev rdW (w : World) (b : ByteArray) : World := ((w.alloc (.cells #[.string ⟨#[]⟩] 9)).alloc (.cells #[.int .i64 0] 28)).alloc (.cells #[.string b] 202)

set_option maxHeartbeats 400000 in
theorem reading_ok (g : FuncId) (eg : Enters Try.prog g) (p q : Value) (b rest : ByteArray) (w : World) (R : World → Prop)
    (hcall : Calls Try.prog g #[.pointer (some ⟨w.heap.size + 1 + 1, 0, none⟩), p, q] (rdW w b) fun e w' => e = .returned (.tuple #[]) ∧ w'.cell? ⟨w.heap.size + 1 + 1, 0, none⟩ = some (.string rest) ∧
      w'.heap[w.heap.size]? = some (.cells #[.string ⟨#[]⟩] 9) ∧ w'.heap[w.heap.size + 1]? = some (.cells #[.int .i64 0] 28) ∧ R w') :
    Calls Try.prog 99 #[.string b, .func (.func g) #[] #[p, q]] w fun e w' => e = .returned (.tuple #[.string rest, .int .i64 0]) ∧
      ∃ w1, R w1 ∧ w' = (w1.setCell ⟨w.heap.size, 0, none⟩ (.string rest)).setCell ⟨w.heap.size + 1, 0, none⟩ (.int .i64 0) := by
  have hmf : ∀ (fn : Fn) (first cap : Array Value) (w : World), (Instr.makeFunc fn first cap).run Try.prog w = .ok (.func fn first cap) w := fun _ _ _ _ => rfl
  go_enter_defers Try.func99, Try.ntmps99
  have eg' : ∀ (args : Array Value) (w : World), (callFunc g args).run Try.prog w = .ok (.enter g args) w := eg
  have hcall' := Lib.hid hcall
  clear hcall
  go_wp2_with (go_at_fn g; refine hcall'.out.mono ?_; rintro e w1 ⟨rfl, hc1, hN, hN1, hR⟩; have hcN := cell_at (o := 0) (v := .string ⟨#[]⟩) hN rfl; have hfN := froz_at (o := 0) hN; have hcN1 := cell_at (o := 0) (v := .int .i64 0) hN1 rfl; have hfN1 := froz_at (o := 0) hN1; clear hN hN1)
  refine leaves_cons (f := 132) (args := #[.pointer (some ⟨w.heap.size, 0, none⟩), .pointer (some ⟨w.heap.size + 1, 0, none⟩)]) (by simp) (by simp [go_sem]) ?_
  refine (catch_none w.heap.size (w.heap.size + 1) _).mono ?_
  rintro e u' w'' ⟨rfl, rfl, rfl⟩
  have hfin : ∃ w2, R w2 ∧ (w1.setCell ⟨w.heap.size, 0, none⟩ (.string rest)).setCell ⟨w.heap.size + 1, 0, none⟩ (.int .i64 0) = (w2.setCell ⟨w.heap.size, 0, none⟩ (.string rest)).setCell ⟨w.heap.size + 1, 0, none⟩ (.int .i64 0) := ⟨w1, hR, rfl⟩
  simp [Leaves, settle, results, Try.results99, go_sem, hcN, hcN1]
  exact hfin


set_option maxHeartbeats 400000 in
theorem reading_bad (g : FuncId) (eg : Enters Try.prog g) (p q : Value) (b : ByteArray) (w : World) (R : World → Prop)
    (hcall : Calls Try.prog g #[.pointer (some ⟨w.heap.size + 1 + 1, 0, none⟩), p, q] (rdW w b) fun e w' => e = .panicked shortP ∧
      w'.heap[w.heap.size]? = some (.cells #[.string ⟨#[]⟩] 9) ∧ w'.heap[w.heap.size + 1]? = some (.cells #[.int .i64 0] 28) ∧ R w') :
    Calls Try.prog 99 #[.string b, .func (.func g) #[] #[p, q]] w fun e w' => e = .returned (.tuple #[.string ⟨#[]⟩, .int .i64 2]) ∧
      ∃ w1, R w1 ∧ w' = ((w1.alloc (.cells #[] 200)).setCell ⟨w.heap.size, 0, none⟩ (.string ⟨#[]⟩)).setCell ⟨w.heap.size + 1, 0, none⟩ (.int .i64 2) := by
  have hmf : ∀ (fn : Fn) (first cap : Array Value) (w : World), (Instr.makeFunc fn first cap).run Try.prog w = .ok (.func fn first cap) w := fun _ _ _ _ => rfl
  go_enter_defers Try.func99, Try.ntmps99
  have eg' : ∀ (args : Array Value) (w : World), (callFunc g args).run Try.prog w = .ok (.enter g args) w := eg
  have hcall' := Lib.hid hcall
  clear hcall
  go_wp2_with (go_at_fn g; refine hcall'.out.mono ?_; rintro e w1 ⟨rfl, hN, hN1, hR⟩; have hcN := cell_at (o := 0) (v := .string ⟨#[]⟩) hN rfl; have hfN := froz_at (o := 0) hN; have hcN1 := cell_at (o := 0) (v := .int .i64 0) hN1 rfl; have hfN1 := froz_at (o := 0) hN1; clear hN hN1)
  refine leaves_cons (f := 132) (args := #[.pointer (some ⟨w.heap.size, 0, none⟩), .pointer (some ⟨w.heap.size + 1, 0, none⟩)]) (by simp) (by simp [go_sem]) ?_
  refine (catch_short w.heap.size (w.heap.size + 1) _ _ _ hcN hfN hcN1 hfN1 (by omega)).mono ?_
  rintro e u' w'' ⟨rfl, rfl, rfl⟩
  have hfin : ∃ w2, R w2 ∧ ((w1.alloc (.cells #[] 200)).setCell ⟨w.heap.size, 0, none⟩ (.string ⟨#[]⟩)).setCell ⟨w.heap.size + 1, 0, none⟩ (.int .i64 2) = ((w2.alloc (.cells #[] 200)).setCell ⟨w.heap.size, 0, none⟩ (.string ⟨#[]⟩)).setCell ⟨w.heap.size + 1, 0, none⟩ (.int .i64 2) := ⟨w1, hR, rfl⟩
  have hcN' := cell_al hcN (.cells #[] 200)
  have hcN1' := cell_al hcN1 (.cells #[] 200)
  simp [Leaves, settle, results, Try.results99, go_sem, hcN', hcN1']
  exact hfin


set_option maxHeartbeats 400000 in
theorem cutfn_ok (r p q : Nat) (h s t : ByteArray) (v : Value) (w : World) (hr : w.cell? ⟨r, 0, none⟩ = some (.string (h ++ (s ++ t)))) (hrf : w.frozen? ⟨r, 0, none⟩ = false)
    (hp : w.cell? ⟨p, 0, none⟩ = some (.int .i64 h.size)) (hq : w.cell? ⟨q, 0, none⟩ = some v) (hqf : w.frozen? ⟨q, 0, none⟩ = false) (hne : ¬ q = r)
    (hb : h.size + (s.size + t.size) ≤ 140737488351232) (hn8 : h.size ≤ 4) (hs : beN h.data.toList = s.size) :
    Calls Try.prog 178 #[.pointer (some ⟨r, 0, none⟩), .pointer (some ⟨p, 0, none⟩), .pointer (some ⟨q, 0, none⟩)] w fun e w' =>
      e = .returned (.tuple #[]) ∧ ∃ w1, w.grownBy w1 (some r) ∧ w1.cell? ⟨r, 0, none⟩ = some (.string t) ∧ w1.cell? ⟨q, 0, none⟩ = some v ∧ w' = w1.setCell ⟨q, 0, none⟩ (.string s) := by
  have HC := cut_ok r h s t w hr hrf hb hn8 hs
  have hql := World.block_lt_of_cell? w _ hq
  clear hs hr
  go_enter Try.func178, Try.ntmps178
  go_wp2_with (go_at_call 135; refine HC.mono ?_; rintro e w1 ⟨rfl, hg, hc1, hf1⟩; have hq1 := hg.cell hq (by simpa using hne); have hqf1 := (World.frozen?_of_block (hg.block q hql (by simpa using hne))).trans hqf)
  go_end0
  exact ⟨rfl, w1, hg, hc1, hq1, rfl⟩

set_option maxHeartbeats 400000 in
theorem cutfn_bad (r p q : Nat) (b : ByteArray) (n : Nat) (w : World) (hp : w.cell? ⟨p, 0, none⟩ = some (.int .i64 n))
    (HC : Calls Try.prog 135 #[.pointer (some ⟨r, 0, none⟩), .int .i64 n] w fun e w' => e = .panicked shortP ∧ w.grownBy w' (some r)) :
    Calls Try.prog 178 #[.pointer (some ⟨r, 0, none⟩), .pointer (some ⟨p, 0, none⟩), .pointer (some ⟨q, 0, none⟩)] w fun e w' => e = .panicked shortP ∧ w.grownBy w' (some r) := by
  have HC' := Lib.hid HC
  clear HC
  go_enter Try.func178, Try.ntmps178
  go_wp2_with (go_at_call 135; refine HC'.out.mono ?_; rintro e w1 ⟨rfl, hg⟩)
  exact ⟨rfl, rfl, hg⟩

theorem enters_cut : Enters Try.prog 178 := enters_of Try.func178 (by kernel_rfl) rfl

set_option maxHeartbeats 400000 in
theorem piece_any (n : Int) (w : World) : Calls Try.prog 129 #[.int .i64 n] w fun e w' => e = .returned (.bool (n == 1 || n == 2 || n == 4)) ∧ w = w' := by
  by_cases h1 : n = 1
  · subst h1
    go_enter Try.func129, Try.ntmps129
    go_wp2
    go_ret
    exact ⟨rfl, rfl⟩
  by_cases h2 : n = 2
  · subst h2
    go_enter Try.func129, Try.ntmps129
    go_wp2
    go_ret
    exact ⟨rfl, rfl⟩
  have e1 : (n == 1) = false := by simpa using h1
  have e2 : (n == 2) = false := by simpa using h2
  go_enter Try.func129, Try.ntmps129
  go_wp2
  go_ret
  exact ⟨ret_bool (by simp [e1, e2]), rfl⟩


theorem rdW_size (w : World) (b : ByteArray) : (rdW w b).heap.size = w.heap.size + 1 + 1 + 1 := by simp only [rdW, sz_al]
theorem rdW_0 (w : World) (b : ByteArray) : (rdW w b).heap[w.heap.size]? = some (.cells #[.string ⟨#[]⟩] 9) := by
  rw [rdW, hp_al, if_neg (by simp only [sz_al]; omega), hp_al, if_neg (by simp only [sz_al]; omega), hp_al, if_pos rfl]
theorem rdW_1 (w : World) (b : ByteArray) : (rdW w b).heap[w.heap.size + 1]? = some (.cells #[.int .i64 0] 28) := by
  rw [rdW, hp_al, if_neg (by simp only [sz_al]; omega), hp_al, if_pos (by simp only [sz_al])]
theorem rdW_2 (w : World) (b : ByteArray) : (rdW w b).heap[w.heap.size + 1 + 1]? = some (.cells #[.string b] 202) := by
  rw [rdW, hp_al, if_pos (by simp only [sz_al])]
theorem rdW_fr (w : World) (b : ByteArray) : Fr (fun _ => False) w (rdW w b) := (((Fr.refl _ w).alloc _).alloc _).alloc _
theorem fr_two (w : World) (a b : Nat) (x y : Value) : Fr (fun k => k = a ∨ k = b) w ((w.setCell ⟨a, 0, none⟩ x).setCell ⟨b, 0, none⟩ y) :=
  ((Fr.refl _ w).set _ _ (fun _ => .inl rfl)).set _ _ (fun _ => .inr rfl)

theorem reading_okF (g : FuncId) (eg : Enters Try.prog g) (p q : Value) (b rest : ByteArray) (w : World) (R : World → Prop)
    (hcall : Calls Try.prog g #[.pointer (some ⟨w.heap.size + 1 + 1, 0, none⟩), p, q] (rdW w b) fun e w' => e = .returned (.tuple #[]) ∧ w'.cell? ⟨w.heap.size + 1 + 1, 0, none⟩ = some (.string rest) ∧
      (∀ k, k < w.heap.size + 1 + 1 → w.heap.size ≤ k → w'.heap[k]? = (rdW w b).heap[k]?) ∧ R w') :
    Calls Try.prog 99 #[.string b, .func (.func g) #[] #[p, q]] w fun e w' => e = .returned (.tuple #[.string rest, .int .i64 0]) ∧
      ∃ w1, R w1 ∧ Fr (fun k => k = w.heap.size ∨ k = w.heap.size + 1) w1 w' := by
  refine (reading_ok g eg p q b rest w R (hcall.mono ?_)).mono ?_
  · rintro e w' ⟨h1, h2, h3, h4⟩
    exact ⟨h1, h2, (h3 _ (by omega) (by omega)).trans (rdW_0 w b), (h3 _ (by omega) (by omega)).trans (rdW_1 w b), h4⟩
  · rintro e w' ⟨h1, w1, h2, rfl⟩
    exact ⟨h1, w1, h2, fr_two _ _ _ _ _⟩

theorem reading_badF (g : FuncId) (eg : Enters Try.prog g) (p q : Value) (b : ByteArray) (w : World) (R : World → Prop)
    (hcall : Calls Try.prog g #[.pointer (some ⟨w.heap.size + 1 + 1, 0, none⟩), p, q] (rdW w b) fun e w' => e = .panicked shortP ∧
      (∀ k, k < w.heap.size + 1 + 1 → w.heap.size ≤ k → w'.heap[k]? = (rdW w b).heap[k]?) ∧ R w') :
    Calls Try.prog 99 #[.string b, .func (.func g) #[] #[p, q]] w fun e w' => e = .returned (.tuple #[.string ⟨#[]⟩, .int .i64 2]) ∧
      ∃ w1, R w1 ∧ Fr (fun k => k = w.heap.size ∨ k = w.heap.size + 1) w1 w' := by
  refine (reading_bad g eg p q b w R (hcall.mono ?_)).mono ?_
  · rintro e w' ⟨h1, h3, h4⟩
    exact ⟨h1, (h3 _ (by omega) (by omega)).trans (rdW_0 w b), (h3 _ (by omega) (by omega)).trans (rdW_1 w b), h4⟩
  · rintro e w' ⟨h1, w1, h2, rfl⟩
    exact ⟨h1, w1, h2, ((Fr.refl _ w1).alloc _).trans (fr_two _ _ _ _ _)⟩


/-- The world in which Cut calls its reader: its width, and the piece, in variables. -/
abbrev cutW (w : World) (n : Nat) : World := (w.alloc (.cells #[.int .i64 n] 3)).alloc (.cells #[.string ⟨#[]⟩] 9)
theorem cutW_size (w : World) (n : Nat) : (cutW w n).heap.size = w.heap.size + 1 + 1 := by simp only [cutW, sz_al]
theorem cutW_0 (w : World) (n : Nat) : (cutW w n).heap[w.heap.size]? = some (.cells #[.int .i64 n] 3) := by
  rw [cutW, hp_al, if_neg (by simp only [sz_al]; omega), hp_al, if_pos rfl]
theorem cutW_1 (w : World) (n : Nat) : (cutW w n).heap[w.heap.size + 1]? = some (.cells #[.string ⟨#[]⟩] 9) := by
  rw [cutW, hp_al, if_pos (by simp only [sz_al])]
theorem cutW_fr (w : World) (n : Nat) : Fr (fun _ => False) w (cutW w n) := ((Fr.refl _ w).alloc _).alloc _

theorem cut_read_ok (w : World) (h s t : ByteArray) (hb : h.size + (s.size + t.size) ≤ 140737488351232) (hn8 : h.size ≤ 4) (hs : beN h.data.toList = s.size) :
    Calls Try.prog 99 #[.string (h ++ (s ++ t)), .func (.func 178) #[] #[.pointer (some ⟨w.heap.size, 0, none⟩), .pointer (some ⟨w.heap.size + 1, 0, none⟩)]] (cutW w h.size) fun e w' =>
      e = .returned (.tuple #[.string t, .int .i64 0]) ∧ Below w.heap.size w w' ∧ w'.cell? ⟨w.heap.size + 1, 0, none⟩ = some (.string s) := by
  have hz := cutW_size w h.size
  generalize hS : h ++ (s ++ t) = S
  have hr0 := rdW_2 (cutW w h.size) S
  have h0 := (rdW_fr (cutW w h.size) S).block w.heap.size (by omega) (by simp)
  have h1 := (rdW_fr (cutW w h.size) S).block (w.heap.size + 1) (by omega) (by simp)
  rw [cutW_0] at h0
  rw [cutW_1] at h1
  rw [hz] at hr0
  have K := cutfn_ok ((cutW w h.size).heap.size + 1 + 1) w.heap.size (w.heap.size + 1) h s t (.string ⟨#[]⟩) (rdW (cutW w h.size) S) (by rw [hS, hz]; exact cell_at hr0 rfl) (by rw [hz]; exact froz_at hr0) (cell_at h0 rfl) (cell_at h1 rfl) (froz_at h1) (by omega) hb hn8 hs
  have hsz := rdW_size (cutW w h.size) S
  refine (reading_okF _ enters_cut _ _ S t (cutW w h.size) (fun w1 => Fr (fun k => k = (cutW w h.size).heap.size + 1 + 1 ∨ k = w.heap.size + 1) (rdW (cutW w h.size) S) w1 ∧ w1.cell? ⟨w.heap.size + 1, 0, none⟩ = some (.string s)) (K.mono ?_)).mono ?_
  · rintro e w' ⟨rfl, w1, hg, hc1, hc2, rfl⟩
    have hf : Fr (fun k => k = (cutW w h.size).heap.size + 1 + 1 ∨ k = w.heap.size + 1) (rdW (cutW w h.size) S) (w1.setCell ⟨w.heap.size + 1, 0, none⟩ (.string s)) :=
      (Fr.of_grown hg (fun k e _ => .inl (by injection e with e; exact e.symm))).set _ _ (fun _ => .inr rfl)
    refine ⟨rfl, ?_, fun k hk1 hk2 => hf.block k (by omega) (by omega), hf, World.cell?_setCell_same' _ _ _ (by rw [hc2]; rfl)⟩
    rw [World.cell?_setCell_other _ _ _ _ (by intro e; have := congrArg Addr.block e; simp at this)]
    exact hc1
  · rintro e w' ⟨rfl, w1, ⟨hf, hc⟩, hf2⟩
    have g1 : Fr (fun k => w.heap.size ≤ k) w w1 := ((cutW_fr w h.size).mono (by simp)).trans (((rdW_fr _ S).mono (by simp)).trans (hf.mono (by intro k _ hk; omega)))
    have g2 : Fr (fun k => w.heap.size ≤ k) w w' := g1.trans (hf2.mono (by intro k _ hk; omega))
    refine ⟨rfl, g2.to_below (Nat.le_refl _) (by intro k hk; omega), ?_⟩
    rw [hf2.cell (p := ⟨w.heap.size + 1, 0, none⟩) (by have := hf.size; simp only; omega) (by simp only; omega)]
    exact hc


theorem cut_read_bad (w : World) (b : ByteArray) (n : Nat)
    (HC : ∀ (r : Nat) (W : World), W.cell? ⟨r, 0, none⟩ = some (.string b) → W.frozen? ⟨r, 0, none⟩ = false → Calls Try.prog 135 #[.pointer (some ⟨r, 0, none⟩), .int .i64 n] W fun e w' => e = .panicked shortP ∧ W.grownBy w' (some r)) :
    Calls Try.prog 99 #[.string b, .func (.func 178) #[] #[.pointer (some ⟨w.heap.size, 0, none⟩), .pointer (some ⟨w.heap.size + 1, 0, none⟩)]] (cutW w n) fun e w' =>
      e = .returned (.tuple #[.string ⟨#[]⟩, .int .i64 2]) ∧ Below w.heap.size w w' := by
  have hz := cutW_size w n
  have hr0 := rdW_2 (cutW w n) b
  have h0 := (rdW_fr (cutW w n) b).block w.heap.size (by omega) (by simp)
  rw [cutW_0] at h0
  have hsz := rdW_size (cutW w n) b
  have K := cutfn_bad ((cutW w n).heap.size + 1 + 1) w.heap.size (w.heap.size + 1) b n (rdW (cutW w n) b) (cell_at h0 rfl) (HC _ _ (by rw [hz] at hr0 ⊢; exact cell_at hr0 rfl) (by rw [hz] at hr0 ⊢; exact froz_at hr0))
  refine (reading_badF _ enters_cut _ _ b (cutW w n) (fun w1 => Fr (fun k => k = (cutW w n).heap.size + 1 + 1) (rdW (cutW w n) b) w1) (K.mono ?_)).mono ?_
  · rintro e w' ⟨rfl, hg⟩
    have hf : Fr (fun k => k = (cutW w n).heap.size + 1 + 1) (rdW (cutW w n) b) w' := Fr.of_grown hg (fun k e _ => by injection e with e; exact e.symm)
    exact ⟨rfl, fun k hk1 hk2 => hf.block k (by omega) (by omega), hf⟩
  · rintro e w' ⟨rfl, w1, hf, hf2⟩
    have g1 : Fr (fun k => w.heap.size ≤ k) w w1 := ((cutW_fr w n).mono (by simp)).trans (((rdW_fr _ b).mono (by simp)).trans (hf.mono (by intro k _ hk; omega)))
    have g2 : Fr (fun k => w.heap.size ≤ k) w w' := g1.trans (hf2.mono (by intro k _ hk; omega))
    exact ⟨rfl, g2.to_below (Nat.le_refl _) (by intro k hk; omega)⟩

set_option maxHeartbeats 400000 in
/-- Cut, of a piece that is there. -/
theorem Cut_ok (h s t : ByteArray) (w : World) (hb : h.size + (s.size + t.size) ≤ 140737488351232) (hw : h.size = 1 ∨ h.size = 2 ∨ h.size = 4) (hs : beN h.data.toList = s.size) :
    Calls Try.prog 165 #[.string (h ++ (s ++ t)), .int .i64 h.size] w fun e w' => e = .returned (.tuple #[.string s, .string t, .int .i64 0]) ∧ Below w.heap.size w w' := by
  have K := cut_read_ok w h s t hb (by omega) hs
  have hp := fun w => piece_any (h.size : Int) w
  have hpt : ((h.size : Int) == 1 || (h.size : Int) == 2 || (h.size : Int) == 4) = true := by rcases hw with e | e | e <;> simp [e]
  rw [hpt] at hp
  have hmf : ∀ (fn : Fn) (first cap : Array Value) (w : World), (Instr.makeFunc fn first cap).run Try.prog w = .ok (.func fn first cap) w := fun _ _ _ _ => rfl
  have K' := Lib.hid K
  clear K hs hw hpt
  generalize h ++ (s ++ t) = S at *
  go_enter Try.func165, Try.ntmps165
  go_wp2_with (first | (go_at_call 129; refine (hp _).mono ?_; rintro e w' ⟨rfl, rfl⟩) | (go_at_call 99; refine K'.out.mono ?_; rintro e w2 ⟨rfl, hB, hc⟩))
  go_ret3
  exact ⟨rfl, hB⟩

set_option maxHeartbeats 400000 in
theorem Cut_bad (b : ByteArray) (n : Nat) (w : World) (hw : n = 1 ∨ n = 2 ∨ n = 4)
    (HC : ∀ (r : Nat) (W : World), W.cell? ⟨r, 0, none⟩ = some (.string b) → W.frozen? ⟨r, 0, none⟩ = false → Calls Try.prog 135 #[.pointer (some ⟨r, 0, none⟩), .int .i64 n] W fun e w' => e = .panicked shortP ∧ W.grownBy w' (some r)) :
    Calls Try.prog 165 #[.string b, .int .i64 n] w fun e w' => e = .returned (.tuple #[.string ⟨#[]⟩, .string ⟨#[]⟩, .int .i64 2]) ∧ Below w.heap.size w w' := by
  have K := cut_read_bad w b n HC
  have hp := fun w => piece_any (n : Int) w
  have hpt : ((n : Int) == 1 || (n : Int) == 2 || (n : Int) == 4) = true := by rcases hw with e | e | e <;> simp [e]
  rw [hpt] at hp
  have hmf : ∀ (fn : Fn) (first cap : Array Value) (w : World), (Instr.makeFunc fn first cap).run Try.prog w = .ok (.func fn first cap) w := fun _ _ _ _ => rfl
  have K' := Lib.hid K
  clear K hw hpt HC
  go_enter Try.func165, Try.ntmps165
  go_wp2_with (first | (go_at_call 129; refine (hp _).mono ?_; rintro e w' ⟨rfl, rfl⟩) | (go_at_call 99; refine K'.out.mono ?_; rintro e w2 ⟨rfl, hB⟩))
  go_ret3
  exact ⟨rfl, hB⟩

end Go.Proofs.Ytajdlgbhofdafaa
