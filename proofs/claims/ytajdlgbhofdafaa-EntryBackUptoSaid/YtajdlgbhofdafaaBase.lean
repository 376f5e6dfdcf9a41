/- Small lemmas on bytes, numbers and worlds that the walks of this claim use. -/
import Derived.WalkKit
import Derived.WalkSpells
import Derived.WalkLawsBesides
import Derived.Outline
import Derived.Lib.Hide
import Derived.Lib.ConvBytes
import Derived.Below
import Derived.Laws.BitsLemmas
namespace Go.Proofs.Ytajdlgbhofdafaa
open Go.RowKit

theorem ext_left (s t : ByteArray) : (s ++ t).extract 0 s.size = s := by
  apply ByteArray.ext
  simp only [ByteArray.data_extract, ByteArray.data_append]
  apply Array.ext'
  have h : s.data.toList.length = s.size := by simp
  simp only [Array.toList_extract, Array.toList_append, List.extract_eq_take_drop, List.drop_zero, Nat.sub_zero]
  rw [List.take_append_of_le_length (by omega), List.take_of_length_le (by omega)]
theorem ext_right (s t : ByteArray) : (s ++ t).extract s.size (s.size + t.size) = t := by
  apply ByteArray.ext
  simp only [ByteArray.data_extract, ByteArray.data_append]
  apply Array.ext'
  have h : s.data.toList.length = s.size := by simp
  have h' : t.data.toList.length = t.size := by simp
  simp only [Array.toList_extract, Array.toList_append, List.extract_eq_take_drop]
  rw [← h, List.drop_left, List.take_of_length_le (by omega)]
theorem size_app (s t : ByteArray) : (s ++ t).size = s.size + t.size := by simp
theorem ret_str {a b : ByteArray} (h : a = b) : Ending.returned (.string a) = .returned (.string b) := by rw [h]
theorem ret_int {k : IntKind} {a b : Int} (h : a = b) : Ending.returned (.int k a) = .returned (.int k b) := by rw [h]
theorem ret_bool {a b : Bool} (h : a = b) : Ending.returned (.bool a) = .returned (.bool b) := by rw [h]
/-- Bytes are two pieces at any place. -/
theorem split_at (b : ByteArray) (n : Nat) (h : n ≤ b.size) : ∃ s t : ByteArray, b = s ++ t ∧ s.size = n ∧ s = b.extract 0 n ∧ t = b.extract n b.size := by
  refine ⟨b.extract 0 n, b.extract n b.size, ?_, by simp; omega, rfl, rfl⟩
  apply ByteArray.ext
  simp only [ByteArray.data_extract, ByteArray.data_append]
  apply Array.ext'
  have h' : b.data.toList.length = b.size := by simp
  simp only [Array.toList_extract, Array.toList_append, List.extract_eq_take_drop, List.drop_zero, Nat.sub_zero]
  rw [List.take_of_length_le (l := List.drop n _) (by simp), List.take_append_drop]

/-- The number that bytes are, the greatest first. -/
def beN (l : List UInt8) : Nat := l.foldl (fun v c => v * 256 + c.toNat) 0
theorem beN_snoc (l : List UInt8) (c : UInt8) : beN (l ++ [c]) = beN l * 256 + c.toNat := by simp [beN]
theorem beN_from (l : List UInt8) : ∀ v : Nat, l.foldl (fun v c => v * 256 + c.toNat) v < (v + 1) * 256 ^ l.length := by
  induction l with
  | nil => intro v; simp
  | cons c l ih =>
    intro v
    simp only [List.foldl_cons, List.length_cons]
    refine Nat.lt_of_lt_of_le (ih _) ?_
    rw [Nat.pow_succ, Nat.mul_comm (256 ^ l.length), ← Nat.mul_assoc]
    have := c.toNat_lt
    exact Nat.mul_le_mul_right _ (by omega)
theorem beN_lt (l : List UInt8) : beN l < 256 ^ l.length := by
  have := beN_from l 0
  simpa [beN] using this
theorem take_snoc_byte (s : ByteArray) (k : Nat) (h : k < s.size) : s.data.toList.take (k + 1) = s.data.toList.take k ++ [s.data.toList.getD k 0] := by
  have h' : k < s.data.toList.length := by simpa using h
  rw [List.take_succ_eq_append_getElem h', List.getD_eq_getElem?_getD, List.getElem?_eq_getElem h', Option.getD_some]

theorem u64_small (n : Int) (h0 : 0 ≤ n) (h1 : n < 2 ^ 64) : IntKind.u64.wrap n = n := by
  show (let m := n % 2 ^ 64; if IntKind.u64.signed && m ≥ (2 ^ (64 - 1) : Int) then m - 2 ^ 64 else m) = n
  have h : n % 2 ^ 64 = n := Int.emod_eq_of_lt h0 h1
  simp only [IntKind.signed, h, Bool.false_and, Bool.false_eq_true, if_false]
theorem num_step (v : Nat) (c : UInt8) (h : v < 2 ^ 56) : bits BinOp.or IntKind.u64 (IntKind.u64.wrap ((v : Int) * 256)) (IntKind.u64.wrap (c.toNat : Int)) = ((v * 256 + c.toNat : Nat) : Int) := by
  have hc := c.toNat_lt
  rw [u64_small _ (by omega) (by omega), u64_small _ (by omega) (by omega)]
  rw [bits_join .u64 64 (by decide) (fun n h0 h1 => u64_small n h0 h1) 8 _ _ (by omega) (by omega) (by omega) (by omega) (by omega) (by omega)]
  omega

theorem grown_bytes (w : World) (e : TypeId) (s : ByteArray) (row : Option Nat) : w.grownBy (Lib.bytesWorld w e s) row :=
  ⟨rfl, rfl, rfl, by rw [Lib.bytesWorld_size]; omega, fun k hk _ => Lib.bytesWorld_at_old w e s k hk⟩
theorem grown_trans {a b c : World} {row : Option Nat} (h : a.grownBy b row) (k : b.grownBy c row) : a.grownBy c row :=
  ⟨k.os.trans h.os, k.tape.trans h.tape, k.output.trans h.output, Nat.le_trans h.size k.size, fun i hi hne => (k.block i (by have := h.size; omega) hne).trans (h.block i hi hne)⟩
theorem grown_set (w : World) (p : Addr) (v : Value) : w.grownBy (w.setCell p v) (some p.block) :=
  ⟨rfl, rfl, rfl, by simp [World.setCell], fun k _ hne => Below.heap_setCell w p v k (fun e => hne (by rw [e]))⟩
theorem size_set (w : World) (p : Addr) (v : Value) : (w.setCell p v).heap.size = w.heap.size := by simp [World.setCell]

theorem hp_al (w : World) (o : Obj) (k : Nat) : (w.alloc o).heap[k]? = if k = w.heap.size then some o else w.heap[k]? := by
  show (w.heap.push o)[k]? = _
  rw [Array.getElem?_push]
theorem sz_al (w : World) (o : Obj) : (w.alloc o).heap.size = w.heap.size + 1 := by
  show (w.heap.push o).size = _
  simp
theorem cell_al {w : World} {p : Addr} {v : Value} (h : w.cell? p = some v) (o : Obj) : (w.alloc o).cell? p = some v := by
  rw [World.cell?_of_block (Below.heap_alloc w o p.block (World.block_lt_of_cell? w _ h))]; exact h
theorem froz_al {w : World} {p : Addr} {v : Value} {b : Bool} (h : w.cell? p = some v) (hf : w.frozen? p = b) (o : Obj) : (w.alloc o).frozen? p = b := by
  rw [World.frozen?_of_block (Below.heap_alloc w o p.block (World.block_lt_of_cell? w _ h))]; exact hf

theorem cell_at {w : World} {b o : Nat} {cs : Array Value} {t : TypeId} {fz : Nat × Nat} {v : Value} (h : w.heap[b]? = some (.cells cs t fz)) (hv : cs[o]? = some v) : w.cell? ⟨b, o, none⟩ = some v := by
  simp [World.cell?, h, hv]
theorem froz_at {w : World} {b o : Nat} {cs : Array Value} {t : TypeId} (h : w.heap[b]? = some (.cells cs t (0, 0))) : w.frozen? ⟨b, o, none⟩ = false := by
  simp [World.frozen?, h]

/-- The world w' is as w was, but for new blocks and the blocks of S. -/
structure Fr (S : Nat → Prop) (w w' : World) : Prop where
  os : w'.os = w.os
  tape : w'.tape = w.tape
  output : w'.output = w.output
  size : w.heap.size ≤ w'.heap.size
  block : ∀ k, k < w.heap.size → ¬ S k → w'.heap[k]? = w.heap[k]?
namespace Fr
variable {S T : Nat → Prop} {a b c w w' : World}
theorem refl (S : Nat → Prop) (w : World) : Fr S w w := ⟨rfl, rfl, rfl, Nat.le_refl _, fun _ _ _ => rfl⟩
theorem trans (h : Fr S a b) (k : Fr S b c) : Fr S a c :=
  ⟨k.os.trans h.os, k.tape.trans h.tape, k.output.trans h.output, Nat.le_trans h.size k.size, fun i hi hne => (k.block i (by have := h.size; omega) hne).trans (h.block i hi hne)⟩
theorem mono (h : Fr S w w') (hST : ∀ k, k < w.heap.size → S k → T k) : Fr T w w' :=
  ⟨h.os, h.tape, h.output, h.size, fun k hk hn => h.block k hk (fun s => hn (hST k hk s))⟩
theorem alloc (h : Fr S a w) (o : Obj) : Fr S a (w.alloc o) :=
  ⟨h.os, h.tape, h.output, by have := h.size; simp; omega, fun k hk hn => (Below.heap_alloc _ _ _ (by have := h.size; omega)).trans (h.block k hk hn)⟩
theorem drew (h : Fr S a w) : Fr S a w.drew := ⟨h.os, h.tape, h.output, h.size, h.block⟩
theorem set (h : Fr S a w) (p : Addr) (v : Value) (hp : p.block < a.heap.size → S p.block) : Fr S a (w.setCell p v) :=
  ⟨h.os, h.tape, h.output, by have := h.size; simp [World.setCell]; omega, fun k hk hn => (Below.heap_setCell _ _ _ _ (fun e => by subst e; exact hn (hp hk))).trans (h.block k hk hn)⟩
theorem of_grown {row : Option Nat} (h : w.grownBy w' row) (hr : ∀ k, row = some k → k < w.heap.size → S k) : Fr S w w' :=
  ⟨h.os, h.tape, h.output, h.size, fun k hk hn => h.block k hk (fun e => hn (hr k e.symm hk))⟩
theorem grown {row : Option Nat} (h : Fr S a w) (g : w.grownBy w' row) (hr : ∀ k, row = some k → k < a.heap.size → S k) : Fr S a w' :=
  ⟨g.os.trans h.os, g.tape.trans h.tape, g.output.trans h.output, Nat.le_trans h.size g.size, fun k hk hn => (g.block k (by have := h.size; omega) (fun e => hn (hr k e.symm hk))).trans (h.block k hk hn)⟩
theorem of_below (h : Below w.heap.size w w') : Fr S w w' := ⟨h.os, h.tape, h.output, h.size, fun k hk _ => h.block k hk⟩
theorem below (h : Fr S a w) (k : Below w.heap.size w w') : Fr S a w' := h.trans (of_below k)
theorem to_below {B : Nat} (h : Fr S w w') (hB : B ≤ w.heap.size) (hS : ∀ k, k < B → ¬ S k) : Below B w w' := ⟨h.os, h.tape, h.output, h.size, fun k hk => h.block k (by omega) (hS k hk)⟩
theorem cell (h : Fr S w w') {p : Addr} (hp : p.block < w.heap.size) (hn : ¬ S p.block) : w'.cell? p = w.cell? p := World.cell?_of_block (h.block _ hp hn)
theorem frozen (h : Fr S w w') {p : Addr} (hp : p.block < w.heap.size) (hn : ¬ S p.block) : w'.frozen? p = w.frozen? p := World.frozen?_of_block (h.block _ hp hn)
end Fr

end Go.Proofs.Ytajdlgbhofdafaa
