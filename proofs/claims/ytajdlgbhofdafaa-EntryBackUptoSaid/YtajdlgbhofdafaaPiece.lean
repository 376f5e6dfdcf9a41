/- octets.Piece; a row of bytes as a string; the packer's Bytes and New. -/
import Derived.Test.YtajdlgbhofdafaaJoin
import Derived.Laws.IdiomStrings
namespace Go.Proofs.Ytajdlgbhofdafaa
open Go.RowKit Go.Shelf Go.Proofs.YtajdlgbhofdafaaW.PrintWords Go.Proofs.YtajdlgbhofdafaaW.PrintLast Go.Proofs.YtajdlgbhofdafaaW.PrintMore
set_option maxRecDepth 100000
attribute [local go_sem] Oper.semAt_some

theorem u8_under : Try.prog.underlying 5 = some (.int .u8) := by kernel_rfl

/-- The bytes of a row, as a string. -/
theorem rowB_string {w : World} {v : Value} {s : ByteArray} (h : RowB w v s) : (convert 51 9 v).run Try.prog w = .ok (.string s) w := by
  rcases h.2 with ⟨rfl, h0⟩ | ⟨g, cap, cur, fz, rfl, hbg, hg, _⟩
  · have := size0 h0
    subst this
    exact run_convert_bytes_nil w 51 5 bytes_under u8_under 0 0 9 string_under
  · have hl : s.data.toList.length = s.size := by simp
    have K := run_convert_bytes_back (P := Try.prog) w 51 9 5 ⟨g, 0, none⟩ cap s.data.toList bytes_under u8_under string_under (fun j hj => rowB_read h g cap s.size rfl j _ (List.getElem?_eq_getElem hj))
    rw [hl] at K
    exact K

set_option maxHeartbeats 1000000 in
theorem PBytes_any (b : Nat) (s : ByteArray) (v m : Value) (w : World) (hbk : w.heap[b]? = some (.cells #[v, m] 174 (0, 0))) (hv : RowB w v s) :
    Calls Try.prog 67 #[.pointer (some ⟨b, 0, none⟩)] w fun e w' => e = .returned (.string s) ∧ w' = w := by
  have c1 : w.cell? ⟨b, 0, none⟩ = some v := cell_at hbk rfl
  have hcv := rowB_string hv
  obtain ⟨ao, cap, rfl⟩ := rowB_slice hv
  clear hv hbk
  go_enter Try.func67, Try.ntmps67
  go_wp2
  go_ret
  exact ⟨rfl, rfl⟩

set_option maxHeartbeats 1000000 in
theorem New_any (w : World) : Calls Try.prog 60 #[] w fun e w' => e = .returned (.pointer (some ⟨w.heap.size + 1, 0, none⟩)) ∧
    w' = (w.alloc (.map #[] 0)).alloc (.cells #[.slice none 0 0, .map (some w.heap.size)] 174) := by
  have hmk : ∀ w, (Instr.makeMap 172 none).run Try.prog w = .ok (.map (some w.heap.size)) (w.alloc (.map #[] 0)) := fun _ => rfl
  go_enter Try.func60, Try.ntmps60
  go_wp2
  go_ret
  exact ⟨rfl, rfl⟩

set_option maxHeartbeats 1000000 in
/-- Piece, of bytes that fit. -/
theorem Piece_any (s : ByteArray) (n : Nat) (w : World) (hn : n = 1 ∨ n = 2 ∨ n = 4) (hs : s.size < 256 ^ n) (hb : s.size ≤ 140737488351232) :
    Calls Try.prog 92 #[.string s, .int .i64 n] w fun e w' => e = .returned (.tuple #[.string (joinB [(n, s.size)] ++ s), .int .i64 0]) ∧ Below w.heap.size w w' := by
  have hW : IsW n := by rcases hn with h | h | h <;> simp [IsW, h]
  have hp := fun w => piece_any (n : Int) w
  have hpt : ((n : Int) == 1 || (n : Int) == 2 || (n : Int) == 4) = true := by rcases hn with e | e | e <;> simp [e]
  rw [hpt] at hp
  have hm := fun w => octets_most.calls (n : Int) _ w (most_f hW)
  have hby := fun w => octets_bytes.calls (n + 1) (s.size : Int) (n : Int) (beL n s.size) w (bytes_f n (n + 1) s.size (by omega) (by omega))
  have hJ : strOfNums (beL n s.size) = joinB [(n, s.size)] := by simp [joinB, joinL]
  have hlt : decide (256 ^ n - 1 < s.size) = false := by simp; omega
  have hwr : IntKind.u64.wrap (s.size : Int) = (s.size : Int) := u64_small _ (by omega) (by omega)
  have hjs : (joinB [(n, s.size)]).size = n := by rw [joinB, strOfNums_size, joinL_length]; simp
  have hn8 : n ≤ 4 := by omega
  generalize hJB : joinB [(n, s.size)] = jb at *
  generalize hM : 256 ^ n - 1 = m at *
  have H1 := Lib.hid hm
  have H2 := Lib.hid hby
  have H3 := Lib.hid hJ
  clear hm hby hJ hpt hs hn hJB hW hM
  go_enter Try.func92, Try.ntmps92
  go_wp2_with (first | (go_at_call 129; refine (hp _).mono ?_; rintro e w' ⟨rfl, rfl⟩) | (go_at_call 97; refine (H1.out _).mono ?_; rintro e w' ⟨rfl, ⟨nd, rfl⟩⟩) | (go_at_call 98; refine (H2.out _).mono ?_; rintro e w1 ⟨v, rfl, hR, hB⟩; have hcv := own_string (P := Try.prog) bytes_under u8_under string_under (Kd.own_of_R hR); rw [H3.out] at hcv))
  go_ret2
  exact ⟨rfl, hB.os, hB.tape, hB.output, hB.size, hB.block⟩
end Go.Proofs.Ytajdlgbhofdafaa
