/- What octets' writing functions come to. -/
import Derived.Test.YtajdlgbhofdafaaRowB
import Derived.Test.YtajdlgbhofdafaaPrinted
namespace Go.Proofs.Ytajdlgbhofdafaa
open Go.RowKit Go.Proofs.YtajdlgbhofdafaaW.PrintWords Go.Proofs.YtajdlgbhofdafaaW.PrintLast Go.Proofs.YtajdlgbhofdafaaW.PrintMore

theorem w64_in (n : Int) (h : -9223372036854775808 ≤ n ∧ n ≤ 9223372036854775807) : wrap64 n = n := by unfold wrap64; omega
/-- A number's bytes, the greatest first. -/
def beL : Nat → Nat → List Int
  | 0, _ => []
  | n + 1, v => ((v / 256 ^ n % 256 : Nat) : Int) :: beL n v
theorem beL_length (n v : Nat) : (beL n v).length = n := by
  induction n with
  | zero => rfl
  | succ n ih => simp [beL, ih]
theorem shr8 (v i : Nat) (h : i ≤ 7) : shr .u64 (v : Int) (8 * (i : Int)) = ((v / 256 ^ i : Nat) : Int) := by
  unfold shr
  have hm : min (8 * (i : Int)).toNat IntKind.u64.bits = 8 * i := by
    have : IntKind.u64.bits = 64 := rfl
    rw [this]
    omega
  rw [hm, show (256 : Nat) = 2 ^ 8 from by decide, ← Nat.pow_mul]
  norm_cast
theorem bytes_l0 : ∀ (n k v : Nat) (acc : List Int), n ≤ 8 → n < k → acc.length + n ≤ 100000000 → octets_bytes.l0 k (v : Int) acc ((n : Int) - 1) = some (acc ++ beL n v) := by
  intro n
  induction n with
  | zero =>
    intro k v acc _ hk _
    obtain ⟨k, rfl⟩ : ∃ j, k = j + 1 := ⟨k - 1, by omega⟩
    rw [octets_bytes.l0, if_neg (by simp)]
    simp [beL]
  | succ n ih =>
    intro k v acc h8 hk hl
    obtain ⟨k, rfl⟩ : ∃ j, k = j + 1 := ⟨k - 1, by omega⟩
    have e1 : ((n + 1 : Nat) : Int) - 1 = (n : Int) := by omega
    rw [e1, octets_bytes.l0, if_pos (by omega)]
    have e2 : wrap64 (8 * (n : Int)) = 8 * (n : Int) := w64_in _ (by omega)
    have e3 : wrap64 ((n : Int) - 1) = (n : Int) - 1 := w64_in _ (by omega)
    rw [e2, e3, if_pos (by omega), if_pos (by omega), shr8 v n (by omega)]
    rw [ih k v _ (by omega) (by omega) (by simp; omega)]
    simp [beL]
theorem bytes_f (n k v : Nat) (h : n ≤ 8) (hk : n < k) : octets_bytes.f k (v : Int) (n : Int) = some (beL n v) := by
  unfold octets_bytes.f
  rw [w64_in _ (by omega), bytes_l0 n k v [] h hk (by simp; omega)]
  simp

/-- A width. -/
def IsW (n : Nat) : Prop := n = 1 ∨ n = 2 ∨ n = 4 ∨ n = 8
theorem width_f {n : Nat} (h : IsW n) : octets_width.f (n : Int) = some true := by
  rcases h with rfl | rfl | rfl | rfl <;> decide
theorem most_f {n : Nat} (h : IsW n) : octets_most.f (n : Int) = some ((256 ^ n - 1 : Nat) : Int) := by
  unfold octets_most.f
  have h8 : n ≤ 8 := by rcases h with h | h | h | h <;> omega
  have h1 : 1 ≤ n := by rcases h with h | h | h | h <;> omega
  rw [w64_in (8 * (n : Int)) (by omega), w64_in (64 - 8 * (n : Int)) (by omega), if_pos (by omega)]
  have e : (64 - 8 * (n : Int)) = 8 * ((8 - n : Nat) : Int) := by omega
  have := shr8 18446744073709551615 (8 - n) (by omega)
  rw [e]
  refine congrArg some (Eq.trans this ?_)
  congr 1
  rcases h with rfl | rfl | rfl | rfl <;> decide
theorem whole_l0 (ws : List Nat) (hw : ∀ n ∈ ws, IsW n) (hl : ws.length < 1000000) : ∀ (d k i : Nat), i + d = ws.length → d < k → octets_whole.l0 k (ws.map (fun n : Nat => (n : Int))) (ws.length : Int) (i : Int) = some true := by
  intro d
  induction d with
  | zero =>
    intro k i hi hk
    obtain ⟨k, rfl⟩ : ∃ j, k = j + 1 := ⟨k - 1, by omega⟩
    rw [octets_whole.l0, if_neg (by omega)]
  | succ d ih =>
    intro k i hi hk
    obtain ⟨k, rfl⟩ : ∃ j, k = j + 1 := ⟨k - 1, by omega⟩
    have hlt : i < ws.length := by omega
    have hrd : rd (ws.map (fun n : Nat => (n : Int))) (i : Int) = ((ws[i]'hlt : Nat) : Int) := by
      simp [rd, hlt]
    rw [octets_whole.l0, if_pos (by omega), if_pos (by omega), if_pos (by simp; omega), hrd, width_f (hw _ (List.getElem_mem hlt))]
    rw [Option.bind_some, if_pos rfl, w64_in _ (by omega)]
    exact_mod_cast ih k (i + 1) (by omega) (by omega)
/-- Numbers' bytes, each of its width. -/
def joinL (ps : List (Nat × Nat)) : List Int := ps.flatMap fun p => beL p.1 p.2
theorem joinL_length (ps : List (Nat × Nat)) : (joinL ps).length = (ps.map (·.1)).sum := by
  induction ps with
  | nil => rfl
  | cons p l ih => simp [joinL, beL_length] at ih ⊢
theorem join_l0 (ps : List (Nat × Nat)) (hw : ∀ p ∈ ps, IsW p.1 ∧ p.2 < 256 ^ p.1) (hl : ps.length < 1000000) : ∀ (d k i : Nat) (acc : List Int), i + d = ps.length → d + 12 < k → acc.length ≤ 8 * i →
    octets_Join.l0 k (ps.map (fun p => (p.2 : Int))) acc (ps.map (fun p => (p.1 : Int))) (ps.length : Int) (i : Int) = some (strOfNums (acc ++ joinL (ps.drop i)), 0) := by
  intro d
  induction d with
  | zero =>
    intro k i acc hi hk _
    obtain ⟨k, rfl⟩ : ∃ j, k = j + 1 := ⟨k - 1, by omega⟩
    rw [octets_Join.l0, if_neg (by omega), List.drop_eq_nil_of_le (by omega)]
    simp [joinL]
  | succ d ih =>
    intro k i acc hi hk ha
    obtain ⟨k, rfl⟩ : ∃ j, k = j + 1 := ⟨k - 1, by omega⟩
    have hlt : i < ps.length := by omega
    have hmem : ps[i]'hlt ∈ ps := List.getElem_mem hlt
    obtain ⟨h1, h2⟩ := hw _ hmem
    have hr1 : rd (ps.map (fun p => (p.1 : Int))) (i : Int) = (((ps[i]'hlt).1 : Nat) : Int) := by simp [rd, hlt]
    have hr2 : rd (ps.map (fun p => (p.2 : Int))) (i : Int) = (((ps[i]'hlt).2 : Nat) : Int) := by simp [rd, hlt]
    have h8 : (ps[i]'hlt).1 ≤ 8 := by rcases h1 with h | h | h | h <;> omega
    have hdrop : ps.drop i = ps[i]'hlt :: ps.drop (i + 1) := by rw [List.drop_eq_getElem_cons hlt]
    rw [octets_Join.l0, if_pos (by omega), if_pos (by omega), if_pos (by simp; omega), if_pos (by simp; omega), hr1, hr2, most_f h1, Option.bind_some, if_neg (by omega), bytes_f _ _ _ h8 (by omega), Option.bind_some, if_pos (by rw [beL_length]; omega)]
    rw [w64_in _ (by omega), hdrop]
    have := ih k (i + 1) (acc ++ beL (ps[i]'hlt).1 (ps[i]'hlt).2) (by omega) (by omega) (by rw [List.length_append, beL_length]; omega)
    rw [show (joinL (ps[i]'hlt :: ps.drop (i + 1))) = beL (ps[i]'hlt).1 (ps[i]'hlt).2 ++ joinL (ps.drop (i + 1)) from rfl, ← List.append_assoc]
    exact_mod_cast this
theorem join_f (ps : List (Nat × Nat)) (hw : ∀ p ∈ ps, IsW p.1 ∧ p.2 < 256 ^ p.1) (hl : ps.length < 1000000) : octets_Join.f (ps.length + 14) (ps.map (fun p => (p.2 : Int))) (ps.map (fun p => (p.1 : Int))) = some (strOfNums (joinL ps), 0) := by
  unfold octets_Join.f octets_whole.f
  have h1 := whole_l0 (ps.map (·.1)) (fun n hn => by obtain ⟨p, hp, rfl⟩ := List.mem_map.1 hn; exact (hw p hp).1) (by simpa using hl) ps.length (ps.length + 14) 0 (by simp) (by omega)
  simp only [List.map_map, List.length_map] at h1
  simp only [List.length_map]
  have h1' : octets_whole.l0 (ps.length + 14) (ps.map (fun p => (p.1 : Int))) (ps.length : Int) 0 = some true := h1
  rw [h1', Option.bind_some, if_pos rfl, octets_Join.j0, if_neg (by simp)]
  have h2 := join_l0 ps hw hl ps.length (ps.length + 13) 0 [] (by simp) (by omega) (by simp)
  simpa using h2
/-- Numbers' bytes. -/
def joinB (ps : List (Nat × Nat)) : ByteArray := strOfNums (joinL ps)

theorem C_of_cells {k : IntKind} {a : Nat} {xs : List Int} {t : TypeId} {fz : Nat × Nat} {w : World} (h : w.heap[a]? = some (.cells (xs.map fun x => Value.int k x).toArray t fz)) (hl : xs.length ≤ 9223372036854775807) : (Kd.int k).C w (some ⟨a, 0, none⟩) xs.length xs := by
  refine ⟨rfl, hl, fun _ => ⟨_, rfl, fun j p hp => ⟨[.int k p], rfl, rfl, fun i u hu => ?_⟩⟩⟩
  have hi : i = 0 := by
    have := (List.getElem?_eq_some_iff.1 hu).1
    simp at this
    omega
  subst hi
  simp at hu
  subst hu
  have e : (⟨a, 0, none⟩ : Addr).add (j * (Kd.int k).sz + 0) = ⟨a, j, none⟩ := by
    rw [show (Kd.int k).sz = 1 from rfl, Nat.mul_one, Nat.add_zero]
    unfold Addr.add; split <;> simp_all
  rw [e]
  simp [World.cell?, h, hp]

/-- Join, of numbers that fit. -/
theorem Join_any (a b ca cb : Nat) (ps : List (Nat × Nat)) (w : World) (ha : w.heap[a]? = some (.cells (ps.map fun p => Value.int .u64 (p.2 : Int)).toArray 83)) (hb : w.heap[b]? = some (.cells (ps.map fun p => Value.int .i64 (p.1 : Int)).toArray 3))
    (hw : ∀ p ∈ ps, IsW p.1 ∧ p.2 < 256 ^ p.1) (hl : ps.length < 1000000) (hca : ps.length ≤ ca) (hcb : ps.length ≤ cb) :
    Calls Try.prog 41 #[.slice (some ⟨a, 0, none⟩) ps.length ca, .slice (some ⟨b, 0, none⟩) ps.length cb] w fun e w' => e = .returned (.tuple #[.string (joinB ps), .int .i64 0]) ∧ Below w.heap.size w w' := by
  have e1 : (ps.map fun p => (p.2 : Int)).map (fun x => Value.int .u64 x) = ps.map fun p => Value.int .u64 (p.2 : Int) := by rw [List.map_map]; rfl
  have e2 : (ps.map fun p => (p.1 : Int)).map (fun x => Value.int .i64 x) = ps.map fun p => Value.int .i64 (p.1 : Int) := by rw [List.map_map]; rfl
  have h1 := C_of_cells (k := .u64) (xs := ps.map fun p => (p.2 : Int)) (w := w) (a := a) (by rw [e1]; exact ha) (by simp; omega)
  have h2 := C_of_cells (k := .i64) (xs := ps.map fun p => (p.1 : Int)) (w := w) (a := b) (by rw [e2]; exact hb) (by simp; omega)
  have h3 := octets_Join.calls (ps.length + 14) (some ⟨a, 0, none⟩) ca (ps.map fun p => (p.2 : Int)) (some ⟨b, 0, none⟩) cb (ps.map fun p => (p.1 : Int)) (joinB ps) 0 w h1 (by simpa using hca) h2 (by simpa using hcb) (join_f ps hw hl)
  simpa using h3
end Go.Proofs.Ytajdlgbhofdafaa
