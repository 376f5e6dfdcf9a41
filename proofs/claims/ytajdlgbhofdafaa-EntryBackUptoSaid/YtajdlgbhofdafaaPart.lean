/- rdata.parts. rdata.part. -/
import Derived.Test.YtajdlgbhofdafaaRowB
import Derived.Test.YtajdlgbhofdafaaNameLaw
import Derived.RegionTactic
import Derived.WalkMore
namespace Go.Proofs.Ytajdlgbhofdafaa
open Go.RowKit Go.Shelf
set_option maxRecDepth 100000
attribute [local go_sem] Oper.semAt_some

/-- The parts of a type's data: -1 a name that may be a pointer, -2 one that may not, -3 pieces, -4 the rest; else so many bytes. -/
def partsL (t : Int) : List Int :=
  if t = 1 then [4] else if t = 28 then [16] else if t = 2 ∨ t = 5 ∨ t = 12 then [-1] else if t = 15 then [2, -1] else if t = 6 then [-1, -1, 4, 4, 4, 4, 4] else if t = 16 then [-3] else if t = 33 then [2, 2, 2, -2] else [-4]

def PartsRet (w : World) (l : List Int) (e : Ending) (w' : World) : Prop :=
  Below w.heap.size w w' ∧ ∃ g n, e = .returned (.slice (some ⟨g, 0, none⟩) l.length n) ∧ l.length ≤ n ∧ w.heap.size ≤ g ∧ ∃ cs t, w'.heap[g]? = some (.cells cs t (0, 0)) ∧ ∀ (j : Nat) (x : Int), l[j]? = some x → cs[j]? = some (Value.int .i64 x)

set_option maxHeartbeats 1000000 in
theorem parts_any (t : Int) (w : World) : Calls Try.prog 167 #[.int .i64 t] w (PartsRet w (partsL t)) := by
  have fin : ∀ (l : List Int) (cs : Array Value), cs.toList = l.map (fun x => Value.int .i64 x) → PartsRet w l (.returned (.slice (some ⟨w.heap.size, 0, none⟩) l.length l.length)) (w.alloc (.cells cs 3)) := by
    intro l cs h
    refine ⟨((Fr.refl (fun _ => False) w).alloc _).to_below (Nat.le_refl _) (by simp), _, _, rfl, Nat.le_refl _, Nat.le_refl _, cs, _, by rw [hp_al, if_pos rfl], fun j x hx => ?_⟩
    rw [← Array.getElem?_toList, h, List.getElem?_map, hx, Option.map_some]
  unfold partsL
  by_cases h1 : t = 1
  · subst h1
    rw [if_pos rfl]
    go_enter Try.func167, Try.ntmps167
    go_wp2
    go_ret
    exact fin [4] _ rfl
  rw [if_neg h1]
  have e1 : (t == 1) = false := by simpa using h1
  by_cases h2 : t = 28
  · subst h2
    rw [if_pos rfl]
    go_enter Try.func167, Try.ntmps167
    go_wp2
    go_ret
    exact fin [16] _ rfl
  rw [if_neg h2]
  have e2 : (t == 28) = false := by simpa using h2
  by_cases h3 : t = 2
  · subst h3
    rw [if_pos (.inl rfl)]
    go_enter Try.func167, Try.ntmps167
    go_wp2
    go_ret
    exact fin [-1] _ rfl
  have e3 : (t == 2) = false := by simpa using h3
  by_cases h4 : t = 5
  · subst h4
    rw [if_pos (.inr (.inl rfl))]
    go_enter Try.func167, Try.ntmps167
    go_wp2
    go_ret
    exact fin [-1] _ rfl
  have e4 : (t == 5) = false := by simpa using h4
  by_cases h5 : t = 12
  · subst h5
    rw [if_pos (.inr (.inr rfl))]
    go_enter Try.func167, Try.ntmps167
    go_wp2
    go_ret
    exact fin [-1] _ rfl
  have e5 : (t == 12) = false := by simpa using h5
  rw [if_neg (by rintro (h | h | h) <;> contradiction)]
  by_cases h6 : t = 15
  · subst h6
    rw [if_pos rfl]
    go_enter Try.func167, Try.ntmps167
    go_wp2
    go_ret
    exact fin [2, -1] _ rfl
  rw [if_neg h6]
  have e6 : (t == 15) = false := by simpa using h6
  by_cases h7 : t = 6
  · subst h7
    rw [if_pos rfl]
    go_enter Try.func167, Try.ntmps167
    go_wp2
    go_ret
    exact fin [-1, -1, 4, 4, 4, 4, 4] _ rfl
  rw [if_neg h7]
  have e7 : (t == 6) = false := by simpa using h7
  by_cases h8 : t = 16
  · subst h8
    rw [if_pos rfl]
    go_enter Try.func167, Try.ntmps167
    go_wp2
    go_ret
    exact fin [-3] _ rfl
  rw [if_neg h8]
  have e8 : (t == 16) = false := by simpa using h8
  by_cases h9 : t = 33
  · subst h9
    rw [if_pos rfl]
    go_enter Try.func167, Try.ntmps167
    go_wp2
    go_ret
    exact fin [2, 2, 2, -2] _ rfl
  rw [if_neg h9]
  have e9 : (t == 33) = false := by simpa using h9
  go_enter Try.func167, Try.ntmps167
  go_wp2
  go_ret
  exact fin [-4] _ rfl
end Go.Proofs.Ytajdlgbhofdafaa
namespace Go.Proofs.Ytajdlgbhofdafaa
open Go.RowKit Go.Shelf Go.Proofs.YtajdlgbhofdafaaW.PrintWords Go.Proofs.YtajdlgbhofdafaaW.PrintLast Go.Proofs.YtajdlgbhofdafaaW.PrintMore
set_option maxRecDepth 1000000
attribute [local go_sem] Oper.semAt_some

theorem atB_on {msg s : ByteArray} {i nx : Nat} {pt : Int} (h : atB msg i = some (s, pt, nx)) (hi : i ≤ msg.size) : i ≤ nx := by
  unfold atB at h
  have hsz : (msg.extract i msg.size).size = msg.size - i := by simp
  have hp : ∀ {s : ByteArray} {nx : Nat} {pt : Int}, ptrB msg i = some (s, pt, nx) → i ≤ nx := by
    intro s nx pt h
    unfold ptrB at h
    cases hf : fieldsB [2] (msg.extract i msg.size) with
    | none => rw [hf] at h; cases h
    | some p =>
      rw [hf] at h
      obtain ⟨xs, t⟩ := p
      cases xs with
      | nil => cases h
      | cons v l =>
        dsimp only at h
        split at h
        · cases h
        · injection h with h
          injection h with h4 h5
          injection h5 with h5 h6
          omega
  cases hc : cutB 1 (msg.extract i msg.size) with
  | none => rw [hc] at h; exact hp h
  | some p =>
    obtain ⟨s', rest⟩ := p
    rw [hc] at h
    have hcs := cutB_size hc
    unfold atO at h
    dsimp only at h
    by_cases h3 : s'.size ≤ 63
    · rw [if_pos h3] at h
      injection h with h
      injection h with h4 h5
      injection h5 with h5 h6
      omega
    · rw [if_neg h3] at h
      exact hp h
/-- Where a name's reading comes to. -/
theorem readL_on {msg : ByteArray} {i0 : Nat} : ∀ (f : Nat) (n : ByteArray) (next fr : Int) (i : Nat) (p : ByteArray × Int × Nat), i ≤ msg.size → (next < 0 → i0 ≤ i) → (0 ≤ next → (i0 : Int) ≤ next ∧ next ≤ msg.size) → fr ≤ msg.size →
    readL msg f n next fr i = some p → (p.2.1 < 0 → i0 ≤ p.2.2) ∧ (0 ≤ p.2.1 → (i0 : Int) ≤ p.2.1 ∧ p.2.1 ≤ msg.size) ∧ p.2.2 ≤ msg.size := by
  intro f
  induction f with
  | zero => intro n next fr i p _ _ _ _ h; cases h
  | succ f ih =>
    intro n next fr i p hi h1 h2 hfr h
    rw [readL] at h
    by_cases hl : 255 < n.size
    · rw [if_pos hl] at h
      injection h with h
      subst h
      exact ⟨h1, h2, hi⟩
    · rw [if_neg hl] at h
      cases ha : atB msg i with
      | none => rw [ha] at h; cases h
      | some q =>
        obtain ⟨s, pt, nx⟩ := q
        rw [ha] at h
        have hon := atB_on ha hi
        obtain ⟨a1, a2, a3, a4, a5⟩ := atB_spec ha hi
        rw [readK] at h
        by_cases hb : fr ≤ pt
        · rw [if_pos hb] at h; cases h
        · rw [if_neg hb] at h
          by_cases hp : 0 ≤ pt
          · rw [if_pos hp] at h
            refine ih _ _ _ _ _ (by omega) ?_ ?_ (by omega) h
            · intro h3
              by_cases hn : next < 0
              · rw [if_pos hn] at h3; omega
              · rw [if_neg hn] at h3; omega
            · intro h3
              by_cases hn : next < 0
              · rw [if_pos hn]
                have := h1 hn
                omega
              · rw [if_neg hn]
                exact h2 (by omega)
          · rw [if_neg hp] at h
            by_cases hr : s = ⟨#[0]⟩
            · rw [if_pos hr] at h
              injection h with h
              subst h
              exact ⟨fun h3 => by have := h1 h3; dsimp only; omega, h2, a1⟩
            · rw [if_neg hr] at h
              exact ih _ _ _ _ _ (by omega) (fun h3 => by have := h1 h3; omega) h2 hfr h
theorem readB_on {msg n : ByteArray} {i : Nat} {next : Int} (h : readB msg i = some (n, next)) (hi : i ≤ msg.size) : (i : Int) ≤ next ∧ next ≤ msg.size ∧ rightB n = true := by
  unfold readB at h
  cases hl : readL msg (257 + i) ⟨#[]⟩ (-1) i i with
  | none => rw [hl] at h; cases h
  | some p =>
    rw [hl, Option.bind_some] at h
    obtain ⟨h1, h2, h3⟩ := readL_on (i0 := i) _ _ _ _ _ _ hi (fun _ => Nat.le_refl _) (fun h => by omega) (by omega) hl
    by_cases hr : rightB p.1
    · rw [if_pos hr] at h
      injection h with h
      injection h with h4 h5
      subst h4 h5
      by_cases hn : p.2.1 < 0
      · rw [if_pos hn]
        have := h1 hn
        exact ⟨by omega, by omega, hr⟩
      · rw [if_neg hn]
        have := h2 (by omega)
        exact ⟨this.1, this.2, hr⟩
    · rw [if_neg hr] at h; cases h

/-- The part of a kind that stands at a place, up to an end, and the place behind it. -/
def partB (msg : ByteArray) (i e : Nat) (kind : Int) : Option (ByteArray × Nat) :=
  if kind = -1 then (readB (msg.extract 0 e) i).map fun p => (p.1, p.2.toNat) else
  if kind = -2 then (readB (msg.extract 0 e) i).bind fun p => if p.1 = msg.extract i p.2.toNat then some (p.1, p.2.toNat) else none else
  if kind = -3 then (match piecesB 1 (msg.extract i e).size (msg.extract i e) with | some (_ :: _) => some (msg.extract i e, e) | _ => none) else
  if kind = -4 then some (msg.extract i e, e) else
  if (e : Int) - i < kind then none else some (msg.extract i (i + kind.toNat), i + kind.toNat)
theorem partB_on {msg s : ByteArray} {i e nx : Nat} {kind : Int} (h : partB msg i e kind = some (s, nx)) (hi : i ≤ e) (he : e ≤ msg.size) (hk : kind = -1 ∨ kind = -2 ∨ kind = -3 ∨ kind = -4 ∨ 0 ≤ kind) : i ≤ nx ∧ nx ≤ e := by
  have hse : (msg.extract 0 e).size = e := by simp; omega
  unfold partB at h
  by_cases h1 : kind = -1
  · rw [if_pos h1] at h
    cases hr : readB (msg.extract 0 e) i with
    | none => rw [hr] at h; cases h
    | some p =>
      obtain ⟨n, next⟩ := p
      rw [hr, Option.map_some] at h
      injection h with h
      injection h with h3 h4
      have := readB_on hr (by omega)
      rw [hse] at this
      dsimp only at h4
      omega
  rw [if_neg h1] at h
  by_cases h2 : kind = -2
  · rw [if_pos h2] at h
    cases hr : readB (msg.extract 0 e) i with
    | none => rw [hr] at h; cases h
    | some p =>
      obtain ⟨n, next⟩ := p
      rw [hr, Option.bind_some] at h
      have := readB_on hr (by omega)
      rw [hse] at this
      dsimp only at h
      split at h
      · injection h with h
        injection h with h3 h4
        omega
      · cases h
  rw [if_neg h2] at h
  by_cases h3 : kind = -3
  · rw [if_pos h3] at h
    split at h
    · injection h with h
      injection h with h4 h5
      omega
    · cases h
  rw [if_neg h3] at h
  by_cases h4 : kind = -4
  · rw [if_pos h4] at h
    injection h with h
    injection h with h5 h6
    omega
  rw [if_neg h4] at h
  by_cases h5 : (e : Int) - i < kind
  · rw [if_pos h5] at h; cases h
  · rw [if_neg h5] at h
    injection h with h
    injection h with h6 h7
    omega

/-- What part answers. -/
def PartRet (w : World) (o : Option (ByteArray × Nat)) (e : Ending) (w' : World) : Prop := Below w.heap.size w w' ∧
  match o with
  | some (s, nx) => e = .returned (.tuple #[.string s, .int .i64 nx, .bool true])
  | none => ∃ s n, e = .returned (.tuple #[.string s, .int .i64 n, .bool false])
theorem ret_part {s s' : ByteArray} {n n' : Int} {b b' : Bool} (h1 : s = s') (h2 : n = n') (h3 : b = b') : Ending.returned (.tuple #[.string s, .int .i64 n, .bool b]) = .returned (.tuple #[.string s', .int .i64 n', .bool b']) := by rw [h1, h2, h3]

set_option maxHeartbeats 2000000 in
theorem part_name (msg : ByteArray) (i e : Nat) (w : World) (hi : i ≤ e) (he : e ≤ msg.size) (hb : msg.size ≤ 4398046511104) :
    Calls Try.prog 168 #[.string msg, .int .i64 i, .int .i64 e, .int .i64 (-1)] w (PartRet w (partB msg i e (-1))) := by
  have hR := Read_any (msg.extract 0 e) i w (by simp; omega) (by simp; omega)
  have hp : partB msg i e (-1) = (readB (msg.extract 0 e) i).map fun p => (p.1, p.2.toNat) := by unfold partB; rw [if_pos rfl]
  rw [hp]
  have hd2 : decide (msg.size < e) = false := by simp; omega
  cases hr : readB (msg.extract 0 e) i with
  | none =>
    rw [hr] at hR
    have HR := Lib.hid hR
    clear hR hr hp
    go_enter Try.func168, Try.ntmps168
    go_wp2_with (go_at_call 114; refine HR.out.mono ?_; rintro e w1 ⟨hB, rfl⟩)
    go_region
    go_wp2
    go_ret3
    exact ⟨⟨hB.os, hB.tape, hB.output, hB.size, hB.block⟩, _, _, rfl⟩
  | some p =>
    obtain ⟨n, next⟩ := p
    rw [hr] at hR
    have hon := readB_on hr (by simp; omega)
    have HR := Lib.hid hR
    have hnn : ((next.toNat : Nat) : Int) = next := Int.toNat_of_nonneg (by omega)
    clear hR hr hp
    go_enter Try.func168, Try.ntmps168
    go_wp2_with (go_at_call 114; refine HR.out.mono ?_; rintro e w1 ⟨hB, rfl⟩)
    go_region
    go_wp2
    go_ret3
    exact ⟨⟨hB.os, hB.tape, hB.output, hB.size, hB.block⟩, ret_part rfl hnn.symm rfl⟩

theorem bytes_beq (a b : ByteArray) : (a.toList == b.toList) = decide (a = b) := by
  by_cases h : a = b
  · subst h; simp
  · have : ¬ a.toList = b.toList := fun e => h (by rw [ByteArray.toList_eq, ByteArray.toList_eq] at e; exact ByteArray.ext (Array.ext' e))
    simp [h, this]

set_option maxHeartbeats 2000000 in
theorem part_plain (msg : ByteArray) (i e : Nat) (w : World) (hi : i ≤ e) (he : e ≤ msg.size) (hb : msg.size ≤ 4398046511104) :
    Calls Try.prog 168 #[.string msg, .int .i64 i, .int .i64 e, .int .i64 (-2)] w (PartRet w (partB msg i e (-2))) := by
  have hR := Read_any (msg.extract 0 e) i w (by simp; omega) (by simp; omega)
  have hp : partB msg i e (-2) = (readB (msg.extract 0 e) i).bind fun p => if p.1 = msg.extract i p.2.toNat then some (p.1, p.2.toNat) else none := by unfold partB; rw [if_neg (by decide), if_pos rfl]
  rw [hp]
  have hd2 : decide (msg.size < e) = false := by simp; omega
  cases hr : readB (msg.extract 0 e) i with
  | none =>
    rw [hr] at hR
    have HR := Lib.hid hR
    clear hR hr hp
    go_enter Try.func168, Try.ntmps168
    go_wp2_with (go_at_call 114; refine HR.out.mono ?_; rintro e w1 ⟨hB, rfl⟩)
    go_region
    go_wp2
    go_ret3
    exact ⟨⟨hB.os, hB.tape, hB.output, hB.size, hB.block⟩, _, _, rfl⟩
  | some p =>
    obtain ⟨n, next⟩ := p
    rw [hr] at hR
    have hon := readB_on hr (by simp; omega)
    rw [show (msg.extract 0 e).size = e from by simp; omega] at hon
    obtain ⟨nx, rfl⟩ : ∃ nx : Nat, next = nx := ⟨next.toNat, by omega⟩
    have hd3 : decide (msg.size < nx) = false := by simp; omega
    have hd4 : decide (nx < i) = false := by simp; omega
    have HR := Lib.hid hR
    rw [Option.bind_some]
    dsimp only
    rw [Int.toNat_natCast]
    by_cases heq : n = msg.extract i nx
    · rw [if_pos heq]
      have hbq : (n.toList == (msg.extract i nx).toList) = true := by rw [bytes_beq]; simpa using heq
      clear hR hr hp heq
      go_enter Try.func168, Try.ntmps168
      go_wp2_with (go_at_call 114; refine HR.out.mono ?_; rintro e w1 ⟨hB, rfl⟩)
      go_region
      go_wp2
      go_ret3
      exact ⟨⟨hB.os, hB.tape, hB.output, hB.size, hB.block⟩, rfl⟩
    · rw [if_neg heq]
      have hbq : (n.toList == (msg.extract i nx).toList) = false := by rw [bytes_beq]; simpa using heq
      clear hR hr hp heq
      go_enter Try.func168, Try.ntmps168
      go_wp2_with (go_at_call 114; refine HR.out.mono ?_; rintro e w1 ⟨hB, rfl⟩)
      go_region
      go_wp2
      go_ret3
      exact ⟨⟨hB.os, hB.tape, hB.output, hB.size, hB.block⟩, _, _, rfl⟩

set_option maxHeartbeats 2000000 in
theorem part_texts (msg : ByteArray) (i e : Nat) (w : World) (hi : i ≤ e) (he : e ≤ msg.size) (hb : msg.size ≤ 4398046511104) :
    Calls Try.prog 168 #[.string msg, .int .i64 i, .int .i64 e, .int .i64 (-3)] w (PartRet w (partB msg i e (-3))) := by
  have hR := Pieces_any 1 (msg.extract i e) w (by simp; omega) (.inl rfl)
  have hp : partB msg i e (-3) = (match piecesB 1 (msg.extract i e).size (msg.extract i e) with | some (_ :: _) => some (msg.extract i e, e) | _ => none) := by unfold partB; rw [if_neg (by decide), if_neg (by decide), if_pos rfl]
  rw [hp]
  have hd2 : decide (msg.size < e) = false := by simp; omega
  have hd3 : decide (e < i) = false := by simp; omega
  generalize hq : piecesB 1 (msg.extract i e).size (msg.extract i e) = o at hR ⊢
  have HR := Lib.hid hR
  clear hR hp hq
  cases o with
  | none =>
    go_enter Try.func168, Try.ntmps168
    go_wp2_with (go_at_call 102; refine HR.out.mono ?_; rintro e w1 ⟨hB, rfl⟩)
    go_ret3
    exact ⟨hB, _, _, rfl⟩
  | some xs =>
    cases xs with
    | nil =>
      go_enter Try.func168, Try.ntmps168
      go_wp2_with (go_at_call 102; refine HR.out.mono ?_; rintro e w1 ⟨hB, v, rfl, hv⟩; obtain ⟨ao, cap, rfl⟩ := Kd.R_slice hv)
      go_ret3
      exact ⟨hB, _, _, rfl⟩
    | cons x xs =>
      go_enter Try.func168, Try.ntmps168
      go_wp2_with (go_at_call 102; refine HR.out.mono ?_; rintro e w1 ⟨hB, v, rfl, hv⟩; obtain ⟨ao, cap, rfl⟩ := Kd.R_slice hv)
      go_ret3
      exact ⟨hB, ret_part rfl rfl (by first | (simp; done) | (simp; omega))⟩

set_option maxHeartbeats 2000000 in
theorem part_rest (msg : ByteArray) (i e : Nat) (w : World) (hi : i ≤ e) (he : e ≤ msg.size) :
    Calls Try.prog 168 #[.string msg, .int .i64 i, .int .i64 e, .int .i64 (-4)] w (PartRet w (partB msg i e (-4))) := by
  have hp : partB msg i e (-4) = some (msg.extract i e, e) := by unfold partB; rw [if_neg (by decide), if_neg (by decide), if_neg (by decide), if_pos rfl]
  rw [hp]
  have hd2 : decide (msg.size < e) = false := by simp; omega
  have hd3 : decide (e < i) = false := by simp; omega
  go_enter Try.func168, Try.ntmps168
  go_wp2
  go_ret3
  exact ⟨Below.refl _ _, rfl⟩

set_option maxHeartbeats 2000000 in
theorem part_num (msg : ByteArray) (i e k : Nat) (w : World) (hi : i ≤ e) (he : e ≤ msg.size) (hb : msg.size ≤ 4398046511104) (hk : k ≤ 1000) :
    Calls Try.prog 168 #[.string msg, .int .i64 i, .int .i64 e, .int .i64 k] w (PartRet w (partB msg i e k)) := by
  have hp : partB msg i e k = if (e : Int) - i < k then none else some (msg.extract i (i + k), i + k) := by unfold partB; rw [if_neg (by omega), if_neg (by omega), if_neg (by omega), if_neg (by omega), Int.toNat_natCast]
  rw [hp]
  have e1 : ((k : Int) == -1) = false := by first | (simp; done) | (simp; omega)
  have e2 : ((k : Int) == -2) = false := by first | (simp; done) | (simp; omega)
  have e3 : ((k : Int) == -3) = false := by first | (simp; done) | (simp; omega)
  have e4 : ((k : Int) == -4) = false := by first | (simp; done) | (simp; omega)
  have hd2 : decide (msg.size < e) = false := by simp; omega
  by_cases h : (e : Int) - i < k
  · rw [if_pos h]
    have hd : decide ((e : Int) - i < k) = true := by simpa using h
    go_enter Try.func168, Try.ntmps168
    go_wp2
    go_ret3
    exact ⟨Below.refl _ _, _, _, rfl⟩
  · rw [if_neg h]
    have hd : decide ((e : Int) - i < k) = false := by simpa using h
    have hd5 : decide (msg.size < i + k) = false := by simp; omega
    go_enter Try.func168, Try.ntmps168
    go_wp2
    go_ret3
    exact ⟨Below.refl _ _, ret_part rfl (by omega) rfl⟩
/-- A part's kind. -/
def IsKind (k : Int) : Prop := k = -1 ∨ k = -2 ∨ k = -3 ∨ k = -4 ∨ (0 ≤ k ∧ k ≤ 1000)
theorem part_any (msg : ByteArray) (i e : Nat) (k : Int) (w : World) (hi : i ≤ e) (he : e ≤ msg.size) (hb : msg.size ≤ 4398046511104) (hk : IsKind k) :
    Calls Try.prog 168 #[.string msg, .int .i64 i, .int .i64 e, .int .i64 k] w (PartRet w (partB msg i e k)) := by
  rcases hk with rfl | rfl | rfl | rfl | ⟨h0, h1⟩
  · exact part_name msg i e w hi he hb
  · exact part_plain msg i e w hi he hb
  · exact part_texts msg i e w hi he hb
  · exact part_rest msg i e w hi he
  · obtain ⟨n, rfl⟩ : ∃ n : Nat, k = n := ⟨k.toNat, by omega⟩
    exact part_num msg i e n w hi he hb (by omega)
end Go.Proofs.Ytajdlgbhofdafaa
