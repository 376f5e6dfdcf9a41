/- Plain laws: what stands at a place of a message; names that were written are read again. -/
import Derived.Test.YtajdlgbhofdafaaRecWrite
namespace Go.Proofs.Ytajdlgbhofdafaa

theorem ba_ext {a b : ByteArray} (h : a.data.toList = b.data.toList) : a = b := ByteArray.ext (Array.ext' h)
theorem data_app (a b : ByteArray) : (a ++ b).data.toList = a.data.toList ++ b.data.toList := by
  rw [ByteArray.data_append, Array.toList_append]
theorem data_extract (a : ByteArray) (i j : Nat) : (a.extract i j).data.toList = (a.data.toList.take j).drop i := by
  simp only [ByteArray.data_extract, Array.toList_extract, List.extract_eq_take_drop]
  rw [List.drop_take]
theorem data_len (a : ByteArray) : a.data.toList.length = a.size := by simp
theorem data_mk (l : List UInt8) : (ByteArray.mk l.toArray).data.toList = l := by simp
theorem size_mk (l : List UInt8) : (ByteArray.mk l.toArray).size = l.length := by rw [← data_len, data_mk]
theorem data_tail (a : ByteArray) (i : Nat) : (a.extract i a.size).data.toList = a.data.toList.drop i := by
  rw [data_extract, ← data_len, List.take_length]
theorem app_nil (a : ByteArray) : a ++ ⟨#[]⟩ = a := ba_ext (by rw [data_app]; simp)
theorem nil_app (a : ByteArray) : (⟨#[]⟩ : ByteArray) ++ a = a := ba_ext (by rw [data_app]; simp)
theorem extract_app_left (a b : ByteArray) (i j : Nat) (h : j ≤ a.size) : (a ++ b).extract i j = a.extract i j :=
  ba_ext (by rw [data_extract, data_extract, data_app, List.take_append_of_le_length (by rw [data_len]; exact h)])
theorem extract_all (a : ByteArray) : a.extract 0 a.size = a := ba_ext (by rw [data_extract, ← data_len, List.take_length, List.drop_zero])
theorem extract_add (a : ByteArray) {i j k : Nat} (h : i ≤ j) (h2 : j ≤ k) : a.extract i j ++ a.extract j k = a.extract i k := by
  apply ba_ext
  rw [data_app, data_extract, data_extract, data_extract]
  generalize a.data.toList = l
  have e1 : (l.take k).take j = l.take j := by rw [List.take_take, Nat.min_eq_left h2]
  rw [← e1]
  generalize l.take k = m
  by_cases hm : i ≤ (m.take j).length
  · rw [← List.drop_append_of_le_length hm, List.take_append_drop]
  · rw [List.length_take] at hm
    have h3 : m.length < i := by omega
    rw [List.drop_eq_nil_of_le (by rw [List.length_take]; omega), show m.drop j = [] from List.drop_eq_nil_of_le (by omega), show m.drop i = [] from List.drop_eq_nil_of_le (by omega)]
    rfl
theorem extract_mid (a b c : ByteArray) : (a ++ (b ++ c)).extract a.size (a.size + b.size) = b := by
  apply ba_ext
  rw [data_extract, data_app, data_app, ← data_len, ← data_len]
  rw [← List.append_assoc, List.take_left' (by simp), List.drop_left]
theorem size_ext (a : ByteArray) {i j : Nat} (h : j ≤ a.size) : (a.extract i j).size = j - i := by
  rw [← data_len, data_extract, List.length_drop, List.length_take, data_len, Nat.min_eq_left h]

theorem beN_one (c : UInt8) : beN [c] = c.toNat := by simp [beN]
theorem beN_two (c d : UInt8) : beN [c, d] = c.toNat * 256 + d.toNat := by simp [beN]

theorem cutB_list {r : ByteArray} {c : UInt8} {l : List UInt8} (h : r.data.toList = c :: l) :
    cutB 1 r = if l.length < c.toNat then none else some (⟨(l.take c.toNat).toArray⟩, ⟨(l.drop c.toNat).toArray⟩) := by
  have hs : r.size = l.length + 1 := by rw [← data_len, h]; rfl
  have h1 : (r.extract 0 1).data.toList = [c] := by rw [data_extract, h]; rfl
  have h2 : (r.extract 1 r.size).data.toList = l := by rw [data_tail, h]; rfl
  have h3 : (r.extract 1 r.size).size = l.length := by rw [← data_len, h2]
  unfold cutB
  rw [if_neg (by omega), h1, beN_one, h3]
  by_cases hc : l.length < c.toNat
  · rw [if_pos hc, if_pos hc]
  · rw [if_neg hc, if_neg hc]
    congr 2
    · exact ba_ext (by rw [data_extract, h2, data_mk, List.drop_zero])
    · exact ba_ext (by rw [data_extract, h2, data_mk, List.take_length])
theorem cutB_nil1 {r : ByteArray} (h : r.data.toList = []) : cutB 1 r = none := by
  have hs : r.size = 0 := by rw [← data_len, h]; rfl
  unfold cutB
  rw [if_pos (by omega)]
/-- What stands at a place, by the bytes from there on. -/
def atL (i : Nat) : List UInt8 → Option (ByteArray × Int × Nat)
  | [] => none
  | c :: l => if c.toNat ≤ 63 then (if c.toNat ≤ l.length then some (⟨(c :: l.take c.toNat).toArray⟩, -1, i + 1 + c.toNat) else none)
    else match l with
      | [] => none
      | d :: _ => if c.toNat < 192 then none else some (⟨#[]⟩, ((c.toNat * 256 + d.toNat : Nat) : Int) - 49152, i + 2)
theorem ptrB_list (msg : ByteArray) (i : Nat) : ptrB msg i = match msg.data.toList.drop i with
    | c :: d :: _ => if c.toNat < 192 then none else some (⟨#[]⟩, ((c.toNat * 256 + d.toNat : Nat) : Int) - 49152, i + 2)
    | _ => none := by
  have ht := data_tail msg i
  unfold ptrB
  generalize msg.extract i msg.size = r at *
  rw [← ht]
  cases hl : r.data.toList with
  | nil =>
    have hs : r.size = 0 := by rw [← data_len, hl]; rfl
    rw [fieldsB, if_pos (by omega)]
  | cons c l =>
    cases l with
    | nil =>
      have hs : r.size = 1 := by rw [← data_len, hl]; rfl
      rw [fieldsB, if_pos (by omega)]
    | cons d l =>
      have hs : r.size = l.length + 2 := by rw [← data_len, hl]; rfl
      have h2 : (r.extract 0 2).data.toList = [c, d] := by rw [data_extract, hl]; rfl
      rw [fieldsB, if_neg (by omega), fieldsB, h2, beN_two]
      dsimp only [Option.map_some]
      have hd := d.toNat_lt
      by_cases hc : c.toNat < 192
      · rw [if_pos hc, if_pos (by omega)]
      · rw [if_neg hc, if_neg (by omega)]
theorem atB_list (msg : ByteArray) (i : Nat) (hi : i ≤ msg.size) : atB msg i = atL i (msg.data.toList.drop i) := by
  have ht := data_tail msg i
  have hp := ptrB_list msg i
  have hsz := size_ext msg (i := i) (Nat.le_refl _)
  unfold atB
  cases hl : msg.data.toList.drop i with
  | nil =>
    rw [cutB_nil1 (by rw [ht, hl])]
    show ptrB msg i = none
    rw [hp, hl]
  | cons c l =>
    have hr : (msg.extract i msg.size).data.toList = c :: l := by rw [ht, hl]
    have hln : (msg.extract i msg.size).size = l.length + 1 := by rw [← data_len, hr]; rfl
    rw [cutB_list hr]
    have hc256 := c.toNat_lt
    by_cases hc : l.length < c.toNat
    · rw [if_pos hc]
      show ptrB msg i = _
      rw [hp, hl]
      simp only [atL]
      by_cases h63 : c.toNat ≤ 63
      · rw [if_pos h63, if_neg (by omega)]
        cases l with
        | nil => rfl
        | cons d l => dsimp only; rw [if_pos (by omega)]
      · rw [if_neg h63]
        cases l with
        | nil => rfl
        | cons d l => rfl
    · rw [if_neg hc]
      unfold atO
      dsimp only
      rw [size_mk (l.take c.toNat), size_mk (l.drop c.toNat), List.length_take, List.length_drop, Nat.min_eq_left (by omega)]
      simp only [atL]
      by_cases h63 : c.toNat ≤ 63
      · rw [if_pos h63, if_pos h63, if_pos (by omega)]
        have e : msg.size - (l.length - c.toNat) = i + 1 + c.toNat := by omega
        rw [e]
        congr 2
        apply ba_ext
        rw [data_extract, data_mk, List.drop_take, hl, show i + 1 + c.toNat - i = c.toNat + 1 from by omega, List.take_succ_cons]
      · rw [if_neg h63, if_neg h63, hp, hl]
        cases l with
        | nil => rfl
        | cons d l => rfl
theorem atB_lt {msg s : ByteArray} {i nx : Nat} {pt : Int} (h : atB msg i = some (s, pt, nx)) : i < msg.size := by
  refine Nat.lt_of_not_le fun hle => ?_
  have hz : msg.data.toList.drop i = [] := List.drop_eq_nil_of_le (by rw [data_len]; exact hle)
  unfold atB at h
  rw [cutB_nil1 (by rw [data_tail, hz])] at h
  have : ptrB msg i = none := by rw [ptrB_list, hz]
  unfold atO at h
  dsimp only at h
  rw [this] at h
  cases h
theorem atL_ext {i : Nat} {r x : List UInt8} {o : ByteArray × Int × Nat} (h : atL i r = some o) : atL i (r ++ x) = some o := by
  cases r with
  | nil => cases h
  | cons c l =>
    rw [List.cons_append]
    simp only [atL] at h ⊢
    by_cases hc : c.toNat ≤ 63
    · rw [if_pos hc] at h ⊢
      by_cases hl : c.toNat ≤ l.length
      · rw [if_pos hl] at h
        rw [if_pos (by rw [List.length_append]; omega), List.take_append_of_le_length hl]
        exact h
      · rw [if_neg hl] at h; cases h
    · rw [if_neg hc] at h ⊢
      cases l with
      | nil => cases h
      | cons d l => exact h
theorem atB_ext {msg s : ByteArray} (x : ByteArray) {i nx : Nat} {pt : Int} (h : atB msg i = some (s, pt, nx)) : atB (msg ++ x) i = some (s, pt, nx) := by
  have hi := atB_lt h
  rw [atB_list _ _ (Nat.le_of_lt hi)] at h
  rw [atB_list _ _ (by rw [size_app]; omega), data_app, List.drop_append_of_le_length (by rw [data_len]; omega)]
  exact atL_ext h
/-- What stands at a place and is no pointer, is just the bytes there. -/
theorem atB_low {msg s : ByteArray} {i nx : Nat} (h : atB msg i = some (s, -1, nx)) : s = msg.extract i nx ∧ nx = i + s.size ∧ nx ≤ msg.size ∧ (s = ⟨#[0]⟩ ∨ 2 ≤ s.size) := by
  have hi := atB_lt h
  rw [atB_list _ _ (Nat.le_of_lt hi)] at h
  have hln : (msg.data.toList.drop i).length = msg.size - i := by rw [List.length_drop, data_len]
  cases hl : msg.data.toList.drop i with
  | nil => rw [hl] at h; cases h
  | cons c l =>
    rw [hl] at h hln
    simp only [List.length_cons] at hln
    simp only [atL] at h
    by_cases hc : c.toNat ≤ 63
    · rw [if_pos hc] at h
      by_cases hl2 : c.toNat ≤ l.length
      · rw [if_pos hl2] at h
        injection h with h
        injection h with h1 h2
        injection h2 with _ h2
        subst h1 h2
        have hsz : (ByteArray.mk (c :: l.take c.toNat).toArray).size = 1 + c.toNat := by
          rw [size_mk, List.length_cons, List.length_take, Nat.min_eq_left hl2]; omega
        refine ⟨?_, by omega, by omega, ?_⟩
        · apply ba_ext
          rw [data_extract, data_mk, List.drop_take, hl, show i + 1 + c.toNat - i = c.toNat + 1 from by omega, List.take_succ_cons]
        · by_cases h0 : c.toNat = 0
          · left
            have hc0 : c = 0 := by
              apply UInt8.toNat_inj.1
              rw [h0]; rfl
            subst hc0
            rfl
          · right; omega
      · rw [if_neg hl2] at h; cases h
    · rw [if_neg hc] at h
      cases l with
      | nil => cases h
      | cons d l =>
        dsimp only at h
        by_cases h192 : c.toNat < 192
        · rw [if_pos h192] at h; cases h
        · rw [if_neg h192] at h
          injection h with h
          injection h with h1 h2
          injection h2 with h2 h3
          exfalso
          omega
theorem atB_nx {msg s : ByteArray} {i nx p : Nat} (h : atB msg i = some (s, ((p : Nat) : Int), nx)) : nx = i + 2 ∧ nx ≤ msg.size := by
  have hi := atB_lt h
  rw [atB_list _ _ (Nat.le_of_lt hi)] at h
  have hln : (msg.data.toList.drop i).length = msg.size - i := by rw [List.length_drop, data_len]
  cases hl : msg.data.toList.drop i with
  | nil => rw [hl] at h; cases h
  | cons c l =>
    rw [hl] at h hln
    simp only [List.length_cons] at hln
    simp only [atL] at h
    by_cases hc : c.toNat ≤ 63
    · rw [if_pos hc] at h
      by_cases hl2 : c.toNat ≤ l.length
      · rw [if_pos hl2] at h
        injection h with h
        injection h with h1 h2
        injection h2 with h2 _
        exfalso
        omega
      · rw [if_neg hl2] at h; cases h
    · rw [if_neg hc] at h
      cases l with
      | nil => cases h
      | cons d l =>
        dsimp only at h
        by_cases h192 : c.toNat < 192
        · rw [if_pos h192] at h; cases h
        · rw [if_neg h192] at h
          injection h with h
          injection h with h1 h2
          injection h2 with h2 h3
          simp only [List.length_cons] at hln
          omega

/-- A label's bytes: how many, and they. -/
def LabOk (lab : ByteArray) : Prop := ∃ c l, lab.data.toList = c :: l ∧ c.toNat = l.length ∧ l.length ≤ 63
theorem atB_lab {pre lab post : ByteArray} (h : LabOk lab) : atB (pre ++ (lab ++ post)) pre.size = some (lab, -1, pre.size + lab.size) := by
  obtain ⟨c, l, h1, h2, h3⟩ := h
  have hs : lab.size = l.length + 1 := by rw [← data_len, h1]; rfl
  rw [atB_list _ _ (by rw [size_app]; omega), data_app, ← data_len, List.drop_left, data_app, h1, List.cons_append]
  simp only [atL]
  rw [if_pos (by omega), if_pos (by rw [List.length_append]; omega), h2, List.take_left, data_len, hs]
  have e : (ByteArray.mk (c :: l).toArray) = lab := ba_ext (by rw [data_mk, h1])
  rw [e, show pre.size + 1 + l.length = pre.size + (l.length + 1) from by omega]
theorem labOk_root : LabOk ⟨#[0]⟩ := ⟨0, [], rfl, rfl, by simp⟩
theorem joinB_two {v : Nat} (h : v < 65536) : (joinB [(2, v)]).data.toList = [UInt8.ofNat (v / 256), UInt8.ofNat (v % 256)] := by
  unfold joinB
  rw [strOfNums_data]
  simp only [joinL, List.flatMap_cons, List.flatMap_nil, List.append_nil, beL, List.map_cons, List.map_nil, Int.toNat_natCast, Nat.pow_one, Nat.pow_zero, Nat.div_one]
  rw [Nat.mod_eq_of_lt (show v / 256 < 256 by omega)]
theorem atB_ptr {pre post : ByteArray} {q : Nat} (h : q < 16384) : atB (pre ++ (joinB [(2, 49152 + q)] ++ post)) pre.size = some (⟨#[]⟩, ((q : Nat) : Int), pre.size + 2) := by
  rw [atB_list _ _ (by rw [size_app]; omega), data_app, ← data_len, List.drop_left, data_app, joinB_two (by omega)]
  have e1 : (UInt8.ofNat ((49152 + q) / 256)).toNat = 192 + q / 256 := by
    rw [UInt8.toNat_ofNat']
    omega
  have e2 : (UInt8.ofNat ((49152 + q) % 256)).toNat = q % 256 := by
    rw [UInt8.toNat_ofNat']
    omega
  simp only [List.cons_append, List.nil_append, atL]
  rw [e1, e2, if_neg (by omega), if_neg (by omega), data_len]
  congr 3
  omega

/-- A right name is the root, or a label and a right name. -/
theorem right_lab {n : ByteArray} (h : rightB n = true) : n = ⟨#[0]⟩ ∨ ∃ lab t, n = lab ++ t ∧ LabOk lab ∧ 2 ≤ lab.size ∧ rightB t = true ∧ parentB n = (t, true) ∧ n.extract 0 (n.size - t.size) = lab ∧ ¬ n = ⟨#[0]⟩ ∧ n.size ≤ 255 := by
  rcases right_cases h with h0 | ⟨hr, s, t, hc, hs0, hs63, hrt, hp, hsz, h255, hsp⟩
  · exact .inl h0
  refine .inr ⟨n.extract 0 (n.size - t.size), t, hsp, ?_, ?_, hrt, hp, rfl, hr, h255⟩
  · rcases cutB_spec 1 n with ⟨h1, s1, t1, hb1, hh, hs, he⟩ | ⟨hlt, he⟩ | ⟨h1, t1, hb1, hh, hs, he⟩
    · rw [hc] at he
      injection he with he
      injection he with e1 e2
      subst e1 e2
      have hlab : n.extract 0 (n.size - t.size) = h1 ++ s := by
        have hz : n.size - t.size = (h1 ++ s).size := by rw [hsz, size_app]; omega
        rw [hz, hb1, ← ByteArray.append_assoc, extract_app_left _ _ _ _ (Nat.le_refl _), extract_all]
      rw [hlab]
      cases hl : h1.data.toList with
      | nil => rw [← data_len, hl] at hh; cases hh
      | cons c l =>
        cases l with
        | cons d l => rw [← data_len, hl] at hh; simp at hh
        | nil =>
          rw [hl, beN_one] at hs
          exact ⟨c, s.data.toList, by rw [data_app, hl]; rfl, by rw [data_len]; exact hs, by rw [data_len]; exact hs63⟩
    · rw [hc] at he; cases he
    · rw [hc] at he; cases he
  · rw [size_ext _ (by omega)]; omega

/-- A name stands at a place (pointers lead before fr), up to another one. -/
inductive NmAt (msg : ByteArray) : Nat → Nat → ByteArray → Nat → Prop
  | root {fr i nx : Nat} : atB msg i = some (⟨#[0]⟩, -1, nx) → NmAt msg fr i ⟨#[0]⟩ nx
  | label {fr i j nx : Nat} {s t : ByteArray} : atB msg i = some (s, -1, j) → ¬ s = ⟨#[0]⟩ → NmAt msg fr j t nx → NmAt msg fr i (s ++ t) nx
  | ptr {fr i j p nx : Nat} {s t : ByteArray} : atB msg i = some (s, ((p : Nat) : Int), j) → p < fr → NmAt msg p p t nx → NmAt msg fr i t j
namespace NmAt
variable {msg n : ByteArray} {fr i nx : Nat}
theorem ext (x : ByteArray) (h : NmAt msg fr i n nx) : NmAt (msg ++ x) fr i n nx := by
  induction h with
  | root h => exact .root (atB_ext x h)
  | label h hs _ ih => exact .label (atB_ext x h) hs ih
  | ptr h hp _ ih => exact .ptr (atB_ext x h) hp ih
theorem mono {fr' : Nat} (h : NmAt msg fr i n nx) (hle : fr ≤ fr') : NmAt msg fr' i n nx := by
  induction h generalizing fr' with
  | root h => exact .root h
  | label h hs _ ih => exact .label h hs (ih hle)
  | ptr h hp hn _ => exact .ptr h (by omega) hn
theorem size (h : NmAt msg fr i n nx) : n.size = 1 ∨ 3 ≤ n.size := by
  induction h with
  | root h => exact .inl rfl
  | label h hs _ ih =>
    have := atB_low h
    right
    rw [size_app]
    rcases this.2.2.2 with h1 | h1
    · exact absurd h1 hs
    · omega
  | ptr h hp hn ih => exact ih
theorem le (h : NmAt msg fr i n nx) : i < nx ∧ nx ≤ msg.size := by
  induction h with
  | root h => have := atB_low h; have := atB_lt h; have h0 : (⟨#[0]⟩ : ByteArray).size = 1 := rfl; omega
  | label h hs _ ih =>
    have := atB_low h
    rcases this.2.2.2 with h1 | h1
    · exact absurd h1 hs
    · omega
  | ptr h hp hn ih => have := atB_nx h; omega
theorem pure (h : NmAt msg fr i n nx) : n = msg.extract i nx ∨ (0 < fr ∧ ¬ n.size = nx - i) := by
  induction h with
  | root h => exact .inl (atB_low h).1
  | label h hs hn ih =>
    have h1 := atB_low h
    have h2 := hn.le
    rcases ih with h3 | h3
    · left
      rw [h3]
      conv => lhs; rw [h1.1]
      exact extract_add _ (by omega) (by omega)
    · right
      rw [size_app]
      omega
  | ptr h hp hn ih =>
    have := atB_nx h
    have := hn.size
    right
    omega
end NmAt

/-- What stands there as a name is read. -/
theorem readL_of {msg t : ByteArray} {fr i nx : Nat} (h : NmAt msg fr i t nx) : ∀ (f : Nat) (acc : ByteArray) (next : Int), acc.size + t.size ≤ 255 → 257 + fr ≤ f + acc.size →
    ∃ a b, readL msg f acc next fr i = some (acc ++ t, a, b) ∧ (0 ≤ next → a = next) ∧ (next < 0 → (if a < 0 then (b : Int) else a) = nx) := by
  induction h with
  | @root fr i nx h =>
    intro f acc next hs hf
    have h0 : (⟨#[0]⟩ : ByteArray).size = 1 := rfl
    obtain ⟨f, rfl⟩ : ∃ g, f = g + 1 := ⟨f - 1, by omega⟩
    refine ⟨next, nx, ?_, fun _ => rfl, fun h => by rw [if_pos h]⟩
    rw [readL, if_neg (by omega), h]
    simp only [readK]
    rw [if_neg (by omega), if_neg (by omega), if_pos trivial]
  | @label fr i j nx s t h hns hn ih =>
    intro f acc next hs hf
    rw [size_app] at hs
    have h1 := atB_low h
    have h2 : 2 ≤ s.size := by
      rcases h1.2.2.2 with h1 | h1
      · exact absurd h1 hns
      · exact h1
    obtain ⟨f, rfl⟩ : ∃ g, f = g + 1 := ⟨f - 1, by omega⟩
    obtain ⟨a, b, h3, h4, h5⟩ := ih f (acc ++ s) next (by rw [size_app]; omega) (by rw [size_app]; omega)
    refine ⟨a, b, ?_, h4, h5⟩
    rw [readL, if_neg (by omega), h]
    simp only [readK]
    rw [if_neg (by omega), if_neg (by omega), if_neg hns, h3, ByteArray.append_assoc]
  | @ptr fr i j p nx s t h hp hn ih =>
    intro f acc next hs hf
    obtain ⟨f, rfl⟩ : ∃ g, f = g + 1 := ⟨f - 1, by omega⟩
    obtain ⟨a, b, h3, h4, h5⟩ := ih f acc (if next < 0 then (j : Int) else next) hs (by omega)
    refine ⟨a, b, ?_, fun h => ?_, fun h => ?_⟩
    · rw [readL, if_neg (by omega), h]
      simp only [readK]
      rw [if_neg (by omega), if_pos (by omega), Int.toNat_natCast, h3]
    · have := h4 (by rw [if_neg (by omega)]; exact h)
      rw [this, if_neg (by omega)]
    · have := h4 (by rw [if_pos h]; omega)
      rw [if_pos h] at this
      rw [this, if_neg (by omega)]
/-- What is read as a name stands there. -/
theorem of_readL {msg : ByteArray} : ∀ (f : Nat) (acc : ByteArray) (next : Int) (fr i : Nat) (r : ByteArray) (a : Int) (b : Nat), readL msg f acc next fr i = some (r, a, b) → r.size ≤ 255 →
    ∃ t nx, r = acc ++ t ∧ NmAt msg fr i t nx ∧ (0 ≤ next → a = next) ∧ (next < 0 → (if a < 0 then (b : Int) else a) = nx) := by
  intro f
  induction f with
  | zero => intro acc next fr i r a b h _; cases h
  | succ f ih =>
    intro acc next fr i r a b h hs
    rw [readL] at h
    by_cases hl : 255 < acc.size
    · rw [if_pos hl] at h
      injection h with h
      injection h with h1 h2
      subst h1
      omega
    · rw [if_neg hl] at h
      cases ha : atB msg i with
      | none => rw [ha] at h; cases h
      | some q =>
        obtain ⟨s, pt, nx⟩ := q
        rw [ha] at h
        obtain ⟨a1, a2, a3, a4, a5⟩ := atB_spec ha (Nat.le_of_lt (atB_lt ha))
        simp only [readK] at h
        by_cases hb : (fr : Int) ≤ pt
        · rw [if_pos hb] at h; cases h
        · rw [if_neg hb] at h
          by_cases hp : 0 ≤ pt
          · rw [if_pos hp] at h
            obtain ⟨p, rfl⟩ : ∃ p : Nat, pt = p := ⟨pt.toNat, by omega⟩
            rw [Int.toNat_natCast] at h
            obtain ⟨t, nx', h1, h2, h3, h4⟩ := ih acc _ p p r a b h hs
            refine ⟨t, nx, h1, .ptr ha (by omega) h2, fun h0 => ?_, fun h0 => ?_⟩
            · have := h3 (by rw [if_neg (by omega)]; exact h0)
              rw [this, if_neg (by omega)]
            · have := h3 (by rw [if_pos h0]; omega)
              rw [if_pos h0] at this
              rw [this, if_neg (by omega)]
          · rw [if_neg hp] at h
            have hm : pt = -1 := by omega
            subst hm
            by_cases hr : s = ⟨#[0]⟩
            · rw [if_pos hr] at h
              injection h with h
              injection h with h1 h2
              injection h2 with h2 h3
              subst h1 h2 h3 hr
              exact ⟨_, nx, rfl, .root ha, fun _ => rfl, fun h => by rw [if_pos h]⟩
            · rw [if_neg hr] at h
              obtain ⟨t, nx', h1, h2, h3, h4⟩ := ih (acc ++ s) next fr nx r a b h hs
              exact ⟨s ++ t, nx', by rw [h1, ByteArray.append_assoc], .label ha hr h2, h3, h4⟩
theorem right255 {n : ByteArray} (h : rightB n = true) : n.size ≤ 255 := rightB_size h
theorem readB_of {msg n : ByteArray} {i nx : Nat} (h : NmAt msg i i n nx) (hr : rightB n = true) : readB msg i = some (n, (nx : Int)) := by
  have := right255 hr
  obtain ⟨a, b, h1, _, h3⟩ := readL_of h (257 + i) ⟨#[]⟩ (-1) (by rw [show (⟨#[]⟩ : ByteArray).size = 0 from rfl]; omega) (by rw [show (⟨#[]⟩ : ByteArray).size = 0 from rfl]; omega)
  unfold readB
  rw [h1, Option.bind_some]
  dsimp only
  rw [nil_app, if_pos hr, h3 (by omega)]
theorem of_readB {msg n : ByteArray} {i : Nat} {q : Int} (h : readB msg i = some (n, q)) : rightB n = true ∧ ∃ nx : Nat, q = nx ∧ NmAt msg i i n nx := by
  unfold readB at h
  cases hl : readL msg (257 + i) ⟨#[]⟩ (-1) i i with
  | none => rw [hl] at h; cases h
  | some p =>
    obtain ⟨r, a, b⟩ := p
    rw [hl, Option.bind_some] at h
    dsimp only at h
    by_cases hr : rightB r = true
    · rw [if_pos hr] at h
      injection h with h
      injection h with h1 h2
      subst h1
      obtain ⟨t, nx, h3, h4, _, h6⟩ := of_readL _ _ _ _ _ _ _ _ hl (right255 hr)
      rw [nil_app] at h3
      subst h3
      refine ⟨hr, nx, ?_, h4⟩
      rw [← h2, h6 (by omega)]
    · rw [if_neg hr] at h; cases h
theorem readB_ext {msg n : ByteArray} (x : ByteArray) {i : Nat} {q : Int} (h : readB msg i = some (n, q)) : readB (msg ++ x) i = some (n, q) := by
  obtain ⟨hr, nx, rfl, hn⟩ := of_readB h
  exact readB_of (hn.ext x) hr

/-- A right name, written out, stands where it was written. -/
theorem nmAt_plain : ∀ (f : Nat) (pre n post : ByteArray) (fr : Nat), n.size ≤ f → rightB n = true → NmAt (pre ++ (n ++ post)) fr pre.size n (pre.size + n.size) := by
  intro f
  induction f with
  | zero =>
    intro pre n post fr hf hr
    rcases right_lab hr with rfl | ⟨lab, t, rfl, hl, h2, hrt, _⟩
    · cases hf
    · rw [size_app] at hf; omega
  | succ f ih =>
    intro pre n post fr hf hr
    rcases right_lab hr with rfl | ⟨lab, t, rfl, hl, h2, hrt, _⟩
    · exact .root (atB_lab labOk_root)
    · rw [size_app] at hf
      have h := ih (pre ++ lab) t post fr (by omega) hrt
      have hat := atB_lab (pre := pre) (post := t ++ post) hl
      rw [size_app, ByteArray.append_assoc] at h
      rw [ByteArray.append_assoc, size_app, ← Nat.add_assoc]
      exact .label hat (fun e => by rw [e] at h2; exact absurd h2 (by decide)) h

/-- What is known of the names in a message. -/
def KnownGood (pre : ByteArray) (es : Known) : Prop := KnownOk es ∧ ∀ p ∈ es, ∃ nx, NmAt pre p.2 p.2 p.1 nx
theorem nameR_at : ∀ (f : Nat) (es : Known) (pre n : ByteArray) (may : Bool) (fr : Nat), rightB n = true → n.size ≤ f → fr ≤ pre.size → KnownOk es →
    (∀ p ∈ es, (p.2 < fr ∧ ∃ nx, NmAt pre p.2 p.2 p.1 nx) ∨ n.size < p.1.size) →
    NmAt (pre ++ (nameR f es pre.size n may).1) fr pre.size n (pre.size + (nameR f es pre.size n may).1.size) ∧
    ∀ p ∈ (nameR f es pre.size n may).2, p ∈ es ∨ ∃ nx, NmAt (pre ++ (nameR f es pre.size n may).1) p.2 p.2 p.1 nx := by
  intro f
  induction f with
  | zero =>
    intro es pre n may fr hr hf
    rcases right_lab hr with rfl | ⟨lab, t, rfl, hl, h2, hrt, _⟩
    · cases hf
    · rw [size_app] at hf; omega
  | succ f ih =>
    intro es pre n may fr hr hf hfr hk hes
    rcases right_lab hr with rfl | ⟨lab, t, hn, hl, h2, hrt, hpar, hlab, hroot, h255⟩
    · rw [nameR_root]
      refine ⟨?_, fun p hp => .inl hp⟩
      have := atB_lab (pre := pre) (post := ⟨#[]⟩) labOk_root
      rw [app_nil] at this
      exact .root this
    · have hsz : n.size = lab.size + t.size := by rw [hn, size_app]
      have hstep : ∀ (es' : Known), KnownOk es' → (∀ p ∈ es', p ∈ es ∨ p = (n, pre.size)) →
          NmAt (pre ++ (lab ++ (nameR f es' (pre.size + lab.size) t may).1)) fr pre.size n (pre.size + (lab ++ (nameR f es' (pre.size + lab.size) t may).1).size) ∧
          ∀ p ∈ (nameR f es' (pre.size + lab.size) t may).2, p ∈ es ∨ ∃ nx, NmAt (pre ++ (lab ++ (nameR f es' (pre.size + lab.size) t may).1)) p.2 p.2 p.1 nx := by
        intro es' hk' hes'
        have h := ih es' (pre ++ lab) t may fr hrt (by omega) (by rw [size_app]; omega) hk' (by
          intro p hp
          rcases hes' p hp with h1 | h1
          · rcases hes p h1 with ⟨h3, nx, h4⟩ | h3
            · exact .inl ⟨h3, nx, h4.ext lab⟩
            · exact .inr (by omega)
          · subst h1
            exact .inr (by dsimp only; omega))
        rw [size_app, ByteArray.append_assoc] at h
        have hat := atB_lab (pre := pre) (post := (nameR f es' (pre.size + lab.size) t may).1) hl
        have hN : NmAt (pre ++ (lab ++ (nameR f es' (pre.size + lab.size) t may).1)) fr pre.size n (pre.size + (lab ++ (nameR f es' (pre.size + lab.size) t may).1).size) := by
          conv => arg 4; rw [hn]
          rw [size_app, ← Nat.add_assoc]
          exact .label hat (fun e => by rw [e] at h2; exact absurd h2 (by decide)) h.1
        refine ⟨hN, fun p hp => ?_⟩
        rcases h.2 p hp with h1 | h1
        · rcases hes' p h1 with h3 | h3
          · exact .inl h3
          · subst h3
            exact .inr ⟨_, hN.mono hfr⟩
        · exact .inr h1
      have hle : t.size ≤ n.size := by omega
      have hsub : n.size - t.size = lab.size := by omega
      cases hq : getV es n with
      | some q =>
        cases may with
        | true =>
          rw [nameR_ptr hroot hq]
          refine ⟨?_, fun p hp => .inl hp⟩
          have hm := getV_mem hq
          have hq16 := hk _ hm
          rcases hes _ hm with ⟨h3, nx, h4⟩ | h3
          · have hat := atB_ptr (pre := pre) (post := ⟨#[]⟩) hq16
            rw [app_nil] at hat
            have hjs : (joinB [(2, 49152 + q)]).size = 2 := by rw [joinB_size]; rfl
            rw [hjs]
            exact .ptr hat h3 (h4.ext _)
          · dsimp only at h3
            omega
        | false =>
          rw [nameR_old hroot hq hpar hle, hlab, hsub]
          exact hstep es hk (fun p hp => .inl hp)
      | none =>
        rw [nameR_new hroot hq hpar hle, hlab, hsub]
        refine hstep _ (knownOk_add hk) ?_
        intro p hp
        by_cases hl : pre.size < 16384
        · rw [if_pos hl] at hp
          rcases List.mem_append.1 hp with h1 | h1
          · exact .inl h1
          · simp at h1
            exact .inr h1
        · rw [if_neg hl] at hp
          exact .inl hp
theorem nameS_at {st : ByteArray × Known} {n : ByteArray} (may : Bool) (hr : rightB n = true) (hk : KnownGood st.1 st.2) :
    NmAt (nameS st n may).1 st.1.size st.1.size n (nameS st n may).1.size ∧ KnownGood (nameS st n may).1 (nameS st n may).2 := by
  have hok := (nameS_ok may hr hk.1).2
  have h := nameR_at n.size st.2 st.1 n may st.1.size hr (Nat.le_refl _) (Nat.le_refl _) hk.1 (by
    intro p hp
    obtain ⟨nx, h1⟩ := hk.2 p hp
    exact .inl ⟨by have := h1.le; omega, nx, h1⟩)
  unfold nameS at *
  dsimp only at *
  refine ⟨by rw [size_app]; exact h.1, hok, fun p hp => ?_⟩
  rcases h.2 p hp with h1 | h1
  · obtain ⟨nx, h2⟩ := hk.2 p h1
    exact ⟨nx, h2.ext _⟩
  · exact h1
/-- A name that may be no pointer is written out. -/
theorem nameR_plain : ∀ (f : Nat) (es : Known) (len : Nat) (n : ByteArray), rightB n = true → n.size ≤ f → (nameR f es len n false).1 = n := by
  intro f
  induction f with
  | zero =>
    intro es len n hr hf
    rcases right_lab hr with rfl | ⟨lab, t, rfl, hl, h2, hrt, _⟩
    · cases hf
    · rw [size_app] at hf; omega
  | succ f ih =>
    intro es len n hr hf
    rcases right_lab hr with rfl | ⟨lab, t, hn, hl, h2, hrt, hpar, hlab, hroot, h255⟩
    · rw [nameR_root]
    · have hsz : n.size = lab.size + t.size := by rw [hn, size_app]
      cases hq : getV es n with
      | some q =>
        rw [nameR_old hroot hq hpar (by omega), hlab]
        dsimp only
        rw [ih _ _ t hrt (by omega)]
        exact hn.symm
      | none =>
        rw [nameR_new hroot hq hpar (by omega), hlab]
        dsimp only
        rw [ih _ _ t hrt (by omega)]
        exact hn.symm
end Go.Proofs.Ytajdlgbhofdafaa
