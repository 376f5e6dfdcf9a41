/- Plain laws: an entry is read back from its bytes; without the last byte there is none. -/
import Derived.Test.YtajdlgbhofdafaaEntryOf
import Derived.Test.YtajdlgbhofdafaaPureB
namespace Go.Proofs.Ytajdlgbhofdafaa

theorem cutB_piece (k : Nat) (s x : ByteArray) (hs : s.size < 256 ^ k) : cutB k (joinB [(k, s.size)] ++ s ++ x) = some (s, x) := by
  obtain ⟨h1, h2⟩ := joinB_one hs
  have e0 : (joinB [(k, s.size)] ++ s ++ x).size = k + s.size + x.size := by rw [size_app, size_app, h1]
  have e1 : (joinB [(k, s.size)] ++ s ++ x).extract 0 k = joinB [(k, s.size)] := by
    rw [ByteArray.append_assoc]
    have := ext_left (joinB [(k, s.size)]) (s ++ x)
    rw [h1] at this
    exact this
  have e2 : (joinB [(k, s.size)] ++ s ++ x).extract k (joinB [(k, s.size)] ++ s ++ x).size = s ++ x := by
    rw [e0, ByteArray.append_assoc]
    have := ext_right (joinB [(k, s.size)]) (s ++ x)
    rw [h1, size_app] at this
    rw [Nat.add_assoc]
    exact this
  unfold cutB
  rw [if_neg (by omega), e1, h2, e2, if_neg (by rw [size_app]; omega)]
  rw [ext_left]
  rw [size_app, ext_right]
theorem cutB_ext {k : Nat} {b s t : ByteArray} (x : ByteArray) (h : cutB k b = some (s, t)) : cutB k (b ++ x) = some (s, t ++ x) := by
  rcases cutB_spec k b with ⟨h1, s1, t1, hb1, hh, hs, he⟩ | ⟨hlt, he⟩ | ⟨h1, t1, hb1, hh, hs, he⟩
  · rw [h] at he
    injection he with he
    injection he with e1 e2
    subst e1 e2
    subst hh
    have e0 : (b ++ x).size = h1.size + (s.size + t.size) + x.size := by rw [hb1]; simp only [size_app]
    have a1 : (b ++ x).extract 0 h1.size = h1 := by
      rw [hb1, ByteArray.append_assoc]
      exact ext_left _ _
    have a2 : (b ++ x).extract h1.size (b ++ x).size = s ++ (t ++ x) := by
      rw [e0, hb1]
      have := ext_right h1 (s ++ (t ++ x))
      simp only [size_app] at this
      rw [show h1.size + (s.size + t.size) + x.size = h1.size + (s.size + (t.size + x.size)) from by omega]
      simpa only [ByteArray.append_assoc] using this
    unfold cutB
    rw [if_neg (by omega), a1, hs, a2, if_neg (by rw [size_app]; omega), ext_left, size_app, ext_right]
  · rw [h] at he; cases he
  · rw [h] at he; cases he
/-- Bytes that are pieces, with others behind. -/
theorem pieces_app (k : Nat) (hk : 1 ≤ k) : ∀ (f : Nat) (a x : ByteArray) (l : List ByteArray), piecesB k f a = some l → piecesB k (f + x.size) (a ++ x) = (piecesB k x.size x).map (l ++ ·) := by
  intro f
  induction f with
  | zero =>
    intro a x l h
    rw [piecesB] at h
    split at h
    · rename_i h0
      injection h with h
      subst h
      have := size0 h0
      subst this
      rw [nil_app, Nat.zero_add]
      simp
    · cases h
  | succ f ih =>
    intro a x l h
    rw [piecesB] at h
    by_cases h0 : a.size = 0
    · rw [if_pos h0] at h
      injection h with h
      subst h
      have := size0 h0
      subst this
      rw [nil_app, pieces_fuel k (f + 1 + x.size) x.size x (by omega) (Nat.le_refl _) hk]
      simp
    · rw [if_neg h0] at h
      cases hc : cutB k a with
      | none => rw [hc] at h; cases h
      | some p =>
        obtain ⟨s, t⟩ := p
        rw [hc, Option.bind_some] at h
        dsimp only at h
        cases hp : piecesB k f t with
        | none => rw [hp] at h; cases h
        | some l' =>
          rw [hp] at h
          injection h with h
          subst h
          rw [show f + 1 + x.size = (f + x.size) + 1 from by omega, piecesB, if_neg (by rw [size_app]; omega), cutB_ext x hc, Option.bind_some]
          dsimp only
          rw [ih t x l' hp]
          cases piecesB k x.size x <;> rfl
theorem pieces_all (k : Nat) (hk : 1 ≤ k) (a x : ByteArray) (l : List ByteArray) (h : piecesB k a.size a = some l) : piecesB k (a ++ x).size (a ++ x) = (piecesB k x.size x).map (l ++ ·) := by
  rw [size_app]
  exact pieces_app k hk _ _ _ _ h
/-- Right records' own bytes, as pieces, are read again. -/
theorem piecesF_read : ∀ (l : List SR) (a : ByteArray) (ps : List ByteArray) (ls : List SR), piecesB 4 a.size a = some ps → recordsF ps = some ls → (∀ x ∈ l, rightR (toR x) = true) →
    ∃ b qs, piecesF l a = some b ∧ piecesB 4 b.size b = some qs ∧ recordsF qs = some (ls ++ l) := by
  intro l
  induction l with
  | nil => intro a ps ls h1 h2 _; exact ⟨a, ps, rfl, h1, by rw [List.append_nil]; exact h2⟩
  | cons x l ih =>
    intro a ps ls h1 h2 hr
    have hrx := hr x (by simp)
    have hown : ownR (toR x) = some (writeR (⟨#[]⟩, []) (toR x)).1 := by unfold ownR; rw [if_pos hrx]
    have hsz := ownR_size hown
    generalize hs : (writeR (⟨#[]⟩, []) (toR x)).1 = s at *
    have hread : readR s 0 = some (toR x, s.size) := by
      have := (record_read (st := (⟨#[]⟩, [])) ⟨#[]⟩ hrx knownGood_nil).2.2
      rw [hs, app_nil] at this
      exact this
    have hp1 : piecesB 4 (pieceB s).size (pieceB s) = some [s] := by
      have hc := cutB_piece 4 s ⟨#[]⟩ (by omega)
      rw [app_nil] at hc
      have hsp := pieceB_size s
      rw [show (pieceB s).size = (pieceB s).size - 1 + 1 from by omega, piecesB, if_neg (by omega)]
      unfold pieceB
      rw [hc, Option.bind_some]
      dsimp only
      have : piecesB 4 ((joinB [(4, s.size)] ++ s).size - 1) ⟨#[]⟩ = some [] := by
        cases (joinB [(4, s.size)] ++ s).size - 1 <;> rfl
      rw [this]
      rfl
    have hp2 := pieces_all 4 (by decide) a (pieceB s) ps h1
    rw [hp1] at hp2
    have hrec : recordsF (ps ++ [s]) = some (ls ++ [x]) := by
      have : ∀ (ps : List ByteArray) (ls : List SR), recordsF ps = some ls → recordsF (ps ++ [s]) = some (ls ++ [x]) := by
        intro ps
        induction ps with
        | nil =>
          intro ls h
          injection h with h
          subst h
          rw [List.nil_append, recordsF, hread]
          dsimp only
          rw [if_pos rfl]
          rfl
        | cons q ps ih =>
          intro ls h
          rw [recordsF] at h
          rw [List.cons_append, recordsF]
          cases hq : readR q 0 with
          | none => rw [hq] at h; cases h
          | some p =>
            obtain ⟨r, nx⟩ := p
            rw [hq] at h
            dsimp only at h ⊢
            by_cases hn : nx = q.size
            · rw [if_pos hn] at h ⊢
              cases hrr : recordsF ps with
              | none => rw [hrr] at h; cases h
              | some l' =>
                rw [hrr] at h
                injection h with h
                subst h
                rw [ih l' hrr]
                rfl
            · rw [if_neg hn] at h; cases h
      exact this ps ls h2
    obtain ⟨b, qs, i1, i2, i3⟩ := ih (a ++ pieceB s) (ps ++ [s]) (ls ++ [x]) hp2 hrec (fun y hy => hr y (by simp [hy]))
    refine ⟨b, qs, ?_, i2, ?_⟩
    · rw [piecesF, hown, Option.bind_some]
      exact i1
    · rw [i3, List.append_assoc]
      rfl
/-- The law of entries. -/
theorem entry_back (f t : Int) (l1 l2 : List SR) (hf : 0 ≤ f ∧ f < 4294967296) (ht : 0 ≤ t ∧ t < 4294967296) (hl : (l1 ++ l2).length ≤ 65536) (hr : ∀ x ∈ l1 ++ l2, rightR (toR x) = true) :
    ∃ b, entryB f t l1 l2 = some b ∧ 12 ≤ b.size ∧ entryOf b = some (f.toNat, t.toNat, l1, l2) ∧ entryOf (b.extract 0 (b.size - 1)) = none := by
  rw [List.length_append] at hl
  obtain ⟨pb, qs, h1, h2, h3⟩ := piecesF_read (l1 ++ l2) ⟨#[]⟩ [] [] rfl rfl hr
  rw [List.nil_append] at h3
  have hjs : (joinB [(4, f.toNat), (4, t.toNat), (4, l1.length)]).size = 12 := by rw [joinB_size]; rfl
  have hfj := fun rest => fields_join [(4, f.toNat), (4, t.toNat), (4, l1.length)] (by
    intro p hp
    simp at hp
    rcases hp with rfl | rfl | rfl
    · show f.toNat < 256 ^ 4; omega
    · show t.toNat < 256 ^ 4; omega
    · show l1.length < 256 ^ 4; omega) rest
  simp only [List.map_cons, List.map_nil] at hfj
  have hE : entryB f t l1 l2 = some (joinB [(4, f.toNat), (4, t.toNat), (4, l1.length)] ++ pb) := by
    unfold entryB
    rw [if_neg (by omega), h1]
    rfl
  generalize joinB [(4, f.toNat), (4, t.toNat), (4, l1.length)] = jb at *
  refine ⟨_, hE, by rw [size_app, hjs]; omega, ?_, ?_⟩
  · unfold entryOf
    rw [hfj pb]
    dsimp only
    unfold recordsB
    rw [h2, Option.bind_some, h3, Option.bind_some, if_neg (by rw [List.length_append]; omega)]
    simp only [Int.toNat_natCast]
    rw [List.take_left, List.drop_left]
  · by_cases h0 : pb.size = 0
    · have := size0 h0
      subst this
      rw [app_nil]
      rcases fields3 (jb.extract 0 (jb.size - 1)) with hn | ⟨a, b, c, rest, hs, _, _, _, hz⟩
      · unfold entryOf
        rw [hn]
      · rw [size_ext _ (by omega)] at hz
        omega
    · have hex : (jb ++ pb).extract 0 ((jb ++ pb).size - 1) = jb ++ pb.extract 0 (pb.size - 1) := by
        apply ba_ext
        rw [data_extract, data_app, data_app, data_extract, size_app, List.drop_zero, List.drop_zero, List.take_append, data_len, List.take_of_length_le (by rw [data_len]; omega)]
        congr 2
        omega
      rw [hex]
      unfold entryOf
      rw [hfj]
      dsimp only
      unfold recordsB
      have hsplit : pb = pb.extract 0 (pb.size - 1) ++ pb.extract (pb.size - 1) pb.size := by
        rw [extract_add _ (by omega) (by omega), extract_all]
      cases hp : piecesB 4 (pb.extract 0 (pb.size - 1)).size (pb.extract 0 (pb.size - 1)) with
      | none => rfl
      | some ps =>
        exfalso
        have h4 := pieces_all 4 (by decide) _ (pb.extract (pb.size - 1) pb.size) ps hp
        rw [← hsplit, h2] at h4
        have hlast : piecesB 4 (pb.extract (pb.size - 1) pb.size).size (pb.extract (pb.size - 1) pb.size) = none := by
          have hz : (pb.extract (pb.size - 1) pb.size).size = 1 := by rw [size_ext _ (Nat.le_refl _)]; omega
          have hc : cutB 4 (pb.extract (pb.size - 1) pb.size) = none := by unfold cutB; rw [if_pos (by omega)]
          rw [hz, piecesB, if_neg (by omega), hc]
          rfl
        rw [hlast] at h4
        cases h4
end Go.Proofs.Ytajdlgbhofdafaa
