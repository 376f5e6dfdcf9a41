/- Plain laws: data and records that were written are read again. Plain laws: a record that was written is read again; what was read is right, and stands in longer bytes too. -/
import Derived.Test.YtajdlgbhofdafaaPureA
import Derived.Test.YtajdlgbhofdafaaRecRead
namespace Go.Proofs.Ytajdlgbhofdafaa

theorem beN_acc (l : List UInt8) : ∀ v : Nat, l.foldl (fun v c => v * 256 + c.toNat) v = v * 256 ^ l.length + beN l := by
  induction l with
  | nil => intro v; simp [beN]
  | cons c l ih =>
    intro v
    have h1 := ih (v * 256 + c.toNat)
    have h2 := ih (0 * 256 + c.toNat)
    simp only [List.foldl_cons, List.length_cons, beN]
    rw [h1, h2, Nat.add_mul, Nat.mul_assoc, Nat.pow_succ, Nat.mul_comm 256, Nat.zero_mul, Nat.zero_add, Nat.add_assoc]
theorem beN_cons (c : UInt8) (l : List UInt8) : beN (c :: l) = c.toNat * 256 ^ l.length + beN l := by
  have := beN_acc l (0 * 256 + c.toNat)
  simp only [beN, List.foldl_cons] at this ⊢
  rw [this]
  simp
theorem beN_beL : ∀ (n v : Nat), beN ((beL n v).map fun x => UInt8.ofNat x.toNat) = v % 256 ^ n := by
  intro n
  induction n with
  | zero => intro v; simp [beL, beN, Nat.mod_one]
  | succ n ih =>
    intro v
    rw [beL, List.map_cons, beN_cons, ih, List.length_map, beL_length, Int.toNat_natCast, UInt8.toNat_ofNat']
    have : v / 256 ^ n % 256 % 2 ^ 8 = v / 256 ^ n % 256 := Nat.mod_eq_of_lt (by omega)
    rw [this, Nat.mod_pow_succ (b := 256), Nat.mul_comm (256 ^ n)]
    omega
theorem joinB_cons (p : Nat × Nat) (ps : List (Nat × Nat)) : joinB (p :: ps) = joinB [p] ++ joinB ps := by
  apply ba_ext
  rw [data_app]
  unfold joinB
  rw [strOfNums_data, strOfNums_data, strOfNums_data]
  simp [joinL]
theorem joinB_one {n v : Nat} (h : v < 256 ^ n) : (joinB [(n, v)]).size = n ∧ beN (joinB [(n, v)]).data.toList = v := by
  refine ⟨by rw [joinB_size]; simp, ?_⟩
  unfold joinB
  rw [strOfNums_data]
  have : joinL [(n, v)] = beL n v := by simp [joinL]
  rw [this, beN_beL, Nat.mod_eq_of_lt h]
theorem fields_join : ∀ (ps : List (Nat × Nat)), (∀ p ∈ ps, p.2 < 256 ^ p.1) → ∀ rest : ByteArray, fieldsB (ps.map (·.1)) (joinB ps ++ rest) = some (ps.map fun p => (p.2 : Int), rest) := by
  intro ps
  induction ps with
  | nil => intro _ rest; rw [show joinB [] = ⟨#[]⟩ from rfl, nil_app]; rfl
  | cons p ps ih =>
    intro h rest
    obtain ⟨h1, h2⟩ := joinB_one (h p (by simp))
    have h3 : (joinB [p] ++ (joinB ps ++ rest)).size = p.1 + (joinB ps ++ rest).size := by rw [size_app]; rw [show p = (p.1, p.2) from rfl]; omega
    rw [joinB_cons, ByteArray.append_assoc, List.map_cons, fieldsB, if_neg (by omega)]
    have e1 : (joinB [p] ++ (joinB ps ++ rest)).extract p.1 (joinB [p] ++ (joinB ps ++ rest)).size = joinB ps ++ rest := by
      have := ext_right (joinB [p]) (joinB ps ++ rest)
      rw [h3]
      rw [show (joinB [p]).size = p.1 from h1] at this
      exact this
    have e2 : (joinB [p] ++ (joinB ps ++ rest)).extract 0 p.1 = joinB [p] := by
      have := ext_left (joinB [p]) (joinB ps ++ rest)
      rw [show (joinB [p]).size = p.1 from h1] at this
      exact this
    rw [e1, e2, ih (fun q hq => h q (by simp [hq])) rest]
    show some (((beN (joinB [p]).data.toList : Nat) : Int) :: _, rest) = _
    rw [show beN (joinB [p]).data.toList = p.2 from h2]
    rfl
theorem fields_ext : ∀ (ws : List Nat) (b x : ByteArray) (xs : List Int) (rest : ByteArray), fieldsB ws b = some (xs, rest) → fieldsB ws (b ++ x) = some (xs, rest ++ x) ∧ rest.size + ws.sum = b.size := by
  intro ws
  induction ws with
  | nil =>
    intro b x xs rest h
    injection h with h
    injection h with h1 h2
    subst h1 h2
    exact ⟨rfl, by simp⟩
  | cons n ws ih =>
    intro b x xs rest h
    rw [fieldsB] at h
    by_cases hn : b.size < n
    · rw [if_pos hn] at h; cases h
    · rw [if_neg hn] at h
      cases hf : fieldsB ws (b.extract n b.size) with
      | none => rw [hf] at h; cases h
      | some p =>
        obtain ⟨ys, r⟩ := p
        rw [hf] at h
        injection h with h
        injection h with h1 h2
        dsimp only at h1 h2
        subst h1 h2
        obtain ⟨i1, i2⟩ := ih _ x _ _ hf
        have e1 : (b ++ x).extract n (b ++ x).size = b.extract n b.size ++ x := by
          apply ba_ext
          rw [data_tail, data_app, data_app, data_tail, List.drop_append_of_le_length (by rw [data_len]; omega)]
        have hsz := size_ext b (i := n) (Nat.le_refl _)
        refine ⟨?_, by rw [List.sum_cons]; omega⟩
        rw [fieldsB, if_neg (by rw [size_app]; omega), e1, i1, extract_app_left _ _ _ _ (by omega)]
        rfl
theorem pieces_fuel (k : Nat) : ∀ (f g : Nat) (b : ByteArray), b.size ≤ f → b.size ≤ g → 1 ≤ k → piecesB k f b = piecesB k g b := by
  intro f
  induction f with
  | zero =>
    intro g b hf hg _
    have h0 : b.size = 0 := by omega
    cases g with
    | zero => rfl
    | succ g => rw [piecesB, piecesB, if_pos h0, if_pos h0]
  | succ f ih =>
    intro g b hf hg hk
    by_cases h0 : b.size = 0
    · cases g with
      | zero => rw [piecesB, piecesB, if_pos h0, if_pos h0]
      | succ g => rw [piecesB, piecesB, if_pos h0, if_pos h0]
    · cases g with
      | zero => omega
      | succ g =>
        rw [piecesB, piecesB, if_neg h0, if_neg h0]
        cases hc : cutB k b with
        | none => rfl
        | some p =>
          obtain ⟨s, t⟩ := p
          rw [Option.bind_some, Option.bind_some]
          dsimp only
          have : t.size + k ≤ b.size := by
            unfold cutB at hc
            split at hc
            · cases hc
            · split at hc
              · cases hc
              · injection hc with hc
                injection hc with _ hc
                rw [← hc, size_ext _ (Nat.le_refl _), size_ext _ (Nat.le_refl _)]
                omega
          rw [ih g t (by omega) (by omega) hk]

/-- What a part must be. -/
def PartOk (x : Int × ByteArray) : Prop := (x.1 = -1 ∨ x.1 = -2 → rightB x.2 = true) ∧ (x.1 = -3 → ∃ y l, piecesB 1 x.2.size x.2 = some (y :: l)) ∧ (0 ≤ x.1 → x.2.size = x.1.toNat)
/-- What goes to the end stands last. -/
def LastOk : List Int → Prop
  | [] => True
  | k :: ks => ((k = -3 ∨ k = -4) → ks = []) ∧ IsKind k ∧ LastOk ks
theorem partsL_last (t : Int) : LastOk (partsL t) := by
  unfold partsL
  repeat' split
  all_goals simp [LastOk, IsKind]
/-- A part was put behind bytes. -/
def StepOk (x : Int × ByteArray) (B C : ByteArray) : Prop :=
  ∃ y, C = B ++ y ∧ (x.1 = -1 → NmAt C B.size B.size x.2 C.size) ∧ (x.1 = -2 → y = x.2 ∧ NmAt C B.size B.size x.2 C.size) ∧ (¬ x.1 = -1 → ¬ x.1 = -2 → y = x.2)
theorem step_part {x : Int × ByteArray} {B C D post : ByteArray} (h : StepOk x B C) (hx : PartOk x) (hk : IsKind x.1) (hD : ∃ z, D = C ++ z) (hl : (x.1 = -3 ∨ x.1 = -4) → D = C) : partB (D ++ post) B.size D.size x.1 = some (x.2, C.size) := by
  obtain ⟨k, s⟩ := x
  obtain ⟨y, hC, h1, h2, h3⟩ := h
  obtain ⟨z, hz⟩ := hD
  obtain ⟨p1, p2, p3⟩ := hx
  dsimp only at *
  have e0 : (D ++ post).extract 0 D.size = D := by rw [extract_app_left _ _ _ _ (Nat.le_refl _), extract_all]
  have hCs : C.size = B.size + y.size := by rw [hC, size_app]
  have hDs : D.size = C.size + z.size := by rw [hz, size_app]
  have ey : ∀ j, j = C.size → (D ++ post).extract B.size j = y := by
    intro j hj
    rw [hj, hCs, hz, hC, ByteArray.append_assoc, ByteArray.append_assoc]
    exact extract_mid _ _ _
  unfold partB
  rw [e0]
  by_cases k1 : k = -1
  · rw [if_pos k1]
    have := readB_of ((h1 k1).ext z) (p1 (.inl k1))
    rw [← hz] at this
    rw [this]
    rfl
  rw [if_neg k1]
  by_cases k2 : k = -2
  · rw [if_pos k2]
    have := readB_of ((h2 k2).2.ext z) (p1 (.inr k2))
    rw [← hz] at this
    rw [this, Option.bind_some]
    dsimp only
    rw [Int.toNat_natCast, ey _ rfl, if_pos (h2 k2).1.symm]
  rw [if_neg k2]
  have h4 := h3 k1 k2
  by_cases k3 : k = -3
  · rw [if_pos k3]
    have hDC := hl (.inl k3)
    rw [ey D.size (by rw [hDC]), h4]
    obtain ⟨a, l, hp⟩ := p2 k3
    rw [hp]
    dsimp only
    rw [hDC]
  rw [if_neg k3]
  by_cases k4 : k = -4
  · rw [if_pos k4]
    have hDC := hl (.inr k4)
    rw [ey D.size (by rw [hDC]), h4, hDC]
  rw [if_neg k4]
  have h0 : 0 ≤ k := by unfold IsKind at hk; omega
  have hs := p3 h0
  rw [h4] at hCs ey
  rw [if_neg (by omega), ← hs, ey (B.size + s.size) (by omega), ← hCs]
/-- Parts were put behind bytes. -/
def Chain : List (Int × ByteArray) → ByteArray → ByteArray → Prop
  | [], B, C => B = C
  | x :: l, B, C => ∃ B1, StepOk x B B1 ∧ Chain l B1 C
theorem chain_pre : ∀ (l : List (Int × ByteArray)) (B C : ByteArray), Chain l B C → ∃ z, C = B ++ z := by
  intro l
  induction l with
  | nil => intro B C h; exact ⟨⟨#[]⟩, by rw [app_nil]; exact h.symm⟩
  | cons x l ih =>
    rintro B C ⟨B1, ⟨y, h1, _⟩, h2⟩
    obtain ⟨z, hz⟩ := ih _ _ h2
    exact ⟨y ++ z, by rw [hz, h1, ByteArray.append_assoc]⟩
theorem chain_walk (post : ByteArray) : ∀ (l : List (Int × ByteArray)) (B C : ByteArray), Chain l B C → (∀ x ∈ l, PartOk x) → LastOk (l.map (·.1)) → walkL (C ++ post) C.size (l.map (·.1)) B.size = (l, some C.size) := by
  intro l
  induction l with
  | nil => intro B C h _ _; rw [show B = C from h]; rfl
  | cons x l ih =>
    rintro B C ⟨B1, h1, h2⟩ hp hl
    rw [List.map_cons] at hl
    have hstep := step_part (post := post) h1 (hp x (by simp)) hl.2.1 (chain_pre _ _ _ h2) (fun h => by
      have := hl.1 h
      have : l = [] := by simpa using this
      subst this
      exact (show B1 = C from h2).symm)
    rw [List.map_cons, walkL, hstep]
    dsimp only
    rw [ih B1 C h2 (fun y hy => hp y (by simp [hy])) hl.2.2]
theorem step_plain {x : Int × ByteArray} (B : ByteArray) (h : PartOk x) : StepOk x B (B ++ x.2) := by
  have hn : rightB x.2 = true → NmAt (B ++ x.2) B.size B.size x.2 (B ++ x.2).size := fun hr => by
    have := nmAt_plain x.2.size B x.2 ⟨#[]⟩ B.size (Nat.le_refl _) hr
    rw [app_nil] at this
    rw [size_app]
    exact this
  exact ⟨x.2, rfl, fun k => hn (h.1 (.inl k)), fun k => ⟨rfl, hn (h.1 (.inr k))⟩, fun _ _ => rfl⟩
theorem chain_plain : ∀ (l : List (Int × ByteArray)) (B : ByteArray), (∀ x ∈ l, PartOk x) → Chain l B (l.foldl (fun a p => a ++ p.2) B) := by
  intro l
  induction l with
  | nil => intro B _; rfl
  | cons x l ih => intro B h; exact ⟨_, step_plain B (h x (by simp)), ih _ (fun y hy => h y (by simp [hy]))⟩
theorem step_write {x : Int × ByteArray} {st : ByteArray × Known} (h : PartOk x) (hk : KnownGood st.1 st.2) : StepOk x st.1 (stepP st x).1 ∧ KnownGood (stepP st x).1 (stepP st x).2 := by
  unfold stepP
  by_cases k : x.1 = -1 ∨ x.1 = -2
  · rw [if_pos k]
    have hr := h.1 k
    have hN := nameS_at (x.1 == -1) hr hk
    unfold nameS at hN
    dsimp only at hN ⊢
    refine ⟨⟨_, rfl, fun _ => hN.1, fun k2 => ⟨?_, hN.1⟩, fun k1 k2 => by omega⟩, hN.2⟩
    rw [k2]
    exact nameR_plain _ _ _ _ hr (Nat.le_refl _)
  · rw [if_neg k]
    refine ⟨⟨x.2, rfl, fun k1 => by omega, fun k2 => by omega, fun _ _ => rfl⟩, hk.1, fun p hp => ?_⟩
    obtain ⟨nx, h1⟩ := hk.2 p hp
    exact ⟨nx, h1.ext _⟩
theorem chain_write : ∀ (l : List (Int × ByteArray)) (st : ByteArray × Known), (∀ x ∈ l, PartOk x) → KnownGood st.1 st.2 → Chain l st.1 (writeP st l).1 ∧ KnownGood (writeP st l).1 (writeP st l).2 := by
  intro l
  induction l with
  | nil => intro st _ hk; exact ⟨rfl, hk⟩
  | cons x l ih =>
    intro st h hk
    obtain ⟨h1, h2⟩ := step_write (h x (by simp)) hk
    obtain ⟨h3, h4⟩ := ih (stepP st x) (fun y hy => h y (by simp [hy])) h2
    exact ⟨⟨_, h1, h3⟩, h4⟩

/-! ### What is read -/
theorem partB_ok {msg s : ByteArray} {i e nx : Nat} {k : Int} (h : partB msg i e k = some (s, nx)) (hi : i ≤ e) (he : e ≤ msg.size) (hk : IsKind k) : PartOk (k, s) ∧ (¬ k = -1 → s = msg.extract i nx) ∧ (k = -1 → NmAt (msg.extract 0 e) i i s nx) ∧ i ≤ nx ∧ nx ≤ e := by
  have hon := partB_on h hi he (by unfold IsKind at hk; omega)
  refine ⟨?_, ?_, ?_, hon⟩
  · refine ⟨(partB_size h).2, fun k3 => ?_, fun k0 => ?_⟩
    · dsimp only at *
      subst k3
      unfold partB at h
      rw [if_neg (by decide), if_neg (by decide), if_pos rfl] at h
      split at h
      · rename_i a l hp
        injection h with h
        injection h with h1 h2
        subst h1
        exact ⟨a, l, hp⟩
      · cases h
    · dsimp only at *
      unfold partB at h
      rw [if_neg (by omega), if_neg (by omega), if_neg (by omega), if_neg (by omega)] at h
      split at h
      · cases h
      · injection h with h
        injection h with h1 h2
        rw [← h1, size_ext _ (by omega)]
        omega
  · intro k1
    unfold partB at h
    rw [if_neg k1] at h
    split at h
    · cases hr : readB (msg.extract 0 e) i with
      | none => rw [hr] at h; cases h
      | some p =>
        rw [hr, Option.bind_some] at h
        split at h
        · rename_i hq
          injection h with h
          injection h with h1 h2
          subst h1 h2
          exact hq
        · cases h
    split at h
    · split at h
      · injection h with h
        injection h with h1 h2
        subst h1 h2
        rfl
      · cases h
    split at h
    · injection h with h
      injection h with h1 h2
      subst h1 h2
      rfl
    split at h
    · cases h
    · injection h with h
      injection h with h1 h2
      subst h1 h2
      rfl
  · intro k1
    unfold partB at h
    rw [if_pos k1] at h
    cases hr : readB (msg.extract 0 e) i with
    | none => rw [hr] at h; cases h
    | some p =>
      obtain ⟨n, q⟩ := p
      rw [hr] at h
      obtain ⟨hr2, nx', hq, hn⟩ := of_readB hr
      injection h with h
      injection h with h1 h2
      dsimp only at h1 h2
      rw [hq, Int.toNat_natCast] at h2
      subst h1 h2
      exact hn
theorem walkL_cons {msg : ByteArray} {e i j : Nat} {k : Int} {ks : List Int} {l : List (Int × ByteArray)} (h : walkL msg e (k :: ks) i = (l, some j)) : ∃ s nx l', partB msg i e k = some (s, nx) ∧ walkL msg e ks nx = (l', some j) ∧ l = (k, s) :: l' := by
  rw [walkL] at h
  cases hp : partB msg i e k with
  | none => rw [hp] at h; cases h
  | some p =>
    obtain ⟨s, nx⟩ := p
    rw [hp] at h
    dsimp only at h
    injection h with h1 h2
    exact ⟨s, nx, _, rfl, Prod.ext rfl h2, h1.symm⟩
theorem walkL_ok {msg : ByteArray} {e : Nat} (he : e ≤ msg.size) : ∀ (ks : List Int) (i j : Nat) (l : List (Int × ByteArray)), walkL msg e ks i = (l, some j) → i ≤ e → LastOk ks → l.map (·.1) = ks ∧ (∀ x ∈ l, PartOk x) ∧ i ≤ j ∧ j ≤ e := by
  intro ks
  induction ks with
  | nil =>
    intro i j l h hi _
    injection h with h1 h2
    injection h2 with h2
    subst h1 h2
    exact ⟨rfl, by simp, Nat.le_refl _, hi⟩
  | cons k ks ih =>
    intro i j l h hi hl
    obtain ⟨s, nx, l', h1, h2, rfl⟩ := walkL_cons h
    obtain ⟨p1, p2, p3, p4, p5⟩ := partB_ok h1 hi he hl.2.1
    obtain ⟨i1, i2, i3, i4⟩ := ih nx j l' h2 p5 hl.2.2
    refine ⟨by rw [List.map_cons, i1], ?_, by omega, i4⟩
    intro x hx
    rcases List.mem_cons.1 hx with rfl | hx
    · exact p1
    · exact i2 x hx
/-- Parts that are no packed names are the bytes that stand there. -/
theorem walkL_exact {msg : ByteArray} {e : Nat} (he : e ≤ msg.size) : ∀ (ks : List Int) (i j : Nat) (l : List (Int × ByteArray)) (a : ByteArray), walkL msg e ks i = (l, some j) → i ≤ e → LastOk ks → (∀ k ∈ ks, ¬ k = -1) → l.foldl (fun a p => a ++ p.2) a = a ++ msg.extract i j ∧ sumP l = j - i := by
  intro ks
  induction ks with
  | nil =>
    intro i j l a h hi _ _
    injection h with h1 h2
    injection h2 with h2
    subst h1 h2
    refine ⟨?_, by simp [sumP]⟩
    have : msg.extract i i = ⟨#[]⟩ := by
      apply ba_ext
      rw [data_extract]
      exact List.drop_eq_nil_of_le (by rw [List.length_take]; omega)
    rw [this, app_nil]
    rfl
  | cons k ks ih =>
    intro i j l a h hi hl hne
    obtain ⟨s, nx, l', h1, h2, rfl⟩ := walkL_cons h
    obtain ⟨p1, p2, p3, p4, p5⟩ := partB_ok h1 hi he hl.2.1
    have hw := walkL_ok he _ _ _ _ h2 p5 hl.2.2
    have hs := p2 (hne k (by simp))
    obtain ⟨i1, i2⟩ := ih nx j l' (a ++ s) h2 p5 hl.2.2 (fun k hk => hne k (by simp [hk]))
    have hss : s.size = nx - i := by rw [hs, size_ext _ (by omega)]
    refine ⟨?_, ?_⟩
    · rw [List.foldl_cons, i1, ByteArray.append_assoc]
      conv => lhs; rw [hs]
      rw [extract_add _ p4 hw.2.2.1]
    · rw [show sumP ((k, s) :: l') = s.size + sumP l' from by simp [sumP]]
      omega
/-- Right data are their parts, one behind another. -/
theorem rightD_parts {t : Int} {data : ByteArray} (h : rightD t data = true) : ∃ l, walkL data data.size (partsL t) 0 = (l, some data.size) ∧ l.map (·.1) = partsL t ∧ (∀ x ∈ l, PartOk x) ∧ catP l = data ∧ sumP l = data.size ∧ data.size ≤ 65535 := by
  obtain ⟨h1, h2, h3⟩ := rightD_sum h
  obtain ⟨l, hl⟩ : ∃ l, l = (walkL data data.size (partsL t) 0).1 := ⟨_, rfl⟩
  rw [← hl] at h3
  have hw : walkL data data.size (partsL t) 0 = (l, some data.size) := Prod.ext hl.symm h2
  have hok := walkL_ok (Nat.le_refl _) _ _ _ _ hw (Nat.zero_le _) (partsL_last t)
  refine ⟨l, hw, hok.1, hok.2.1, ?_, h3, h1⟩
  have hall : ∀ (l : List (Int × ByteArray)), (∀ k ∈ partsL t, ¬ k = -1) → walkL data data.size (partsL t) 0 = (l, some data.size) → catP l = data := by
    intro l hne hw
    have := (walkL_exact (Nat.le_refl _) _ _ _ _ ⟨#[]⟩ hw (Nat.zero_le _) (partsL_last t) hne).1
    rw [nil_app, extract_all] at this
    exact this
  have hname : ∀ {i : Nat} {s : ByteArray} {nx : Nat}, partB data i data.size (-1) = some (s, nx) → i ≤ data.size → (s = data.extract i nx ∨ (0 < i ∧ ¬ s.size = nx - i)) ∧ i ≤ nx ∧ nx ≤ data.size := by
    intro i s nx hp hi
    have := partB_ok hp hi (Nat.le_refl _) (by unfold IsKind; omega)
    have h2 := this.2.2.1 rfl
    rw [extract_all] at h2
    exact ⟨h2.pure, this.2.2.2⟩
  have hrest : ∀ (ks : List Int) (i : Nat) (l : List (Int × ByteArray)) (a : ByteArray), walkL data data.size ks i = (l, some data.size) → i ≤ data.size → LastOk ks → (∀ k ∈ ks, ¬ k = -1) → l.foldl (fun a p => a ++ p.2) a = a ++ data.extract i data.size ∧ sumP l = data.size - i :=
    fun ks i l a hw hi hl hne => walkL_exact (Nat.le_refl _) _ _ _ _ a hw hi hl hne
  have hcons : ∀ (x : Int × ByteArray) (l : List (Int × ByteArray)), sumP (x :: l) = x.2.size + sumP l := fun x l => by simp [sumP]
  by_cases t1 : t = 2 ∨ t = 5 ∨ t = 12
  · have hp : partsL t = [-1] := by
      unfold partsL
      rw [if_neg (by omega), if_neg (by omega), if_pos t1]
    rw [hp] at hw
    obtain ⟨s, nx, l', c1, c2, rfl⟩ := walkL_cons hw
    obtain ⟨n1, n2, n3⟩ := hname c1 (Nat.zero_le _)
    obtain ⟨r1, r2⟩ := hrest _ _ _ s c2 n3 (by simp [LastOk]) (by simp)
    have hs : s = data.extract 0 nx := by rcases n1 with n1 | n1; exact n1; omega
    unfold catP
    rw [List.foldl_cons, nil_app, r1]
    conv => lhs; rw [hs]
    rw [extract_add _ n2 n3, extract_all]
  by_cases t2 : t = 15
  · have hp : partsL t = [2, -1] := by subst t2; rfl
    rw [hp] at hw
    obtain ⟨s, nx, l', c1, c2, rfl⟩ := walkL_cons hw
    obtain ⟨q1, q2, q3, q4, q5⟩ := partB_ok c1 (Nat.zero_le _) (Nat.le_refl _) (by unfold IsKind; omega)
    obtain ⟨s2, nx2, l2, d1, d2, rfl⟩ := walkL_cons c2
    obtain ⟨n1, n2, n3⟩ := hname d1 q5
    obtain ⟨r1, r2⟩ := hrest _ _ _ (s ++ s2) d2 n3 (by simp [LastOk]) (by simp)
    have e1 := q2 (by decide)
    have z1 : s.size = nx - 0 := by rw [e1, size_ext _ q5]
    rw [hcons, hcons] at h3
    dsimp only at h3
    have hs : s2 = data.extract nx nx2 := by rcases n1 with n1 | n1; exact n1; omega
    unfold catP
    rw [List.foldl_cons, nil_app, List.foldl_cons, r1]
    conv => lhs; rw [e1, hs]
    rw [extract_add _ q4 n2, extract_add _ (by omega) n3, extract_all]
  by_cases t3 : t = 6
  · have hp : partsL t = [-1, -1, 4, 4, 4, 4, 4] := by subst t3; rfl
    rw [hp] at hw
    obtain ⟨s, nx, l', c1, c2, rfl⟩ := walkL_cons hw
    obtain ⟨m1, m2, m3⟩ := hname c1 (Nat.zero_le _)
    obtain ⟨s2, nx2, l2, d1, d2, rfl⟩ := walkL_cons c2
    obtain ⟨n1, n2, n3⟩ := hname d1 m3
    obtain ⟨r1, r2⟩ := hrest _ _ _ (s ++ s2) d2 n3 (by simp [LastOk, IsKind]) (by simp)
    have e1 : s = data.extract 0 nx := by rcases m1 with m1 | m1; exact m1; omega
    have z1 : s.size = nx - 0 := by rw [e1, size_ext _ m3]
    rw [hcons, hcons] at h3
    dsimp only at h3
    have hs : s2 = data.extract nx nx2 := by rcases n1 with n1 | n1; exact n1; omega
    unfold catP
    rw [List.foldl_cons, nil_app, List.foldl_cons, r1]
    conv => lhs; rw [e1, hs]
    rw [extract_add _ m2 n2, extract_add _ (by omega) n3, extract_all]
  · refine hall l ?_ hw
    unfold partsL
    rw [if_neg t3, if_neg t2, if_neg t1]
    repeat' split
    all_goals simp
/-- Right data that were written are read again. -/
theorem data_read {st : ByteArray × Known} {t : Int} {data : ByteArray} (post : ByteArray) (hr : rightD t data = true) (hk : KnownGood st.1 st.2) :
    (∃ z, (writeD st t data).1 = st.1 ++ z) ∧ KnownGood (writeD st t data).1 (writeD st t data).2 ∧ readD ((writeD st t data).1 ++ post) st.1.size ((writeD st t data).1.size - st.1.size) t = some data := by
  obtain ⟨l, h1, h2, h3, h4, h5, h6⟩ := rightD_parts hr
  have hw : writeD st t data = writeP st l := by unfold writeD; rw [h1]
  rw [hw]
  obtain ⟨c1, c2⟩ := chain_write l st h3 hk
  have hpre := chain_pre _ _ _ c1
  refine ⟨hpre, c2, ?_⟩
  obtain ⟨z, hz⟩ := hpre
  have hsz : (writeP st l).1.size = st.1.size + z.size := by rw [hz, size_app]
  have hwk := chain_walk post l _ _ c1 h3 (by rw [h2]; exact partsL_last t)
  rw [h2] at hwk
  unfold readD
  rw [show st.1.size + ((writeP st l).1.size - st.1.size) = (writeP st l).1.size from by omega, hwk]
  dsimp only
  rw [if_pos ⟨rfl, by omega⟩, h4]
/-- Data that were read are right. -/
theorem readD_right {msg d : ByteArray} {i n : Nat} {t : Int} (h : readD msg i n t = some d) (hin : i + n ≤ msg.size) : rightD t d = true := by
  unfold readD at h
  split at h
  · rename_i hc
    injection h with h
    obtain ⟨h1, h2⟩ := hc
    obtain ⟨l, hl⟩ : ∃ l, l = (walkL msg (i + n) (partsL t) i).1 := ⟨_, rfl⟩
    rw [← hl] at h h2
    have hw : walkL msg (i + n) (partsL t) i = (l, some (i + n)) := Prod.ext hl.symm h1
    obtain ⟨w1, w2, w3, w4⟩ := walkL_ok hin _ _ _ _ hw (by omega) (partsL_last t)
    have hc := chain_plain l ⟨#[]⟩ w2
    have hwk := chain_walk ⟨#[]⟩ l _ _ hc w2 (by rw [w1]; exact partsL_last t)
    rw [w1, app_nil] at hwk
    have hd : l.foldl (fun a p => a ++ p.2) ⟨#[]⟩ = d := h
    rw [hd, show (⟨#[]⟩ : ByteArray).size = 0 from rfl] at hwk
    have hs : sumP l = d.size := by rw [← h, catP_size]
    unfold rightD
    rw [hwk]
    simp only [Bool.and_eq_true, decide_eq_true_eq, beq_iff_eq]
    exact ⟨⟨by omega, trivial⟩, hs⟩
  · cases h
end Go.Proofs.Ytajdlgbhofdafaa
namespace Go.Proofs.Ytajdlgbhofdafaa

theorem app_cancel {a x y : ByteArray} (h : a ++ x = a ++ y) : x = y := by
  have := congrArg (fun b : ByteArray => b.data.toList) h
  simp only [data_app] at this
  exact ba_ext (List.append_cancel_left this)
theorem KnownGood.app {pre : ByteArray} {es : Known} (h : KnownGood pre es) (x : ByteArray) : KnownGood (pre ++ x) es :=
  ⟨h.1, fun p hp => by obtain ⟨nx, h1⟩ := h.2 p hp; exact ⟨nx, h1.ext x⟩⟩
theorem knownGood_nil : KnownGood ⟨#[]⟩ [] := ⟨fun p hp => absurd hp (by simp), fun p hp => absurd hp (by simp)⟩
theorem stepP_shift (x : Int × ByteArray) {a b : ByteArray} (es : Known) (h : a.size = b.size) : ∃ y, (stepP (a, es) x).1 = a ++ y ∧ (stepP (b, es) x).1 = b ++ y ∧ (stepP (a, es) x).2 = (stepP (b, es) x).2 := by
  unfold stepP
  by_cases k : x.1 = -1 ∨ x.1 = -2
  · rw [if_pos k, if_pos k]
    dsimp only
    rw [h]
    exact ⟨_, rfl, rfl, rfl⟩
  · rw [if_neg k, if_neg k]
    exact ⟨_, rfl, rfl, rfl⟩
theorem writeP_shift : ∀ (l : List (Int × ByteArray)) (a b : ByteArray) (es : Known), a.size = b.size → ∃ y, (writeP (a, es) l).1 = a ++ y ∧ (writeP (b, es) l).1 = b ++ y ∧ (writeP (a, es) l).2 = (writeP (b, es) l).2 := by
  intro l
  induction l with
  | nil => intro a b es _; exact ⟨⟨#[]⟩, (app_nil a).symm, (app_nil b).symm, rfl⟩
  | cons x l ih =>
    intro a b es h
    obtain ⟨y, h1, h2, h3⟩ := stepP_shift x es h
    have e1 : stepP (a, es) x = (a ++ y, (stepP (a, es) x).2) := Prod.ext h1 rfl
    have e2 : stepP (b, es) x = (b ++ y, (stepP (a, es) x).2) := Prod.ext h2 h3.symm
    obtain ⟨z, i1, i2, i3⟩ := ih (a ++ y) (b ++ y) (stepP (a, es) x).2 (by rw [size_app, size_app, h])
    refine ⟨y ++ z, ?_, ?_, ?_⟩
    · show (writeP (stepP (a, es) x) l).1 = _
      rw [e1, i1, ByteArray.append_assoc]
    · show (writeP (stepP (b, es) x) l).1 = _
      rw [e2, i2, ByteArray.append_assoc]
    · show (writeP (stepP (a, es) x) l).2 = (writeP (stepP (b, es) x) l).2
      rw [e2]
      conv => lhs; rw [e1]
      exact i3
theorem dataR_shift (r : RRec) {a b : ByteArray} (es : Known) (h : a.size = b.size) : ∃ y, (dataR (a, es) r).1 = a ++ y ∧ (dataR (b, es) r).1 = b ++ y := by
  unfold dataR
  by_cases ht : typedB r = true
  · rw [if_pos ht, if_pos ht]
    unfold writeD
    obtain ⟨y, h1, h2, _⟩ := writeP_shift (walkL r.data r.data.size (partsL r.typ) 0).1 a b es h
    exact ⟨y, h1, h2⟩
  · rw [if_neg ht, if_neg ht]
    exact ⟨_, rfl, rfl⟩
theorem chain_empty : ∀ (l : List (Int × ByteArray)) (B C : ByteArray), Chain l B C → C.size = B.size → (∀ x ∈ l, IsKind x.1) → sumP l = 0 := by
  intro l
  induction l with
  | nil => intro B C _ _ _; rfl
  | cons x l ih =>
    rintro B C ⟨B1, ⟨y, h1, h2, h3, h4⟩, h5⟩ hs hk
    obtain ⟨z, hz⟩ := chain_pre _ _ _ h5
    have s1 : B1.size = B.size + y.size := by rw [h1, size_app]
    have s2 : C.size = B1.size + z.size := by rw [hz, size_app]
    have i1 := ih _ _ h5 (by omega) (fun q hq => hk q (by simp [hq]))
    have e1 : sumP (x :: l) = x.2.size + sumP l := by simp [sumP]
    rw [e1, i1]
    by_cases k1 : x.1 = -1
    · have := (h2 k1).le; omega
    · by_cases k2 : x.1 = -2
      · have := (h3 k2).2.le; omega
      · have := h4 k1 k2
        rw [← this]
        omega
theorem lastOk_kinds : ∀ (ks : List Int), LastOk ks → ∀ k ∈ ks, IsKind k := by
  intro ks
  induction ks with
  | nil => intro _ k hk; cases hk
  | cons k ks ih =>
    intro h q hq
    rcases List.mem_cons.1 hq with rfl | hq
    · exact h.2.1
    · exact ih h.2.2 q hq
theorem writeD_empty {st : ByteArray × Known} {t : Int} {data : ByteArray} (hr : rightD t data = true) (hk : KnownGood st.1 st.2) (h : (writeD st t data).1.size = st.1.size) : data.size = 0 := by
  obtain ⟨l, h1, h2, h3, h4, h5, h6⟩ := rightD_parts hr
  have hw : writeD st t data = writeP st l := by unfold writeD; rw [h1]
  rw [hw] at h
  have := chain_empty l _ _ (chain_write l st h3 hk).1 h (fun x hx => lastOk_kinds (partsL t) (partsL_last t) x.1 (by rw [← h2]; exact List.mem_map.2 ⟨x, hx, rfl⟩))
  omega
theorem dataR_at {st : ByteArray × Known} {r : RRec} (hr : rightR r = true) (hk : KnownGood st.1 st.2) : KnownGood (dataR st r).1 (dataR st r).2 := by
  unfold dataR
  by_cases ht : typedB r = true
  · rw [if_pos ht]
    exact (data_read ⟨#[]⟩ (rightR_typed hr ht) hk).2.1
  · rw [if_neg ht]
    exact hk.app _
/-- A right record that was written is read again. -/
theorem record_read {st : ByteArray × Known} {r : RRec} (post : ByteArray) (hr : rightR r = true) (hk : KnownGood st.1 st.2) :
    (∃ z, (writeR st r).1 = st.1 ++ z) ∧ KnownGood (writeR st r).1 (writeR st r).2 ∧ readR ((writeR st r).1 ++ post) st.1.size = some (r, (writeR st r).1.size) := by
  obtain ⟨hrn, n1, n2, n3, n4, n5, n6, n7⟩ := rightR_nums hr
  obtain ⟨hN, hK1⟩ := nameS_at true hrn hk
  obtain ⟨z1, hz1⟩ : ∃ z, (nameS st r.name true).1 = st.1 ++ z := ⟨_, rfl⟩
  have hw : writeR st r = dataR ((nameS st r.name true).1 ++ joinB [(2, r.typ.toNat), (2, r.cls.toNat), (4, r.ttl.toNat), (2, dlenR (nameS st r.name true) r)], (nameS st r.name true).2) r := rfl
  rw [hw]
  clear hw
  have hdl := dlenR_le (st := nameS st r.name true) hr hK1.1
  generalize nameS st r.name true = S at *
  have hjs : (joinB [(2, r.typ.toNat), (2, r.cls.toNat), (4, r.ttl.toNat), (2, dlenR S r)]).size = 10 := by rw [joinB_size]; rfl
  have hfj := fields_join [(2, r.typ.toNat), (2, r.cls.toNat), (4, r.ttl.toNat), (2, dlenR S r)] (by
    intro p hp
    simp at hp
    rcases hp with rfl | rfl | rfl | rfl
    · show r.typ.toNat < 256 ^ 2; omega
    · show r.cls.toNat < 256 ^ 2; omega
    · show r.ttl.toNat < 256 ^ 4; omega
    · show dlenR S r < 256 ^ 2; omega)
  obtain ⟨y, e1, e2⟩ := dataR_shift r (a := S.1 ++ zeros10) (b := S.1 ++ joinB [(2, r.typ.toNat), (2, r.cls.toNat), (4, r.ttl.toNat), (2, dlenR S r)]) S.2 (by rw [size_app, size_app, hjs]; rfl)
  have hdy : dlenR S r = y.size := by unfold dlenR; rw [e1, size_app]; omega
  rw [hdy] at hjs hfj e2 ⊢
  generalize joinB [(2, r.typ.toNat), (2, r.cls.toNat), (4, r.ttl.toNat), (2, y.size)] = jb at *
  have hKq := hK1.app jb
  have hKd := dataR_at (st := (S.1 ++ jb, S.2)) hr hKq
  refine ⟨⟨z1 ++ (jb ++ y), by rw [e2, hz1]; simp only [ByteArray.append_assoc]⟩, hKd, ?_⟩
  have hread : readB ((dataR (S.1 ++ jb, S.2) r).1 ++ post) st.1.size = some (r.name, (S.1.size : Int)) := by
    have := readB_of (hN.ext (jb ++ (y ++ post))) hrn
    rw [e2]
    simpa only [ByteArray.append_assoc] using this
  have hsz : ((dataR (S.1 ++ jb, S.2) r).1 ++ post).size = S.1.size + 10 + y.size + post.size := by rw [e2]; simp only [size_app]; omega
  have hz2 : (dataR (S.1 ++ jb, S.2) r).1.size = S.1.size + 10 + y.size := by rw [e2]; simp only [size_app]; omega
  have htail : ((dataR (S.1 ++ jb, S.2) r).1 ++ post).extract S.1.size ((dataR (S.1 ++ jb, S.2) r).1 ++ post).size = jb ++ (y ++ post) := by
    apply ba_ext
    rw [data_tail, e2]
    simp only [ByteArray.append_assoc]
    rw [data_app, ← data_len, List.drop_left]
  have hydat : ((dataR (S.1 ++ jb, S.2) r).1 ++ post).extract (S.1.size + 10) (S.1.size + 10 + y.size) = y := by
    have := extract_mid (S.1 ++ jb) y post
    rw [size_app, hjs] at this
    rw [e2]
    simpa only [ByteArray.append_assoc] using this
  have hhead : headR ((dataR (S.1 ++ jb, S.2) r).1 ++ post) S.1.size = some (r.typ.toNat, r.cls.toNat, r.ttl.toNat, y.size, S.1.size + 10) := by
    unfold headR
    have hf := hfj (y ++ post)
    simp only [List.map_cons, List.map_nil] at hf
    rw [htail, hf]
    dsimp only
    rw [if_neg (by rw [size_app]; omega)]
    simp only [Int.toNat_natCast]
    congr 5
    rw [hsz, size_app]
    omega
  have hrec : recOf ((dataR (S.1 ++ jb, S.2) r).1 ++ post) r.name (r.typ.toNat, r.cls.toNat, r.ttl.toNat, y.size, S.1.size + 10) = { r with data := y } := by
    unfold recOf
    dsimp only
    rw [hydat, if_neg (by omega)]
    obtain ⟨nm, ty, c, tt, d⟩ := r
    dsimp only at *
    rw [Int.toNat_of_nonneg n1, Int.toNat_of_nonneg n3, Int.toNat_of_nonneg n5]
  unfold readR
  rw [hread, Option.bind_some]
  dsimp only
  rw [Int.toNat_natCast]
  unfold readR2
  rw [hhead]
  dsimp only
  rw [hrec, hz2]
  by_cases ht : typedB r = true
  · have hd := rightR_typed hr ht
    have hdw : dataR (S.1 ++ jb, S.2) r = writeD (S.1 ++ jb, S.2) r.typ r.data := by unfold dataR; rw [if_pos ht]
    have hdr := (data_read (st := (S.1 ++ jb, S.2)) post hd hKq).2.2
    rw [← hdw] at hdr
    dsimp only at hdr
    rw [hz2, size_app, hjs, show S.1.size + 10 + y.size - (S.1.size + 10) = y.size from by omega] at hdr
    have hty : typedB { r with data := y } = true := by
      unfold typedB at ht ⊢
      simp only [Bool.or_eq_true, Bool.and_eq_true, Bool.not_eq_true', beq_iff_eq, beq_eq_false_iff_ne] at ht ⊢
      rcases ht with h1 | ⟨h1, h2⟩
      · exact .inl h1
      · refine .inr ⟨h1, fun h3 => h2 ?_⟩
        refine writeD_empty (st := (S.1 ++ jb, S.2)) hd hKq ?_
        rw [← hdw, hz2]
        dsimp only
        rw [size_app, hjs]
        omega
    rw [if_pos hty, Int.toNat_of_nonneg n1, hdr]
    rfl
  · have hdw : dataR (S.1 ++ jb, S.2) r = (S.1 ++ jb ++ r.data, S.2) := by unfold dataR; rw [if_neg ht]
    have hy : y = r.data := by
      rw [hdw] at e2
      dsimp only at e2
      exact (app_cancel e2).symm
    have hty : ¬ typedB { r with data := y } = true := by rw [hy]; exact ht
    rw [if_neg hty, hy]

/-! ### Longer bytes -/
theorem partB_ext {msg s : ByteArray} (x : ByteArray) {i e nx : Nat} {k : Int} (h : partB msg i e k = some (s, nx)) (hi : i ≤ e) (he : e ≤ msg.size) (hk : IsKind k) : partB (msg ++ x) i e k = some (s, nx) := by
  have hon := partB_on h hi he (by unfold IsKind at hk; omega)
  have hx : ∀ i j, j ≤ e → (msg ++ x).extract i j = msg.extract i j := fun i j hj => extract_app_left _ _ _ _ (by omega)
  unfold partB at h ⊢
  rw [hx 0 e (Nat.le_refl _), hx i e (Nat.le_refl _)]
  by_cases k1 : k = -1
  · rw [if_pos k1] at h ⊢; exact h
  rw [if_neg k1] at h ⊢
  by_cases k2 : k = -2
  · rw [if_pos k2] at h ⊢
    cases hr : readB (msg.extract 0 e) i with
    | none => rw [hr] at h; cases h
    | some p =>
      rw [hr, Option.bind_some] at h
      rw [Option.bind_some]
      have : p.2.toNat = nx := by
        split at h
        · injection h with h; injection h with _ h
        · cases h
      rw [hx i p.2.toNat (by omega)]
      exact h
  rw [if_neg k2] at h ⊢
  by_cases k3 : k = -3
  · rw [if_pos k3] at h ⊢; exact h
  rw [if_neg k3] at h ⊢
  by_cases k4 : k = -4
  · rw [if_pos k4] at h ⊢; exact h
  rw [if_neg k4] at h ⊢
  by_cases kk : (e : Int) - i < k
  · rw [if_pos kk] at h; cases h
  · rw [if_neg kk] at h ⊢
    rw [hx i (i + k.toNat) (by omega)]
    exact h
theorem walkL_ext {msg : ByteArray} (x : ByteArray) {e : Nat} (he : e ≤ msg.size) : ∀ (ks : List Int) (i j : Nat) (l : List (Int × ByteArray)), walkL msg e ks i = (l, some j) → i ≤ e → LastOk ks → walkL (msg ++ x) e ks i = (l, some j) := by
  intro ks
  induction ks with
  | nil => intro i j l h _ _; exact h
  | cons k ks ih =>
    intro i j l h hi hl
    obtain ⟨s, nx, l', h1, h2, rfl⟩ := walkL_cons h
    have hp := partB_ok h1 hi he hl.2.1
    rw [walkL, partB_ext x h1 hi he hl.2.1]
    dsimp only
    rw [ih nx j l' h2 hp.2.2.2.2 hl.2.2]
theorem readD_ext {msg d : ByteArray} (x : ByteArray) {i n : Nat} {t : Int} (h : readD msg i n t = some d) (hin : i + n ≤ msg.size) : readD (msg ++ x) i n t = some d := by
  unfold readD at h ⊢
  split at h
  · rename_i hc
    have hw : walkL msg (i + n) (partsL t) i = ((walkL msg (i + n) (partsL t) i).1, some (i + n)) := Prod.ext rfl hc.1
    rw [walkL_ext x hin _ _ _ _ hw (by omega) (partsL_last t)]
    dsimp only
    rw [if_pos ⟨rfl, hc.2⟩]
    exact h
  · cases h
theorem headR_spec {msg : ByteArray} {nx : Nat} {h : Nat × Nat × Nat × Nat × Nat} (hh : headR msg nx = some h) (hn : nx ≤ msg.size) : (∀ x, headR (msg ++ x) nx = some h) ∧ h.2.2.2.2 = nx + 10 ∧ h.2.2.2.2 + h.2.2.2.1 ≤ msg.size ∧ h.1 < 65536 ∧ h.2.1 < 65536 ∧ h.2.2.1 < 4294967296 ∧ h.2.2.2.1 < 65536 := by
  unfold headR at hh
  rcases fields4 (msg.extract nx msg.size) with hf | ⟨t, c, tt, sz, rest, hf, ht, hc, htt, hsz, hrs⟩
  · rw [hf] at hh; cases hh
  · rw [hf] at hh
    dsimp only at hh
    by_cases hb : (rest.size : Int) < (sz : Int)
    · rw [if_pos hb] at hh; cases hh
    · rw [if_neg hb] at hh
      injection hh with hh
      subst hh
      simp only [Int.toNat_natCast]
      have hts := size_ext msg (i := nx) (Nat.le_refl _)
      refine ⟨fun x => ?_, by omega, by omega, ht, hc, htt, hsz⟩
      have hx := (fields_ext _ _ x _ _ hf).1
      have htl : (msg ++ x).extract nx (msg ++ x).size = msg.extract nx msg.size ++ x := by
        apply ba_ext
        rw [data_tail, data_app, data_app, data_tail, List.drop_append_of_le_length (by rw [data_len]; omega)]
      unfold headR
      rw [htl, hx]
      dsimp only
      rw [if_neg (by rw [size_app]; omega)]
      simp only [Int.toNat_natCast]
      congr 5
      rw [size_app, size_app]
      omega
theorem readR_spec {msg : ByteArray} {i nx : Nat} {r : RRec} (h : readR msg i = some (r, nx)) (hi : i ≤ msg.size) : (∀ x, readR (msg ++ x) i = some (r, nx)) ∧ rightR r = true ∧ i ≤ nx ∧ nx ≤ msg.size := by
  unfold readR at h
  cases hb : readB msg i with
  | none => rw [hb] at h; cases h
  | some p =>
    obtain ⟨n, q⟩ := p
    rw [hb, Option.bind_some] at h
    dsimp only at h
    obtain ⟨hr, nq, rfl, hn⟩ := of_readB hb
    rw [Int.toNat_natCast] at h
    have hle := hn.le
    unfold readR2 at h
    cases hh : headR msg nq with
    | none => rw [hh] at h; cases h
    | some hd =>
      rw [hh] at h
      dsimp only at h
      obtain ⟨g1, g2, g3, g4, g5, g6, g7⟩ := headR_spec hh hle.2
      have hrec : ∀ x, recOf (msg ++ x) n hd = recOf msg n hd := fun x => by
        unfold recOf
        rw [extract_app_left _ _ _ _ (by omega)]
      have hright : ∀ d : ByteArray, d.size ≤ 65535 → (typedB { recOf msg n hd with data := d } = true → rightD hd.1 d = true) → rightR { recOf msg n hd with data := d } = true := by
        intro d h1 h2
        unfold rightR
        simp only [Bool.and_eq_true, Bool.or_eq_true, Bool.not_eq_true', decide_eq_false_iff_not]
        refine ⟨⟨⟨⟨⟨⟨⟨⟨hr, ?_⟩, ?_⟩, ?_⟩, ?_⟩, ?_⟩, ?_⟩, ?_⟩, ?_⟩
        · show ¬ ((hd.1 : Nat) : Int) < 0; omega
        · show ¬ 65535 < ((hd.1 : Nat) : Int); omega
        · show ¬ ((hd.2.1 : Nat) : Int) < 0; omega
        · show ¬ 65535 < ((hd.2.1 : Nat) : Int); omega
        · show ¬ (if 2147483647 < hd.2.2.1 then (0 : Int) else (hd.2.2.1 : Nat)) < 0
          split <;> omega
        · show ¬ 2147483647 < (if 2147483647 < hd.2.2.1 then (0 : Int) else (hd.2.2.1 : Nat))
          split <;> omega
        · omega
        · cases htb : typedB { recOf msg n hd with data := d } with
          | true => exact .inr (h2 htb)
          | false => exact .inl rfl
      by_cases ht : typedB (recOf msg n hd) = true
      · rw [if_pos ht] at h
        cases hdd : readD msg hd.2.2.2.2 hd.2.2.2.1 hd.1 with
        | none => rw [hdd] at h; cases h
        | some d =>
          rw [hdd] at h
          injection h with h
          injection h with h1 h2
          have hrd := readD_right hdd (by omega)
          have hds := (rightD_sum hrd).1
          refine ⟨fun x => ?_, ?_, by omega, by omega⟩
          · unfold readR
            rw [readB_ext x hb, Option.bind_some]
            dsimp only
            rw [Int.toNat_natCast]
            unfold readR2
            rw [g1 x]
            dsimp only
            rw [hrec, if_pos ht, readD_ext x hdd (by omega), ← h1, ← h2]
            rfl
          · rw [← h1]
            exact hright d hds (fun _ => hrd)
      · rw [if_neg ht] at h
        injection h with h
        injection h with h1 h2
        refine ⟨fun x => ?_, ?_, by omega, by omega⟩
        · unfold readR
          rw [readB_ext x hb, Option.bind_some]
          dsimp only
          rw [Int.toNat_natCast]
          unfold readR2
          rw [g1 x]
          dsimp only
          rw [hrec, if_neg ht, ← h1, ← h2]
        · rw [← h1]
          have he : { recOf msg n hd with data := (recOf msg n hd).data } = recOf msg n hd := rfl
          rw [← he]
          refine hright _ ?_ (fun h => absurd h ht)
          show (msg.extract _ _).size ≤ 65535
          rw [size_ext _ (by omega)]
          omega
end Go.Proofs.Ytajdlgbhofdafaa
