/- The packer's state; Raw, Len, Bytes, New over it. -/
import Derived.Test.YtajdlgbhofdafaaMapS
namespace Go.Proofs.Ytajdlgbhofdafaa
open Go.RowKit Go.Shelf
set_option maxRecDepth 100000
attribute [local go_sem] Oper.semAt_some

abbrev Known := List (ByteArray × Nat)
def knownV (es : Known) : List (ByteArray × Value) := es.map fun p => (p.1, Value.int .i64 (p.2 : Int))
theorem getV_map {α β : Type} (f : α → β) (es : List (ByteArray × α)) (n : ByteArray) : getV (es.map fun p => (p.1, f p.2)) n = (getV es n).map f := by
  induction es with
  | nil => rfl
  | cons p l ih =>
    rw [List.map_cons, getV, getV]
    dsimp only
    by_cases h : p.1 = n
    · rw [if_pos h, if_pos h]; rfl
    · rw [if_neg h, if_neg h, ih]
theorem knownV_app (es : Known) (p : ByteArray × Nat) : knownV (es ++ [p]) = knownV es ++ [(p.1, Value.int .i64 (p.2 : Int))] := by simp [knownV]

/-- A packer at block b: its bytes, and the names that it knows. -/
def PkAt (b : Nat) (x : ByteArray × Known) (O : Nat → Prop) (w : World) : Prop :=
  ∃ v r, w.heap[b]? = some (.cells #[v, .map (some r)] 174 (0, 0)) ∧ RowB w v x.1 ∧ MapS w r (knownV x.2) ∧ (∀ k, v.ownBlock = some k → k ≠ b ∧ k ≠ r) ∧ r ≠ b ∧ ∀ k, O k ↔ (k = b ∨ v.ownBlock = some k ∨ k = r)
theorem pkAt_lt {b : Nat} {x : ByteArray × Known} {O : Nat → Prop} {w : World} (h : PkAt b x O w) : ∀ k, O k → k < w.heap.size := by
  obtain ⟨v, r, hb, hv, hm, hne, hrb, hO⟩ := h
  intro k hk
  rcases (hO k).1 hk with rfl | h1 | rfl
  · exact (Array.getElem?_eq_some_iff.1 hb).1
  · exact rowB_lt hv k h1
  · exact mapS_lt hm
theorem pkAt_stab (b : Nat) : Stab (PkAt b) := by
  rintro x O a b' ⟨v, r, hb, hv, hm, hne, hrb, hO⟩ hk
  have hlt : b < a.heap.size := (Array.getElem?_eq_some_iff.1 hb).1
  exact ⟨v, r, (hk b ((hO b).2 (.inl rfl)) hlt).trans hb, rowB_keep hv (fun k h => hk k ((hO k).2 (.inr (.inl h))) (rowB_lt hv k h)), mapS_keep hm (hk r ((hO r).2 (.inr (.inr rfl))) (mapS_lt hm)), hne, hrb, hO⟩
theorem Raw_pk (b : Nat) (s x : ByteArray) (es : Known) (O : Nat → Prop) (w : World) (h : PkAt b (s, es) O w) (hb : s.size + x.size ≤ 140737488355328) :
    Calls Try.prog 62 #[.pointer (some ⟨b, 0, none⟩), .string x] w fun e w' => e = .returned (.tuple #[]) ∧ ∃ O', PkAt b (s ++ x, es) O' w' ∧ Ch O O' w w' := by
  obtain ⟨v, r, hbk, hv, hm, hne, hrb, hO⟩ := h
  refine (Raw_any b s x v (.map (some r)) w hbk hv (fun k hk => (hne k hk).1) hb).mono ?_
  rintro e w' ⟨rfl, v', hb2, hv2, hne2, hch⟩
  have hrl := mapS_lt hm
  refine ⟨rfl, fun k => k = b ∨ v'.ownBlock = some k ∨ k = r, ⟨v', r, hb2, hv2, mapS_keep hm (hch.fr.block r hrl ?_), ?_, hrb, fun k => Iff.rfl⟩, hch.fr.mono ?_, ?_⟩
  · rintro (h1 | h1)
    · exact hrb h1
    · exact (hne r h1).2 rfl
  · intro k hk
    refine ⟨hne2 k hk, fun e => ?_⟩
    subst e
    rcases hch.new k (.inr hk) with h1 | h1
    · rcases h1 with h1 | h1
      · exact hrb h1
      · exact (hne k h1).2 rfl
    · omega
  · intro k _ hk
    rcases hk with h1 | h1
    · exact (hO k).2 (.inl h1)
    · exact (hO k).2 (.inr (.inl h1))
  · intro k hk
    rcases hk with h1 | h1 | h1
    · exact .inl ((hO k).2 (.inl h1))
    · rcases hch.new k (.inr h1) with h2 | h2
      · rcases h2 with h2 | h2
        · exact .inl ((hO k).2 (.inl h2))
        · exact .inl ((hO k).2 (.inr (.inl h2)))
      · exact .inr h2
    · exact .inl ((hO k).2 (.inr (.inr h1)))
theorem Len_pk (b : Nat) (x : ByteArray × Known) (O : Nat → Prop) (w : World) (h : PkAt b x O w) :
    Calls Try.prog 65 #[.pointer (some ⟨b, 0, none⟩)] w fun e w' => e = .returned (.int .i64 x.1.size) ∧ w' = w := by
  obtain ⟨v, r, hbk, hv, hm, hne, hrb, hO⟩ := h
  obtain ⟨ao, cap, rfl⟩ := rowB_slice hv
  exact PLen_any b x.1.size ao cap _ w hbk
theorem Bytes_pk (b : Nat) (x : ByteArray × Known) (O : Nat → Prop) (w : World) (h : PkAt b x O w) :
    Calls Try.prog 67 #[.pointer (some ⟨b, 0, none⟩)] w fun e w' => e = .returned (.string x.1) ∧ w' = w := by
  obtain ⟨v, r, hbk, hv, hm, hne, hrb, hO⟩ := h
  exact PBytes_any b x.1 v _ w hbk hv
theorem New_pk (w : World) : Calls Try.prog 60 #[] w fun e w' => ∃ b O, e = .returned (.pointer (some ⟨b, 0, none⟩)) ∧ PkAt b (⟨#[]⟩, []) O w' ∧ Ch (fun _ => False) O w w' := by
  refine (New_any w).mono ?_
  rintro e w' ⟨rfl, rfl⟩
  refine ⟨_, fun k => k = w.heap.size + 1 ∨ k = w.heap.size, rfl, ⟨.slice none 0 0, w.heap.size, ?_, rowB_nil _, ?_, ?_, ?_, ?_⟩, ((Fr.refl _ w).alloc _).alloc _, ?_⟩
  · rw [hp_al, if_pos (by rw [sz_al])]
  · exact mapS_keep (mapS_made w) (by rw [hp_al, if_neg (by rw [sz_al]; omega)])
  · intro k hk; simp [Value.ownBlock] at hk
  · omega
  · intro k; simp [Value.ownBlock]
  · intro k hk; right; omega

/-- What Name puts behind a message of a length, and the names that are known then. -/
def nameR : Nat → Known → Nat → ByteArray → Bool → ByteArray × Known
  | 0, es, _, _, _ => (⟨#[]⟩, es)
  | f + 1, es, len, n, may =>
    if n = ⟨#[0]⟩ then (⟨#[0]⟩, es) else
    match getV es n with
    | some q => if may then (joinB [(2, 49152 + q)], es) else
      let rest := (parentB n).1
      let lab := n.extract 0 (n.size - rest.size)
      let r := nameR f es (len + lab.size) rest may
      (lab ++ r.1, r.2)
    | none =>
      let rest := (parentB n).1
      let lab := n.extract 0 (n.size - rest.size)
      let r := nameR f (if len < 16384 then es ++ [(n, len)] else es) (len + lab.size) rest may
      (lab ++ r.1, r.2)
/-- What is known stands near the beginning. -/
def KnownOk (es : Known) : Prop := ∀ p ∈ es, p.2 < 16384
end Go.Proofs.Ytajdlgbhofdafaa
