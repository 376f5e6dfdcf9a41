/- Maps whose keys are strings, in a block of the heap. -/
import Derived.Test.YtajdlgbhofdafaaPiece
import Derived.Maps.Keyed
import Derived.StringKeys
namespace Go.Proofs.Ytajdlgbhofdafaa
open Go.RowKit Go.Shelf Go.Maps
set_option maxRecDepth 100000

def getV {α : Type} : List (ByteArray × α) → ByteArray → Option α
  | [], _ => none
  | p :: l, n => if p.1 = n then some p.2 else getV l n
theorem getV_none {α : Type} {es : List (ByteArray × α)} {n : ByteArray} (h : ∀ p ∈ es, p.1 ≠ n) : getV es n = none := by
  induction es with
  | nil => rfl
  | cons p l ih => rw [getV, if_neg (h p (by simp)), ih (fun q hq => h q (by simp [hq]))]
theorem getV_some {α : Type} {es : List (ByteArray × α)} {n : ByteArray} {p : ByteArray × α} (hd : (es.map (·.1)).Nodup) (hp : p ∈ es) (hn : p.1 = n) : getV es n = some p.2 := by
  induction es with
  | nil => cases hp
  | cons q l ih =>
    rw [List.map_cons, List.nodup_cons] at hd
    rw [getV]
    rcases List.mem_cons.1 hp with rfl | hp
    · rw [if_pos hn]
    · rw [if_neg (fun e => hd.1 (by rw [e, ← hn]; exact List.mem_map.2 ⟨p, hp, rfl⟩))]
      exact ih hd.2 hp
theorem getV_mem {α : Type} {es : List (ByteArray × α)} {n : ByteArray} {v : α} (h : getV es n = some v) : (n, v) ∈ es := by
  induction es with
  | nil => cases h
  | cons p l ih =>
    rw [getV] at h
    by_cases hp : p.1 = n
    · rw [if_pos hp] at h
      injection h with h
      subst hp h
      simp
    · rw [if_neg hp] at h
      exact List.mem_cons_of_mem _ (ih h)
theorem getV_no {α : Type} {es : List (ByteArray × α)} {n : ByteArray} (h : getV es n = none) : ∀ p ∈ es, p.1 ≠ n := by
  induction es with
  | nil => intro p hp; cases hp
  | cons q l ih =>
    rw [getV] at h
    by_cases hq : q.1 = n
    · rw [if_pos hq] at h; cases h
    · rw [if_neg hq] at h
      intro p hp
      rcases List.mem_cons.1 hp with rfl | hp
      · exact hq
      · exact ih h p hp

/-- The map at block r: its keys, each with its value, in the order of their birth. -/
def MapS (w : World) (r : Nat) (es : List (ByteArray × Value)) : Prop :=
  ∃ ms clock, w.heap[r]? = some (.map ms clock) ∧ ms.toList.map (fun e => (e.key, e.val)) = es.map (fun p => (Value.string p.1, p.2)) ∧ (es.map (·.1)).Nodup ∧ ∀ p ∈ es, p.1.size ≤ 1099511627776

theorem str_keyed : Keyed Try.prog 9 := string_keyed string_under
theorem key_str {s : ByteArray} (hs : s.size ≤ 1099511627776) : keyOf Try.prog 9 (.string s) = some (.string s.data.toList) := WideMaps.keyOf_string_mk string_under (by unfold maxLen; omega)

section
variable {w w' : World} {r : Nat} {es : List (ByteArray × Value)}
theorem mapS_made (w : World) : MapS (w.alloc (.map #[] 0)) w.heap.size [] := ⟨_, _, by rw [hp_al, if_pos rfl], rfl, by simp, by simp⟩
theorem mapS_keep (h : MapS w r es) (hk : w'.heap[r]? = w.heap[r]?) : MapS w' r es := by
  obtain ⟨ms, c, h1, h2⟩ := h
  exact ⟨ms, c, hk.trans h1, h2⟩
theorem mapS_lt (h : MapS w r es) : r < w.heap.size := by
  obtain ⟨ms, c, h1, h2⟩ := h
  exact (Array.getElem?_eq_some_iff.1 h1).1
theorem mapS_mem {ms : Array MapEntry} (h2 : ms.toList.map (fun e => (e.key, e.val)) = es.map (fun p => (Value.string p.1, p.2))) {e : MapEntry} (he : e ∈ ms.toList) : ∃ p ∈ es, e.key = .string p.1 ∧ e.val = p.2 := by
  have : (e.key, e.val) ∈ es.map (fun p => (Value.string p.1, p.2)) := by rw [← h2]; exact List.mem_map.2 ⟨e, he, rfl⟩
  obtain ⟨p, hp, he⟩ := List.mem_map.1 this
  injection he with h3 h4
  exact ⟨p, hp, h3.symm, h4.symm⟩
theorem mapS_mem' {ms : Array MapEntry} (h2 : ms.toList.map (fun e => (e.key, e.val)) = es.map (fun p => (Value.string p.1, p.2))) {p : ByteArray × Value} (hp : p ∈ es) : ∃ e ∈ ms.toList, e.key = .string p.1 ∧ e.val = p.2 := by
  have : (Value.string p.1, p.2) ∈ ms.toList.map (fun e => (e.key, e.val)) := by rw [h2]; exact List.mem_map.2 ⟨p, hp, rfl⟩
  obtain ⟨e, he, h3⟩ := List.mem_map.1 this
  injection h3 with h3 h4
  exact ⟨e, he, h3, h4⟩
theorem mapS_find {ms : Array MapEntry} (h2 : ms.toList.map (fun e => (e.key, e.val)) = es.map (fun p => (Value.string p.1, p.2))) (hd : (es.map (·.1)).Nodup) (hs : ∀ p ∈ es, p.1.size ≤ 1099511627776) {n : ByteArray} (hn : n.size ≤ 1099511627776) (w : World) :
    ((Instr.findKey 9 (.string n) ms.toList).run Try.prog w = .ok none w ∧ getV es n = none) ∨
    ∃ j e v, (Instr.findKey 9 (.string n) ms.toList).run Try.prog w = .ok (some (j, v)) w ∧ ms.toList[j]? = some e ∧ e.key = .string n ∧ e.val = v ∧ getV es n = some v := by
  rcases str_keyed.find w (key_str hn) ms.toList (fun e he => by
    obtain ⟨p, hp, h3, _⟩ := mapS_mem h2 he
    rw [h3]
    exact ⟨_, key_str (hs p hp)⟩) with ⟨h3, h4⟩ | ⟨j, e, h3, h4, h5⟩
  · refine .inl ⟨h3, getV_none fun p hp hpn => ?_⟩
    obtain ⟨e, he, h5, _⟩ := mapS_mem' h2 hp
    exact h4 e he (by rw [h5, hpn])
  · obtain ⟨p, hp, h6, h7⟩ := mapS_mem h2 (List.mem_of_getElem? h4)
    have h8 : p.1 = n := by rw [h5] at h6; injection h6 with h6; exact h6.symm
    exact .inr ⟨j, e, e.val, h3, h4, h5, rfl, by rw [getV_some hd hp h8, h7]⟩
/-- 'v, ok := m[n]'. -/
theorem mapS_look {t e : TypeId} (ht : Try.prog.underlying t = some (.map 9 e)) {z : Value} (hz : ∀ w, (zeroValue e).run Try.prog w = .ok z w) (h : MapS w r es) {n : ByteArray} (hn : n.size ≤ 1099511627776) :
    (Instr.lookup t (.map (some r)) (.string n) true).run Try.prog w = .ok (match getV es n with | some v => .tuple #[v, .bool true] | none => .tuple #[z, .bool false]) w := by
  obtain ⟨ms, c, h1, h2, hd, hs⟩ := h
  rcases mapS_find h2 hd hs hn w with ⟨h3, h4⟩ | ⟨j, e, v, h3, h4, h5, h6, h7⟩
  · rw [h4]
    simp [Instr.lookup, run_underlying ht, MapKept.run_getObj_map h1, str_keyed.check w _ (key_str hn), h3, hz, Result.andThen]
  · rw [h7]
    simp [Instr.lookup, run_underlying ht, MapKept.run_getObj_map h1, str_keyed.check w _ (key_str hn), h3, Result.andThen]
/-- 'm[n] = v', of a key that isn't there. -/
theorem mapS_new {t e : TypeId} (ht : Try.prog.underlying t = some (.map 9 e)) (h : MapS w r es) {n : ByteArray} (hn : n.size ≤ 1099511627776) (v : Value) (hno : getV es n = none) :
    ∃ W, (Instr.mapUpdate t (.map (some r)) (.string n) v).run Try.prog w = .ok () W ∧ MapS W r (es ++ [(n, v)]) ∧ Fr (fun k => k = r) w W := by
  obtain ⟨ms, c, h1, h2, hd, hs⟩ := h
  have hlt : r < w.heap.size := (Array.getElem?_eq_some_iff.1 h1).1
  rcases mapS_find h2 hd hs hn w with ⟨h3, h4⟩ | ⟨j, e, v, h3, h4, h5, h6, h7⟩
  · refine ⟨ChangeMaps.setBlock w r (.map (ms.push ⟨.string n, v, c⟩) (c + 1)), ?_, ⟨ms.push ⟨.string n, v, c⟩, c + 1, ?_, ?_, ?_, ?_⟩, ?_⟩
    · simp [Instr.mapUpdate, run_underlying ht, MapKept.run_getObj_map h1, str_keyed.check w false (key_str hn), h3, MapKept.run_setObj_map _ h1, Result.andThen, ChangeMaps.setBlock]
    · simp [ChangeMaps.setBlock, hlt]
    · simp [h2]
    · rw [List.map_append, List.nodup_append]
      refine ⟨hd, by simp, fun a ha b hb => ?_⟩
      obtain ⟨p, hp, rfl⟩ := List.mem_map.1 ha
      simp at hb
      subst hb
      exact getV_no hno p hp
    · intro p hp
      rcases List.mem_append.1 hp with hp | hp
      · exact hs p hp
      · simp at hp
        subst hp
        exact hn
    · refine ⟨rfl, rfl, rfl, by simp [ChangeMaps.setBlock], fun k hk hn => ?_⟩
      simp [ChangeMaps.setBlock, Array.getElem?_setIfInBounds, Ne.symm hn]
  · rw [hno] at h7
    cases h7
end
end Go.Proofs.Ytajdlgbhofdafaa
