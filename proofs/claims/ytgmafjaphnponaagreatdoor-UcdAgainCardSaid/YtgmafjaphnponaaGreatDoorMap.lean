/- Maps keyed by whole numbers: what look-ups, stores and lengths come to, whatever the elements are. Over any program. -/
import Derived.WalkKit
import Derived.Laws.OwnMore
namespace Go.Proofs.YtgmafjaphnponaaGreatDoor
open Go.RowKit

/-- The entry of a key. -/
def lookI (es : List (Int × Value)) (k : Int) : Option Value := (es.find? (fun p => p.1 == k)).map (·.2)
/-- A key's value set: in its place, or behind all. -/
def putI (es : List (Int × Value)) (k : Int) (v : Value) : List (Int × Value) :=
  if es.any (fun p => p.1 == k) then es.map (fun p => if p.1 == k then (p.1, v) else p) else es ++ [(k, v)]

/-- Block r is a map of these entries, made by pushes alone. -/
def MapI (w : World) (r : Nat) (es : List (Int × Value)) : Prop :=
  ∃ ents, w.heap[r]? = some (.map ents ents.size) ∧ ents.toList.map (fun e => (e.key, e.val)) = es.map (fun p => (Value.int .i64 p.1, p.2)) ∧ (∀ (i : Nat) (e : MapEntry), ents[i]? = some e → e.born = i) ∧ (es.map (·.1)).Nodup

section
variable {P : Program} {w : World} {T K E : TypeId} {r : Nat} {es : List (Int × Value)}

theorem findNow_int (k : Int) : ∀ (l : List MapEntry) (es : List (Int × Value)) (i : Nat), l.map (fun e => (e.key, e.val)) = es.map (fun p => (Value.int .i64 p.1, p.2)) →
    Instr.findNow (.int .i64) (.int .i64 k) l i = some ((es.findIdx? (fun p => p.1 == k)).map fun j => (i + j, (lookI es k).getD default)) := by
  intro l
  induction l with
  | nil =>
    intro es i h
    cases es with
    | nil => rfl
    | cons p es => simp at h
  | cons e l ih =>
    intro es i h
    cases es with
    | nil => simp at h
    | cons p es =>
      simp only [List.map_cons, List.cons.injEq, Prod.mk.injEq] at h
      obtain ⟨⟨h1, h2⟩, h3⟩ := h
      unfold Instr.findNow
      rw [h1]
      simp only [Instr.sameNow, if_true]
      by_cases hk : p.1 = k
      · subst hk
        simp [List.findIdx?_cons, lookI, h2]
      · have e1 : (k == p.1) = false := by simpa using fun h => hk h.symm
        have e2 : (p.1 == k) = false := by simpa using hk
        simp only [e1]
        rw [ih es (i + 1) h3]
        simp only [List.findIdx?_cons, e2, lookI, List.find?_cons]
        cases hf : List.findIdx? (fun p => p.1 == k) es with
        | none => simp
        | some j => simp; omega

theorem lookI_some {k : Int} {j : Nat} (h : es.findIdx? (fun p => p.1 == k) = some j) : ∃ v, lookI es k = some v ∧ es[j]? = some (k, v) := by
  induction es generalizing j with
  | nil => simp at h
  | cons p es ih =>
    rw [List.findIdx?_cons] at h
    by_cases hk : (p.1 == k) = true
    · simp only [hk, if_true] at h
      cases h
      have : p.1 = k := by simpa using hk
      exact ⟨p.2, by simp [lookI, hk], by simp [← this]⟩
    · simp only [hk] at h
      have hk' : (p.1 == k) = false := by simpa using hk
      cases hf : List.findIdx? (fun p => p.1 == k) es with
      | none => rw [hf] at h; simp at h
      | some m =>
        rw [hf] at h
        simp at h
        subst h
        obtain ⟨v, h1, h2⟩ := ih hf
        refine ⟨v, ?_, by simpa using h2⟩
        simpa [lookI, List.find?_cons, hk'] using h1

theorem lookI_none {k : Int} (h : es.findIdx? (fun p => p.1 == k) = none) : lookI es k = none := by
  rw [List.findIdx?_eq_none_iff] at h
  unfold lookI
  rw [List.find?_eq_none.2 (fun x hx => by simpa using h x hx)]
  rfl

theorem run_checkKey_int (b : Bool) (n : Nat) (hK : P.underlying K = some (.int .i64)) (k : Int) : (Instr.checkKey b (n + 1) K (.int .i64 k)).run P w = .ok () w := by
  simp [Instr.checkKey, run_underlying hK]

theorem run_findKey_int (hK : P.underlying K = some (.int .i64)) (k : Int) (ents : Array MapEntry) (he : ents.toList.map (fun e => (e.key, e.val)) = es.map (fun p => (Value.int .i64 p.1, p.2))) :
    (Instr.findKey K (.int .i64 k) ents.toList).run P w = .ok ((es.findIdx? (fun p => p.1 == k)).map fun j => (j, (lookI es k).getD default)) w := by
  simp [Instr.findKey, run_underlying hK, findNow_int k ents.toList es 0 he]

theorem run_lookup_int (hT : P.underlying T = some (.map K E)) (hK : P.underlying K = some (.int .i64)) (h : MapI w r es) (k : Int) (ok : Bool) (z : Value) (hz : (zeroValue E).run P w = .ok z w) :
    (Instr.lookup T (.map (some r)) (.int .i64 k) ok).run P w = .ok (if ok then .tuple #[(lookI es k).getD z, .bool (lookI es k).isSome] else (lookI es k).getD z) w := by
  obtain ⟨ents, hr, he, _, _⟩ := h
  cases hf : es.findIdx? (fun p => p.1 == k) with
  | none =>
    have hl := lookI_none hf
    simp [Instr.lookup, run_underlying hT, getObj, Sem.run, hr, run_checkKey_int _ 9999 hK, run_findKey_int hK k ents he, hf, hl, hz]
  | some j =>
    obtain ⟨v, hl, _⟩ := lookI_some hf
    simp [Instr.lookup, run_underlying hT, getObj, Sem.run, hr, run_checkKey_int _ 9999 hK, run_findKey_int hK k ents he, hf, hl]

theorem run_lookup_nil (hT : P.underlying T = some (.map K E)) (hK : P.underlying K = some (.int .i64)) (k : Int) (ok : Bool) (z : Value) (hz : (zeroValue E).run P w = .ok z w) :
    (Instr.lookup T (.map none) (.int .i64 k) ok).run P w = .ok (if ok then .tuple #[z, .bool false] else z) w := by
  simp [Instr.lookup, run_underlying hT, run_checkKey_int _ 9999 hK, Instr.findKey, run_underlying hK, Instr.findNow, hz]

theorem run_len_map (hT : P.underlying T = some (.map K E)) (h : MapI w r es) (ty : TypeId) : (Builtin.len_ #[T] ty #[.map (some r)]).run P w = .ok (goInt es.length) w := by
  obtain ⟨ents, hr, he, _, _⟩ := h
  have : ents.size = es.length := by have := congrArg List.length he; simpa using this
  simp [Builtin.len_, run_underlying hT, getObj, Sem.run, hr, this]

/-- The world behind a store into map r. -/
def mapWorld (w : World) (r : Nat) (ents : Array MapEntry) : World := { w with heap := w.heap.setIfInBounds r (.map ents ents.size) }

theorem run_mapUpdate_int (hT : P.underlying T = some (.map K E)) (hK : P.underlying K = some (.int .i64)) (h : MapI w r es) (k : Int) (v : Value) :
    ∃ ents, (Instr.mapUpdate T (.map (some r)) (.int .i64 k) v).run P w = .ok () (mapWorld w r ents) ∧ MapI (mapWorld w r ents) r (putI es k v) := by
  obtain ⟨ents, hr, he, hb, hnd⟩ := h
  have hlt : r < w.heap.size := (Array.getElem?_eq_some_iff.1 hr).1
  have hat : ∀ x, (w.heap.setIfInBounds r x)[r]? = some x := fun x => by rw [Array.getElem?_setIfInBounds_self_of_lt hlt]
  cases hf : es.findIdx? (fun p => p.1 == k) with
  | none =>
    have hany : es.any (fun p => p.1 == k) = false := by
      rw [List.findIdx?_eq_none_iff] at hf
      rw [List.any_eq_false]
      intro x hx
      simpa using hf x hx
    refine ⟨ents.push { key := .int .i64 k, val := v, born := ents.size }, ?_, ?_⟩
    · simp [Instr.mapUpdate, run_underlying hT, getObj, setObj, Sem.run, hr, run_checkKey_int _ 9999 hK, run_findKey_int hK k ents he, hf, mapWorld]
    · refine ⟨_, hat _, ?_, ?_, ?_⟩
      · simp [putI, hany, he]
      rotate_left
      · simp only [putI, hany, Bool.false_eq_true, if_false, List.map_append, List.map_cons, List.map_nil]
        refine List.nodup_append.2 ⟨hnd, by simp, ?_⟩
        intro a ha b hb'
        simp at hb'
        subst hb'
        obtain ⟨p, hp, rfl⟩ := List.mem_map.1 ha
        have := List.any_eq_false.1 hany p hp
        simpa using this
      · intro i e hi
        rw [Array.getElem?_push] at hi
        split at hi
        · cases hi
          rename_i h1
          exact h1.symm
        · exact hb i e hi
  | some j =>
    obtain ⟨v0, hl, hj⟩ := lookI_some hf
    have hany : es.any (fun p => p.1 == k) = true := by
      rw [List.any_eq_true]
      exact ⟨(k, v0), List.mem_of_getElem? hj, by simp⟩
    have hmj : (es.map (fun p => (Value.int .i64 p.1, p.2)))[j]? = some (.int .i64 k, v0) := by simp [hj]
    rw [← he] at hmj
    obtain ⟨ej, hej, hkv⟩ : ∃ e, ents[j]? = some e ∧ (e.key, e.val) = (Value.int .i64 k, v0) := by simpa using hmj
    have hkey : ej.key = .int .i64 k := (Prod.mk.inj hkv).1
    have hks : (Instr.keyThatStays (.int .i64 k) (.int .i64 k)).run P w = .ok (.int .i64 k) w := by simp [Instr.keyThatStays, Instr.sameBits]
    refine ⟨ents.modify j fun e => { e with key := .int .i64 k, val := v }, ?_, ?_⟩
    · simp [Instr.mapUpdate, run_underlying hT, getObj, setObj, Sem.run, hr, run_checkKey_int _ 9999 hK, run_findKey_int hK k ents he, hf, mapWorld, hej, hkey, hks]
    · refine ⟨_, hat _, ?_, ?_, ?_⟩
      · have hsz : ents.size = es.length := by have := congrArg List.length he; simpa using this
        apply List.ext_getElem?
        intro i
        simp only [List.getElem?_map, Array.getElem?_toList, Array.getElem?_modify, putI, hany, if_true]
        have hi := congrArg (fun l : List (Value × Value) => l[i]?) he
        simp only [List.getElem?_map, Array.getElem?_toList] at hi
        by_cases hij : j = i
        · subst hij
          simp [hej, hj]
        · simp only [if_neg hij]
          rw [hi]
          cases hp : es[i]? with
          | none => simp
          | some p =>
            have hne : (p.1 == k) = false := by
              rw [beq_eq_false_iff_ne]
              intro hk
              have h1 : (es.map (·.1))[i]? = (es.map (·.1))[j]? := by simp [hp, hj, hk]
              have hil : i < (es.map (·.1)).length := by
                rw [List.length_map]
                exact (List.getElem?_eq_some_iff.1 hp).1
              exact hij ((List.getElem?_inj hil hnd).1 h1).symm
            have hne2 : p.1 ≠ k := by simpa using hne
            simp [hne2]
      rotate_left
      · simp only [putI, hany, if_true, List.map_map]
        have : (es.map ((fun x : Int × Value => x.1) ∘ fun p => if (p.1 == k) = true then (p.1, v) else p)) = es.map (·.1) := by
          apply List.map_congr_left
          intro p _
          simp only [Function.comp]
          split <;> rfl
        rw [this]
        exact hnd
      · intro i e hi
        rw [Array.getElem?_modify] at hi
        split at hi
        · rename_i h1
          subst h1
          rw [hej] at hi
          simp at hi
          subst hi
          exact hb j ej hej
        · exact hb i e hi
end
end Go.Proofs.YtgmafjaphnponaaGreatDoor
