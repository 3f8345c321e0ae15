/- 'for k, v := range m' over a map keyed by whole numbers: each entry once, in whatever order. Over any program. -/
import Derived.Test.YtgmafjaphnponaaGreatDoorData
import Derived.Maps.RangeRun
import Derived.Maps.Range
namespace Go.Proofs.YtgmafjaphnponaaGreatDoor
open Go.RowKit Go.ChangeMaps Go.MapKept

/-- The loop is under way: the entries at vs have been. -/
def Rng (w : World) (r it : Nat) (es : List (Int × Value)) (vs : List Nat) : Prop :=
  ∃ ents c0, w.heap[r]? = some (.map ents ents.size) ∧ ents.toList.map (fun e => (e.key, e.val)) = es.map (fun p => (Value.int .i64 p.1, p.2)) ∧ (∀ (i : Nat) (e : MapEntry), ents[i]? = some e → e.born = i) ∧
    w.heap[it]? = some (.mapIter (some r) ents.size vs.toArray c0) ∧ ents.size ≤ c0

section
variable {P : Program} {w : World} {r it : Nat} {es : List (Int × Value)} {vs : List Nat} {T K E : TypeId}

theorem Rng.ne (h : Rng w r it es vs) : it ≠ r := by
  obtain ⟨ents, c0, h1, _, _, h4, _⟩ := h
  rintro rfl
  rw [h1] at h4
  cases h4
theorem Rng.lt (h : Rng w r it es vs) : it < w.heap.size ∧ r < w.heap.size := by
  obtain ⟨ents, c0, h1, _, _, h4, _⟩ := h
  exact ⟨blk_lt h4, blk_lt h1⟩
theorem Rng.same {w1 : World} (h : Rng w r it es vs) (h1 : w1.heap[r]? = w.heap[r]?) (h2 : w1.heap[it]? = w.heap[it]?) : Rng w1 r it es vs := by
  obtain ⟨ents, c0, a, b, c, d, e⟩ := h
  exact ⟨ents, c0, h1.trans a, b, c, h2.trans d, e⟩
theorem Rng.below {w1 : World} (h : Rng w r it es vs) (hb : Below w.heap.size w w1) : Rng w1 r it es vs := h.same (hb.block _ h.lt.2) (hb.block _ h.lt.1)
theorem Rng.grown {w1 : World} {row : Option Nat} (h : Rng w r it es vs) (hg : w.grownBy w1 row) (h1 : some r ≠ row) (h2 : some it ≠ row) : Rng w1 r it es vs := h.same (hg.block _ h.lt.2 h1) (hg.block _ h.lt.1 h2)

theorem Rng.start (h : MapI w r es) (hT : P.underlying T = some (.map K E)) :
    (Instr.range T (.map (some r))).run P w = .ok (.pointer (some ⟨w.heap.size, 0, none⟩)) (w.alloc (.mapIter (some r) (h.choose.size) #[] (h.choose.size))) ∧
    Rng (w.alloc (.mapIter (some r) (h.choose.size) #[] (h.choose.size))) r w.heap.size es [] := by
  have hs := h.choose_spec
  generalize h.choose = ents at hs ⊢
  obtain ⟨h1, h2, h3, h4⟩ := hs
  exact ⟨run_range_map w T K E r ents ents.size hT h1, ents, ents.size, blk_alloc h1, h2, h3, blk_new _, Nat.le_refl _⟩

theorem Rng.next (h : Rng w r it es vs) (ty : TypeId) :
    ((∀ i, i < es.length → i ∈ vs) ∧ (Instr.next (.pointer (some ⟨it, 0, none⟩)) false ty).run P w = .ok (.tuple #[.bool false]) w) ∨
    ∃ i k v w', ¬ i ∈ vs ∧ es[i]? = some (k, v) ∧ (Instr.next (.pointer (some ⟨it, 0, none⟩)) false ty).run P w = .ok (.tuple #[.bool true, .int .i64 k, v]) w' ∧
      (Instr.entry (.pointer (some ⟨it, 0, none⟩))).run P w' = .ok (.tuple #[.int .i64 k, v]) w' ∧ Rng w' r it es (vs ++ [i]) ∧ w.grownBy w' (some it) ∧ w'.heap.size = w.heap.size := by
  have hne := h.ne
  obtain ⟨ents, c0, h1, h2, h3, h4, h5⟩ := h
  have hlen : ents.size = es.length := by have := congrArg List.length h2; simpa using this
  have hold : ∀ x ∈ ents.toList, x.born < ents.size := by
    intro x hx
    obtain ⟨i, hi⟩ := List.getElem?_of_mem hx
    have hi' : ents[i]? = some x := by simpa using hi
    rw [h3 i x hi']
    exact (Array.getElem?_eq_some_iff.1 hi').1
  have hnd : (ents.toList.map (·.born)).Nodup := by
    have e : ents.toList.map (·.born) = List.range ents.size := by
      apply List.ext_getElem?
      intro i
      by_cases hi : i < ents.size
      · have hh : ents[i]? = some ents[i] := Array.getElem?_eq_getElem hi
        have := h3 i _ hh
        simp [hi, this]
      · simp [hi]
    rw [e]
    exact List.nodup_range
  rcases run_next_at (P := P) w ty it r ents.size c0 vs.toArray ents ents.size h4 h1 hold h5 with ⟨h0, hr⟩ | ⟨e, he, w1, hal, hrun⟩
  · left
    refine ⟨fun i hi => ?_, hr⟩
    have hi' : i < ents.size := by omega
    have hh : ents[i]? = some ents[i] := Array.getElem?_eq_getElem hi'
    have := all_seen ents vs.toArray h0 ents[i] (by simp)
    rw [h3 i _ hh] at this
    simpa using this
  · right
    obtain ⟨hem, hes⟩ := mem_left he
    obtain ⟨i, hi⟩ := List.getElem?_of_mem hem
    have hi' : ents[i]? = some e := by simpa using hi
    have hb := h3 i e hi'
    have hes2 : ¬ i ∈ vs := by
      rw [hb] at hes
      simpa using hes
    have hpe : (ents.toList.map fun e => (e.key, e.val))[i]? = some (e.key, e.val) := by simp [hi]
    rw [h2] at hpe
    rw [List.getElem?_map] at hpe
    obtain ⟨p, hp, hpv⟩ := Option.map_eq_some_iff.1 hpe
    obtain ⟨hk, hv⟩ := Prod.mk.inj hpv
    have hr1 : w1.heap[it]? = some (.mapIter (some r) ents.size vs.toArray c0) := by rcases hal with rfl | rfl <;> exact h4
    have hm1 : w1.heap[r]? = some (.map ents ents.size) := by rcases hal with rfl | rfl <;> exact h1
    have hset := heap_set (o' := .mapIter (some r) ents.size (vs.toArray.push e.born) ents.size) hr1
    have hm2 := (hset.2 r (fun e1 => hne e1.symm)).trans hm1
    refine ⟨i, p.1, p.2, setBlock w1 it (.mapIter (some r) ents.size (vs.toArray.push e.born) ents.size), hes2, by simpa using hp, ?_, ?_, ?_, ?_, ?_⟩
    · rw [hrun, ← hk, ← hv]
    · rw [hk, hv]
      exact run_entry_at _ it r ents.size vs.toArray ents ents.size e hset.1 hm2 hem hnd
    · refine ⟨ents, ents.size, hm2, h2, h3, ?_, Nat.le_refl _⟩
      refine hset.1.trans ?_
      rw [hb]
      simp
    · rcases hal with rfl | rfl <;> exact ⟨rfl, rfl, rfl, by simp [setBlock], fun i _ hi => hset.2 i (fun e1 => hi (by rw [e1]))⟩
    · rcases hal with rfl | rfl <;> simp [setBlock]
end
end Go.Proofs.YtgmafjaphnponaaGreatDoor
