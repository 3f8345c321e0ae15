/- What holds in memory while ucd.Load reads lines; each step keeps it. -/
import Derived.Test.YtgmafjaphnponaaGreatDoorLoadD
namespace Go.Proofs.YtgmafjaphnponaaGreatDoor
open Go.RowKit Dov

/-- Two rows that do not lie in one block. -/
def Apart (a b : Value) : Prop := a.ownBlock = none ∨ a.ownBlock ≠ b.ownBlock
/-- Map r holds these marks; their parts lie apart from a row v. -/
def MarksX (w : World) (B r : Nat) (ms : List MarkD) (v : Value) : Prop :=
  ∃ es, MapI w r es ∧ es.map (·.1) = ms.map (·.1) ∧ ∀ (i : Nat) (e : Int × Value) (m : MarkD), es[i]? = some e → ms[i]? = some m →
    ∃ pv, e.2 = .agg #[.int .i64 m.1, .int .i64 m.2.1, pv] ∧ w.ownsRow B 3 1 pv m.2.2.length (m.2.2.map (Value.int .i64)) ∧ Apart pv v
theorem MarksX.at {w : World} {B r : Nat} {ms : List MarkD} {v : Value} (h : MarksX w B r ms v) : MarksAt w B r ms := by
  obtain ⟨es, h1, h2, h3⟩ := h
  refine ⟨es, h1, h2, fun i e m he hm => ?_⟩
  obtain ⟨pv, a, b, _⟩ := h3 i e m he hm
  exact ⟨pv, a, b⟩
theorem MarksX.lift {w w1 : World} {B r : Nat} {ms : List MarkD} {v v1 : Value} (h : MarksX w B r ms v) (hr : w1.heap[r]? = w.heap[r]?)
    (hk : ∀ (pv : Value) (n : Nat) (xs : List Value), w.ownsRow B 3 1 pv n xs → Apart pv v → w1.ownsRow B 3 1 pv n xs ∧ Apart pv v1) : MarksX w1 B r ms v1 := by
  obtain ⟨es, h1, h2, h3⟩ := h
  refine ⟨es, h1.same hr, h2, fun i e m he hm => ?_⟩
  obtain ⟨pv, a, b, c⟩ := h3 i e m he hm
  exact ⟨pv, a, hk pv _ _ b c⟩

theorem slice_form {w : World} {base : Nat} {e : TypeId} {size n : Nat} {v : Value} {xs : List Value} (h : w.ownsRow base e size v n xs) : ∃ a c, v = .slice a n c := by
  rcases h.2 with ⟨h3, hx⟩ | ⟨g, cap, cur, h3, _⟩
  · exact ⟨none, 0, by rw [h3, hx]⟩
  · exact ⟨_, _, h3⟩
theorem own_base {w : World} {base base' : Nat} {e : TypeId} {size n : Nat} {v : Value} {xs : List Value} (h : w.ownsRow base e size v n xs) (hb : base' ≤ base) : w.ownsRow base' e size v n xs := by
  obtain ⟨h1, h2⟩ := h
  refine ⟨h1, ?_⟩
  rcases h2 with h2 | ⟨g, cap, cur, a, b, c⟩
  · exact .inl h2
  · exact .inr ⟨g, cap, cur, a, by omega, c⟩

theorem MarksAt.base {w : World} {B B' r : Nat} {ms : List MarkD} (h : MarksAt w B r ms) (hb : B' ≤ B) : MarksAt w B' r ms := by
  obtain ⟨es, h1, h2, h3⟩ := h
  refine ⟨es, h1, h2, fun i e m he hm => ?_⟩
  obtain ⟨pv, a, b⟩ := h3 i e m he hm
  exact ⟨pv, a, own_base b hb⟩

structure Inv (w wr : World) (ps : List ByteArray) (k : Int) (ms : List MarkD) (es : List (Int × Value)) (v7 : Value) (os : List Int) : Prop where
  below : Below w.heap.size w wr
  f0 : wr.heap[w.heap.size]? = some (.cells #[.pointer (some ⟨w.heap.size + 5, 0, none⟩)] 28 (0, 0))
  f1 : wr.heap[w.heap.size + 1]? = some (.cells #[.int .i64 0] 24 (0, 0))
  f2 : wr.heap[w.heap.size + 2]? = some (.cells #[.int .i64 0] 3 (0, 0))
  f3 : wr.heap[w.heap.size + 3]? = some (.cells #[.int .i64 k] 3 (0, 0))
  f5 : wr.heap[w.heap.size + 5]? = some (.cells #[.map (some (w.heap.size + 4))] 71 (0, 0))
  f7 : wr.heap[w.heap.size + 7]? = some (.cells (ps.map Value.string).toArray 9 (0, 0))
  marks : MarksX wr (w.heap.size + 8) (w.heap.size + 4) ms v7
  lines : MapI wr (w.heap.size + 6) es
  order : wr.ownsRow (w.heap.size + 8) 3 1 v7 os.length (os.map (Value.int .i64))

section
variable {w wr W : World} {ps : List ByteArray} {k : Int} {ms : List MarkD} {es : List (Int × Value)} {v7 : Value} {os : List Int}

theorem Inv.later (h : Inv w wr ps k ms es v7 os) (hb : Below wr.heap.size wr W) : Inv w W ps k ms es v7 os where
  below := h.below.trans (hb.mono h.below.size)
  f0 := blk_later hb h.f0
  f1 := blk_later hb h.f1
  f2 := blk_later hb h.f2
  f3 := blk_later hb h.f3
  f5 := blk_later hb h.f5
  f7 := blk_later hb h.f7
  marks := h.marks.lift (hb.block _ (by obtain ⟨es, h1, _⟩ := h.marks; exact h1.lt)) (fun pv n xs ho ha => ⟨own_below ho hb, ha⟩)
  lines := h.lines.below hb h.lines.lt
  order := own_below h.order hb

/-- 'at' is written. -/
theorem Inv.at (h : Inv w wr ps k ms es v7 os) (n : Int) : Inv w (wr.setCell ⟨w.heap.size + 3, 0, none⟩ (.int .i64 n)) ps n ms es v7 os := by
  have hne : ∀ j : Nat, j ≠ w.heap.size + 3 → (wr.setCell ⟨w.heap.size + 3, 0, none⟩ (.int .i64 n)).heap[j]? = wr.heap[j]? := fun j hj => Below.heap_setCell _ _ _ _ hj
  refine ⟨h.below.setCell (by simp) _, (hne _ (by omega)).trans h.f0, (hne _ (by omega)).trans h.f1, (hne _ (by omega)).trans h.f2, blk_set h.f3 0 _, (hne _ (by omega)).trans h.f5, (hne _ (by omega)).trans h.f7, ?_, h.lines.same (hne _ (by omega)), ?_⟩
  · exact h.marks.lift (hne _ (by omega)) (fun pv m xs ho ha => ⟨ownsRow_setCell_below ho (by show w.heap.size + 3 < w.heap.size + 8; omega) _, ha⟩)
  · exact ownsRow_setCell_below h.order (by show w.heap.size + 3 < w.heap.size + 8; omega) _

/-- Only map block r is turned. -/
theorem own_map {wr W : World} {B r n : Nat} {v : Value} {xs : List Value} {ents : Array MapEntry} {c : Nat} (h : wr.ownsRow B 3 1 v n xs) (hr : wr.heap[r]? = some (.map ents c)) (hg : wr.grownBy W (some r)) : W.ownsRow B 3 1 v n xs :=
  own_kept h hg (own_ne_map h hr)

/-- A mark is kept. -/
theorem Inv.mark (h : Inv w wr ps k ms es v7 os) (m : MarkD) (pv : Value) (hpv : wr.ownsRow (w.heap.size + 8) 3 1 pv m.2.2.length (m.2.2.map (Value.int .i64))) (ha : Apart pv v7) (hn : (ms.any fun x => x.1 == m.1) = false) :
    ∃ W, (Instr.mapUpdate 69 (.map (some (w.heap.size + 4))) (.int .i64 m.1) (.agg #[.int .i64 m.1, .int .i64 m.2.1, pv])).run Tryz.prog wr = .ok () W ∧ wr.grownBy W (some (w.heap.size + 4)) ∧ Inv w W ps k (ms ++ [m]) es v7 os := by
  obtain ⟨es0, h1, h2, h3⟩ := h.marks
  obtain ⟨ents, hmu, hmap⟩ := run_mapUpdate_int (P := Tryz.prog) Tryz.underlying69 Tryz.underlying3 h1 m.1 (.agg #[.int .i64 m.1, .int .i64 m.2.1, pv])
  have hg := grown_map wr (w.heap.size + 4) ents
  obtain ⟨ents0, hr0, _⟩ := h1
  refine ⟨_, hmu, hg, ?_⟩
  have hne : ∀ j : Nat, j ≠ w.heap.size + 4 → (mapWorld wr (w.heap.size + 4) ents).heap[j]? = wr.heap[j]? := fun j hj => by
    unfold mapWorld
    simp only
    rw [Array.getElem?_setIfInBounds_ne (fun e => hj e.symm)]
  have hany : es0.any (fun x => x.1 == m.1) = false := by
    have : es0.any (fun x => x.1 == m.1) = (es0.map (·.1)).any (fun x => x == m.1) := by rw [List.any_map]; rfl
    rw [this, h2, List.any_map]
    exact hn
  have hput : putI es0 m.1 (.agg #[.int .i64 m.1, .int .i64 m.2.1, pv]) = es0 ++ [(m.1, .agg #[.int .i64 m.1, .int .i64 m.2.1, pv])] := by
    unfold putI
    rw [hany]
    rfl
  have hlen : es0.length = ms.length := by have := congrArg List.length h2; simpa using this
  refine ⟨h.below.grown hg h.below.size (fun j hj => by cases hj; omega), (hne _ (by omega)).trans h.f0, (hne _ (by omega)).trans h.f1, (hne _ (by omega)).trans h.f2, (hne _ (by omega)).trans h.f3, (hne _ (by omega)).trans h.f5, (hne _ (by omega)).trans h.f7, ?_, h.lines.same (hne _ (by omega)), own_map h.order hr0 hg⟩
  rw [hput] at hmap
  refine ⟨_, hmap, by simp [h2], fun i e m' he hm' => ?_⟩
  by_cases hi : i < ms.length
  · rw [List.getElem?_append_left (by omega)] at he
    rw [List.getElem?_append_left hi] at hm'
    obtain ⟨pv', a, b, c⟩ := h3 i e m' he hm'
    exact ⟨pv', a, own_map b hr0 hg, c⟩
  · rw [List.getElem?_append_right (by omega)] at he hm'
    have hi0 : i - ms.length = 0 := by
      rcases Nat.eq_zero_or_pos (i - ms.length) with h | h
      · exact h
      · rw [List.getElem?_eq_none (by simp; omega)] at hm'; cases hm'
    rw [hlen, hi0] at he
    rw [hi0] at hm'
    simp at he hm'
    subst he
    subst hm'
    exact ⟨pv, rfl, own_map hpv hr0 hg, ha⟩

/-- A line's number is kept. -/
theorem Inv.line (h : Inv w wr ps k ms es v7 os) (p n : Int) :
    ∃ W, (Instr.mapUpdate 72 (.map (some (w.heap.size + 6))) (.int .i64 p) (.int .i64 n)).run Tryz.prog wr = .ok () W ∧ wr.grownBy W (some (w.heap.size + 6)) ∧ Inv w W ps k ms (putI es p (.int .i64 n)) v7 os := by
  have h1 := h.lines
  obtain ⟨ents, hmu, hmap⟩ := run_mapUpdate_int (P := Tryz.prog) Tryz.underlying72 Tryz.underlying3 h1 p (.int .i64 n)
  have hg := grown_map wr (w.heap.size + 6) ents
  obtain ⟨ents0, hr0, _⟩ := h1
  refine ⟨_, hmu, hg, ?_⟩
  have hne : ∀ j : Nat, j ≠ w.heap.size + 6 → (mapWorld wr (w.heap.size + 6) ents).heap[j]? = wr.heap[j]? := fun j hj => by
    unfold mapWorld
    simp only
    rw [Array.getElem?_setIfInBounds_ne (fun e => hj e.symm)]
  refine ⟨h.below.grown hg h.below.size (fun j hj => by cases hj; omega), (hne _ (by omega)).trans h.f0, (hne _ (by omega)).trans h.f1, (hne _ (by omega)).trans h.f2, (hne _ (by omega)).trans h.f3, (hne _ (by omega)).trans h.f5, (hne _ (by omega)).trans h.f7, ?_, hmap, own_map h.order hr0 hg⟩
  exact h.marks.lift (hne _ (by omega)) (fun pv m xs ho ha => ⟨own_map ho hr0 hg, ha⟩)

/-- A point is appended to the order. -/
theorem Inv.app (h : Inv w wr ps k ms es v7 os) (p : Int) {v8 : Value} (hown : W.ownsRow (w.heap.size + 8) 3 1 v8 (os.length + 1) (os.map (Value.int .i64) ++ [.int .i64 p])) (hg : (wr.alloc (.cells #[.int .i64 p] 3)).grownBy W v7.ownBlock)
    (hat : v8.ownBlock = v7.ownBlock ∨ v8.ownBlock = some (wr.alloc (.cells #[.int .i64 p] 3)).heap.size) : Inv w W ps k ms es v8 (os ++ [p]) := by
  have hs : w.heap.size ≤ wr.heap.size := h.below.size
  have hsz : w.heap.size + 7 < wr.heap.size := blk_lt h.f7
  have hne : ∀ (j : Nat), j < w.heap.size + 8 → W.heap[j]? = wr.heap[j]? := fun j hj => by
    refine (hg.block j (by simp; omega) (fun e => ?_)).trans (Below.heap_alloc _ _ _ (by omega))
    have := (own_lt h.order j e.symm).1
    omega
  refine ⟨?_, (hne _ (by omega)).trans h.f0, (hne _ (by omega)).trans h.f1, (hne _ (by omega)).trans h.f2, (hne _ (by omega)).trans h.f3, (hne _ (by omega)).trans h.f5, (hne _ (by omega)).trans h.f7, ?_, h.lines.same (hne _ (by omega)), by simpa using hown⟩
  · exact (h.below.alloc hs _).grown hg (by simp; omega) (fun j hj => by have := (own_lt h.order j hj).1; omega)
  · refine h.marks.lift (hne _ (by omega)) (fun pv n xs ho ha => ⟨own_kept (ho.alloc _) hg ha, ?_⟩)
    rcases hat with e | e
    · unfold Apart; rw [e]; exact ha
    · rcases ho.2 with ⟨h1, _⟩ | ⟨g, cap, cur, h1, _, hh, _⟩
      · left; rw [h1]; rfl
      · right
        rw [h1, e]
        simp only [Value.ownBlock]
        intro e2
        have h3 := blk_lt hh
        have : g = (wr.alloc (.cells #[.int .i64 p] 3)).heap.size := by simpa using e2
        simp at this
        omega
/-- Another map grows. -/
theorem Inv.grown (h : Inv w wr ps k ms es v7 os) {kb : Nat} {ents : Array MapEntry} {c : Nat} (hk : wr.heap[kb]? = some (.map ents c)) (hkb : w.heap.size + 7 < kb) (hg : wr.grownBy W (some kb)) : Inv w W ps k ms es v7 os where
  below := h.below.grown hg h.below.size (fun j hj => by cases hj; omega)
  f0 := blk_grown h.f0 hg (by omega)
  f1 := blk_grown h.f1 hg (by omega)
  f2 := blk_grown h.f2 hg (by omega)
  f3 := blk_grown h.f3 hg (by omega)
  f5 := blk_grown h.f5 hg (by omega)
  f7 := blk_grown h.f7 hg (by omega)
  marks := h.marks.lift (hg.block _ (by obtain ⟨es, h1, _⟩ := h.marks; exact h1.lt) (fun e => by cases e; omega)) (fun pv n xs ho ha => ⟨own_map ho hk hg, ha⟩)
  lines := h.lines.grown hg (fun e => by cases e; omega)
  order := own_map h.order hk hg

theorem set_same {w : World} {b : Nat} {v : Value} {T : TypeId} (h : w.heap[b]? = some (.cells #[v] T (0, 0))) : w.setCell ⟨b, 0, none⟩ v = w := by
  have e : (w.setCell ⟨b, 0, none⟩ v).heap = w.heap := by
    apply Array.ext_getElem?
    intro j
    by_cases hj : j = b
    · subst hj
      rw [blk_set h 0 v, h]
      simp
    · exact Below.heap_setCell _ _ _ _ hj
  cases w
  simp only [World.setCell] at e ⊢
  simpa using e
end
end Go.Proofs.YtgmafjaphnponaaGreatDoor
