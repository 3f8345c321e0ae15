/- Classes and decompositions in memory: what a map of marks reads as, and that it lasts; the laws that the walks over it use. -/
import Derived.Test.YtgmafjaphnponaaGreatDoorMark
import Derived.Test.YtgmafjaphnponaaGreatDoorMap
import Derived.Test.YtgmafjaphnponaaGreatDoorGraph
namespace Go.Proofs.YtgmafjaphnponaaGreatDoor
open Go.RowKit Dov

/-- A value that reads as a mark. -/
def MarkV (w : World) (B : Nat) (v : Value) (m : MarkD) : Prop :=
  ∃ pv, v = .agg #[.int .i64 m.1, .int .i64 m.2.1, pv] ∧ w.ownsRow B 3 1 pv m.2.2.length (m.2.2.map (Value.int .i64))
/-- Map r holds these marks by their points, in this order. -/
def MarksAt (w : World) (B r : Nat) (ms : List MarkD) : Prop :=
  ∃ es, MapI w r es ∧ es.map (·.1) = ms.map (·.1) ∧ ∀ (i : Nat) (e : Int × Value) (m : MarkD), es[i]? = some e → ms[i]? = some m → MarkV w B e.2 m
/-- The data. -/
def DataAt (w : World) (B : Nat) (d : Value) (ms : List MarkD) : Prop :=
  ∃ db r, d = .pointer (some ⟨db, 0, none⟩) ∧ w.heap[db]? = some (.cells #[.map (some r)] 71 (0, 0)) ∧ MarksAt w B r ms

theorem own_kept {w w1 : World} {base : Nat} {e : TypeId} {size n : Nat} {v : Value} {xs : List Value} (h : w.ownsRow base e size v n xs) {row : Option Nat} (hg : w.grownBy w1 row) (hne : v.ownBlock = none ∨ v.ownBlock ≠ row) : w1.ownsRow base e size v n xs := h.kept hg hne
theorem own_lt {w : World} {base : Nat} {e : TypeId} {size n : Nat} {v : Value} {xs : List Value} (h : w.ownsRow base e size v n xs) (k : Nat) (hk : v.ownBlock = some k) : base ≤ k ∧ k < w.heap.size := by
  rcases h.2 with ⟨rfl, _⟩ | ⟨g, cap, cur, rfl, hb, hh, _⟩
  · simp [Value.ownBlock] at hk
  · have : g = k := by simpa [Value.ownBlock] using hk
    subst this
    exact ⟨hb, blk_lt hh⟩
/-- A row of cells is no map. -/
theorem own_ne_map {w : World} {base : Nat} {e : TypeId} {size n : Nat} {v : Value} {xs : List Value} (h : w.ownsRow base e size v n xs) {b : Nat} {ents : Array MapEntry} {c : Nat}
    (hb : w.heap[b]? = some (.map ents c)) : v.ownBlock = none ∨ v.ownBlock ≠ some b := by
  rcases h.2 with ⟨rfl, _⟩ | ⟨g, cap, cur, rfl, _, hg, _⟩
  · exact .inl rfl
  · refine .inr fun hk => ?_
    have : g = b := by simpa [Value.ownBlock] using hk
    subst this
    rw [hg] at hb
    cases hb

theorem MapI.lt {w : World} {r : Nat} {es : List (Int × Value)} (h : MapI w r es) : r < w.heap.size := by
  obtain ⟨ents, hr, _⟩ := h
  exact blk_lt hr
theorem MapI.same {w w1 : World} {r : Nat} {es : List (Int × Value)} (h : MapI w r es) (hk : w1.heap[r]? = w.heap[r]?) : MapI w1 r es := by
  obtain ⟨ents, hr, h2⟩ := h
  exact ⟨ents, hk.trans hr, h2⟩
theorem MapI.below {w w1 : World} {r B : Nat} {es : List (Int × Value)} (h : MapI w r es) (hb : Below B w w1) (hr : r < B) : MapI w1 r es := h.same (hb.block r hr)
theorem MapI.grown {w w1 : World} {r : Nat} {es : List (Int × Value)} (h : MapI w r es) {row : Option Nat} (hg : w.grownBy w1 row) (hr : some r ≠ row) : MapI w1 r es := h.same (hg.block r h.lt hr)
theorem MapI.new (w : World) : MapI (w.alloc (.map #[] 0)) w.heap.size [] := ⟨#[], by rw [blk_new]; rfl, rfl, by simp, by simp⟩

theorem MarkV.below {w w1 : World} {B : Nat} {v : Value} {m : MarkD} (h : MarkV w B v m) (hb : Below w.heap.size w w1) : MarkV w1 B v m := by
  obtain ⟨pv, h1, h2⟩ := h
  exact ⟨pv, h1, own_below h2 hb⟩
theorem MarksAt.below {w w1 : World} {B r : Nat} {ms : List MarkD} (h : MarksAt w B r ms) (hb : Below w.heap.size w w1) : MarksAt w1 B r ms := by
  obtain ⟨es, h1, h2, h3⟩ := h
  exact ⟨es, h1.below hb h1.lt, h2, fun i e m he hm => (h3 i e m he hm).below hb⟩
theorem DataAt.below {w w1 : World} {B : Nat} {d : Value} {ms : List MarkD} (h : DataAt w B d ms) (hb : Below w.heap.size w w1) : DataAt w1 B d ms := by
  obtain ⟨db, r, h1, h2, h3⟩ := h
  exact ⟨db, r, h1, blk_later hb h2, h3.below hb⟩

/-- What is found in the map under a key. -/
theorem MarksAt.look {w : World} {B r : Nat} {ms : List MarkD} (h : MarksAt w B r ms) (k : Int) :
    ∃ es, MapI w r es ∧ (match markOf ms k with | some m => ∃ v, lookI es k = some v ∧ MarkV w B v m ∧ m.1 = k | none => lookI es k = none) := by
  obtain ⟨es, h1, h2, h3⟩ := h
  refine ⟨es, h1, ?_⟩
  clear h1
  induction es generalizing ms with
  | nil =>
    cases ms with
    | nil => rfl
    | cons m ms => simp at h2
  | cons e es ih =>
    cases ms with
    | nil => simp at h2
    | cons m ms =>
      simp only [List.map_cons, List.cons.injEq] at h2
      by_cases hk : m.1 = k
      · have e1 : (m.1 == k) = true := by simpa using hk
        have e2 : (e.1 == k) = true := by rw [h2.1]; exact e1
        simp only [markOf, List.find?_cons, e1, lookI, e2]
        exact ⟨e.2, rfl, h3 0 e m rfl rfl, hk⟩
      · have e1 : (m.1 == k) = false := by simpa using hk
        have e2 : (e.1 == k) = false := by rw [h2.1]; exact e1
        have := ih h2.2 (fun i e' m' he hm => h3 (i + 1) e' m' (by simpa using he) (by simpa using hm))
        simp only [markOf, List.find?_cons, e1, lookI, e2] at this ⊢
        exact this


theorem zero_mark (w : World) : (zeroValue 60).run Tryz.prog w = .ok (.agg #[.int .i64 0, .int .i64 0, .slice none 0 0]) w := by kernel_rfl

/-- A look-up of a mark: the value, its parts readable. -/
theorem MarksAt.lookup {w : World} {B r : Nat} {ms : List MarkD} (h : MarksAt w B r ms) (k : Int) :
    ∃ pv, (∀ ok, (Instr.lookup 69 (.map (some r)) (.int .i64 k) ok).run Tryz.prog w = .ok (if ok then .tuple #[.agg #[.int .i64 (lookMark ms k).1, .int .i64 (lookMark ms k).2.1, pv], .bool (markOf ms k).isSome] else .agg #[.int .i64 (lookMark ms k).1, .int .i64 (lookMark ms k).2.1, pv]) w) ∧
      w.ownsRow B 3 1 pv (partsOf ms k).length ((partsOf ms k).map (Value.int .i64)) := by
  obtain ⟨es, h1, h2⟩ := h.look k
  have hrun := fun ok => run_lookup_int Tryz.underlying69 Tryz.underlying3 h1 k ok _ (zero_mark w)
  cases hm : markOf ms k with
  | none =>
    rw [hm] at h2
    refine ⟨.slice none 0 0, fun ok => ?_, ?_⟩
    · rw [hrun ok, h2]
      simp [lookMark, hm]
    · simp only [partsOf, hm]
      exact ⟨by simp, .inl ⟨rfl, rfl⟩⟩
  | some m =>
    rw [hm] at h2
    obtain ⟨v, hv, ⟨pv, rfl, ho⟩, hk⟩ := h2
    refine ⟨pv, fun ok => ?_, ?_⟩
    · rw [hrun ok, hv]
      simp [lookMark, hm]
    · simpa [partsOf, hm] using ho

/-- append(v, nil...): nothing happens. -/
theorem run_append_nil {P : Program} (w : World) {t ty e : TypeId} (ht : P.underlying t = some (.slice e)) {i : TypeInfo} (hi : P.info? e = some i) (b : Option Addr) (n c : Nat) (hn : n ≤ c) :
    (Builtin.append_ #[t, t] ty #[.slice b n c, .slice none 0 0]).run P w = .ok (.slice b n c) w := by
  have hnz : (match TypeDesc.slice e with | .int _ => true | _ => false) = false := rfl
  cases b with
  | none => simp [Builtin.append_, run_underlying ht, sizeOf, typeInfo, hi, Builtin.lenOf, hn, Builtin.firstCells]
  | some a => simp [Builtin.append_, run_underlying ht, sizeOf, typeInfo, hi, Builtin.lenOf, hn, Builtin.firstCells, storeCells]

/-- slices.Clone of a row that reads. -/
theorem clone_any {w : World} {B : Nat} {pv : Value} {xs : List Int} (ho : w.ownsRow B 3 1 pv xs.length (xs.map (Value.int .i64))) (hbig : xs.length * 8 ≤ 140737488355328) :
    Calls Tryz.prog 39 #[pv] w fun e w' => ∃ v', e = .returned v' ∧ w'.ownsRow w.heap.size 3 1 v' xs.length (xs.map (Value.int .i64)) ∧ Below w.heap.size w w' := by
  have ho' := ho
  rcases ho.2 with ⟨rfl, hx⟩ | ⟨g, cap, cur, rfl, hg, hh, hn, hcap, hsz, htake⟩
  · refine (Tryz.slices_Clone_int_nil 0 0 w).mono fun e w' h => ⟨_, h.1, ?_, by rw [h.2]; exact Below.refl _ _⟩
    have : xs = [] := by simpa using hx
    subst this
    exact ⟨by simp, .inl ⟨rfl, rfl⟩⟩
  · refine (Tryz.slices_Clone_int g 0 xs.length cap xs w (Nat.le_refl _) hbig (fun j hj => ?_)).mono fun e w' h => ?_
    · have := ho'.cells (g := g) rfl j (.int .i64 (xs.getD j 0)) (by simp [List.getElem?_eq_getElem hj, List.getD])
      have ha : (⟨g, 0, none⟩ : Addr).add j = ⟨g, 0 + j, none⟩ := by unfold Addr.add; split <;> simp_all
      rwa [ha] at this
    · obtain ⟨v', h1, h2, _, h4⟩ := h
      rw [List.take_length] at h2
      exact ⟨v', h1, h2, h4⟩
end Go.Proofs.YtgmafjaphnponaaGreatDoor
