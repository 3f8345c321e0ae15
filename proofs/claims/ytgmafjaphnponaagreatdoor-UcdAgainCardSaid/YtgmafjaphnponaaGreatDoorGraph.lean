/- Marks as plain data: which point leads to itself, how many parts to the end there are. Plain laws; no program in sight. -/
namespace Dov

/-- A mark as plain data: its point, its class, its parts. -/
abbrev MarkD := Int × Int × List Int
def markOf (ms : List MarkD) (p : Int) : Option MarkD := ms.find? (fun m => m.1 == p)
def partsOf (ms : List MarkD) (p : Int) : List Int := ((markOf ms p).map (·.2.2)).getD []
def lookMark (ms : List MarkD) (k : Int) : MarkD := (markOf ms k).getD (0, 0, [])
theorem lookMark_parts (ms : List MarkD) (k : Int) : (lookMark ms k).2.2 = partsOf ms k := by
  unfold lookMark partsOf
  cases markOf ms k <;> rfl

/-- How many parts stand in marks whose points have not been met. -/
def unmet (met : List Int) : List MarkD → Nat
  | [] => 0
  | m :: ms => (if met.contains m.1 then 0 else m.2.2.length) + unmet met ms

/-- The search: from the last one of those that are left on. -/
def leadsF (ms : List MarkD) (p : Int) : Nat → List Int → List Int → Bool
  | 0, _, _ => false
  | f + 1, left, met => match left.getLast? with
    | none => false
    | some q => if q = p then true
      else if met.contains q then leadsF ms p f left.dropLast met
      else leadsF ms p f (left.dropLast ++ partsOf ms q) (q :: met)
def leadsL (ms : List MarkD) (p : Int) : Bool := leadsF ms p ((partsOf ms p).length + unmet [] ms + 1) (partsOf ms p) []

theorem unmet_cons_le (q : Int) (met : List Int) (ms : List MarkD) : unmet (q :: met) ms ≤ unmet met ms := by
  induction ms with
  | nil => simp [unmet]
  | cons m ms ih =>
    simp only [unmet]
    by_cases h1 : met.contains m.1 = true
    · have : (q :: met).contains m.1 = true := by simp at h1 ⊢; exact .inr h1
      simp only [h1, this]
      exact Nat.add_le_add_left ih _
    · have h1' : met.contains m.1 = false := by simpa using h1
      simp only [h1']
      split
      · simp; omega
      · simp; omega

theorem unmet_step (q : Int) (met : List Int) (ms : List MarkD) (h : met.contains q = false) : unmet (q :: met) ms + (partsOf ms q).length ≤ unmet met ms := by
  induction ms with
  | nil => simp [unmet, partsOf, markOf]
  | cons m ms ih =>
    simp only [unmet]
    by_cases hq : m.1 = q
    · have e1 : partsOf (m :: ms) q = m.2.2 := by simp [partsOf, markOf, hq]
      have e2 : (q :: met).contains m.1 = true := by simp [hq]
      have e3 : met.contains m.1 = false := by rw [hq]; exact h
      rw [e1, e2, e3]
      have := unmet_cons_le q met ms
      simp
      omega
    · have e1 : partsOf (m :: ms) q = partsOf ms q := by simp [partsOf, markOf, hq]
      have e2 : (q :: met).contains m.1 = met.contains m.1 := by simp [hq]
      rw [e1, e2]
      omega

/-- Reached from p by one part or more. -/
inductive Leads (ms : List MarkD) : Int → Int → Prop
  | one {p q : Int} (h : q ∈ partsOf ms p) : Leads ms p q
  | more {p q r : Int} (h : Leads ms p q) (h' : r ∈ partsOf ms q) : Leads ms p r

theorem leadsF_closed (ms : List MarkD) (p : Int) : ∀ (f : Nat) (left met : List Int), left.length + unmet met ms < f → leadsF ms p f left met = false →
    (∀ q ∈ met, q ≠ p ∧ ∀ r ∈ partsOf ms q, r ∈ met ∨ r ∈ left) → ∃ M : List Int, (∀ q ∈ left, q ∈ M) ∧ (∀ q ∈ met, q ∈ M) ∧ p ∉ M ∧ ∀ q ∈ M, ∀ r ∈ partsOf ms q, r ∈ M := by
  intro f
  induction f with
  | zero => intro left met h; omega
  | succ f ih =>
    intro left met hf hr hm
    rw [leadsF] at hr
    cases hl : left.getLast? with
    | none =>
      have : left = [] := by simpa using hl
      subst this
      exact ⟨met, by simp, fun q h => h, fun h => (hm p h).1 rfl, fun q hq r hr => by rcases (hm q hq).2 r hr with h | h; exact h; simp at h⟩
    | some q =>
      rw [hl] at hr
      have hdl : left = left.dropLast ++ [q] := by
        have hne : left ≠ [] := by intro e; rw [e] at hl; simp at hl
        have h1 := List.dropLast_concat_getLast hne
        have h2 : left.getLast hne = q := by rw [List.getLast?_eq_some_getLast hne] at hl; exact Option.some.inj hl
        rw [h2] at h1
        exact h1.symm
      have hlen : left.length = left.dropLast.length + 1 := by
        have := congrArg List.length hdl
        rw [List.length_append] at this
        exact this
      by_cases hqp : q = p
      · simp [hqp] at hr
      · simp only [hqp, if_false] at hr
        by_cases hqm : met.contains q = true
        · simp only [hqm, if_true] at hr
          obtain ⟨M, h1, h2, h3, h4⟩ := ih left.dropLast met (by omega) hr (fun x hx => ⟨(hm x hx).1, fun r hr => by
            rcases (hm x hx).2 r hr with h | h
            · exact .inl h
            · rw [hdl] at h
              rcases List.mem_append.1 h with h | h
              · exact .inr h
              · simp at h; subst h; left; simpa using hqm⟩)
          refine ⟨M, fun x hx => ?_, h2, h3, h4⟩
          rw [hdl] at hx
          rcases List.mem_append.1 hx with h | h
          · exact h1 x h
          · simp at h; subst h; exact h2 x (by simpa using hqm)
        · have hqm' : met.contains q = false := by simpa using hqm
          simp only [hqm', Bool.false_eq_true, if_false] at hr
          have hu := unmet_step q met ms hqm'
          obtain ⟨M, h1, h2, h3, h4⟩ := ih (left.dropLast ++ partsOf ms q) (q :: met) (by rw [List.length_append]; omega) hr (fun x hx => by
            rcases List.mem_cons.1 hx with rfl | hx
            · exact ⟨hqp, fun r hr => .inr (List.mem_append.2 (.inr hr))⟩
            · refine ⟨(hm x hx).1, fun r hr => ?_⟩
              rcases (hm x hx).2 r hr with h | h
              · exact .inl (List.mem_cons_of_mem _ h)
              · rw [hdl] at h
                rcases List.mem_append.1 h with h | h
                · exact .inr (List.mem_append.2 (.inl h))
                · simp at h; subst h; exact .inl (by simp))
          refine ⟨M, fun x hx => ?_, fun x hx => h2 x (List.mem_cons_of_mem _ hx), h3, h4⟩
          rw [hdl] at hx
          rcases List.mem_append.1 hx with h | h
          · exact h1 x (List.mem_append.2 (.inl h))
          · simp at h; subst h; exact h2 _ (by simp)

/-- Where the search says no, the point does not lead to itself. -/
theorem leadsL_sound (ms : List MarkD) (p : Int) (h : leadsL ms p = false) : ¬ Leads ms p p := by
  obtain ⟨M, h1, _, h3, h4⟩ := leadsF_closed ms p _ (partsOf ms p) [] (by omega) h (by simp)
  have : ∀ q, Leads ms p q → q ∈ M := by
    intro q hq
    induction hq with
    | one h => exact h1 _ h
    | more _ h' ih => exact h4 _ ih _ h'
  exact fun hp => h3 (this p hp)

/-- The parts to the end, counted up to 19; nothing where the fuel does not reach. -/
def sumO (g : Int → Option Nat) : List Int → Nat → Option Nat
  | [], n => some n
  | q :: r, n => match g q with
    | none => none
    | some m => sumO g r (min (n + m) 19)
def sizeO (ms : List MarkD) : Nat → Int → Option Nat
  | 0, _ => none
  | f + 1, p => (sumO (sizeO ms f) (partsOf ms p) 0).map fun n => if n = 0 then 1 else n

theorem sumO_mono {g g' : Int → Option Nat} (h : ∀ q m, g q = some m → g' q = some m) : ∀ (l : List Int) (n m : Nat), sumO g l n = some m → sumO g' l n = some m := by
  intro l
  induction l with
  | nil => intro n m e; exact e
  | cons q r ih =>
    intro n m e
    simp only [sumO] at e ⊢
    cases hq : g q with
    | none => rw [hq] at e; cases e
    | some k =>
      rw [hq] at e
      rw [h q k hq]
      exact ih _ _ e
theorem sizeO_succ (ms : List MarkD) : ∀ (f : Nat) (p : Int) (n : Nat), sizeO ms f p = some n → sizeO ms (f + 1) p = some n := by
  intro f
  induction f with
  | zero => intro p n h; cases h
  | succ f ih =>
    intro p n h
    rw [sizeO] at h ⊢
    cases hs : sumO (sizeO ms f) (partsOf ms p) 0 with
    | none => rw [hs] at h; cases h
    | some m =>
      rw [hs] at h
      rw [sumO_mono ih _ _ _ hs]
      exact h
theorem sizeO_add (ms : List MarkD) (f k : Nat) (p : Int) (n : Nat) (h : sizeO ms f p = some n) : sizeO ms (f + k) p = some n := by
  induction k with
  | zero => exact h
  | succ k ih => exact sizeO_succ ms _ _ _ ih
theorem sizeO_inj (ms : List MarkD) {f f' : Nat} {p : Int} {n n' : Nat} (h : sizeO ms f p = some n) (h' : sizeO ms f' p = some n') : n = n' := by
  have h1 := sizeO_add ms f f' p n h
  have h2 := sizeO_add ms f' f p n' h'
  rw [Nat.add_comm] at h2
  rw [h1] at h2
  exact Option.some.inj h2
theorem sumO_le {g : Int → Option Nat} : ∀ (l : List Int) (n m : Nat), n ≤ 19 → sumO g l n = some m → m ≤ 19 := by
  intro l
  induction l with
  | nil => intro n m h e; cases e; exact h
  | cons q r ih =>
    intro n m h e
    simp only [sumO] at e
    split at e
    · cases e
    · exact ih _ _ (by omega) e
theorem sizeO_le (ms : List MarkD) {f : Nat} {p : Int} {n : Nat} (h : sizeO ms f p = some n) : 1 ≤ n ∧ n ≤ 19 := by
  cases f with
  | zero => cases h
  | succ f =>
    rw [sizeO] at h
    cases hs : sumO (sizeO ms f) (partsOf ms p) 0 with
    | none => rw [hs] at h; cases h
    | some m =>
      rw [hs] at h
      have := sumO_le _ _ _ (by omega) hs
      simp at h
      split at h <;> omega

theorem partsOf_key (ms : List MarkD) (p q : Int) (h : q ∈ partsOf ms p) : p ∈ ms.map (·.1) := by
  unfold partsOf markOf at h
  cases hf : ms.find? (fun m => m.1 == p) with
  | none => rw [hf] at h; simp at h
  | some m =>
    have h1 := List.find?_some hf
    have h2 := List.mem_of_find?_eq_some hf
    have h3 : m.1 = p := by simpa using h1
    rw [← h3]
    exact List.mem_map_of_mem h2

theorem nodup_le {a : Type} [BEq a] [LawfulBEq a] : ∀ (l k : List a), l.Nodup → (∀ x ∈ l, x ∈ k) → l.length ≤ k.length := by
  intro l
  induction l with
  | nil => intro k _ _; simp
  | cons x l ih =>
    intro k hn hs
    rw [List.nodup_cons] at hn
    have h1 := ih (k.erase x) hn.2 (fun y hy => by
      have hne : y ≠ x := fun e => hn.1 (e ▸ hy)
      exact (List.mem_erase_of_ne hne).2 (hs y (List.mem_cons_of_mem _ hy)))
    have h2 : x ∈ k := hs x (by simp)
    have h3 := List.length_erase_of_mem h2
    have h4 := List.length_pos_of_mem h2
    simp only [List.length_cons]
    omega

/-- Where no point leads to itself the count is there. -/
theorem sizeO_some (ms : List MarkD) (hac : ∀ p, ¬ Leads ms p p) : ∀ (f : Nat) (p : Int) (seen : List Int), seen.Nodup → (∀ v ∈ seen, v ∈ ms.map (·.1)) → (∀ v ∈ seen, Leads ms v p) →
    ms.length < f + seen.length → ∃ n, sizeO ms f p = some n := by
  intro f
  induction f with
  | zero =>
    intro p seen hn hk _ hl
    have := nodup_le seen (ms.map (·.1)) hn hk
    simp at this
    omega
  | succ f ih =>
    intro p seen hn hk hs hl
    have hall : ∀ q ∈ partsOf ms p, ∃ n, sizeO ms f q = some n := by
      intro q hq
      refine ih q (p :: seen) ?_ ?_ ?_ (by simp; omega)
      · rw [List.nodup_cons]
        exact ⟨fun h => hac p (hs p h), hn⟩
      · intro v hv
        rcases List.mem_cons.1 hv with rfl | hv
        · exact partsOf_key ms _ q hq
        · exact hk v hv
      · intro v hv
        rcases List.mem_cons.1 hv with rfl | hv
        · exact .one hq
        · exact .more (hs v hv) hq
    have hsum : ∀ (l : List Int) (n : Nat), (∀ q ∈ l, ∃ n, sizeO ms f q = some n) → ∃ m, sumO (sizeO ms f) l n = some m := by
      intro l
      induction l with
      | nil => intro n _; exact ⟨n, rfl⟩
      | cons q r ih =>
        intro n h
        obtain ⟨m, hm⟩ := h q (by simp)
        simp only [sumO, hm]
        exact ih _ (fun x hx => h x (List.mem_cons_of_mem _ hx))
    obtain ⟨m, hm⟩ := hsum _ 0 hall
    exact ⟨_, by rw [sizeO, hm]; rfl⟩
/-- A point that does not stand in the marks leads nowhere. -/
theorem Leads.key {ms : List MarkD} {p q : Int} (h : Leads ms p q) : p ∈ ms.map (·.1) := by
  induction h with
  | one h => exact partsOf_key ms _ _ h
  | more _ _ ih => exact ih
theorem sizeO_all (ms : List MarkD) (h : ∀ m ∈ ms, leadsL ms m.1 = false) (p : Int) : ∃ n, sizeO ms (ms.length + 1) p = some n := by
  refine sizeO_some ms (fun p hp => ?_) _ p [] (by simp) (by simp) (by simp) (by simp)
  obtain ⟨m, hm, rfl⟩ := List.mem_map.1 hp.key
  exact leadsL_sound ms _ (h m hm) hp
end Dov
