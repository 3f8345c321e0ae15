/- ucd.Load as a plain function of the text's bytes. -/
import Derived.Test.YtgmafjaphnponaaGreatDoorGraph
import Derived.Test.YtgmafjaphnponaaGreatDoorCut
import Derived.Test.YtgmafjaphnponaaGreatDoorSpec
namespace Dov
/-- A line that says something: its point, its class, its parts. -/
def markL (l : List UInt8) : Option (Int × Int × List Int) := match cutsL 59 l with
  | [a, b, c] => match readL a, classL b, (if c = [] then some [] else partsL (cutsL 32 c)) with
    | some p, some k, some ps => some (p, k, ps)
    | _, _, _ => none
  | _ => none
/-- Does a line say nothing? -/
def mute (l : List UInt8) : Bool := match l with
  | [] => true
  | b :: _ => b == 35
/-- Line by line: an error with its line, or the marks, each with its line. -/
def readLines : Int → List (List UInt8) → List (MarkD × Int) → Except (Int × Int) (List (MarkD × Int))
  | _, [], acc => .ok acc
  | k, l :: r, acc =>
    if mute l then readLines (k + 1) r acc
    else match markL l with
      | none => .error (40, k + 1)
      | some m =>
        if (acc.any fun x => x.1.1 == m.1) then .error (41, k + 1)
        else if acc.length = 4096 then .error (2, k + 1)
        else readLines (k + 1) r (acc ++ [(m, k + 1)])
def tooLong (ms : List MarkD) (p : Int) : Bool := match sizeO ms (ms.length + 1) p with
  | some n => decide (18 < n)
  | none => false
def loadL (t : List UInt8) : Except (Int × Int) (List MarkD) :=
  if 65536 < t.length then .error (2, 0)
  else match readLines 0 (cutsL 10 t) [] with
    | .error x => .error x
    | .ok acc =>
      match acc.find? (fun x => leadsL (acc.map (·.1)) x.1.1) with
      | some x => .error (42, x.2)
      | none => match acc.find? (fun x => tooLong (acc.map (·.1)) x.1.1) with
        | some x => .error (43, x.2)
        | none => .ok (acc.map (·.1))
theorem partsL_length : ∀ (l : List (List UInt8)) (ps : List Int), partsL l = some ps → ps.length = l.length := by
  intro l
  induction l with
  | nil => intro ps h; simp only [partsL, Option.some.injEq] at h; subst h; rfl
  | cons a r ih =>
    intro ps h
    rw [partsL] at h
    split at h
    · cases h
    · obtain ⟨q, hq, rfl⟩ := Option.map_eq_some_iff.1 h
      simp [ih q hq]
theorem markL_parts {l : List UInt8} {m : MarkD} (h : markL l = some m) : m.2.2.length ≤ l.length + 1 := by
  unfold markL at h
  split at h
  · rename_i a b c hc
    have hcl : c.length ≤ l.length := cuts_le 59 l c (by rw [hc]; simp)
    split at h
    · rename_i p k ps _ _ hps
      simp only [Option.some.injEq] at h
      subst h
      split at hps
      · simp only [Option.some.injEq] at hps
        subst hps
        simp
      · have h1 := partsL_length _ _ hps
        have h2 := cuts_count 32 c
        show ps.length ≤ _
        omega
    · cases h
  · cases h
theorem readLines_bound (B : Nat) : ∀ (ls : List (List UInt8)) (k : Int) (acc acc' : List (MarkD × Int)), readLines k ls acc = .ok acc' → (∀ l ∈ ls, l.length ≤ B) → acc.length ≤ 4096 → (∀ x ∈ acc, x.1.2.2.length ≤ B + 1) →
    acc'.length ≤ 4096 ∧ ∀ x ∈ acc', x.1.2.2.length ≤ B + 1 := by
  intro ls
  induction ls with
  | nil => intro k acc acc' h _ h1 h2; simp only [readLines, Except.ok.injEq] at h; subst h; exact ⟨h1, h2⟩
  | cons l r ih =>
    intro k acc acc' h hl h1 h2
    rw [readLines] at h
    split at h
    · exact ih _ _ _ h (fun x hx => hl x (List.mem_cons_of_mem _ hx)) h1 h2
    · split at h
      · cases h
      · rename_i m hm
        split at h
        · cases h
        · split at h
          · cases h
          · refine ih _ _ _ h (fun x hx => hl x (List.mem_cons_of_mem _ hx)) (by simp; omega) ?_
            intro x hx
            rcases List.mem_append.1 hx with hx | hx
            · exact h2 x hx
            · simp at hx
              subst hx
              have := markL_parts hm
              have := hl l (by simp)
              show m.2.2.length ≤ _
              omega
theorem unmet_le (B : Nat) (met : List Int) : ∀ ms : List MarkD, (∀ m ∈ ms, m.2.2.length ≤ B) → unmet met ms ≤ ms.length * B := by
  intro ms
  induction ms with
  | nil => intro _; simp [unmet]
  | cons m ms ih =>
    intro h
    have h1 := ih (fun x hx => h x (List.mem_cons_of_mem _ hx))
    have h2 := h m (by simp)
    simp only [unmet, List.length_cons, Nat.add_mul, Nat.one_mul]
    split <;> omega
theorem partsOf_len (B : Nat) (ms : List MarkD) (p : Int) (h : ∀ m ∈ ms, m.2.2.length ≤ B) : (partsOf ms p).length ≤ B := by
  unfold partsOf markOf
  cases hf : ms.find? (fun m => m.1 == p) with
  | none => simp
  | some m => exact h m (List.mem_of_find?_eq_some hf)
end Dov
