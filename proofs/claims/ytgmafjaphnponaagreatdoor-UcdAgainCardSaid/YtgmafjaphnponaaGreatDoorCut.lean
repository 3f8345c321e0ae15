/- strings.Split at one byte: the pieces, as a plain function of the bytes. -/
import Derived.Test.YtgmafjaphnponaaGreatDoorShelf
import Derived.Test.YtgmafjaphnponaaGreatDoorEnv
import Derived.Lib.SplitLaws
import Derived.Lib.CountLaws
namespace Dov
open Go
/-- What stands between the bytes c. -/
def cutsL (c : UInt8) : List UInt8 → List (List UInt8)
  | [] => [[]]
  | b :: l => if b = c then [] :: cutsL c l else match cutsL c l with
    | [] => [[b]]
    | h :: r => (b :: h) :: r
theorem cutsL_ne (c : UInt8) (l : List UInt8) : cutsL c l ≠ [] := by
  cases l with
  | nil => simp [cutsL]
  | cons b l =>
    simp only [cutsL]
    split
    · simp
    · split <;> simp
theorem cuts_le (c : UInt8) (l : List UInt8) : ∀ p ∈ cutsL c l, p.length ≤ l.length := by
  induction l with
  | nil => intro p hp; simp [cutsL] at hp; subst hp; simp
  | cons b l ih =>
    intro p hp
    simp only [cutsL] at hp
    split at hp
    · rcases List.mem_cons.1 hp with rfl | hp
      · simp
      · have := ih p hp; simp; omega
    · split at hp
      · simp at hp; subst hp; simp
      · rename_i h r he
        rcases List.mem_cons.1 hp with rfl | hp
        · have := ih h (by rw [he]; simp); simp; omega
        · have := ih p (by rw [he]; simp [hp]); simp; omega
theorem cuts_count (c : UInt8) (l : List UInt8) : (cutsL c l).length ≤ l.length + 1 := by
  induction l with
  | nil => simp [cutsL]
  | cons b l ih =>
    simp only [cutsL]
    split
    · simp; omega
    · split
      · simp
      · rename_i h r he
        rw [he] at ih
        simp at ih ⊢
        omega
theorem index_one_hit (c b : UInt8) (l : List UInt8) : Lib.index (b :: l) [c] = if b = c then 0 else if Lib.index l [c] == -1 then -1 else Lib.index l [c] + 1 := by
  have : ([c].isPrefixOf (b :: l)) = (c == b) := by simp [List.isPrefixOf]
  rw [Lib.index, this]
  by_cases h : b = c
  · subst h; simp
  · have : (c == b) = false := by simpa using fun e => h e.symm
    simp [h, this]
theorem index_ge (s : List UInt8) (c : UInt8) : -1 ≤ Lib.index s [c] := by
  induction s with
  | nil => simp [Lib.index]
  | cons b l ih =>
    rw [index_one_hit]
    split
    · omega
    · split <;> omega
theorem index_miss_count (s : List UInt8) (c : UInt8) (h : Lib.index s [c] = -1) : s.count c = 0 := by
  induction s with
  | nil => rfl
  | cons b l ih =>
    rw [index_one_hit] at h
    split at h
    · omega
    · rename_i hb
      split at h
      · rename_i h1
        rw [List.count_cons_of_ne hb]
        exact ih (by simpa using h1)
      · have := index_ge l c
        omega
theorem splitK_cuts (c : UInt8) : ∀ s : List UInt8, Lib.splitK [c] 0 (s.count c) s = cutsL c s := by
  intro s
  induction s with
  | nil => rfl
  | cons b l ih =>
    by_cases h : b = c
    · subst h
      rw [List.count_cons_self, Lib.splitK]
      have hi : Lib.index (b :: l) [b] = 0 := by rw [index_one_hit, if_pos rfl]
      rw [hi]
      simp only [cutsL, if_true]
      show (if (0 : Int) == -1 then _ else _) = _
      rw [if_neg (by decide)]
      simp [ih]
    · rw [List.count_cons_of_ne h]
      simp only [cutsL, if_neg h]
      rw [← ih]
      cases hk : l.count c with
      | zero => simp [Lib.splitK]
      | succ k =>
        have hm : ¬ Lib.index l [c] = -1 := fun e => by have := index_miss_count l c e; omega
        have hb : (Lib.index l [c] == -1) = false := by simpa using hm
        have hg := index_ge l c
        have hi : Lib.index (b :: l) [c] = Lib.index l [c] + 1 := by rw [index_one_hit, if_neg h, hb]; rfl
        rw [Lib.splitK, Lib.splitK, hi, hb]
        have hb2 : (Lib.index l [c] + 1 == -1) = false := by simp; omega
        rw [hb2]
        simp only [Bool.false_eq_true, if_false, Nat.add_zero]
        have e : (Lib.index l [c] + 1).toNat = (Lib.index l [c]).toNat + 1 := by omega
        rw [e]
        simp [List.take_succ_cons]
end Dov
namespace Go.Proofs.YtgmafjaphnponaaGreatDoor
open Go.RowKit Dov
theorem split_any (s : ByteArray) (c : UInt8) (hs : s.size < 4294967281) (w : World) (he : Env w) :
    Calls Tryz.prog 35 #[.string s, .string ⟨#[c]⟩] w fun e w' => ∃ ps : List ByteArray, ps.map (·.data.toList) = cutsL c s.data.toList ∧ e = .returned (.slice (some ⟨w.heap.size, 0, none⟩) ps.length ps.length) ∧ w' = w.alloc (.cells (ps.map Value.string).toArray 9) := by
  obtain ⟨m, hm⟩ := he.maxlen
  refine (Tryz.strings_Split s ⟨#[c]⟩ m w hs hm (Nat.le_refl 1)).mono fun e w' h => ?_
  obtain ⟨h1, h2⟩ := h
  have hl := Lib.splitB_all ⟨#[c]⟩ (Nat.le_refl 1) 0 _ s rfl
  refine ⟨_, ?_, by rw [h1, hl], h2⟩
  rw [Lib.splitB_data]
  have : Lib.countB s ⟨#[c]⟩ = s.data.toList.count c := Lib.count_one c s.data.toList
  rw [this]
  exact splitK_cuts c s.data.toList
end Go.Proofs.YtgmafjaphnponaaGreatDoor
