/- The plain law of UcdAgain: what is printed of marks is read as these marks, or leads back to itself, or is too long. No program in sight. -/
import Derived.Test.YtgmafjaphnponaaGreatDoorReadBack
namespace Dov
open Go

theorem digits_chars (p : Int) (h : fits p = true) : (∀ c ∈ digitsL p, (hexVal c.toNat).isSome) ∧ 4 ≤ (digitsL p).length := by
  have hr := digits_read p h
  unfold readL at hr
  have hl : 4 ≤ (digitsL p).length := by
    unfold digitsL padl
    rw [List.length_append, List.length_replicate]
    omega
  refine ⟨?_, hl⟩
  have h43 : ∀ c ∈ digitsL p, c ≠ 43 ∧ c ≠ 45 → True := fun _ _ _ => trivial
  have hb : isPt p = true ∧ isSyl p = false := by
    unfold fits at h
    cases h1 : isPt p <;> cases h2 : isSyl p <;> simp [h1, h2] at h ⊢
  have hp : 0 ≤ p ∧ p ≤ 1114111 := by
    have := of_decide_eq_true hb.1
    omega
  have hrun : hexRun 4294967295 0 (digitsL p) = .ok p.toNat := by
    unfold digitsL padl fmt16
    rw [if_neg (by omega), hexRun_zeros]
    have := hexRun_hexA 4294967295 16 p.toNat [] (by omega) (by omega) (by omega)
    rw [List.append_nil] at this
    unfold hexl
    rw [this]
    rfl
  exact hexRun_ok_chars _ _ _ _ hrun

theorem digits_no (p : Int) (h : fits p = true) (b : UInt8) (hb : (hexVal b.toNat).isSome = false) : b ∉ digitsL p := fun hm => by
  have := (digits_chars p h).1 b hm
  rw [hb] at this
  cases this

theorem itoa_all : ((List.range 255).all fun n => (Lib.itoa (n : Int)).all fun c => decide (c ≠ 59 ∧ c ≠ 10)) = true := by kernel_rfl
theorem itoa_no (c : Int) (h0 : 0 ≤ c) (h1 : c ≤ 254) : ∀ b ∈ Lib.itoa c, b ≠ 59 ∧ b ≠ 10 := by
  have h := List.all_eq_true.1 itoa_all c.toNat (List.mem_range.2 (by omega))
  have e : ((c.toNat : Nat) : Int) = c := Int.toNat_of_nonneg h0
  rw [e] at h
  intro b hb
  exact of_decide_eq_true (List.all_eq_true.1 h b hb)

theorem cuts_none (c : UInt8) : ∀ x : List UInt8, c ∉ x → cutsL c x = [x] := by
  intro x
  induction x with
  | nil => intro _; rfl
  | cons b r ih =>
    intro h
    rw [cutsL, if_neg (fun e => h (by simp [e])), ih (fun hr => h (List.mem_cons_of_mem _ hr))]
theorem cuts_at (c : UInt8) (y : List UInt8) : ∀ x : List UInt8, c ∉ x → cutsL c (x ++ c :: y) = x :: cutsL c y := by
  intro x
  induction x with
  | nil => intro _; simp [cutsL]
  | cons b r ih =>
    intro h
    rw [List.cons_append, cutsL, if_neg (fun e => h (by simp [e])), ih (fun hr => h (List.mem_cons_of_mem _ hr))]

theorem joinTail_cons (s y : List UInt8) (r : List (List UInt8)) : Lib.joinTail s (y :: r) = (s ++ y) ++ Lib.joinTail s r := by simp [Lib.joinTail]
theorem cuts_tail (c : UInt8) : ∀ (r : List (List UInt8)) (x : List UInt8), c ∉ x → (∀ l ∈ r, c ∉ l) → cutsL c (x ++ Lib.joinTail [c] r) = x :: r := by
  intro r
  induction r with
  | nil => intro x hx _; rw [show Lib.joinTail [c] [] = [] from rfl, List.append_nil]; exact cuts_none c x hx
  | cons y r ih =>
    intro x hx hr
    rw [joinTail_cons, show x ++ ([c] ++ y ++ Lib.joinTail [c] r) = x ++ c :: (y ++ Lib.joinTail [c] r) by simp, cuts_at c _ x hx, ih y (hr y (by simp)) (fun l hl => hr l (List.mem_cons_of_mem _ hl))]
theorem cuts_join (c : UInt8) (ls : List (List UInt8)) (hne : ls ≠ []) (h : ∀ l ∈ ls, c ∉ l) : cutsL c (Lib.join ls [c]) = ls := by
  cases ls with
  | nil => exact absurd rfl hne
  | cons x r => rw [Lib.join_cons]; exact cuts_tail c r x (h x (by simp)) (fun l hl => h l (List.mem_cons_of_mem _ hl))
theorem joinTail_mem {c : UInt8} {s : List UInt8} : ∀ {r : List (List UInt8)}, c ∈ Lib.joinTail s r → c ∈ s ∨ ∃ l ∈ r, c ∈ l := by
  intro r
  induction r with
  | nil => intro h; simp [Lib.joinTail] at h
  | cons y r ih =>
    intro h
    rw [joinTail_cons] at h
    rcases List.mem_append.1 h with h | h
    · rcases List.mem_append.1 h with h | h
      · exact .inl h
      · exact .inr ⟨y, by simp, h⟩
    · rcases ih h with h | ⟨l, hl, h⟩
      · exact .inl h
      · exact .inr ⟨l, List.mem_cons_of_mem _ hl, h⟩
theorem join_mem {c : UInt8} {ls : List (List UInt8)} {s : List UInt8} (h : c ∈ Lib.join ls s) : c ∈ s ∨ ∃ l ∈ ls, c ∈ l := by
  cases ls with
  | nil => rw [Lib.join_nil] at h; cases h
  | cons x r =>
    rw [Lib.join_cons] at h
    rcases List.mem_append.1 h with h | h
    · exact .inr ⟨x, by simp, h⟩
    · rcases joinTail_mem h with h | ⟨l, hl, h⟩
      · exact .inl h
      · exact .inr ⟨l, List.mem_cons_of_mem _ hl, h⟩

def line0 (m : MarkD) : List UInt8 := lineL m (m.2.2.map digitsL)
/-- A mark that may be printed. -/
def good (m : MarkD) : Prop := fits m.1 = true ∧ 0 ≤ m.2.1 ∧ m.2.1 ≤ 254 ∧ ∀ p ∈ m.2.2, fits p = true

theorem parts_read : ∀ ps : List Int, (∀ p ∈ ps, fits p = true) → partsL (ps.map digitsL) = some ps := by
  intro ps
  induction ps with
  | nil => intro _; rfl
  | cons p r ih =>
    intro h
    rw [List.map_cons, partsL, digits_read p (h p (by simp)), ih (fun q hq => h q (List.mem_cons_of_mem _ hq))]
    rfl
theorem line_read (m : MarkD) (h : good m) : markL (line0 m) = some m := by
  obtain ⟨h1, h2, h3, h4⟩ := h
  have e1 : cutsL 59 (line0 m) = [digitsL m.1, Lib.itoa m.2.1, Lib.join (m.2.2.map digitsL) [32]] := by
    unfold line0 lineL
    rw [show digitsL m.1 ++ [59] ++ Lib.itoa m.2.1 ++ [59] ++ Lib.join (m.2.2.map digitsL) [32] = digitsL m.1 ++ 59 :: (Lib.itoa m.2.1 ++ 59 :: Lib.join (m.2.2.map digitsL) [32]) by simp]
    rw [cuts_at 59 _ _ (digits_no _ h1 59 (by decide)), cuts_at 59 _ _ (fun hm => (itoa_no _ h2 h3 _ hm).1 rfl), cuts_none 59 _ ?_]
    intro hm
    rcases join_mem hm with hm | ⟨l, hl, hm⟩
    · revert hm; decide
    · obtain ⟨p, hp, rfl⟩ := List.mem_map.1 hl
      exact digits_no p (h4 p hp) 59 (by decide) hm
  have e2 : (if Lib.join (m.2.2.map digitsL) [32] = [] then some [] else partsL (cutsL 32 (Lib.join (m.2.2.map digitsL) [32]))) = some m.2.2 := by
    cases hm : m.2.2 with
    | nil => rw [List.map_nil, Lib.join_nil, if_pos rfl]
    | cons p r =>
      have h5 := digits_chars p (h4 p (by rw [hm]; simp))
      rw [if_neg, cuts_join 32 _ (by simp) ?_, parts_read _ (fun q hq => h4 q (by rw [hm]; exact hq))]
      · intro l hl
        obtain ⟨q, hq, rfl⟩ := List.mem_map.1 hl
        exact digits_no q (h4 q (by rw [hm]; exact hq)) 32 (by decide)
      · rw [List.map_cons, Lib.join_cons]
        intro e
        have := congrArg List.length e
        rw [List.length_append, List.length_nil] at this
        omega
  unfold markL
  rw [e1]
  simp only
  rw [digits_read _ h1, class_read _ h2 h3, e2]
theorem line_no (m : MarkD) (h : good m) : 10 ∉ line0 m ∧ mute (line0 m) = false := by
  obtain ⟨h1, h2, h3, h4⟩ := h
  have h5 := digits_chars m.1 h1
  constructor
  · unfold line0 lineL
    intro hm
    simp only [List.mem_append, List.mem_singleton] at hm
    rcases hm with (((hm | hm) | hm) | hm) | hm
    · exact digits_no _ h1 10 (by decide) hm
    · revert hm; decide
    · exact (itoa_no _ h2 h3 _ hm).2 rfl
    · revert hm; decide
    · rcases join_mem hm with hm | ⟨l, hl, hm⟩
      · revert hm; decide
      · obtain ⟨p, hp, rfl⟩ := List.mem_map.1 hl
        exact digits_no p (h4 p hp) 10 (by decide) hm
  · unfold line0 lineL
    cases hd : digitsL m.1 with
    | nil => rw [hd] at h5; simp at h5
    | cons c r =>
      simp only [List.cons_append, mute]
      have := h5.1 c (by rw [hd]; simp)
      rw [beq_eq_false_iff_ne]
      rintro rfl
      revert this
      decide

def tot (ls : List (List UInt8)) : Nat := (ls.map List.length).sum
theorem tot_app (a b : List (List UInt8)) : tot (a ++ b) = tot a + tot b := by simp [tot]
theorem tot_join (s : List UInt8) (ls : List (List UInt8)) : tot ls ≤ (Lib.join ls s).length := by
  cases ls with
  | nil => simp [tot]
  | cons x r =>
    rw [Lib.join_cons, List.length_append]
    have : tot r ≤ (Lib.joinTail s r).length := by
      induction r with
      | nil => simp [tot]
      | cons y r ih =>
        rw [joinTail_cons, List.length_append, List.length_append]
        simp only [tot, List.map_cons, List.sum_cons] at ih ⊢
        omega
    simp only [tot, List.map_cons, List.sum_cons] at this ⊢
    omega
theorem join_ge (k : Nat) (ts : List (List UInt8)) (h : ∀ t ∈ ts, k ≤ t.length) : ts.length * (k + 1) ≤ (Lib.join ts [32]).length + 1 := by
  cases ts with
  | nil => simp
  | cons x r =>
    rw [Lib.join_cons, List.length_append, List.length_cons]
    have h1 := h x (by simp)
    have : r.length * (k + 1) ≤ (Lib.joinTail [32] r).length := by
      have h2 : ∀ t ∈ r, k ≤ t.length := fun t ht => h t (List.mem_cons_of_mem _ ht)
      clear h h1
      induction r with
      | nil => simp
      | cons y r ih =>
        have h3 := ih (fun t ht => h2 t (List.mem_cons_of_mem _ ht))
        have h4 := h2 y (by simp)
        rw [joinTail_cons, List.length_append, List.length_append, List.length_cons, Nat.add_mul]
        simp only [List.length_cons, List.length_nil]
        omega
    rw [Nat.add_mul]
    omega
theorem tot_mem {ls : List (List UInt8)} {l : List UInt8} (h : l ∈ ls) : l.length ≤ tot ls := by
  induction ls with
  | nil => cases h
  | cons x r ih =>
    simp only [tot, List.map_cons, List.sum_cons] at ih ⊢
    rcases List.mem_cons.1 h with rfl | h
    · omega
    · have := ih h
      omega
theorem line_len (m : MarkD) (h : good m) : 5 * m.2.2.length ≤ (line0 m).length := by
  have h1 := join_ge 4 (m.2.2.map digitsL) (fun t ht => by
    obtain ⟨p, hp, rfl⟩ := List.mem_map.1 ht
    exact (digits_chars p (h.2.2.2 p hp)).2)
  rw [List.length_map] at h1
  unfold line0 lineL
  simp only [List.length_append, List.length_cons, List.length_nil]
  omega
theorem ptL_end : ∀ (ps : List Int) (n : Nat) (acc ts : List (List UInt8)) (n' : Nat), ptL ps n acc = some (ts, n') → (∀ t ∈ acc, 4 ≤ t.length) →
    (∀ p ∈ ps, fits p = true) ∧ (∀ t ∈ ts, 4 ≤ t.length) ∧ n' + 5 * acc.length = n + 5 * ts.length ∧ n ≤ n' ∧ (n' ≤ 65536 → ts = acc ++ ps.map digitsL) := by
  intro ps
  induction ps with
  | nil =>
    intro n acc ts n' h ha
    simp only [ptL, Option.some.injEq, Prod.mk.injEq] at h
    obtain ⟨rfl, rfl⟩ := h
    exact ⟨by simp, ha, rfl, Nat.le_refl _, by simp⟩
  | cons p r ih =>
    intro n acc ts n' h ha
    rw [ptL] at h
    split at h
    · rename_i hf
      split at h
      · have ha' : ∀ t ∈ acc ++ [digitsL p], 4 ≤ t.length := fun t ht => by
          rcases List.mem_append.1 ht with ht | ht
          · exact ha t ht
          · simp at ht; subst ht; exact (digits_chars p hf).2
        obtain ⟨h1, h2, h3, h4, h5⟩ := ih _ _ _ _ h ha'
        rw [List.length_append] at h3
        simp only [List.length_cons, List.length_nil] at h3
        refine ⟨fun q hq => ?_, h2, by omega, by omega, fun hn => by rw [h5 hn]; simp⟩
        rcases List.mem_cons.1 hq with rfl | hq
        · exact hf
        · exact h1 q hq
      · obtain ⟨h1, h2, h3, h4, h5⟩ := ih _ _ _ _ h ha
        refine ⟨fun q hq => ?_, h2, by omega, by omega, fun hn => absurd hn (by omega)⟩
        rcases List.mem_cons.1 hq with rfl | hq
        · exact hf
        · exact h1 q hq
    · cases h
theorem prL_end : ∀ (ms : List MarkD) (prev : Option Int) (n : Nat) (acc ls : List (List UInt8)), prL prev ms n acc = some ls → n ≤ tot acc → tot ls ≤ 65536 →
    ls = acc ++ ms.map line0 ∧ (∀ m ∈ ms, good m ∧ ∀ q, prev = some q → q < m.1) ∧ ms.Pairwise (fun x y => x.1 < y.1) ∧ tot acc ≤ tot ls := by
  intro ms
  induction ms with
  | nil =>
    intro prev n acc ls h _ _
    simp only [prL, Option.some.injEq] at h
    subst h
    exact ⟨by simp, by simp, .nil, Nat.le_refl _⟩
  | cons m r ih =>
    intro prev n acc ls h hn ht
    rw [prL] at h
    split at h
    · cases h
    split at h
    · cases h
    split at h
    · cases h
    split at h
    · cases h
    rename_i hf h0 h1 hlate
    split at h
    · cases h
    rename_i ts n' hp
    obtain ⟨p1, p2, p3, p4, p5⟩ := ptL_end _ _ _ _ _ hp (by simp)
    have hj := join_ge 4 ts p2
    have hl : 5 * ts.length ≤ (lineL m ts).length := by
      unfold lineL
      simp only [List.length_append, List.length_cons, List.length_nil]
      omega
    have ht1 : tot (acc ++ [lineL m ts]) = tot acc + (lineL m ts).length := by rw [tot_app]; simp [tot]
    simp only [List.length_nil] at p3
    obtain ⟨q1, q2, q3, q4⟩ := ih _ _ _ _ h (by omega) ht
    have e : ts = m.2.2.map digitsL := by simpa using p5 (by omega)
    have hf' : fits m.1 = true := by simpa using hf
    have hg : good m := ⟨hf', by omega, by omega, p1⟩
    have hq : ∀ q, prev = some q → q < m.1 := by
      rintro q rfl
      have : late (some q) m.1 = true := by simpa using hlate
      exact of_decide_eq_true this
    refine ⟨by rw [q1, e]; simp [line0], ?_, ?_, by omega⟩
    · intro x hx
      rcases List.mem_cons.1 hx with rfl | hx
      · exact ⟨hg, hq⟩
      · refine ⟨(q2 x hx).1, fun q hpq => ?_⟩
        have := (q2 x hx).2 m.1 rfl
        have := hq q hpq
        omega
    · rw [List.pairwise_cons]
      exact ⟨fun x hx => (q2 x hx).2 m.1 rfl, q3⟩

theorem lines_read : ∀ (ms : List MarkD) (k : Int) (acc : List (MarkD × Int)), (∀ m ∈ ms, good m) → ms.Pairwise (fun x y => x.1 < y.1) → (∀ x ∈ acc, ∀ m ∈ ms, x.1.1 ≠ m.1) → acc.length + ms.length ≤ 4096 → (∀ x ∈ acc, 1 ≤ x.2 ∧ x.2 ≤ k) → 0 ≤ k →
    ∃ acc', readLines k (ms.map line0) acc = .ok acc' ∧ acc'.map (·.1) = acc.map (·.1) ++ ms ∧ ∀ x ∈ acc', 1 ≤ x.2 ∧ x.2 ≤ k + ms.length := by
  intro ms
  induction ms with
  | nil => intro k acc _ _ _ _ h _; exact ⟨acc, rfl, by simp, fun x hx => by have := h x hx; simp; omega⟩
  | cons m r ih =>
    intro k acc hg hs hd hn hk hk0
    rw [List.pairwise_cons] at hs
    obtain ⟨acc', h1, h2, h3⟩ := ih (k + 1) (acc ++ [(m, k + 1)]) (fun x hx => hg x (List.mem_cons_of_mem _ hx)) hs.2 (by
      intro x hx y hy
      rcases List.mem_append.1 hx with hx | hx
      · exact hd x hx y (List.mem_cons_of_mem _ hy)
      · simp at hx; subst hx; have := hs.1 y hy; show m.1 ≠ y.1; omega) (by simp only [List.length_append, List.length_cons, List.length_nil] at hn ⊢; omega) (by
      intro x hx
      rcases List.mem_append.1 hx with hx | hx
      · have := hk x hx; omega
      · simp at hx; subst hx; exact ⟨by show 1 ≤ k + 1; omega, Int.le_refl _⟩) (by omega)
    refine ⟨acc', ?_, by rw [h2]; simp, fun x hx => by have := h3 x hx; simp only [List.length_cons]; omega⟩
    rw [List.map_cons, readLines, (line_no m (hg m (by simp))).2, line_read m (hg m (by simp))]
    simp only [Bool.false_eq_true, if_false]
    rw [if_neg, if_neg (by simp only [List.length_cons] at hn; omega), h1]
    intro ha
    obtain ⟨x, hx, hxm⟩ := List.any_eq_true.1 ha
    exact hd x hx m (by simp) (by simpa using hxm)

/-- What is printed is read again. -/
theorem again {ms : List MarkD} {s : List UInt8} (h : printL ms = .ok s) : ms.Pairwise (fun x y => x.1 < y.1) ∧ (∀ m ∈ ms, good m) ∧ (∀ m ∈ ms, m.2.2.length ≤ 65536) ∧ ms.length ≤ 4096 ∧ s.length ≤ 65536 ∧
    (loadL s = .ok ms ∨ ∃ c n : Int, loadL s = .error (c, n) ∧ (c = 42 ∨ c = 43) ∧ 1 ≤ n ∧ n ≤ ms.length) := by
  unfold printL at h
  split at h
  · cases h
  rename_i h4
  split at h
  · cases h
  rename_i ls hls
  split at h
  · cases h
  rename_i h6
  simp only [Except.ok.injEq] at h
  subst h
  have ht := tot_join [10] ls
  obtain ⟨e, hg, hs, _⟩ := prL_end ms none 0 [] ls hls (Nat.zero_le _) (by omega)
  rw [List.nil_append] at e
  refine ⟨hs, fun m hm => (hg m hm).1, fun m hm => ?_, by omega, by omega, ?_⟩
  · have h1 := tot_mem (ls := ls) (l := line0 m) (by rw [e]; exact List.mem_map.2 ⟨m, hm, rfl⟩)
    have h2 := line_len m (hg m hm).1
    omega
  have hread : ∃ acc', readLines 0 (cutsL 10 (Lib.join ls [10])) [] = .ok acc' ∧ acc'.map (·.1) = ms ∧ ∀ x ∈ acc', 1 ≤ x.2 ∧ x.2 ≤ ms.length := by
    cases ms with
    | nil =>
      simp only [List.map_nil] at e
      subst e
      exact ⟨[], by rw [Lib.join_nil]; rfl, rfl, by simp⟩
    | cons m r =>
      rw [cuts_join 10 ls (by rw [e]; simp) (by
        rw [e]
        intro l hl
        obtain ⟨x, hx, rfl⟩ := List.mem_map.1 hl
        exact (line_no x (hg x hx).1).1), e]
      obtain ⟨acc', h1, h2, h3⟩ := lines_read (m :: r) 0 [] (fun x hx => (hg x hx).1) hs (by simp) (by simp at h4 ⊢; omega) (by simp) (Int.le_refl _)
      exact ⟨acc', h1, by simpa using h2, fun x hx => by have := h3 x hx; omega⟩
  obtain ⟨acc', h1, h2, h3⟩ := hread
  unfold loadL
  rw [if_neg h6, h1]
  dsimp only
  split
  · rename_i x hx
    exact .inr ⟨42, x.2, rfl, .inl rfl, h3 x (List.mem_of_find?_eq_some hx)⟩
  · split
    · rename_i x hx
      exact .inr ⟨43, x.2, rfl, .inr rfl, h3 x (List.mem_of_find?_eq_some hx)⟩
    · rw [h2]
      exact .inl rfl
theorem print_err {ms : List MarkD} {k : Int} (h : printL ms = .error k) : k = 1 ∨ k = 2 := by
  unfold printL at h
  split at h
  · simp only [Except.error.injEq] at h; omega
  · split at h
    · simp only [Except.error.injEq] at h; omega
    · split at h
      · simp only [Except.error.injEq] at h; omega
      · cases h
theorem good_pt {m : MarkD} (h : good m) : 0 ≤ m.1 ∧ m.1 < 1114112 := by
  have h1 := h.1
  unfold fits at h1
  have hb : isPt m.1 = true := by cases h2 : isPt m.1 <;> simp [h2] at h1 ⊢
  have := of_decide_eq_true hb
  omega
end Dov
