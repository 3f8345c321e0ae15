/- ucd.Load: for every text: the error and its line, or the data. -/
import Derived.Test.YtgmafjaphnponaaGreatDoorLoadI
import Derived.Deep.CutRange
namespace Go.Proofs.YtgmafjaphnponaaGreatDoor
open Go.RowKit Dov

/-- What Load tells. -/
def LoadEnd (w : World) (o : Except (Int × Int) (List MarkD)) (e : Ending) (w' : World) : Prop := match o with
  | .error (c, n) => e = .returned (.tuple #[.pointer none, .int .i64 c, .int .i64 n])
  | .ok ms => ∃ d, e = .returned (.tuple #[d, .int .i64 0, .int .i64 0]) ∧ DataAt w' w.heap.size d ms

theorem load_results (T : Array Value) (D : Nat) (d : Value) (e l : Int) (w : World) (h2 : T.getD 2 undef = .pointer (some ⟨D, 0, none⟩)) (h3 : T.getD 3 undef = .pointer (some ⟨D + 1, 0, none⟩)) (h4 : T.getD 4 undef = .pointer (some ⟨D + 2, 0, none⟩))
    (hr : Res3 w D d e l) : (results Tryz.f10 T).run Tryz.prog w = .ok (.tuple #[d, .int .i64 e, .int .i64 l]) w := by
  obtain ⟨a0, a1, a2⟩ := hr
  have c0 := blk_cell a0 0
  have c1 := blk_cell a1 0
  have c2 := blk_cell a2 0
  simp at c0 c1 c2
  have g2 : T[2]?.getD undef = .pointer (some ⟨D, 0, none⟩) := by rw [← h2]; simp
  have g3 : T[3]?.getD undef = .pointer (some ⟨D + 1, 0, none⟩) := by rw [← h3]; simp
  have g4 : T[4]?.getD undef = .pointer (some ⟨D + 2, 0, none⟩) := by rw [← h4]; simp
  clear h2 h3 h4
  simp only [results, Tryz.results10]
  simp [g2, g3, g4, go_sem, c0, c1, c2]

theorem leave_caught (T : Array Value) (D : Nat) (d0 : Value) (e0 l0 n c : Int) (w : World) (R : Ending → World → Prop) (h2 : T.getD 2 undef = .pointer (some ⟨D, 0, none⟩)) (h3 : T.getD 3 undef = .pointer (some ⟨D + 1, 0, none⟩)) (h4 : T.getD 4 undef = .pointer (some ⟨D + 2, 0, none⟩))
    (hr : Res3 w D d0 e0 l0) (ha : w.heap[D + 3]? = some (.cells #[.int .i64 n] 3 (0, 0))) (h : ∀ w', Below D w w' → R (.returned (.tuple #[.pointer none, .int .i64 c, .int .i64 n])) w') :
    Leaves Tryz.prog Tryz.f10 T R [{ target := .fn (.func 34) #[.pointer (some ⟨D + 3, 0, none⟩), .pointer (some ⟨D, 0, none⟩), .pointer (some ⟨D + 1, 0, none⟩), .pointer (some ⟨D + 2, 0, none⟩)], args := #[] }] (.panicking [{ v := faultV c, recovered := false }]) w := by
  refine leaves_cons (f := 34) (args := #[.pointer (some ⟨D + 3, 0, none⟩), .pointer (some ⟨D, 0, none⟩), .pointer (some ⟨D + 1, 0, none⟩), .pointer (some ⟨D + 2, 0, none⟩)]) (by simp) (by simp [go_sem]) ?_
  refine (load_caught D d0 e0 l0 n c [] w hr ha).mono ?_
  rintro e u' w' ⟨rfl, rfl, hr', hb⟩
  exact ⟨_, load_results T D _ _ _ w' h2 h3 h4 hr', h w' hb⟩

theorem leave_idle (T : Array Value) (D : Nat) (d : Value) (e l : Int) (w : World) (R : Ending → World → Prop) (h2 : T.getD 2 undef = .pointer (some ⟨D, 0, none⟩)) (h3 : T.getD 3 undef = .pointer (some ⟨D + 1, 0, none⟩)) (h4 : T.getD 4 undef = .pointer (some ⟨D + 2, 0, none⟩))
    (hr : Res3 w D d e l) (h : R (.returned (.tuple #[d, .int .i64 e, .int .i64 l])) w) :
    Leaves Tryz.prog Tryz.f10 T R [{ target := .fn (.func 34) #[.pointer (some ⟨D + 3, 0, none⟩), .pointer (some ⟨D, 0, none⟩), .pointer (some ⟨D + 1, 0, none⟩), .pointer (some ⟨D + 2, 0, none⟩)], args := #[] }] .returning w := by
  refine leaves_cons (f := 34) (args := #[.pointer (some ⟨D + 3, 0, none⟩), .pointer (some ⟨D, 0, none⟩), .pointer (some ⟨D + 1, 0, none⟩), .pointer (some ⟨D + 2, 0, none⟩)]) (by simp) (by simp [go_sem]) ?_
  refine (load_idle _ _ _ _ w).mono ?_
  rintro e' u' w' ⟨rfl, rfl, rfl⟩
  exact ⟨_, load_results T D _ _ _ w h2 h3 h4 hr, h⟩

set_option maxRecDepth 100000 in
set_option maxHeartbeats 4000000 in
theorem load_long (t : ByteArray) (h : 65536 < t.size) (hs : t.size ≤ 140737488355328) (w : World) :
    Calls Tryz.prog 10 #[.string t] w fun e w' => e = .returned (.tuple #[.pointer none, .int .i64 2, .int .i64 0]) ∧ Below w.heap.size w w' := by
  go_enter_defers Tryz.func10, Tryz.ntmps10
  go_wp2
  refine ⟨_, load_results _ w.heap.size (.pointer none) 2 0 _ rfl rfl rfl ⟨?_, ?_, ?_⟩, rfl, ?_⟩
  · exact blk_alloc (blk_alloc (blk_new _))
  · exact blk_alloc (by simpa using blk_new (w := w.alloc (.cells #[.pointer none] 28)) (.cells #[.int .i64 2] 24))
  · simpa using blk_new (w := (w.alloc (.cells #[.pointer none] 28)).alloc (.cells #[.int .i64 2] 24)) (.cells #[.int .i64 0] 3)
  · exact (((Below.refl _ _).alloc (Nat.le_refl _) _).alloc (by simp) _).alloc (by simp; omega) _

/-- Seven blocks, one behind the other. -/
def laid7 (w : World) (o0 o1 o2 o3 o4 o5 o6 : Obj) : World := ((((((w.alloc o0).alloc o1).alloc o2).alloc o3).alloc o4).alloc o5).alloc o6
theorem laid7_facts (w : World) (o0 o1 o2 o3 o4 o5 o6 : Obj) :
    ((laid7 w o0 o1 o2 o3 o4 o5 o6).heap[w.heap.size]? = some o0 ∧ (laid7 w o0 o1 o2 o3 o4 o5 o6).heap[w.heap.size + 1]? = some o1 ∧ (laid7 w o0 o1 o2 o3 o4 o5 o6).heap[w.heap.size + 2]? = some o2 ∧
    (laid7 w o0 o1 o2 o3 o4 o5 o6).heap[w.heap.size + 3]? = some o3 ∧ (laid7 w o0 o1 o2 o3 o4 o5 o6).heap[w.heap.size + 4]? = some o4 ∧ (laid7 w o0 o1 o2 o3 o4 o5 o6).heap[w.heap.size + 5]? = some o5 ∧
    (laid7 w o0 o1 o2 o3 o4 o5 o6).heap[w.heap.size + 6]? = some o6) ∧ Below w.heap.size w (laid7 w o0 o1 o2 o3 o4 o5 o6) ∧ (laid7 w o0 o1 o2 o3 o4 o5 o6).heap.size = w.heap.size + 7 := by
  have e : (laid7 w o0 o1 o2 o3 o4 o5 o6).heap = ((((((w.heap.push o0).push o1).push o2).push o3).push o4).push o5).push o6 := rfl
  refine ⟨?_, ?_, by rw [e]; simp⟩
  · rw [e]
    simp only [Array.getElem?_push, Array.size_push]
    refine ⟨?_, ?_, ?_, ?_, ?_, ?_, ?_⟩ <;> repeat' (first | rfl | (exfalso; omega) | split)
  · unfold laid7
    exact (((((((Below.refl _ _).alloc (Nat.le_refl _) _).alloc (by simp) _).alloc (by simp; omega) _).alloc (by simp; omega) _).alloc (by simp; omega) _).alloc (by simp; omega) _).alloc (by simp; omega) _

set_option maxRecDepth 100000 in
set_option maxHeartbeats 4000000 in
theorem load_short (t : ByteArray) (h : t.size ≤ 65536) (w : World) (he : Env w) :
    Calls Tryz.prog 10 #[.string t] w fun e w' => LoadEnd w (loadL t.data.toList) e w' ∧ Below w.heap.size w w' := by
  have hmm := @run_makeMap Tryz.prog
  have hmf : ∀ (fn : Fn) (first cap : Array Value) (w : World), (Instr.makeFunc fn first cap).run Tryz.prog w = .ok (.func fn first cap) w := fun _ _ _ _ => rfl
  have HE := Lib.hid he
  clear he
  go_enter_defers Tryz.func10, Tryz.ntmps10
  go_wp2_with fail
  simp only [Nat.add_assoc, Nat.reduceAdd]
  have hX := laid7_facts w (.cells #[.pointer (some ⟨w.heap.size + 5, 0, none⟩)] 28) (.cells #[.int .i64 0] 24) (.cells #[.int .i64 0] 3) (.cells #[.int .i64 0] 3) (.map #[] 0) (.cells #[.map (some (w.heap.size + 4))] 71) (.map #[] 0)
  change Calls _ _ _ (laid7 w (.cells #[.pointer (some ⟨w.heap.size + 5, 0, none⟩)] 28) (.cells #[.int .i64 0] 24) (.cells #[.int .i64 0] 3) (.cells #[.int .i64 0] 3) (.map #[] 0) (.cells #[.map (some (w.heap.size + 4))] 71) (.map #[] 0)) _
  generalize laid7 w _ _ _ _ _ _ _ = X at hX ⊢
  obtain ⟨⟨f0, f1, f2, f3, f4, f5, f6⟩, hbX, hszX⟩ := hX
  have HS := Lib.hid (split_any t 10 (by omega) X (HE.out.below hbX))
  refine (HS.out).mono ?_
  rintro e W ⟨ps, hps, rfl, hW⟩
  have hbW : Below X.heap.size X W := by rw [hW]; exact (Below.refl _ _).alloc (Nat.le_refl _) _
  have hPS : W.heap[X.heap.size]? = some (.cells (ps.map Value.string).toArray 9 (0, 0)) := by rw [hW]; exact blk_new _
  rw [hszX] at hPS
  replace f0 := blk_later hbW f0
  replace f1 := blk_later hbW f1
  replace f2 := blk_later hbW f2
  replace f3 := blk_later hbW f3
  replace f4 := blk_later hbW f4
  replace f5 := blk_later hbW f5
  replace f6 := blk_later hbW f6
  have hB : Below w.heap.size w W := hbX.trans (hbW.mono hbX.size)
  rw [hszX]
  clear hW hbX hszX hbW HS
  clear X
  have hlen : ps.length ≤ 65537 := by
    have h1 := congrArg List.length hps
    have h2 := cuts_count 10 t.data.toList
    rw [List.length_map] at h1
    have h3 := Lib.size_eq t
    omega
  have hall : ∀ q ∈ ps, q.size ≤ 65536 := fun q hq => by
    have := piece_le hps hq
    omega
  have HL : Hid (loadL t.data.toList = match readLines 0 (ps.map (·.data.toList)) [] with
    | .error x => .error x
    | .ok acc =>
      match acc.find? (fun x => leadsL (acc.map (·.1)) x.1.1) with
      | some x => .error (42, x.2)
      | none => match acc.find? (fun x => tooLong (acc.map (·.1)) x.1.1) with
        | some x => .error (43, x.2)
        | none => .ok (acc.map (·.1))) := by
    unfold Hid loadL
    rw [if_neg (by rw [← Lib.size_eq]; omega), hps]
    rfl
  have HALL := Lib.hid hall
  have HB0 := Lib.hid hB
  have HF := Lib.hid (And.intro f0 (And.intro f1 (And.intro f2 (And.intro f3 (And.intro f4 (And.intro f5 (And.intro f6 hPS)))))))
  clear hps hall hB f0 f1 f2 f3 f4 f5 f6 hPS h
  go_wp2_with fail
  go_loopw [7, 29] (fun v7 v29 wr => ∃ (k : Nat) (acc : List (MarkD × Int)) (es : List (Int × Value)), v29 = .int .i64 (k : Nat) ∧ k ≤ ps.length ∧ Hid (
      readLines 0 (ps.map (·.data.toList)) [] = readLines (k : Nat) ((ps.drop k).map (·.data.toList)) acc ∧ acc.length ≤ 4096 ∧
      (∀ x ∈ acc, lookI es x.1.1 = some (.int .i64 x.2)) ∧ Inv w wr ps (k : Nat) (acc.map (·.1)) es v7 (acc.map fun x => x.1.1)))
    (fun _ v29 _ => ps.length - (intOf v29).toNat)
  case atStart =>
    obtain ⟨f0, f1, f2, f3, f4, f5, f6, f7⟩ := HF.out
    exact ⟨0, [], [], rfl, by omega, rfl, by simp, by simp, HB0.out, f0, f1, f2, f3, f5, f7, ⟨[], ⟨#[], f4, rfl, by simp, by simp⟩, rfl, by simp⟩, ⟨#[], f6, rfl, by simp, by simp⟩, by simp, .inl ⟨rfl, rfl⟩⟩
  case round =>
    obtain ⟨k, acc, es, rfl, hk, hh⟩ := hrel
    obtain ⟨hrd, hal, hln, hinv⟩ := hh.out
    clear hh
    by_cases hkn : k < ps.length
    · have hq : wr.cell? ⟨w.heap.size + 7, k, none⟩ = some (.string (ps[k]'hkn)) := by
        rw [blk_cell hinv.f7 k]
        simp [hkn]
      have hdrop : ps.drop k = ps[k]'hkn :: ps.drop (k + 1) := List.drop_eq_getElem_cons hkn
      rw [hdrop, List.map_cons, readLines] at hrd
      have hqs := HALL.out _ (List.getElem_mem hkn)
      generalize ps[k]'hkn = s at hq hrd hqs
      clear hdrop
      have hcA : wr.cell? ⟨w.heap.size + 3, 0, none⟩ = some (.int .i64 (k : Nat)) := blk_cell hinv.f3 0
      have hfA : wr.frozen? ⟨w.heap.size + 3, 0, none⟩ = false := blk_frozen hinv.f3 0
      have HKN := Lib.hid hkn
      have hkb : k ≤ 65537 := by omega
      have hI1 := hinv.at ((k : Int) + 1)
      clear hinv
      by_cases hmu : mute s.data.toList = true
      · rw [if_pos hmu] at hrd
        have HX := Lib.hid (And.intro hrd (And.intro hal (And.intro hln hI1)))
        clear hrd hal hln hI1 hqs
        unfold mute at hmu
        cases hs : s.data.toList with
        | nil =>
          have hemp : s.toList.isEmpty = true := by rw [bytes_list, hs]; rfl
          clear hmu hs
          go_wp2
          go_roundw
          case measure => have := HKN.out; simp [intOf]; omega
          case rel =>
            obtain ⟨h1, h2, h3, h4⟩ := HX.out
            exact ⟨k + 1, acc, es, by go_num, by have := HKN.out; omega, by simpa using h1, h2, h3, by simpa using h4⟩
        | cons b r =>
          rw [hs] at hmu
          have hemp : s.toList.isEmpty = false := by rw [bytes_list, hs]; rfl
          have hb : b = 35 := by simpa using hmu
          have hpos : 0 < s.size := by rw [Lib.size_eq, hs]; simp
          have hs0 : s[0]'hpos = 35 := by
            have e : s[0]'hpos = s.data.toList[0]'(by rw [hs]; simp) := rfl
            rw [e]
            simp only [hs, List.getElem_cons_zero]
            exact hb
          clear hmu hs hb
          go_wp2
          go_roundw
          case measure => have := HKN.out; simp [intOf]; omega
          case rel =>
            obtain ⟨h1, h2, h3, h4⟩ := HX.out
            exact ⟨k + 1, acc, es, by go_num, by have := HKN.out; omega, by simpa using h1, h2, h3, by simpa using h4⟩
      · rw [if_neg hmu] at hrd
        obtain ⟨b, r, hs⟩ : ∃ b r, s.data.toList = b :: r := by
          cases h : s.data.toList with
          | nil => rw [h] at hmu; exact absurd rfl hmu
          | cons b r => exact ⟨b, r, rfl⟩
        have hemp : s.toList.isEmpty = false := by rw [bytes_list, hs]; rfl
        have hpos : 0 < s.size := by rw [Lib.size_eq, hs]; simp
        have hs0 : s[0]'hpos = b := by
          have e : s[0]'hpos = s.data.toList[0]'(by rw [hs]; simp) := rfl
          rw [e]
          simp only [hs, List.getElem_cons_zero]
        have hb35 : b ≠ 35 := by
          intro e
          rw [hs, e] at hmu
          exact hmu rfl
        have hbn : ((b.toNat : Int) == 35) = false := by
          simp
          intro e
          exact hb35 (UInt8.toNat_inj.1 (by show b.toNat = 35; omega))
        have HM := Lib.hid (mark_any s (by omega) _ (HE.out.below hI1.below))
        have HX := Lib.hid (And.intro hrd (And.intro hal (And.intro hln hI1)))
        clear hrd hal hln hI1 hqs hmu hs hb35
        go_wp2_with fail
        refine (HM.out).mono ?_
        rintro e W2 ⟨hres, hb2⟩
        clear HM
        cases hmk : markL s.data.toList with
        | none =>
          rw [hmk] at hres
          obtain ⟨h1, h2, h3, h4⟩ := HX.out
          rw [hmk] at h1
          dsimp only at h1
          have hend : loadL t.data.toList = .error (40, (k : Int) + 1) := by rw [HL.out, h1]
          have HEND := Lib.hid hend
          have HI := Lib.hid (h4.later hb2)
          obtain rfl : e = .panicked [{ v := faultV 40, recovered := false }] := hres
          clear HX hmk h1 h2 h3 h4 hb2 hend
          go_wp2
          refine leave_caught _ w.heap.size _ _ _ _ 40 _ _ rfl rfl rfl ⟨HI.out.f0, HI.out.f1, HI.out.f2⟩ HI.out.f3 (fun w' hb => ⟨?_, HI.out.below.trans hb⟩)
          rw [HEND.out]
          exact rfl
        | some m =>
          rw [hmk] at hres
          obtain ⟨p, c, parts⟩ := m
          obtain ⟨pv, rfl, hpv⟩ := hres
          obtain ⟨h1, h2, h3, h4⟩ := HX.out
          rw [hmk] at h1
          dsimp only at h1
          obtain ⟨pa, pc, rfl⟩ : ∃ a c, pv = .slice a parts.length c := by
            rcases hpv.2 with ⟨h, hx⟩ | ⟨g, cap, cur, h, _⟩
            · have : parts = [] := by simpa using hx
              exact ⟨none, 0, by rw [h, this]; rfl⟩
            · exact ⟨_, _, h⟩
          have hI2 := h4.later hb2
          have hapart : Apart (.slice pa parts.length pc) u7 := by
            by_cases h : (Value.slice pa parts.length pc).ownBlock = none
            · exact .inl h
            · right
              intro e
              cases hg : (Value.slice pa parts.length pc).ownBlock with
              | none => exact h hg
              | some g =>
                have h5 := own_lt hpv g hg
                rw [hg] at e
                have h6 := own_lt h4.order g e.symm
                omega
          have hsz2 : w.heap.size + 7 < W2.heap.size := blk_lt hI2.f7
          have hpv8 : W2.ownsRow (w.heap.size + 8) 3 1 (.slice pa parts.length pc) parts.length (parts.map (Value.int .i64)) := own_base hpv (by have := blk_lt h4.f7; omega)
          have hbX : Below W2.heap.size W2 (W2.alloc (.cells #[.int .i64 p, .int .i64 c, .slice pa parts.length pc] 60)) := (Below.refl _ _).alloc (Nat.le_refl _) _
          have hIX := hI2.later hbX
          have hMX := blk_new (w := W2) (.cells #[.int .i64 p, .int .i64 c, .slice pa parts.length pc] 60)
          have hpvX := own_below hpv8 hbX
          have hX1 := Lib.hid (And.intro h1 (And.intro h2 (And.intro h3 hapart)))
          clear h1 h2 h3 h4 hI2 hapart hpv hpv8 hb2 HX hmk hq hbn hs0 hemp hbX
          go_wp2_with fail
          generalize W2.alloc (.cells #[.int .i64 p, .int .i64 c, .slice pa parts.length pc] 60) = X at hIX hMX hpvX ⊢
          generalize W2.heap.size = M at hMX hsz2 ⊢
          -- the look-up, ahead of the new variable's block and behind it
          have hc0 : X.cell? ⟨w.heap.size, 0, none⟩ = some (.pointer (some ⟨w.heap.size + 5, 0, none⟩)) := blk_cell hIX.f0 0
          have hc5 : X.cell? ⟨w.heap.size + 5, 0, none⟩ = some (.map (some (w.heap.size + 4))) := blk_cell hIX.f5 0
          have hcM : X.cell? ⟨M, 0, none⟩ = some (.int .i64 p) := blk_cell hMX 0
          have hl0 : w.heap.size < X.heap.size := blk_lt hIX.f0
          have hl5 : w.heap.size + 5 < X.heap.size := blk_lt hIX.f5
          have hlM : M < X.heap.size := blk_lt hMX
          have hz60 := zero_mark
          obtain ⟨pv0, hrun0, _⟩ := (hIX.marks.at).lookup p
          have hb1 : Below X.heap.size X X.drew := (Below.refl _ _).drew
          obtain ⟨pv1, hrun1, ho1⟩ := ((hIX.marks.at).below hb1).lookup p
          have hb2 : Below X.heap.size X (X.alloc (.cells #[.int .i64 0, .int .i64 0, .slice none 0 0] 60)).drew := ((Below.refl _ _).alloc (Nat.le_refl _) _).drew
          obtain ⟨pv2, hrun2, ho2⟩ := ((hIX.marks.at).below hb2).lookup p
          obtain ⟨a1, c1, rfl⟩ := slice_form ho1
          obtain ⟨a2, c2, rfl⟩ := slice_form ho2
          have hr1 := hrun1 true
          have hr2 := hrun2 true
          simp only [if_true] at hr1 hr2
          have HIX := Lib.hid hIX
          have HMX := Lib.hid hMX
          have HPVX := Lib.hid hpvX
          clear hrun0 hrun1 hrun2 ho1 ho2 hIX hMX hpvX hz60
          go_cut [11, 12] from 44 to 53 (fun _ s12 wc => s12 = .bool (markOf (acc.map (·.1)) p).isSome ∧ Below X.heap.size X wc)
          case first =>
            go_region
            all_goals (go_wp2_with fail; go_meet; exact ⟨rfl, ((Below.refl _ _).alloc (Nat.le_refl _) _).drew⟩)
          case rest =>
            obtain ⟨rfl, hbw⟩ := hcut
            obtain ⟨h1, h2, h3, hap⟩ := hX1.out
            have hI := HIX.out.later hbw
            have hMW := blk_later hbw HMX.out
            have hpvW := own_below HPVX.out hbw
            have hany : (markOf (acc.map (·.1)) p).isSome = acc.any (fun x => x.1.1 == p) := by
              have e : (acc.any fun x => x.1.1 == p) = (acc.map (·.1)).any (fun m => m.1 == p) := by rw [List.any_map]; rfl
              rw [e]
              unfold markOf
              rw [Bool.eq_iff_iff, List.find?_isSome, List.any_eq_true]
            rw [hany]
            clear hany HIX HMX HPVX hX1 hr1 hr2 hc0 hc5 hcM hl0 hl5 hlM hb1 hb2 hbw hmm hmf hcA hfA
            cases hth : acc.any (fun x => x.1.1 == p) with
            | true =>
              rw [hth, if_pos rfl] at h1
              have hend : loadL t.data.toList = .error (41, (k : Int) + 1) := by rw [HL.out, h1]
              have HEND := Lib.hid hend
              have HI := Lib.hid hI
              clear h1 h2 h3 hap hI hMW hpvW hth hend
              go_wp2
              refine leave_caught _ w.heap.size _ _ _ _ 41 _ _ rfl rfl rfl ⟨HI.out.f0, HI.out.f1, HI.out.f2⟩ HI.out.f3 (fun w' hb => ⟨?_, HI.out.below.trans hb⟩)
              rw [HEND.out]
              exact rfl
            | false =>
              rw [hth] at h1
              simp only [Bool.false_eq_true, if_false] at h1
              have hc0 : wc.cell? ⟨w.heap.size, 0, none⟩ = some (.pointer (some ⟨w.heap.size + 5, 0, none⟩)) := blk_cell hI.f0 0
              have hc5 : wc.cell? ⟨w.heap.size + 5, 0, none⟩ = some (.map (some (w.heap.size + 4))) := blk_cell hI.f5 0
              have hcM0 : wc.cell? ⟨M, 0, none⟩ = some (.int .i64 p) := blk_cell hMW 0
              have hcM1 : wc.cell? ⟨M, 1, none⟩ = some (.int .i64 c) := blk_cell hMW 1
              have hcM2 : wc.cell? ⟨M, 2, none⟩ = some (.slice pa parts.length pc) := blk_cell hMW 2
              obtain ⟨es0, hm0, hk0, _⟩ := hI.marks
              have hml := fun ty => run_len_map (P := Tryz.prog) Tryz.underlying69 hm0 ty
              have hes : es0.length = acc.length := by have := congrArg List.length hk0; simpa using this
              simp only [hes, goInt] at hml
              by_cases h4096 : acc.length = 4096
              · rw [if_pos h4096] at h1
                have hend : loadL t.data.toList = .error (2, (k : Int) + 1) := by rw [HL.out, h1]
                have HEND := Lib.hid hend
                have HI := Lib.hid hI
                rw [h4096] at hml
                clear h1 h2 h3 hap hI hMW hpvW hth hend hes h4096 hk0 hm0 hcM0 hcM1 hcM2
                go_wp2
                refine leave_caught _ w.heap.size _ _ _ _ 2 _ _ rfl rfl rfl ⟨HI.out.f0, HI.out.f1, HI.out.f2⟩ HI.out.f3 (fun w' hb => ⟨?_, HI.out.below.trans hb⟩)
                rw [HEND.out]
                exact rfl
              · rw [if_neg h4096] at h1
                have hne : ((acc.length : Int) == 4096) = false := by simp; omega
                have hlt : acc.length < 4096 := by omega
                clear h4096
                have hbd : Below wc.heap.size wc wc.drew := (Below.refl _ _).drew
                obtain ⟨W5, hmu5, hg5, hI5⟩ := (hI.later hbd).mark (p, c, parts) (.slice pa parts.length pc) (own_below hpvW hbd) hap (by rw [List.any_map]; exact hth)
                dsimp only at hmu5
                obtain ⟨W6, hmu6, hg6, hI6⟩ := hI5.line p ((k : Int) + 1)
                have hM5 : W5.heap[M]? = some (.cells #[.int .i64 p, .int .i64 c, .slice pa parts.length pc] 60 (0, 0)) := blk_grown (blk_later hbd hMW) hg5 (by omega)
                have hM6 : W6.heap[M]? = some (.cells #[.int .i64 p, .int .i64 c, .slice pa parts.length pc] 60 (0, 0)) := blk_grown hM5 hg6 (by omega)
                have h5M : W5.cell? ⟨M, 0, none⟩ = some (.int .i64 p) := blk_cell hM5 0
                have h53 : W5.cell? ⟨w.heap.size + 3, 0, none⟩ = some (.int .i64 ((k : Int) + 1)) := blk_cell hI5.f3 0
                have h6M : W6.cell? ⟨M, 0, none⟩ = some (.int .i64 p) := blk_cell hM6 0
                have hsz6 : w.heap.size + 8 ≤ W6.heap.size := by have := blk_lt hI6.f7; omega
                have hord := hI6.order
                have hln2 : ∀ x ∈ acc ++ [((p, c, parts), (k : Int) + 1)], lookI (putI es p (.int .i64 ((k : Int) + 1))) x.1.1 = some (.int .i64 x.2) := by
                  intro x hx
                  rw [lookI_put]
                  rcases List.mem_append.1 hx with hx | hx
                  · have hne2 : ¬ p = x.1.1 := by
                      intro e
                      have := List.any_eq_false.1 hth x hx
                      simp [e] at this
                    rw [if_neg hne2]
                    exact h3 x hx
                  · simp at hx
                    subst hx
                    simp
                rw [List.length_map] at hord
                obtain ⟨i0, hi, hz0, hz1, hz2⟩ := info_parts info_int
                have HORD := Lib.hid hord
                have HI6 := Lib.hid hI6
                have HR := Lib.hid (And.intro h1 (And.intro hlt hln2))
                clear hg5 hg6 h1 h2 h3 hap hpvW hth hk0 hm0 hI5 hI6 hM5 hM6 hI hMW hord hln2 hes hbd
                go_wp2
                go_cut [] from 65 to 71 (fun wc => wc = W5)
                case first =>
                  go_region
                  all_goals (go_wp2_with fail; go_meet; rfl)
                case rest =>
                  subst hcut
                  go_wp2_with (at_builtin; refine wpList_append_own_at _ rfl _ _ 43 rfl (w.heap.size + 8) 3 i0 (.int .i64 0) 1 8 Tryz.underlying43 hi hz0 hz1 hz2 rfl (by decide) u7 acc.length _ rfl (HORD.out.alloc _) ⟨W6.heap.size, 0, none⟩ 1 1 [.int .i64 p] rfl rfl (World.news_of_block (blk_new _)) (by intro u hu; simp at hu; subst hu; rfl) (by unfold maxLen; omega) (by omega) (by simp; omega) ?_; intro v8 W7 hown7 hg7 _ hat7)
                  go_roundw
                  case measure => have := HKN.out; simp [intOf]; omega
                  case rel =>
                    obtain ⟨h1, hlt, hln2⟩ := HR.out
                    have hap := HI6.out.app p (by simpa using hown7) hg7 hat7
                    exact ⟨k + 1, acc ++ [((p, c, parts), (k : Int) + 1)], putI es p (.int .i64 ((k : Int) + 1)), by go_num, by have := HKN.out; omega, h1, by simp; omega, hln2, by simpa using hap⟩
    · obtain rfl : k = ps.length := by omega
      rw [List.drop_length, List.map_nil, readLines] at hrd
      have hL := HL.out
      rw [hrd] at hL
      dsimp only at hL
      have hbd := readLines_bound 65536 _ _ _ _ hrd (fun l hl => by
        obtain ⟨q, hq, rfl⟩ := List.mem_map.1 hl
        have := HALL.out q hq
        rw [Lib.size_eq] at this
        exact this) (by simp) (by simp)
      have hbig : ∀ p : Int, (partsOf (acc.map (·.1)) p).length + unmet [] (acc.map (·.1)) ≤ 1099511627776 := by
        intro p
        have hall : ∀ m ∈ acc.map (·.1), m.2.2.length ≤ 65537 := by
          intro m hm
          obtain ⟨x, hx, rfl⟩ := List.mem_map.1 hm
          exact hbd.2 x hx
        have h1 := unmet_le 65537 [] _ hall
        have h2 := partsOf_len 65537 _ p hall
        rw [List.length_map] at h1
        have h3 : acc.length * 65537 ≤ 4096 * 65537 := Nat.mul_le_mul_right _ hal
        omega
      have hord := hinv.order
      rw [List.length_map] at hord
      obtain ⟨oa, oc, rfl⟩ := slice_form hord
      generalize hm : acc.map (·.1) = ms at hL hbig hinv
      have HM := Lib.hid hm
      have HLE := Lib.hid hal
      have HBIG := Lib.hid hbig
      have HLN := Lib.hid hln
      have HL2 := Lib.hid hL
      have HI := Lib.hid hinv
      clear hrd hal hL hbd hbig hord hm hinv hln HL HALL HF HB0 hk hkn HE hmf
      go_wp2
      go_loopw [84] (fun v84 wr2 => ∃ j : Nat, v84 = .int .i64 (j : Nat) ∧ j ≤ acc.length ∧ Hid (
          acc.find? (fun x => leadsL ms x.1.1) = (acc.drop j).find? (fun x => leadsL ms x.1.1) ∧
          Inv w wr2 ps (ps.length : Nat) ms es (.slice oa acc.length oc) (acc.map fun x => x.1.1)))
        (fun v84 _ => acc.length - (intOf v84).toNat)
      case atStart => exact ⟨0, rfl, Nat.zero_le _, rfl, HI.out⟩
      case round =>
        obtain ⟨j, rfl, hj, hh⟩ := hrel
        obtain ⟨hfi, hI⟩ := hh.out
        clear hh
        by_cases hjn : j < acc.length
        · have hown := hI.order
          rw [List.length_map] at hown
          obtain ⟨g, cap, hpv, _, _⟩ := hown.form (by omega)
          cases hpv
          have hc : wr.cell? ⟨g, j, none⟩ = some (.int .i64 ((acc[j]'hjn).1.1)) := by
            have h1 := hown.cells (g := g) rfl j (.int .i64 ((acc[j]'hjn).1.1)) (by simp [List.getElem?_eq_getElem hjn])
            have h2 : (⟨g, 0, none⟩ : Addr).add j = ⟨g, j, none⟩ := by unfold Addr.add; split <;> simp_all
            rwa [h2] at h1
          have hdrop : acc.drop j = acc[j]'hjn :: acc.drop (j + 1) := List.drop_eq_getElem_cons hjn
          rw [hdrop, List.find?_cons] at hfi
          have hlnx := HLN.out _ (List.getElem_mem hjn)
          generalize acc[j]'hjn = x at hc hfi hlnx
          have hc0 : wr.cell? ⟨w.heap.size, 0, none⟩ = some (.pointer (some ⟨w.heap.size + 5, 0, none⟩)) := blk_cell hI.f0 0
          have HC := Lib.hid (leads_any (.pointer (some ⟨w.heap.size + 5, 0, none⟩)) ms (w.heap.size + 8) x.1.1 wr ⟨w.heap.size + 5, w.heap.size + 4, rfl, hI.f5, hI.marks.at⟩ (HBIG.out _))
          have HIJ := Lib.hid hI
          have HFI := Lib.hid hfi
          have HJN := Lib.hid hjn
          have hjb : j ≤ 4096 := by have := HLE.out; omega
          clear hI hfi hdrop hown hj
          go_wp2_with fail
          refine (HC.out).mono ?_
          rintro e w2 ⟨rfl, hb2⟩
          have hI2 := HIJ.out.later hb2
          have hfi := HFI.out
          clear HIJ HFI hb2 HC hc hc0
          cases hle : leadsL ms x.1.1 with
          | true =>
            rw [hle] at hfi
            have hend : loadL t.data.toList = .error (42, x.2) := by rw [HL2.out, hfi]
            have HEND := Lib.hid hend
            have hlk := run_lookup_int (P := Tryz.prog) (w := w2) Tryz.underlying72 Tryz.underlying3 hI2.lines x.1.1 false _ (zero_int w2)
            rw [hlnx] at hlk
            simp at hlk
            have hcA : w2.cell? ⟨w.heap.size + 3, 0, none⟩ = some (.int .i64 (ps.length : Nat)) := blk_cell hI2.f3 0
            have hfA : w2.frozen? ⟨w.heap.size + 3, 0, none⟩ = false := blk_frozen hI2.f3 0
            have HIA := Lib.hid (hI2.at x.2)
            clear hend hfi hlnx hI2 hle
            go_wp2
            refine leave_caught _ w.heap.size _ _ _ _ 42 _ _ rfl rfl rfl ⟨HIA.out.f0, HIA.out.f1, HIA.out.f2⟩ HIA.out.f3 (fun w' hb => ⟨?_, HIA.out.below.trans hb⟩)
            rw [HEND.out]
            exact rfl
          | false =>
            rw [hle] at hfi
            have HH := Lib.hid (And.intro hfi hI2)
            clear hfi hI2 hlnx hle
            go_wp2
            go_roundw
            case measure => have := HJN.out; simp [intOf]; omega
            case rel =>
              obtain ⟨h1, h2⟩ := HH.out
              exact ⟨j + 1, by go_num, by have := HJN.out; omega, h1, h2⟩
        · obtain rfl : j = acc.length := by omega
          rw [List.drop_length] at hfi
          have hno : acc.find? (fun x => leadsL ms x.1.1) = none := hfi
          have hL := HL2.out
          rw [hno] at hL
          dsimp only at hL
          have hsz : ∀ p, ∃ n, sizeO ms (ms.length + 1) p = some n := sizeO_all ms (fun m hm => by
            rw [← HM.out] at hm
            obtain ⟨x, hx, rfl⟩ := List.mem_map.1 hm
            exact Bool.eq_false_iff.2 (List.find?_eq_none.1 hno x hx))
          have hs8 : w.heap.size + 7 < wr.heap.size := blk_lt hI.f7
          have hbN : Below wr.heap.size wr (wr.alloc (.map #[] 0)) := (Below.refl _ _).alloc (Nat.le_refl _) _
          have HI3 := Lib.hid (hI.later hbN)
          have HM3 := Lib.hid (MapI.new wr)
          have HSZ := Lib.hid hsz
          have HL3 := Lib.hid hL
          clear hI hno hL HL2 hsz hbN hfi HI hj hjn
          go_wp2_with fail
          generalize wr.alloc (.map #[] 0) = W3 at HI3 HM3 ⊢
          generalize wr.heap.size = kb at hs8 HM3 ⊢
          have hs8' := hs8
          have HKB := Lib.hid hs8
          clear hs8 hs8'
          go_wp2
          go_loopw [100] (fun v100 wr => ∃ (j : Nat) (es3 : List (Int × Value)), v100 = .int .i64 (j : Nat) ∧ j ≤ acc.length ∧ Hid (
              acc.find? (fun x => tooLong ms x.1.1) = (acc.drop j).find? (fun x => tooLong ms x.1.1) ∧
              Inv w wr ps (ps.length : Nat) ms es (.slice oa acc.length oc) (acc.map fun x => x.1.1) ∧ MapI wr kb es3 ∧ KnownOk ms es3))
            (fun v100 _ => acc.length - (intOf v100).toNat)
          case atStart => exact ⟨0, [], rfl, Nat.zero_le _, rfl, HI3.out, HM3.out, fun k v h => by cases h⟩
          case round =>
            obtain ⟨j, es3, rfl, hj, hh⟩ := hrel
            obtain ⟨hfi, hI, hmap, hok⟩ := hh.out
            clear hh
            by_cases hjn : j < acc.length
            · have hown := hI.order
              rw [List.length_map] at hown
              obtain ⟨g, cap, hpv, _, _⟩ := hown.form (by omega)
              cases hpv
              have hc : wr.cell? ⟨g, j, none⟩ = some (.int .i64 ((acc[j]'hjn).1.1)) := by
                have h1 := hown.cells (g := g) rfl j (.int .i64 ((acc[j]'hjn).1.1)) (by simp [List.getElem?_eq_getElem hjn])
                have h2 : (⟨g, 0, none⟩ : Addr).add j = ⟨g, j, none⟩ := by unfold Addr.add; split <;> simp_all
                rwa [h2] at h1
              have hdrop : acc.drop j = acc[j]'hjn :: acc.drop (j + 1) := List.drop_eq_getElem_cons hjn
              rw [hdrop, List.find?_cons] at hfi
              have hlnx := HLN.out _ (List.getElem_mem hjn)
              generalize acc[j]'hjn = x at hc hfi hlnx
              have hc0 : wr.cell? ⟨w.heap.size, 0, none⟩ = some (.pointer (some ⟨w.heap.size + 5, 0, none⟩)) := blk_cell hI.f0 0
              obtain ⟨n, hn⟩ := HSZ.out x.1.1
              have hn19 := (sizeO_le ms hn).2
              have htl : tooLong ms x.1.1 = decide (18 < n) := by unfold tooLong; rw [hn]
              rw [htl] at hfi
              have HC := Lib.hid (size_any ms (w.heap.size + 8) (w.heap.size + 5) (w.heap.size + 4) kb (by have := HKB.out; omega) (ms.length + 1) x.1.1 n es3 wr hn hI.f5 hI.marks.at hmap hok)
              obtain ⟨ents0, hk0, _⟩ := hmap
              have HIJ := Lib.hid (And.intro hI hk0)
              have HFI := Lib.hid hfi
              have HJN := Lib.hid hjn
              have hjb : j ≤ 4096 := by have := HLE.out; omega
              clear hI hfi hdrop hown hj hn htl hk0 hok
              go_wp2_with fail
              refine (HC.out).mono ?_
              rintro e w2 ⟨rfl, hg2, es4, hmap4, hok4⟩
              have hI2 := HIJ.out.1.grown HIJ.out.2 HKB.out hg2
              have hfi := HFI.out
              clear HIJ HFI hg2 HC hc hc0
              by_cases hle : 18 < n
              · rw [decide_eq_true hle] at hfi
                have hgt : decide ((18 : Int) < (n : Int)) = true := decide_eq_true (by omega)
                have hend : loadL t.data.toList = .error (43, x.2) := by rw [HL3.out, hfi]
                have HEND := Lib.hid hend
                have hlk := run_lookup_int (P := Tryz.prog) (w := w2) Tryz.underlying72 Tryz.underlying3 hI2.lines x.1.1 false _ (zero_int w2)
                rw [hlnx] at hlk
                simp at hlk
                have hcA : w2.cell? ⟨w.heap.size + 3, 0, none⟩ = some (.int .i64 (ps.length : Nat)) := blk_cell hI2.f3 0
                have hfA : w2.frozen? ⟨w.heap.size + 3, 0, none⟩ = false := blk_frozen hI2.f3 0
                have HIA := Lib.hid (hI2.at x.2)
                clear hend hfi hlnx hI2 hle hmap4 hok4
                go_wp2
                refine leave_caught _ w.heap.size _ _ _ _ 43 _ _ rfl rfl rfl ⟨HIA.out.f0, HIA.out.f1, HIA.out.f2⟩ HIA.out.f3 (fun w' hb => ⟨?_, HIA.out.below.trans hb⟩)
                rw [HEND.out]
                exact rfl
              · rw [decide_eq_false hle] at hfi
                have hgt : decide ((18 : Int) < (n : Int)) = false := decide_eq_false (by omega)
                have HH := Lib.hid (And.intro hfi (And.intro hI2 (And.intro hmap4 hok4)))
                clear hfi hI2 hlnx hle hmap4 hok4
                go_wp2
                go_roundw
                case measure => have := HJN.out; simp [intOf]; omega
                case rel =>
                  obtain ⟨h1, h2, h3, h4⟩ := HH.out
                  exact ⟨j + 1, es4, by go_num, by have := HJN.out; omega, h1, h2, h3, h4⟩
            · obtain rfl : j = acc.length := by omega
              rw [List.drop_length] at hfi
              have hno : acc.find? (fun x => tooLong ms x.1.1) = none := hfi
              have hL := HL3.out
              rw [hno] at hL
              dsimp only at hL
              have hc0 : wr.cell? ⟨w.heap.size, 0, none⟩ = some (.pointer (some ⟨w.heap.size + 5, 0, none⟩)) := blk_cell hI.f0 0
              have hz0 : wr.frozen? ⟨w.heap.size, 0, none⟩ = false := blk_frozen hI.f0 0
              have hz1 : wr.frozen? ⟨w.heap.size + 1, 0, none⟩ = false := blk_frozen hI.f1 0
              have hz2 : wr.frozen? ⟨w.heap.size + 2, 0, none⟩ = false := blk_frozen hI.f2 0
              have hc1 : wr.cell? ⟨w.heap.size + 1, 0, none⟩ = some (.int .i64 0) := blk_cell hI.f1 0
              have hc2 : wr.cell? ⟨w.heap.size + 2, 0, none⟩ = some (.int .i64 0) := blk_cell hI.f2 0
              have HIE := Lib.hid hI
              have HLE2 := Lib.hid hL
              clear hI hno hL hfi hmap hok hj hjn
              go_wp2
              rw [set_same HIE.out.f0, set_same HIE.out.f1, set_same HIE.out.f2]
              refine leave_idle _ w.heap.size _ _ _ _ _ rfl rfl rfl ⟨HIE.out.f0, HIE.out.f1, HIE.out.f2⟩ ⟨?_, HIE.out.below⟩
              rw [HLE2.out]
              exact ⟨_, rfl, w.heap.size + 5, w.heap.size + 4, rfl, HIE.out.f5, HIE.out.marks.at.base (by omega)⟩

/-- Load, whatever the text. -/
theorem load_any (t : ByteArray) (hs : t.size ≤ 140737488355328) (w : World) (he : Env w) :
    Calls Tryz.prog 10 #[.string t] w fun e w' => LoadEnd w (loadL t.data.toList) e w' ∧ Below w.heap.size w w' := by
  by_cases h : 65536 < t.size
  · refine (load_long t h hs w).mono ?_
    rintro e w' ⟨rfl, hb⟩
    refine ⟨?_, hb⟩
    have e1 : loadL t.data.toList = .error (2, 0) := by unfold loadL; rw [if_pos (by rw [← Lib.size_eq]; exact h)]
    rw [e1]
    rfl
  · exact load_short t (by omega) w he
end Go.Proofs.YtgmafjaphnponaaGreatDoor
