/- ucd.Print: for all marks the text, or why there is none. -/
import Derived.Test.YtgmafjaphnponaaGreatDoorPrintSpec
import Derived.Test.YtgmafjaphnponaaGreatDoorIn
import Derived.Test.YtgmafjaphnponaaGreatDoorDig
import Derived.Lib.ItoaLen
import Derived.BigRegion
namespace Go.Proofs.YtgmafjaphnponaaGreatDoor
open Go.RowKit Dov

set_option maxRecDepth 100000 in
set_option maxHeartbeats 2000000 in
theorem fits_any (n : Int) (w : World) : Calls Tryz.prog 27 #[.int .i64 n] w fun e w' => e = .returned (.bool (fits n)) ∧ w' = w := by
  have HP := Lib.hid (isPoint_any n w)
  have HS := Lib.hid (syllable_any n w)
  go_enter Tryz.func27, Tryz.ntmps27
  go_wp2_with fail
  refine (HP.out).mono ?_
  rintro e w1 ⟨rfl, rfl⟩
  cases hp : isPt n with
  | false =>
    have hf : fits n = false := by unfold fits; rw [hp]; rfl
    have HFF := Lib.hid hf
    clear hf hp HP HS
    go_wp2
    go_ret
    exact ⟨by rw [HFF.out]; rfl, rfl⟩
  | true =>
    have hf : fits n = !isSyl n := by unfold fits; rw [hp]; rfl
    have HFF := Lib.hid hf
    clear hf hp HP
    go_wp2_with fail
    refine (HS.out).mono ?_
    rintro e w1 ⟨rfl, rfl⟩
    clear HS
    go_wp2
    go_ret
    exact ⟨by rw [HFF.out]; rfl, rfl⟩

theorem info_str : (Tryz.prog.info? 9).map (fun i => (i.zero, i.size, i.bytes)) = some (some (.string ⟨#[]⟩), 1, 16) := by kernel_rfl

theorem join_any {w : World} {base : Nat} {a : Option Addr} {c : Nat} {xs : List ByteArray} (sep : ByteArray) (h : w.ownsRow base 9 1 (.slice a xs.length c) xs.length (xs.map Value.string)) (hN : xs.length ≤ 140737488355328)
    (hlen : (Lib.join (xs.map (·.data.toList)) sep.data.toList).length ≤ 140737488355328) :
    Calls Tryz.prog 32 #[.slice a xs.length c, .string sep] w fun e w' => e = .returned (.string ⟨(Lib.join (xs.map (·.data.toList)) sep.data.toList).toArray⟩) ∧ Below w.heap.size w w' := by
  rcases h.2 with ⟨h1, h2⟩ | ⟨g, cap, cur, h1, _, hh, hc, _⟩
  · have : xs = [] := List.eq_nil_of_length_eq_zero h2
    subst this
    refine (Tryz.strings_Join_none a c sep w).mono ?_
    rintro e w' ⟨rfl, rfl⟩
    exact ⟨rfl, Below.refl _ _⟩
  · cases h1
    refine Tryz.strings_Join g 0 _ xs sep w (fun j x hx => ?_) (blk_lt hh) hN hc hlen
    have := h.cells (g := g) rfl j (.string x) (by simp [hx])
    have ha : (⟨g, 0, none⟩ : Addr).add j = ⟨g, 0 + j, none⟩ := by unfold Addr.add; split <;> simp_all
    rwa [ha] at this

/-- A line, as it is put together. -/
def lineB (m : MarkD) (ts : List ByteArray) : ByteArray := ⟨(digitsL m.1).toArray⟩ ++ ⟨#[59]⟩ ++ ⟨(Lib.itoa m.2.1).toArray⟩ ++ ⟨#[59]⟩ ++ ⟨(Lib.join (ts.map (·.data.toList)) [32]).toArray⟩
theorem lineB_list (m : MarkD) (ts : List ByteArray) : (lineB m ts).data.toList = lineL m (ts.map (·.data.toList)) := by
  unfold lineB lineL
  simp [ByteArray.append_eq, ByteArray.append]

/-- What Print tells. -/
def PrintEnd (o : Except Int (List UInt8)) (e : Ending) : Prop := match o with
  | .error c => e = .returned (.tuple #[.string ⟨#[]⟩, .int .i64 c])
  | .ok s => e = .returned (.tuple #[.string ⟨s.toArray⟩, .int .i64 0])

set_option maxRecDepth 100000 in
set_option maxHeartbeats 4000000 in
theorem print_long (a : Option Addr) (c : Nat) (ms : List MarkD) (w : World) (hn : ms.length ≤ 140737488355328) (h : 4096 < ms.length) :
    Calls Tryz.prog 8 #[.slice a ms.length c] w fun e w' => PrintEnd (printL ms) e ∧ Below w.heap.size w w' := by
  have hp : printL ms = .error 2 := by unfold printL; rw [if_pos h]
  rw [hp]
  have hg : decide ((4096 : Int) < (ms.length : Int)) = true := decide_eq_true (by omega)
  clear hp h
  go_enter Tryz.func8, Tryz.ntmps8
  go_wp2
  go_ret2
  exact ⟨rfl, Below.refl _ _⟩

set_option maxRecDepth 100000 in
set_option maxHeartbeats 4000000 in
theorem print_short (a : Option Addr) (c : Nat) (ms : List MarkD) (w : World) (he : Env w) (hn : ms.length ≤ 4096) (hin : MarksIn w a ms) (hl : ∀ m ∈ ms, m.2.2.length ≤ 140737488355328) :
    Calls Tryz.prog 8 #[.slice a ms.length c] w fun e w' => PrintEnd (printL ms) e ∧ Below w.heap.size w w' := by
  have HP : Hid (printL ms = match prL none ms 0 [] with
    | none => .error 1
    | some ls => if 65536 < (Lib.join ls [10]).length then .error 2 else .ok (Lib.join ls [10])) := by unfold Hid printL; rw [if_neg (by omega)]; rfl
  have HE := Lib.hid he
  have HIN := Lib.hid hin
  have HL := Lib.hid hl
  have HOWN0 : Hid (w.ownsRow w.heap.size 9 1 (.slice none 0 0) 0 []) := ⟨by simp, .inl ⟨rfl, rfl⟩⟩
  clear he hin hl
  have hg : decide ((4096 : Int) < (ms.length : Int)) = false := decide_eq_false (by omega)
  go_enter Tryz.func8, Tryz.ntmps8
  go_wp2
  go_loopw [5, 6, 18] (fun v5 v6 v18 wr => ∃ (k n : Nat) (prev : Option Int) (ls : List ByteArray), v6 = .int .i64 (n : Nat) ∧ v18 = .int .i64 (k : Nat) ∧ k ≤ ms.length ∧ n ≤ 65541 ∧ Hid (
      prL none ms 0 [] = prL prev (ms.drop k) n (ls.map (·.data.toList)) ∧ (∀ j m, k = j + 1 → ms[j]? = some m → prev = some m.1) ∧ (k = 0 → prev = none) ∧
      ls.length = k ∧ (∀ l ∈ ls, l.size ≤ 1000000) ∧ wr.ownsRow w.heap.size 9 1 v5 ls.length (ls.map Value.string) ∧ Below w.heap.size w wr))
    (fun _ _ v18 _ => ms.length - (intOf v18).toNat)
  case atStart => exact ⟨0, 0, none, [], rfl, rfl, Nat.zero_le _, by omega, rfl, fun j m h => by omega, fun _ => rfl, rfl, by simp, HOWN0.out, Below.refl _ _⟩
  case round =>
    obtain ⟨k, n, prev, ls, rfl, rfl, hk, hn6, hh⟩ := hrel
    by_cases hkn : k < ms.length
    · obtain ⟨hpr, hprev, hp0, hlk, hls, hown, hB⟩ := hh.out
      clear hh
      obtain ⟨g, pa, pc, rfl, h0, h1, h2, hpc, hx⟩ := HIN.out.below hB k _ (List.getElem?_eq_getElem hkn)
      have hll := HL.out _ (List.getElem_mem hkn)
      have hdrop : ms.drop k = ms[k]'hkn :: ms.drop (k + 1) := List.drop_eq_getElem_cons hkn
      have hget := List.getElem?_eq_getElem hkn
      rw [hdrop, prL] at hpr
      generalize ms[k]'hkn = m at h0 h1 h2 hpc hx hll hdrop hpr hget
      have HKN := Lib.hid hkn
      have hkb : k < 4096 := by omega
      -- the box
      have hbX : Below wr.heap.size wr (wr.alloc (.cells #[.int .i64 m.1, .int .i64 m.2.1, .slice pa m.2.2.length pc] 60)) := (Below.refl _ _).alloc (Nat.le_refl _) _
      have hMX := blk_new (w := wr) (.cells #[.int .i64 m.1, .int .i64 m.2.1, .slice pa m.2.2.length pc] 60)
      have hBX := hB.trans (hbX.mono hB.size)
      have hownX := own_below hown hbX
      have hxX := hx.below hbX
      have hws : w.heap.size ≤ wr.heap.size := hB.size
      have HH := Lib.hid (And.intro hpr (And.intro hprev (And.intro hp0 (And.intro hlk (And.intro hls (And.intro hownX (And.intro hBX (And.intro hxX hget))))))))
      clear hpr hprev hp0 hlk hls hown hownX hB hBX hx hxX hdrop hbX hpc hget
      go_upto_region 9 with fail
      generalize hXe : wr.alloc (.cells #[.int .i64 m.1, .int .i64 m.2.1, .slice pa m.2.2.length pc] 60) = X at hMX HH ⊢
      have hM8 : w.heap.size ≤ wr.heap.size := hws
      generalize wr.heap.size = M at hMX hM8 hws hXe ⊢
      have hcM0 : X.cell? ⟨M, 0, none⟩ = some (.int .i64 m.1) := blk_cell hMX 0
      have hcM1 : X.cell? ⟨M, 1, none⟩ = some (.int .i64 m.2.1) := blk_cell hMX 1
      have hcM2 : X.cell? ⟨M, 2, none⟩ = some (.slice pa m.2.2.length pc) := blk_cell hMX 2
      have hlM : M < X.heap.size := blk_lt hMX
      have HMX := Lib.hid hMX
      have hpr := HH.out.1
      clear hMX hXe h0 h1 h2 hws
      cases hf : fits m.1 with
      | false =>
        have HF : Hid (∀ W, Calls Tryz.prog 27 #[.int .i64 m.1] W fun e w' => e = .returned (.bool false) ∧ w' = W) := fun W => by have := fits_any m.1 W; rwa [hf] at this
        rw [if_pos hf] at hpr
        clear hf
        have HPE : Hid (printL ms = .error 1) := by rw [Hid, HP.out, hpr]
        clear hpr
        go_quiet (exact Calls.quiet_of_same (HF.out _))
        go_wp2
        go_ret2
        exact ⟨by rw [HPE.out]; rfl, pw_below_drewN HH.out.2.2.2.2.2.2.1 _⟩
      | true =>
        have hff : fits m.1 = true := hf
        have HF : Hid (∀ W, Calls Tryz.prog 27 #[.int .i64 m.1] W fun e w' => e = .returned (.bool true) ∧ w' = W) := fun W => by have := fits_any m.1 W; rwa [hf] at this
        rw [if_neg (by rw [hf]; decide)] at hpr
        clear hf
        by_cases hc0 : m.2.1 < 0
        · rw [if_pos hc0] at hpr
          have HPE : Hid (printL ms = .error 1) := by rw [Hid, HP.out, hpr]
          clear hpr
          go_quiet (exact Calls.quiet_of_same (HF.out _))
          go_wp2
          go_ret2
          exact ⟨by rw [HPE.out]; rfl, pw_below_drewN HH.out.2.2.2.2.2.2.1 _⟩
        · rw [if_neg hc0] at hpr
          have hcb0 : decide (m.2.1 < 0) = false := decide_eq_false hc0
          by_cases hc1 : 254 < m.2.1
          · rw [if_pos hc1] at hpr
            clear hc0
            have HPE : Hid (printL ms = .error 1) := by rw [Hid, HP.out, hpr]
            clear hpr
            go_quiet (exact Calls.quiet_of_same (HF.out _))
            go_wp2
            go_ret2
            exact ⟨by rw [HPE.out]; rfl, pw_below_drewN HH.out.2.2.2.2.2.2.1 _⟩
          · rw [if_neg hc1] at hpr
            have hcb1 : decide (254 < m.2.1) = false := decide_eq_false hc1
            have HPR := Lib.hid hpr
            have hcl0 : 0 ≤ m.2.1 := by omega
            have hcl1 : m.2.1 ≤ 254 := by omega
            clear hpr hc0
            go_cut [52] from 23 to 52 (fun s52 wc => s52 = .bool (!late prev m.1) ∧ Below X.heap.size X wc)
            case first =>
              rcases Nat.eq_zero_or_pos k with hk0 | hk0
              · have hp := HH.out.2.2.1 hk0
                have hz : decide (0 < k) = false := decide_eq_false (by omega)
                subst hp
                clear hk0
                go_quiet (exact Calls.quiet_of_same (HF.out _))
                go_wp2_with fail
                go_meet
                exact ⟨rfl, pw_below_drewN (Below.refl _ _) _⟩
              · have hjn : k - 1 < ms.length := by omega
                obtain ⟨g', pa', pc', hg', hq0, _⟩ := HIN.out.below HH.out.2.2.2.2.2.2.1 (k - 1) _ (List.getElem?_eq_getElem hjn)
                cases hg'
                have hp := HH.out.2.1 (k - 1) _ (by omega) (List.getElem?_eq_getElem hjn)
                generalize ms[k - 1]'hjn = m' at hq0 hp
                subst hp
                have hz : decide (0 < k) = true := decide_eq_true (by omega)
                have hk1 : 1 ≤ k := hk0
                clear hk0
                cases hlt : decide (m'.1 < m.1) with
                | true =>
                  have hge : decide (m.1 ≤ m'.1) = false := decide_eq_false (by have := of_decide_eq_true hlt; omega)
                  have HLT := Lib.hid hlt
                  clear hlt
                  go_quiet (exact Calls.quiet_of_same (HF.out _))
                  go_wp2_with fail
                  go_meet
                  exact ⟨by simp only [late, HLT.out]; rfl, pw_below_drewN (Below.refl _ _) _⟩
                | false =>
                  have hge : decide (m.1 ≤ m'.1) = true := decide_eq_true (by have := of_decide_eq_false hlt; omega)
                  have HLT := Lib.hid hlt
                  clear hlt
                  go_quiet (exact Calls.quiet_of_same (HF.out _))
                  go_wp2_with fail
                  go_meet
                  exact ⟨by simp only [late, HLT.out]; rfl, pw_below_drewN (Below.refl _ _) _⟩
            case rest =>
              obtain ⟨rfl, hbw⟩ := hcut
              have hpr := HPR.out
              cases hla : late prev m.1 with
              | false =>
                rw [if_pos hla] at hpr
                have HPE : Hid (printL ms = .error 1) := by rw [Hid, HP.out, hpr]
                have HBW := Lib.hid hbw
                clear hpr hla hbw
                go_wp2
                go_ret2
                exact ⟨by rw [HPE.out]; rfl, HH.out.2.2.2.2.2.2.1.trans (HBW.out.mono HH.out.2.2.2.2.2.2.1.size)⟩
              | true =>
                rw [if_neg (by rw [hla]; decide)] at hpr
                have hMW := blk_later hbw HMX.out
                have hBW := HH.out.2.2.2.2.2.2.1.trans (hbw.mono HH.out.2.2.2.2.2.2.1.size)
                have hxW := HH.out.2.2.2.2.2.2.2.1.below hbw
                have hownW := own_below HH.out.2.2.2.2.2.1 hbw
                clear hcM0 hcM1 hcM2 hlM hbw
                have hcM2 : wc.cell? ⟨M, 2, none⟩ = some (.slice pa m.2.2.length pc) := blk_cell hMW 2
                have HW := Lib.hid (And.intro hMW (And.intro hBW (And.intro hxW hownW)))
                have HPR2 := Lib.hid hpr
                clear hMW hBW hxW hownW hpr hla HPR
                have HOWN1 : Hid (wc.ownsRow wc.heap.size 9 1 (.slice none 0 0) 0 []) := ⟨by simp, .inl ⟨rfl, rfl⟩⟩
                go_wp2_with fail
                go_loopw [6, 9, 56] (fun v6 v9 v56 wr => ∃ (j n2 : Nat) (ts : List ByteArray), v6 = .int .i64 (n2 : Nat) ∧ v56 = .int .i64 (j : Nat) ∧ j ≤ m.2.2.length ∧ n2 ≤ 65541 ∧ Hid (
                    ptL m.2.2 n [] = ptL (m.2.2.drop j) n2 (ts.map (·.data.toList)) ∧ ts.length * 5 ≤ n2 ∧ (∀ t ∈ ts, t.size ≤ 17) ∧ wr.ownsRow wc.heap.size 9 1 v9 ts.length (ts.map Value.string) ∧ Below wc.heap.size wc wr))
                  (fun _ _ v56 _ => m.2.2.length - (intOf v56).toNat)
                case atStart => exact ⟨0, n, [], rfl, rfl, Nat.zero_le _, hn6, rfl, by simp, by simp, HOWN1.out, Below.refl _ _⟩
                case round =>
                  obtain ⟨j, n2, ts, rfl, rfl, hj, hn2, hh2⟩ := hrel
                  obtain ⟨hpt, htn, hts, hot, hbt⟩ := hh2.out
                  clear hh2
                  by_cases hjn : j < m.2.2.length
                  · obtain ⟨q, rfl, hq⟩ := HW.out.2.2.1.below hbt j _ (List.getElem?_eq_getElem hjn)
                    have hdropj : m.2.2.drop j = m.2.2[j]'hjn :: m.2.2.drop (j + 1) := List.drop_eq_getElem_cons hjn
                    rw [hdropj, ptL] at hpt
                    generalize m.2.2[j]'hjn = p at hq hpt hdropj
                    have HJN := Lib.hid hjn
                    have HFP := fun W => Lib.hid (fits_any p W)
                    have hwcs : wc.heap.size ≤ wr.heap.size := hbt.size
                    cases hfp : fits p with
                    | false =>
                      rw [hfp] at hpt HFP
                      simp only [Bool.false_eq_true, if_false] at hpt
                      have HPE : Hid (printL ms = .error 1) := by
                        have := HPR2.out
                        rw [hpt] at this
                        rw [Hid, HP.out, this]
                      have HBT := Lib.hid hbt
                      clear hpt htn hts hot hbt hdropj
                      go_wp2_with fail
                      refine (HFP _).out.mono ?_
                      rintro e w9 ⟨rfl, rfl⟩
                      clear HFP
                      go_wp2
                      go_ret2
                      exact ⟨by rw [HPE.out]; rfl, HW.out.2.1.trans (HBT.out.mono HW.out.2.1.size)⟩
                    | true =>
                      rw [hfp] at hpt HFP
                      simp only [if_true] at hpt
                      have hpp : 0 ≤ p ∧ p ≤ 1114111 := by
                        unfold fits isPt at hfp
                        simp at hfp
                        omega
                      by_cases hroom : n2 ≤ 65536
                      · rw [if_pos hroom] at hpt
                        have HD := Lib.hid (digits_any p (by omega) (by omega) wr (HE.out.below (HW.out.2.1.trans (hbt.mono HW.out.2.1.size))))
                        have HT := Lib.hid (And.intro hpt (And.intro htn (And.intro hts (And.intro hot hbt))))
                        have hrb : decide ((n2 : Int) ≤ 65536) = true := decide_eq_true (by omega)
                        clear hpt htn hts hot hbt hdropj
                        go_wp2_with fail
                        refine (HFP _).out.mono ?_
                        rintro e w9 ⟨rfl, rfl⟩
                        clear HFP
                        go_wp2_with fail
                        refine HD.out.mono ?_
                        rintro e w10 ⟨rfl, hb10⟩
                        have hot2 := own_below HT.out.2.2.2.1 hb10
                        have hbt2 := HT.out.2.2.2.2.trans (hb10.mono hwcs)
                        have HO := Lib.hid hot2
                        have HB2 := Lib.hid hbt2
                        have hs10 : wc.heap.size ≤ w10.heap.size := hbt2.size
                        have htn := HT.out.2.1
                        obtain ⟨i0, hi, hz0, hz1, hz2⟩ := info_parts info_str
                        clear hot2 hbt2 hb10 HD
                        go_wp2_with (at_builtin; refine wpList_append_own_at _ rfl _ _ 62 rfl wc.heap.size 9 i0 (.string ⟨#[]⟩) 1 16 Tryz.underlying62 hi hz0 hz1 hz2 rfl (by decide) u9 ts.length (ts.map Value.string) rfl (HO.out.alloc _) ⟨w10.heap.size, 0, none⟩ 1 1 [.string ⟨(digitsL p).toArray⟩] rfl rfl (World.news_of_block (blk_new _)) (by intro u hu; simp at hu; subst hu; rfl) (by unfold maxLen; omega) (by omega) (by simp; omega) ?_; intro v8 W7 hown7 hg7 _ hat7)
                        go_roundw
                        case measure => have := HJN.out; simp [intOf]; omega
                        case rel =>
                          obtain ⟨h1, h2, h3, h4, h5⟩ := HT.out
                          refine ⟨j + 1, n2 + 5, ts ++ [⟨(digitsL p).toArray⟩], by go_num, by go_num, by have := HJN.out; omega, by omega, by simpa using h1, by simp; omega, ?_, by simpa using hown7, ?_⟩
                          · intro t ht
                            rcases List.mem_append.1 ht with ht | ht
                            · exact h3 t ht
                            · simp at ht
                              subst ht
                              have := digits_len p
                              simpa [Lib.size_eq] using this
                          · exact (HB2.out.alloc hs10 _).grown hg7 (by simp; omega) (fun b hb => (own_lt HO.out b hb).1)
                      · rw [if_neg hroom] at hpt
                        have HT := Lib.hid (And.intro hpt (And.intro htn (And.intro hts (And.intro hot hbt))))
                        have hrb : decide ((n2 : Int) ≤ 65536) = false := decide_eq_false (by omega)
                        clear hpt htn hts hot hbt hdropj
                        go_wp2_with fail
                        refine (HFP _).out.mono ?_
                        rintro e w9 ⟨rfl, rfl⟩
                        clear HFP
                        go_wp2
                        go_roundw
                        case measure => have := HJN.out; simp [intOf]; omega
                        case rel =>
                          obtain ⟨h1, h2, h3, h4, h5⟩ := HT.out
                          exact ⟨j + 1, n2, ts, by go_num, by go_num, by have := HJN.out; omega, by omega, h1, h2, h3, h4, h5⟩
                  · obtain rfl : j = m.2.2.length := by omega
                    rw [List.drop_length, ptL] at hpt
                    have hpr := HPR2.out
                    rw [hpt] at hpr
                    dsimp only at hpr
                    have htn2 : ts.length ≤ 13108 := by omega
                    have hJ : (Lib.join (ts.map (·.data.toList)) [32]).length ≤ 13108 * 18 := by
                      have h1 := join_len 17 [32] (ts.map (·.data.toList)) (fun l hl => by
                        obtain ⟨t, ht, rfl⟩ := List.mem_map.1 hl
                        have := hts t ht
                        rwa [Lib.size_eq] at this)
                      rw [List.length_map] at h1
                      have h2 : ts.length * (17 + 1) ≤ 13108 * 18 := Nat.mul_le_mul_right _ htn2
                      exact Nat.le_trans h1 h2
                    obtain ⟨ta, tc, rfl⟩ : ∃ ta tc, u9 = .slice ta ts.length tc := by
                      rcases hot.2 with ⟨h3, hx⟩ | ⟨g, cap, cur, h3, _⟩
                      · exact ⟨none, 0, by rw [h3, hx]⟩
                      · exact ⟨_, _, h3⟩
                    have hmw := HW.out.1
                    have hBw := HW.out.2.1
                    have how := HW.out.2.2.2
                    have hEr : Env wr := HE.out.below (hBw.trans (hbt.mono hBw.size))
                    have hwr : w.heap.size ≤ wr.heap.size := Nat.le_trans hBw.size hbt.size
                    have hmr := blk_later hbt hmw
                    have hor := own_below how hbt
                    have hpp : 0 ≤ m.1 ∧ m.1 ≤ 1114111 := by
                      have := hff
                      unfold fits isPt at this
                      simp at this
                      omega
                    have HDG : Hid (∀ W, Below wr.heap.size wr W → Calls Tryz.prog 30 #[.int .i64 m.1] W fun e W' => e = .returned (.string ⟨(digitsL m.1).toArray⟩) ∧ Below wr.heap.size wr W' ∧ W'.cell? ⟨M, 1, none⟩ = some (.int .i64 m.2.1)) := by
                      intro W hb
                      refine (digits_any m.1 (by omega) (by omega) W (hEr.below hb)).mono fun e W' h => ?_
                      have h2 := hb.trans (h.2.mono hb.size)
                      exact ⟨h.1, h2, blk_cell (blk_later h2 hmr) 1⟩
                    have HIT : Hid (∀ W, Below wr.heap.size wr W → Calls Tryz.prog 31 #[.int .i64 m.2.1] W fun e W' => e = .returned (.string ⟨(Lib.itoa m.2.1).toArray⟩) ∧ Below wr.heap.size wr W') := by
                      intro W hb
                      refine (itoa_any m.2.1 (by omega) (by omega) W (hEr.below hb)).mono fun e W' h => ?_
                      exact ⟨h.1, hb.trans (h.2.mono hb.size)⟩
                    have HJO : Hid (∀ W, Below wr.heap.size wr W → Calls Tryz.prog 32 #[.slice ta ts.length tc, .string ⟨#[32]⟩] W fun e W' => e = .returned (.string ⟨(Lib.join (ts.map (·.data.toList)) [32]).toArray⟩) ∧ Below wr.heap.size wr W' ∧ W'.ownsRow w.heap.size 9 1 u5 ls.length (ls.map Value.string)) := by
                      intro W hb
                      refine (join_any ⟨#[32]⟩ (own_below hot hb) (by omega) (by show (Lib.join _ [32]).length ≤ _; omega)).mono fun e W' h => ?_
                      have h2 := hb.trans (h.2.mono hb.size)
                      exact ⟨h.1, h2, own_below hor h2⟩
                    have hcr0 : wr.cell? ⟨M, 0, none⟩ = some (.int .i64 m.1) := blk_cell hmr 0
                    have hcr1 : wr.cell? ⟨M, 1, none⟩ = some (.int .i64 m.2.1) := blk_cell hmr 1
                    obtain ⟨i0, hi, hz0, hz1, hz2⟩ := info_parts info_str
                    have hitl := Lib.itoa_length_le m.2.1 (by omega) (by omega)
                    have hdgl := digits_len m.1
                    have hlk : ls.length = k := HH.out.2.2.2.1
                    have HPR3 := Lib.hid hpr
                    have HBR := Lib.hid (hBw.trans (hbt.mono hBw.size))
                    have FIN : Hid (∀ (W3 W4 : World) (g2 cap2 : Nat), Below wr.heap.size wr W3 → W3.ownsRow w.heap.size 9 1 u5 ls.length (ls.map Value.string) →
                        W4.ownsRow w.heap.size 9 1 (.slice (some ⟨g2, 0, none⟩) (ls.length + 1) cap2) (ls.length + 1) (ls.map Value.string ++ [Value.string (lineB m ts)]) → (W3.alloc (.cells #[.string (lineB m ts)] 9)).grownBy W4 u5.ownBlock → Hid (
                        prL none ms 0 [] = prL (some m.1) (ms.drop (k + 1)) n2 ((ls ++ [lineB m ts]).map (·.data.toList)) ∧ (∀ j m', k + 1 = j + 1 → ms[j]? = some m' → some m.1 = some m'.1) ∧ (k + 1 = 0 → some m.1 = none) ∧
                        (ls ++ [lineB m ts]).length = k + 1 ∧ (∀ l ∈ ls ++ [lineB m ts], l.size ≤ 1000000) ∧ W4.ownsRow w.heap.size 9 1 (.slice (some ⟨g2, 0, none⟩) (ls.length + 1) cap2) (ls ++ [lineB m ts]).length ((ls ++ [lineB m ts]).map Value.string) ∧ Below w.heap.size w W4)) := by
                      intro W3 W4 g2 cap2 hb3 ho3 ho4 hg4
                      obtain ⟨_, _, _, h4, h5, _, _, _, h9⟩ := HH.out
                      have hB3 := (hBw.trans (hbt.mono hBw.size)).trans (hb3.mono hwr)
                      refine ⟨by rw [hpr, List.map_append, List.map_cons, List.map_nil, lineB_list], ?_, by omega, by simp; omega, ?_, by simpa using ho4, ?_⟩
                      · intro j m' hj hm
                        obtain rfl : k = j := by omega
                        rw [h9] at hm
                        cases hm
                        rfl
                      · intro l hl
                        rcases List.mem_append.1 hl with hl | hl
                        · exact h5 l hl
                        · obtain rfl : l = lineB m ts := by simpa using hl
                          rw [Lib.size_eq, lineB_list]
                          unfold lineL
                          simp only [List.length_append, List.length_cons, List.length_nil]
                          omega
                      · exact (hB3.alloc hB3.size _).grown hg4 (Nat.le_trans hB3.size (by simp)) (fun b hb => (own_lt ho3 b hb).1)
                    have hnum : (ls.length + 1) * 16 ≤ 140737488355328 := by omega
                    have HKB := Lib.hid hk
                    clear hlk hpt htn hts hot hbt hmw hBw how hEr hmr hor hpr hpp
                    go_wp2_with fail
                    refine wp_region_any (by kernel_rfl) ?_
                    change wpAny _ _ _ _ _ _ _ (World.drew _)
                    refine wpAny_take (i := 0) (v := ?v1) rfl (by kernel_rfl) (by kernel_rfl) (by kernel_rfl) (fun _ _ _ h => h) (Or.inl ⟨by rfl, ?h1⟩) ?_
                    case h1 =>
                      intro w
                      go_simp
                      first | with_reducible rfl | (rw [if_neg (by (try simp); omega)]; try with_reducible rfl)
                    refine wpAny_take (i := 1) (v := ?v2) rfl (by kernel_rfl) (by kernel_rfl) (by kernel_rfl) (fun _ _ _ h => h) (Or.inl ⟨by rfl, ?h2⟩) ?_
                    case h2 =>
                      intro w
                      go_simp
                      first | with_reducible rfl | (rw [if_neg (by (try simp); omega)]; try with_reducible rfl)
                    refine wpAny_take (i := 5) (v := ?v3) rfl (by kernel_rfl) (by kernel_rfl) (by kernel_rfl) (fun _ _ _ h => h) (Or.inl ⟨by rfl, ?h3⟩) ?_
                    case h3 =>
                      intro w
                      go_simp
                      first | with_reducible rfl | (rw [if_neg (by (try simp); omega)]; try with_reducible rfl)
                    refine wpAny_take (i := 10) (v := ?v4) rfl (by kernel_rfl) (by kernel_rfl) (by kernel_rfl) (fun _ _ _ h => h) (Or.inl ⟨by rfl, ?h4⟩) ?_
                    case h4 =>
                      intro w
                      go_simp
                      first | with_reducible rfl | (rw [if_neg (by (try simp); omega)]; try with_reducible rfl)
                    refine wpAny_ready (rs := [2, 6]) (by kernel_rfl) (by simp) ?_
                    refine AllReady.cons rfl (fun K hK => ?_) ?_
                    · skip
                      go_simp
                      refine hK _ _ ?_
                      clear hK K
                      refine wpAny_ready (rs := [3, 6]) (by kernel_rfl) (by simp) ?_
                      refine AllReady.cons rfl (fun K hK => ?_) ?_
                      · skip
                        go_simp
                        refine (HDG.out _ ?_).mono ?_
                        · first | assumption | exact (Below.refl _ _).drew
                        rintro e W1 ⟨rfl, hb1, hcW1⟩
                        dsimp only
                        refine hK _ _ ?_
                        clear hK K
                        refine wpAny_take (i := 4) (v := ?v5) rfl (by kernel_rfl) (by kernel_rfl) (by kernel_rfl) (fun _ _ _ h => h) (Or.inl ⟨by rfl, ?h5⟩) ?_
                        case h5 =>
                          intro w
                          go_simp
                          first | with_reducible rfl | (rw [if_neg (by (try simp); omega)]; try with_reducible rfl)
                        refine wpAny_ready (rs := [6]) (by kernel_rfl) (by simp) ?_
                        refine AllReady.cons rfl (fun K hK => ?_) AllReady.nil
                        go_simp
                        refine hK _ _ ?_
                        clear hK K
                        refine wpAny_ready (rs := [7]) (by kernel_rfl) (by simp) ?_
                        refine AllReady.cons rfl (fun K hK => ?_) AllReady.nil
                        go_simp
                        refine (HIT.out _ ?_).mono ?_
                        · first | assumption | exact (Below.refl _ _).drew
                        rintro e W2 ⟨rfl, hb2⟩
                        dsimp only
                        refine hK _ _ ?_
                        clear hK K
                        refine wpAny_take (i := 8) (v := ?v6) rfl (by kernel_rfl) (by kernel_rfl) (by kernel_rfl) (fun _ _ _ h => h) (Or.inl ⟨by rfl, ?h6⟩) ?_
                        case h6 =>
                          intro w
                          go_simp
                          first | with_reducible rfl | (rw [if_neg (by (try simp); omega)]; try with_reducible rfl)
                        refine wpAny_take (i := 9) (v := ?v7) rfl (by kernel_rfl) (by kernel_rfl) (by kernel_rfl) (fun _ _ _ h => h) (Or.inl ⟨by rfl, ?h7⟩) ?_
                        case h7 =>
                          intro w
                          go_simp
                          first | with_reducible rfl | (rw [if_neg (by (try simp); omega)]; try with_reducible rfl)
                        refine wpAny_ready (rs := [11]) (by kernel_rfl) (by simp) ?_
                        refine AllReady.cons rfl (fun K hK => ?_) AllReady.nil
                        go_simp
                        refine (HJO.out _ ?_).mono ?_
                        · first | assumption | exact (Below.refl _ _).drew
                        rintro e W3 ⟨rfl, hb3, ho3⟩
                        have hs3 : w.heap.size ≤ W3.heap.size := Nat.le_trans hwr hb3.size
                        dsimp only
                        refine hK _ _ ?_
                        clear hK K
                        refine wpAny_take (i := 12) (v := ?v8) rfl (by kernel_rfl) (by kernel_rfl) (by kernel_rfl) (fun _ _ _ h => h) (Or.inl ⟨by rfl, ?h8⟩) ?_
                        case h8 =>
                          intro w
                          go_simp
                          first | with_reducible rfl | (rw [if_neg (by (try simp); omega)]; try with_reducible rfl)
                        refine wpAny_ready (rs := [13]) (by kernel_rfl) (by simp) ?_
                        refine AllReady.cons rfl (fun K hK => ?_) AllReady.nil
                        go_simp
                        refine hK _ _ ?_
                        clear hK K
                        refine wpAny_ready (rs := [14]) (by kernel_rfl) (by simp) ?_
                        refine AllReady.cons rfl (fun K hK => ?_) AllReady.nil
                        refine step_append_lies _ rfl _ _ _ rfl w.heap.size 9 i0 (.string ⟨#[]⟩) 1 16 Tryz.underlying62 hi hz0 hz1 hz2 rfl (by decide) u5 ls.length (ls.map Value.string) rfl (ho3.alloc _) _ 1 1 [.string (lineB m ts)] rfl rfl (World.news_of_block (blk_new _)) (by intro u hu; simp at hu; subst hu; rfl) (by decide) (by unfold maxLen; omega) hnum (by simp; omega) _ rfl ?_
                        intro g2 cap2 W4 hown4 hgr4 hat4 hlt4
                        refine hK _ _ ?_
                        clear hK K
                        refine wpAny_ready (rs := [15]) (by kernel_rfl) (by simp) ?_
                        refine AllReady.cons rfl (fun K hK => ?_) AllReady.nil
                        go_simp
                        refine hK _ _ ?_
                        clear hK K
                        refine wpAny_done (by kernel_rfl) ?_ _
                        have HF4 := FIN.out W3 W4 g2 cap2 hb3 ho3 hown4 hgr4
                        clear hown4 hgr4 hat4 hlt4
                        go_wp2
                        go_roundw
                        case measure => have := HKN.out; simp [intOf]; omega
                        case rel => exact ⟨k + 1, n2, some m.1, ls ++ [lineB m ts], rfl, by go_num, by have := HKN.out; omega, hn2, HF4⟩
                      refine AllReady.cons rfl (fun K hK => ?_) AllReady.nil
                      go_simp
                      refine hK _ _ ?_
                      clear hK K
                      refine wpAny_ready (rs := [3]) (by kernel_rfl) (by simp) ?_
                      refine AllReady.cons rfl (fun K hK => ?_) AllReady.nil
                      go_simp
                      refine (HDG.out _ ?_).mono ?_
                      · first | assumption | exact (Below.refl _ _).drew
                      rintro e W1 ⟨rfl, hb1, hcW1⟩
                      dsimp only
                      refine hK _ _ ?_
                      clear hK K
                      refine wpAny_take (i := 4) (v := ?v9) rfl (by kernel_rfl) (by kernel_rfl) (by kernel_rfl) (fun _ _ _ h => h) (Or.inl ⟨by rfl, ?h9⟩) ?_
                      case h9 =>
                        intro w
                        go_simp
                        first | with_reducible rfl | (rw [if_neg (by (try simp); omega)]; try with_reducible rfl)
                      refine wpAny_ready (rs := [7]) (by kernel_rfl) (by simp) ?_
                      refine AllReady.cons rfl (fun K hK => ?_) AllReady.nil
                      go_simp
                      refine (HIT.out _ ?_).mono ?_
                      · first | assumption | exact (Below.refl _ _).drew
                      rintro e W2 ⟨rfl, hb2⟩
                      dsimp only
                      refine hK _ _ ?_
                      clear hK K
                      refine wpAny_take (i := 8) (v := ?v10) rfl (by kernel_rfl) (by kernel_rfl) (by kernel_rfl) (fun _ _ _ h => h) (Or.inl ⟨by rfl, ?h10⟩) ?_
                      case h10 =>
                        intro w
                        go_simp
                        first | with_reducible rfl | (rw [if_neg (by (try simp); omega)]; try with_reducible rfl)
                      refine wpAny_take (i := 9) (v := ?v11) rfl (by kernel_rfl) (by kernel_rfl) (by kernel_rfl) (fun _ _ _ h => h) (Or.inl ⟨by rfl, ?h11⟩) ?_
                      case h11 =>
                        intro w
                        go_simp
                        first | with_reducible rfl | (rw [if_neg (by (try simp); omega)]; try with_reducible rfl)
                      refine wpAny_ready (rs := [11]) (by kernel_rfl) (by simp) ?_
                      refine AllReady.cons rfl (fun K hK => ?_) AllReady.nil
                      go_simp
                      refine (HJO.out _ ?_).mono ?_
                      · first | assumption | exact (Below.refl _ _).drew
                      rintro e W3 ⟨rfl, hb3, ho3⟩
                      have hs3 : w.heap.size ≤ W3.heap.size := Nat.le_trans hwr hb3.size
                      dsimp only
                      refine hK _ _ ?_
                      clear hK K
                      refine wpAny_take (i := 12) (v := ?v12) rfl (by kernel_rfl) (by kernel_rfl) (by kernel_rfl) (fun _ _ _ h => h) (Or.inl ⟨by rfl, ?h12⟩) ?_
                      case h12 =>
                        intro w
                        go_simp
                        first | with_reducible rfl | (rw [if_neg (by (try simp); omega)]; try with_reducible rfl)
                      refine wpAny_ready (rs := [13]) (by kernel_rfl) (by simp) ?_
                      refine AllReady.cons rfl (fun K hK => ?_) AllReady.nil
                      go_simp
                      refine hK _ _ ?_
                      clear hK K
                      refine wpAny_ready (rs := [14]) (by kernel_rfl) (by simp) ?_
                      refine AllReady.cons rfl (fun K hK => ?_) AllReady.nil
                      refine step_append_lies _ rfl _ _ _ rfl w.heap.size 9 i0 (.string ⟨#[]⟩) 1 16 Tryz.underlying62 hi hz0 hz1 hz2 rfl (by decide) u5 ls.length (ls.map Value.string) rfl (ho3.alloc _) _ 1 1 [.string (lineB m ts)] rfl rfl (World.news_of_block (blk_new _)) (by intro u hu; simp at hu; subst hu; rfl) (by decide) (by unfold maxLen; omega) hnum (by simp; omega) _ rfl ?_
                      intro g2 cap2 W4 hown4 hgr4 hat4 hlt4
                      refine hK _ _ ?_
                      clear hK K
                      refine wpAny_ready (rs := [15]) (by kernel_rfl) (by simp) ?_
                      refine AllReady.cons rfl (fun K hK => ?_) AllReady.nil
                      go_simp
                      refine hK _ _ ?_
                      clear hK K
                      refine wpAny_done (by kernel_rfl) ?_ _
                      have HF4 := FIN.out W3 W4 g2 cap2 hb3 ho3 hown4 hgr4
                      clear hown4 hgr4 hat4 hlt4
                      go_wp2
                      go_roundw
                      case measure => have := HKN.out; simp [intOf]; omega
                      case rel => exact ⟨k + 1, n2, some m.1, ls ++ [lineB m ts], rfl, by go_num, by have := HKN.out; omega, hn2, HF4⟩
                    refine AllReady.cons rfl (fun K hK => ?_) AllReady.nil
                    go_simp
                    refine hK _ _ ?_
                    clear hK K
                    refine wpAny_ready (rs := [2]) (by kernel_rfl) (by simp) ?_
                    refine AllReady.cons rfl (fun K hK => ?_) AllReady.nil
                    go_simp
                    refine hK _ _ ?_
                    clear hK K
                    refine wpAny_ready (rs := [3]) (by kernel_rfl) (by simp) ?_
                    refine AllReady.cons rfl (fun K hK => ?_) AllReady.nil
                    go_simp
                    refine (HDG.out _ ?_).mono ?_
                    · first | assumption | exact (Below.refl _ _).drew
                    rintro e W1 ⟨rfl, hb1, hcW1⟩
                    dsimp only
                    refine hK _ _ ?_
                    clear hK K
                    refine wpAny_take (i := 4) (v := ?v13) rfl (by kernel_rfl) (by kernel_rfl) (by kernel_rfl) (fun _ _ _ h => h) (Or.inl ⟨by rfl, ?h13⟩) ?_
                    case h13 =>
                      intro w
                      go_simp
                      first | with_reducible rfl | (rw [if_neg (by (try simp); omega)]; try with_reducible rfl)
                    refine wpAny_ready (rs := [7]) (by kernel_rfl) (by simp) ?_
                    refine AllReady.cons rfl (fun K hK => ?_) AllReady.nil
                    go_simp
                    refine (HIT.out _ ?_).mono ?_
                    · first | assumption | exact (Below.refl _ _).drew
                    rintro e W2 ⟨rfl, hb2⟩
                    dsimp only
                    refine hK _ _ ?_
                    clear hK K
                    refine wpAny_take (i := 8) (v := ?v14) rfl (by kernel_rfl) (by kernel_rfl) (by kernel_rfl) (fun _ _ _ h => h) (Or.inl ⟨by rfl, ?h14⟩) ?_
                    case h14 =>
                      intro w
                      go_simp
                      first | with_reducible rfl | (rw [if_neg (by (try simp); omega)]; try with_reducible rfl)
                    refine wpAny_take (i := 9) (v := ?v15) rfl (by kernel_rfl) (by kernel_rfl) (by kernel_rfl) (fun _ _ _ h => h) (Or.inl ⟨by rfl, ?h15⟩) ?_
                    case h15 =>
                      intro w
                      go_simp
                      first | with_reducible rfl | (rw [if_neg (by (try simp); omega)]; try with_reducible rfl)
                    refine wpAny_ready (rs := [11]) (by kernel_rfl) (by simp) ?_
                    refine AllReady.cons rfl (fun K hK => ?_) AllReady.nil
                    go_simp
                    refine (HJO.out _ ?_).mono ?_
                    · first | assumption | exact (Below.refl _ _).drew
                    rintro e W3 ⟨rfl, hb3, ho3⟩
                    have hs3 : w.heap.size ≤ W3.heap.size := Nat.le_trans hwr hb3.size
                    dsimp only
                    refine hK _ _ ?_
                    clear hK K
                    refine wpAny_take (i := 12) (v := ?v16) rfl (by kernel_rfl) (by kernel_rfl) (by kernel_rfl) (fun _ _ _ h => h) (Or.inl ⟨by rfl, ?h16⟩) ?_
                    case h16 =>
                      intro w
                      go_simp
                      first | with_reducible rfl | (rw [if_neg (by (try simp); omega)]; try with_reducible rfl)
                    refine wpAny_ready (rs := [13]) (by kernel_rfl) (by simp) ?_
                    refine AllReady.cons rfl (fun K hK => ?_) AllReady.nil
                    go_simp
                    refine hK _ _ ?_
                    clear hK K
                    refine wpAny_ready (rs := [14]) (by kernel_rfl) (by simp) ?_
                    refine AllReady.cons rfl (fun K hK => ?_) AllReady.nil
                    refine step_append_lies _ rfl _ _ _ rfl w.heap.size 9 i0 (.string ⟨#[]⟩) 1 16 Tryz.underlying62 hi hz0 hz1 hz2 rfl (by decide) u5 ls.length (ls.map Value.string) rfl (ho3.alloc _) _ 1 1 [.string (lineB m ts)] rfl rfl (World.news_of_block (blk_new _)) (by intro u hu; simp at hu; subst hu; rfl) (by decide) (by unfold maxLen; omega) hnum (by simp; omega) _ rfl ?_
                    intro g2 cap2 W4 hown4 hgr4 hat4 hlt4
                    refine hK _ _ ?_
                    clear hK K
                    refine wpAny_ready (rs := [15]) (by kernel_rfl) (by simp) ?_
                    refine AllReady.cons rfl (fun K hK => ?_) AllReady.nil
                    go_simp
                    refine hK _ _ ?_
                    clear hK K
                    refine wpAny_done (by kernel_rfl) ?_ _
                    have HF4 := FIN.out W3 W4 g2 cap2 hb3 ho3 hown4 hgr4
                    clear hown4 hgr4 hat4 hlt4
                    go_wp2
                    go_roundw
                    case measure => have := HKN.out; simp [intOf]; omega
                    case rel => exact ⟨k + 1, n2, some m.1, ls ++ [lineB m ts], rfl, by go_num, by have := HKN.out; omega, hn2, HF4⟩
    · obtain ⟨hpr, _, _, hlk, hls, hown, hB⟩ := hh.out
      clear hh
      obtain rfl : k = ms.length := by omega
      rw [List.drop_length, prL] at hpr
      have hJ : (Lib.join (ls.map (·.data.toList)) [10]).length ≤ 4096 * 1000001 := by
        have h1 := join_len 1000000 [10] (ls.map (·.data.toList)) (fun l hl => by
          obtain ⟨t, ht, rfl⟩ := List.mem_map.1 hl
          have := hls t ht
          rwa [Lib.size_eq] at this)
        rw [List.length_map] at h1
        have h2 : ls.length * (1000000 + 1) ≤ 4096 * 1000001 := Nat.mul_le_mul_right _ (by omega)
        exact Nat.le_trans h1 h2
      obtain ⟨la, lc, rfl⟩ : ∃ la lc, u5 = .slice la ls.length lc := by
        rcases hown.2 with ⟨h3, hx⟩ | ⟨g, cap, cur, h3, _⟩
        · exact ⟨none, 0, by rw [h3, hx]⟩
        · exact ⟨_, _, h3⟩
      have HJO := Lib.hid (join_any ⟨#[10]⟩ hown (by omega) (by show (Lib.join _ [10]).length ≤ _; omega))
      have hp := HP.out
      rw [hpr] at hp
      dsimp only at hp
      have HB := Lib.hid hB
      have HPP := Lib.hid hp
      clear hpr hls hown hB hp hlk HP
      go_wp2_with fail
      refine HJO.out.mono ?_
      rintro e w9 ⟨rfl, hb9⟩
      have hp := HPP.out
      have HB9 := Lib.hid (HB.out.trans (hb9.mono HB.out.size))
      clear HJO hb9 HPP HB
      generalize Lib.join (ls.map (·.data.toList)) [10] = s at hp hJ ⊢
      by_cases hlong : 65536 < s.length
      · rw [if_pos hlong] at hp
        have hgl : decide ((65536 : Int) < (s.length : Int)) = true := decide_eq_true (by omega)
        have HPP := Lib.hid hp
        clear hp hlong
        go_wp2
        go_ret2
        exact ⟨by rw [HPP.out]; rfl, HB9.out⟩
      · rw [if_neg hlong] at hp
        have hgl : decide ((65536 : Int) < (s.length : Int)) = false := decide_eq_false (by omega)
        have HPP := Lib.hid hp
        clear hp hlong
        go_wp2
        go_ret2
        exact ⟨by rw [HPP.out]; rfl, HB9.out⟩

/-- Print, whatever the marks. -/
theorem print_any (a : Option Addr) (c : Nat) (ms : List MarkD) (w : World) (he : Env w) (hn : ms.length ≤ 140737488355328) (hin : MarksIn w a ms) (hl : ∀ m ∈ ms, m.2.2.length ≤ 140737488355328) :
    Calls Tryz.prog 8 #[.slice a ms.length c] w fun e w' => PrintEnd (printL ms) e ∧ Below w.heap.size w w' := by
  by_cases h : 4096 < ms.length
  · exact print_long a c ms w hn h
  · exact print_short a c ms w he (by omega) hin hl
end Go.Proofs.YtgmafjaphnponaaGreatDoor
