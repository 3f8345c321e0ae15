/- The law UcdAgain's walk: true, whatever the marks. -/
import Derived.Test.YtgmafjaphnponaaGreatDoorAgain
import Derived.Test.YtgmafjaphnponaaGreatDoorAwake
namespace Go.Proofs.YtgmafjaphnponaaGreatDoor
open Go.RowKit Dov

set_option maxRecDepth 100000 in
set_option maxHeartbeats 4000000 in
theorem ucdAgain_any (a : Option Addr) (c : Nat) (ms : List MarkD) (w : World) (he : Env w) (hn : ms.length ≤ 140737488355328) (hin : MarksIn w a ms) (hl : ∀ m ∈ ms, m.2.2.length ≤ 140737488355328) :
    Calls Tryz.prog 3 #[.slice a ms.length c] w fun e w' => e = .returned (.bool true) ∧ Below w.heap.size w w' := by
  have HH := Lib.hid (heavy_any a c ms w hin hn hl)
  have HP := Lib.hid (print_any a c ms w he hn hin hl)
  have HE := Lib.hid he
  have HIN := Lib.hid (And.intro hin hl)
  have HB0 := Lib.hid (Below.refl w.heap.size w)
  clear he hin hl
  cases hhv : heavyL 0 ms with
  | true =>
    have HV := Lib.hid hhv
    clear hhv
    go_enter Tryz.func3, Tryz.ntmps3
    go_wp2_with fail
    refine HH.out.mono ?_
    rintro e w' ⟨rfl, rfl⟩
    rw [HV.out]
    go_wp2_with fail
    go_ret
    exact ⟨rfl, HB0.out⟩
  | false =>
    have HV := Lib.hid hhv
    clear hhv
    go_enter Tryz.func3, Tryz.ntmps3
    go_wp2_with fail
    refine HH.out.mono ?_
    rintro e w' ⟨rfl, rfl⟩
    rw [HV.out]
    clear HH HV
    go_wp2_with fail
    refine HP.out.mono ?_
    rintro e w1 ⟨h1, hb1⟩
    clear HP
    have HA1 := Lib.hid (HE.out.below hb1)
    have HB1 := Lib.hid hb1
    clear hb1
    cases hp : printL ms with
    | error k =>
      rw [hp] at h1
      obtain rfl : e = .returned (.tuple #[.string ⟨#[]⟩, .int .i64 k]) := h1
      have hk := print_err hp
      have HA := Lib.hid (awake_any w1 HA1.out)
      rcases hk with rfl | rfl
      all_goals
        go_wp2_with fail
        refine HA.out.mono ?_
        rintro e w2 ⟨rfl, hb2⟩
        have HB2 := Lib.hid (HB1.out.trans (hb2.mono HB1.out.size))
        clear hb2
        go_wp2
        go_ret
        exact ⟨rfl, HB2.out⟩
    | ok s =>
      rw [hp] at h1
      obtain rfl : e = .returned (.tuple #[.string ⟨s.toArray⟩, .int .i64 0]) := h1
      obtain ⟨hs, hg, hpl, hm, hsl, hload⟩ := again hp
      have HL := Lib.hid (load_any ⟨s.toArray⟩ (by show s.toArray.size ≤ _; simp; omega) w1 HA1.out)
      have HS := Lib.hid (And.intro hs (And.intro hg (And.intro hpl hload)))
      clear hp hs hg hpl hload
      go_wp2_with fail
      refine HL.out.mono ?_
      rintro e w2 ⟨h2, hb2⟩
      have HB2 := Lib.hid (HB1.out.trans (hb2.mono HB1.out.size))
      have HA2 := Lib.hid (awake_any w2 (HA1.out.below hb2))
      clear HL hb2
      obtain ⟨hs, hg, hpl, hload⟩ := HS.out
      clear HS
      change LoadEnd w1 (loadL s) e w2 at h2
      rcases hload with hload | ⟨k, n, hload, hk, hn1, hn2⟩
      · rw [hload] at h2
        obtain ⟨d, rfl, hd⟩ := h2
        have hd0 := hd
        obtain ⟨db, r, rfl, _⟩ := hd0
        have HD := Lib.hid hd
        have HS := Lib.hid (And.intro hs (And.intro hg hpl))
        clear hd hload hs hg hpl
        go_wp2_with fail
        refine HA2.out.mono ?_
        rintro e w3 ⟨rfl, hb3⟩
        have HB3 := Lib.hid (HB2.out.trans (hb3.mono HB2.out.size))
        have HM := Lib.hid (marks_any _ ms _ w3 (HD.out.below hb3) (by omega) (fun m hm => Nat.le_trans (HS.out.2.2 m hm) (by decide)) (fun m hm => good_pt (HS.out.2.1 m hm)))
        clear hb3 HA2
        go_wp2_with fail
        refine HM.out.mono ?_
        rintro e w4 ⟨a4, c4, ms', rfl, hpm, hso, hin4, hb4⟩
        obtain rfl : ms' = ms := perm_sorted_eq hpm hso HS.out.1
        have HB4 := Lib.hid (HB3.out.trans (hb4.mono HB3.out.size))
        have HQ := Lib.hid (sameMarks_same a4 a c4 c ms' w4 hin4 (HIN.out.1.below HB4.out) hn HIN.out.2)
        clear hpm hso hin4 hb4 HM
        go_wp2_with fail
        refine HQ.out.mono ?_
        rintro e w5 ⟨rfl, hb5⟩
        have HB5 := Lib.hid (HB4.out.trans (hb5.mono HB4.out.size))
        clear hb5 HQ
        go_wp2
        go_ret
        exact ⟨rfl, HB5.out⟩
      · rw [hload] at h2
        obtain rfl : e = .returned (.tuple #[.pointer none, .int .i64 k, .int .i64 n]) := h2
        clear hload hs hg hpl
        have hc : decide (n ≤ (ms.length : Int)) = true := decide_eq_true hn2
        rcases hk with rfl | rfl
        all_goals
          go_wp2_with fail
          refine HA2.out.mono ?_
          rintro e w3 ⟨rfl, hb3⟩
          have HB3 := Lib.hid (HB2.out.trans (hb3.mono HB2.out.size))
          clear hb3
          go_wp2
          go_ret
          exact ⟨rfl, HB3.out⟩
end Go.Proofs.YtgmafjaphnponaaGreatDoor
