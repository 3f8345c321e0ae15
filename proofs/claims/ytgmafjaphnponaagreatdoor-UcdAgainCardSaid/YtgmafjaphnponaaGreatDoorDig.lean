/- ucd.digits, ucd.isPoint, ucd.syllable, strconv.ParseInt (its face) and ucd.read: what they answer, for every text. -/
import Derived.Test.YtgmafjaphnponaaGreatDoorSpec
import Derived.Test.YtgmafjaphnponaaGreatDoorEnv
import Derived.Test.YtgmafjaphnponaaGreatDoorFmt
import Derived.Test.YtgmafjaphnponaaGreatDoorParse
import Derived.Test.YtgmafjaphnponaaGreatDoorShelf
import Derived.WalkLawsBesides
import Derived.Deep.QuietTactic
import Derived.BigQuiet
namespace Go.Proofs.YtgmafjaphnponaaGreatDoor
open Go.RowKit Dov

theorem bytes_list (s : ByteArray) : s.toList = s.data.toList := by
  obtain ⟨⟨l⟩⟩ := s
  exact ByteArray.toList_mk l

def strLen : Value → Nat
  | .string s => s.size
  | _ => 0

theorem size_mk (l : List UInt8) : (⟨l.toArray⟩ : ByteArray).size = l.length := by simp [ByteArray.size]

set_option maxRecDepth 100000 in
theorem digits_any (n : Int) (h0 : -9223372036854775808 ≤ n) (h1 : n ≤ 9223372036854775807) (w : World) (he : Env w) :
    Calls Tryz.prog 30 #[.int .i64 n] w fun e w' => e = .returned (.string ⟨(digitsL n).toArray⟩) ∧ Below w.heap.size w w' := by
  have HF := Lib.hid (formatInt n h0 h1 w he.db)
  have HU := Lib.hid (fun (w1 : World) => Tryz.strings_ToUpper_ascii ⟨(fmt16 n).toArray⟩ w1 (by rw [size_mk]; have := fmt16_len n; omega) (by
    intro j b hb
    exact fmt16_ascii n b (List.mem_of_getElem? hb)))
  clear he
  go_enter Tryz.func30, Tryz.ntmps30
  go_wp2_with (first
    | (go_at_call 60; refine (HF.out).mono ?_; rintro e w1 ⟨rfl, hb1⟩)
    | (go_at_call 59; refine (HU.out _).mono ?_; rintro e w2 ⟨rfl, hb2⟩))
  have hb : Below w.heap.size w w2 := hb1.trans (hb2.mono hb1.size)
  clear hb1 hb2
  go_loop [3] (fun v => ∃ x : ByteArray, v = .string x ∧ x.size ≤ 100 ∧ Hid (padl x.data.toList = digitsL n)) (fun v => 4 - strLen v)
  case atStart => exact ⟨_, rfl, by simp [Lib.toUpperA, ByteArray.size]; have := fmt16_len n; omega, rfl⟩
  case round =>
    obtain ⟨x, rfl, hx, hh⟩ := hrel
    by_cases hlt : x.size < 4
    · go_wp2
      go_round
      case rel =>
        refine ⟨_, rfl, ?_, ?_⟩
        · rw [ByteArray.size_append]
          show 1 + x.size ≤ 100
          omega
        · rw [← hh.out]
          have hd : ((⟨#[48]⟩ : ByteArray) ++ x).data.toList = 48 :: x.data.toList := by simp [ByteArray.data_append]
          rw [hd]
          exact padl_cons (by rw [← Lib.size_eq]; exact hlt)
      case measure =>
        show 4 - ((⟨#[48]⟩ : ByteArray) ++ x).size < 4 - x.size
        rw [ByteArray.size_append]
        show 4 - (1 + x.size) < 4 - x.size
        omega
    · have hpad : padl x.data.toList = x.data.toList := padl_ge (by rw [← Lib.size_eq]; omega)
      have hfin : x = ⟨(digitsL n).toArray⟩ := by rw [← hh.out, hpad]
      have HX := Lib.hid hfin
      clear hpad hfin hh
      go_wp2
      go_ret
      exact ⟨by rw [← HX.out]; rfl, hb⟩

theorem isPoint_any (n : Int) (w : World) : Calls Tryz.prog 28 #[.int .i64 n] w fun e w' => e = .returned (.bool (isPt n)) ∧ w = w' := by
  go_enter Tryz.func28, Tryz.ntmps28
  go_wp2
  all_goals
    go_ret
    refine ⟨?_, rfl⟩
    show Ending.returned (.bool _) = Ending.returned (.bool _)
    congr 2
    rw [Bool.eq_iff_iff]
    simp [isPt]
    try omega
theorem syllable_any (n : Int) (w : World) : Calls Tryz.prog 29 #[.int .i64 n] w fun e w' => e = .returned (.bool (isSyl n)) ∧ w = w' := by
  go_enter Tryz.func29, Tryz.ntmps29
  go_wp2
  all_goals
    go_ret
    refine ⟨?_, rfl⟩
    show Ending.returned (.bool _) = Ending.returned (.bool _)
    congr 2
    rw [Bool.eq_iff_iff]
    simp [isSyl]
    try omega

/-- What strconv.ParseInt tells at its face. -/
def IntFace (o : Option Int) (e : Ending) : Prop := match o with
  | some v => e = .returned (.tuple #[.int .i64 v, .nilIface])
  | none => ∃ x p, e = .returned (.tuple #[.int .i64 x, .iface 172 p])

set_option maxRecDepth 100000 in
theorem parseInt_any (s : ByteArray) (hmax : s.size ≤ 281474976710656) (w : World) (he : Env w) :
    Calls Tryz.prog 74 #[.string s, .int .i64 16, .int .i64 32] w fun e w' => IntFace (int16 s.data.toList) e ∧ Below w.heap.size w w' := by
  have HE := Lib.hid he
  have HP := Lib.hid (parseIntIn s (by omega) w)
  clear he
  cases hi : int16 s.data.toList with
  | some v =>
    rw [hi] at HP
    go_enter Tryz.func74, Tryz.ntmps74
    go_wp2_with (go_at_call 101; refine (HP.out).mono ?_; rintro e w1 ⟨rfl, hb1⟩)
    go_wp2
    go_ret2
    exact ⟨rfl, hb1⟩
  | none =>
    rw [hi] at HP
    go_enter Tryz.func74, Tryz.ntmps74
    go_wp2_with (go_at_call 101; refine (HP.out).mono ?_; rintro e w1 ⟨⟨x, c, rfl, hc⟩, hb1⟩)
    have he1 := HE.out.below hb1
    obtain ⟨ts, ps, hvs⟩ := he1.esyn
    obtain ⟨tr, pr, hvr⟩ := he1.erng
    have hs0 := World.var?_cell (P := Tryz.prog) (g := 3) (by kernel_rfl) hvs 0
    have hr0 := World.var?_cell (P := Tryz.prog) (g := 4) (by kernel_rfl) hvr 0
    have HS := Lib.hid (Tryz.strconv_toError_syntax ⟨#[80, 97, 114, 115, 101, 73, 110, 116]⟩ s 16 32 (.iface ts ps) w1 hmax (by simpa using hs0) (Or.inr ⟨_, _, rfl⟩))
    have HR := Lib.hid (Tryz.strconv_toError_range ⟨#[80, 97, 114, 115, 101, 73, 110, 116]⟩ s 16 32 (.iface tr pr) w1 hmax (by simpa using hr0) (Or.inr ⟨_, _, rfl⟩))
    clear he1 hvs hvr hs0 hr0
    rcases hc with rfl | rfl
    · go_wp2_with (go_at_call 88; refine (HR.out).mono ?_; rintro e w2 ⟨N, rfl, _, _, hb2⟩)
      go_ret2
      exact ⟨⟨_, _, rfl⟩, hb1.trans (hb2.mono hb1.size)⟩
    · go_wp2_with (go_at_call 88; refine (HS.out).mono ?_; rintro e w2 ⟨N, rfl, _, _, hb2⟩)
      go_ret2
      exact ⟨⟨_, _, rfl⟩, hb1.trans (hb2.mono hb1.size)⟩

/-- What gives up the reading of a line. -/
def faultV (c : Int) : Value := .iface 67 (.agg #[.int .i64 c])
def Gives (c : Int) (e : Ending) : Prop := e = .panicked [{ v := faultV c, recovered := false }]

set_option maxRecDepth 100000 in
set_option maxHeartbeats 1000000 in
theorem read_bad (s : ByteArray) (hmax : s.size ≤ 281474976710656) (w : World) (he : Env w) (hr : readL s.data.toList = none) :
    Calls Tryz.prog 67 #[.string s] w fun e w' => Gives 40 e ∧ Below w.heap.size w w' := by
  have HE := Lib.hid he
  have HP := Lib.hid (parseInt_any s hmax w he)
  clear he
  unfold readL at hr
  cases hi : int16 s.data.toList with
  | none =>
    rw [hi] at HP
    clear hr hi
    go_enter Tryz.func67, Tryz.ntmps67
    go_wp2_with (go_at_call 74; refine (HP.out).mono ?_; rintro e w1 ⟨⟨x, p, rfl⟩, hb1⟩)
    exact ⟨rfl, rfl, hb1⟩
  | some n =>
    rw [hi] at HP hr
    obtain ⟨b0, b1⟩ := int16_bd hi
    have HD := Lib.hid (fun (w1 : World) (h : Env w1) => digits_any n (by omega) (by omega) w1 h)
    clear hi b0 b1
    go_enter Tryz.func67, Tryz.ntmps67
    go_wp2_with (first
      | (go_at_call 74; refine (HP.out).mono ?_; rintro e w1 ⟨rfl, hb1⟩)
      | (go_at_call 30; refine (HD.out _ (HE.out.below hb1)).mono ?_; rintro e w2 ⟨rfl, hb2⟩)
      | (go_at_call 28; refine (isPoint_any _ _).mono ?_; rintro e w3 ⟨rfl, rfl⟩)
      | (go_at_call 29; refine (syllable_any _ _).mono ?_; rintro e w3 ⟨rfl, rfl⟩))
    · exact ⟨rfl, rfl, hb1.trans (hb2.mono hb1.size)⟩
    · exfalso
      have h1 : digitsL n = s.toList := by assumption
      have h2 : isPt n = true := by assumption
      have h3 : isSyl n = false := by assumption
      rw [bytes_list] at h1
      simp [h1, h2, h3] at hr
    · exact ⟨rfl, rfl, hb1.trans (hb2.mono hb1.size)⟩
    · exact ⟨rfl, rfl, hb1.trans (hb2.mono hb1.size)⟩

set_option maxRecDepth 100000 in
set_option maxHeartbeats 1000000 in
theorem read_ok (s : ByteArray) (hmax : s.size ≤ 281474976710656) (w : World) (he : Env w) (n : Int) (hr : readL s.data.toList = some n) :
    Calls Tryz.prog 67 #[.string s] w fun e w' => e = .returned (.int .i64 n) ∧ Below w.heap.size w w' := by
  have HE := Lib.hid he
  have HP := Lib.hid (parseInt_any s hmax w he)
  clear he
  unfold readL at hr
  cases hi : int16 s.data.toList with
  | none => rw [hi] at hr; cases hr
  | some m =>
    rw [hi] at HP hr
    obtain ⟨b0, b1⟩ := int16_bd hi
    have HD := Lib.hid (fun (w1 : World) (h : Env w1) => digits_any m (by omega) (by omega) w1 h)
    clear hi b0 b1
    dsimp only at hr
    split at hr
    case isFalse => cases hr
    rename_i hc
    cases hr
    obtain ⟨h1, h2, h3⟩ := hc
    rw [← bytes_list] at h1
    go_enter Tryz.func67, Tryz.ntmps67
    go_wp2_with (first
      | (go_at_call 74; refine (HP.out).mono ?_; rintro e w1 ⟨rfl, hb1⟩)
      | (go_at_call 30; refine (HD.out _ (HE.out.below hb1)).mono ?_; rintro e w2 ⟨rfl, hb2⟩)
      | (go_at_call 28; refine (isPoint_any _ _).mono ?_; rintro e w3 ⟨rfl, rfl⟩)
      | (go_at_call 29; refine (syllable_any _ _).mono ?_; rintro e w3 ⟨rfl, rfl⟩))
    go_ret
    exact ⟨rfl, hb1.trans (hb2.mono hb1.size)⟩

end Go.Proofs.YtgmafjaphnponaaGreatDoor
