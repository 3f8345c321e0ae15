/- (*ucd.Data).Class, Parts, ends: what they answer, for all data without loops. -/
import Derived.Test.YtgmafjaphnponaaGreatDoorLoadI
import Derived.Test.YtgmafjaphnponaaGreatDoorDig
namespace Dov
/-- One behind the other; not more than fits by far. -/
def endsO (g : Int → Option (List Int)) : List Int → List Int → Option (List Int)
  | [], acc => some acc
  | q :: l, acc => match g q with
    | none => none
    | some a => if acc.length + a.length ≤ 1000000 then endsO g l (acc ++ a) else none
/-- A syllable's two or three letters. -/
def sylL (p : Int) : List Int := [4352 + (p - 44032) / 588, 4449 + (p - 44032) % 588 / 28] ++ (if (p - 44032) % 28 = 0 then [] else [4519 + (p - 44032) % 28])
def partsO (ms : List MarkD) : Nat → Int → Option (List Int)
  | 0, _ => none
  | f + 1, p => if isSyl p then endsO (partsO ms f) (sylL p) [] else if partsOf ms p = [] then some [p] else endsO (partsO ms f) (partsOf ms p) []
end Dov
namespace Go.Proofs.YtgmafjaphnponaaGreatDoor
open Go.RowKit Dov

theorem field_class (a b c : Value) (W : World) : (Instr.field 60 (.agg #[a, b, c]) 1).run Tryz.prog W = .ok b W := by kernel_rfl

set_option maxRecDepth 100000 in
set_option maxHeartbeats 4000000 in
theorem class_any (d : Value) (ms : List MarkD) (B : Nat) (p : Int) (w : World) (hd : DataAt w B d ms) :
    Calls Tryz.prog 25 #[d, .int .i64 p] w fun e w' => e = .returned (.int .i64 (lookMark ms p).2.1) ∧ w' = w := by
  obtain ⟨db, r, rfl, hdb, hms⟩ := hd
  have hcd : w.cell? ⟨db, 0, none⟩ = some (.map (some r)) := blk_cell hdb 0
  obtain ⟨pv, hrun, _⟩ := hms.lookup p
  have hr0 := hrun false
  simp only [Bool.false_eq_true, if_false] at hr0
  have hfc := field_class
  clear hrun hms hdb
  go_enter Tryz.func25, Tryz.ntmps25
  go_wp2
  go_ret
  exact ⟨rfl, rfl⟩

/-- What Parts and ends leave: a row of their own. -/
def RowEnd (w : World) (r : List Int) (e : Ending) (w' : World) : Prop :=
  ∃ v, e = .returned v ∧ w'.ownsRow w.heap.size 3 1 v r.length (r.map (Value.int .i64)) ∧ Below w.heap.size w w'

set_option maxRecDepth 100000 in
set_option maxHeartbeats 4000000 in
theorem ends_any (ms : List MarkD) (g : Int → Option (List Int)) (db rb B B' : Nat)
    (IH : ∀ (q : Int) (r : List Int) (w : World), g q = some r → w.heap[db]? = some (.cells #[.map (some rb)] 71 (0, 0)) → MarksAt w B rb ms → Calls Tryz.prog 33 #[.pointer (some ⟨db, 0, none⟩), .int .i64 q] w (RowEnd w r))
    (l r : List Int) (lv : Value) (w : World) (hl : l.length ≤ 1099511627776) (hr : endsO g l [] = some r) (hdb : w.heap[db]? = some (.cells #[.map (some rb)] 71 (0, 0))) (hms : MarksAt w B rb ms)
    (hlv : w.ownsRow B' 3 1 lv l.length (l.map (Value.int .i64))) :
    Calls Tryz.prog 65 #[.pointer (some ⟨db, 0, none⟩), lv] w (RowEnd w r) := by
  obtain ⟨la, lc, rfl⟩ : ∃ a c, lv = .slice a l.length c := by
    rcases hlv.2 with ⟨h3, hx⟩ | ⟨g, cap, cur, h3, _⟩
    · have : l = [] := by simpa using hx
      exact ⟨none, 0, by rw [h3, this]; rfl⟩
    · exact ⟨_, _, h3⟩
  have HIH := Lib.hid IH
  have HR := Lib.hid hr
  have HDB := Lib.hid hdb
  have HMS := Lib.hid hms
  have HLV := Lib.hid hlv
  have hown0 : Hid (w.ownsRow w.heap.size 3 1 (.slice none 0 0) 0 []) := ⟨by simp, .inl ⟨rfl, rfl⟩⟩
  clear IH hr hdb hms hlv
  go_enter Tryz.func65, Tryz.ntmps65
  go_wp2
  go_loopw [5, 10] (fun v5 v10 wr => ∃ (k : Nat) (out : List Int), v10 = .int .i64 (k : Nat) ∧ k ≤ l.length ∧ Hid (
      endsO g (l.drop k) out = some r ∧ wr.ownsRow w.heap.size 3 1 v5 out.length (out.map (Value.int .i64)) ∧ Below w.heap.size w wr))
    (fun _ v10 _ => l.length - (intOf v10).toNat)
  case atStart => exact ⟨0, [], rfl, Nat.zero_le _, HR.out, hown0.out, Below.refl _ _⟩
  case round =>
    obtain ⟨k, out, rfl, hk, hh⟩ := hrel
    obtain ⟨hre, hout, hB⟩ := hh.out
    clear hh
    by_cases hkn : k < l.length
    · have hlv := own_below HLV.out hB
      obtain ⟨gl, cap, hpv, _, _⟩ := hlv.form (by omega)
      cases hpv
      have hc : wr.cell? ⟨gl, k, none⟩ = some (.int .i64 (l[k]'hkn)) := by
        have h1 := hlv.cells (g := gl) rfl k (.int .i64 (l[k]'hkn)) (by simp [List.getElem?_eq_getElem hkn])
        have h2 : (⟨gl, 0, none⟩ : Addr).add k = ⟨gl, k, none⟩ := by unfold Addr.add; split <;> simp_all
        rwa [h2] at h1
      have hdrop : l.drop k = l[k]'hkn :: l.drop (k + 1) := List.drop_eq_getElem_cons hkn
      rw [hdrop, endsO] at hre
      generalize l[k]'hkn = q at hc hre
      cases hq : g q with
      | none => rw [hq] at hre; cases hre
      | some a =>
        rw [hq] at hre
        dsimp only at hre
        split at hre
        · rename_i hroom
          have HC := Lib.hid (HIH.out q a wr hq (blk_later hB HDB.out) (HMS.out.below hB))
          have HH := Lib.hid (And.intro hre (And.intro hout hB))
          have HROOM := Lib.hid hroom
          have HKN := Lib.hid hkn
          have hkb : k < 1099511627776 := by omega
          have hwsz : w.heap.size ≤ wr.heap.size := hB.size
          clear hre hout hB hlv hdrop hq hroom hkn
          go_wp2_with fail
          refine (HC.out).mono ?_
          rintro e w2 ⟨v1, rfl, hv1, hb2⟩
          obtain ⟨hre, hout, hB⟩ := HH.out
          have hroom := HROOM.out
          have hout2 := own_below hout hb2
          have hB2 := hB.trans (hb2.mono hwsz)
          have hs2 : w.heap.size ≤ w2.heap.size := hB2.size
          obtain ⟨i0, hi, hz0, hz1, hz2⟩ := info_parts info_int
          have hsep : ∀ g2 : Nat, v1.ownBlock = some g2 → u5.ownBlock ≠ some g2 := by
            intro g2 h1 h2
            have := own_lt hv1 g2 h1
            have := own_lt hout g2 h2
            omega
          rcases hv1.2 with ⟨rfl, hx⟩ | ⟨g2, cap2, cur2, rfl, _⟩
          · have ha : a = [] := by simpa using hx
            subst ha
            obtain ⟨oa, oc, rfl, hoc⟩ : ∃ oa oc, u5 = .slice oa out.length oc ∧ out.length ≤ oc := by
              rcases hout.2 with ⟨h3, hx⟩ | ⟨g, cap, cur, h3, _, _, h1, h2, h4, _⟩
              · have : out = [] := by simpa using hx
                exact ⟨none, 0, by rw [h3, this]; rfl, by rw [this]; simp⟩
              · exact ⟨_, _, h3, by omega⟩
            have happ := run_append_nil (P := Tryz.prog) w2 (t := 43) (ty := 43) Tryz.underlying43 hi oa out.length oc hoc
            have HE := Lib.hid (And.intro hre (And.intro hout2 hB2))
            clear hre hout hB hout2 hB2 hsep hv1 hb2 HH HC hroom hx
            rcases oa with _ | oa
            all_goals
              go_wp2
              go_roundw
              case measure => have := HKN.out; simp [intOf]; omega
              case rel =>
                obtain ⟨h1, h2, h3⟩ := HE.out
                exact ⟨k + 1, out, by go_num, by have := HKN.out; omega, by simpa using h1, h2, h3⟩
          · have hcells : ∀ (j : Nat) u, (a.map (Value.int .i64))[j]? = some u → w2.cell? ((⟨g2, 0, none⟩ : Addr).add j) = some u := fun j u hu => hv1.cells (g := g2) rfl j u hu
            have HCE := Lib.hid hcells
            have HO := Lib.hid hout2
            have HE := Lib.hid (And.intro hre hB2)
            clear hre hout hB hout2 hB2 hsep hv1 hb2 HH HC hcells
            go_wp2_with (at_builtin; refine wpList_append_own_at _ rfl _ _ 43 rfl w.heap.size 3 i0 (.int .i64 0) 1 8 Tryz.underlying43 hi hz0 hz1 hz2 rfl (by decide) u5 out.length (out.map (Value.int .i64)) rfl HO.out ⟨g2, 0, none⟩ a.length cap2 (a.map (Value.int .i64)) rfl (by simp) HCE.out (by intro u hu; obtain ⟨x, _, rfl⟩ := List.mem_map.1 hu; rfl) (by unfold maxLen; omega) (by omega) hs2 ?_; intro v4 w4 hown4 hg4 _ hat4)
            go_roundw
            case measure => have := HKN.out; simp [intOf]; omega
            case rel =>
              obtain ⟨h1, h2⟩ := HE.out
              refine ⟨k + 1, out ++ a, by go_num, by have := HKN.out; omega, h1, by simpa using hown4, ?_⟩
              exact h2.grown hg4 h2.size (fun k hk => (own_lt HO.out k hk).1)
        · cases hre
    · obtain rfl : k = l.length := by omega
      rw [List.drop_length, endsO] at hre
      obtain rfl : out = r := Option.some.inj hre
      have HE : Hid (RowEnd w out (.returned u5) wr) := ⟨u5, rfl, hout, hB⟩
      clear hre hout hB
      go_wp2
      go_ret
      exact HE.out

theorem sylL_shape (p : Int) (h : isSyl p = true) : 0 ≤ p - 44032 ∧ p - 44032 < 11172 := by
  unfold isSyl at h
  have := of_decide_eq_true h
  omega

set_option maxRecDepth 100000 in
set_option maxHeartbeats 4000000 in
theorem parts_any (ms : List MarkD) (db rb B : Nat) (hlen : ∀ p, (partsOf ms p).length ≤ 1099511627776) (f : Nat) : ∀ (p : Int) (r : List Int) (w : World), partsO ms f p = some r → w.heap[db]? = some (.cells #[.map (some rb)] 71 (0, 0)) → MarksAt w B rb ms →
    Calls Tryz.prog 33 #[.pointer (some ⟨db, 0, none⟩), .int .i64 p] w (RowEnd w r) := by
  induction f with
  | zero => intro p r w h; cases h
  | succ f ih =>
    intro p r w hr hdb hms
    have HE := Lib.hid (fun (l : List Int) (lv : Value) (B' : Nat) (w : World) (hl : l.length ≤ 1099511627776) => ends_any ms (partsO ms f) db rb B B' ih l r lv w hl)
    have HS := Lib.hid (syllable_any p w)
    have hcd : w.cell? ⟨db, 0, none⟩ = some (.map (some rb)) := blk_cell hdb 0
    obtain ⟨pv, hrun, hown⟩ := hms.lookup p
    have hr0 := hrun false
    simp only [Bool.false_eq_true, if_false] at hr0
    have HDB := Lib.hid hdb
    have HMS := Lib.hid hms
    have HR := Lib.hid hr
    have HOWN := Lib.hid hown
    clear hrun ih hr hdb hms hown
    go_enter Tryz.func33, Tryz.ntmps33
    go_wp2_with fail
    refine (HS.out).mono ?_
    rintro e w1 ⟨rfl, rfl⟩
    have hr := HR.out
    rw [partsO] at hr
    cases hsy : isSyl p with
    | true =>
      rw [hsy, if_pos rfl] at hr
      have hs := sylL_shape p hsy
      clear hr0 hcd HS
      have hrow := World.ownsRow_lit (base := w.heap.size) (e := 3) (size := 1) w #[.int .i64 (4352 + (p - 44032) / 588), .int .i64 (4449 + (p - 44032) % 588 / 28)] 2 (Nat.le_refl _) (by unfold maxLen; omega) rfl
      have hB1 : Below w.heap.size w (w.alloc (.cells #[.int .i64 (4352 + (p - 44032) / 588), .int .i64 (4449 + (p - 44032) % 588 / 28)] 3)) := (Below.refl _ _).alloc (Nat.le_refl _) _
      have hs1 : w.heap.size ≤ (w.alloc (.cells #[.int .i64 (4352 + (p - 44032) / 588), .int .i64 (4449 + (p - 44032) % 588 / 28)] 3)).heap.size := by simp
      simp only [sylL] at hr
      by_cases hz : (p - 44032) % 28 = 0
      · have hzb : ((p - 44032) % 28 == 0) = true := by simpa using hz
        rw [if_pos hz] at hr
        go_wp2_with fail
        generalize w.alloc _ = W1 at hrow hB1 hs1 ⊢
        refine (HE.out _ _ w.heap.size W1 (by simp) hr (blk_later hB1 HDB.out) (HMS.out.below hB1) (by simpa using hrow)).mono ?_
        rintro e w2 ⟨v, rfl, hv, hb2⟩
        have HF : Hid (RowEnd w r (.returned v) w2) := ⟨v, rfl, own_base hv hs1, hB1.trans (hb2.mono hs1)⟩
        clear hrow hB1 hs1 hv hb2
        go_wp2
        go_ret
        exact HF.out
      · have hzb : ((p - 44032) % 28 == 0) = false := by simpa using hz
        rw [if_neg hz] at hr
        obtain ⟨i0, hi, hz0, hz1, hz2⟩ := info_parts info_int
        have HB1 := Lib.hid hB1
        have HROW := Lib.hid hrow
        have HRR := Lib.hid hr
        clear hr hB1 hrow
        go_wp2_with (at_builtin; refine wpList_append_own_at _ rfl _ _ 43 rfl w.heap.size 3 i0 (.int .i64 0) 1 8 Tryz.underlying43 hi hz0 hz1 hz2 rfl (by decide) _ 2 _ rfl (HROW.out.alloc _) ⟨(w.alloc (.cells #[.int .i64 (4352 + (p - 44032) / 588), .int .i64 (4449 + (p - 44032) % 588 / 28)] 3)).heap.size, 0, none⟩ 1 1 [.int .i64 (4519 + (p - 44032) % 28)] (by simp [go_sem]) rfl (World.news_of_block (blk_new _)) (by intro u hu; simp at hu; subst hu; rfl) (by unfold maxLen; omega) (by omega) (by simp; omega) ?_; intro v8 W7 hown7 hg7 _ hat7)
        have hB7 : Below w.heap.size w W7 := (HB1.out.alloc hs1 _).grown hg7 (by simp <;> omega) (fun j hj => by have e : w.heap.size = j := Option.some.inj hj; omega)
        refine (HE.out _ _ w.heap.size W7 (by simp) HRR.out (blk_later hB7 HDB.out) (HMS.out.below hB7) (by simpa using hown7)).mono ?_
        rintro e w2 ⟨v, rfl, hv, hb2⟩
        have HF : Hid (RowEnd w r (.returned v) w2) := ⟨v, rfl, own_base hv hB7.size, hB7.trans (hb2.mono hB7.size)⟩
        clear hown7 hg7 hat7 hB7 hv hb2 hs1
        go_wp2
        go_ret
        exact HF.out
    | false =>
      rw [hsy] at hr
      simp only [Bool.false_eq_true, if_false] at hr
      have hpl := hlen p
      have hown := HOWN.out
      obtain ⟨pa, pc, rfl⟩ := slice_form hown
      have hB1 : Below w.heap.size w (w.alloc (.cells #[.int .i64 (lookMark ms p).1, .int .i64 (lookMark ms p).2.1, .slice pa (partsOf ms p).length pc] 60)) := (Below.refl _ _).alloc (Nat.le_refl _) _
      have hM := blk_new (w := w) (.cells #[.int .i64 (lookMark ms p).1, .int .i64 (lookMark ms p).2.1, .slice pa (partsOf ms p).length pc] 60)
      have hs1 : (w.alloc (.cells #[.int .i64 (lookMark ms p).1, .int .i64 (lookMark ms p).2.1, .slice pa (partsOf ms p).length pc] 60)).heap.size = w.heap.size + 1 := by simp
      by_cases hz : partsOf ms p = []
      · rw [if_pos hz] at hr
        obtain rfl : [p] = r := Option.some.inj hr
        have hzl : (partsOf ms p).length = 0 := by rw [hz]; rfl
        rw [hzl] at hr0 hM hB1 hs1
        clear hr hown hz hzl HS HE hpl
        go_wp2_with fail
        have hrow := World.ownsRow_lit (base := w.heap.size) (e := 3) (size := 1) (w.alloc (.cells #[.int .i64 (lookMark ms p).1, .int .i64 (lookMark ms p).2.1, .slice pa 0 pc] 60)) #[.int .i64 p] 1 (by simp) (by unfold maxLen; omega) rfl
        rw [hs1] at hrow
        have HF : Hid (RowEnd w [p] (.returned (.slice (some ⟨w.heap.size + 1, 0, none⟩) 1 1)) ((w.alloc (.cells #[.int .i64 (lookMark ms p).1, .int .i64 (lookMark ms p).2.1, .slice pa 0 pc] 60)).alloc (.cells #[.int .i64 p] 3))) := ⟨_, rfl, by simpa using hrow, hB1.alloc (by rw [hs1]; omega) _⟩
        go_ret
        exact HF.out
      · rw [if_neg hz] at hr
        have hzl : (((partsOf ms p).length : Int) == 0) = false := by
          have : (partsOf ms p).length ≠ 0 := fun h => hz (List.eq_nil_of_length_eq_zero h)
          simp
          exact hz
        have HRR := Lib.hid hr
        have HB1 := Lib.hid hB1
        clear hr hown hz HS hB1
        go_wp2_with fail
        have hB1 := HB1.out
        refine (HE.out _ _ B _ hpl HRR.out (blk_later hB1 HDB.out) (HMS.out.below hB1) (own_below HOWN.out hB1)).mono ?_
        rintro e w2 ⟨v, rfl, hv, hb2⟩
        have HF : Hid (RowEnd w r (.returned v) w2) := ⟨v, rfl, own_base hv hB1.size, hB1.trans (hb2.mono hB1.size)⟩
        clear hB1 hv hb2 hs1 hM HB1
        go_wp2
        go_ret
        exact HF.out
end Go.Proofs.YtgmafjaphnponaaGreatDoor
