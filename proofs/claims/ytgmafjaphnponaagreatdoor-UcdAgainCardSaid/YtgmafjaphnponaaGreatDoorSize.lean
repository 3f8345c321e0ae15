/- (*ucd.Data).size: how many parts to the end, for all data without loops; what is known is kept in a map. -/
import Derived.Test.YtgmafjaphnponaaGreatDoorLeads
namespace Go.Proofs.YtgmafjaphnponaaGreatDoor
open Go.RowKit Dov

theorem MarkV.grown {w w1 : World} {B k : Nat} {v : Value} {m : MarkD} (h : MarkV w B v m) (hg : w.grownBy w1 (some k)) {ents : Array MapEntry} {c : Nat} (hk : w.heap[k]? = some (.map ents c)) : MarkV w1 B v m := by
  obtain ⟨pv, h1, h2⟩ := h
  exact ⟨pv, h1, own_kept h2 hg (own_ne_map h2 hk)⟩
theorem MarksAt.grown {w w1 : World} {B r k : Nat} {ms : List MarkD} (h : MarksAt w B r ms) (hg : w.grownBy w1 (some k)) {ents : Array MapEntry} {c : Nat} (hk : w.heap[k]? = some (.map ents c)) (hne : r ≠ k) : MarksAt w1 B r ms := by
  obtain ⟨es, h1, h2, h3⟩ := h
  exact ⟨es, h1.grown hg (fun e => hne (Option.some.inj e)), h2, fun i e m he hm => (h3 i e m he hm).grown hg hk⟩
theorem blk_grown {w w1 : World} {b k : Nat} {o : Obj} (h : w.heap[b]? = some o) (hg : w.grownBy w1 (some k)) (hne : b ≠ k) : w1.heap[b]? = some o :=
  (hg.block b (blk_lt h) (fun e => hne (Option.some.inj e))).trans h
theorem grown_refl (w : World) (k : Option Nat) : w.grownBy w k := ⟨rfl, rfl, rfl, Nat.le_refl _, fun _ _ _ => rfl⟩
theorem grown_map (w : World) (r : Nat) (ents : Array MapEntry) : w.grownBy (mapWorld w r ents) (some r) := ⟨rfl, rfl, rfl, by simp [mapWorld], fun k _ hk => by
  simp only [mapWorld]
  rw [Array.getElem?_setIfInBounds_ne (fun e => hk (by rw [e]))]⟩
theorem grown_trans {a b c : World} {k : Option Nat} (h : a.grownBy b k) (h' : b.grownBy c k) : a.grownBy c k := World.grownBy.trans h h'

theorem lookI_put (es : List (Int × Value)) (k : Int) (v : Value) (j : Int) : lookI (putI es k v) j = if k = j then some v else lookI es j := by
  unfold putI
  by_cases hany : es.any (fun p => p.1 == k) = true
  · rw [if_pos hany]
    by_cases hkj : k = j
    · subst hkj
      rw [if_pos rfl]
      induction es with
      | nil => simp at hany
      | cons e es ih =>
        by_cases he : (e.1 == k) = true
        · have h1 : e.1 = k := by simpa using he
          simp [lookI, h1]
        · have he' : (e.1 == k) = false := by simpa using he
          have := ih (by simpa [he'] using hany)
          simp only [lookI, List.map_cons, he', Bool.false_eq_true, if_false, List.find?_cons] at this ⊢
          exact this
    · rw [if_neg hkj]
      clear hany
      induction es with
      | nil => rfl
      | cons e es ih =>
        simp only [lookI, List.map_cons, List.find?_cons] at ih ⊢
        by_cases he : (e.1 == k) = true
        · have h1 : e.1 = k := by simpa using he
          have hej : (e.1 == j) = false := by rw [h1]; simpa using hkj
          simp only [he, if_true, hej]
          exact ih
        · have he' : (e.1 == k) = false := by simpa using he
          simp only [he', Bool.false_eq_true, if_false]
          cases e.1 == j with
          | true => rfl
          | false => exact ih
  · rw [if_neg hany]
    have hn : ∀ x ∈ es, (x.1 == k) = false := by
      have : es.any (fun p => p.1 == k) = false := Bool.eq_false_iff.2 hany
      intro x hx
      have := List.any_eq_false.1 this x hx
      exact Bool.eq_false_iff.2 this
    unfold lookI
    rw [List.find?_append]
    by_cases hkj : k = j
    · subst hkj
      have : es.find? (fun p => p.1 == k) = none := List.find?_eq_none.2 (fun x hx => by simp [hn x hx])
      rw [this]
      simp
    · have : (k == j) = false := by simpa using hkj
      rw [if_neg hkj]
      simp [this]

/-- All that is known is so. -/
def KnownOk (ms : List MarkD) (es : List (Int × Value)) : Prop := ∀ k v, lookI es k = some v → ∃ f m, v = .int .i64 (m : Nat) ∧ sizeO ms f k = some m
theorem KnownOk.put {ms : List MarkD} {es : List (Int × Value)} (h : KnownOk ms es) {f : Nat} {p : Int} {n : Nat} (hn : sizeO ms f p = some n) : KnownOk ms (putI es p (.int .i64 (n : Nat))) := by
  intro k v hv
  rw [lookI_put] at hv
  split at hv
  · rename_i hk
    subst hk
    cases hv
    exact ⟨f, n, rfl, hn⟩
  · exact h k v hv

theorem zero_int (w : World) : (zeroValue 3).run Tryz.prog w = .ok (.int .i64 0) w := by kernel_rfl

/-- What size leaves. -/
def SizeEnd (ms : List MarkD) (kb : Nat) (w : World) (n : Nat) (e : Ending) (w' : World) : Prop :=
  e = .returned (.int .i64 (n : Nat)) ∧ w.grownBy w' (some kb) ∧ ∃ es, MapI w' kb es ∧ KnownOk ms es

set_option maxRecDepth 100000 in
set_option maxHeartbeats 4000000 in
theorem size_any (ms : List MarkD) (B db r kb : Nat) (hne : r ≠ kb) (f : Nat) : ∀ (p : Int) (n : Nat) (es : List (Int × Value)) (w : World), sizeO ms f p = some n → w.heap[db]? = some (.cells #[.map (some r)] 71 (0, 0)) → MarksAt w B r ms → MapI w kb es → KnownOk ms es →
    Calls Tryz.prog 38 #[.pointer (some ⟨db, 0, none⟩), .int .i64 p, .map (some kb)] w (SizeEnd ms kb w n) := by
  induction f with
  | zero => intro p n es w h; cases h
  | succ f ih =>
    intro p n es w hn hdb hms hmap hok
    have IH := Lib.hid ih
    clear ih
    have hlk := run_lookup_int (P := Tryz.prog) (w := w) Tryz.underlying72 Tryz.underlying3 hmap p true _ (zero_int w)
    simp only [if_true] at hlk
    cases hkn : lookI es p with
    | some v =>
      obtain ⟨f', m, rfl, hm⟩ := hok p v hkn
      have hmn := sizeO_inj ms hm hn
      subst hmn
      rw [hkn] at hlk
      simp at hlk
      have HE : Hid (SizeEnd ms kb w m (.returned (.int .i64 (m : Nat))) w) := ⟨rfl, grown_refl _ _, es, hmap, hok⟩
      clear hn hdb hms hmap hok hkn hm
      go_enter Tryz.func38, Tryz.ntmps38
      go_wp2
      go_ret
      exact HE.out
    | none =>
      rw [hkn] at hlk
      simp at hlk
      obtain ⟨pv, hrun, hown⟩ := hms.lookup p
      have hr0 := hrun false
      simp only [Bool.false_eq_true, if_false] at hr0
      have hcd : w.cell? ⟨db, 0, none⟩ = some (.map (some r)) := blk_cell hdb 0
      have hfl := field_parts
      have hkdb : db ≠ kb := by
        obtain ⟨ents, h1, _⟩ := hmap
        rintro rfl
        rw [h1] at hdb
        cases hdb
      rw [sizeO] at hn
      obtain ⟨n0, hs, hn0⟩ := Option.map_eq_some_iff.1 hn
      have hpl : (partsOf ms p).length ≤ 9223372036854775807 := by
        rcases hown.2 with ⟨_, h⟩ | ⟨g, cap, cur, _, _, _, h1, h2, _⟩
        · have : partsOf ms p = [] := by simpa using h
          rw [this]; simp
        · unfold maxLen at h2; omega
      obtain ⟨pa, pc, rfl⟩ : ∃ a c, pv = .slice a (partsOf ms p).length c := by
        rcases hown.2 with ⟨h, hx⟩ | ⟨g, cap, cur, h, _⟩
        · have : partsOf ms p = [] := by simpa using hx
          exact ⟨none, 0, by rw [h, this]; rfl⟩
        · exact ⟨_, _, h⟩
      have HDB := Lib.hid hdb
      have HMS := Lib.hid hms
      have HMAP := Lib.hid hmap
      have HOK := Lib.hid hok
      have HOWN := Lib.hid hown
      have HS := Lib.hid hs
      have HN0 := Lib.hid hn0
      have HN := Lib.hid hn
      have HPL := Lib.hid hpl
      clear hn hdb hms hmap hok hkn hrun hown hs hn0
      go_enter Tryz.func38, Tryz.ntmps38
      go_wp2
      go_loopw [9, 28] (fun v9 v28 wr => ∃ (k nn : Nat) (es : List (Int × Value)), v9 = .int .i64 (nn : Nat) ∧ v28 = .int .i64 (k : Nat) ∧ k ≤ (partsOf ms p).length ∧ nn ≤ 19 ∧
          Hid (sumO (sizeO ms f) ((partsOf ms p).drop k) nn = some n0 ∧ w.grownBy wr (some kb) ∧ MapI wr kb es ∧ KnownOk ms es))
        (fun _ v28 _ => (partsOf ms p).length - (intOf v28).toNat)
      case atStart => exact ⟨0, 0, es, rfl, rfl, Nat.zero_le _, by omega, HS.out, grown_refl _ _, HMAP.out, HOK.out⟩
      case round =>
        obtain ⟨k, nn, es1, rfl, rfl, hk, hnn, hh⟩ := hrel
        by_cases hkn : k < (partsOf ms p).length
        · obtain ⟨hsum, hg, hmap1, hok1⟩ := hh.out
          clear hh
          obtain ⟨ents0, hm0, _⟩ := HMAP.out
          have hdb1 := blk_grown HDB.out hg hkdb
          have hms1 := HMS.out.grown hg hm0 hne
          have hown1 := own_kept HOWN.out hg (own_ne_map HOWN.out hm0)
          obtain ⟨g, cap, hpv, _, _⟩ := hown1.form (by omega)
          cases hpv
          have hc : wr.cell? ⟨g, k, none⟩ = some (.int .i64 ((partsOf ms p)[k]'hkn)) := by
            have h1 := hown1.cells (g := g) rfl k (.int .i64 ((partsOf ms p)[k]'hkn)) (by simp [List.getElem?_eq_getElem hkn])
            have h2 : (⟨g, 0, none⟩ : Addr).add k = ⟨g, k, none⟩ := by unfold Addr.add; split <;> simp_all
            rwa [h2] at h1
          have hdrop : (partsOf ms p).drop k = (partsOf ms p)[k]'hkn :: (partsOf ms p).drop (k + 1) := List.drop_eq_getElem_cons hkn
          rw [hdrop, sumO] at hsum
          generalize (partsOf ms p)[k]'hkn = q at hc hsum
          cases hq : sizeO ms f q with
          | none => rw [hq] at hsum; cases hsum
          | some m =>
            rw [hq] at hsum
            have hm19 := (sizeO_le ms hq).2
            have HC := Lib.hid (IH.out q m es1 wr hq hdb1 hms1 hmap1 hok1)
            have HG := Lib.hid hg
            have HSUM := Lib.hid hsum
            have hkb : k < 9223372036854775807 := by have := HPL.out; omega
            have HKN := Lib.hid hkn
            clear hdb1 hms1 hown1 hmap1 hok1 hg hsum hdrop hq hlk hr0 hcd hfl hm0
            go_wp2_with fail
            refine (HC.out).mono ?_
            rintro e w2 ⟨rfl, hg2, es2, hmap2, hok2⟩
            have HH := Lib.hid (And.intro (grown_trans HG.out hg2) (And.intro hmap2 hok2))
            clear hg2 hmap2 hok2 HC
            go_wp2
            go_roundw
            case measure => have := HKN.out; simp [intOf]; omega
            case rel =>
              obtain ⟨h1, h2, h3⟩ := HH.out
              exact ⟨k + 1, min (nn + m) 19, es2, by congr 1; omega, by go_num, by have := HKN.out; omega, by omega, HSUM.out, h1, h2, h3⟩
        · obtain ⟨hsum, hg, hmap1, hok1⟩ := hh.out
          clear hh
          have hkk : k = (partsOf ms p).length := by omega
          subst hkk
          rw [List.drop_length, sumO] at hsum
          have hnn0 : nn = n0 := Option.some.inj hsum
          have hn1 : n = if nn = 0 then 1 else nn := by rw [hnn0]; exact HN0.out.symm
          have hfin : ∀ (v : Nat), n = v → ∃ w3, (Instr.mapUpdate 72 (.map (some kb)) (.int .i64 p) (.int .i64 (v : Nat))).run Tryz.prog wr = .ok () w3 ∧ SizeEnd ms kb w n (.returned (.int .i64 (v : Nat))) w3 := by
            intro v hv
            obtain ⟨ents, hmu, hmap3⟩ := run_mapUpdate_int (P := Tryz.prog) Tryz.underlying72 Tryz.underlying3 hmap1 p (.int .i64 (v : Nat))
            refine ⟨_, hmu, by rw [hv], grown_trans hg (grown_map _ _ _), _, hmap3, ?_⟩
            rw [← hv]
            exact hok1.put (f := f + 1) (by rw [sizeO]; exact HN.out)
          clear hsum hg hmap1 hok1 hnn0 hlk hr0 hcd
          by_cases hz : nn = 0
          · subst hz
            obtain ⟨w3, hmu, hend⟩ := hfin 1 (by rw [hn1]; rfl)
            have HE := Lib.hid hend
            have hmu' : (Instr.mapUpdate 72 (.map (some kb)) (.int .i64 p) (.int .i64 1)).run Tryz.prog wr = .ok () w3 := hmu
            clear hfin hend hn1 hmu
            go_wp2
            go_ret
            exact HE.out
          · obtain ⟨w3, hmu, hend⟩ := hfin nn (by rw [hn1, if_neg hz])
            have HE := Lib.hid hend
            have hzb : ((nn : Int) == 0) = false := by simp; exact hz
            clear hfin hend hn1 hz
            go_wp2
            go_ret
            exact HE.out
end Go.Proofs.YtgmafjaphnponaaGreatDoor
