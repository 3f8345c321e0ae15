/- What ucd.Load defers: the panic is caught, the results are laid. -/
import Derived.Test.YtgmafjaphnponaaGreatDoorSize
import Derived.Defers
import Derived.Recover
import Derived.Laws.Pointers
import Derived.BigRegion
namespace Go.Proofs.YtgmafjaphnponaaGreatDoor
open Go.RowKit Dov

/-- The three results of Load, each in a variable of its own. -/
def Res3 (w : World) (D : Nat) (d : Value) (e l : Int) : Prop :=
  w.heap[D]? = some (.cells #[d] 28 (0, 0)) ∧ w.heap[D + 1]? = some (.cells #[.int .i64 e] 24 (0, 0)) ∧ w.heap[D + 2]? = some (.cells #[.int .i64 l] 3 (0, 0))

theorem assert_fault (c : Int) (W : World) : (Instr.typeAssert (.iface 67 (.agg #[.int .i64 c])) 20 67 true).run Tryz.prog W = .ok (.tuple #[.agg #[.int .i64 c], .bool true]) W := by kernel_rfl

theorem res3_laid {w : World} {D : Nat} {d0 : Value} {e0 l0 n c : Int} (hr : Res3 w D d0 e0 l0) (_ : w.heap[D + 3]? = some (.cells #[.int .i64 n] 3 (0, 0))) (o : Obj) :
    Res3 ((((w.setCell ⟨D, 0, none⟩ (.pointer none)).setCell ⟨D + 1, 0, none⟩ (.int .i64 c)).setCell ⟨D + 2, 0, none⟩ (.int .i64 n)).alloc o).drew D (.pointer none) c n ∧
    Below D w ((((w.setCell ⟨D, 0, none⟩ (.pointer none)).setCell ⟨D + 1, 0, none⟩ (.int .i64 c)).setCell ⟨D + 2, 0, none⟩ (.int .i64 n)).alloc o).drew := by
  obtain ⟨h0, h1, h2⟩ := hr
  have a0 := blk_set h0 0 (.pointer none)
  have a1 := blk_other (a := ⟨D, 0, none⟩) (v := .pointer none) h1 (by simp)
  have a2 := blk_other (a := ⟨D, 0, none⟩) (v := .pointer none) h2 (by simp)
  have b0 := blk_other (a := ⟨D + 1, 0, none⟩) (v := .int .i64 c) a0 (by simp)
  have b1 := blk_set a1 0 (.int .i64 c)
  have b2 := blk_other (a := ⟨D + 1, 0, none⟩) (v := .int .i64 c) a2 (by simp)
  have c0 := blk_other (a := ⟨D + 2, 0, none⟩) (v := .int .i64 n) b0 (by simp)
  have c1 := blk_other (a := ⟨D + 2, 0, none⟩) (v := .int .i64 n) b1 (by simp)
  have c2 := blk_set b2 0 (.int .i64 n)
  refine ⟨⟨blk_alloc c0, blk_alloc c1, blk_alloc c2⟩, ?_⟩
  have hlt := blk_lt h0
  exact (((((Below.refl D w).setCell (Nat.le_refl _) _).setCell (by simp) _).setCell (by simp) _).alloc (by simp; omega) _).drew

set_option maxRecDepth 100000 in
set_option maxHeartbeats 4000000 in
theorem load_caught (D : Nat) (d0 : Value) (e0 l0 n c : Int) (older : List PanicEntry) (w : World) (hr : Res3 w D d0 e0 l0) (ha : w.heap[D + 3]? = some (.cells #[.int .i64 n] 3 (0, 0))) :
    CallsD Tryz.prog 34 #[.pointer (some ⟨D + 3, 0, none⟩), .pointer (some ⟨D, 0, none⟩), .pointer (some ⟨D + 1, 0, none⟩), .pointer (some ⟨D + 2, 0, none⟩)] (.panicking ({ v := faultV c, recovered := false } :: older)) w fun e u' w' =>
      e = .returned (.tuple #[]) ∧ u' = .panicking ({ v := faultV c, recovered := true } :: older) ∧ Res3 w' D (.pointer none) c n ∧ Below D w w' := by
  obtain ⟨h0, h1, h2⟩ := hr
  have c0 := blk_cell h0 0
  have c1 := blk_cell h1 0
  have c2 := blk_cell h2 0
  have c3 := blk_cell ha 0
  have f0 := blk_frozen h0 0
  have f1 := blk_frozen h1 0
  have f2 := blk_frozen h2 0
  have hlt : D + 3 < w.heap.size := blk_lt ha
  have hl0 : D < w.heap.size := by omega
  have hl1 : D + 1 < w.heap.size := by omega
  have hl2 : D + 2 < w.heap.size := by omega
  simp at c0 c1 c2 c3
  refine callsD_of_wpS Tryz.func34 rfl fun c₀ cs hu => ?_
  apply wpS_seq
  apply wpS_region
  simp [wpOpsS, go_sem, recoverD, hu, Tryz.ntmps34, Exit.thenS, faultV]
  refine wpS_of_wp ?_
  have HR := Lib.hid (And.intro h0 (And.intro h1 (And.intro h2 ha)))
  have HU := Lib.hid hu
  have hta := assert_fault c
  clear hu h0 h1 h2 ha
  simp only [Array.replicate_succ, Array.replicate_zero, List.push_toArray, List.append_toArray, List.nil_append, List.cons_append, List.setIfInBounds_toArray, List.set_cons_succ, List.set_cons_zero]
  go_wp2
  refine wp_region_any (by kernel_rfl) ?_
  change wpAny _ _ _ _ _ _ _ (World.drew _)
  refine wpAny_take (i := 0) (v := ?v0) rfl (by kernel_rfl) (by kernel_rfl) (by kernel_rfl) (fun _ _ _ h => h) (Or.inl ⟨by rfl, ?h0⟩) ?_
  case h0 =>
    intro w
    go_simp
    try with_reducible rfl
  refine wpAny_ready (rs := [1, 2]) (by kernel_rfl) (by simp) ?_
  refine AllReady.cons rfl (fun K hK => ?_) ?_
  · skip
    go_simp
    refine hK _ _ ?_
    clear hK K
    refine wpAny_ready (rs := [2]) (by kernel_rfl) (by simp) ?_
    refine AllReady.cons rfl (fun K hK => ?_) AllReady.nil
    go_simp
    refine hK _ _ ?_
    clear hK K
    refine wpAny_ready (rs := [3]) (by kernel_rfl) (by simp) ?_
    refine AllReady.cons rfl (fun K hK => ?_) AllReady.nil
    go_simp
    refine hK _ _ ?_
    clear hK K
    refine wpAny_ready (rs := [4]) (by kernel_rfl) (by simp) ?_
    refine AllReady.cons rfl (fun K hK => ?_) AllReady.nil
    go_simp
    refine hK _ _ ?_
    clear hK K
    refine wpAny_ready (rs := [5]) (by kernel_rfl) (by simp) ?_
    refine AllReady.cons rfl (fun K hK => ?_) AllReady.nil
    go_simp
    refine hK _ _ ?_
    clear hK K
    refine wpAny_done (by kernel_rfl) ?_ _
    obtain ⟨k0, k1, k2, k3⟩ := HR.out
    have KR := res3_laid (c := c) ⟨k0, k1, k2⟩ k3 (.cells #[.int .i64 c] 67)
    exact ⟨rfl, _, rfl, .tuple #[], by simp [results, Tryz.results34], rfl, rfl, KR.1, KR.2⟩
  refine AllReady.cons rfl (fun K hK => ?_) AllReady.nil
  go_simp
  refine hK _ _ ?_
  clear hK K
  refine wpAny_ready (rs := [1, 3]) (by kernel_rfl) (by simp) ?_
  refine AllReady.cons rfl (fun K hK => ?_) ?_
  · skip
    go_simp
    refine hK _ _ ?_
    clear hK K
    refine wpAny_ready (rs := [3]) (by kernel_rfl) (by simp) ?_
    refine AllReady.cons rfl (fun K hK => ?_) AllReady.nil
    go_simp
    refine hK _ _ ?_
    clear hK K
    refine wpAny_ready (rs := [4]) (by kernel_rfl) (by simp) ?_
    refine AllReady.cons rfl (fun K hK => ?_) AllReady.nil
    go_simp
    refine hK _ _ ?_
    clear hK K
    refine wpAny_ready (rs := [5]) (by kernel_rfl) (by simp) ?_
    refine AllReady.cons rfl (fun K hK => ?_) AllReady.nil
    go_simp
    refine hK _ _ ?_
    clear hK K
    refine wpAny_done (by kernel_rfl) ?_ _
    obtain ⟨k0, k1, k2, k3⟩ := HR.out
    have KR := res3_laid (c := c) ⟨k0, k1, k2⟩ k3 (.cells #[.int .i64 c] 67)
    exact ⟨rfl, _, rfl, .tuple #[], by simp [results, Tryz.results34], rfl, rfl, KR.1, KR.2⟩
  refine AllReady.cons rfl (fun K hK => ?_) AllReady.nil
  go_simp
  refine hK _ _ ?_
  clear hK K
  refine wpAny_ready (rs := [1]) (by kernel_rfl) (by simp) ?_
  refine AllReady.cons rfl (fun K hK => ?_) AllReady.nil
  go_simp
  refine hK _ _ ?_
  clear hK K
  refine wpAny_ready (rs := [4]) (by kernel_rfl) (by simp) ?_
  refine AllReady.cons rfl (fun K hK => ?_) AllReady.nil
  go_simp
  refine hK _ _ ?_
  clear hK K
  refine wpAny_ready (rs := [5]) (by kernel_rfl) (by simp) ?_
  refine AllReady.cons rfl (fun K hK => ?_) AllReady.nil
  go_simp
  refine hK _ _ ?_
  clear hK K
  refine wpAny_done (by kernel_rfl) ?_ _
  obtain ⟨k0, k1, k2, k3⟩ := HR.out
  have KR := res3_laid (c := c) ⟨k0, k1, k2⟩ k3 (.cells #[.int .i64 c] 67)
  exact ⟨rfl, _, rfl, .tuple #[], by simp [results, Tryz.results34], rfl, rfl, KR.1, KR.2⟩

set_option maxRecDepth 100000 in
theorem load_idle (p0 p1 p2 p3 : Value) (w : World) :
    CallsD Tryz.prog 34 #[p0, p1, p2, p3] .returning w fun e u' w' => e = .returned (.tuple #[]) ∧ u' = .returning ∧ w = w' := by
  refine callsD_of_wpS Tryz.func34 rfl fun c₀ cs hu => ?_
  apply wpS_seq
  apply wpS_region
  simp [wpOpsS, go_sem, recoverD, hu, Tryz.ntmps34, Exit.thenS]
  refine wpS_of_wp ?_
  simp only [Array.replicate_succ, Array.replicate_zero, List.push_toArray, List.append_toArray, List.nil_append, List.cons_append, List.setIfInBounds_toArray, List.set_cons_succ, List.set_cons_zero]
  have HU := Lib.hid hu
  clear hu
  go_wp2
  cases c₀
  have hm := HU.out
  simp at hm
  subst hm
  exact ⟨rfl, _, rfl, .tuple #[], by simp [results, Tryz.results34], rfl, rfl, rfl⟩
end Go.Proofs.YtgmafjaphnponaaGreatDoor
