/- What the package-level variables of Go's library hold, as far as the calls here read them; and that it lasts. -/
import Derived.Test.YtgmafjaphnponaaGreatDoorProg
import Derived.Below
import Derived.WalkSmall
import Derived.Lib.ItoaMem
import Derived.Lib.Hide
import Derived.LaidLaws
import Derived.KernelRfl
namespace Go.Proofs.YtgmafjaphnponaaGreatDoor
open Go.RowKit

structure Env (w : World) : Prop where
  maxlen : ∃ m, w.cell? ⟨2, 0, none⟩ = some (.int .i64 m)
  db : w.cell? ⟨8, 15, none⟩ = some (.int .u8 4)
  p10 : Lib.TabIs Tryz.prog w "internal/strconv.uint64pow10" .u64 Lib.pow10Tab
  esyn : ∃ tp p, w.var? Tryz.prog "strconv.ErrSyntax" = some #[.iface tp p]
  erng : ∃ tp p, w.var? Tryz.prog "strconv.ErrRange" = some #[.iface tp p]

theorem Env.below {w w' : World} (h : Env w) (hb : Below w.heap.size w w') : Env w' := by
  obtain ⟨⟨m, h1⟩, h2, h3, ⟨t1, p1, h4⟩, ⟨t2, p2, h5⟩⟩ := h
  refine ⟨⟨m, (hb.cell (World.block_lt_of_cell? w _ h1)).trans h1⟩, (hb.cell (World.block_lt_of_cell? w _ h2)).trans h2, ?_, ⟨t1, p1, ?_⟩, ⟨t2, p2, ?_⟩⟩
  · have hg : Tryz.prog.globalNamed "internal/strconv.uint64pow10" = some 1 := by kernel_rfl
    have hc := World.var?_cell hg h3 0
    exact var?_below hb hg (World.block_lt_of_cell? w _ (by rw [hc]; rfl)) h3
  · have hg : Tryz.prog.globalNamed "strconv.ErrSyntax" = some 3 := by kernel_rfl
    have hc := World.var?_cell hg h4 0
    exact var?_below hb hg (World.block_lt_of_cell? w _ (by rw [hc]; rfl)) h4
  · have hg : Tryz.prog.globalNamed "strconv.ErrRange" = some 4 := by kernel_rfl
    have hc := World.var?_cell hg h5 0
    exact var?_below hb hg (World.block_lt_of_cell? w _ (by rw [hc]; rfl)) h5
end Go.Proofs.YtgmafjaphnponaaGreatDoor
