/- min and max of more than four values, one step at a time (as PrintMore has it for up to four); a cell that was written twice. -/
import Derived.Test.YtkldfjlbgmppfabWMore
namespace Go.Proofs.Ytkldfjlbgmppfab.Wide
theorem min_eight (ats : Array TypeId) (ty : TypeId) (a b c d e f g h : Value) : Builtin.min_ ats ty #[a, b, c, d, e, f, g, h] = (Builtin.min2 a b >>= fun s => Builtin.min2 s c >>= fun s => Builtin.min2 s d >>= fun s => Builtin.min2 s e >>= fun s => Builtin.min2 s f >>= fun s => Builtin.min2 s g >>= fun s => Builtin.min2 s h >>= fun s => pure s) := by
  simp only [Builtin.min_, List.foldlM_cons, List.foldlM_nil]
theorem max_nine (ats : Array TypeId) (ty : TypeId) (a b c d e f g h i : Value) : Builtin.max_ ats ty #[a, b, c, d, e, f, g, h, i] = (Builtin.max2 a b >>= fun s => Builtin.max2 s c >>= fun s => Builtin.max2 s d >>= fun s => Builtin.max2 s e >>= fun s => Builtin.max2 s f >>= fun s => Builtin.max2 s g >>= fun s => Builtin.max2 s h >>= fun s => Builtin.max2 s i >>= fun s => pure s) := by
  simp only [Builtin.max_, List.foldlM_cons, List.foldlM_nil]
/-- A cell that was written twice. -/
theorem cell_twice (w : World) (a : Addr) (v v' : Value) (h : (w.cell? a).isSome = true) : ((w.setCell a v).setCell a v').cell? a = some v' :=
  World.cell?_setCell_same' _ a v' (by rw [World.cell?_setCell_same' w a v h]; rfl)
end Go.Proofs.Ytkldfjlbgmppfab.Wide
