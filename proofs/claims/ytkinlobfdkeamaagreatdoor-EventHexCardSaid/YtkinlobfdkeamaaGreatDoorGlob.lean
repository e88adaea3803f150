/- What the library's own variables hold, as the walks need it, and that it stays so. -/
import Derived.Test.YtkinlobfdkeamaaGreatDoorRows
import Derived.WalkKit
import Derived.Deep.Draws
namespace Go.Proofs.YtkinlobfdkeamaaGreatDoor
open Go.RowKit

def bruijn64 : List Int := [0, 1, 56, 2, 57, 49, 28, 3, 61, 58, 42, 50, 38, 29, 17, 4, 62, 47, 59, 36, 45, 43, 51, 22, 53, 39, 33, 30, 24, 18, 12, 5, 63, 55, 48, 27, 60, 41, 37, 16, 46, 35, 44, 21, 52, 32, 23, 11, 54, 26, 40, 15, 34, 20, 31, 10, 25, 14, 19, 9, 13, 8, 7, 6]

/-- What the library's variables hold. -/
structure Glob (w : World) : Prop where
  br64 : ∀ j, j < 64 → w.cell? ⟨4, j, none⟩ = some (.int .u8 (bruijn64.getD j 0))

theorem cellLater {w wx : World} {a : Addr} {v : Value} (hb : Below w.heap.size w wx) (h : w.cell? a = some v) : wx.cell? a = some v := (hb.cell (World.block_lt_of_cell? _ _ h)).trans h

theorem Glob.later {w wx : World} (hG : Glob w) (hb : Below w.heap.size w wx) : Glob wx :=
  ⟨fun j hj => cellLater hb (hG.br64 j hj)⟩

theorem Glob.alloc {w : World} (hG : Glob w) (o : Obj) : Glob (w.alloc o) := hG.later ((Below.refl _ _).alloc (Nat.le_refl _) o)
theorem Glob.drew {w : World} (hG : Glob w) : Glob w.drew := hG.later ((Below.refl _ _).drew)
theorem below_drewN {B : Nat} {a w : World} (h : Below B a w) (n : Nat) : Below B a (w.drewN n) := ⟨h.os, h.tape, h.output, h.size, h.block⟩
theorem Glob.drewN {w : World} (hG : Glob w) (n : Nat) : Glob (w.drewN n) := hG.later (below_drewN (Below.refl _ _) n)

end Go.Proofs.YtkinlobfdkeamaaGreatDoor
