/- SHA-256 in plain Lean, as both walks spell it. The compression of SHA-256, as the program has it. -/
import Derived.Test.YtkinlobfdkeamaaGreatDoorV04
import Derived.WalkSpells
import Derived.WalkLawsBesides
import Derived.BigQuiet
import Derived.StillTailTactics
import Derived.Deep.QuietTactic
import Derived.Deep.Draws
import Derived.IntWalk
import Derived.OneCell
namespace Go.Proofs.YtkinlobfdkeamaaGreatDoor
open Go

/-- Byte i of a string; 0 beyond it. -/
def bAt (b : ByteArray) (i : Nat) : Int := ((b.data.toList.getD i 0).toNat : Int)

theorem bAt_get (b : ByteArray) (i : Nat) (h : i < b.size) : ((b[i]'h).toNat : Int) = bAt b i := by
  unfold bAt
  have h' : i < b.data.toList.length := by simpa using h
  rw [List.getD_eq_getElem?_getD, List.getElem?_eq_getElem h']
  rfl

theorem bAt_lt (b : ByteArray) (i : Nat) : bAt b i < 256 := by
  unfold bAt
  have := UInt8.toNat_lt (b.data.toList.getD i 0)
  omega
theorem bAt_pos (b : ByteArray) (i : Nat) : 0 ≤ bAt b i := by unfold bAt; omega

/-- A word out of four bytes. -/
def be4 (a b c d : Int) : Int := bits BinOp.or IntKind.u32 (bits BinOp.or IntKind.u32 (bits BinOp.or IntKind.u32 (a * 16777216) (b * 65536)) (c * 256)) d
def wordAt (b : ByteArray) (t : Nat) : Int := be4 (bAt b (4 * t)) (bAt b (4 * t + 1)) (bAt b (4 * t + 2)) (bAt b (4 * t + 3))

def s0f (x : Int) : Int := bits BinOp.xor IntKind.u32 (bits BinOp.xor IntKind.u32 (rot x 7) (rot x 18)) (x / 8)
def s1f (x : Int) : Int := bits BinOp.xor IntKind.u32 (bits BinOp.xor IntKind.u32 (rot x 17) (rot x 19)) (x / 1024)
/-- One more word of the schedule. -/
def nextW (a b c d : Int) : Int := (s1f a + b + s0f c + d) % 4294967296

/-- The schedule. -/
def shaW (g : Nat → Int) (t : Nat) : Int := if t < 16 then g t else nextW (shaW g (t - 2)) (shaW g (t - 7)) (shaW g (t - 15)) (shaW g (t - 16))
termination_by t
decreasing_by all_goals omega

theorem shaW_lo (g : Nat → Int) {t : Nat} (h : t < 16) : shaW g t = g t := by rw [shaW, if_pos h]
theorem shaW_hi (g : Nat → Int) {t : Nat} (h : ¬ t < 16) : shaW g t = nextW (shaW g (t - 2)) (shaW g (t - 7)) (shaW g (t - 15)) (shaW g (t - 16)) := by rw [shaW, if_neg h]

/-- The array of the schedule when t words stand in it. -/
def schA (g : Nat → Int) (t : Nat) : Array Value := ((List.range 64).map fun j => Value.int .u32 (if j < t then shaW g j else 0)).toArray

theorem schA_size (g : Nat → Int) (t : Nat) : (schA g t).size = 64 := by simp [schA]
theorem schA_at (g : Nat → Int) (t j : Nat) (h : j < 64) : (schA g t)[j]? = some (.int .u32 (if j < t then shaW g j else 0)) := by
  unfold schA
  rw [List.getElem?_toArray, List.getElem?_map, List.getElem?_range h]
  rfl
theorem schA_set (g : Nat → Int) (t : Nat) (h : t < 64) : (schA g t).setIfInBounds t (.int .u32 (shaW g t)) = schA g (t + 1) := by
  apply Array.ext_getElem?
  intro j
  rw [Array.getElem?_setIfInBounds]
  by_cases hj : j < 64
  · rw [schA_at g (t + 1) j hj]
    by_cases e : t = j
    · subst e
      rw [if_pos rfl, if_pos (by rw [schA_size]; exact h), if_pos (by omega)]
    · rw [if_neg e, schA_at g t j hj]
      by_cases h2 : j < t
      · rw [if_pos h2, if_pos (by omega)]
      · rw [if_neg h2, if_neg (by omega)]
  · have h1 : (schA g (t + 1))[j]? = none := Array.getElem?_eq_none (by rw [schA_size]; omega)
    have h2 : (schA g t)[j]? = none := Array.getElem?_eq_none (by rw [schA_size]; omega)
    rw [h1, h2, if_neg (by omega)]

/-- The eight words. -/
structure S8 where
  a : Int
  b : Int
  c : Int
  d : Int
  e : Int
  f : Int
  g : Int
  h : Int

def S8.row (s : S8) : Array Value := #[.int .u32 s.a, .int .u32 s.b, .int .u32 s.c, .int .u32 s.d, .int .u32 s.e, .int .u32 s.f, .int .u32 s.g, .int .u32 s.h]

/-- The state behind t rounds. -/
def shaR (rnd : Int → Int → S8 → S8) (k W : Nat → Int) (s : S8) : Nat → S8
  | 0 => s
  | t + 1 => rnd (k t) (W t) (shaR rnd k W s t)

def bs1 (x : Int) : Int := bits BinOp.xor IntKind.u32 (bits BinOp.xor IntKind.u32 (rot x 6) (rot x 11)) (rot x 25)
def bs0 (x : Int) : Int := bits BinOp.xor IntKind.u32 (bits BinOp.xor IntKind.u32 (rot x 2) (rot x 13)) (rot x 22)
def chf (e f g : Int) : Int := bits BinOp.xor IntKind.u32 (bits BinOp.and IntKind.u32 e f) (bits BinOp.and IntKind.u32 (bits BinOp.xor IntKind.u32 IntKind.u32.max e) g)
def majf (a b c : Int) : Int := bits BinOp.xor IntKind.u32 (bits BinOp.xor IntKind.u32 (bits BinOp.and IntKind.u32 a b) (bits BinOp.and IntKind.u32 a c)) (bits BinOp.and IntKind.u32 b c)

/-- One round. -/
def rnd (k w : Int) (s : S8) : S8 where
  a := (s.h + bs1 s.e + chf s.e s.f s.g + k + w + (bs0 s.a + majf s.a s.b s.c)) % 4294967296
  b := s.a
  c := s.b
  d := s.c
  e := (s.d + (s.h + bs1 s.e + chf s.e s.f s.g + k + w)) % 4294967296
  f := s.e
  g := s.f
  h := s.g

def S8.plus (x z : S8) : S8 where
  a := (x.a + z.a) % 4294967296
  b := (x.b + z.b) % 4294967296
  c := (x.c + z.c) % 4294967296
  d := (x.d + z.d) % 4294967296
  e := (x.e + z.e) % 4294967296
  f := (x.f + z.f) % 4294967296
  g := (x.g + z.g) % 4294967296
  h := (x.h + z.h) % 4294967296

/-- A block of 64 bytes added to a state. -/
def shaB (k : Nat → Int) (b : ByteArray) (x : S8) : S8 := x.plus (shaR rnd k (shaW (wordAt b)) x 64)

def S8.at (s : S8) : Nat → Int
  | 0 => s.a
  | 1 => s.b
  | 2 => s.c
  | 3 => s.d
  | 4 => s.e
  | 5 => s.f
  | 6 => s.g
  | _ => s.h

/-- The state's row when i words have been added. -/
def addA (x z : S8) (i : Nat) : Array Value :=
  #[.int .u32 (if 0 < i then (x.a + z.a) % 4294967296 else x.a), .int .u32 (if 1 < i then (x.b + z.b) % 4294967296 else x.b), .int .u32 (if 2 < i then (x.c + z.c) % 4294967296 else x.c), .int .u32 (if 3 < i then (x.d + z.d) % 4294967296 else x.d),
    .int .u32 (if 4 < i then (x.e + z.e) % 4294967296 else x.e), .int .u32 (if 5 < i then (x.f + z.f) % 4294967296 else x.f), .int .u32 (if 6 < i then (x.g + z.g) % 4294967296 else x.g), .int .u32 (if 7 < i then (x.h + z.h) % 4294967296 else x.h)]

theorem lt8 {k : Nat} (h : k < 8) : k = 0 ∨ k = 1 ∨ k = 2 ∨ k = 3 ∨ k = 4 ∨ k = 5 ∨ k = 6 ∨ k = 7 := by omega

theorem addA_at (x z : S8) {k : Nat} (h : k < 8) : (addA x z k)[k]? = some (.int .u32 (x.at k)) := by
  rcases lt8 h with rfl | rfl | rfl | rfl | rfl | rfl | rfl | rfl <;> rfl
theorem addA_set (x z : S8) {k : Nat} (h : k < 8) : (addA x z k).setIfInBounds k (.int .u32 ((x.at k + z.at k) % 4294967296)) = addA x z (k + 1) := by
  rcases lt8 h with rfl | rfl | rfl | rfl | rfl | rfl | rfl | rfl <;> rfl
theorem row_at (x : S8) {k : Nat} (h : k < 8) : x.row[k]? = some (.int .u32 (x.at k)) := by
  rcases lt8 h with rfl | rfl | rfl | rfl | rfl | rfl | rfl | rfl <;> rfl
theorem S8.plus_comm (x z : S8) : x.plus z = z.plus x := by
  unfold S8.plus
  simp only [Int.add_comm]
theorem addA_0 (x z : S8) : addA x z 0 = x.row := rfl
theorem addA_8 (x z : S8) : addA x z 8 = (x.plus z).row := rfl

end Go.Proofs.YtkinlobfdkeamaaGreatDoor

namespace Go.Proofs.YtkinlobfdkeamaaGreatDoor
open Go.RowKit

theorem schA_zero (g : Nat → Int) : schA g 0 = (List.replicate 64 (Value.int .u32 0)).toArray := by
  have : schA g 0 = ((List.range 64).map fun _ => Value.int .u32 0).toArray := by unfold schA; simp
  rw [this]; rfl

/-- What is known of the schedule's block. -/
structure InW (w wr : World) (bw : Nat) (g : Nat → Int) (t : Nat) : Prop where
  blk : wr.heap[bw]? = some (.cells (schA g t) 87 (0, 0))
  low : Below w.heap.size w wr
  sz : wr.heap.size = w.heap.size + 1

theorem InW.cell {w wr : World} {bw : Nat} {g : Nat → Int} {t : Nat} (h : InW w wr bw g t) (j : Nat) (hj : j < 64) : wr.cell? ⟨bw, j, none⟩ = some (.int .u32 (if j < t then shaW g j else 0)) := by
  rw [cell_of_row wr bw j _ _ _ h.blk, schA_at g t j hj]
theorem frozen_of_row {w : World} {b j : Nat} {C : Array Value} {T : TypeId} (h : w.heap[b]? = some (.cells C T (0, 0))) : w.frozen? ⟨b, j, none⟩ = false := by simp [World.frozen?, h]
theorem InW.step {w wr : World} {bw : Nat} {g : Nat → Int} {t : Nat} (h : InW w wr bw g t) (ht : t < 64) (hb : w.heap.size ≤ bw) (x : Int) (hx : x = shaW g t) : InW w (wr.setCell ⟨bw, t, none⟩ (.int .u32 x)) bw g (t + 1) := by
  subst hx
  exact ⟨by rw [heap_setCell_same wr bw t _ _ _ h.blk, schA_set g t ht], h.low.setCell hb _, by simpa [World.setCell] using h.sz⟩
theorem InW.drew {w wr : World} {bw : Nat} {g : Nat → Int} {t : Nat} (h : InW w wr bw g t) : InW w wr.drew bw g t := ⟨h.blk, h.low.drew, h.sz⟩
theorem InW.drewN {w wr : World} {bw : Nat} {g : Nat → Int} {t : Nat} (h : InW w wr bw g t) (n : Nat) : InW w (wr.drewN n) bw g t := ⟨h.blk, below_drewN h.low n, h.sz⟩

theorem quietLeft {P : Program} {f : FuncId} {args : Array Value} {w : World} {a n : Nat} {v : Value} (h : Calls P f args (w.drewN (a + n)) fun e w' => e = .returned v ∧ w.drewN (a + n) = w') :
    Calls P f args (w.drewN (a + n)) fun e w'' => e = .returned v ∧ ∃ m, w'' = w.drewN (a + m) := h.mono fun _ _ ⟨he, hm⟩ => ⟨he, n, hm.symm⟩
theorem quietLeft0 {P : Program} {f : FuncId} {args : Array Value} {w : World} {n : Nat} {v : Value} (h : Calls P f args (w.drewN n) fun e w' => e = .returned v ∧ w.drewN n = w') :
    Calls P f args (w.drewN n) fun e w'' => e = .returned v ∧ ∃ m, w'' = w.drewN m := h.mono fun _ _ ⟨he, hm⟩ => ⟨he, n, hm.symm⟩

theorem set8 {w : World} {b : Nat} {T : TypeId} {z0 z1 z2 z3 z4 z5 z6 z7 n0 n1 n2 n3 n4 n5 n6 n7 : Value} (h : w.heap[b]? = some (.cells #[z0, z1, z2, z3, z4, z5, z6, z7] T (0, 0))) :
    ((((((((w.setCell ⟨b, 0, none⟩ n0).setCell ⟨b, 1, none⟩ n1).setCell ⟨b, 2, none⟩ n2).setCell ⟨b, 3, none⟩ n3).setCell ⟨b, 4, none⟩ n4).setCell ⟨b, 5, none⟩ n5).setCell ⟨b, 6, none⟩ n6).setCell ⟨b, 7, none⟩ n7).heap[b]? = some (.cells #[n0, n1, n2, n3, n4, n5, n6, n7] T (0, 0)) := by
  have h0 := heap_setCell_same w b 0 _ _ n0 h
  simp only [List.setIfInBounds_toArray, List.set_cons_zero] at h0
  have h1 := heap_setCell_same _ b 1 _ _ n1 h0
  simp only [List.setIfInBounds_toArray, List.set_cons_zero, List.set_cons_succ] at h1
  have h2 := heap_setCell_same _ b 2 _ _ n2 h1
  simp only [List.setIfInBounds_toArray, List.set_cons_zero, List.set_cons_succ] at h2
  have h3 := heap_setCell_same _ b 3 _ _ n3 h2
  simp only [List.setIfInBounds_toArray, List.set_cons_zero, List.set_cons_succ] at h3
  have h4 := heap_setCell_same _ b 4 _ _ n4 h3
  simp only [List.setIfInBounds_toArray, List.set_cons_zero, List.set_cons_succ] at h4
  have h5 := heap_setCell_same _ b 5 _ _ n5 h4
  simp only [List.setIfInBounds_toArray, List.set_cons_zero, List.set_cons_succ] at h5
  have h6 := heap_setCell_same _ b 6 _ _ n6 h5
  simp only [List.setIfInBounds_toArray, List.set_cons_zero, List.set_cons_succ] at h6
  have h7 := heap_setCell_same _ b 7 _ _ n7 h6
  simp only [List.setIfInBounds_toArray, List.set_cons_zero, List.set_cons_succ] at h7
  exact h7
theorem size_setCell (w : World) (p : Addr) (u : Value) : (w.setCell p u).heap.size = w.heap.size := by simp [World.setCell]

theorem idx8 (z : S8) {k : Nat} (h : k < 8) (w : World) : (Instr.index 172 (.agg z.row) (.int .i64 (k : Int))).run Tryz.prog w = .ok (.int .u32 (z.at k)) w := by
  rcases lt8 h with rfl | rfl | rfl | rfl | rfl | rfl | rfl | rfl <;> kernel_rfl

theorem grown_setCell {a w : World} {g : Nat} (h : a.grownBy w (some g)) (j : Nat) (u : Value) : a.grownBy (w.setCell ⟨g, j, none⟩ u) (some g) :=
  ⟨h.os, h.tape, h.output, by rw [size_setCell]; exact h.size, fun i hi hne => (Below.heap_setCell w _ u i (fun e => hne (by rw [e]))).trans (h.block i hi hne)⟩
theorem grown_drew {a w : World} {row : Option Nat} (h : a.grownBy w row) : a.grownBy w.drew row := ⟨h.os, h.tape, h.output, h.size, h.block⟩

set_option maxHeartbeats 8000000 in
set_option maxRecDepth 100000 in
theorem sha_add (hb kb : Nat) (b : ByteArray) (hs : 64 ≤ b.size) (hs2 : b.size ≤ 140737488355328) (w : World) (x0 x1 x2 x3 x4 x5 x6 x7 : Int) (K : Array Value)
    (hhb : w.heap[hb]? = some (.cells #[.int .u32 x0, .int .u32 x1, .int .u32 x2, .int .u32 x3, .int .u32 x4, .int .u32 x5, .int .u32 x6, .int .u32 x7] 172 (0, 0)))
    (hkb : w.heap[kb]? = some (.cells K 87 (0, 0))) (hb1 : hb < w.heap.size) (kb1 : kb < w.heap.size) (kf : Nat → Int) (hK : ∀ t, t < 64 → K[t]? = some (.int .u32 (kf t))) :
    Calls Tryz.prog 169 #[.pointer (some ⟨hb, 0, none⟩), .string b, .pointer (some ⟨kb, 0, none⟩)] w fun e w' => e = .returned (.tuple #[]) ∧ w'.heap[hb]? = some (.cells (shaB kf b ⟨x0, x1, x2, x3, x4, x5, x6, x7⟩).row 172 (0, 0)) ∧ w.grownBy w' (some hb) := by
  go_enter Tryz.func169, Tryz.ntmps169
  go_wp2_with fail
  go_loopw [21] (fun vt wr => ∃ t : Nat, t ≤ 16 ∧ vt = .int .i64 t ∧ InW w wr w.heap.size (wordAt b) t) (fun vt _ => 16 - (intOf vt).toNat)
  case atStart => exact ⟨0, by omega, rfl, (heap_alloc_new _ _).trans (by rw [schA_zero]; rfl), (Below.refl _ _).alloc (Nat.le_refl _) _, by simp⟩
  case round =>
    obtain ⟨t, ht, rfl, hR⟩ := hrel
    by_cases hlt : t < 16
    · have f0 : (4 * (t : Int)) < (b.size : Int) := by omega
      have f1 : (4 * (t : Int)) + 1 < (b.size : Int) := by omega
      have f2 : (4 * (t : Int)) + 2 < (b.size : Int) := by omega
      have f3 : (4 * (t : Int)) + 3 < (b.size : Int) := by omega
      have w0 : IntKind.i64.wrap (4 * (t : Int)) = 4 * (t : Int) := IntWalk.i64_in _ (by omega)
      have w1 : IntKind.i64.wrap (4 * (t : Int) + 1) = 4 * (t : Int) + 1 := IntWalk.i64_in _ (by omega)
      have w2 : IntKind.i64.wrap (4 * (t : Int) + 2) = 4 * (t : Int) + 2 := IntWalk.i64_in _ (by omega)
      have w3 : IntKind.i64.wrap (4 * (t : Int) + 3) = 4 * (t : Int) + 3 := IntWalk.i64_in _ (by omega)
      have g0 : 0 ≤ 4 * (t : Int) := by omega
      have g1 : 0 ≤ 4 * (t : Int) + 1 := by omega
      have g2 : 0 ≤ 4 * (t : Int) + 2 := by omega
      have g3 : 0 ≤ 4 * (t : Int) + 3 := by omega
      have n0 : (4 * (t : Int)).toNat = 4 * t := by omega
      have n1 : (4 * (t : Int) + 1).toNat = 4 * t + 1 := by omega
      have n2 : (4 * (t : Int) + 2).toNat = 4 * t + 2 := by omega
      have n3 : (4 * (t : Int) + 3).toNat = 4 * t + 3 := by omega
      have b0 := bAt_get b (4 * t)
      have b1 := bAt_get b (4 * t + 1)
      have b2 := bAt_get b (4 * t + 2)
      have b3 := bAt_get b (4 * t + 3)
      have hc := hR.cell t (by omega)
      rw [if_neg (by omega)] at hc
      have hf : wr.frozen? ⟨w.heap.size, t, none⟩ = false := frozen_of_row hR.blk
      go_wp2_with fail
      go_still_tail 30, (by kernel_rfl)
      change wpList _ _ _ _ _ wr.drew
      go_wp2_with fail
      refine ⟨⟨t + 1, by omega, by go_num, ?_⟩, by simp [intOf]; omega⟩
      refine (hR.step (by omega) (Nat.le_refl _) _ ?_).drew
      rw [shaW_lo _ hlt]
      unfold wordAt be4
      have m0 := bAt_lt b (4 * t)
      have m1 := bAt_lt b (4 * t + 1)
      have m2 := bAt_lt b (4 * t + 2)
      have m3 := bAt_lt b (4 * t + 3)
      have p0 := bAt_pos b (4 * t)
      have p1 := bAt_pos b (4 * t + 1)
      have p2 := bAt_pos b (4 * t + 2)
      have p3 := bAt_pos b (4 * t + 3)
      clear w0 w1 w2 w3 g0 g1 g2 g3 n0 n1 n2 n3
      rw [Int.emod_eq_of_lt (a := bAt b (4 * t)) (by omega) (by omega), Int.emod_eq_of_lt (a := bAt b (4 * t + 1)) (by omega) (by omega), Int.emod_eq_of_lt (a := bAt b (4 * t + 2)) (by omega) (by omega), Int.emod_eq_of_lt (a := bAt b (4 * t + 3)) (by omega) (by omega),
        Int.emod_eq_of_lt (a := bAt b (4 * t) * 16777216) (by omega) (by omega), Int.emod_eq_of_lt (a := bAt b (4 * t + 1) * 65536) (by omega) (by omega), Int.emod_eq_of_lt (a := bAt b (4 * t + 2) * 256) (by omega) (by omega)]
    · have ht16 : t = 16 := by omega
      subst ht16
      clear hlt
      rw [show ((16 : Nat) : Int) = 16 from rfl]
      go_wp2_with fail
      go_loopw [8] (fun vt wq => ∃ t : Nat, 16 ≤ t ∧ t ≤ 64 ∧ vt = .int .i64 t ∧ InW w wq w.heap.size (wordAt b) t) (fun vt _ => 64 - (intOf vt).toNat)
      case atStart => exact ⟨16, by omega, by omega, rfl, hR⟩
      case round =>
        obtain ⟨t, ht0, ht, rfl, hQ⟩ := hrel
        by_cases hlt : t < 64
        · have c15 := hQ.cell (t - 15) (by omega)
          have c2 := hQ.cell (t - 2) (by omega)
          have c7 := hQ.cell (t - 7) (by omega)
          have c16 := hQ.cell (t - 16) (by omega)
          rw [if_pos (by omega)] at c15 c2 c7 c16
          have hstep := fun x hx => hQ.step hlt (Nat.le_refl _) x hx
          have HS := Lib.hid hstep
          clear hstep
          have hc := hQ.cell t (by omega)
          rw [if_neg (by omega)] at hc
          have hf : wr.frozen? ⟨w.heap.size, t, none⟩ = false := frozen_of_row hQ.blk
          have w15 : IntKind.i64.wrap ((t : Int) - 15) = (t : Int) - 15 := IntWalk.i64_in _ (by omega)
          have w2 : IntKind.i64.wrap ((t : Int) - 2) = (t : Int) - 2 := IntWalk.i64_in _ (by omega)
          have w7 : IntKind.i64.wrap ((t : Int) - 7) = (t : Int) - 7 := IntWalk.i64_in _ (by omega)
          have w16 : IntKind.i64.wrap ((t : Int) - 16) = (t : Int) - 16 := IntWalk.i64_in _ (by omega)
          have n15 : ((t : Int) - 15).toNat = t - 15 := by omega
          have n2 : ((t : Int) - 2).toNat = t - 2 := by omega
          have n7 : ((t : Int) - 7).toNat = t - 7 := by omega
          have n16 : ((t : Int) - 16).toNat = t - 16 := by omega
          have p15 : 0 ≤ (t : Int) - 15 := by omega
          have p2 : 0 ≤ (t : Int) - 2 := by omega
          have p7 : 0 ≤ (t : Int) - 7 := by omega
          have p16 : 0 ≤ (t : Int) - 16 := by omega
          have l15 : (t : Int) - 15 < 64 := by omega
          have l2 : (t : Int) - 2 < 64 := by omega
          have l7 : (t : Int) - 7 < 64 := by omega
          have l16 : (t : Int) - 16 < 64 := by omega
          clear hR hs hs2
          go_wp2_with fail
          go_quiet (fail)
          clear w15 w2 n15 n2 p15 p2 l15 l2 c15 c2
          have hQ' := hQ.drewN nq
          have c7' : (wr.drewN nq).cell? ⟨w.heap.size, t - 7, none⟩ = _ := c7
          have c16' : (wr.drewN nq).cell? ⟨w.heap.size, t - 16, none⟩ = _ := c16
          have hc' : (wr.drewN nq).cell? ⟨w.heap.size, t, none⟩ = _ := hc
          have hf' : (wr.drewN nq).frozen? ⟨w.heap.size, t, none⟩ = _ := hf
          clear HS c7 c16 hc hf
          generalize wr.drewN nq = w2 at hQ' c7' c16' hc' hf' ⊢
          go_wp2_with (go_at_call 188; refine (rprog _ _ (by omega) (by omega) _).mono ?_; rintro e w' ⟨rfl, rfl⟩)
          have k7 : (⟨w2.heap, w2.tape, w2.drawn + 1, w2.os, w2.output⟩ : World).cell? ⟨w.heap.size, t - 7, none⟩ = _ := c7'
          have k16 : (⟨w2.heap, w2.tape, w2.drawn + 1, w2.os, w2.output⟩ : World).cell? ⟨w.heap.size, t - 16, none⟩ = _ := c16'
          have i7 : (7 : Int) ≤ t := by omega
          have i16 : (16 : Int) ≤ t := by omega
          have j7 : (t : Int) < 71 := by omega
          have j16 : (t : Int) < 80 := by omega
          have j0 : (t : Int) < 64 := by omega
          go_still_tail 14, (by kernel_rfl)
          change wpList _ _ _ _ _ w2.drew
          go_wp2_with fail
          refine ⟨⟨t + 1, by omega, by omega, by go_num, ?_⟩, by simp [intOf]; omega⟩
          refine (hQ'.step hlt (Nat.le_refl _) _ ?_).drew
          exact (shaW_hi (wordAt b) (show ¬ t < 16 by omega)).symm
        · have ht64 : t = 64 := by omega
          subst ht64
          clear hlt
          rw [show ((64 : Nat) : Int) = 64 from rfl]
          obtain ⟨hblk, hlow, hsz⟩ := hQ
          have hhb' := (hlow.block hb hb1).trans hhb
          have hkb' := (hlow.block kb kb1).trans hkb
          obtain ⟨bw, hbw⟩ : ∃ bw, w.heap.size = bw := ⟨_, rfl⟩
          rw [hbw] at hsz hblk hlow hb1 kb1 ⊢
          have HBW := Lib.hid hbw
          clear hbw
          go_wp2_with (refine wpList_load_row rfl 172 _ rfl hb rfl 172 _ _ _ hhb' Tryz.underlying172 rfl (by kernel_rfl) ?_)
          obtain ⟨wo, rfl⟩ : ∃ wo : World, wo = wr := ⟨_, rfl⟩
          go_loopw [102] (fun vt wq => ∃ (t : Nat) (s : S8), t ≤ 64 ∧ vt = .int .i64 t ∧ Hid (s = shaR rnd kf (shaW (wordAt b)) ⟨x0, x1, x2, x3, x4, x5, x6, x7⟩ t) ∧ wq.heap[bw + 1]? = some (.cells s.row 172 (0, 0)) ∧ Below (bw + 1) wo wq ∧ wq.heap.size = bw + 2) (fun vt _ => 64 - (intOf vt).toNat)
          case atStart => exact ⟨0, ⟨x0, x1, x2, x3, x4, x5, x6, x7⟩, by omega, rfl, rfl, by rw [← hsz]; exact heap_alloc_new _ _, (Below.refl _ _).alloc (by omega) _, by simp; omega⟩
          case round =>
            obtain ⟨t, s, ht, rfl, hS, hv, hB, hZ⟩ := hrel
            obtain ⟨y0, y1, y2, y3, y4, y5, y6, y7⟩ := s
            simp only [S8.row] at hv
            by_cases hlt : t < 64
            · have hkt := hK t hlt
              have v0 : wr.cell? ⟨bw + 1, 0, none⟩ = some (.int .u32 y0) := cell_of_row wr (bw + 1) 0 _ _ _ hv
              have v1 : wr.cell? ⟨bw + 1, 1, none⟩ = some (.int .u32 y1) := cell_of_row wr (bw + 1) 1 _ _ _ hv
              have v2 : wr.cell? ⟨bw + 1, 2, none⟩ = some (.int .u32 y2) := cell_of_row wr (bw + 1) 2 _ _ _ hv
              have v3 : wr.cell? ⟨bw + 1, 3, none⟩ = some (.int .u32 y3) := cell_of_row wr (bw + 1) 3 _ _ _ hv
              have v4 : wr.cell? ⟨bw + 1, 4, none⟩ = some (.int .u32 y4) := cell_of_row wr (bw + 1) 4 _ _ _ hv
              have v5 : wr.cell? ⟨bw + 1, 5, none⟩ = some (.int .u32 y5) := cell_of_row wr (bw + 1) 5 _ _ _ hv
              have v6 : wr.cell? ⟨bw + 1, 6, none⟩ = some (.int .u32 y6) := cell_of_row wr (bw + 1) 6 _ _ _ hv
              have v7 : wr.cell? ⟨bw + 1, 7, none⟩ = some (.int .u32 y7) := cell_of_row wr (bw + 1) 7 _ _ _ hv
              have hfr : ∀ j, wr.frozen? ⟨bw + 1, j, none⟩ = false := fun j => frozen_of_row hv
              have HV := Lib.hid hv
              have kc : wr.cell? ⟨kb, t, none⟩ = some (.int .u32 (kf t)) := by
                rw [cell_of_row wr kb t _ _ _ ((hB.block kb (by omega)).trans hkb'), hkt]
              have wc : wr.cell? ⟨bw, t, none⟩ = some (.int .u32 (shaW (wordAt b) t)) := by
                rw [cell_of_row wr bw t _ _ _ ((hB.block bw (by omega)).trans hblk), schA_at _ _ t hlt, if_pos hlt]
              clear hblk hlow hhb' hkb' hkt hv
              clear hhb hkb hsz hb1 kb1
              have j0 : (t : Int) < 64 := by omega
              go_wp2_with fail
              go_quiet (fail)
              go_wp2_with fail
              go_quiet ((go_at_call 188; exact quietLeft (rprog _ _ (by omega) (by omega) _)))
              go_wp2_with fail
              go_quiet ((go_at_call 188; exact quietLeft (rprog _ _ (by omega) (by omega) _)))
              go_wp2_with fail
              refine ⟨⟨t + 1, rnd (kf t) (shaW (wordAt b) t) ⟨y0, y1, y2, y3, y4, y5, y6, y7⟩, by omega, by go_num, ?_, set8 (by exact HV.out), ?_, ?_⟩, by simp [intOf]; omega⟩
              · show _ = shaR rnd kf (shaW (wordAt b)) _ (t + 1)
                rw [shaR, ← hS.out]
              · exact (((((((((below_drewN hB _).setCell (by simp) _).setCell (by simp) _).setCell (by simp) _).setCell (by simp) _).setCell (by simp) _).setCell (by simp) _).setCell (by simp) _).setCell (by simp) _)
              · simp only [size_setCell]; exact hZ
            · have ht64 : t = 64 := by omega
              subst ht64
              clear hlt
              rw [show ((64 : Nat) : Int) = 64 from rfl]
              have hx : wr.heap[hb]? = _ := (hB.block hb (by omega)).trans hhb'
              go_wp2_with (refine wpList_load_row rfl 172 _ rfl (bw + 1) rfl 172 _ _ _ hv Tryz.underlying172 rfl (by kernel_rfl) ?_)
              obtain ⟨wo2, rfl⟩ : ∃ wo2 : World, wo2 = wr := ⟨_, rfl⟩
              go_loopw [187] (fun vi wq => ∃ i : Nat, i ≤ 8 ∧ vi = .int .i64 i ∧ wq.heap[hb]? = some (.cells (addA ⟨x0, x1, x2, x3, x4, x5, x6, x7⟩ ⟨y0, y1, y2, y3, y4, y5, y6, y7⟩ i) 172 (0, 0)) ∧ wo2.grownBy wq (some hb)) (fun vi _ => 8 - (intOf vi).toNat)
              case atStart => exact ⟨0, by omega, rfl, hx, ⟨rfl, rfl, rfl, Nat.le_refl _, fun _ _ _ => rfl⟩⟩
              case round =>
                obtain ⟨i, hi, rfl, hA, hg⟩ := hrel
                by_cases hlt : i < 8
                · have hix := idx8 (⟨y0, y1, y2, y3, y4, y5, y6, y7⟩ : S8) hlt
                  simp only [S8.row] at hix
                  have hc := (cell_of_row wr hb i _ _ _ hA).trans (addA_at _ _ hlt)
                  have hf : wr.frozen? ⟨hb, i, none⟩ = false := frozen_of_row hA
                  have k0 : (⟨wr.heap, wr.tape, wr.drawn + 1, wr.os, wr.output⟩ : World).cell? ⟨hb, i, none⟩ = _ := hc
                  have j0 : (i : Int) < 8 := by omega
                  have HA := Lib.hid hA
                  clear hA hx hv hS hblk hhb' hkb' hhb hkb hsz hZ
                  go_wp2_with fail
                  go_still_tail 8, (by kernel_rfl)
                  change wpList _ _ _ _ _ wr.drew
                  go_wp2_with fail
                  refine ⟨⟨i + 1, by omega, by go_num, ?_, ?_⟩, by simp [intOf]; omega⟩
                  · show (wr.setCell _ _).heap[hb]? = _
                    rw [heap_setCell_same wr hb i _ _ _ HA.out, addA_set _ _ hlt]
                  · exact grown_drew (grown_setCell hg _ _)
                · have hi8 : i = 8 := by omega
                  subst hi8
                  rw [addA_8] at hA
                  have HA := Lib.hid hA
                  clear hA hx hv hblk hhb' hkb' hhb hkb
                  clear hlt
                  go_wp2_with fail
                  go_end0
                  refine ⟨rfl, ?_, ?_⟩
                  · rw [HA.out]
                    unfold shaB
                    rw [← hS.out]
                  · have e := HBW.out
                    exact ⟨hg.os.trans (hB.os.trans hlow.os), hg.tape.trans (hB.tape.trans hlow.tape), hg.output.trans (hB.output.trans hlow.output), Nat.le_trans hlow.size (Nat.le_trans hB.size hg.size),
                      fun k hk hne => (hg.block k (by omega) hne).trans ((hB.block k (by omega)).trans (hlow.block k (by omega)))⟩
end Go.Proofs.YtkinlobfdkeamaaGreatDoor

