/- A []byte that begins as nil and grows by appends. Base 64 in plain Lean, and the arithmetic that both walks need. The values of characters, walked: the program's table and the reference's search. -/
import Derived.Test.YtkinlobfdkeamaaGreatDoorV06
import Derived.Laws.BitsAllLaws
namespace Go.Proofs.YtkinlobfdkeamaaGreatDoor
open Go.RowKit

/-- v is a []byte of bytes l, nil or made since w0. -/
structure OwnL (w0 w : World) (v : Value) (l : List UInt8) : Prop where
  own : w.ownsRow w0.heap.size 5 1 v l.length (Lib.byteCells l)
  low : Below w0.heap.size w0 w

theorem ownL_nil (w : World) : OwnL w w (.slice none 0 0) [] := ⟨World.ownsRow_nil _ _ _ _, Below.refl _ _⟩

theorem ownL_later {w0 w w' : World} {v : Value} {l : List UInt8} (h : OwnL w0 w v l) (hb : Below w.heap.size w w') : OwnL w0 w' v l := by
  refine ⟨h.own.kept (grownNone hb) ?_, ext_trans h.low hb⟩
  cases hv : v.ownBlock with
  | none => exact .inl rfl
  | some g => exact .inr (by simp)

/-- 'append(v, c0, c1, ..)'. -/
theorem wp_ownL_append {o : Oper} {a : Act} {K : Act → World → Prop} {Q : Exit → Act → World → Prop} (w0 w : World) (l l2 : List UInt8) (m : Nat) (v : Value) (hv : OwnL w0 w v l)
    (s x : Operand) (hop : o.op = Op.call { callee := Callee.builtin Builtin.append, args := #[s, x], argTypes := #[90, 90] })
    (hs : a.eval s = v) (hx : a.eval x = .slice (some ⟨w.heap.size, 0, none⟩) m m) (hm : l2.length = m) (C : Array Value) (hC : C.toList = Lib.byteCells l2) (hlen : l.length + m ≤ 140737488355328)
    (h : ∀ v' w', OwnL w0 w' v' (l ++ l2) → K (a.put o.dst v') w') : o.wp Tryz.prog a (w.alloc (.cells C 5)) K Q := by
  obtain ⟨i0, hi, hz0, hz1, hz2⟩ := info_parts bByte
  refine wp_append_own _ s x 90 hop w0.heap.size 5 i0 (.int .u8 0) 1 1 Tryz.underlying90 hi hz0 hz1 hz2 rfl (by decide) v l.length (Lib.byteCells l) hs (hv.own.alloc _) ⟨w.heap.size, 0, none⟩ m m (Lib.byteCells l2) hx
    (by rw [Lib.byteCells_length]; omega) ?_ ?_ (by unfold maxLen; omega) (by omega) (by have := hv.low.size; rw [size_alloc]; omega) ?_
  · intro j u hu
    rw [← hC] at hu
    rw [show (⟨w.heap.size, 0, none⟩ : Addr).add j = ⟨w.heap.size, j, none⟩ by unfold Addr.add; split <;> simp_all, Lib.cell_of_heap (heap_alloc_new w _)]
    simpa using hu
  · intro u hu
    exact Lib.byteCells_one l2 u hu
  · intro v' w' ho hgr _
    refine h v' w' ⟨?_, ?_⟩
    · rw [List.length_append, hm, Lib.byteCells_append]; exact ho
    · refine (ext_trans hv.low (ext_alloc w _)).trans ⟨hgr.os, hgr.tape, hgr.output, hgr.size, fun k hk => hgr.block k (by have := hv.low.size; rw [size_alloc]; omega) ?_⟩
      intro e
      have := (hv.own.lt k e.symm).1
      omega

theorem ownL_append {ops : Array Oper} {rest : List Oper} {o : Oper} {a : Act} {Q : Exit → Act → World → Prop} (w0 w : World) (l l2 : List UInt8) (m : Nat) (v : Value) (hv : OwnL w0 w v l)
    (hg : o.guard = none) (s x : Operand) (hop : o.op = Op.call { callee := Callee.builtin Builtin.append, args := #[s, x], argTypes := #[90, 90] })
    (hs : a.eval s = v) (hx : a.eval x = .slice (some ⟨w.heap.size, 0, none⟩) m m) (hm : l2.length = m) (C : Array Value) (hC : C.toList = Lib.byteCells l2) (hlen : l.length + m ≤ 140737488355328)
    (h : ∀ v' w', OwnL w0 w' v' (l ++ l2) → wpList Tryz.prog ops Q rest (a.put o.dst v') w') : wpList Tryz.prog ops Q (o :: rest) a (w.alloc (.cells C 5)) :=
  wpList_plain hg fun _ hK => wp_ownL_append w0 w l l2 m v hv s x hop hs hx hm C hC hlen fun v' w' h2 => hK _ _ (h v' w' h2)

/-- At a step of a region that draws its order. -/
theorem step_ownL_append {ops : Array Oper} {o : Oper} {a : Act} {K : Act → World → Prop} {Q : Exit → Act → World → Prop} {E : Prop} (w0 w : World) (l l2 : List UInt8) (m : Nat) (v : Value) (hv : OwnL w0 w v l)
    (hg : o.guard = none) (s x : Operand) (hop : o.op = Op.call { callee := Callee.builtin Builtin.append, args := #[s, x], argTypes := #[90, 90] })
    (hs : a.eval s = v) (hx : a.eval x = .slice (some ⟨w.heap.size, 0, none⟩) m m) (hm : l2.length = m) (C : Array Value) (hC : C.toList = Lib.byteCells l2) (hlen : l.length + m ≤ 140737488355328)
    (h : ∀ v' w', OwnL w0 w' v' (l ++ l2) → K (a.put o.dst v') w') : if Region.wanted o (yielded ops a.tmps) = true then Oper.wp Tryz.prog o a (w.alloc (.cells C 5)) K Q else E := by
  have hw : Region.wanted o (yielded ops a.tmps) = true := by simp [Region.wanted, hg]
  rw [if_pos hw]
  exact wp_ownL_append w0 w l l2 m v hv s x hop hs hx hm C hC hlen h

/-- What v says as a string. -/
theorem ownL_string {w0 w : World} {v : Value} {l : List UInt8} (h : OwnL w0 w v l) : (convert 90 9 v).run Tryz.prog w = .ok (.string ⟨l.toArray⟩) w := by
  rcases h.own.2 with ⟨rfl, h0⟩ | ⟨g, cap, cur, rfl, hb, hg, hn, hc, hs, ht⟩
  · have : l = [] := List.length_eq_zero_iff.1 h0
    subst this
    exact Lib.run_convert_nil_bytes w _ _ 5 0 Tryz.underlying90 Tryz.underlying5 Tryz.underlying9
  · exact run_convert_bytes_back (P := Tryz.prog) w 90 9 5 ⟨g, 0, none⟩ cap l Tryz.underlying90 Tryz.underlying5 Tryz.underlying9 (Lib.bytes_of_row hg (by rw [Nat.mul_one] at ht; exact ht))

end Go.Proofs.YtkinlobfdkeamaaGreatDoor

namespace Go.Proofs.YtkinlobfdkeamaaGreatDoor
open Go

theorem i64_or_nat (a b : Nat) (ha : a < 4611686018427387904) (hb : b < 4611686018427387904) : bits .or .i64 (a : Int) (b : Int) = ((a ||| b : Nat) : Int) := by
  have hx : a ||| b < 2 ^ 62 := Nat.or_lt_two_pow (by omega) (by omega)
  show IntKind.i64.wrap ((BitVec.ofInt 64 (a : Int) ||| BitVec.ofInt 64 (b : Int)).toNat : Int) = _
  rw [BitVec.toNat_or, ofInt_u64 a (by omega), ofInt_u64 b (by omega)]
  exact IntWalk.i64_in _ (by omega)
theorem i64_and_nat (a b : Nat) (ha : a < 4611686018427387904) (hb : b < 4611686018427387904) : bits .and .i64 (a : Int) (b : Int) = ((a &&& b : Nat) : Int) := by
  have hx : a &&& b < 2 ^ 62 := Nat.and_lt_two_pow _ (by omega)
  show IntKind.i64.wrap ((BitVec.ofInt 64 (a : Int) &&& BitVec.ofInt 64 (b : Int)).toNat : Int) = _
  rw [BitVec.toNat_and, ofInt_u64 a (by omega), ofInt_u64 b (by omega)]
  exact IntWalk.i64_in _ (by omega)
theorem i64_join (i x y : Nat) (hx : x % 2 ^ i = 0) (hy : y < 2 ^ i) (h1 : x < 4611686018427387904) (h2 : y < 4611686018427387904) : bits .or .i64 (x : Int) (y : Int) = (x : Int) + y := by
  rw [i64_or_nat x y h1 h2, nat_join i x y hx hy]; rfl
theorem i64_and63 (x : Nat) (h1 : x < 4611686018427387904) : bits .and .i64 (x : Int) 63 = ((x % 64 : Nat) : Int) := by
  have := i64_and_nat x 63 h1 (by omega)
  rw [nat_mask6] at this
  exact this

def alphB : ByteArray := ⟨#[65, 66, 67, 68, 69, 70, 71, 72, 73, 74, 75, 76, 77, 78, 79, 80, 81, 82, 83, 84, 85, 86, 87, 88, 89, 90, 97, 98, 99, 100, 101, 102, 103, 104, 105, 106, 107, 108, 109, 110, 111, 112, 113, 114, 115, 116, 117, 118, 119, 120, 121, 122, 48, 49, 50, 51, 52, 53, 54, 55, 56, 57, 45, 95]⟩
def alphN : List Nat := [65, 66, 67, 68, 69, 70, 71, 72, 73, 74, 75, 76, 77, 78, 79, 80, 81, 82, 83, 84, 85, 86, 87, 88, 89, 90, 97, 98, 99, 100, 101, 102, 103, 104, 105, 106, 107, 108, 109, 110, 111, 112, 113, 114, 115, 116, 117, 118, 119, 120, 121, 122, 48, 49, 50, 51, 52, 53, 54, 55, 56, 57, 45, 95]
/-- The character of a digit. -/
def digC (n : Nat) : UInt8 := UInt8.ofNat (alphN.getD n 0)
theorem alph_at (n : Nat) (hn : n < 64) (hs : n < alphB.size) : alphB[n]'hs = digC n := by
  have h : ∀ n : Fin 64, alphB.data[n.val]? = some (digC n.val) := by decide +kernel
  exact (Array.getElem?_eq_some_iff.1 (h ⟨n, hn⟩)).2
theorem alphB_size : alphB.size = 64 := rfl
theorem digC_nat (n : Nat) (hn : n < 64) : (digC n).toNat = alphN.getD n 0 := by
  have h : ∀ n : Fin 64, (digC n.val).toNat = alphN.getD n.val 0 := by decide +kernel
  exact h ⟨n, hn⟩
/-- 1 more than the number of a character, or 0. -/
def valN (c : Nat) : Nat := match alphN.idxOf? c with | some i => i + 1 | none => 0
theorem valN_le (c : Nat) (hc : c < 256) : valN c ≤ 64 := by
  have h : ∀ n : Fin 256, valN n.val ≤ 64 := by decide +kernel
  exact h ⟨c, hc⟩
theorem valN_iff (c k : Nat) (hc : c < 256) (hk : k < 64) : valN c = k + 1 ↔ c = alphN.getD k 0 := by
  have h : ∀ n : Fin 256, ∀ k : Fin 64, valN n.val = k.val + 1 ↔ n.val = alphN.getD k.val 0 := by decide +kernel
  exact h ⟨c, hc⟩ ⟨k, hk⟩
theorem alphN_lt (k : Nat) (hk : k < 64) : alphN.getD k 0 < 256 := by
  have h : ∀ k : Fin 64, alphN.getD k.val 0 < 256 := by decide +kernel
  exact h ⟨k, hk⟩

/-- The table when k digits stand in it. -/
def tabA (k : Nat) : Array Value := ((List.range 256).map fun j => Value.int .u8 (if valN j ≤ k then (valN j : Int) else 0)).toArray
theorem tabA_size (k : Nat) : (tabA k).size = 256 := by simp [tabA]
theorem tabA_at (k j : Nat) (h : j < 256) : (tabA k)[j]? = some (.int .u8 (if valN j ≤ k then (valN j : Int) else 0)) := by
  unfold tabA
  rw [List.getElem?_toArray, List.getElem?_map, List.getElem?_range h]
  rfl
theorem tabA_set (k : Nat) (h : k < 64) : (tabA k).setIfInBounds (alphN.getD k 0) (.int .u8 ((k : Int) + 1)) = tabA (k + 1) := by
  apply Array.ext_getElem?
  intro j
  rw [Array.getElem?_setIfInBounds]
  by_cases hj : j < 256
  · rw [tabA_at (k + 1) j hj]
    have hv := valN_iff j k hj h
    by_cases e : alphN.getD k 0 = j
    · have hvj := hv.2 e.symm
      rw [if_pos e, if_pos (by rw [tabA_size, e]; exact hj), if_pos (by omega), hvj]
      rfl
    · rw [if_neg e, tabA_at k j hj]
      have : valN j ≠ k + 1 := fun x => e (hv.1 x).symm
      by_cases h2 : valN j ≤ k
      · rw [if_pos h2, if_pos (by omega)]
      · rw [if_neg h2, if_neg (by omega)]
  · have h1 : (tabA (k + 1))[j]? = none := Array.getElem?_eq_none (by rw [tabA_size]; omega)
    have h2 : (tabA k)[j]? = none := Array.getElem?_eq_none (by rw [tabA_size]; omega)
    have h3 := alphN_lt k h
    rw [h1, h2, if_neg (by omega)]
theorem tab_full (j : Nat) (h : j < 256) : (tabA 64)[j]? = some (.int .u8 (valN j : Int)) := by
  rw [tabA_at 64 j h, if_pos (valN_le j h)]

/-- The four characters of three bytes. -/
def quad (a b c : Nat) : List UInt8 :=
  [digC ((65536 * a + 256 * b + c) / 262144), digC ((65536 * a + 256 * b + c) / 4096 % 64), digC ((65536 * a + 256 * b + c) / 64 % 64), digC ((65536 * a + 256 * b + c) % 64)]
/-- The text of bytes. -/
def encL : List UInt8 → List UInt8
  | a :: b :: c :: l => quad a.toNat b.toNat c.toNat ++ encL l
  | _ => []
/-- The number of some characters, on from n; none: one is no digit. -/
def numL : List UInt8 → Nat → Option Nat
  | [], n => some n
  | c :: l, n => if valN c.toNat = 0 then none else numL l (64 * n + (valN c.toNat - 1))
def tri (n : Nat) : List UInt8 := [UInt8.ofNat (n / 65536 % 256), UInt8.ofNat (n / 256 % 256), UInt8.ofNat (n % 256)]
/-- The bytes of a text. -/
def decL : List UInt8 → Option (List UInt8)
  | a :: b :: c :: d :: l => (numL [a, b, c, d] 0).bind fun n => (decL l).map (tri n ++ ·)
  | _ => some []

theorem numL_lt (l : List UInt8) : ∀ (n m : Nat), numL l n = some m → m < 64 ^ l.length * (n + 1) := by
  induction l with
  | nil => intro n m h; simp [numL] at h; subst h; simp
  | cons c l ih =>
    intro n m h
    rw [numL] at h
    split at h
    · cases h
    · have h1 := ih _ _ h
      have h2 := valN_le c.toNat (UInt8.toNat_lt c)
      have h3 : 64 * n + (valN c.toNat - 1) + 1 ≤ 64 * (n + 1) := by omega
      have h4 := Nat.mul_le_mul_left (64 ^ l.length) h3
      rw [List.length_cons, Nat.pow_succ, Nat.mul_assoc]
      omega
end Go.Proofs.YtkinlobfdkeamaaGreatDoor

namespace Go.Proofs.YtkinlobfdkeamaaGreatDoor
open Go.RowKit

theorem below_setRow {B : Nat} {a w : World} (h : Below B a w) {g : Nat} (hB : B ≤ g) (cs : Array Value) : Below B a (w.setRow g cs) :=
  ⟨h.os, h.tape, h.output, by rw [size_setRow]; exact h.size, fun k hk => by rw [setRow_other _ _ _ _ (by omega)]; exact h.block k hk⟩

theorem tab_all : (tabA 64).all (·.oneCell') = true := by
  rw [Array.all_eq_true]
  intro i hi
  have h := tabA_at 64 i (by rw [tabA_size] at hi; exact hi)
  rw [(Array.getElem?_eq_some_iff.1 h).2]
  rfl

set_option maxHeartbeats 4000000 in
set_option maxRecDepth 100000 in
theorem new_values (w : World) : Calls Tryz.prog 206 #[] w fun e w' => e = .returned (.agg (tabA 64)) ∧ Below w.heap.size w w' := by
  go_enter Tryz.func206, Tryz.ntmps206
  go_wp2_with fail
  refine (fun (h : ∀ w4, w4.heap[w.heap.size]? = some (.cells (tabA 0) 194 (0, 0)) → w4.heap[w.heap.size + 1]? = some (.cells (tabA 0) 194 (0, 0)) → Below w.heap.size w w4 → Code.wp _ _ _ _ w4) =>
    h ((w.alloc (.cells (tabA 0) 194)).alloc (.cells (tabA 0) 194)) ((Lib.alloc_old _ _ _ (by rw [size_alloc]; omega)).trans (heap_alloc_new _ _)) (by have := heap_alloc_new (w.alloc (.cells (tabA 0) 194)) (.cells (tabA 0) 194); rw [size_alloc] at this; exact this) (ext_trans (ext_alloc _ _) (ext_alloc _ _))) ?_
  intro w4 h0 h1 hb
  generalize hn : w.heap.size = n at h0 h1 hb ⊢
  have HN := Lib.hid hn
  clear hn
  go_loopw [3] (fun v3 wr => ∃ k : Nat, k ≤ 64 ∧ v3 = .int .i64 (k : Int) ∧ wr.heap[n]? = some (.cells (tabA 0) 194 (0, 0)) ∧ wr.heap[n + 1]? = some (.cells (tabA k) 194 (0, 0)) ∧ Below n w wr) (fun v3 _ => (64 - intOf v3).toNat)
  case atStart => exact ⟨0, by omega, rfl, h0, h1, hb⟩
  case round =>
    obtain ⟨k, hk, rfl, q0, q1, hB⟩ := hrel
    by_cases hlt : k < 64
    · have ha : ∀ hs, (⟨#[65, 66, 67, 68, 69, 70, 71, 72, 73, 74, 75, 76, 77, 78, 79, 80, 81, 82, 83, 84, 85, 86, 87, 88, 89, 90, 97, 98, 99, 100, 101, 102, 103, 104, 105, 106, 107, 108, 109, 110, 111, 112, 113, 114, 115, 116, 117, 118, 119, 120, 121, 122, 48, 49, 50, 51, 52, 53, 54, 55, 56, 57, 45, 95]⟩ : ByteArray)[k]'hs = digC k := fun hs => alph_at k hlt hs
      have hd := digC_nat k hlt
      have hc := alphN_lt k hlt
      have hs := tabA_set k hlt
      generalize alphN.getD k 0 = c at hd hc hs
      have hcell := (cell_of_row wr (n + 1) c _ _ _ q1).trans (tabA_at k c hc)
      have hfz : wr.frozen? ⟨n + 1, c, none⟩ = false := frozen_of_row q1
      have j0 : (k : Int) < 64 := by omega
      have m0 : ((k : Int) + 1) % 256 = (k : Int) + 1 := by omega
      have n0 : (c : Int) < 256 := by omega
      have Q0 := Lib.hid q0
      have Q1 := Lib.hid q1
      have HS := Lib.hid hs
      clear q0 q1 hs h0 h1
      go_wp2_with fail
      refine ⟨⟨k + 1, by omega, by go_num, ?_, ?_, hB.setCell (by simp) _⟩, by simp only [intOf]; omega⟩
      · rw [Below.heap_setCell _ _ _ _ (by simp)]; exact Q0.out
      · rw [heap_setCell_same wr (n + 1) c _ _ _ Q1.out, HS.out]
    · have hk64 : k = 64 := by omega
      subst hk64
      rw [show ((64 : Nat) : Int) = 64 from rfl]
      clear h0 h1
      go_wp2_with (first
        | refine wpList_load_row rfl 194 _ rfl (n + 1) rfl 194 _ _ _ q1 Tryz.underlying194 rfl (by rw [tabA_size]; kernel_rfl) ?_
        | refine wpList_store_row rfl 194 _ _ rfl n (tabA 64) rfl rfl 194 _ q0 (by rw [tabA_size]; kernel_rfl) (by rw [tabA_size, tabA_size]) tab_all ?_)
      refine bodyPost_ret (results_cell_row rfl _ _ n _ _ _ _ rfl (setRow_heap _ _ _ _ _ _ q0) Tryz.underlying194 rfl (by rw [tabA_size]; kernel_rfl)) rfl ⟨rfl, ?_⟩
      rw [HN.out]
      exact below_setRow hB (Nat.le_refl _) _

set_option maxHeartbeats 4000000 in
set_option maxRecDepth 100000 in
theorem b64_values (w : World) : Calls Tryz.prog 204 #[] w fun e w' => e = .returned (.agg (tabA 64)) ∧ Below w.heap.size w w' := by
  go_enter Tryz.func204, Tryz.ntmps204
  go_wp2_with fail
  refine (new_values _).mono ?_
  rintro e w1 ⟨rfl, b1⟩
  have z1 := b1.size
  rw [size_alloc] at z1
  have q0 : w1.heap[w.heap.size]? = some (.cells (tabA 0) 194 (0, 0)) := (b1.block _ (by rw [size_alloc]; omega)).trans (heap_alloc_new w (.cells (tabA 0) 194))
  go_wp2_with (refine wpList_store_row rfl 194 _ _ rfl w.heap.size (tabA 64) rfl rfl 194 _ q0 (by rw [tabA_size]; kernel_rfl) (by rw [tabA_size, tabA_size]) tab_all ?_)
  refine bodyPost_ret (results_cell_row rfl _ _ w.heap.size _ _ _ _ rfl (setRow_heap _ _ _ _ _ _ q0) Tryz.underlying194 rfl (by rw [tabA_size]; kernel_rfl)) rfl ⟨rfl, ?_⟩
  exact below_setRow (ext_trans (ext_alloc w _) b1) (Nat.le_refl _) _

theorem tab_index (c : Nat) (hc : c < 256) (w : World) : (Instr.index 194 (.agg (tabA 64)) (.int .u8 (c : Int))).run Tryz.prog w = .ok (.int .u8 (valN c : Int)) w := by
  have h := tab_full c hc
  simp [Instr.index, asIntOf, part, h]
  intro hx
  omega

set_option maxHeartbeats 4000000 in
set_option maxRecDepth 100000 in
/-- The program's value of a character. -/
theorem b64_value (c : Nat) (hc : c < 256) (w : World) : Calls Tryz.prog 198 #[.int .u8 (c : Int)] w fun e w' => e = .returned (.tuple #[.int .i64 (if valN c = 0 then 0 else (valN c : Int) - 1), .bool (valN c != 0)]) ∧ Below w.heap.size w w' := by
  have hv := valN_le c hc
  have hix := tab_index c hc
  generalize valN c = v at hv hix ⊢
  go_enter Tryz.func198, Tryz.ntmps198
  go_wp2_with fail
  refine (b64_values _).mono ?_
  rintro e w1 ⟨rfl, b1⟩
  by_cases h0 : v = 0
  · subst h0
    go_wp2_with fail
    go_ret2
    exact ⟨rfl, b1⟩
  · have t0 : ((v : Int) == 0) = false := by simp; omega
    go_wp2_with fail
    refine (b64_values _).mono ?_
    rintro e w2 ⟨rfl, b2⟩
    go_wp2_with fail
    go_ret2
    refine ⟨?_, ext_trans b1 b2⟩
    have e : (v != 0) = true := by simp [h0]
    rw [e]
    rfl

/-- The reference's. -/
theorem r01_value (c : Nat) (hc : c < 256) (w : World) : Calls Tryz.prog 199 #[.int .u8 (c : Int)] w fun e w' => e = .returned (.tuple #[.int .i64 (if valN c = 0 then 0 else (valN c : Int) - 1), .bool (valN c != 0)]) ∧ w = w' := by
  go_enter Tryz.func199, Tryz.ntmps199
  go_wp2_with fail
  go_loop [5] (fun v5 => ∃ k : Nat, k ≤ 64 ∧ v5 = .int .i64 (k : Int) ∧ (valN c = 0 ∨ k < valN c)) (fun v5 => (64 - intOf v5).toNat)
  case atStart => exact ⟨0, by omega, rfl, by omega⟩
  case round =>
    obtain ⟨k, hk, rfl, hv⟩ := hrel
    by_cases hlt : k < 64
    · have ha : ∀ hs, (⟨#[65, 66, 67, 68, 69, 70, 71, 72, 73, 74, 75, 76, 77, 78, 79, 80, 81, 82, 83, 84, 85, 86, 87, 88, 89, 90, 97, 98, 99, 100, 101, 102, 103, 104, 105, 106, 107, 108, 109, 110, 111, 112, 113, 114, 115, 116, 117, 118, 119, 120, 121, 122, 48, 49, 50, 51, 52, 53, 54, 55, 56, 57, 45, 95]⟩ : ByteArray)[k]'hs = digC k := fun hs => alph_at k hlt hs
      have hd := digC_nat k hlt
      have hi := valN_iff c k hc hlt
      have j0 : (k : Int) < 64 := by omega
      generalize alphN.getD k 0 = x at hd hi
      by_cases hcx : c = x
      · have e1 := hi.2 hcx
        subst hcx
        clear hi
        go_wp2_with fail
        go_ret2
        exact ⟨rfl, rfl⟩
      · have t0 : ((x : Int) == (c : Int)) = false := by simp; omega
        have e1 : valN c ≠ k + 1 := fun h => hcx (hi.1 h)
        clear hi
        go_wp2_with fail
        refine ⟨⟨k + 1, by omega, by go_num, by omega⟩, by simp only [intOf]; omega⟩
    · have hk64 : k = 64 := by omega
      subst hk64
      rw [show ((64 : Nat) : Int) = 64 from rfl]
      have h1 := valN_le c hc
      have h0 : valN c = 0 := by omega
      go_wp2_with fail
      go_ret2
      exact ⟨rfl, rfl⟩

/-- What a value's table entry says. -/
def valV : Nat → Value
  | 0 => .tuple #[.int .i64 0, .bool false]
  | u + 1 => .tuple #[.int .i64 (u : Int), .bool true]
theorem valV_eq (v : Nat) : Value.tuple #[.int .i64 (if v = 0 then 0 else (v : Int) - 1), .bool (v != 0)] = valV v := by
  cases v with
  | zero => rfl
  | succ u =>
    rw [if_neg (by omega)]
    have : ((u + 1 : Nat) : Int) - 1 = (u : Int) := by omega
    rw [this]
    rfl
theorem b64_valueV (c : Nat) (hc : c < 256) (w : World) : Calls Tryz.prog 198 #[.int .u8 (c : Int)] w fun e w' => e = .returned (valV (valN c)) ∧ Below w.heap.size w w' := by
  rw [← valV_eq]; exact b64_value c hc w
theorem r01_valueV (c : Nat) (hc : c < 256) (w : World) : Calls Tryz.prog 199 #[.int .u8 (c : Int)] w fun e w' => e = .returned (valV (valN c)) ∧ w = w' := by
  rw [← valV_eq]; exact r01_value c hc w

end Go.Proofs.YtkinlobfdkeamaaGreatDoor

