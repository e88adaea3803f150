/- The equality of lists of texts, on both sides. strings.Builder's writing methods, by their contracts of the library's shelf, walked over this translation (its copy check is a refused statement here). Rotations to the right, the program's and the reference's. -/
import Derived.Test.YtkinlobfdkeamaaGreatDoorV03
import Derived.Deep.QuietTactic
import Derived.BigQuiet
import Derived.Test.YtkinlobfdkeamaaGreatDoorV01
import Derived.Lib.Builder
import Derived.Lib.AppendStr
import Derived.Lib.Walk
import Derived.Lib.Hide
import Derived.Laws.Externs
namespace Go.Proofs.YtkinlobfdkeamaaGreatDoor
open Go.RowKit

theorem eq_of_getD {α : Type} (a b : List α) (d : α) (hl : a.length = b.length) (h : ∀ i, i < a.length → a.getD i d = b.getD i d) : a = b := by
  apply List.ext_getElem hl
  intro i h1 h2
  have := h i h1
  rw [List.getD_eq_getElem?_getD, List.getElem?_eq_getElem h1, List.getD_eq_getElem?_getD, List.getElem?_eq_getElem h2] at this
  exact this

set_option maxHeartbeats 4000000 in
set_option maxRecDepth 100000 in
theorem equal_strs (v u : Value) (a b : List (List UInt8)) (w : World) (ha : Strs w v a) (hb : Strs w u b) : Calls Tryz.prog 61 #[v, u] w fun e w' => e = .returned (.bool (decide (a = b))) ∧ Below w.heap.size w w' := by
  obtain ⟨⟨A, c, rfl, hc, hel⟩, h2, h3⟩ := ha
  obtain ⟨⟨A', c', rfl, hc', hel'⟩, h2', h3'⟩ := hb
  go_enter Tryz.func61, Tryz.ntmps61
  by_cases hl : a.length = b.length
  · have e0 : ((a.length : Int) != (b.length : Int)) = false := by rw [hl]; simp
    have HL := Lib.hid hl
    clear hl
    go_wp2_with fail
    go_loopw [13] (fun vk wr => ∃ k : Nat, k ≤ a.length ∧ vk = .int .i64 (k : Int) ∧ (∀ i, i < k → a.getD i [] = b.getD i []) ∧ Below w.heap.size w wr) (fun vk _ => ((a.length : Int) - intOf vk).toNat)
    case atStart => exact ⟨0, by omega, rfl, fun i hi => by omega, Below.refl _ _⟩
    case round =>
      obtain ⟨k, hk, rfl, hall, hB⟩ := hrel
      by_cases hlt : k < a.length
      · have hlb := HL.out
        obtain ⟨ad, rfl, hcell⟩ := hel k hlt
        obtain ⟨ad', rfl, hcell'⟩ := hel' k (by omega)
        have q1 := cellLater hB hcell
        have q2 := cellLater hB hcell'
        have j0 : (k : Int) < a.length := by omega
        have j1 : (k : Int) < b.length := by omega
        have hne : a.getD k [] ≠ b.getD k [] → decide (a = b) = false := fun hx => by
          rw [decide_eq_false_iff_not]
          rintro rfl
          exact hx rfl
        have hnext : a.getD k [] = b.getD k [] → ∀ i, i < k + 1 → a.getD i [] = b.getD i [] := fun hx i hi => by
          by_cases e : i = k
          · rw [e]; exact hx
          · exact hall i (by omega)
        have HN := Lib.hid hne
        have HX := Lib.hid hnext
        clear hel hel' hall hcell hcell' hne hnext hlb
        generalize a.getD k [] = x at q1 HN HX
        generalize b.getD k [] = y at q2 HN HX
        by_cases hxy : x = y
        · subst hxy
          have HG := Lib.hid (HX.out rfl)
          go_wp2_with fail
          go_quiet (fail)
          go_wp2_with fail
          exact ⟨⟨k + 1, by omega, by go_num, HG.out, below_drewN hB _⟩, by simp only [intOf]; omega⟩
        · have t0 : (x == y) = false := by simpa using hxy
          have HG := Lib.hid (HN.out hxy)
          go_wp2_with fail
          go_quiet (fail)
          go_wp2_with fail
          go_ret
          rw [HG.out]
          exact ⟨rfl, below_drewN hB _⟩
      · have hkl : k = a.length := by omega
        subst hkl
        have he := eq_of_getD a b [] HL.out hall
        have HE := Lib.hid (decide_eq_true he)
        clear hel hel' hall he
        go_wp2_with fail
        go_ret
        rw [HE.out]
        exact ⟨rfl, hB⟩
  · have e0 : ((a.length : Int) != (b.length : Int)) = true := by simp; omega
    have HE := Lib.hid (show decide (a = b) = false by rw [decide_eq_false_iff_not]; rintro rfl; exact hl rfl)
    clear hel hel'
    go_wp2_with fail
    go_ret
    rw [HE.out]
    exact ⟨rfl, Below.refl _ _⟩

set_option maxHeartbeats 4000000 in
set_option maxRecDepth 100000 in
theorem r14_sameTexts (v u : Value) (a b : List (List UInt8)) (w : World) (ha : Strs w v a) (hb : Strs w u b) : Calls Tryz.prog 64 #[v, u] w fun e w' => e = .returned (.bool (decide (a = b))) ∧ Below w.heap.size w w' := by
  obtain ⟨⟨A, c, rfl, hc, hel⟩, h2, h3⟩ := ha
  obtain ⟨⟨A', c', rfl, hc', hel'⟩, h2', h3'⟩ := hb
  go_enter Tryz.func64, Tryz.ntmps64
  by_cases hl : a.length = b.length
  · have e0 : ((a.length : Int) != (b.length : Int)) = false := by rw [hl]; simp
    have HL := Lib.hid hl
    clear hl
    go_wp2_with fail
    go_loopw [14] (fun vk wr => ∃ k : Nat, k ≤ a.length ∧ vk = .int .i64 (k : Int) ∧ (∀ i, i < k → a.getD i [] = b.getD i []) ∧ Below w.heap.size w wr) (fun vk _ => ((a.length : Int) - intOf vk).toNat)
    case atStart => exact ⟨0, by omega, rfl, fun i hi => by omega, Below.refl _ _⟩
    case round =>
      obtain ⟨k, hk, rfl, hall, hB⟩ := hrel
      by_cases hlt : k < a.length
      · have hlb := HL.out
        obtain ⟨ad, rfl, hcell⟩ := hel k hlt
        obtain ⟨ad', rfl, hcell'⟩ := hel' k (by omega)
        have q1 := cellLater hB hcell
        have q2 := cellLater hB hcell'
        have j0 : (k : Int) < a.length := by omega
        have j1 : (k : Int) < b.length := by omega
        have hne : a.getD k [] ≠ b.getD k [] → decide (a = b) = false := fun hx => by
          rw [decide_eq_false_iff_not]
          rintro rfl
          exact hx rfl
        have hnext : a.getD k [] = b.getD k [] → ∀ i, i < k + 1 → a.getD i [] = b.getD i [] := fun hx i hi => by
          by_cases e : i = k
          · rw [e]; exact hx
          · exact hall i (by omega)
        have HN := Lib.hid hne
        have HX := Lib.hid hnext
        clear hel hel' hall hcell hcell' hne hnext hlb
        generalize a.getD k [] = x at q1 HN HX
        generalize b.getD k [] = y at q2 HN HX
        by_cases hxy : x = y
        · subst hxy
          have HG := Lib.hid (HX.out rfl)
          go_wp2_with fail
          exact ⟨⟨k + 1, by omega, by go_num, HG.out, hB⟩, by simp only [intOf]; omega⟩
        · have t0 : (y == x) = false := by simpa using fun e => hxy e.symm
          have HG := Lib.hid (HN.out hxy)
          go_wp2_with fail
          go_ret
          rw [HG.out]
          exact ⟨rfl, hB⟩
      · have hkl : k = a.length := by omega
        subst hkl
        have he := eq_of_getD a b [] HL.out hall
        have HE := Lib.hid (decide_eq_true he)
        clear hel hel' hall he
        go_wp2_with fail
        go_ret
        rw [HE.out]
        exact ⟨rfl, hB⟩
  · have e0 : ((a.length : Int) != (b.length : Int)) = true := by simp; omega
    have HE := Lib.hid (show decide (a = b) = false by rw [decide_eq_false_iff_not]; rintro rfl; exact hl rfl)
    clear hel hel'
    go_wp2_with fail
    go_ret
    rw [HE.out]
    exact ⟨rfl, Below.refl _ _⟩

end Go.Proofs.YtkinlobfdkeamaaGreatDoor

namespace Go.Proofs.YtkinlobfdkeamaaGreatDoor
open Go.RowKit

theorem bSize : (Tryz.prog.info? 186).map (·.size) = some 2 := by kernel_rfl
theorem bLies : liesAt Tryz.prog Tryz.prog.depth 186 (2 / Tryz.prog.cellsOf 186) 0 186 1 = true := by kernel_rfl
theorem bByte : (Tryz.prog.info? 5).map (fun i => (i.zero, i.size, i.bytes)) = some (some (.int .u8 0), 1, 1) := by kernel_rfl
theorem bNe : 186 ≠ 5 := by decide

set_option maxHeartbeats 1000000 in
set_option maxRecDepth 100000 in
theorem copyCheck_used (b : Nat) (w : World) (h0 : w.cell? ⟨b, 0, none⟩ = some (.pointer (some ⟨b, 0, none⟩))) :
    Calls Tryz.prog 196 #[.pointer (some ⟨b, 0, none⟩)] w fun e w' => e = .returned (.tuple #[]) ∧ w' = w := by
  obtain ⟨j, hj, _⟩ := Option.map_eq_some_iff.1 bSize
  go_enter Tryz.func196, Tryz.ntmps196
  go_wp2
  rw [Lib.run_neq_ptr_same w _ Tryz.underlying184 hj]
  go_wp2
  go_end0
  exact ⟨rfl, rfl⟩

set_option maxHeartbeats 1000000 in
set_option maxRecDepth 100000 in
theorem copyCheck_fresh (b : Nat) (w : World) (h0 : w.cell? ⟨b, 0, none⟩ = some (.pointer none)) (hsh : w.shape? b = some (186, 2)) (hfz : w.frozen? ⟨b, 0, none⟩ = false) :
    Calls Tryz.prog 196 #[.pointer (some ⟨b, 0, none⟩)] w fun e w' => e = .returned (.tuple #[]) ∧ w' = w.setCell ⟨b, 0, none⟩ (.pointer (some ⟨b, 0, none⟩)) := by
  obtain ⟨j, hj, hjs⟩ := Option.map_eq_some_iff.1 bSize
  go_enter Tryz.func196, Tryz.ntmps196
  go_wp2
  rw [Lib.run_to_unsafe w ⟨b, 0, none⟩ Tryz.underlying184 Tryz.underlying206 hj (by rw [hjs]; decide) hsh (Nat.zero_lt_succ 1)]
  simp only [Result.andThen]
  rw [Oper.upon_value]
  go_wp2
  rw [run_callFunc_extern Tryz.func202 (by kernel_rfl) (by kernel_rfl) (by kernel_rfl) (e := Extern.AbiNoEscape.same) (by kernel_rfl)]
  rw [Lib.run_noEscape]
  simp only [Result.andThen]
  rw [Oper.upon_value]
  go_wp2
  rw [Lib.run_from_unsafe w ⟨b, 0, none⟩ Tryz.underlying206 Tryz.underlying184 hj hsh bLies]
  simp only [Result.andThen]
  rw [Oper.upon_value]
  go_wp2
  go_end0
  exact ⟨rfl, rfl⟩

theorem copyCheck (B b : Nat) (bs : List Value) (w : World) (h : Lib.IsBuilder 186 5 B b bs w) :
    Calls Tryz.prog 196 #[.pointer (some ⟨b, 0, none⟩)] w fun e w' => e = .returned (.tuple #[]) ∧ (Lib.BuilderAt 186 5 B b (.pointer (some ⟨b, 0, none⟩)) bs w' ∧ Below B w w') := by
  rcases h with h | h
  · refine (copyCheck_fresh b w h.cell0 h.shape h.frozen0).mono ?_
    rintro e w' ⟨rfl, rfl⟩
    exact ⟨rfl, h.used _, (Below.refl B w).setCell (p := ⟨b, 0, none⟩) h.1 _⟩
  · refine (copyCheck_used b w h.cell0).mono ?_
    rintro e w' ⟨rfl, rfl⟩
    exact ⟨rfl, h, Below.refl B _⟩

set_option maxHeartbeats 2000000 in
set_option maxRecDepth 100000 in
theorem writeByte (B b : Nat) (bs : List Value) (c : Int) (w : World) (h : Lib.IsBuilder 186 5 B b bs w) (hlen : bs.length + 1 ≤ 140737488355328) (hBw : B ≤ w.heap.size) :
    Calls Tryz.prog 187 #[.pointer (some ⟨b, 0, none⟩), .int .u8 c] w fun e w' => e = .returned .nilIface ∧ (Lib.BuilderAt 186 5 B b (.pointer (some ⟨b, 0, none⟩)) (bs ++ [.int .u8 c]) w' ∧ Below B w w') := by
  obtain ⟨i0, hi, hz0, hz1, hz2⟩ := info_parts bByte
  go_enter Tryz.func187, Tryz.ntmps187
  go_wp2_with (go_at_call 196; refine (copyCheck B b bs _ h).mono ?_)
  rintro e w1 ⟨rfl, h1, hb1⟩
  obtain ⟨hB, v, hbk, hown, hne⟩ := h1
  have c0 : w1.cell? ⟨b, 0, none⟩ = some (.pointer (some ⟨b, 0, none⟩)) := by rw [Lib.cell_of_heap hbk]; rfl
  have c1 : w1.cell? ⟨b, 1, none⟩ = some v := by rw [Lib.cell_of_heap hbk]; rfl
  go_wp2_with (at_builtin; refine wpList_append_own _ rfl _ _ 90 rfl B 5 i0 (.int .u8 0) 1 1 Tryz.underlying90 hi hz0 hz1 hz2 rfl (by decide) _ _ _ rfl (hown.alloc _) ⟨w1.heap.size, 0, none⟩ 1 1 [.int .u8 c] rfl rfl ?c1 ?c2 ?c3 ?c4 ?c5 ?_)
  case c1 =>
    intro j u hj
    match j, hj with
    | 0, hj => simp at hj; subst hj; simp [Addr.add]
  case c2 => intro u hu; simp at hu; subst hu; rfl
  case c3 => unfold maxLen; omega
  case c4 => omega
  case c5 => have := hb1.size; simp; omega
  intro v' w2 hown' hgrow _
  have hlt : b < w1.heap.size := by
    rcases Nat.lt_or_ge b w1.heap.size with h' | h'
    · exact h'
    · simp [Array.getElem?_eq_none h'] at hbk
  have hb2 : w2.heap[b]? = some (.cells #[.pointer (some ⟨b, 0, none⟩), v] 186 (0, 0)) := by
    rw [hgrow.block b (by simp; omega) (fun e => hne e.symm), Lib.alloc_old w1 _ b hlt]
    exact hbk
  have d0 : w2.cell? ⟨b, 0, none⟩ = some (.pointer (some ⟨b, 0, none⟩)) := by rw [Lib.cell_of_heap hb2]; rfl
  have d1 : w2.cell? ⟨b, 1, none⟩ = some v := by rw [Lib.cell_of_heap hb2]; rfl
  have f1 : w2.frozen? ⟨b, 1, none⟩ = false := Lib.frozen_of_heap hb2 1
  obtain ⟨g, cap, rfl⟩ : ∃ g cap, v' = .slice (some ⟨g, 0, none⟩) (bs.length + 1) cap := by
    rcases hown'.2 with ⟨_, h0⟩ | ⟨g, cap, cur, hv, _⟩
    · omega
    · exact ⟨g, cap, hv⟩
  go_wp2
  go_ret
  refine ⟨rfl, ?_, ?_⟩
  · exact Lib.BuilderAt.put (T := 186) (e := 5) hB hb2 (bs' := bs ++ [.int .u8 c]) (by simpa using hown') bNe
  · exact ((hb1.alloc (by have := hb1.size; omega) _).grown hgrow (by have := hb1.size; simp; omega) (fun k hk => (hown.lt k hk).1)).setCell (p := ⟨b, 1, none⟩) hB _

set_option maxHeartbeats 2000000 in
set_option maxRecDepth 100000 in
theorem writeString (B b : Nat) (bs : List Value) (s : ByteArray) (w : World) (h : Lib.IsBuilder 186 5 B b bs w) (hlen : bs.length + s.size ≤ 140737488355328) (hBw : B ≤ w.heap.size) :
    Calls Tryz.prog 177 #[.pointer (some ⟨b, 0, none⟩), .string s] w fun e w' => e = .returned (.tuple #[.int .i64 s.size, .nilIface]) ∧ (Lib.BuilderAt 186 5 B b (.pointer (some ⟨b, 0, none⟩)) (bs ++ Lib.strCells s) w' ∧ Below B w w') := by
  obtain ⟨i0, hi, hz0, hz1, hz2⟩ := info_parts bByte
  go_enter Tryz.func177, Tryz.ntmps177
  go_wp2_with (go_at_call 196; refine (copyCheck B b bs _ h).mono ?_)
  rintro e w1 ⟨rfl, h1, hb1⟩
  obtain ⟨hB, v, hbk, hown, hne⟩ := h1
  have c0 : w1.cell? ⟨b, 0, none⟩ = some (.pointer (some ⟨b, 0, none⟩)) := by rw [Lib.cell_of_heap hbk]; rfl
  have c1 : w1.cell? ⟨b, 1, none⟩ = some v := by rw [Lib.cell_of_heap hbk]; rfl
  go_wp2_with (at_builtin; refine Lib.wpList_append_own_string _ rfl _ _ 90 9 rfl B 5 i0 Tryz.underlying90 Tryz.underlying9 hi hz0 hz1 hz2 _ _ _ rfl hown s rfl ?c3 ?c4 ?c5 ?_)
  case c3 => unfold maxLen; omega
  case c4 => omega
  case c5 => have := hb1.size; omega
  intro v' w2 hown' hgrow _
  have hlt : b < w1.heap.size := by
    rcases Nat.lt_or_ge b w1.heap.size with h' | h'
    · exact h'
    · simp [Array.getElem?_eq_none h'] at hbk
  have hb2 : w2.heap[b]? = some (.cells #[.pointer (some ⟨b, 0, none⟩), v] 186 (0, 0)) := by
    rw [hgrow.block b hlt (fun e => hne e.symm)]
    exact hbk
  have d0 : w2.cell? ⟨b, 0, none⟩ = some (.pointer (some ⟨b, 0, none⟩)) := by rw [Lib.cell_of_heap hb2]; rfl
  have d1 : w2.cell? ⟨b, 1, none⟩ = some v := by rw [Lib.cell_of_heap hb2]; rfl
  have f1 : w2.frozen? ⟨b, 1, none⟩ = false := Lib.frozen_of_heap hb2 1
  obtain ⟨ao, n', cap, rfl⟩ : ∃ ao n' cap, v' = .slice ao n' cap := by
    rcases hown'.2 with ⟨hv, _⟩ | ⟨g, cap, cur, hv, _⟩
    · exact ⟨_, _, _, hv⟩
    · exact ⟨_, _, _, hv⟩
  go_wp2
  go_ret2
  refine ⟨rfl, ?_, ?_⟩
  · exact Lib.BuilderAt.put (T := 186) (e := 5) hB hb2 (bs' := bs ++ Lib.strCells s) (by simpa [Lib.strCells_length] using hown') bNe
  · exact (hb1.grown hgrow (by have := hb1.size; omega) (fun k hk => (hown.lt k hk).1)).setCell (p := ⟨b, 1, none⟩) hB _

theorem grownNone {a w : World} (h : Below a.heap.size a w) : a.grownBy w none := ⟨h.os, h.tape, h.output, h.size, fun k hk _ => h.block k hk⟩
theorem builderLater {T e : TypeId} {B b : Nat} {p : Value} {bs : List Value} {w w' : World} (h : Lib.BuilderAt T e B b p bs w) (hb : Below w.heap.size w w') : Lib.BuilderAt T e B b p bs w' := by
  obtain ⟨h1, v, h2, h3, h4⟩ := h
  have hlt : b < w.heap.size := by
    rcases Nat.lt_or_ge b w.heap.size with h' | h'
    · exact h'
    · simp [Array.getElem?_eq_none h'] at h2
  refine ⟨h1, v, (hb.block b hlt).trans h2, h3.kept (grownNone hb) ?_, h4⟩
  cases hv : v.ownBlock with
  | none => exact .inl rfl
  | some g => exact .inr (by simp)

end Go.Proofs.YtkinlobfdkeamaaGreatDoor

namespace Go.Proofs.YtkinlobfdkeamaaGreatDoor
open Go.RowKit

/-- A rotation to the right. -/
def rot (x : Int) (n : Nat) : Int := bits BinOp.or IntKind.u32 (x / 2 ^ n) (x * 2 ^ (32 - n) % 4294967296)

theorem or_comm32 (a b : Int) : bits BinOp.or IntKind.u32 a b = bits BinOp.or IntKind.u32 b a := by
  unfold bits
  simp only [BitVec.or_comm]

theorem rref (x m : Int) (h1 : 1 ≤ m) (h2 : m ≤ 31) (w : World) :
    Calls Tryz.prog 107 #[.int .u32 x, .int .i64 m] w fun e w' => e = .returned (.int .u32 (rot x m.toNat)) ∧ w = w' := by
  obtain ⟨n, rfl⟩ := Int.eq_ofNat_of_zero_le (show 0 ≤ m by omega)
  go_enter Tryz.func107, Tryz.ntmps107
  go_wp2
  go_ret
  exact ⟨rfl, rfl⟩

theorem and31 : ∀ n : Nat, n < 32 → 1 ≤ n → bits BinOp.and IntKind.u64 (IntKind.u64.wrap (-(n : Int))) 31 = 32 - (n : Int) := by decide +kernel

theorem rotl (x : Int) (n : Nat) (h1 : 1 ≤ n) (h2 : n ≤ 31) (w : World) :
    Calls Tryz.prog 200 #[.int .u32 x, .int .i64 (-(n : Int))] w fun e w' => e = .returned (.int .u32 (rot x n)) ∧ w = w' := by
  have e := and31 n (by omega) h1
  go_enter Tryz.func200, Tryz.ntmps200
  go_wp2
  go_ret
  refine ⟨?_, rfl⟩
  unfold rot
  rw [or_comm32]
  have e1 : (32 - (32 - n)) = n := by omega
  simp [e1]

theorem rprog (x m : Int) (h1 : 1 ≤ m) (h2 : m ≤ 31) (w : World) :
    Calls Tryz.prog 188 #[.int .u32 x, .int .i64 m] w fun e w' => e = .returned (.int .u32 (rot x m.toNat)) ∧ w = w' := by
  obtain ⟨n, rfl⟩ := Int.eq_ofNat_of_zero_le (show 0 ≤ m by omega)
  go_enter Tryz.func188, Tryz.ntmps188
  go_wp2_with (go_at_call 200; refine (rotl x n (by omega) (by omega) _).mono ?_; rintro e w' ⟨rfl, rfl⟩)
  go_ret
  exact ⟨rfl, rfl⟩
end Go.Proofs.YtkinlobfdkeamaaGreatDoor

