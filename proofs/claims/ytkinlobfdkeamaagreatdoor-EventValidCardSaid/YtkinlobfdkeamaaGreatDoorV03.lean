/- Small functions, and the sanity check. What lies in memory behind several new blocks. A []string that reads as a list, nil let in; slices.Index and slices.Contains over it. -/
import Derived.Test.YtkinlobfdkeamaaGreatDoorV02
import Derived.Deep.RegionWith
import Derived.Test.YtkinlobfdkeamaaGreatDoorV01
import Derived.Lib.Hide
import Derived.Deep.QuietTactic
import Derived.BigQuiet
import Derived.Laws.Slices
namespace Go.Proofs.YtkinlobfdkeamaaGreatDoor
open Go.RowKit

theorem inception_3 (w : World) : Calls Tryz.prog 44 #[.int .i64 3] w fun e w' => e = .returned (.bool false) ∧ w = w' := by
  go_enter Tryz.func44, Tryz.ntmps44
  go_wp2
  go_ret
  exact ⟨rfl, rfl⟩
theorem Established_2 (w : World) : Calls Tryz.prog 16 #[.int .i64 2] w fun e w' => e = .returned (.bool true) ∧ w = w' := by
  go_enter Tryz.func16, Tryz.ntmps16
  go_wp2
  go_ret
  exact ⟨rfl, rfl⟩
theorem Established_3 (w : World) : Calls Tryz.prog 16 #[.int .i64 3] w fun e w' => e = .returned (.bool false) ∧ w = w' := by
  go_enter Tryz.func16, Tryz.ntmps16
  go_wp2
  go_ret
  exact ⟨rfl, rfl⟩
theorem Delegated_4 (w : World) : Calls Tryz.prog 18 #[.int .i64 4] w fun e w' => e = .returned (.bool true) ∧ w = w' := by
  go_enter Tryz.func18, Tryz.ntmps18
  go_wp2
  go_ret
  exact ⟨rfl, rfl⟩

theorem begins_zero (w : World) : Calls Tryz.prog 42 #[.agg #[.int .i64 0, .int .i64 0, .string ⟨#[]⟩, .string ⟨#[]⟩, .int .i64 0, .string ⟨#[]⟩, .int .i64 0, .slice none 0 0, .slice none 0 0, .int .i64 0, .slice none 0 0, .slice none 0 0, .int .i64 0, .slice none 0 0, .slice none 0 0, .slice none 0 0, .slice none 0 0, .slice none 0 0, .string ⟨#[]⟩]] w fun e w' => e = .returned (.int .i64 2) ∧ Below w.heap.size w w' := by
  go_enter Tryz.func42, Tryz.ntmps42
  go_wp2
  go_ret
  exact ⟨rfl, (Below.refl _ _).alloc (Nat.le_refl _) _⟩
theorem Valid_zero (w : World) : Calls Tryz.prog 14 #[.agg #[.int .i64 0, .int .i64 0, .string ⟨#[]⟩, .string ⟨#[]⟩, .int .i64 0, .string ⟨#[]⟩, .int .i64 0, .slice none 0 0, .slice none 0 0, .int .i64 0, .slice none 0 0, .slice none 0 0, .int .i64 0, .slice none 0 0, .slice none 0 0, .slice none 0 0, .slice none 0 0, .slice none 0 0, .string ⟨#[]⟩]] w fun e w' => e = .returned (.int .i64 2) ∧ Below w.heap.size w w' := by
  go_enter Tryz.func14, Tryz.ntmps14
  go_wp2_with (first | (go_at_call 42; refine (begins_zero _).mono ?_; rintro e w1 ⟨rfl, hb⟩) | (refine wpList_load_row rfl 35 _ rfl w.heap.size rfl 35 _ _ _ (heap_alloc_new _ _) Tryz.underlying35 rfl (by kernel_rfl) ?_))
  go_ret
  exact ⟨rfl, ((Below.refl _ _).alloc (Nat.le_refl _) _).trans (hb.mono (by simp))⟩

theorem hexS_255 : hexS 255 = ⟨#[102, 102]⟩ := by
  unfold hexS
  rw [hexL_great (by omega), hexL_small (by omega)]
  decide +kernel

theorem Hex_255 (w : World) (hG : Glob w) : Calls Tryz.prog 6 #[.int .i64 255] w fun e w' => e = .returned (.string ⟨#[102, 102]⟩) ∧ Below w.heap.size w w' := by
  have := Hex_nat 255 (by omega) w hG
  rw [hexS_255] at this
  exact this

theorem awake_true (w : World) (hG : Glob w) : Calls Tryz.prog 8 #[] w fun e w' => e = .returned (.bool true) ∧ Below w.heap.size w w' := by
  go_enter Tryz.func8, Tryz.ntmps8
  go_wp2_with fail
  refine (Hex_255 _ hG).mono ?_
  rintro e w1 ⟨rfl, hb⟩
  go_wp2_with (first | (go_at_call_of 16 (Value.int .i64 2); refine (Established_2 _).mono ?_; rintro e w' ⟨rfl, rfl⟩) | (go_at_call 16; refine (Established_3 _).mono ?_; rintro e w' ⟨rfl, rfl⟩) | (go_at_call 18; refine (Delegated_4 _).mono ?_; rintro e w' ⟨rfl, rfl⟩))
  refine (Valid_zero _).mono ?_
  rintro e w2 ⟨rfl, hb2⟩
  go_wp2_with fail
  go_ret
  exact ⟨rfl, hb.trans (hb2.mono hb.size)⟩

end Go.Proofs.YtkinlobfdkeamaaGreatDoor

namespace Go.Proofs.YtkinlobfdkeamaaGreatDoor
open Go.RowKit

theorem extA2 (w : World) (o p : Obj) : Below w.heap.size w ((w.alloc o).alloc p) := ext_trans (ext_alloc w o) (ext_alloc (w.alloc o) p)
theorem extA3 (w : World) (o p q : Obj) : Below w.heap.size w (((w.alloc o).alloc p).alloc q) := ext_trans (extA2 w o p) (ext_alloc _ q)
theorem extA4 (w : World) (o p q r : Obj) : Below w.heap.size w ((((w.alloc o).alloc p).alloc q).alloc r) := ext_trans (extA3 w o p q) (ext_alloc _ r)
/-- A block of older memory. -/
theorem rowLater {w w' : World} {k : Nat} {o : Obj} (hb : Below w.heap.size w w') (h : w.heap[k]? = some o) : w'.heap[k]? = some o := by
  by_cases hk : k < w.heap.size
  · rw [hb.block k hk]; exact h
  · rw [Array.getElem?_eq_none (by omega)] at h; exact absurd h (by simp)
theorem hA1_0 (w : World) (o : Obj) : (w.alloc o).heap[w.heap.size]? = some o := heap_alloc_new w o
theorem hA2_1 (w : World) (o p : Obj) : ((w.alloc o).alloc p).heap[w.heap.size + 1]? = some p := by have := heap_alloc_new (w.alloc o) p; rwa [size_alloc] at this
theorem hA2_0 (w : World) (o p : Obj) : ((w.alloc o).alloc p).heap[w.heap.size]? = some o := rowLater (ext_alloc _ p) (hA1_0 w o)
theorem hA3_2 (w : World) (o p q : Obj) : (((w.alloc o).alloc p).alloc q).heap[w.heap.size + 1 + 1]? = some q := by have := hA2_1 (w.alloc o) p q; rwa [size_alloc] at this
theorem hA3_1 (w : World) (o p q : Obj) : (((w.alloc o).alloc p).alloc q).heap[w.heap.size + 1]? = some p := rowLater (ext_alloc _ q) (hA2_1 w o p)
theorem hA3_0 (w : World) (o p q : Obj) : (((w.alloc o).alloc p).alloc q).heap[w.heap.size]? = some o := rowLater (ext_alloc _ q) (hA2_0 w o p)
theorem hA4_3 (w : World) (o p q r : Obj) : ((((w.alloc o).alloc p).alloc q).alloc r).heap[w.heap.size + 1 + 1 + 1]? = some r := by have := hA3_2 (w.alloc o) p q r; rwa [size_alloc] at this
theorem hA4_2 (w : World) (o p q r : Obj) : ((((w.alloc o).alloc p).alloc q).alloc r).heap[w.heap.size + 1 + 1]? = some q := rowLater (ext_alloc _ r) (hA3_2 w o p q)
theorem hA4_1 (w : World) (o p q r : Obj) : ((((w.alloc o).alloc p).alloc q).alloc r).heap[w.heap.size + 1]? = some p := rowLater (ext_alloc _ r) (hA3_1 w o p q)
theorem hA4_0 (w : World) (o p q r : Obj) : ((((w.alloc o).alloc p).alloc q).alloc r).heap[w.heap.size]? = some o := rowLater (ext_alloc _ r) (hA3_0 w o p q)

end Go.Proofs.YtkinlobfdkeamaaGreatDoor

namespace Go.Proofs.YtkinlobfdkeamaaGreatDoor
open Go.RowKit

/-- The slice value v reads as the texts l. -/
structure Strs (w : World) (v : Value) (l : List (List UInt8)) : Prop where
  val : ∃ A c, v = .slice A l.length c ∧ l.length ≤ c ∧ ∀ i, i < l.length → ∃ ad, A = some ad ∧ w.cell? (ad.add i) = some (.string ⟨(l.getD i []).toArray⟩)
  few : l.length ≤ 1000000
  short : ∀ s ∈ l, s.length ≤ 1000000

theorem Strs.later {w w' : World} {v : Value} {l : List (List UInt8)} (h : Strs w v l) (hb : Below w.heap.size w w') : Strs w' v l := by
  obtain ⟨⟨A, c, rfl, hc, hi⟩, h2, h3⟩ := h
  exact ⟨⟨A, c, rfl, hc, fun i hl => by obtain ⟨ad, rfl, hcell⟩ := hi i hl; exact ⟨ad, rfl, cellLater hb hcell⟩⟩, h2, h3⟩

theorem Strs.nil (w : World) : Strs w (.slice none 0 0) [] := ⟨⟨none, 0, rfl, Nat.le_refl _, fun i h => absurd h (Nat.not_lt_zero _)⟩, by simp, by simp⟩

theorem getD_mem {l : List (List UInt8)} {i : Nat} (hi : i < l.length) : l.getD i [] ∈ l := by
  rw [List.getD_eq_getElem?_getD, List.getElem?_eq_getElem hi]; exact List.getElem_mem hi

theorem Strs.take {w : World} {A : Option Addr} {c : Nat} {l : List (List UInt8)} (h : Strs w (.slice A l.length c) l) {i : Nat} (hi : i ≤ l.length) : Strs w (.slice A i c) (l.take i) := by
  obtain ⟨⟨A', c', e, hc, hel⟩, h2, h3⟩ := h
  cases e
  have hl : (l.take i).length = i := by rw [List.length_take]; omega
  refine ⟨⟨A, c, by rw [hl], by rw [hl]; omega, fun j hj => ?_⟩, by rw [hl]; omega, fun s hs => h3 s (List.mem_of_mem_take hs)⟩
  rw [hl] at hj
  obtain ⟨ad, e, hcell⟩ := hel j (by omega)
  refine ⟨ad, e, ?_⟩
  rw [hcell, List.getD_eq_getElem?_getD, List.getD_eq_getElem?_getD, List.getElem?_take_of_lt hj]

/-- Where a text first stands; -1: nowhere. -/
def idxV (l : List (List UInt8)) (s : List UInt8) : Int := if s ∈ l then (l.idxOf s : Int) else -1

set_option maxHeartbeats 4000000 in
set_option maxRecDepth 100000 in
theorem index_any (v : Value) (l : List (List UInt8)) (s : List UInt8) (w : World) (h : Strs w v l) : Calls Tryz.prog 138 #[v, .string ⟨s.toArray⟩] w fun e w' => (∃ n : Int, e = .returned (.int .i64 n) ∧ (0 ≤ n ↔ s ∈ l)) ∧ w' = w := by
  obtain ⟨⟨A, c, rfl, hc, hel⟩, h2, h3⟩ := h
  go_enter Tryz.func138, Tryz.ntmps138
  go_wp2_with fail
  go_loop [8] (fun v8 => ∃ k : Nat, k ≤ l.length ∧ v8 = .int .i64 (k : Int) ∧ s ∉ l.take k) (fun v8 => ((l.length : Int) - intOf v8).toNat)
  case atStart => exact ⟨0, by omega, rfl, by simp⟩
  case round =>
    obtain ⟨k, hk, rfl, hno⟩ := hrel
    by_cases hlt : k < l.length
    · obtain ⟨ad, rfl, hcell⟩ := hel k hlt
      have j0 : (k : Int) < l.length := by omega
      have hsnoc : l.take (k + 1) = l.take k ++ [l.getD k []] := by
        rw [List.take_succ_eq_append_getElem hlt, List.getD_eq_getElem?_getD, List.getElem?_eq_getElem hlt]; rfl
      have hmem : l.getD k [] ∈ l := by rw [List.getD_eq_getElem?_getD, List.getElem?_eq_getElem hlt]; exact List.getElem_mem hlt
      generalize l.getD k [] = x at hcell hsnoc hmem
      by_cases hx : s = x
      · subst hx
        have hd : decide (s ∈ l) = true := by simpa using hmem
        have HD := Lib.hid hd
        clear hsnoc hel hd hmem hno
        go_wp2_with fail
        go_ret
        refine ⟨⟨(k : Int), rfl, ?_⟩, rfl⟩
        exact ⟨fun _ => by simpa using HD.out, fun _ => by omega⟩
      · have t0 : (s == x) = false := by simpa using hx
        have hno' : s ∉ l.take (k + 1) := by
          rw [hsnoc, List.mem_append, List.mem_singleton]
          rintro (h | h)
          · exact hno h
          · exact hx h
        have HN := Lib.hid hno'
        clear hsnoc hmem hno hno'
        go_wp2_with fail
        exact ⟨⟨k + 1, by omega, by go_num, HN.out⟩, by simp only [intOf]; omega⟩
    · have hkl : k = l.length := by omega
      subst hkl
      rw [List.take_length] at hno
      have HN := Lib.hid hno
      clear hno hel
      go_wp2_with fail
      go_ret
      refine ⟨⟨-1, rfl, ?_⟩, rfl⟩
      exact ⟨fun h => by omega, fun h => absurd h HN.out⟩

set_option maxRecDepth 100000 in
theorem contains_any (v : Value) (l : List (List UInt8)) (s : List UInt8) (w : World) (h : Strs w v l) : Calls Tryz.prog 108 #[v, .string ⟨s.toArray⟩] w fun e w' => e = .returned (.bool (decide (s ∈ l))) ∧ w' = w := by
  have hix := index_any v l s w h
  obtain ⟨⟨A, c, rfl, hc, hel⟩, h2, h3⟩ := h
  go_enter Tryz.func108, Tryz.ntmps108
  go_wp2_with fail
  refine hix.mono ?_
  rintro e w' ⟨⟨n, rfl, hn⟩, rfl⟩
  have hd : decide (0 ≤ n) = decide (s ∈ l) := by rw [decide_eq_decide]; exact hn
  have HN := Lib.hid hd
  clear hn hel hix hd
  go_wp2_with fail
  go_ret
  rw [← HN.out]
  exact ⟨rfl, rfl⟩

end Go.Proofs.YtkinlobfdkeamaaGreatDoor

