/- The kit's dice at the beginning. strconv.ParseInt and event.ParseHex at every text. event.ParseHex at every text. -/
import Derived.Test.YtkinlobfdkeamaaGreatDoorV22
import Derived.Test.YtkinlobfdkeamaaGreatDoorV02
import Derived.Test.YtkinlobfdkeamaaGreatDoorV16
import Derived.Test.YtkinlobfdkeamaaGreatDoorShelf
namespace Go.Proofs.YtkinlobfdkeamaaGreatDoor
open Go.RowKit

set_option maxRecDepth 100000 in
theorem klight (A : Option Addr) (n c : Nat) (w : World) : Calls Tryz.prog 9 #[.slice A n c] w fun e w' => e = .returned (.bool (decide ((n : Int) ≤ 500))) ∧ w' = w := by
  go_enter Tryz.func9, Tryz.ntmps9
  go_wp2_with fail
  go_ret
  exact ⟨by simp, rfl⟩

/-- The numbers of a []int. -/
def Ints (w : World) (A : Option Addr) (n : Nat) : Prop := ∀ i, i < n → ∃ ad z, A = some ad ∧ w.cell? (ad.add i) = some (.int .i64 z) ∧ -9223372036854775808 ≤ z ∧ z ≤ 9223372036854775807

set_option maxRecDepth 100000 in
theorem kroll (A : Option Addr) (n c : Nat) (hc : n ≤ c) (hn : n ≤ 1000000) (w : World) (h : Ints w A n) : Calls Tryz.prog 11 #[.slice A n c] w fun e w' => e = .returned (.pointer (some ⟨w.heap.size, 0, none⟩)) ∧ Below w.heap.size w w' ∧ Dice w.heap.size A n c w' := by
  have H : PLift _ := PLift.up h
  clear h
  go_enter Tryz.func11, Tryz.ntmps11
  go_wp2_with fail
  go_ret
  refine ⟨rfl, ext_alloc _ _, ⟨0, hA1_0 _ _, by omega⟩, hc, hn, fun i hi => ?_⟩
  obtain ⟨ad, z, e1, e2, e3⟩ := H.down i hi
  exact ⟨ad, z, e1, by have := World.block_lt_of_cell? _ _ e2; omega, cellLater (ext_alloc _ _) e2, e3⟩

end Go.Proofs.YtkinlobfdkeamaaGreatDoor

namespace Go.Proofs.YtkinlobfdkeamaaGreatDoor
open Go.RowKit

set_option maxHeartbeats 4000000 in
set_option maxRecDepth 100000 in
theorem puint_none (w : World) :
    Calls Tryz.prog 97 #[.string ⟨#[]⟩, .int .i64 16, .int .i64 64] w fun e w' => e = .returned (uTuple .nodig) ∧ Below w.heap.size w w' := by
  go_enter Tryz.func97, Tryz.ntmps97
  go_wp2_with fail
  go_ret2
  exact ⟨rfl, Below.refl _ _⟩

theorem puint_any (t : ByteArray) (hmax : t.size ≤ 1000) (w : World) :
    Calls Tryz.prog 97 #[.string t, .int .i64 16, .int .i64 64] w fun e w' => (∃ r, e = .returned (uTuple r) ∧ ∀ n, r = .ok n → n < 18446744073709551616) ∧ Below w.heap.size w w' := by
  by_cases h : t.size = 0
  · have : t = ⟨#[]⟩ := by
      apply ByteArray.ext
      apply Array.eq_empty_of_size_eq_zero
      exact h
    subst this
    exact (puint_none w).mono fun e w' ⟨h1, h2⟩ => ⟨⟨.nodig, h1, by simp⟩, h2⟩
  · exact (puint t h (by omega) w).mono fun e w' ⟨h1, h2⟩ => ⟨⟨_, h1, fun n hn => hexP_lt _ 0 n (by omega) hn⟩, h2⟩

/-- What ParseInt answers: a number, and perhaps an error. -/
def pintV (t : ByteArray) (v : Value) : Prop := ∃ m : Int, -9223372036854775808 ≤ m ∧ m ≤ 9223372036854775807 ∧ ((v = .tuple #[.int .i64 m, .nilIface] ∧ t.size ≠ 0) ∨ v = .tuple #[.int .i64 m, .iface 113 (.int .i64 1)] ∨ v = .tuple #[.int .i64 m, .iface 113 (.int .i64 2)])

theorem wrap_i64_any (a : Int) : -9223372036854775808 ≤ IntKind.i64.wrap a ∧ IntKind.i64.wrap a ≤ 9223372036854775807 := by rw [IntKind.wrap_i64]; omega

theorem wrap64_any (a : Int) : -9223372036854775808 ≤ wrap64 a ∧ wrap64 a ≤ 9223372036854775807 := by unfold wrap64; omega
theorem neq_21 (w : World) : (binOp BinOp.neq 51 (.iface 113 (.int .i64 2)) (.iface 113 (.int .i64 1))).run Tryz.prog w = .ok (.bool true) w := by kernel_rfl
theorem neq_11 (w : World) : (binOp BinOp.neq 51 (.iface 113 (.int .i64 1)) (.iface 113 (.int .i64 1))).run Tryz.prog w = .ok (.bool false) w := by kernel_rfl

set_option maxHeartbeats 8000000 in
set_option maxRecDepth 100000 in
theorem ipint_any (t : ByteArray) (hmax : t.size ≤ 1000) (w : World) :
    Calls Tryz.prog 67 #[.string t, .int .i64 16, .int .i64 64] w fun e w' => (∃ v, e = .returned v ∧ pintV t v) ∧ Below w.heap.size w w' := by
  by_cases h0 : t.size = 0
  · have ht : t = ⟨#[]⟩ := by
      apply ByteArray.ext
      apply Array.eq_empty_of_size_eq_zero
      exact h0
    subst ht
    go_enter Tryz.func67, Tryz.ntmps67
    go_wp2_with fail
    go_ret2
    exact ⟨⟨_, rfl, 0, by omega, by omega, Or.inr (Or.inr rfl)⟩, Below.refl _ _⟩
  have hemp : t.toList.isEmpty = false := by
    rw [← decide_eq_emptyBytes]
    exact decide_eq_false (fun h => h0 (by rw [h]; rfl))
  have hpos : 0 < t.size := by omega
  obtain ⟨c, hc⟩ : ∃ c, t[0]'hpos = c := ⟨_, rfl⟩
  have HNE : PLift (t.size ≠ 0) := PLift.up h0
  clear h0
  have HS : PLift (t.size ≤ 1000) := PLift.up hmax
  have hsz : (1 : Int) ≤ t.size := by omega
  have hl1 : t.size ≤ 9223372036854775807 := by omega
  have HE : PLift ((t.extract 1 t.size).size ≤ 1000) := PLift.up (by rw [ByteArray.size_extract]; omega)
  go_enter Tryz.func67, Tryz.ntmps67
  by_cases c43 : c.toNat = 43
  · have e43 : ((c.toNat : Int) == 43) = true := by rw [c43]; rfl
    go_wp2_with fail
    refine (puint_any (t.extract 1 t.size) HE.down _).mono ?_
    rintro e w1 ⟨⟨r, rfl, hr⟩, b1⟩
    cases r with
    | nodig =>
      clear hr
      unfold uTuple
      have hq := neq_21
      go_wp2_with fail
      go_ret2
      exact ⟨⟨_, rfl, 0, by omega, by omega, Or.inr (Or.inr rfl)⟩, b1⟩
    | range =>
      clear hr
      unfold uTuple
      have hq := neq_11
      go_wp2_with fail
      go_ret2
      exact ⟨⟨_, rfl, _, by omega, by omega, Or.inr (Or.inl rfl)⟩, b1⟩
    | ok n =>
      have hn := hr n rfl
      clear hr
      rw [show uTuple (.ok n) = .tuple #[.int .u64 (n : Int), .nilIface] from rfl]
      have a0 : 0 ≤ (n : Int) := by omega
      have a1 : (n : Int) < 18446744073709551616 := by omega
      generalize (n : Int) = a at a0 a1 ⊢
      have hw : a < 9223372036854775808 → IntKind.i64.wrap a = a := wrap_i64_in a a0
      clear hn
      by_cases hg : 9223372036854775808 ≤ a
      · clear hw
        go_wp2_with fail
        go_ret2
        exact ⟨⟨_, rfl, _, by omega, by omega, Or.inr (Or.inl rfl)⟩, b1⟩
      · have hw2 := hw (by omega)
        clear hw
        go_wp2_with fail
        go_ret2
        exact ⟨⟨_, rfl, a, by omega, by omega, Or.inl ⟨rfl, HNE.down⟩⟩, b1⟩
  have e43 : ((c.toNat : Int) == 43) = false := by rw [beq_eq_false_iff_ne]; omega
  by_cases c45 : c.toNat = 45
  · have e45 : ((c.toNat : Int) == 45) = true := by rw [c45]; rfl
    go_wp2_with fail
    refine (puint_any (t.extract 1 t.size) HE.down _).mono ?_
    rintro e w1 ⟨⟨r, rfl, hr⟩, b1⟩
    cases r with
    | nodig =>
      clear hr
      unfold uTuple
      have hq := neq_21
      go_wp2_with fail
      go_ret2
      exact ⟨⟨_, rfl, 0, by omega, by omega, Or.inr (Or.inr rfl)⟩, b1⟩
    | range =>
      clear hr
      unfold uTuple
      have hq := neq_11
      go_wp2_with fail
      go_ret2
      exact ⟨⟨_, rfl, _, (wrap64_any _).1, (wrap64_any _).2, Or.inr (Or.inl rfl)⟩, b1⟩
    | ok n =>
      have hn := hr n rfl
      clear hr
      rw [show uTuple (.ok n) = .tuple #[.int .u64 (n : Int), .nilIface] from rfl]
      have a0 : 0 ≤ (n : Int) := by omega
      have a1 : (n : Int) < 18446744073709551616 := by omega
      generalize (n : Int) = a at a0 a1 ⊢
      have hw : a < 9223372036854775808 → IntKind.i64.wrap a = a := wrap_i64_in a a0
      clear hn
      by_cases hg : 9223372036854775808 < a
      · clear hw
        go_wp2_with fail
        go_ret2
        exact ⟨⟨_, rfl, _, (wrap64_any _).1, (wrap64_any _).2, Or.inr (Or.inl rfl)⟩, b1⟩
      · clear hw
        obtain ⟨bb, hbb⟩ : ∃ bb, bb = IntKind.i64.wrap a := ⟨_, rfl⟩
        have hbb2 := hbb.symm
        have hbb3 : wrap64 a = bb := by rw [hbb, IntKind.wrap_i64, wrap64]
        clear hbb
        go_wp2_with fail
        go_ret2
        exact ⟨⟨_, rfl, _, (wrap64_any _).1, (wrap64_any _).2, Or.inl ⟨rfl, HNE.down⟩⟩, b1⟩
  have e45 : ((c.toNat : Int) == 45) = false := by rw [beq_eq_false_iff_ne]; omega
  go_wp2_with fail
  refine (puint_any t HS.down _).mono ?_
  rintro e w1 ⟨⟨r, rfl, hr⟩, b1⟩
  cases r with
  | nodig =>
    clear hr
    unfold uTuple
    have hq := neq_21
    go_wp2_with fail
    go_ret2
    exact ⟨⟨_, rfl, 0, by omega, by omega, Or.inr (Or.inr rfl)⟩, b1⟩
  | range =>
    clear hr
    unfold uTuple
    have hq := neq_11
    go_wp2_with fail
    go_ret2
    exact ⟨⟨_, rfl, _, by omega, by omega, Or.inr (Or.inl rfl)⟩, b1⟩
  | ok n =>
    have hn := hr n rfl
    clear hr
    rw [show uTuple (.ok n) = .tuple #[.int .u64 (n : Int), .nilIface] from rfl]
    have a0 : 0 ≤ (n : Int) := by omega
    have a1 : (n : Int) < 18446744073709551616 := by omega
    generalize (n : Int) = a at a0 a1 ⊢
    have hw : a < 9223372036854775808 → IntKind.i64.wrap a = a := wrap_i64_in a a0
    clear hn
    by_cases hg : 9223372036854775808 ≤ a
    · clear hw
      go_wp2_with fail
      go_ret2
      exact ⟨⟨_, rfl, _, by omega, by omega, Or.inr (Or.inl rfl)⟩, b1⟩
    · have hw2 := hw (by omega)
      clear hw
      go_wp2_with fail
      go_ret2
      exact ⟨⟨_, rfl, a, by omega, by omega, Or.inl ⟨rfl, HNE.down⟩⟩, b1⟩


end Go.Proofs.YtkinlobfdkeamaaGreatDoor

namespace Go.Proofs.YtkinlobfdkeamaaGreatDoor
open Go.RowKit

/-- The library's two errors lie in memory. -/
structure Errs (w : World) : Prop where
  syn : ∃ ev, w.cell? ⟨1, 0, none⟩ = some ev ∧ (ev = .nilIface ∨ ∃ te pe, ev = .iface te pe)
  ran : ∃ ev, w.cell? ⟨2, 0, none⟩ = some ev ∧ (ev = .nilIface ∨ ∃ te pe, ev = .iface te pe)
theorem Errs.later {w w' : World} (h : Errs w) (hb : Below w.heap.size w w') : Errs w' := by
  obtain ⟨⟨a, h1, h2⟩, ⟨b, h3, h4⟩⟩ := h
  exact ⟨⟨a, cellLater hb h1, h2⟩, ⟨b, cellLater hb h3, h4⟩⟩

def pintW (t : ByteArray) (v : Value) : Prop := ∃ m : Int, -9223372036854775808 ≤ m ∧ m ≤ 9223372036854775807 ∧ ((v = .tuple #[.int .i64 m, .nilIface] ∧ t.size ≠ 0) ∨ ∃ te pe, v = .tuple #[.int .i64 m, .iface te pe])

set_option maxHeartbeats 4000000 in
set_option maxRecDepth 100000 in
theorem pint_any (t : ByteArray) (ht : t.size ≤ 1000) (w : World) (hE : Errs w) :
    Calls Tryz.prog 26 #[.string t, .int .i64 16, .int .i64 64] w fun e w' => (∃ v, e = .returned v ∧ pintW t v) ∧ Below w.heap.size w w' := by
  have h1 : PLift _ := PLift.up (fun w => ipint_any t ht w)
  have h2 : PLift _ := PLift.up (fun (w : World) (hE : Errs w) ev hv hev => Tryz.strconv_toError_syntax ⟨#[80, 97, 114, 115, 101, 73, 110, 116]⟩ t 16 64 ev w (by omega) hv hev)
  have h3 : PLift _ := PLift.up (fun (w : World) (hE : Errs w) ev hv hev => Tryz.strconv_toError_range ⟨#[80, 97, 114, 115, 101, 73, 110, 116]⟩ t 16 64 ev w (by omega) hv hev)
  have HE : PLift _ := PLift.up hE
  clear hE ht
  go_enter Tryz.func26, Tryz.ntmps26
  go_wp2_with fail
  refine (h1.down _).mono ?_
  rintro e w1 ⟨⟨v, rfl, m, m1, m2, hv⟩, b1⟩
  have HE1 : PLift _ := PLift.up (HE.down.later b1)
  rcases hv with ⟨rfl, hne⟩ | rfl | rfl
  · go_wp2_with fail
    go_ret2
    exact ⟨⟨_, rfl, m, m1, m2, Or.inl ⟨rfl, hne⟩⟩, b1⟩
  · go_wp2_with fail
    obtain ⟨ev, c1, c2⟩ := HE1.down.ran
    refine (h3.down _ HE1.down ev c1 c2).mono ?_
    rintro e w2 ⟨N, rfl, _, _, b2⟩
    go_wp2_with fail
    go_ret2
    exact ⟨⟨_, rfl, m, m1, m2, Or.inr ⟨_, _, rfl⟩⟩, ext_trans b1 b2⟩
  · go_wp2_with fail
    obtain ⟨ev, c1, c2⟩ := HE1.down.syn
    refine (h2.down _ HE1.down ev c1 c2).mono ?_
    rintro e w2 ⟨N, rfl, _, _, b2⟩
    go_wp2_with fail
    go_ret2
    exact ⟨⟨_, rfl, m, m1, m2, Or.inr ⟨_, _, rfl⟩⟩, ext_trans b1 b2⟩

/-- What ParseHex answers. -/
def phV (t : ByteArray) (v : Value) : Prop := (∃ n : Nat, n ≤ 1099511627776 ∧ t = hexS n ∧ v = .tuple #[.int .i64 (n : Int), .bool true]) ∨ ((∀ n : Nat, n ≤ 1099511627776 → t ≠ hexS n) ∧ v = .tuple #[.int .i64 0, .bool false])

set_option maxHeartbeats 4000000 in
set_option maxRecDepth 100000 in
theorem ParseHex_any (t : ByteArray) (ht : t.size ≤ 1000) (w : World) (hG : Glob w) (hE : Errs w) :
    Calls Tryz.prog 7 #[.string t] w fun e w' => (∃ v, e = .returned v ∧ phV t v) ∧ Below w.heap.size w w' := by
  by_cases hx : ∃ n : Nat, n ≤ 1099511627776 ∧ t = hexS n
  · obtain ⟨n, hn, rfl⟩ := hx
    refine (ParseHex_yes (hexS n) n (digits_hexS n (by omega)) rfl hn w hG).mono ?_
    rintro e w1 ⟨rfl, b1⟩
    exact ⟨⟨_, rfl, Or.inl ⟨n, hn, rfl, rfl⟩⟩, b1⟩
  · have hno : ∀ n : Nat, n ≤ 1099511627776 → t ≠ hexS n := fun n hn h => hx ⟨n, hn, h⟩
    have HNO : PLift _ := PLift.up hno
    have HP : PLift _ := PLift.up (pint_any t ht w hE)
    have HG : PLift _ := PLift.up hG
    clear hx hno hG hE
    go_enter Tryz.func7, Tryz.ntmps7
    go_wp2_with fail
    refine HP.down.mono ?_
    rintro e w1 ⟨⟨v, rfl, m, m1, m2, hv⟩, b1⟩
    have HG1 : PLift _ := PLift.up (HG.down.later b1)
    rcases hv with ⟨rfl, hne⟩ | ⟨te, pe, rfl⟩
    · by_cases hm : m ≤ 1099511627776
      · by_cases h0 : m < 0
        · have hemp : t.toList.isEmpty = false := by
            rw [← decide_eq_emptyBytes]
            exact decide_eq_false (fun h => hne (by rw [h]; rfl))
          go_wp2_with fail
          refine (Hex_neg m h0 _).mono ?_
          rintro e w2 ⟨rfl, rfl⟩
          go_wp2_with fail
          go_ret2
          exact ⟨⟨_, rfl, Or.inr ⟨HNO.down, rfl⟩⟩, b1⟩
        · obtain ⟨M, rfl⟩ := Int.eq_ofNat_of_zero_le (show 0 ≤ m by omega)
          have hn' : ((hexS M).toList == t.toList) = false := by
            rw [beq_eq_false_iff_ne]
            intro h
            exact HNO.down M (by omega) (by
              apply ByteArray.ext; apply Array.toList_inj.1
              rw [← Lib.toList_data, ← Lib.toList_data]; exact h.symm)
          have HN : PLift _ := PLift.up (Hex_nat M (by omega))
          go_wp2_with fail
          refine (HN.down _ HG1.down).mono ?_
          rintro e w2 ⟨rfl, b2⟩
          go_wp2_with fail
          go_ret2
          exact ⟨⟨_, rfl, Or.inr ⟨HNO.down, rfl⟩⟩, ext_trans b1 b2⟩
      · go_wp2_with fail
        go_ret2
        exact ⟨⟨_, rfl, Or.inr ⟨HNO.down, rfl⟩⟩, b1⟩
    · go_wp2_with fail
      go_ret2
      exact ⟨⟨_, rfl, Or.inr ⟨HNO.down, rfl⟩⟩, b1⟩

end Go.Proofs.YtkinlobfdkeamaaGreatDoor

