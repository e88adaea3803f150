/- Base 64 walked: the reference's Encode. Base 64 walked: the program's number and Decode, and the reference's Decode. -/
import Derived.Test.YtkinlobfdkeamaaGreatDoorV08
import Derived.IntWalk
namespace Go.Proofs.YtkinlobfdkeamaaGreatDoor
open Go.RowKit

theorem drop3 (l : List UInt8) (i : Nat) (h : 3 * i + 3 ≤ l.length) : encL (l.drop (3 * i)) = quad (l.getD (3 * i) 0).toNat (l.getD (3 * i + 1) 0).toNat (l.getD (3 * i + 2) 0).toNat ++ encL (l.drop (3 * (i + 1))) := by
  rw [encL_step _ (by rw [List.length_drop]; omega), List.drop_drop]
  simp only [List.getD_eq_getElem?_getD, List.getElem?_drop]
  rfl
theorem byte_getD (l : List UInt8) (i : Nat) (h : i < (⟨l.toArray⟩ : ByteArray).size) : (((⟨l.toArray⟩ : ByteArray)[i]'h).toNat : Int) = ((l.getD i 0).toNat : Int) := bAt_get ⟨l.toArray⟩ i h

set_option maxHeartbeats 8000000 in
set_option maxRecDepth 100000 in
theorem r01_encode (l : List UInt8) (h1 : l.length ≤ 65536) (h2 : l.length % 3 = 0) (w : World) : Calls Tryz.prog 105 #[.string ⟨l.toArray⟩] w fun e w' => e = .returned (.tuple #[.string ⟨(encL l).toArray⟩, .int .i64 0]) ∧ Below w.heap.size w w' := by
  have g1 : decide (65536 < (l.length : Int)) = false := by simp; omega
  have g2 : (l.length : Int) % 3 = 0 := by omega
  go_enter Tryz.func105, Tryz.ntmps105
  go_wp2_with fail
  rw [g2]
  clear g2
  obtain ⟨m, hm⟩ : ∃ m, l.length = 3 * m := ⟨l.length / 3, by omega⟩
  have HM := Lib.hid hm
  clear hm h2
  go_loopw [4, 5] (fun v4 v5 wr => ∃ (i : Nat) (d : List UInt8), i ≤ m ∧ v5 = .int .i64 (3 * (i : Int)) ∧ d ++ encL (l.drop (3 * i)) = encL l ∧ d.length = 4 * i ∧ OwnL w wr v4 d) (fun _ v5 _ => (3 * (m : Int) - intOf v5).toNat)
  case atStart => exact ⟨0, [], by omega, rfl, rfl, rfl, ownL_nil w⟩
  case round =>
    obtain ⟨i, d, hi, rfl, hd, hlen, hO⟩ := hrel
    have hml := HM.out
    by_cases hlt : i < m
    · have j0 : 3 * (i : Int) < l.length := by omega
      obtain ⟨X, hX⟩ : ∃ X, X = (l.getD (3 * i) 0).toNat := ⟨_, rfl⟩
      obtain ⟨Y, hY⟩ : ∃ X, X = (l.getD (3 * i + 1) 0).toNat := ⟨_, rfl⟩
      obtain ⟨Z, hZ⟩ : ∃ X, X = (l.getD (3 * i + 2) 0).toNat := ⟨_, rfl⟩
      have lx : X < 256 := by rw [hX]; exact UInt8.toNat_lt _
      have ly : Y < 256 := by rw [hY]; exact UInt8.toNat_lt _
      have lz : Z < 256 := by rw [hZ]; exact UInt8.toNat_lt _
      obtain ⟨S, hS⟩ : ∃ S : ByteArray, S = ⟨l.toArray⟩ := ⟨_, rfl⟩
      have hsz : S.size = l.length := by rw [hS]; rfl
      have b0 : ∀ h, ((S[3 * i]'h).toNat : Int) = X := by subst hS; intro h; rw [hX]; exact byte_getD l _ h
      have b1 : ∀ h, ((S[3 * i + 1]'h).toNat : Int) = Y := by subst hS; intro h; rw [hY]; exact byte_getD l _ h
      have b2 : ∀ h, ((S[3 * i + 2]'h).toNat : Int) = Z := by subst hS; intro h; rw [hZ]; exact byte_getD l _ h
      have hstep := drop3 l i (by omega)
      rw [← hX, ← hY, ← hZ] at hstep
      have f0 : 3 * (i : Int) < S.size := by omega
      have f1 : 3 * (i : Int) + 1 < S.size := by omega
      have f2 : 3 * (i : Int) + 2 < S.size := by omega
      have g0 : 0 ≤ 3 * (i : Int) := by omega
      have g1 : 0 ≤ 3 * (i : Int) + 1 := by omega
      have g2 : 0 ≤ 3 * (i : Int) + 2 := by omega
      have s0 : (3 * (i : Int)).toNat = 3 * i := by omega
      have s1 : (3 * (i : Int) + 1).toNat = 3 * i + 1 := by omega
      have s2 : (3 * (i : Int) + 2).toNat = 3 * i + 2 := by omega
      have w1 : IntKind.i64.wrap (3 * (i : Int) + 1) = 3 * (i : Int) + 1 := IntWalk.i64_in _ (by omega)
      have w2 : IntKind.i64.wrap (3 * (i : Int) + 2) = 3 * (i : Int) + 2 := IntWalk.i64_in _ (by omega)
      rw [← hS]
      have HS := Lib.hid hS
      have wA : IntKind.i64.wrap ((X : Int) * 65536) = (X : Int) * 65536 := IntWalk.i64_in _ (by omega)
      have wB : IntKind.i64.wrap ((Y : Int) * 256) = (Y : Int) * 256 := IntWalk.i64_in _ (by omega)
      have o1 := or16 X Y lx ly
      have o2 := or8 X Y Z lx ly lz
      have HST := Lib.hid hstep
      have HSZ := Lib.hid hsz
      clear hS hX hY hZ hstep hml
      go_wp2_with fail
      go_quiet (fail)
      obtain ⟨n, hn⟩ : ∃ n, n = 65536 * X + 256 * Y + Z := ⟨_, rfl⟩
      have hnn : (X : Int) * 65536 + (Y : Int) * 256 + (Z : Int) = (n : Int) := by omega
      rw [hnn]
      have hn2 : n < 16777216 := by omega
      have HN := Lib.hid hn
      clear hn hnn o1 o2 wA wB hsz b0 b1 b2 f0 f1 f2 g0 g1 g2 s0 s1 s2 w1 w2
      have d0 : (n : Int) / 262144 = ((n / 262144 : Nat) : Int) := by omega
      have d1 := i64_and63 (n / 4096) (by omega)
      have d2 := i64_and63 (n / 64) (by omega)
      have d3 := i64_and63 n (by omega)
      rw [show ((n / 4096 : Nat) : Int) = (n : Int) / 4096 by omega] at d1
      rw [show ((n / 64 : Nat) : Int) = (n : Int) / 64 by omega] at d2
      have l0 : n / 262144 < 64 := by omega
      have l1 : n / 4096 % 64 < 64 := by omega
      have l2 : n / 64 % 64 < 64 := by omega
      have l3 : n % 64 < 64 := by omega
      have hquad : quad X Y Z = [digC (n / 262144), digC (n / 4096 % 64), digC (n / 64 % 64), digC (n % 64)] := by unfold quad; rw [← HN.out]
      generalize n / 262144 = p0 at d0 l0 hquad
      generalize n / 4096 % 64 = p1 at d1 l1 hquad
      generalize n / 64 % 64 = p2 at d2 l2 hquad
      generalize n % 64 = p3 at d3 l3 hquad
      have a0 : ∀ hs, (⟨#[65, 66, 67, 68, 69, 70, 71, 72, 73, 74, 75, 76, 77, 78, 79, 80, 81, 82, 83, 84, 85, 86, 87, 88, 89, 90, 97, 98, 99, 100, 101, 102, 103, 104, 105, 106, 107, 108, 109, 110, 111, 112, 113, 114, 115, 116, 117, 118, 119, 120, 121, 122, 48, 49, 50, 51, 52, 53, 54, 55, 56, 57, 45, 95]⟩ : ByteArray)[p0]'hs = digC p0 := fun hs => alph_at p0 l0 hs
      have a1 : ∀ hs, (⟨#[65, 66, 67, 68, 69, 70, 71, 72, 73, 74, 75, 76, 77, 78, 79, 80, 81, 82, 83, 84, 85, 86, 87, 88, 89, 90, 97, 98, 99, 100, 101, 102, 103, 104, 105, 106, 107, 108, 109, 110, 111, 112, 113, 114, 115, 116, 117, 118, 119, 120, 121, 122, 48, 49, 50, 51, 52, 53, 54, 55, 56, 57, 45, 95]⟩ : ByteArray)[p1]'hs = digC p1 := fun hs => alph_at p1 l1 hs
      have a2 : ∀ hs, (⟨#[65, 66, 67, 68, 69, 70, 71, 72, 73, 74, 75, 76, 77, 78, 79, 80, 81, 82, 83, 84, 85, 86, 87, 88, 89, 90, 97, 98, 99, 100, 101, 102, 103, 104, 105, 106, 107, 108, 109, 110, 111, 112, 113, 114, 115, 116, 117, 118, 119, 120, 121, 122, 48, 49, 50, 51, 52, 53, 54, 55, 56, 57, 45, 95]⟩ : ByteArray)[p2]'hs = digC p2 := fun hs => alph_at p2 l2 hs
      have a3 : ∀ hs, (⟨#[65, 66, 67, 68, 69, 70, 71, 72, 73, 74, 75, 76, 77, 78, 79, 80, 81, 82, 83, 84, 85, 86, 87, 88, 89, 90, 97, 98, 99, 100, 101, 102, 103, 104, 105, 106, 107, 108, 109, 110, 111, 112, 113, 114, 115, 116, 117, 118, 119, 120, 121, 122, 48, 49, 50, 51, 52, 53, 54, 55, 56, 57, 45, 95]⟩ : ByteArray)[p3]'hs = digC p3 := fun hs => alph_at p3 l3 hs
      have k0 : (p0 : Int) < 64 := by omega
      have k1 : (p1 : Int) < 64 := by omega
      have k2 : (p2 : Int) < 64 := by omega
      have k3 : (p3 : Int) < 64 := by omega
      have HQ := Lib.hid hquad
      clear hquad
      go_wp2_with fail
      have hO' : OwnL w (wr.drewN nq).drew u4 d := ownL_later hO ((ext_drewN (Below.refl _ _) nq).drew)
      have hdl : d.length ≤ 1000000 := by have := HM.out; omega
      have hfin : (d ++ quad X Y Z) ++ encL (l.drop (3 * (i + 1))) = encL l := by
        rw [← hd, List.append_assoc, HST.out]
      have HF := Lib.hid hfin
      clear hfin hd
      go_region_law (refine step_ownL_append w (wr.drewN nq).drew d (quad X Y Z) 4 _ hO' rfl (.tmp 40) (.tmp 55) rfl (by simp [Act.eval]) (by simp [Act.eval]) rfl _ (by rw [HQ.out]; rfl) (by omega) ?_; intro v3 w3 h3)
      all_goals
        go_wp2_with fail
        refine ⟨⟨i + 1, d ++ quad X Y Z, by omega, by congr 1, HF.out, ?_, h3⟩, ?_⟩
        · rw [List.length_append, show (quad X Y Z).length = 4 from rfl]; omega
        · simp only [intOf]; omega
    · have him : i = m := by omega
      subst him
      have hcv := ownL_string hO
      rw [List.drop_eq_nil_of_le (by omega), show encL [] = [] from rfl, List.append_nil] at hd
      rw [hd] at hcv
      have hlow := hO.low
      have j1 : ¬ (3 * (i : Int) < l.length) := by omega
      clear hO hd hlen
      go_wp2_with fail
      go_ret2
      exact ⟨rfl, hlow⟩

end Go.Proofs.YtkinlobfdkeamaaGreatDoor

namespace Go.Proofs.YtkinlobfdkeamaaGreatDoor
open Go.RowKit

theorem or6 (n x : Nat) (hn : n < 16777216) (hx : x < 64) : bits BinOp.or IntKind.i64 ((n : Int) * 64) (x : Int) = (n : Int) * 64 + x := by
  have := i64_join 6 (n * 64) x (by omega) (by omega) (by omega) (by omega)
  rw [Int.natCast_mul] at this
  exact this

theorem numL_drop (l : List UInt8) (i n : Nat) (h : i < l.length) : numL (l.drop i) n = if valN (l.getD i 0).toNat = 0 then none else numL (l.drop (i + 1)) (64 * n + (valN (l.getD i 0).toNat - 1)) := by
  have e : l.drop i = l.getD i 0 :: l.drop (i + 1) := by
    rw [List.drop_eq_getElem_cons h, List.getD_eq_getElem?_getD, List.getElem?_eq_getElem h]; rfl
  rw [e, numL]

def numV (o : Option Nat) : Value := match o with | some n => .tuple #[.int .i64 (n : Int), .bool true] | none => .tuple #[.int .i64 0, .bool false]

set_option maxHeartbeats 8000000 in
set_option maxRecDepth 100000 in
theorem b64_number (l : List UInt8) (h1 : l.length ≤ 4) (w : World) : Calls Tryz.prog 180 #[.string ⟨l.toArray⟩] w fun e w' => e = .returned (numV (numL l 0)) ∧ Below w.heap.size w w' := by
  go_enter Tryz.func180, Tryz.ntmps180
  go_wp2_with fail
  go_loopw [4, 10] (fun v4 v10 wr => ∃ (i n : Nat), i ≤ l.length ∧ v10 = .int .i64 (i : Int) ∧ v4 = .int .i64 (n : Int) ∧ n < 64 ^ i ∧ numL l 0 = numL (l.drop i) n ∧ Below w.heap.size w wr) (fun _ v10 _ => ((l.length : Int) - intOf v10).toNat)
  case atStart => exact ⟨0, 0, by omega, rfl, rfl, by omega, rfl, Below.refl _ _⟩
  case round =>
    obtain ⟨i, n, hi, rfl, rfl, hn, hnum, hB⟩ := hrel
    by_cases hlt : i < l.length
    · have j0 : (i : Int) < l.length := by omega
      rw [numL_drop l i n hlt] at hnum
      obtain ⟨X, hX⟩ : ∃ X, X = (l.getD i 0).toNat := ⟨_, rfl⟩
      rw [← hX] at hnum
      have lx : X < 256 := by rw [hX]; exact UInt8.toNat_lt _
      have b0 : ∀ h, (((⟨l.toArray⟩ : ByteArray)[i]'h).toNat : Int) = X := by intro h; rw [hX]; exact byte_getD l _ h
      have hv := valN_le X lx
      have hnb : n < 64 ^ 3 := Nat.lt_of_lt_of_le hn (Nat.pow_le_pow_right (by omega) (by omega))
      have hval := fun w => b64_valueV X lx w
      have hn' : n * 64 < 64 ^ i * 64 := Nat.mul_lt_mul_of_pos_right hn (by omega)
      generalize valN X = v at hv hnum hval
      clear hX
      cases v with
      | zero =>
        rw [if_pos rfl] at hnum
        have HNU := Lib.hid hnum
        clear hnum
        go_wp2_with fail
        refine (hval _).mono ?_
        rintro e w1 ⟨rfl, b1⟩
        rw [valV]
        clear hval
        go_wp2_with fail
        go_ret2
        rw [HNU.out]
        exact ⟨rfl, hB.trans (b1.mono hB.size)⟩
      | succ u =>
        rw [if_neg (by omega), Nat.add_sub_cancel] at hnum
        have o1 := or6 n u (by omega) (by omega)
        have wA : IntKind.i64.wrap ((n : Int) * 64) = (n : Int) * 64 := IntWalk.i64_in _ (by omega)
        have HNU := Lib.hid hnum
        clear hnum
        go_wp2_with fail
        refine (hval _).mono ?_
        rintro e w1 ⟨rfl, b1⟩
        rw [valV]
        clear hval
        go_wp2_with fail
        refine ⟨⟨i + 1, 64 * n + u, by omega, by go_num, ?_, ?_, HNU.out, hB.trans (b1.mono hB.size)⟩, by simp only [intOf]; omega⟩
        · congr 1; omega
        · rw [Nat.pow_succ]; omega
    · have hil : i = l.length := by omega
      subst hil
      rw [List.drop_length, numL] at hnum
      have HNU := Lib.hid hnum
      clear hnum
      go_wp2_with fail
      go_ret2
      rw [HNU.out]
      exact ⟨rfl, hB⟩

theorem byteN (x : Nat) : ((UInt8.ofNat (x % 256)).toNat : Int) = ((x : Int) % 256) := by
  rw [UInt8.toNat_ofNat', Nat.mod_mod_of_dvd _ (by decide)]
  omega
theorem tri_cells (n : Nat) (hn : n < 16777216) : (#[Value.int .u8 ((n : Int) / 65536), .int .u8 ((n : Int) / 256 % 256), .int .u8 ((n : Int) % 256)] : Array Value).toList = Lib.byteCells (tri n) := by
  unfold tri Lib.byteCells
  simp only [List.map_cons, List.map_nil, byteN]
  have e : ((n / 65536 : Nat) : Int) % 256 = (n : Int) / 65536 := by omega
  rw [e]
  rfl
def decV (o : Option (List UInt8)) : Value := match o with | some l => .tuple #[.string ⟨l.toArray⟩, .int .i64 0] | none => .tuple #[.string ⟨#[]⟩, .int .i64 4]
theorem decL_step (a b c e : UInt8) (r : List UInt8) : decL (a :: b :: c :: e :: r) = (numL [a, b, c, e] 0).bind fun n => (decL r).map (tri n ++ ·) := rfl

set_option maxHeartbeats 8000000 in
set_option maxRecDepth 100000 in
theorem b64_decode (l : List UInt8) (h1 : l.length ≤ 131072) (h2 : l.length % 4 = 0) (w : World) : Calls Tryz.prog 155 #[.string ⟨l.toArray⟩] w fun e w' => e = .returned (decV (decL l)) ∧ Below w.heap.size w w' := by
  obtain ⟨i0, hi, hz0, hz1, hz2⟩ := info_parts bByte
  have g1 : decide (131072 < (l.length : Int)) = false := by simp; omega
  have g2 : (l.length : Int) % 4 = 0 := by omega
  go_enter Tryz.func155, Tryz.ntmps155
  go_wp2_with (refine wpList_make_own _ rfl _ _ 90 rfl w.heap.size 5 i0 (.int .u8 0) 1 Tryz.underlying90 hi hz0 hz1 .i64 .i64 ((l.length : Int) / 4 * 3) (l.length / 4 * 3) rfl rfl (by push_cast; rfl) (by rw [hz2]; have := h1; omega) (by unfold maxLen; omega) (Nat.le_refl _) ?_)
  intro w1 ho hg
  have hO : OwnL w w1 (.slice (some ⟨w.heap.size, 0, none⟩) 0 (l.length / 4 * 3)) [] := ⟨ho, ⟨hg.os, hg.tape, hg.output, hg.size, fun k hk => hg.block k hk (by simp)⟩⟩
  clear ho hg hi hz0 hz1 hz2
  go_wp2_with fail
  go_loopw [0, 4] (fun v0 v4 wr => ∃ r d : List UInt8, v0 = .string ⟨r.toArray⟩ ∧ r.length % 4 = 0 ∧ decL l = (decL r).map (d ++ ·) ∧ 4 * d.length + 3 * r.length = 3 * l.length ∧ OwnL w wr v4 d) (fun v0 _ _ => sLen v0)
  case atStart => exact ⟨l, [], rfl, h2, by simp, by simp, hO⟩
  case round =>
    obtain ⟨r, d, rfl, hr, hd, hlen, hO⟩ := hrel
    match r with
    | [] =>
      have hcv := ownL_string hO
      rw [show decL [] = some [] from rfl, Option.map_some, List.append_nil] at hd
      have hlow := hO.low
      have HD := Lib.hid hd
      clear hO hd hlen hr
      go_wp2_with fail
      go_ret2
      rw [HD.out]
      exact ⟨rfl, hlow⟩
    | [x] => simp at hr
    | [x, y] => simp at hr
    | [x, y, z] => simp at hr
    | a :: b :: c :: e :: r =>
      rw [List.length_cons, List.length_cons, List.length_cons, List.length_cons] at hlen hr
      rw [decL_step] at hd
      have hr' : r.length % 4 = 0 := by omega
      obtain ⟨S, hS⟩ : ∃ S : ByteArray, S = ⟨(a :: b :: c :: e :: r).toArray⟩ := ⟨_, rfl⟩
      have hsz : S.size = r.length + 4 := by rw [hS]; rfl
      have t0 : (!S.toList.isEmpty) = true := by subst hS; rw [ByteArray.toList_mk]; rfl
      have e0 : S.extract 0 4 = ⟨[a, b, c, e].toArray⟩ := by subst hS; apply ByteArray.ext; apply Array.toList_inj.1; rw [Lib.extract_data]; rfl
      have e1 : S.extract 4 (r.length + 4) = ⟨r.toArray⟩ := by
        subst hS; apply ByteArray.ext; apply Array.toList_inj.1; rw [Lib.extract_data]
        show List.take (r.length + 4 - 4) r = r
        exact List.take_of_length_le (by omega)
      have f4 : (4 : Int) ≤ S.size := by omega
      have f5 : 4 ≤ S.size := by omega
      have hnum := fun w => b64_number [a, b, c, e] (Nat.le_refl 4) w
      have hlt := numL_lt [a, b, c, e] 0
      rw [← hS]
      have HE1 := Lib.hid e1
      clear e1 hS
      generalize numL [a, b, c, e] 0 = o at hnum hlt hd
      cases o with
      | none =>
        have HD := Lib.hid hd
        clear hd hlt
        go_wp2_with fail
        refine (hnum _).mono ?_
        rintro e w2 ⟨rfl, b2⟩
        rw [numV]
        clear hnum
        go_wp2_with fail
        go_ret2
        rw [HD.out]
        exact ⟨rfl, ext_trans hO.low b2⟩
      | some n =>
        have hn : n < 16777216 := by
          have h := hlt n rfl
          rw [show [a, b, c, e].length = 4 from rfl] at h
          omega
        have hd' : decL l = (decL r).map ((d ++ tri n) ++ ·) := by
          rw [hd]
          show Option.map (fun x => d ++ x) (Option.map (fun x => tri n ++ x) (decL r)) = _
          rw [Option.map_map]
          congr 1
          funext x
          show d ++ (tri n ++ x) = d ++ tri n ++ x
          rw [List.append_assoc]
        have HD := Lib.hid hd'
        clear hd hlt hd'
        have HC := Lib.hid (tri_cells n hn)
        have hdl : d.length ≤ 1000000 := by omega
        go_wp2_with fail
        refine (hnum _).mono ?_
        rintro e w2 ⟨rfl, b2⟩
        rw [numV]
        clear hnum
        have hO2 := ownL_later hO b2
        go_wp2_with (at_builtin; refine ownL_append w w2 d (tri n) 3 _ hO2 rfl _ _ rfl rfl rfl rfl _ (by exact HC.out) (by omega) ?_)
        intro v3 w3 h3
        go_wp2_with fail
        refine ⟨⟨r, d ++ tri n, by rw [HE1.out], hr', HD.out, ?_, h3⟩, ?_⟩
        · rw [List.length_append, show (tri n).length = 3 from rfl]; omega
        · rw [HE1.out]
          show r.length < S.size
          omega

end Go.Proofs.YtkinlobfdkeamaaGreatDoor

