/- Base 64 walked: the program's Encode and the reference's. -/
import Derived.Test.YtkinlobfdkeamaaGreatDoorV07
import Derived.Deep.QuietTactic
import Derived.BigQuiet
import Derived.StillTailTactics
import Derived.OwnWalk
import Derived.Deep.RegionLaw
namespace Go.Proofs.YtkinlobfdkeamaaGreatDoor
open Go.RowKit

def sLen : Value → Nat | .string s => s.size | _ => 0
theorem byte_lt (l : List UInt8) (i : Nat) : (l.getD i 0).toNat < 256 := UInt8.toNat_lt _

/-- The text of the first bytes. -/
theorem encL_step (l : List UInt8) (h : 3 ≤ l.length) : encL l = quad (l.getD 0 0).toNat (l.getD 1 0).toNat (l.getD 2 0).toNat ++ encL (l.drop 3) := by
  match l, h with
  | a :: b :: c :: l, _ => rfl

theorem or16 (x y : Nat) (hx : x < 256) (hy : y < 256) : bits BinOp.or IntKind.i64 ((x : Int) * 65536) ((y : Int) * 256) = (x : Int) * 65536 + (y : Int) * 256 := by
  have := i64_join 16 (x * 65536) (y * 256) (by omega) (by omega) (by omega) (by omega)
  rw [Int.natCast_mul, Int.natCast_mul] at this
  exact this
theorem or8 (x y z : Nat) (hx : x < 256) (hy : y < 256) (hz : z < 256) : bits BinOp.or IntKind.i64 ((x : Int) * 65536 + (y : Int) * 256) (z : Int) = (x : Int) * 65536 + (y : Int) * 256 + z := by
  have := i64_join 8 (x * 65536 + y * 256) z (by omega) (by omega) (by omega) (by omega)
  rw [Int.natCast_add, Int.natCast_mul, Int.natCast_mul] at this
  exact this

set_option maxHeartbeats 4000000 in
set_option maxRecDepth 100000 in
theorem b64_encode (l : List UInt8) (h1 : l.length ≤ 65536) (h2 : l.length % 3 = 0) (w : World) : Calls Tryz.prog 186 #[.string ⟨l.toArray⟩] w fun e w' => e = .returned (.tuple #[.string ⟨(encL l).toArray⟩, .int .i64 0]) ∧ Below w.heap.size w w' := by
  obtain ⟨i0, hi, hz0, hz1, hz2⟩ := info_parts bByte
  have g1 : decide (65536 < (l.length : Int)) = false := by simp; omega
  have g2 : (l.length : Int) % 3 = 0 := by omega
  go_enter Tryz.func186, Tryz.ntmps186
  go_wp2_with (refine wpList_make_own _ rfl _ _ 90 rfl w.heap.size 5 i0 (.int .u8 0) 1 Tryz.underlying90 hi hz0 hz1 .i64 .i64 ((l.length : Int) / 3 * 4) (l.length / 3 * 4) rfl rfl (by push_cast; rfl) (by rw [hz2]; have := h1; omega) (by unfold maxLen; omega) (Nat.le_refl _) ?_)
  intro w1 ho hg
  have hO : OwnL w w1 (.slice (some ⟨w.heap.size, 0, none⟩) 0 (l.length / 3 * 4)) [] := ⟨ho, ⟨hg.os, hg.tape, hg.output, hg.size, fun k hk => hg.block k hk (by simp)⟩⟩
  clear ho hg hi hz0 hz1 hz2
  go_wp2_with fail
  go_loopw [0, 4] (fun v0 v4 wr => ∃ r d : List UInt8, v0 = .string ⟨r.toArray⟩ ∧ r.length % 3 = 0 ∧ d ++ encL r = encL l ∧ 3 * d.length + 4 * r.length = 4 * l.length ∧ OwnL w wr v4 d) (fun v0 _ _ => sLen v0)
  case atStart => exact ⟨l, [], rfl, h2, rfl, by simp, hO⟩
  case round =>
    obtain ⟨r, d, rfl, hr, hd, hlen, hO⟩ := hrel
    match r with
    | [] =>
      have hcv := ownL_string hO
      rw [show encL [] = [] from rfl, List.append_nil] at hd
      rw [hd] at hcv
      have hlow := hO.low
      clear hO hd hlen hr
      go_wp2_with fail
      go_ret2
      exact ⟨rfl, hlow⟩
    | [x] => simp at hr
    | [x, y] => simp at hr
    | x :: y :: z :: r =>
      obtain ⟨X, hX⟩ : ∃ X, X = x.toNat := ⟨_, rfl⟩
      obtain ⟨Y, hY⟩ : ∃ X, X = y.toNat := ⟨_, rfl⟩
      obtain ⟨Z, hZ⟩ : ∃ X, X = z.toNat := ⟨_, rfl⟩
      have lx : X < 256 := by rw [hX]; exact UInt8.toNat_lt x
      have ly : Y < 256 := by rw [hY]; exact UInt8.toNat_lt y
      have lz : Z < 256 := by rw [hZ]; exact UInt8.toNat_lt z
      obtain ⟨S, hS⟩ : ∃ S : ByteArray, S = ⟨(x :: y :: z :: r).toArray⟩ := ⟨_, rfl⟩
      have hsz : S.size = r.length + 3 := by rw [hS]; rfl
      have b0 : ∀ h, ((S[0]'h).toNat : Int) = X := by subst hS; intro h; rw [hX]; rfl
      have b1 : ∀ h, ((S[1]'h).toNat : Int) = Y := by subst hS; intro h; rw [hY]; rfl
      have b2 : ∀ h, ((S[2]'h).toNat : Int) = Z := by subst hS; intro h; rw [hZ]; rfl
      have f0 : (0 : Int) < S.size := by omega
      have f1 : (1 : Int) < S.size := by omega
      have f2 : (2 : Int) < S.size := by omega
      have t0 : (!S.toList.isEmpty) = true := by subst hS; rw [ByteArray.toList_mk]; rfl
      rw [← hS]
      have HS := Lib.hid hS
      have wA : IntKind.i64.wrap ((X : Int) * 65536) = (X : Int) * 65536 := IntWalk.i64_in _ (by omega)
      have wB : IntKind.i64.wrap ((Y : Int) * 256) = (Y : Int) * 256 := IntWalk.i64_in _ (by omega)
      have o1 := or16 X Y lx ly
      have o2 := or8 X Y Z lx ly lz
      have HXX := Lib.hid hX
      have HYY := Lib.hid hY
      have HZZ := Lib.hid hZ
      clear hS hX hY hZ
      go_wp2_with fail
      go_quiet (fail)
      obtain ⟨n, hn⟩ : ∃ n, n = 65536 * X + 256 * Y + Z := ⟨_, rfl⟩
      have hnn : (X : Int) * 65536 + (Y : Int) * 256 + (Z : Int) = (n : Int) := by omega
      rw [hnn]
      have hn2 : n < 16777216 := by omega
      have HN := Lib.hid hn
      clear hn hnn o1 o2 wA wB b0 b1 b2 f0 f1 f2 t0
      have d0 : (n : Int) / 262144 = ((n / 262144 : Nat) : Int) := by omega
      have d1 := i64_and63 (n / 4096) (by omega)
      have d2 := i64_and63 (n / 64) (by omega)
      have d3 := i64_and63 n (by omega)
      rw [show ((n / 4096 : Nat) : Int) = (n : Int) / 4096 by omega] at d1
      rw [show ((n / 64 : Nat) : Int) = (n : Int) / 64 by omega] at d2
      have l0 : n / 262144 < 64 := by omega
      have l1 : n / 4096 % 64 < 64 := by omega
      have l2 : n / 64 % 64 < 64 := by omega
      have l3 : n % 64 < 64 := by omega
      have hquad : quad X Y Z = [digC (n / 262144), digC (n / 4096 % 64), digC (n / 64 % 64), digC (n % 64)] := by unfold quad; rw [← HN.out]
      generalize n / 262144 = p0 at d0 l0 hquad
      generalize n / 4096 % 64 = p1 at d1 l1 hquad
      generalize n / 64 % 64 = p2 at d2 l2 hquad
      generalize n % 64 = p3 at d3 l3 hquad
      have a0 : ∀ hs, (⟨#[65, 66, 67, 68, 69, 70, 71, 72, 73, 74, 75, 76, 77, 78, 79, 80, 81, 82, 83, 84, 85, 86, 87, 88, 89, 90, 97, 98, 99, 100, 101, 102, 103, 104, 105, 106, 107, 108, 109, 110, 111, 112, 113, 114, 115, 116, 117, 118, 119, 120, 121, 122, 48, 49, 50, 51, 52, 53, 54, 55, 56, 57, 45, 95]⟩ : ByteArray)[p0]'hs = digC p0 := fun hs => alph_at p0 l0 hs
      have a1 : ∀ hs, (⟨#[65, 66, 67, 68, 69, 70, 71, 72, 73, 74, 75, 76, 77, 78, 79, 80, 81, 82, 83, 84, 85, 86, 87, 88, 89, 90, 97, 98, 99, 100, 101, 102, 103, 104, 105, 106, 107, 108, 109, 110, 111, 112, 113, 114, 115, 116, 117, 118, 119, 120, 121, 122, 48, 49, 50, 51, 52, 53, 54, 55, 56, 57, 45, 95]⟩ : ByteArray)[p1]'hs = digC p1 := fun hs => alph_at p1 l1 hs
      have a2 : ∀ hs, (⟨#[65, 66, 67, 68, 69, 70, 71, 72, 73, 74, 75, 76, 77, 78, 79, 80, 81, 82, 83, 84, 85, 86, 87, 88, 89, 90, 97, 98, 99, 100, 101, 102, 103, 104, 105, 106, 107, 108, 109, 110, 111, 112, 113, 114, 115, 116, 117, 118, 119, 120, 121, 122, 48, 49, 50, 51, 52, 53, 54, 55, 56, 57, 45, 95]⟩ : ByteArray)[p2]'hs = digC p2 := fun hs => alph_at p2 l2 hs
      have a3 : ∀ hs, (⟨#[65, 66, 67, 68, 69, 70, 71, 72, 73, 74, 75, 76, 77, 78, 79, 80, 81, 82, 83, 84, 85, 86, 87, 88, 89, 90, 97, 98, 99, 100, 101, 102, 103, 104, 105, 106, 107, 108, 109, 110, 111, 112, 113, 114, 115, 116, 117, 118, 119, 120, 121, 122, 48, 49, 50, 51, 52, 53, 54, 55, 56, 57, 45, 95]⟩ : ByteArray)[p3]'hs = digC p3 := fun hs => alph_at p3 l3 hs
      have k0 : (p0 : Int) < 64 := by omega
      have k1 : (p1 : Int) < 64 := by omega
      have k2 : (p2 : Int) < 64 := by omega
      have k3 : (p3 : Int) < 64 := by omega
      have HQ := Lib.hid hquad
      clear hquad
      go_wp2_with fail
      have hO' : OwnL w (wr.drewN nq).drew u4 d := ownL_later hO ((ext_drewN (Below.refl _ _) nq).drew)
      have hdl : d.length ≤ 1000000 := by rw [List.length_cons, List.length_cons, List.length_cons] at hlen; omega
      have hex : S.extract 3 S.size = ⟨r.toArray⟩ := by
        apply ByteArray.ext; apply Array.toList_inj.1; rw [Lib.extract_data, HS.out]
        show List.take (r.length + 3 - 3) r = r
        exact List.take_of_length_le (by omega)
      have e3 : (3 : Int) ≤ S.size := by omega
      have e4 : 3 ≤ S.size := by omega
      have HE := Lib.hid hex
      clear hex
      have hr' : r.length % 3 = 0 := by rw [List.length_cons, List.length_cons, List.length_cons] at hr; omega
      rw [List.length_cons, List.length_cons, List.length_cons] at hlen
      rw [hsz] at HE
      have hfin : (d ++ quad X Y Z) ++ encL r = encL l := by
        rw [← hd, List.append_assoc, HXX.out, HYY.out, HZZ.out]
        rfl
      have HF := Lib.hid hfin
      clear hfin hd
      go_region_law (refine step_ownL_append w (wr.drewN nq).drew d (quad X Y Z) 4 _ hO' rfl (.tmp 37) (.tmp 52) rfl (by simp [Act.eval]) (by simp [Act.eval]) rfl _ (by rw [HQ.out]; rfl) (by omega) ?_; intro v3 w3 h3)
      all_goals
        go_wp2_with fail
        refine ⟨⟨r, d ++ quad X Y Z, by rw [HE.out], hr', HF.out, ?_, h3⟩, ?_⟩
        · rw [List.length_append, show (quad X Y Z).length = 4 from rfl]; omega
        · rw [HE.out]
          show r.length < S.size
          omega

end Go.Proofs.YtkinlobfdkeamaaGreatDoor

