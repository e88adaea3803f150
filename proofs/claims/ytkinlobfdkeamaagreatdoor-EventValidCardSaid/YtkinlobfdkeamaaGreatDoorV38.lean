/- The law EventValid. (Printed by gen_law.py.) -/
import Derived.Test.YtkinlobfdkeamaaGreatDoorV37
namespace Go.Proofs.YtkinlobfdkeamaaGreatDoor
open Go.RowKit

set_option maxHeartbeats 16000000 in
set_option maxRecDepth 100000 in
theorem evLaw (A : Option Addr) (nT cT : Nat) (e : EvV) (u : EvS) (n1 n2 : List Nat) (k : Int) (s : List UInt8) (w : World) (hG : Glob w) (hE : Errs w) (hT : nT ≤ cT) (hI : Ints w A nT)
    (h1 : StrsB w u.ks e.keys) (h2 : StrsB w u.nx e.next) (h3 : StrsB w u.ws e.wits) (h4 : StrsB w u.cs e.cuts) (h5 : StrsB w u.aa e.adds) (h6 : StrsB w u.cf e.conf) (h7 : LensB w u.tw n1) (h8 : LensB w u.nw n2) (h9 : ∃ A c, u.an = .slice A e.anc.length c)
    (hM : okN n1 → okN n2 → okL e.keys → okL e.next → okL e.wits → okL e.cuts → okL e.adds → okL e.conf → e.anc.length ≤ 20 → EvM w e u) (hk0 : -9223372036854775808 ≤ k) (hk1 : k ≤ 9223372036854775807) (hs : s.length ≤ 9223372036854775807) (hones : (evCells e u).all (·.oneCell') = true) :
    Calls Tryz.prog 4 #[.slice A nT cT, .agg (evCells e u), .int .i64 k, .string ⟨s.toArray⟩] w fun r w' => r = .returned (.bool true) ∧ Below w.heap.size w w' := by
  have HSM : PLift _ := PLift.up (fun W (hb : Below w.heap.size w W) => small_any e u n1 n2 W (h1.later hb) (h2.later hb) (h3.later hb) (h4.later hb) (h5.later hb) (h6.later hb) (h7.later hb) (h8.later hb) h9)
  have HAW : PLift _ := PLift.up (fun W (hb : Below w.heap.size w W) => awake_true W (hG.later hb))
  have HG : PLift _ := PLift.up hG
  have HE : PLift _ := PLift.up hE
  have HI : PLift _ := PLift.up hI
  have HM : PLift _ := PLift.up hM
  have HT : PLift _ := PLift.up hT
  have HK : PLift (-9223372036854775808 ≤ k ∧ k ≤ 9223372036854775807) := PLift.up ⟨hk0, hk1⟩
  have HONE : PLift _ := PLift.up hones
  obtain ⟨C0, hC0⟩ : ∃ V, V = evCells e u := ⟨_, rfl⟩
  have HSZ : PLift (C0.size = 19) := PLift.up (by rw [hC0]; rfl)
  rw [← hC0] at HSM HONE ⊢
  have HC0 : PLift _ := PLift.up hC0
  have HS : PLift _ := PLift.up hs
  clear hG hE hI hM hT hk0 hk1 hs h1 h2 h3 h4 h5 h6 h7 h8 h9 hones hC0
  go_enter Tryz.func4, Tryz.ntmps4
  have hlight := klight A nT cT
  by_cases hl : (nT : Int) ≤ 500
  case neg =>
    have hd : decide ((nT : Int) ≤ 500) = false := by simpa using hl
    rw [hd] at hlight
    clear hd
    go_wp2_with (first
      | (go_at_call 9; refine (hlight _).mono ?_; rintro r w' ⟨rfl, rfl⟩)
      | (go_at_call 8; refine (HAW.down _ (ext_alloc _ _)).mono ?_; rintro r w9 ⟨rfl, hb9⟩))
    go_ret
    exact ⟨rfl, ext_trans (ext_alloc _ _) hb9⟩
  case pos =>
    have hd : decide ((nT : Int) ≤ 500) = true := by simpa using hl
    rw [hd] at hlight
    clear hd
    have HL : PLift _ := PLift.up hl
    clear hl
    go_wp2_with (first
      | (go_at_call 9; refine (hlight _).mono ?_; rintro r w' ⟨rfl, rfl⟩)
      | (refine wpList_load_rowG rfl 35 _ rfl w.heap.size rfl 35 C0 _ _ (hA1_0 _ _) Tryz.underlying35 rfl (by rw [HSZ.down]; kernel_rfl) ?_))
    refine (HSM.down _ (ext_alloc _ _)).mono ?_
    rintro r w2 ⟨⟨b, rfl, hb⟩, hb2⟩
    have HB : PLift _ := PLift.up hb
    have HB2 : PLift (Below w.heap.size w w2) := PLift.up (ext_trans (ext_alloc _ _) hb2)
    have HR0 : PLift (w2.heap[w.heap.size]? = some (.cells C0 35 (0, 0))) := PLift.up (rowLater hb2 (hA1_0 _ _))
    clear hb hb2 hlight
    cases b with
    | false =>
      go_wp2_with (go_at_call 8; refine (HAW.down _ HB2.down).mono ?_; rintro r w9 ⟨rfl, hb9⟩)
      go_ret
      exact ⟨rfl, ext_trans HB2.down hb9⟩
    | true =>
      by_cases hs : (s.length : Int) ≤ 100
      case neg =>
        have hs1 : (100 : Int) < (s.length : Int) := by omega
        go_wp2_with (go_at_call 8; refine (HAW.down _ HB2.down).mono ?_; rintro r w9 ⟨rfl, hb9⟩)
        go_ret
        exact ⟨rfl, ext_trans HB2.down hb9⟩
      case pos =>
        have hs1 : ¬ ((100 : Int) < (s.length : Int)) := by omega
        have HS1 : PLift (s.length ≤ 100) := PLift.up (by omega)
        obtain ⟨⟨ok1, ok2, ok3, ok4, ok5, ok6⟩, okn1, okn2, okan⟩ := HB.down rfl
        have hm := HM.down okn1 okn2 ok1 ok2 ok3 ok4 ok5 ok6 okan
        have HM0 : PLift (EvM w e u) := PLift.up hm
        have HRO : PLift _ := PLift.up (kroll A nT cT HT.down (by have := HL.down; omega) w2 (fun i hi => by
          obtain ⟨ad, z, e1, e2, e3⟩ := HI.down i hi
          exact ⟨ad, z, e1, cellLater HB2.down e2, e3⟩))
        clear hs hm ok1 ok2 ok3 ok4 ok5 ok6 okn1 okn2 okan HM HB HI HT HSM
        go_wp2_with fail
        refine HRO.down.mono ?_
        rintro r w3 ⟨rfl, hb3, hd3⟩
        obtain ⟨D, hD⟩ : ∃ D, D = w2.heap.size := ⟨_, rfl⟩
        rw [← hD] at hd3 ⊢
        have HDL : PLift (w.heap.size < D) := PLift.up (by rw [hD]; exact krow_lt HR0.down)
        have HL3 : PLift (LawS D A nT cT C0 w w3) := PLift.up ⟨ext_trans HB2.down hb3, hd3, rowLater hb3 HR0.down⟩
        clear hb3 hd3 hD HRO HB2 HR0
        go_wp2_with fail
        refine (kevent D A nT cT w3 HL3.down.dice).mono ?_
        rintro r w4 ⟨⟨e1, u1, rfl, hf1, hw1⟩, hk4⟩
        have HL4 : PLift _ := PLift.up (HL3.down.step HDL.down hk4)
        have HF1 : PLift _ := PLift.up hf1
        have HW1 : PLift _ := PLift.up hw1
        clear hf1 hw1 hk4
        obtain ⟨C1, hC1⟩ : ∃ V, V = evCells e1 u1 := ⟨_, rfl⟩
        rw [← hC1]
        have HC1 : PLift _ := PLift.up hC1
        have HZ1 : PLift (C1.size = 19) := PLift.up (by rw [hC1]; rfl)
        have HO1 : PLift (C1.all (·.oneCell') = true) := PLift.up (by rw [hC1]; exact HF1.down.now.one)
        clear hC1
        go_wp2_with (first
          | (refine wpList_store_row rfl 35 _ _ rfl w4.heap.size C1 rfl rfl 35 _ (hA1_0 _ _) (by rw [HZ1.down]; kernel_rfl) (by rw [HZ1.down]; rfl) HO1.down ?_)
          | (refine wpList_load_row rfl 35 _ rfl w4.heap.size rfl 35 C1 _ _ (setRow_heap _ _ _ _ _ _ (hA1_0 _ _)) Tryz.underlying35 rfl (by rw [HZ1.down]; kernel_rfl) ?_))
        obtain ⟨w5, hw5⟩ : ∃ W, W = (w4.alloc (.cells #[.int .i64 0, .int .i64 0, .string ⟨#[]⟩, .string ⟨#[]⟩, .int .i64 0, .string ⟨#[]⟩, .int .i64 0, .slice none 0 0, .slice none 0 0, .int .i64 0, .slice none 0 0, .slice none 0 0, .int .i64 0, .slice none 0 0, .slice none 0 0, .slice none 0 0, .slice none 0 0, .slice none 0 0, .string ⟨#[]⟩] 35)).setRow w4.heap.size C1 := ⟨_, rfl⟩
        rw [← hw5]
        have hk5 : KitW D A nT cT w4 w5 := by rw [hw5]; exact HL4.down.laid _ _
        have hr5 : w5.heap[w4.heap.size]? = some (.cells C1 35 (0, 0)) := by rw [hw5]; exact setRow_heap _ _ _ _ _ _ (hA1_0 _ _)
        obtain ⟨N1, hN1⟩ : ∃ N, N = w4.heap.size := ⟨_, rfl⟩
        rw [← hN1] at hr5 ⊢
        have HN1 : PLift (w.heap.size < N1 ∧ D < N1) := PLift.up (by rw [hN1]; exact ⟨krow_lt HL4.down.row, HL4.down.dice.lt⟩)
        have HL5 : PLift _ := PLift.up (HL4.down.step HDL.down hk5)
        have HF15 : PLift _ := PLift.up (HF1.down.kit hk5.b)
        have HR15 : PLift _ := PLift.up hr5
        clear hk5 hr5 hN1 hw5 HL4 HF1
        have hodd := kodd D A nT cT 10 (by omega) e1 u1 w5 HL5.down.dice HF15.down HW1.down
        rw [← HC1.down] at hodd
        refine hodd.mono ?_
        clear hodd
        rintro r w6 ⟨⟨e2, u2, rfl, hf2, hw2⟩, hk6⟩
        have HL6 : PLift _ := PLift.up (HL5.down.step HDL.down hk6)
        have HF16 : PLift _ := PLift.up (HF15.down.kit hk6.b)
        have HF2 : PLift _ := PLift.up hf2
        have HW2 : PLift _ := PLift.up hw2
        have HR16 : PLift _ := PLift.up (hk6.b.row (by have := HN1.down.2; omega) HR15.down)
        clear hf2 hw2 hk6 HL5 HF15 HR15
        obtain ⟨C2, hC2⟩ : ∃ V, V = evCells e2 u2 := ⟨_, rfl⟩
        rw [← hC2]
        have HC2 : PLift _ := PLift.up hC2
        have HZ2 : PLift (C2.size = 19) := PLift.up (by rw [hC2]; rfl)
        have HO2 : PLift (C2.all (·.oneCell') = true) := PLift.up (by rw [hC2]; exact HF2.down.now.one)
        clear hC2
        go_wp2_with (refine wpList_store_row rfl 35 _ _ rfl w6.heap.size C2 rfl rfl 35 _ (hA1_0 _ _) (by rw [HZ2.down]; kernel_rfl) (by rw [HZ2.down]; rfl) HO2.down ?_)
        obtain ⟨w7, hw7⟩ : ∃ W, W = (w6.alloc (.cells #[.int .i64 0, .int .i64 0, .string ⟨#[]⟩, .string ⟨#[]⟩, .int .i64 0, .string ⟨#[]⟩, .int .i64 0, .slice none 0 0, .slice none 0 0, .int .i64 0, .slice none 0 0, .slice none 0 0, .int .i64 0, .slice none 0 0, .slice none 0 0, .slice none 0 0, .slice none 0 0, .slice none 0 0, .string ⟨#[]⟩] 35)).setRow w6.heap.size C2 := ⟨_, rfl⟩
        rw [← hw7]
        have hk7 : KitW D A nT cT w6 w7 := by rw [hw7]; exact HL6.down.laid _ _
        have hr7 : w7.heap[w6.heap.size]? = some (.cells C2 35 (0, 0)) := by rw [hw7]; exact setRow_heap _ _ _ _ _ _ (hA1_0 _ _)
        obtain ⟨N2, hN2⟩ : ∃ N, N = w6.heap.size := ⟨_, rfl⟩
        rw [← hN2] at hr7 ⊢
        have HN2 : PLift (D < N2) := PLift.up (by rw [hN2]; exact HL6.down.dice.lt)
        have HL7 : PLift _ := PLift.up (HL6.down.step HDL.down hk7)
        have HF17 : PLift _ := PLift.up (HF16.down.kit hk7.b)
        have HF27 : PLift _ := PLift.up (HF2.down.kit hk7.b)
        have HR27 : PLift _ := PLift.up hr7
        have HR17 : PLift _ := PLift.up (hk7.b.row (by have := HN1.down.2; omega) HR16.down)
        clear hk7 hr7 hN2 hw7 HL6 HF16 HF2 HR16
        refine cutX (fun a a' w' => ∃ x41 x42 x43 x44 x45 x46 : Value, ∃ (B : Nat) (e3 : EvV) (u3 : EvS), a' = (((((((((a.put (some 41) x41).put (some 42) x42).put (some 43) x43).put (some 44) x44).put (some 45) x45).put (some 46) x46).put (some 47) (.slice (some ⟨B, 0, none⟩) 4 4)).put (some 48) (.int .i64 4)).put (some 49) (.int .i64 0)) ∧ LawS D A nT cT C0 w w' ∧ EvM w' e1 u1 ∧ EvM w' e2 u2 ∧ EvM w' e3 u3 ∧ w'.heap[N1]? = some (.cells C1 35 (0, 0)) ∧ w'.heap[B]? = some (.cells (four C1 C2 (evCells e3 u3) C0) 35 (0, 0))) ?_ ?_
        · intro R HR
          have HS0 : PLift (w7.drew.heap[N1]? = some (.cells C1 35 (0, 0)) ∧ w7.drew.heap[N2]? = some (.cells C2 35 (0, 0)) ∧ w7.drew.heap[w.heap.size]? = some (.cells C0 35 (0, 0))) := PLift.up ⟨HR17.down, HR27.down, HL7.down.row⟩
          refine wp_region_held_drew (S := fun W => W.heap[N1]? = some (.cells C1 35 (0, 0)) ∧ W.heap[N2]? = some (.cells C2 35 (0, 0)) ∧ W.heap[w.heap.size]? = some (.cells C0 35 (0, 0))) (by kernel_rfl) HS0.down (fun hH => ?_)
          clear hH
          refine wpAnyH_take (i := 0) (v := .agg C1) rfl (by kernel_rfl) (by kernel_rfl) (by kernel_rfl) (fun _ _ _ h => h) (yieldsIf_load_row (by rfl) 35 _ rfl N1 rfl 35 C1 (0, 0) _ (fun W h => h.1) Tryz.underlying35 rfl (by rw [HZ1.down]; kernel_rfl)) HS0.down ?_
          refine wpAnyH_take (i := 1) (v := .agg C2) rfl (by kernel_rfl) (by kernel_rfl) (by kernel_rfl) (fun _ _ _ h => h) (yieldsIf_load_row (by rfl) 35 _ rfl N2 rfl 35 C2 (0, 0) _ (fun W h => h.2.1) Tryz.underlying35 rfl (by rw [HZ2.down]; kernel_rfl)) HS0.down ?_
          refine wpAnyH_take (i := 2) (v := .pointer (some ⟨D, 0, none⟩)) rfl (by kernel_rfl) (by kernel_rfl) (by kernel_rfl) (fun _ _ _ h => h) (Or.inl ⟨by rfl, ?_⟩) HS0.down ?_
          · intro W hS
            clear hS
            go_simp
          refine wpAnyH_take (i := 3) (v := .agg C2) rfl (by kernel_rfl) (by kernel_rfl) (by kernel_rfl) (fun _ _ _ h => h) (yieldsIf_load_row (by rfl) 35 _ rfl N2 rfl 35 C2 (0, 0) _ (fun W h => h.2.1) Tryz.underlying35 rfl (by rw [HZ2.down]; kernel_rfl)) HS0.down ?_
          refine wpAnyH_take (i := 5) (v := .agg C0) rfl (by kernel_rfl) (by kernel_rfl) (by kernel_rfl) (fun _ _ _ h => h) (yieldsIf_load_row (by rfl) 35 _ rfl w.heap.size rfl 35 C0 (0, 0) _ (fun W h => h.2.2) Tryz.underlying35 rfl (by rw [HSZ.down]; kernel_rfl)) HS0.down ?_
          refine wpAnyH_take (i := 8) (v := .int .i64 0) rfl (by kernel_rfl) (by kernel_rfl) (by kernel_rfl) (fun _ _ _ h => h) (Or.inl ⟨by rfl, ?_⟩) HS0.down ?_
          · intro W hS
            clear hS
            go_simp
          refine wpAnyH_ready (rs := [4]) (by kernel_rfl) (by simp) ?_
          refine AllReadyH.cons rfl (fun K hK => ?_) AllReadyH.nil
          go_simp
          go_at_call 13
          have hodd := kodd D A nT cT 12 (by omega) e2 u2 w7.drew (HL7.down.later ((Below.refl _ _).drew)).dice (HF27.down.later ((Below.refl _ _).drew)) HW2.down
          rw [← HC2.down] at hodd
          refine hodd.mono ?_
          clear hodd
          rintro r w8 ⟨⟨e3, u3, rfl, hf3, hw3⟩, hk8⟩
          have HL8 : PLift _ := PLift.up ((HL7.down.later ((Below.refl _ _).drew)).step HDL.down hk8)
          have HM18 : PLift (EvM w8 e1 u1) := PLift.up (HF17.down _ ((KitB.of ((Below.refl _ _).drew)).trans hk8.b))
          have HM28 : PLift (EvM w8 e2 u2) := PLift.up (HF27.down _ ((KitB.of ((Below.refl _ _).drew)).trans hk8.b))
          have HM38 : PLift (EvM w8 e3 u3) := PLift.up hf3.now
          have HS8 : PLift (w8.heap[N1]? = some (.cells C1 35 (0, 0)) ∧ w8.heap[N2]? = some (.cells C2 35 (0, 0)) ∧ w8.heap[w.heap.size]? = some (.cells C0 35 (0, 0))) := PLift.up ⟨hk8.b.row (by have := HN1.down.2; omega) HS0.down.1, hk8.b.row (by have := HN2.down; omega) HS0.down.2.1, hk8.b.row (by have := HDL.down; omega) HS0.down.2.2⟩
          clear hf3 hw3 hk8
          obtain ⟨C3, hC3⟩ : ∃ V, V = evCells e3 u3 := ⟨_, rfl⟩
          rw [← hC3]
          have HC3 : PLift _ := PLift.up hC3
          clear hC3
          refine hK.out _ _ HS8.down (fun hH => ?_)
          clear hK K hH
          refine wpAnyH_ready (rs := [6]) (by kernel_rfl) (by simp) ?_
          refine AllReadyH.cons rfl (fun K hK => ?_) AllReadyH.nil
          rw [if_pos (by rfl)]
          refine wp_four _ rfl C1 C2 C3 C0 e1 e2 e3 e u1 u2 u3 u HC1.down HC2.down HC3.down HC0.down (by kernel_rfl) ?_
          have HS9 : PLift ((w8.alloc (.cells (four C1 C2 C3 C0) 35)).heap[N1]? = some (.cells C1 35 (0, 0)) ∧ (w8.alloc (.cells (four C1 C2 C3 C0) 35)).heap[N2]? = some (.cells C2 35 (0, 0)) ∧ (w8.alloc (.cells (four C1 C2 C3 C0) 35)).heap[w.heap.size]? = some (.cells C0 35 (0, 0))) := PLift.up ⟨rowLater (ext_alloc _ _) HS8.down.1, rowLater (ext_alloc _ _) HS8.down.2.1, rowLater (ext_alloc _ _) HS8.down.2.2⟩
          refine hK.out _ _ HS9.down (fun hH => ?_)
          clear hK K hH
          refine wpAnyH_ready (rs := [7]) (by kernel_rfl) (by simp) ?_
          refine AllReadyH.cons rfl (fun K hK => ?_) AllReadyH.nil
          go_simp
          refine hK.out _ _ HS9.down (fun hH => ?_)
          clear hK K hH
          refine wpAnyH_done (by kernel_rfl) ?_ _
          exact HR.down _ _ ⟨.agg C1, .agg C2, .pointer (some ⟨D, 0, none⟩), .agg C2, .agg C3, .agg C0, w8.heap.size, e3, u3, by kernel_rfl, HL8.down.later (ext_alloc _ _), HM18.down.later (ext_alloc _ _), HM28.down.later (ext_alloc _ _), HM38.down.later (ext_alloc _ _), HS9.down.1, by rw [← HC3.down]; exact hA1_0 _ _⟩
        · rintro a' w9 ⟨x41, x42, x43, x44, x45, x46, B, e3, u3, ha, hL9, hm1, hm2, hm3, hr1, hrB⟩
          simp only [Act.put, List.setIfInBounds_toArray, List.set_cons_zero, List.set_cons_succ] at ha
          subst ha
          have HL9 : PLift _ := PLift.up hL9
          have HM1 : PLift _ := PLift.up hm1
          have HM2 : PLift _ := PLift.up hm2
          have HM3 : PLift _ := PLift.up hm3
          have HR1 : PLift _ := PLift.up hr1
          have HM9 : PLift (EvM w9 e u) := PLift.up (HM0.down.later hL9.below)
          have HRB : PLift _ := PLift.up (four_at hrB (by rw [HC1.down]; rfl) (by rw [HC2.down]; rfl) rfl (by rw [HC0.down]; rfl))
          clear hL9 hm1 hm2 hm3 hr1 hrB HL7 HF17 HF27 HR27 HR17
          go_wp2_with fail
          go_loopw [49] (fun v49 wr => ∃ kk : Nat, kk ≤ 4 ∧ v49 = .int .i64 (kk : Int) ∧ Below w9.heap.size w9 wr) (fun v49 _ => ((4 : Int) - intOf v49).toNat)
          case atStart => exact ⟨0, by omega, rfl, Below.refl _ _⟩
          case round =>
            obtain ⟨kk, hkk, rfl, hbr⟩ := hrel
            have HBR : PLift _ := PLift.up hbr
            clear hbr
            by_cases hk4 : kk < 4
            · have k0 : (kk : Int) < 4 := by omega
              obtain ⟨XL, x, ux, hx, hmx, hrg⟩ : ∃ (XL : List Value) (x : EvV) (ux : EvS), XL.toArray = evCells x ux ∧ EvM wr x ux ∧ wr.rangeAt B (kk * 19) XL := by
                have h4 : kk = 0 ∨ kk = 1 ∨ kk = 2 ∨ kk = 3 := by omega
                have hl : ∀ o cs, w9.rangeAt B o cs → wr.rangeAt B o cs := fun o cs h j v hj => cellLater HBR.down (h j v hj)
                rcases h4 with rfl | rfl | rfl | rfl
                · exact ⟨C1.toList, e1, u1, by rw [Array.toArray_toList]; exact HC1.down, HM1.down.later HBR.down, hl _ _ HRB.down.1⟩
                · exact ⟨C2.toList, e2, u2, by rw [Array.toArray_toList]; exact HC2.down, HM2.down.later HBR.down, hl _ _ HRB.down.2.1⟩
                · exact ⟨(evCells e3 u3).toList, e3, u3, by rw [Array.toArray_toList], HM3.down.later HBR.down, hl _ _ HRB.down.2.2.1⟩
                · exact ⟨C0.toList, e, u, by rw [Array.toArray_toList]; exact HC0.down, HM9.down.later HBR.down, hl _ _ HRB.down.2.2.2⟩
              have HX : PLift _ := PLift.up hx
              have HMX : PLift _ := PLift.up hmx
              have HRG : PLift _ := PLift.up hrg
              have HZX : PLift (XL.length = 19) := PLift.up (by have := congrArg Array.size hx; simpa [evCells] using this)
              have HZA : PLift (XL.toArray.size = 19) := PLift.up (by rw [List.size_toArray]; exact HZX.down)
              clear hx hmx hrg
              go_wp2_with (first
                | (refine wpList_load_mid rfl 35 _ rfl B (kk * 19) rfl XL _ HRG.down Tryz.underlying35 rfl (by rw [HZX.down]; kernel_rfl) ?_)
                | (refine wpList_store_row rfl 35 _ _ rfl wr.heap.size XL.toArray rfl rfl 35 _ (hA1_0 _ _) (by rw [HZA.down]; kernel_rfl) (by rw [HZA.down]; rfl) (by rw [HX.down]; exact HMX.down.one) ?_))
              obtain ⟨CX, hCX⟩ : ∃ C, C = XL.toArray := ⟨_, rfl⟩
              rw [← hCX]
              obtain ⟨wq, hwq⟩ : ∃ W, W = (wr.alloc (.cells #[.int .i64 0, .int .i64 0, .string ⟨#[]⟩, .string ⟨#[]⟩, .int .i64 0, .string ⟨#[]⟩, .int .i64 0, .slice none 0 0, .slice none 0 0, .int .i64 0, .slice none 0 0, .slice none 0 0, .int .i64 0, .slice none 0 0, .slice none 0 0, .slice none 0 0, .slice none 0 0, .slice none 0 0, .string ⟨#[]⟩] 35)).setRow wr.heap.size CX := ⟨_, rfl⟩
              rw [← hwq]
              have hbq : Below wr.heap.size wr wq := by rw [hwq]; exact laid_below _ _ _
              have hrq : wq.heap[wr.heap.size]? = some (.cells CX 35 (0, 0)) := by rw [hwq]; exact setRow_heap _ _ _ _ _ _ (hA1_0 _ _)
              obtain ⟨NX, hNX⟩ : ∃ N, N = wr.heap.size := ⟨_, rfl⟩
              rw [← hNX] at hrq ⊢
              have HCX : PLift (CX = evCells x ux) := PLift.up (by rw [hCX]; exact HX.down)
              have HZC : PLift (CX.size = 19) := PLift.up (by rw [hCX, List.size_toArray]; exact HZX.down)
              have HK1 : PLift (CX[1]? = some (.int .i64 x.kind)) := PLift.up (by rw [HCX.down]; rfl)
              have HSq : PLift (wq.heap[NX]? = some (.cells CX 35 (0, 0)) ∧ wq.heap[N1]? = some (.cells C1 35 (0, 0))) := PLift.up ⟨hrq, rowLater hbq (rowLater HBR.down HR1.down)⟩
              have HBQ : PLift (Below w9.heap.size w9 wq) := PLift.up (ext_trans HBR.down hbq)
              have HMQ : PLift _ := PLift.up (HMX.down.later hbq)
              clear hCX hwq hbq hrq hNX HX HZX HRG HMX
              have HS0 : PLift (wq.drew.heap[NX]? = some (.cells CX 35 (0, 0)) ∧ wq.drew.heap[N1]? = some (.cells C1 35 (0, 0))) := HSq
              have HB0 : PLift (Below w9.heap.size w9 wq.drew) := PLift.up (ext_trans HBQ.down ((Below.refl _ _).drew))
              have HM0x : PLift (EvM wq.drew x ux) := PLift.up (HMQ.down.later ((Below.refl _ _).drew))
              refine wp_region_held_drew (S := fun W => W.heap[NX]? = some (.cells CX 35 (0, 0)) ∧ W.heap[N1]? = some (.cells C1 35 (0, 0))) (by kernel_rfl) HS0.down (fun hH => ?_)
              clear hH
              obtain ⟨vp, hvp⟩ : ∃ z, z = validP x := ⟨_, rfl⟩
              have HVP : PLift _ := PLift.up hvp
              clear hvp
              refine wpAnyH_take (i := 0) (v := .agg CX) rfl (by kernel_rfl) (by kernel_rfl) (by kernel_rfl) (fun _ _ _ h => h) (yieldsIf_load_row (by rfl) 35 _ rfl NX rfl 35 CX (0, 0) _ (fun W h => h.1) Tryz.underlying35 rfl (by rw [HZC.down]; kernel_rfl)) HS0.down ?_
              refine wpAnyH_take (i := 2) (v := .agg CX) rfl (by kernel_rfl) (by kernel_rfl) (by kernel_rfl) (fun _ _ _ h => h) (yieldsIf_load_row (by rfl) 35 _ rfl NX rfl 35 CX (0, 0) _ (fun W h => h.1) Tryz.underlying35 rfl (by rw [HZC.down]; kernel_rfl)) HS0.down ?_
              refine wpAnyH_ready (rs := [1]) (by kernel_rfl) (by simp) ?_
              refine AllReadyH.cons rfl (fun K hK => ?_) AllReadyH.nil
              go_simp
              go_at_call 14
              have hc := ev_valid x ux _ HM0x.down
              rw [← HCX.down, ← HVP.down] at hc
              refine hc.mono ?_
              clear hc
              rintro r W1 ⟨rfl, hb⟩
              have HS1 : PLift (W1.heap[NX]? = some (.cells CX 35 (0, 0)) ∧ W1.heap[N1]? = some (.cells C1 35 (0, 0))) := PLift.up ⟨rowLater hb HS0.down.1, rowLater hb HS0.down.2⟩
              have HB1 : PLift (Below w9.heap.size w9 W1) := PLift.up (ext_trans HB0.down hb)
              have HM1x : PLift (EvM W1 x ux) := PLift.up (HM0x.down.later hb)
              clear hb
              refine hK.out _ _ HS1.down (fun hH => ?_)
              clear hK K hH
              refine wpAnyH_ready (rs := [3]) (by kernel_rfl) (by simp) ?_
              refine AllReadyH.cons rfl (fun K hK => ?_) AllReadyH.nil
              go_simp
              go_at_call 15
              have hc := r14_valid x ux _ HM1x.down
              rw [← HCX.down, ← HVP.down] at hc
              refine hc.mono ?_
              clear hc
              rintro r W2 ⟨rfl, hb⟩
              have HS2 : PLift (W2.heap[NX]? = some (.cells CX 35 (0, 0)) ∧ W2.heap[N1]? = some (.cells C1 35 (0, 0))) := PLift.up ⟨rowLater hb HS1.down.1, rowLater hb HS1.down.2⟩
              have HB2 : PLift (Below w9.heap.size w9 W2) := PLift.up (ext_trans HB1.down hb)
              have HM2x : PLift (EvM W2 x ux) := PLift.up (HM1x.down.later hb)
              clear hb
              refine hK.out _ _ HS2.down (fun hH => ?_)
              clear hK K hH
              refine wpAnyH_take (i := 4) (v := .bool false) rfl (by kernel_rfl) (by kernel_rfl) (by kernel_rfl) (fun _ _ _ h => h) (Or.inl ⟨by rfl, ?_⟩) HS2.down ?_
              · intro W hS
                clear hS
                go_simp
              refine wpAnyH_take (i := 5) (v := .bool false) rfl (by kernel_rfl) (by kernel_rfl) (by kernel_rfl) (fun _ _ _ h => h) (Or.inl ⟨by rfl, ?_⟩) HS2.down ?_
              · intro W hS
                clear hS
                go_simp
              refine wpAnyH_take (i := 6) (v := .pointer (some ⟨NX, 1, none⟩)) rfl (by kernel_rfl) (by kernel_rfl) (by kernel_rfl) (fun _ _ _ h => h) (Or.inl ⟨by rfl, ?_⟩) HS2.down ?_
              · intro W hS
                clear hS
                go_simp
              refine wpAnyH_take (i := 9) (v := .pointer (some ⟨NX, 1, none⟩)) rfl (by kernel_rfl) (by kernel_rfl) (by kernel_rfl) (fun _ _ _ h => h) (Or.inl ⟨by rfl, ?_⟩) HS2.down ?_
              · intro W hS
                clear hS
                go_simp
              refine wpAnyH_take (i := 7) (v := .int .i64 x.kind) rfl (by kernel_rfl) (by kernel_rfl) (by kernel_rfl) (fun _ _ _ h => h) (Or.inl ⟨by rfl, ?_⟩) HS2.down ?_
              · intro W hS
                have c1 := (cell_of_row _ _ 1 _ _ _ hS.1).trans HK1.down
                clear hS
                go_simp
              refine wpAnyH_take (i := 10) (v := .int .i64 x.kind) rfl (by kernel_rfl) (by kernel_rfl) (by kernel_rfl) (fun _ _ _ h => h) (Or.inl ⟨by rfl, ?_⟩) HS2.down ?_
              · intro W hS
                have c1 := (cell_of_row _ _ 1 _ _ _ hS.1).trans HK1.down
                clear hS
                go_simp
              refine wpAnyH_ready (rs := [8]) (by kernel_rfl) (by simp) ?_
              refine AllReadyH.cons rfl (fun K hK => ?_) AllReadyH.nil
              go_simp
              go_at_call 16
              refine (event_established x.kind _).mono ?_
              rintro r w' ⟨rfl, rfl⟩
              refine hK.out _ _ HS2.down (fun hH => ?_)
              clear hK K hH
              refine wpAnyH_ready (rs := [11]) (by kernel_rfl) (by simp) ?_
              refine AllReadyH.cons rfl (fun K hK => ?_) AllReadyH.nil
              go_simp
              go_at_call 17
              refine (r14_established_kind x.kind _).mono ?_
              rintro r w' ⟨rfl, rfl⟩
              refine hK.out _ _ HS2.down (fun hH => ?_)
              clear hK K hH
              refine wpAnyH_take (i := 12) (v := .bool false) rfl (by kernel_rfl) (by kernel_rfl) (by kernel_rfl) (fun _ _ _ h => h) (Or.inl ⟨by rfl, ?_⟩) HS2.down ?_
              · intro W hS
                clear hS
                go_simp
              refine wpAnyH_take (i := 13) (v := .bool false) rfl (by kernel_rfl) (by kernel_rfl) (by kernel_rfl) (fun _ _ _ h => h) (Or.inl ⟨by rfl, ?_⟩) HS2.down ?_
              · intro W hS
                clear hS
                go_simp
              refine wpAnyH_take (i := 14) (v := .bool false) rfl (by kernel_rfl) (by kernel_rfl) (by kernel_rfl) (fun _ _ _ h => h) (Or.inl ⟨by rfl, ?_⟩) HS2.down ?_
              · intro W hS
                clear hS
                go_simp
              refine wpAnyH_take (i := 15) (v := .pointer (some ⟨NX, 1, none⟩)) rfl (by kernel_rfl) (by kernel_rfl) (by kernel_rfl) (fun _ _ _ h => h) (Or.inl ⟨by rfl, ?_⟩) HS2.down ?_
              · intro W hS
                clear hS
                go_simp
              refine wpAnyH_take (i := 18) (v := .pointer (some ⟨NX, 1, none⟩)) rfl (by kernel_rfl) (by kernel_rfl) (by kernel_rfl) (fun _ _ _ h => h) (Or.inl ⟨by rfl, ?_⟩) HS2.down ?_
              · intro W hS
                clear hS
                go_simp
              refine wpAnyH_take (i := 16) (v := .int .i64 x.kind) rfl (by kernel_rfl) (by kernel_rfl) (by kernel_rfl) (fun _ _ _ h => h) (Or.inl ⟨by rfl, ?_⟩) HS2.down ?_
              · intro W hS
                have c1 := (cell_of_row _ _ 1 _ _ _ hS.1).trans HK1.down
                clear hS
                go_simp
              refine wpAnyH_take (i := 19) (v := .int .i64 x.kind) rfl (by kernel_rfl) (by kernel_rfl) (by kernel_rfl) (fun _ _ _ h => h) (Or.inl ⟨by rfl, ?_⟩) HS2.down ?_
              · intro W hS
                have c1 := (cell_of_row _ _ 1 _ _ _ hS.1).trans HK1.down
                clear hS
                go_simp
              refine wpAnyH_ready (rs := [17]) (by kernel_rfl) (by simp) ?_
              refine AllReadyH.cons rfl (fun K hK => ?_) AllReadyH.nil
              go_simp
              go_at_call 18
              refine (event_delegated x.kind _).mono ?_
              rintro r w' ⟨rfl, rfl⟩
              refine hK.out _ _ HS2.down (fun hH => ?_)
              clear hK K hH
              refine wpAnyH_ready (rs := [20]) (by kernel_rfl) (by simp) ?_
              refine AllReadyH.cons rfl (fun K hK => ?_) AllReadyH.nil
              go_simp
              go_at_call 19
              refine (r14_delegated x.kind _).mono ?_
              rintro r w' ⟨rfl, rfl⟩
              refine hK.out _ _ HS2.down (fun hH => ?_)
              clear hK K hH
              refine wpAnyH_take (i := 21) (v := .bool false) rfl (by kernel_rfl) (by kernel_rfl) (by kernel_rfl) (fun _ _ _ h => h) (Or.inl ⟨by rfl, ?_⟩) HS2.down ?_
              · intro W hS
                clear hS
                go_simp
              refine wpAnyH_take (i := 22) (v := .bool false) rfl (by kernel_rfl) (by kernel_rfl) (by kernel_rfl) (fun _ _ _ h => h) (Or.inl ⟨by rfl, ?_⟩) HS2.down ?_
              · intro W hS
                clear hS
                go_simp
              refine wpAnyH_take (i := 23) (v := .bool false) rfl (by kernel_rfl) (by kernel_rfl) (by kernel_rfl) (fun _ _ _ h => h) (Or.inl ⟨by rfl, ?_⟩) HS2.down ?_
              · intro W hS
                clear hS
                go_simp
              refine wpAnyH_take (i := 24) (v := .agg CX) rfl (by kernel_rfl) (by kernel_rfl) (by kernel_rfl) (fun _ _ _ h => h) (yieldsIf_load_row (by rfl) 35 _ rfl NX rfl 35 CX (0, 0) _ (fun W h => h.1) Tryz.underlying35 rfl (by rw [HZC.down]; kernel_rfl)) HS2.down ?_
              refine wpAnyH_take (i := 25) (v := .agg CX) rfl (by kernel_rfl) (by kernel_rfl) (by kernel_rfl) (fun _ _ _ h => h) (yieldsIf_load_row (by rfl) 35 _ rfl NX rfl 35 CX (0, 0) _ (fun W h => h.1) Tryz.underlying35 rfl (by rw [HZC.down]; kernel_rfl)) HS2.down ?_
              refine wpAnyH_ready (rs := [26]) (by kernel_rfl) (by simp) ?_
              refine AllReadyH.cons rfl (fun K hK => ?_) AllReadyH.nil
              go_simp
              go_at_call 20
              have hc := event_same x x ux ux _ HM2x.down HM2x.down
              rw [← HCX.down, show decide (x = x) = true by simp] at hc
              refine hc.mono ?_
              clear hc
              rintro r W3 ⟨rfl, hb⟩
              have HS3 : PLift (W3.heap[NX]? = some (.cells CX 35 (0, 0)) ∧ W3.heap[N1]? = some (.cells C1 35 (0, 0))) := PLift.up ⟨rowLater hb HS2.down.1, rowLater hb HS2.down.2⟩
              have HB3 : PLift (Below w9.heap.size w9 W3) := PLift.up (ext_trans HB2.down hb)
              have HM3x : PLift (EvM W3 x ux) := PLift.up (HM2x.down.later hb)
              clear hb
              refine hK.out _ _ HS3.down (fun hH => ?_)
              clear hK K hH
              refine wpAnyH_take (i := 27) (v := .bool false) rfl (by kernel_rfl) (by kernel_rfl) (by kernel_rfl) (fun _ _ _ h => h) (Or.inl ⟨by rfl, ?_⟩) HS3.down ?_
              · intro W hS
                clear hS
                go_simp
              refine wpAnyH_take (i := 28) (v := .bool false) rfl (by kernel_rfl) (by kernel_rfl) (by kernel_rfl) (fun _ _ _ h => h) (Or.inl ⟨by rfl, ?_⟩) HS3.down ?_
              · intro W hS
                clear hS
                go_simp
              refine wpAnyH_take (i := 29) (v := .bool false) rfl (by kernel_rfl) (by kernel_rfl) (by kernel_rfl) (fun _ _ _ h => h) (Or.inl ⟨by rfl, ?_⟩) HS3.down ?_
              · intro W hS
                clear hS
                go_simp
              refine wpAnyH_take (i := 30) (v := .agg C1) rfl (by kernel_rfl) (by kernel_rfl) (by kernel_rfl) (fun _ _ _ h => h) (yieldsIf_load_row (by rfl) 35 _ rfl N1 rfl 35 C1 (0, 0) _ (fun W h => h.2) Tryz.underlying35 rfl (by rw [HZ1.down]; kernel_rfl)) HS3.down ?_
              refine wpAnyH_take (i := 31) (v := .agg CX) rfl (by kernel_rfl) (by kernel_rfl) (by kernel_rfl) (fun _ _ _ h => h) (yieldsIf_load_row (by rfl) 35 _ rfl NX rfl 35 CX (0, 0) _ (fun W h => h.1) Tryz.underlying35 rfl (by rw [HZC.down]; kernel_rfl)) HS3.down ?_
              refine wpAnyH_take (i := 33) (v := .agg C1) rfl (by kernel_rfl) (by kernel_rfl) (by kernel_rfl) (fun _ _ _ h => h) (yieldsIf_load_row (by rfl) 35 _ rfl N1 rfl 35 C1 (0, 0) _ (fun W h => h.2) Tryz.underlying35 rfl (by rw [HZ1.down]; kernel_rfl)) HS3.down ?_
              refine wpAnyH_take (i := 34) (v := .agg CX) rfl (by kernel_rfl) (by kernel_rfl) (by kernel_rfl) (fun _ _ _ h => h) (yieldsIf_load_row (by rfl) 35 _ rfl NX rfl 35 CX (0, 0) _ (fun W h => h.1) Tryz.underlying35 rfl (by rw [HZC.down]; kernel_rfl)) HS3.down ?_
              obtain ⟨bs, hbs⟩ : ∃ z : Bool, z = decide (e1 = x) := ⟨_, rfl⟩
              have HBS : PLift _ := PLift.up hbs
              clear hbs
              refine wpAnyH_ready (rs := [32]) (by kernel_rfl) (by simp) ?_
              refine AllReadyH.cons rfl (fun K hK => ?_) AllReadyH.nil
              go_simp
              go_at_call 20
              have hc := event_same e1 x u1 ux _ (HM1.down.later HB3.down) HM3x.down
              rw [← HCX.down, ← HC1.down, ← HBS.down] at hc
              refine hc.mono ?_
              clear hc
              rintro r W4 ⟨rfl, hb⟩
              have HS4 : PLift (W4.heap[NX]? = some (.cells CX 35 (0, 0)) ∧ W4.heap[N1]? = some (.cells C1 35 (0, 0))) := PLift.up ⟨rowLater hb HS3.down.1, rowLater hb HS3.down.2⟩
              have HB4 : PLift (Below w9.heap.size w9 W4) := PLift.up (ext_trans HB3.down hb)
              have HM4x : PLift (EvM W4 x ux) := PLift.up (HM3x.down.later hb)
              clear hb
              refine hK.out _ _ HS4.down (fun hH => ?_)
              clear hK K hH
              refine wpAnyH_ready (rs := [35]) (by kernel_rfl) (by simp) ?_
              refine AllReadyH.cons rfl (fun K hK => ?_) AllReadyH.nil
              go_simp
              go_at_call 21
              have hc := r14_same e1 x u1 ux _ (HM1.down.later HB4.down) HM4x.down
              rw [← HCX.down, ← HC1.down, ← HBS.down] at hc
              refine hc.mono ?_
              clear hc
              rintro r W5 ⟨rfl, hb⟩
              have HS5 : PLift (W5.heap[NX]? = some (.cells CX 35 (0, 0)) ∧ W5.heap[N1]? = some (.cells C1 35 (0, 0))) := PLift.up ⟨rowLater hb HS4.down.1, rowLater hb HS4.down.2⟩
              have HB5 : PLift (Below w9.heap.size w9 W5) := PLift.up (ext_trans HB4.down hb)
              have HM5x : PLift (EvM W5 x ux) := PLift.up (HM4x.down.later hb)
              clear hb
              refine hK.out _ _ HS5.down (fun hH => ?_)
              clear hK K hH
              refine wpAnyH_take (i := 36) (v := .bool false) rfl (by kernel_rfl) (by kernel_rfl) (by kernel_rfl) (fun _ _ _ h => h) (Or.inl ⟨by rfl, ?_⟩) HS5.down ?_
              · intro W hS
                clear hS
                go_simp
              refine wpAnyH_take (i := 37) (v := .bool false) rfl (by kernel_rfl) (by kernel_rfl) (by kernel_rfl) (fun _ _ _ h => h) (Or.inl ⟨by rfl, ?_⟩) HS5.down ?_
              · intro W hS
                clear hS
                go_simp
              refine wpAnyH_done (by kernel_rfl) ?_ _
              go_wp2_with fail
              exact ⟨⟨kk + 1, by omega, by go_num, HB5.down⟩, by simp only [intOf]; omega⟩
            · have hkk' : kk = 4 := by omega
              subst hkk'
              rw [show ((4 : Nat) : Int) = 4 from rfl]
              have HLr : PLift _ := PLift.up (HL9.down.later HBR.down)
              clear HM1 HM2 HM3 HM9 HR1 HRB HL9 HBR
              go_wp2_with fail
              refine (r14_Hex_int k HK.down.2 _ (HG.down.later HLr.down.below)).mono ?_
              rintro r v1 ⟨rfl, hb⟩
              have HLa : PLift _ := PLift.up (HLr.down.later hb)
              clear hb
              obtain ⟨hk, hhk⟩ : ∃ l, l = hexT k := ⟨_, rfl⟩
              rw [← hhk]
              have Hhk : PLift (hk.length ≤ 16) := PLift.up (by rw [hhk]; exact hexT_len k HK.down.2)
              clear hhk
              go_wp2_with fail
              refine (Mod_any k 5000 (by omega) (by omega) HK.down.1 HK.down.2 _).mono ?_
              rintro r w' ⟨rfl, rfl⟩
              have m10 := Int.emod_nonneg k (show (5000 : Int) ≠ 0 by omega)
              have m11 := Int.emod_lt_of_pos k (show (0 : Int) < 5000 by omega)
              have HEm1 : PLift _ := PLift.up (And.intro m10 m11)
              generalize k % 5000 = m1 at m10 m11 HEm1 ⊢
              clear m10 m11
              go_wp2_with fail
              refine (r14_Hex_int m1 (by have := HEm1.down; omega) _ (HG.down.later HLa.down.below)).mono ?_
              rintro r v2 ⟨rfl, hb⟩
              have HLb : PLift _ := PLift.up (HLa.down.later hb)
              clear hb
              obtain ⟨g1, hg1⟩ : ∃ l, l = hexT m1 := ⟨_, rfl⟩
              rw [← hg1]
              have Hg1 : PLift (g1.length ≤ 16) := PLift.up (by rw [hg1]; exact hexT_len m1 (by have := HEm1.down; omega))
              clear hg1
              go_wp2_with fail
              refine (Mod_any k 20 (by omega) (by omega) HK.down.1 HK.down.2 _).mono ?_
              rintro r w' ⟨rfl, rfl⟩
              have m20 := Int.emod_nonneg k (show (20 : Int) ≠ 0 by omega)
              have m21 := Int.emod_lt_of_pos k (show (0 : Int) < 20 by omega)
              have HEm2 : PLift _ := PLift.up (And.intro m20 m21)
              generalize k % 20 = m2 at m20 m21 HEm2 ⊢
              clear m20 m21
              go_wp2_with fail
              refine (r14_Hex_int m2 (by have := HEm2.down; omega) _ (HG.down.later HLb.down.below)).mono ?_
              rintro r v3 ⟨rfl, hb⟩
              have HLc : PLift _ := PLift.up (HLb.down.later hb)
              clear hb
              obtain ⟨g2, hg2⟩ : ∃ l, l = hexT m2 := ⟨_, rfl⟩
              rw [← hg2]
              have hg2l : g2.length ≤ 16 := by rw [hg2]; exact hexT_len m2 (by have := HEm2.down; omega)
              have Hg2 : PLift (g2.length ≤ 16) := PLift.up hg2l
              have hcat : (⟨#[48]⟩ : ByteArray) ++ ⟨g2.toArray⟩ = ⟨(48 :: g2).toArray⟩ := by apply ByteArray.ext; apply Array.toList_inj.1; rw [ByteArray.data_append, Array.toList_append]; rfl
              have hbig : ¬ (9223372036854775807 < 1 + g2.length) := by omega
              have hbig2 : ¬ (9223372036854775807 < g2.length + 1) := by omega
              clear hg2 hg2l
              go_wp2_with fail
              refine (Mod_any k 2 (by omega) (by omega) HK.down.1 HK.down.2 _).mono ?_
              rintro r w' ⟨rfl, rfl⟩
              have m30 := Int.emod_nonneg k (show (2 : Int) ≠ 0 by omega)
              have m31 := Int.emod_lt_of_pos k (show (0 : Int) < 2 by omega)
              have HEm3 : PLift _ := PLift.up (And.intro m30 m31)
              generalize k % 2 = m3 at m30 m31 HEm3 ⊢
              clear m30 m31
              have wm3 : IntKind.i64.wrap (1099511627776 + m3) = 1099511627776 + m3 := by have := HEm3.down; rw [IntKind.wrap_i64]; omega
              go_wp2_with fail
              refine (r14_Hex_int (1099511627776 + m3) (by have := HEm3.down; omega) _ (HG.down.later HLc.down.below)).mono ?_
              rintro r v4 ⟨rfl, hb⟩
              have HLd : PLift _ := PLift.up (HLc.down.later hb)
              clear hb
              obtain ⟨g3, hg3⟩ : ∃ l, l = hexT (1099511627776 + m3) := ⟨_, rfl⟩
              rw [← hg3]
              have Hg3 : PLift (g3.length ≤ 16) := PLift.up (by rw [hg3]; exact hexT_len _ (by have := HEm3.down; omega))
              clear hg3
              go_wp2_with fail
              refine (kword_any D A nT cT _ ([[], [45, 49], [70], [49, 103], [102, 102, 102, 102, 102, 102, 102, 102, 102, 102, 102, 102, 102, 102, 102, 102, 102, 102, 102, 102]] : List (List UInt8)) (by simp) _ (HLd.down.later (ext_alloc _ _)).dice (firm_row ([[], [45, 49], [70], [49, 103], [102, 102, 102, 102, 102, 102, 102, 102, 102, 102, 102, 102, 102, 102, 102, 102, 102, 102, 102, 102]] : List (List UInt8)) (hA1_0 _ _) (by have := HLd.down.dice.lt; omega) (by simp) (short_m (by decide)))).mono ?_
              rintro r v5 ⟨⟨g4, rfl, hg4⟩, hk5⟩
              have Hg4 : PLift (g4.length ≤ 20) := PLift.up (short_of (l := ([[], [45, 49], [70], [49, 103], [102, 102, 102, 102, 102, 102, 102, 102, 102, 102, 102, 102, 102, 102, 102, 102, 102, 102, 102, 102]] : List (List UInt8))) (by decide) g4 hg4)
              have HLe : PLift _ := PLift.up ((HLd.down.later (ext_alloc _ _)).step HDL.down hk5)
              clear hk5 hg4
              go_wp2_with fail
              have hrow := hA1_0 v5 (.cells (strCells [s, hk, g1, 48 :: g2, g3, g4]) 9)
              have hsz : ∀ x ∈ [s, hk, g1, 48 :: g2, g3, g4], x.length ≤ 1000 := fun x hx => by
                simp only [List.mem_cons, List.not_mem_nil, or_false] at hx
                have q1 := HS1.down
                have q2 := Hhk.down
                have q3 := Hg1.down
                have q4 := Hg2.down
                have q5 := Hg3.down
                have q6 := Hg4.down
                rcases hx with rfl | rfl | rfl | rfl | rfl | rfl
                · omega
                · omega
                · omega
                · rw [List.length_cons]; omega
                · omega
                · omega
              have hst := strs_of_row [s, hk, g1, 48 :: g2, g3, g4] hrow (by simp) (fun x hx => by have := hsz x hx; omega)
              have HLf : PLift _ := PLift.up (HLe.down.later (ext_alloc v5 (.cells (strCells [s, hk, g1, 48 :: g2, g3, g4]) 9)))
              have HST : PLift (Strs (v5.alloc (.cells (strCells [s, hk, g1, 48 :: g2, g3, g4]) 9)) (.slice (some ⟨v5.heap.size, 0, none⟩) 6 6) [s, hk, g1, 48 :: g2, g3, g4]) := PLift.up hst
              have HSZ6 : PLift _ := PLift.up hsz
              clear hrow hsz hst
              unfold strCells at HLf HST
              simp only [List.map_cons, List.map_nil] at HLf HST
              generalize v5.heap.size = B6 at HST ⊢
              generalize v5.alloc (.cells #[.string ⟨s.toArray⟩, .string ⟨hk.toArray⟩, .string ⟨g1.toArray⟩, .string ⟨(48 :: g2).toArray⟩, .string ⟨g3.toArray⟩, .string ⟨g4.toArray⟩] 9) = wz at HLf HST ⊢
              have hL6 : ([s, hk, g1, 48 :: g2, g3, g4] : List (List UInt8)).length = 6 := rfl
              generalize ([s, hk, g1, 48 :: g2, g3, g4] : List (List UInt8)) = L6 at HST HSZ6 hL6
              clear hcat hbig hbig2
              go_loopw [111] (fun v111 wq => ∃ j : Nat, j ≤ 6 ∧ v111 = .int .i64 (j : Int) ∧ Below wz.heap.size wz wq) (fun v111 _ => ((6 : Int) - intOf v111).toNat)
              case atStart => exact ⟨0, by omega, rfl, Below.refl _ _⟩
              case round =>
                obtain ⟨j, hj, rfl, hbz⟩ := hrel
                have HBZ : PLift _ := PLift.up hbz
                clear hbz
                by_cases hj6 : j < 6
                · have k0 : (j : Int) < 6 := by omega
                  obtain ⟨⟨B', c', he', _, hel⟩, _, _⟩ := HST.down
                  rw [hL6] at he'
                  cases he'
                  obtain ⟨ad, had, hc⟩ := hel j (by omega)
                  cases had
                  rw [add0] at hc
                  have cj : wr.cell? ⟨B6, j, none⟩ = some (.string ⟨(L6.getD j []).toArray⟩) := cellLater HBZ.down hc
                  have HY : PLift ((L6.getD j []).length ≤ 1000) := PLift.up (HSZ6.down _ (getD_mem (by omega)))
                  generalize L6.getD j [] = y at cj HY
                  clear hel hc
                  have HLj : PLift _ := PLift.up (HLf.down.later HBZ.down)
                  go_wp2_with fail
                  refine (ParseHex_any ⟨y.toArray⟩ (by have := HY.down; simpa [ByteArray.size] using this) _ (HG.down.later HLj.down.below) (HE.down.later HLj.down.below)).mono ?_
                  rintro r z1 ⟨⟨v1', rfl, hv1⟩, hb1⟩
                  obtain ⟨pn, pb, rfl⟩ := phV_form hv1
                  have HV1 : PLift _ := PLift.up hv1
                  have HB1 : PLift _ := PLift.up hb1
                  have HLk : PLift _ := PLift.up (HLj.down.later hb1)
                  clear hv1 hb1
                  go_wp2_with fail
                  refine (r14_parseHex y HY.down _ (HG.down.later HLk.down.below)).mono ?_
                  rintro r z2 ⟨⟨v2', rfl, hv2⟩, hb2⟩
                  have hvv := phV_inj hv2 HV1.down
                  subst hvv
                  have HB2 : PLift _ := PLift.up hb2
                  clear hv2 hb2
                  go_wp2_with fail
                  exact ⟨⟨j + 1, by omega, by go_num, ext_trans HBZ.down (ext_trans HB1.down HB2.down)⟩, by simp only [intOf]; omega⟩
                · have hj6' : j = 6 := by omega
                  subst hj6'
                  rw [show ((6 : Nat) : Int) = 6 from rfl]
                  have HLj : PLift _ := PLift.up (HLf.down.later HBZ.down)
                  go_wp2_with fail
                  refine (Hex_int k HK.down.2 _ (HG.down.later HLj.down.below)).mono ?_
                  rintro r z1 ⟨rfl, hb1⟩
                  have HLk : PLift _ := PLift.up (HLj.down.later hb1)
                  clear hb1
                  go_wp2_with fail
                  refine (r14_Hex_int k HK.down.2 _ (HG.down.later HLk.down.below)).mono ?_
                  rintro r z2 ⟨rfl, hb2⟩
                  have HLm : PLift _ := PLift.up (HLk.down.later hb2)
                  clear hb2
                  go_wp2_with fail
                  refine (HAW.down _ HLm.down.below).mono ?_
                  rintro r z3 ⟨rfl, hb3⟩
                  have HLn : PLift _ := PLift.up (HLm.down.later hb3)
                  clear hb3
                  go_wp2_with fail
                  go_ret
                  exact ⟨rfl, HLn.down.below⟩
end Go.Proofs.YtkinlobfdkeamaaGreatDoor

