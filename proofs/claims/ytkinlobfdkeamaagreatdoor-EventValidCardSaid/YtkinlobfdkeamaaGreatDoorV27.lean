/- The kit's event. (Printed by gen_event.py.) -/
import Derived.Test.YtkinlobfdkeamaaGreatDoorV26
namespace Go.Proofs.YtkinlobfdkeamaaGreatDoor
open Go.RowKit

set_option maxHeartbeats 16000000 in
set_option maxRecDepth 100000 in
theorem kevent (D : Nat) (A : Option Addr) (n c : Nat) (w : World) (hd : Dice D A n c w) :
    Calls Tryz.prog 12 #[.pointer (some ⟨D, 0, none⟩)] w fun r w' => (∃ e' u', r = .returned (.agg (evCells e' u')) ∧ Firm D w' (fun W => EvM W e' u') ∧ Few 10 e') ∧ KitW D A n c w w' := by
  have HN : PLift _ := PLift.up (fun (k : Int) h1 h2 W hd => next_any D A n c k h1 h2 W hd)
  have HDIG : PLift _ := PLift.up (fun W hd => kdigest_any D A n c W hd)
  have HSEA : PLift _ := PLift.up (fun W hd => kseals_any D A n c W hd)
  have HKEY : PLift _ := PLift.up (fun W hd => kkey_any D A n c W hd)
  have HTHR : PLift _ := PLift.up (fun k hk W hd => kthr_any D A n c k hk W hd)
  have HD : PLift _ := PLift.up hd
  have hlt : PLift (D < w.heap.size) := PLift.up hd.lt
  clear hd
  go_enter Tryz.func12, Tryz.ntmps12
  go_wp2_with fail
  obtain ⟨T0, hT0⟩ : ∃ T : TypeId, T = 38 := ⟨_, rfl⟩
  have hS0 : EvS1 D A n c w ((w.alloc (.cells #[.pointer (some ⟨D, 0, none⟩)] 38)).alloc (.cells #[.int .i64 0, .int .i64 0, .string ⟨#[]⟩, .string ⟨#[]⟩, .int .i64 0, .string ⟨#[]⟩, .int .i64 0, .slice none 0 0, .slice none 0 0, .int .i64 0, .slice none 0 0, .slice none 0 0, .int .i64 0, .slice none 0 0, .slice none 0 0, .slice none 0 0, .slice none 0 0, .slice none 0 0, .string ⟨#[]⟩] 35)) := ⟨⟨_, hA2_0 _ _ _⟩, hA2_1 _ _ _, (KitW.refl HD.down).later (extA2 w _ _)⟩
  generalize ((w.alloc (.cells #[.pointer (some ⟨D, 0, none⟩)] 38)).alloc (.cells #[.int .i64 0, .int .i64 0, .string ⟨#[]⟩, .string ⟨#[]⟩, .int .i64 0, .string ⟨#[]⟩, .int .i64 0, .slice none 0 0, .slice none 0 0, .int .i64 0, .slice none 0 0, .slice none 0 0, .int .i64 0, .slice none 0 0, .slice none 0 0, .slice none 0 0, .slice none 0 0, .slice none 0 0, .string ⟨#[]⟩] 35)) = W0 at hS0 ⊢
  have HS00 : PLift _ := PLift.up hS0
  have HS0 : PLift (EvS1 D A n c w W0.drew) := PLift.up (hS0.later ((Below.refl _ _).drew))
  clear hS0 T0 hT0
  refine cutX (fun a a' w' => ∃ x4 x5 x6 x7 x8 x9 x10 x11 x12 x13 x14 x15 x16 : Value, ∃ N, a' = ((((((((((((((a.put (some 4) x4).put (some 5) x5).put (some 6) x6).put (some 7) x7).put (some 8) x8).put (some 9) x9).put (some 10) x10).put (some 11) x11).put (some 12) x12).put (some 13) x13).put (some 14) x14).put (some 15) x15).put (some 16) x16).put (some 3) (.pointer (some ⟨N, 0, none⟩))) ∧ ∃ e u, EvB D A n c 10 w w' N e u) ?_ ?_
  · intro R HR
    refine wp_region_held_drew (S := fun W => W.cell? ⟨w.heap.size, 0, none⟩ = some (.pointer (some ⟨D, 0, none⟩)) ∧ EvS1 D A n c w W) (by kernel_rfl) ⟨HS0.down.cell, HS0.down⟩ (fun hH => ?_)
    clear hH
    refine wpAnyH_take (i := 0) (v := .pointer (some ⟨D, 0, none⟩)) rfl (by kernel_rfl) (by kernel_rfl) (by kernel_rfl) (fun _ _ _ h => h) (Or.inl ⟨by rfl, ?_⟩) ⟨HS0.down.cell, HS0.down⟩ ?_
    · intro W hS
      have c0 := hS.1
      clear hS
      go_simp
    refine wpAnyH_take (i := 3) (v := .pointer (some ⟨D, 0, none⟩)) rfl (by kernel_rfl) (by kernel_rfl) (by kernel_rfl) (fun _ _ _ h => h) (Or.inl ⟨by rfl, ?_⟩) ⟨HS0.down.cell, HS0.down⟩ ?_
    · intro W hS
      have c0 := hS.1
      clear hS
      go_simp
    refine wpAnyH_take (i := 6) (v := .pointer (some ⟨D, 0, none⟩)) rfl (by kernel_rfl) (by kernel_rfl) (by kernel_rfl) (fun _ _ _ h => h) (Or.inl ⟨by rfl, ?_⟩) ⟨HS0.down.cell, HS0.down⟩ ?_
    · intro W hS
      have c0 := hS.1
      clear hS
      go_simp
    refine wpAnyH_take (i := 8) (v := .pointer (some ⟨D, 0, none⟩)) rfl (by kernel_rfl) (by kernel_rfl) (by kernel_rfl) (fun _ _ _ h => h) (Or.inl ⟨by rfl, ?_⟩) ⟨HS0.down.cell, HS0.down⟩ ?_
    · intro W hS
      have c0 := hS.1
      clear hS
      go_simp
    refine wpAnyH_take (i := 10) (v := .pointer (some ⟨D, 0, none⟩)) rfl (by kernel_rfl) (by kernel_rfl) (by kernel_rfl) (fun _ _ _ h => h) (Or.inl ⟨by rfl, ?_⟩) ⟨HS0.down.cell, HS0.down⟩ ?_
    · intro W hS
      have c0 := hS.1
      clear hS
      go_simp
    refine wpAnyH_ready (rs := [1, 13]) (by kernel_rfl) (by simp) ?_
    refine AllReadyH.cons rfl (fun K hK => ?_) ?_
    · go_simp
      go_at_call 27
      refine (HN.down 3 (by omega) (by omega) _ HS0.down.kit.d).mono ?_
      rintro r U1 ⟨⟨y1, rfl, y10, y11⟩, hk⟩
      have HS1 : PLift _ := PLift.up (HS0.down.step hlt.down hk)
      refine hK.out _ _ ⟨HS1.down.cell, HS1.down⟩ (fun hH => ?_)
      clear hK K hH hk
      refine wpAnyH_take (i := 2) (v := .int .i64 (1 + y1)) rfl (by kernel_rfl) (by kernel_rfl) (by kernel_rfl) (fun _ _ _ h => h) (Or.inl ⟨by rfl, ?_⟩) ⟨HS1.down.cell, HS1.down⟩ ?_
      · intro W hS
        have c0 := hS.1
        clear hS
        go_simp; rw [IntKind.wrap_i64]; omega
      refine wpAnyH_ready (rs := [4, 13]) (by kernel_rfl) (by simp) ?_
      refine AllReadyH.cons rfl (fun K hK => ?_) ?_
      · go_simp
        go_at_call 27
        refine (HN.down 5 (by omega) (by omega) _ HS1.down.kit.d).mono ?_
        rintro r U2 ⟨⟨y2, rfl, y20, y21⟩, hk⟩
        have HS2 : PLift _ := PLift.up (HS1.down.step hlt.down hk)
        refine hK.out _ _ ⟨HS2.down.cell, HS2.down⟩ (fun hH => ?_)
        clear hK K hH hk
        refine wpAnyH_take (i := 5) (v := .int .i64 (1 + y2)) rfl (by kernel_rfl) (by kernel_rfl) (by kernel_rfl) (fun _ _ _ h => h) (Or.inl ⟨by rfl, ?_⟩) ⟨HS2.down.cell, HS2.down⟩ ?_
        · intro W hS
          have c0 := hS.1
          clear hS
          go_simp; rw [IntKind.wrap_i64]; omega
        refine wpAnyH_ready (rs := [7, 13]) (by kernel_rfl) (by simp) ?_
        refine AllReadyH.cons rfl (fun K hK => ?_) ?_
        · go_simp
          go_at_call 28
          refine (HDIG.down _ HS2.down.kit.d).mono ?_
          rintro r U3 ⟨⟨s1, rfl, hs1⟩, hk⟩
          have HS3 : PLift _ := PLift.up (HS2.down.step hlt.down hk)
          refine hK.out _ _ ⟨HS3.down.cell, HS3.down⟩ (fun hH => ?_)
          clear hK K hH hk
          refine wpAnyH_ready (rs := [9, 13]) (by kernel_rfl) (by simp) ?_
          refine AllReadyH.cons rfl (fun K hK => ?_) ?_
          · go_simp
            go_at_call 28
            refine (HDIG.down _ HS3.down.kit.d).mono ?_
            rintro r U4 ⟨⟨s2, rfl, hs2⟩, hk⟩
            have HS4 : PLift _ := PLift.up (HS3.down.step hlt.down hk)
            refine hK.out _ _ ⟨HS4.down.cell, HS4.down⟩ (fun hH => ?_)
            clear hK K hH hk
            refine wpAnyH_ready (rs := [11, 13]) (by kernel_rfl) (by simp) ?_
            refine AllReadyH.cons rfl (fun K hK => ?_) ?_
            · go_simp
              go_at_call 29
              refine (HSEA.down _ HS4.down.kit.d).mono ?_
              rintro r U5 ⟨⟨an, rfl, l, hl, hs, ho⟩, hk⟩
              have HS5 : PLift _ := PLift.up (HS4.down.step hlt.down hk)
              obtain ⟨A1, m1, c1, rfl⟩ := own_slice ho
              have HO : PLift _ := PLift.up (own_mono ho HS4.down.kit.b.size)
              have HL : PLift _ := PLift.up (And.intro hl hs)
              clear ho hl hs
              refine hK.out _ _ ⟨HS5.down.cell, HS5.down⟩ (fun hH => ?_)
              clear hK K hH hk
              refine wpAnyH_take (i := 12) (v := .agg (evCells ⟨1 + y1, 1 + y2, s2, s1, 0, [], ⟨0, []⟩, [], ⟨0, []⟩, [], 0, [], [], [], [], l, []⟩ ⟨.slice none 0 0, .slice none 0 0, .slice none 0 0, .slice none 0 0, .slice none 0 0, .slice none 0 0, .slice none 0 0, .slice none 0 0, .slice A1 m1 c1⟩)) rfl (by kernel_rfl) (by kernel_rfl) (by kernel_rfl) (fun _ _ _ h => h) (Or.inl ⟨by rfl, ?_⟩) ⟨HS5.down.cell, HS5.down⟩ ?_
              · intro W hS
                have c0 := hS.1
                clear hS
                first | (go_simp; done) | (go_simp; rfl) | rfl
              refine wpAnyH_ready (rs := [13]) (by kernel_rfl) (by simp) ?_
              refine AllReadyH.cons rfl (fun K hK => ?_) AllReadyH.nil
              · go_simp
                have hr := hA1_0 U5 (.cells #[.int .i64 0, .int .i64 0, .string ⟨#[]⟩, .string ⟨#[]⟩, .int .i64 0, .string ⟨#[]⟩, .int .i64 0, .slice none 0 0, .slice none 0 0, .int .i64 0, .slice none 0 0, .slice none 0 0, .int .i64 0, .slice none 0 0, .slice none 0 0, .slice none 0 0, .slice none 0 0, .slice none 0 0, .string ⟨#[]⟩] 35)
                have hn := krow_lt HS5.down.res
                have hS := HS5.down.later (ext_alloc U5 (.cells #[.int .i64 0, .int .i64 0, .string ⟨#[]⟩, .string ⟨#[]⟩, .int .i64 0, .string ⟨#[]⟩, .int .i64 0, .slice none 0 0, .slice none 0 0, .int .i64 0, .slice none 0 0, .slice none 0 0, .int .i64 0, .slice none 0 0, .slice none 0 0, .slice none 0 0, .slice none 0 0, .slice none 0 0, .string ⟨#[]⟩] 35))
                have HO : PLift _ := PLift.up (own_later HO.down (ext_alloc U5 (.cells #[.int .i64 0, .int .i64 0, .string ⟨#[]⟩, .string ⟨#[]⟩, .int .i64 0, .string ⟨#[]⟩, .int .i64 0, .slice none 0 0, .slice none 0 0, .int .i64 0, .slice none 0 0, .slice none 0 0, .int .i64 0, .slice none 0 0, .slice none 0 0, .slice none 0 0, .slice none 0 0, .slice none 0 0, .string ⟨#[]⟩] 35)))
                refine hK.out _ _ ⟨hS.cell, hS⟩ (fun hH => ?_)
                clear hK K hH
                generalize U5.alloc (.cells #[.int .i64 0, .int .i64 0, .string ⟨#[]⟩, .string ⟨#[]⟩, .int .i64 0, .string ⟨#[]⟩, .int .i64 0, .slice none 0 0, .slice none 0 0, .int .i64 0, .slice none 0 0, .slice none 0 0, .int .i64 0, .slice none 0 0, .slice none 0 0, .slice none 0 0, .slice none 0 0, .slice none 0 0, .string ⟨#[]⟩] 35) = V at *
                generalize U5.heap.size = N at *
                have HR1 : PLift (V.heap[N]? = some (.cells zeroEv 35 (0, 0)) ∧ w.heap.size + 1 < N) := PLift.up ⟨hr, hn⟩
                have HSV : PLift _ := PLift.up hS
                clear hr hn hS
                refine wpAnyH_ready (rs := [14]) (by kernel_rfl) (by simp) ?_
                refine AllReadyH.cons rfl (fun K hK => ?_) AllReadyH.nil
                rw [if_pos (by rfl)]
                have hB := EvB.first HSV.down HD.down HR1.down.2 HR1.down.1 (1 + y1) (1 + y2) s1 s2 _ l HL.down.1 HL.down.2 HO.down
                refine wp_store_row 35 _ _ rfl N (evCells ⟨1 + y1, 1 + y2, s2, s1, 0, [], ⟨0, []⟩, [], ⟨0, []⟩, [], 0, [], [], [], [], l, []⟩ ⟨.slice none 0 0, .slice none 0 0, .slice none 0 0, .slice none 0 0, .slice none 0 0, .slice none 0 0, .slice none 0 0, .slice none 0 0, .slice A1 m1 c1⟩) rfl rfl 35 _ HR1.down.1 (by kernel_rfl) rfl hB.own.one ?_
                refine hK.out _ _ ⟨hB.s1.cell, hB.s1⟩ (fun _ => ?_)
                clear hK K
                refine wpAnyH_done (by kernel_rfl) ?_ _
                exact HR.down _ _ ⟨.pointer (some ⟨D, 0, none⟩), .int .i64 y1, .int .i64 (1 + y1), .pointer (some ⟨D, 0, none⟩), .int .i64 y2, .int .i64 (1 + y2), .pointer (some ⟨D, 0, none⟩), .string ⟨s1.toArray⟩, .pointer (some ⟨D, 0, none⟩), .string ⟨s2.toArray⟩, .pointer (some ⟨D, 0, none⟩), .slice A1 m1 c1, .agg (evCells ⟨1 + y1, 1 + y2, s2, s1, 0, [], ⟨0, []⟩, [], ⟨0, []⟩, [], 0, [], [], [], [], l, []⟩ ⟨.slice none 0 0, .slice none 0 0, .slice none 0 0, .slice none 0 0, .slice none 0 0, .slice none 0 0, .slice none 0 0, .slice none 0 0, .slice A1 m1 c1⟩), N, by kernel_rfl, _, _, hB⟩
            refine AllReadyH.cons rfl (fun K hK => ?_) AllReadyH.nil
            · go_simp
              have hr := hA1_0 U4 (.cells #[.int .i64 0, .int .i64 0, .string ⟨#[]⟩, .string ⟨#[]⟩, .int .i64 0, .string ⟨#[]⟩, .int .i64 0, .slice none 0 0, .slice none 0 0, .int .i64 0, .slice none 0 0, .slice none 0 0, .int .i64 0, .slice none 0 0, .slice none 0 0, .slice none 0 0, .slice none 0 0, .slice none 0 0, .string ⟨#[]⟩] 35)
              have hn := krow_lt HS4.down.res
              have hS := HS4.down.later (ext_alloc U4 (.cells #[.int .i64 0, .int .i64 0, .string ⟨#[]⟩, .string ⟨#[]⟩, .int .i64 0, .string ⟨#[]⟩, .int .i64 0, .slice none 0 0, .slice none 0 0, .int .i64 0, .slice none 0 0, .slice none 0 0, .int .i64 0, .slice none 0 0, .slice none 0 0, .slice none 0 0, .slice none 0 0, .slice none 0 0, .string ⟨#[]⟩] 35))
              refine hK.out _ _ ⟨hS.cell, hS⟩ (fun hH => ?_)
              clear hK K hH
              generalize U4.alloc (.cells #[.int .i64 0, .int .i64 0, .string ⟨#[]⟩, .string ⟨#[]⟩, .int .i64 0, .string ⟨#[]⟩, .int .i64 0, .slice none 0 0, .slice none 0 0, .int .i64 0, .slice none 0 0, .slice none 0 0, .int .i64 0, .slice none 0 0, .slice none 0 0, .slice none 0 0, .slice none 0 0, .slice none 0 0, .string ⟨#[]⟩] 35) = V at *
              generalize U4.heap.size = N at *
              have HR1 : PLift (V.heap[N]? = some (.cells zeroEv 35 (0, 0)) ∧ w.heap.size + 1 < N) := PLift.up ⟨hr, hn⟩
              have HSV : PLift _ := PLift.up hS
              clear hr hn hS
              refine wpAnyH_ready (rs := [11]) (by kernel_rfl) (by simp) ?_
              refine AllReadyH.cons rfl (fun K hK => ?_) AllReadyH.nil
              · go_simp
                go_at_call 29
                refine (HSEA.down _ HSV.down.kit.d).mono ?_
                rintro r U5 ⟨⟨an, rfl, l, hl, hs, ho⟩, hk⟩
                have HS5 : PLift _ := PLift.up (HSV.down.step hlt.down hk)
                obtain ⟨A1, m1, c1, rfl⟩ := own_slice ho
                have HO : PLift _ := PLift.up (own_mono ho HSV.down.kit.b.size)
                have HL : PLift _ := PLift.up (And.intro hl hs)
                clear ho hl hs
                have HR6 : PLift (U5.heap[N]? = some (.cells zeroEv 35 (0, 0)) ∧ w.heap.size + 1 < N) := PLift.up ⟨hk.b.row (by have := hlt.down; have := HR1.down.2; omega) HR1.down.1, HR1.down.2⟩
                refine hK.out _ _ ⟨HS5.down.cell, HS5.down⟩ (fun hH => ?_)
                clear hK K hH hk
                refine wpAnyH_take (i := 12) (v := .agg (evCells ⟨1 + y1, 1 + y2, s2, s1, 0, [], ⟨0, []⟩, [], ⟨0, []⟩, [], 0, [], [], [], [], l, []⟩ ⟨.slice none 0 0, .slice none 0 0, .slice none 0 0, .slice none 0 0, .slice none 0 0, .slice none 0 0, .slice none 0 0, .slice none 0 0, .slice A1 m1 c1⟩)) rfl (by kernel_rfl) (by kernel_rfl) (by kernel_rfl) (fun _ _ _ h => h) (Or.inl ⟨by rfl, ?_⟩) ⟨HS5.down.cell, HS5.down⟩ ?_
                · intro W hS
                  have c0 := hS.1
                  clear hS
                  first | (go_simp; done) | (go_simp; rfl) | rfl
                refine wpAnyH_ready (rs := [14]) (by kernel_rfl) (by simp) ?_
                refine AllReadyH.cons rfl (fun K hK => ?_) AllReadyH.nil
                rw [if_pos (by rfl)]
                have hB := EvB.first HS5.down HD.down HR6.down.2 HR6.down.1 (1 + y1) (1 + y2) s1 s2 _ l HL.down.1 HL.down.2 HO.down
                refine wp_store_row 35 _ _ rfl N (evCells ⟨1 + y1, 1 + y2, s2, s1, 0, [], ⟨0, []⟩, [], ⟨0, []⟩, [], 0, [], [], [], [], l, []⟩ ⟨.slice none 0 0, .slice none 0 0, .slice none 0 0, .slice none 0 0, .slice none 0 0, .slice none 0 0, .slice none 0 0, .slice none 0 0, .slice A1 m1 c1⟩) rfl rfl 35 _ HR6.down.1 (by kernel_rfl) rfl hB.own.one ?_
                refine hK.out _ _ ⟨hB.s1.cell, hB.s1⟩ (fun _ => ?_)
                clear hK K
                refine wpAnyH_done (by kernel_rfl) ?_ _
                exact HR.down _ _ ⟨.pointer (some ⟨D, 0, none⟩), .int .i64 y1, .int .i64 (1 + y1), .pointer (some ⟨D, 0, none⟩), .int .i64 y2, .int .i64 (1 + y2), .pointer (some ⟨D, 0, none⟩), .string ⟨s1.toArray⟩, .pointer (some ⟨D, 0, none⟩), .string ⟨s2.toArray⟩, .pointer (some ⟨D, 0, none⟩), .slice A1 m1 c1, .agg (evCells ⟨1 + y1, 1 + y2, s2, s1, 0, [], ⟨0, []⟩, [], ⟨0, []⟩, [], 0, [], [], [], [], l, []⟩ ⟨.slice none 0 0, .slice none 0 0, .slice none 0 0, .slice none 0 0, .slice none 0 0, .slice none 0 0, .slice none 0 0, .slice none 0 0, .slice A1 m1 c1⟩), N, by kernel_rfl, _, _, hB⟩
          refine AllReadyH.cons rfl (fun K hK => ?_) AllReadyH.nil
          · go_simp
            have hr := hA1_0 U3 (.cells #[.int .i64 0, .int .i64 0, .string ⟨#[]⟩, .string ⟨#[]⟩, .int .i64 0, .string ⟨#[]⟩, .int .i64 0, .slice none 0 0, .slice none 0 0, .int .i64 0, .slice none 0 0, .slice none 0 0, .int .i64 0, .slice none 0 0, .slice none 0 0, .slice none 0 0, .slice none 0 0, .slice none 0 0, .string ⟨#[]⟩] 35)
            have hn := krow_lt HS3.down.res
            have hS := HS3.down.later (ext_alloc U3 (.cells #[.int .i64 0, .int .i64 0, .string ⟨#[]⟩, .string ⟨#[]⟩, .int .i64 0, .string ⟨#[]⟩, .int .i64 0, .slice none 0 0, .slice none 0 0, .int .i64 0, .slice none 0 0, .slice none 0 0, .int .i64 0, .slice none 0 0, .slice none 0 0, .slice none 0 0, .slice none 0 0, .slice none 0 0, .string ⟨#[]⟩] 35))
            refine hK.out _ _ ⟨hS.cell, hS⟩ (fun hH => ?_)
            clear hK K hH
            generalize U3.alloc (.cells #[.int .i64 0, .int .i64 0, .string ⟨#[]⟩, .string ⟨#[]⟩, .int .i64 0, .string ⟨#[]⟩, .int .i64 0, .slice none 0 0, .slice none 0 0, .int .i64 0, .slice none 0 0, .slice none 0 0, .int .i64 0, .slice none 0 0, .slice none 0 0, .slice none 0 0, .slice none 0 0, .slice none 0 0, .string ⟨#[]⟩] 35) = V at *
            generalize U3.heap.size = N at *
            have HR1 : PLift (V.heap[N]? = some (.cells zeroEv 35 (0, 0)) ∧ w.heap.size + 1 < N) := PLift.up ⟨hr, hn⟩
            have HSV : PLift _ := PLift.up hS
            clear hr hn hS
            refine wpAnyH_ready (rs := [9]) (by kernel_rfl) (by simp) ?_
            refine AllReadyH.cons rfl (fun K hK => ?_) AllReadyH.nil
            · go_simp
              go_at_call 28
              refine (HDIG.down _ HSV.down.kit.d).mono ?_
              rintro r U4 ⟨⟨s2, rfl, hs2⟩, hk⟩
              have HS4 : PLift _ := PLift.up (HSV.down.step hlt.down hk)
              have HR5 : PLift (U4.heap[N]? = some (.cells zeroEv 35 (0, 0)) ∧ w.heap.size + 1 < N) := PLift.up ⟨hk.b.row (by have := hlt.down; have := HR1.down.2; omega) HR1.down.1, HR1.down.2⟩
              refine hK.out _ _ ⟨HS4.down.cell, HS4.down⟩ (fun hH => ?_)
              clear hK K hH hk
              refine wpAnyH_ready (rs := [11]) (by kernel_rfl) (by simp) ?_
              refine AllReadyH.cons rfl (fun K hK => ?_) AllReadyH.nil
              · go_simp
                go_at_call 29
                refine (HSEA.down _ HS4.down.kit.d).mono ?_
                rintro r U5 ⟨⟨an, rfl, l, hl, hs, ho⟩, hk⟩
                have HS5 : PLift _ := PLift.up (HS4.down.step hlt.down hk)
                obtain ⟨A1, m1, c1, rfl⟩ := own_slice ho
                have HO : PLift _ := PLift.up (own_mono ho HS4.down.kit.b.size)
                have HL : PLift _ := PLift.up (And.intro hl hs)
                clear ho hl hs
                have HR6 : PLift (U5.heap[N]? = some (.cells zeroEv 35 (0, 0)) ∧ w.heap.size + 1 < N) := PLift.up ⟨hk.b.row (by have := hlt.down; have := HR5.down.2; omega) HR5.down.1, HR5.down.2⟩
                refine hK.out _ _ ⟨HS5.down.cell, HS5.down⟩ (fun hH => ?_)
                clear hK K hH hk
                refine wpAnyH_take (i := 12) (v := .agg (evCells ⟨1 + y1, 1 + y2, s2, s1, 0, [], ⟨0, []⟩, [], ⟨0, []⟩, [], 0, [], [], [], [], l, []⟩ ⟨.slice none 0 0, .slice none 0 0, .slice none 0 0, .slice none 0 0, .slice none 0 0, .slice none 0 0, .slice none 0 0, .slice none 0 0, .slice A1 m1 c1⟩)) rfl (by kernel_rfl) (by kernel_rfl) (by kernel_rfl) (fun _ _ _ h => h) (Or.inl ⟨by rfl, ?_⟩) ⟨HS5.down.cell, HS5.down⟩ ?_
                · intro W hS
                  have c0 := hS.1
                  clear hS
                  first | (go_simp; done) | (go_simp; rfl) | rfl
                refine wpAnyH_ready (rs := [14]) (by kernel_rfl) (by simp) ?_
                refine AllReadyH.cons rfl (fun K hK => ?_) AllReadyH.nil
                rw [if_pos (by rfl)]
                have hB := EvB.first HS5.down HD.down HR6.down.2 HR6.down.1 (1 + y1) (1 + y2) s1 s2 _ l HL.down.1 HL.down.2 HO.down
                refine wp_store_row 35 _ _ rfl N (evCells ⟨1 + y1, 1 + y2, s2, s1, 0, [], ⟨0, []⟩, [], ⟨0, []⟩, [], 0, [], [], [], [], l, []⟩ ⟨.slice none 0 0, .slice none 0 0, .slice none 0 0, .slice none 0 0, .slice none 0 0, .slice none 0 0, .slice none 0 0, .slice none 0 0, .slice A1 m1 c1⟩) rfl rfl 35 _ HR6.down.1 (by kernel_rfl) rfl hB.own.one ?_
                refine hK.out _ _ ⟨hB.s1.cell, hB.s1⟩ (fun _ => ?_)
                clear hK K
                refine wpAnyH_done (by kernel_rfl) ?_ _
                exact HR.down _ _ ⟨.pointer (some ⟨D, 0, none⟩), .int .i64 y1, .int .i64 (1 + y1), .pointer (some ⟨D, 0, none⟩), .int .i64 y2, .int .i64 (1 + y2), .pointer (some ⟨D, 0, none⟩), .string ⟨s1.toArray⟩, .pointer (some ⟨D, 0, none⟩), .string ⟨s2.toArray⟩, .pointer (some ⟨D, 0, none⟩), .slice A1 m1 c1, .agg (evCells ⟨1 + y1, 1 + y2, s2, s1, 0, [], ⟨0, []⟩, [], ⟨0, []⟩, [], 0, [], [], [], [], l, []⟩ ⟨.slice none 0 0, .slice none 0 0, .slice none 0 0, .slice none 0 0, .slice none 0 0, .slice none 0 0, .slice none 0 0, .slice none 0 0, .slice A1 m1 c1⟩), N, by kernel_rfl, _, _, hB⟩
        refine AllReadyH.cons rfl (fun K hK => ?_) AllReadyH.nil
        · go_simp
          have hr := hA1_0 U2 (.cells #[.int .i64 0, .int .i64 0, .string ⟨#[]⟩, .string ⟨#[]⟩, .int .i64 0, .string ⟨#[]⟩, .int .i64 0, .slice none 0 0, .slice none 0 0, .int .i64 0, .slice none 0 0, .slice none 0 0, .int .i64 0, .slice none 0 0, .slice none 0 0, .slice none 0 0, .slice none 0 0, .slice none 0 0, .string ⟨#[]⟩] 35)
          have hn := krow_lt HS2.down.res
          have hS := HS2.down.later (ext_alloc U2 (.cells #[.int .i64 0, .int .i64 0, .string ⟨#[]⟩, .string ⟨#[]⟩, .int .i64 0, .string ⟨#[]⟩, .int .i64 0, .slice none 0 0, .slice none 0 0, .int .i64 0, .slice none 0 0, .slice none 0 0, .int .i64 0, .slice none 0 0, .slice none 0 0, .slice none 0 0, .slice none 0 0, .slice none 0 0, .string ⟨#[]⟩] 35))
          refine hK.out _ _ ⟨hS.cell, hS⟩ (fun hH => ?_)
          clear hK K hH
          generalize U2.alloc (.cells #[.int .i64 0, .int .i64 0, .string ⟨#[]⟩, .string ⟨#[]⟩, .int .i64 0, .string ⟨#[]⟩, .int .i64 0, .slice none 0 0, .slice none 0 0, .int .i64 0, .slice none 0 0, .slice none 0 0, .int .i64 0, .slice none 0 0, .slice none 0 0, .slice none 0 0, .slice none 0 0, .slice none 0 0, .string ⟨#[]⟩] 35) = V at *
          generalize U2.heap.size = N at *
          have HR1 : PLift (V.heap[N]? = some (.cells zeroEv 35 (0, 0)) ∧ w.heap.size + 1 < N) := PLift.up ⟨hr, hn⟩
          have HSV : PLift _ := PLift.up hS
          clear hr hn hS
          refine wpAnyH_ready (rs := [7]) (by kernel_rfl) (by simp) ?_
          refine AllReadyH.cons rfl (fun K hK => ?_) AllReadyH.nil
          · go_simp
            go_at_call 28
            refine (HDIG.down _ HSV.down.kit.d).mono ?_
            rintro r U3 ⟨⟨s1, rfl, hs1⟩, hk⟩
            have HS3 : PLift _ := PLift.up (HSV.down.step hlt.down hk)
            have HR4 : PLift (U3.heap[N]? = some (.cells zeroEv 35 (0, 0)) ∧ w.heap.size + 1 < N) := PLift.up ⟨hk.b.row (by have := hlt.down; have := HR1.down.2; omega) HR1.down.1, HR1.down.2⟩
            refine hK.out _ _ ⟨HS3.down.cell, HS3.down⟩ (fun hH => ?_)
            clear hK K hH hk
            refine wpAnyH_ready (rs := [9]) (by kernel_rfl) (by simp) ?_
            refine AllReadyH.cons rfl (fun K hK => ?_) AllReadyH.nil
            · go_simp
              go_at_call 28
              refine (HDIG.down _ HS3.down.kit.d).mono ?_
              rintro r U4 ⟨⟨s2, rfl, hs2⟩, hk⟩
              have HS4 : PLift _ := PLift.up (HS3.down.step hlt.down hk)
              have HR5 : PLift (U4.heap[N]? = some (.cells zeroEv 35 (0, 0)) ∧ w.heap.size + 1 < N) := PLift.up ⟨hk.b.row (by have := hlt.down; have := HR4.down.2; omega) HR4.down.1, HR4.down.2⟩
              refine hK.out _ _ ⟨HS4.down.cell, HS4.down⟩ (fun hH => ?_)
              clear hK K hH hk
              refine wpAnyH_ready (rs := [11]) (by kernel_rfl) (by simp) ?_
              refine AllReadyH.cons rfl (fun K hK => ?_) AllReadyH.nil
              · go_simp
                go_at_call 29
                refine (HSEA.down _ HS4.down.kit.d).mono ?_
                rintro r U5 ⟨⟨an, rfl, l, hl, hs, ho⟩, hk⟩
                have HS5 : PLift _ := PLift.up (HS4.down.step hlt.down hk)
                obtain ⟨A1, m1, c1, rfl⟩ := own_slice ho
                have HO : PLift _ := PLift.up (own_mono ho HS4.down.kit.b.size)
                have HL : PLift _ := PLift.up (And.intro hl hs)
                clear ho hl hs
                have HR6 : PLift (U5.heap[N]? = some (.cells zeroEv 35 (0, 0)) ∧ w.heap.size + 1 < N) := PLift.up ⟨hk.b.row (by have := hlt.down; have := HR5.down.2; omega) HR5.down.1, HR5.down.2⟩
                refine hK.out _ _ ⟨HS5.down.cell, HS5.down⟩ (fun hH => ?_)
                clear hK K hH hk
                refine wpAnyH_take (i := 12) (v := .agg (evCells ⟨1 + y1, 1 + y2, s2, s1, 0, [], ⟨0, []⟩, [], ⟨0, []⟩, [], 0, [], [], [], [], l, []⟩ ⟨.slice none 0 0, .slice none 0 0, .slice none 0 0, .slice none 0 0, .slice none 0 0, .slice none 0 0, .slice none 0 0, .slice none 0 0, .slice A1 m1 c1⟩)) rfl (by kernel_rfl) (by kernel_rfl) (by kernel_rfl) (fun _ _ _ h => h) (Or.inl ⟨by rfl, ?_⟩) ⟨HS5.down.cell, HS5.down⟩ ?_
                · intro W hS
                  have c0 := hS.1
                  clear hS
                  first | (go_simp; done) | (go_simp; rfl) | rfl
                refine wpAnyH_ready (rs := [14]) (by kernel_rfl) (by simp) ?_
                refine AllReadyH.cons rfl (fun K hK => ?_) AllReadyH.nil
                rw [if_pos (by rfl)]
                have hB := EvB.first HS5.down HD.down HR6.down.2 HR6.down.1 (1 + y1) (1 + y2) s1 s2 _ l HL.down.1 HL.down.2 HO.down
                refine wp_store_row 35 _ _ rfl N (evCells ⟨1 + y1, 1 + y2, s2, s1, 0, [], ⟨0, []⟩, [], ⟨0, []⟩, [], 0, [], [], [], [], l, []⟩ ⟨.slice none 0 0, .slice none 0 0, .slice none 0 0, .slice none 0 0, .slice none 0 0, .slice none 0 0, .slice none 0 0, .slice none 0 0, .slice A1 m1 c1⟩) rfl rfl 35 _ HR6.down.1 (by kernel_rfl) rfl hB.own.one ?_
                refine hK.out _ _ ⟨hB.s1.cell, hB.s1⟩ (fun _ => ?_)
                clear hK K
                refine wpAnyH_done (by kernel_rfl) ?_ _
                exact HR.down _ _ ⟨.pointer (some ⟨D, 0, none⟩), .int .i64 y1, .int .i64 (1 + y1), .pointer (some ⟨D, 0, none⟩), .int .i64 y2, .int .i64 (1 + y2), .pointer (some ⟨D, 0, none⟩), .string ⟨s1.toArray⟩, .pointer (some ⟨D, 0, none⟩), .string ⟨s2.toArray⟩, .pointer (some ⟨D, 0, none⟩), .slice A1 m1 c1, .agg (evCells ⟨1 + y1, 1 + y2, s2, s1, 0, [], ⟨0, []⟩, [], ⟨0, []⟩, [], 0, [], [], [], [], l, []⟩ ⟨.slice none 0 0, .slice none 0 0, .slice none 0 0, .slice none 0 0, .slice none 0 0, .slice none 0 0, .slice none 0 0, .slice none 0 0, .slice A1 m1 c1⟩), N, by kernel_rfl, _, _, hB⟩
      refine AllReadyH.cons rfl (fun K hK => ?_) AllReadyH.nil
      · go_simp
        have hr := hA1_0 U1 (.cells #[.int .i64 0, .int .i64 0, .string ⟨#[]⟩, .string ⟨#[]⟩, .int .i64 0, .string ⟨#[]⟩, .int .i64 0, .slice none 0 0, .slice none 0 0, .int .i64 0, .slice none 0 0, .slice none 0 0, .int .i64 0, .slice none 0 0, .slice none 0 0, .slice none 0 0, .slice none 0 0, .slice none 0 0, .string ⟨#[]⟩] 35)
        have hn := krow_lt HS1.down.res
        have hS := HS1.down.later (ext_alloc U1 (.cells #[.int .i64 0, .int .i64 0, .string ⟨#[]⟩, .string ⟨#[]⟩, .int .i64 0, .string ⟨#[]⟩, .int .i64 0, .slice none 0 0, .slice none 0 0, .int .i64 0, .slice none 0 0, .slice none 0 0, .int .i64 0, .slice none 0 0, .slice none 0 0, .slice none 0 0, .slice none 0 0, .slice none 0 0, .string ⟨#[]⟩] 35))
        refine hK.out _ _ ⟨hS.cell, hS⟩ (fun hH => ?_)
        clear hK K hH
        generalize U1.alloc (.cells #[.int .i64 0, .int .i64 0, .string ⟨#[]⟩, .string ⟨#[]⟩, .int .i64 0, .string ⟨#[]⟩, .int .i64 0, .slice none 0 0, .slice none 0 0, .int .i64 0, .slice none 0 0, .slice none 0 0, .int .i64 0, .slice none 0 0, .slice none 0 0, .slice none 0 0, .slice none 0 0, .slice none 0 0, .string ⟨#[]⟩] 35) = V at *
        generalize U1.heap.size = N at *
        have HR1 : PLift (V.heap[N]? = some (.cells zeroEv 35 (0, 0)) ∧ w.heap.size + 1 < N) := PLift.up ⟨hr, hn⟩
        have HSV : PLift _ := PLift.up hS
        clear hr hn hS
        refine wpAnyH_ready (rs := [4]) (by kernel_rfl) (by simp) ?_
        refine AllReadyH.cons rfl (fun K hK => ?_) AllReadyH.nil
        · go_simp
          go_at_call 27
          refine (HN.down 5 (by omega) (by omega) _ HSV.down.kit.d).mono ?_
          rintro r U2 ⟨⟨y2, rfl, y20, y21⟩, hk⟩
          have HS2 : PLift _ := PLift.up (HSV.down.step hlt.down hk)
          have HR3 : PLift (U2.heap[N]? = some (.cells zeroEv 35 (0, 0)) ∧ w.heap.size + 1 < N) := PLift.up ⟨hk.b.row (by have := hlt.down; have := HR1.down.2; omega) HR1.down.1, HR1.down.2⟩
          refine hK.out _ _ ⟨HS2.down.cell, HS2.down⟩ (fun hH => ?_)
          clear hK K hH hk
          refine wpAnyH_take (i := 5) (v := .int .i64 (1 + y2)) rfl (by kernel_rfl) (by kernel_rfl) (by kernel_rfl) (fun _ _ _ h => h) (Or.inl ⟨by rfl, ?_⟩) ⟨HS2.down.cell, HS2.down⟩ ?_
          · intro W hS
            have c0 := hS.1
            clear hS
            go_simp; rw [IntKind.wrap_i64]; omega
          refine wpAnyH_ready (rs := [7]) (by kernel_rfl) (by simp) ?_
          refine AllReadyH.cons rfl (fun K hK => ?_) AllReadyH.nil
          · go_simp
            go_at_call 28
            refine (HDIG.down _ HS2.down.kit.d).mono ?_
            rintro r U3 ⟨⟨s1, rfl, hs1⟩, hk⟩
            have HS3 : PLift _ := PLift.up (HS2.down.step hlt.down hk)
            have HR4 : PLift (U3.heap[N]? = some (.cells zeroEv 35 (0, 0)) ∧ w.heap.size + 1 < N) := PLift.up ⟨hk.b.row (by have := hlt.down; have := HR3.down.2; omega) HR3.down.1, HR3.down.2⟩
            refine hK.out _ _ ⟨HS3.down.cell, HS3.down⟩ (fun hH => ?_)
            clear hK K hH hk
            refine wpAnyH_ready (rs := [9]) (by kernel_rfl) (by simp) ?_
            refine AllReadyH.cons rfl (fun K hK => ?_) AllReadyH.nil
            · go_simp
              go_at_call 28
              refine (HDIG.down _ HS3.down.kit.d).mono ?_
              rintro r U4 ⟨⟨s2, rfl, hs2⟩, hk⟩
              have HS4 : PLift _ := PLift.up (HS3.down.step hlt.down hk)
              have HR5 : PLift (U4.heap[N]? = some (.cells zeroEv 35 (0, 0)) ∧ w.heap.size + 1 < N) := PLift.up ⟨hk.b.row (by have := hlt.down; have := HR4.down.2; omega) HR4.down.1, HR4.down.2⟩
              refine hK.out _ _ ⟨HS4.down.cell, HS4.down⟩ (fun hH => ?_)
              clear hK K hH hk
              refine wpAnyH_ready (rs := [11]) (by kernel_rfl) (by simp) ?_
              refine AllReadyH.cons rfl (fun K hK => ?_) AllReadyH.nil
              · go_simp
                go_at_call 29
                refine (HSEA.down _ HS4.down.kit.d).mono ?_
                rintro r U5 ⟨⟨an, rfl, l, hl, hs, ho⟩, hk⟩
                have HS5 : PLift _ := PLift.up (HS4.down.step hlt.down hk)
                obtain ⟨A1, m1, c1, rfl⟩ := own_slice ho
                have HO : PLift _ := PLift.up (own_mono ho HS4.down.kit.b.size)
                have HL : PLift _ := PLift.up (And.intro hl hs)
                clear ho hl hs
                have HR6 : PLift (U5.heap[N]? = some (.cells zeroEv 35 (0, 0)) ∧ w.heap.size + 1 < N) := PLift.up ⟨hk.b.row (by have := hlt.down; have := HR5.down.2; omega) HR5.down.1, HR5.down.2⟩
                refine hK.out _ _ ⟨HS5.down.cell, HS5.down⟩ (fun hH => ?_)
                clear hK K hH hk
                refine wpAnyH_take (i := 12) (v := .agg (evCells ⟨1 + y1, 1 + y2, s2, s1, 0, [], ⟨0, []⟩, [], ⟨0, []⟩, [], 0, [], [], [], [], l, []⟩ ⟨.slice none 0 0, .slice none 0 0, .slice none 0 0, .slice none 0 0, .slice none 0 0, .slice none 0 0, .slice none 0 0, .slice none 0 0, .slice A1 m1 c1⟩)) rfl (by kernel_rfl) (by kernel_rfl) (by kernel_rfl) (fun _ _ _ h => h) (Or.inl ⟨by rfl, ?_⟩) ⟨HS5.down.cell, HS5.down⟩ ?_
                · intro W hS
                  have c0 := hS.1
                  clear hS
                  first | (go_simp; done) | (go_simp; rfl) | rfl
                refine wpAnyH_ready (rs := [14]) (by kernel_rfl) (by simp) ?_
                refine AllReadyH.cons rfl (fun K hK => ?_) AllReadyH.nil
                rw [if_pos (by rfl)]
                have hB := EvB.first HS5.down HD.down HR6.down.2 HR6.down.1 (1 + y1) (1 + y2) s1 s2 _ l HL.down.1 HL.down.2 HO.down
                refine wp_store_row 35 _ _ rfl N (evCells ⟨1 + y1, 1 + y2, s2, s1, 0, [], ⟨0, []⟩, [], ⟨0, []⟩, [], 0, [], [], [], [], l, []⟩ ⟨.slice none 0 0, .slice none 0 0, .slice none 0 0, .slice none 0 0, .slice none 0 0, .slice none 0 0, .slice none 0 0, .slice none 0 0, .slice A1 m1 c1⟩) rfl rfl 35 _ HR6.down.1 (by kernel_rfl) rfl hB.own.one ?_
                refine hK.out _ _ ⟨hB.s1.cell, hB.s1⟩ (fun _ => ?_)
                clear hK K
                refine wpAnyH_done (by kernel_rfl) ?_ _
                exact HR.down _ _ ⟨.pointer (some ⟨D, 0, none⟩), .int .i64 y1, .int .i64 (1 + y1), .pointer (some ⟨D, 0, none⟩), .int .i64 y2, .int .i64 (1 + y2), .pointer (some ⟨D, 0, none⟩), .string ⟨s1.toArray⟩, .pointer (some ⟨D, 0, none⟩), .string ⟨s2.toArray⟩, .pointer (some ⟨D, 0, none⟩), .slice A1 m1 c1, .agg (evCells ⟨1 + y1, 1 + y2, s2, s1, 0, [], ⟨0, []⟩, [], ⟨0, []⟩, [], 0, [], [], [], [], l, []⟩ ⟨.slice none 0 0, .slice none 0 0, .slice none 0 0, .slice none 0 0, .slice none 0 0, .slice none 0 0, .slice none 0 0, .slice none 0 0, .slice A1 m1 c1⟩), N, by kernel_rfl, _, _, hB⟩
    refine AllReadyH.cons rfl (fun K hK => ?_) AllReadyH.nil
    · go_simp
      have hr : ((W0.alloc (.cells #[.int .i64 0, .int .i64 0, .string ⟨#[]⟩, .string ⟨#[]⟩, .int .i64 0, .string ⟨#[]⟩, .int .i64 0, .slice none 0 0, .slice none 0 0, .int .i64 0, .slice none 0 0, .slice none 0 0, .int .i64 0, .slice none 0 0, .slice none 0 0, .slice none 0 0, .slice none 0 0, .slice none 0 0, .string ⟨#[]⟩] 35)).drew).heap[W0.heap.size]? = _ := hA1_0 W0 (.cells #[.int .i64 0, .int .i64 0, .string ⟨#[]⟩, .string ⟨#[]⟩, .int .i64 0, .string ⟨#[]⟩, .int .i64 0, .slice none 0 0, .slice none 0 0, .int .i64 0, .slice none 0 0, .slice none 0 0, .int .i64 0, .slice none 0 0, .slice none 0 0, .slice none 0 0, .slice none 0 0, .slice none 0 0, .string ⟨#[]⟩] 35)
      have hn := krow_lt HS00.down.res
      have hS := HS00.down.later ((ext_alloc W0 (.cells #[.int .i64 0, .int .i64 0, .string ⟨#[]⟩, .string ⟨#[]⟩, .int .i64 0, .string ⟨#[]⟩, .int .i64 0, .slice none 0 0, .slice none 0 0, .int .i64 0, .slice none 0 0, .slice none 0 0, .int .i64 0, .slice none 0 0, .slice none 0 0, .slice none 0 0, .slice none 0 0, .slice none 0 0, .string ⟨#[]⟩] 35)).drew)
      refine hK.out _ _ ⟨hS.cell, hS⟩ (fun hH => ?_)
      clear hK K hH
      generalize (W0.alloc (.cells #[.int .i64 0, .int .i64 0, .string ⟨#[]⟩, .string ⟨#[]⟩, .int .i64 0, .string ⟨#[]⟩, .int .i64 0, .slice none 0 0, .slice none 0 0, .int .i64 0, .slice none 0 0, .slice none 0 0, .int .i64 0, .slice none 0 0, .slice none 0 0, .slice none 0 0, .slice none 0 0, .slice none 0 0, .string ⟨#[]⟩] 35)).drew = V at *
      generalize W0.heap.size = N at *
      have HR1 : PLift (V.heap[N]? = some (.cells zeroEv 35 (0, 0)) ∧ w.heap.size + 1 < N) := PLift.up ⟨hr, hn⟩
      have HSV : PLift _ := PLift.up hS
      clear hr hn hS
      refine wpAnyH_ready (rs := [1]) (by kernel_rfl) (by simp) ?_
      refine AllReadyH.cons rfl (fun K hK => ?_) AllReadyH.nil
      · go_simp
        go_at_call 27
        refine (HN.down 3 (by omega) (by omega) _ HSV.down.kit.d).mono ?_
        rintro r U1 ⟨⟨y1, rfl, y10, y11⟩, hk⟩
        have HS1 : PLift _ := PLift.up (HSV.down.step hlt.down hk)
        have HR2 : PLift (U1.heap[N]? = some (.cells zeroEv 35 (0, 0)) ∧ w.heap.size + 1 < N) := PLift.up ⟨hk.b.row (by have := hlt.down; have := HR1.down.2; omega) HR1.down.1, HR1.down.2⟩
        refine hK.out _ _ ⟨HS1.down.cell, HS1.down⟩ (fun hH => ?_)
        clear hK K hH hk
        refine wpAnyH_take (i := 2) (v := .int .i64 (1 + y1)) rfl (by kernel_rfl) (by kernel_rfl) (by kernel_rfl) (fun _ _ _ h => h) (Or.inl ⟨by rfl, ?_⟩) ⟨HS1.down.cell, HS1.down⟩ ?_
        · intro W hS
          have c0 := hS.1
          clear hS
          go_simp; rw [IntKind.wrap_i64]; omega
        refine wpAnyH_ready (rs := [4]) (by kernel_rfl) (by simp) ?_
        refine AllReadyH.cons rfl (fun K hK => ?_) AllReadyH.nil
        · go_simp
          go_at_call 27
          refine (HN.down 5 (by omega) (by omega) _ HS1.down.kit.d).mono ?_
          rintro r U2 ⟨⟨y2, rfl, y20, y21⟩, hk⟩
          have HS2 : PLift _ := PLift.up (HS1.down.step hlt.down hk)
          have HR3 : PLift (U2.heap[N]? = some (.cells zeroEv 35 (0, 0)) ∧ w.heap.size + 1 < N) := PLift.up ⟨hk.b.row (by have := hlt.down; have := HR2.down.2; omega) HR2.down.1, HR2.down.2⟩
          refine hK.out _ _ ⟨HS2.down.cell, HS2.down⟩ (fun hH => ?_)
          clear hK K hH hk
          refine wpAnyH_take (i := 5) (v := .int .i64 (1 + y2)) rfl (by kernel_rfl) (by kernel_rfl) (by kernel_rfl) (fun _ _ _ h => h) (Or.inl ⟨by rfl, ?_⟩) ⟨HS2.down.cell, HS2.down⟩ ?_
          · intro W hS
            have c0 := hS.1
            clear hS
            go_simp; rw [IntKind.wrap_i64]; omega
          refine wpAnyH_ready (rs := [7]) (by kernel_rfl) (by simp) ?_
          refine AllReadyH.cons rfl (fun K hK => ?_) AllReadyH.nil
          · go_simp
            go_at_call 28
            refine (HDIG.down _ HS2.down.kit.d).mono ?_
            rintro r U3 ⟨⟨s1, rfl, hs1⟩, hk⟩
            have HS3 : PLift _ := PLift.up (HS2.down.step hlt.down hk)
            have HR4 : PLift (U3.heap[N]? = some (.cells zeroEv 35 (0, 0)) ∧ w.heap.size + 1 < N) := PLift.up ⟨hk.b.row (by have := hlt.down; have := HR3.down.2; omega) HR3.down.1, HR3.down.2⟩
            refine hK.out _ _ ⟨HS3.down.cell, HS3.down⟩ (fun hH => ?_)
            clear hK K hH hk
            refine wpAnyH_ready (rs := [9]) (by kernel_rfl) (by simp) ?_
            refine AllReadyH.cons rfl (fun K hK => ?_) AllReadyH.nil
            · go_simp
              go_at_call 28
              refine (HDIG.down _ HS3.down.kit.d).mono ?_
              rintro r U4 ⟨⟨s2, rfl, hs2⟩, hk⟩
              have HS4 : PLift _ := PLift.up (HS3.down.step hlt.down hk)
              have HR5 : PLift (U4.heap[N]? = some (.cells zeroEv 35 (0, 0)) ∧ w.heap.size + 1 < N) := PLift.up ⟨hk.b.row (by have := hlt.down; have := HR4.down.2; omega) HR4.down.1, HR4.down.2⟩
              refine hK.out _ _ ⟨HS4.down.cell, HS4.down⟩ (fun hH => ?_)
              clear hK K hH hk
              refine wpAnyH_ready (rs := [11]) (by kernel_rfl) (by simp) ?_
              refine AllReadyH.cons rfl (fun K hK => ?_) AllReadyH.nil
              · go_simp
                go_at_call 29
                refine (HSEA.down _ HS4.down.kit.d).mono ?_
                rintro r U5 ⟨⟨an, rfl, l, hl, hs, ho⟩, hk⟩
                have HS5 : PLift _ := PLift.up (HS4.down.step hlt.down hk)
                obtain ⟨A1, m1, c1, rfl⟩ := own_slice ho
                have HO : PLift _ := PLift.up (own_mono ho HS4.down.kit.b.size)
                have HL : PLift _ := PLift.up (And.intro hl hs)
                clear ho hl hs
                have HR6 : PLift (U5.heap[N]? = some (.cells zeroEv 35 (0, 0)) ∧ w.heap.size + 1 < N) := PLift.up ⟨hk.b.row (by have := hlt.down; have := HR5.down.2; omega) HR5.down.1, HR5.down.2⟩
                refine hK.out _ _ ⟨HS5.down.cell, HS5.down⟩ (fun hH => ?_)
                clear hK K hH hk
                refine wpAnyH_take (i := 12) (v := .agg (evCells ⟨1 + y1, 1 + y2, s2, s1, 0, [], ⟨0, []⟩, [], ⟨0, []⟩, [], 0, [], [], [], [], l, []⟩ ⟨.slice none 0 0, .slice none 0 0, .slice none 0 0, .slice none 0 0, .slice none 0 0, .slice none 0 0, .slice none 0 0, .slice none 0 0, .slice A1 m1 c1⟩)) rfl (by kernel_rfl) (by kernel_rfl) (by kernel_rfl) (fun _ _ _ h => h) (Or.inl ⟨by rfl, ?_⟩) ⟨HS5.down.cell, HS5.down⟩ ?_
                · intro W hS
                  have c0 := hS.1
                  clear hS
                  first | (go_simp; done) | (go_simp; rfl) | rfl
                refine wpAnyH_ready (rs := [14]) (by kernel_rfl) (by simp) ?_
                refine AllReadyH.cons rfl (fun K hK => ?_) AllReadyH.nil
                rw [if_pos (by rfl)]
                have hB := EvB.first HS5.down HD.down HR6.down.2 HR6.down.1 (1 + y1) (1 + y2) s1 s2 _ l HL.down.1 HL.down.2 HO.down
                refine wp_store_row 35 _ _ rfl N (evCells ⟨1 + y1, 1 + y2, s2, s1, 0, [], ⟨0, []⟩, [], ⟨0, []⟩, [], 0, [], [], [], [], l, []⟩ ⟨.slice none 0 0, .slice none 0 0, .slice none 0 0, .slice none 0 0, .slice none 0 0, .slice none 0 0, .slice none 0 0, .slice none 0 0, .slice A1 m1 c1⟩) rfl rfl 35 _ HR6.down.1 (by kernel_rfl) rfl hB.own.one ?_
                refine hK.out _ _ ⟨hB.s1.cell, hB.s1⟩ (fun _ => ?_)
                clear hK K
                refine wpAnyH_done (by kernel_rfl) ?_ _
                exact HR.down _ _ ⟨.pointer (some ⟨D, 0, none⟩), .int .i64 y1, .int .i64 (1 + y1), .pointer (some ⟨D, 0, none⟩), .int .i64 y2, .int .i64 (1 + y2), .pointer (some ⟨D, 0, none⟩), .string ⟨s1.toArray⟩, .pointer (some ⟨D, 0, none⟩), .string ⟨s2.toArray⟩, .pointer (some ⟨D, 0, none⟩), .slice A1 m1 c1, .agg (evCells ⟨1 + y1, 1 + y2, s2, s1, 0, [], ⟨0, []⟩, [], ⟨0, []⟩, [], 0, [], [], [], [], l, []⟩ ⟨.slice none 0 0, .slice none 0 0, .slice none 0 0, .slice none 0 0, .slice none 0 0, .slice none 0 0, .slice none 0 0, .slice none 0 0, .slice A1 m1 c1⟩), N, by kernel_rfl, _, _, hB⟩
  · rintro a' W10 ⟨x4, x5, x6, x7, x8, x9, x10, x11, x12, x13, x14, x15, x16, N, ha, e1, u1, hB⟩
    simp only [Act.put, List.setIfInBounds_toArray, List.set_cons_zero, List.set_cons_succ] at ha
    subst ha
    have HB : PLift _ := PLift.up hB
    clear hB HS0 HS00
    have qk : W10.cell? ⟨N, 1, none⟩ = some (.int .i64 e1.kind) := HB.down.cell 1
    go_wp2_with fail
    refine (r14_inception e1.kind _).mono ?_
    rintro r w' ⟨rfl, rfl⟩
    generalize inK e1.kind = b1
    clear qk
    rename_i K2 h2 K1 h1 K0 h0
    refine h0 _ _ (h1 _ _ ?_)
    clear h0 h1 K0 K1
    refine cutX (fun a a' w' => ∃ x20 x21 x22 x23 x24 x25 x26 x27 x28 x29 x30 x31 x32 x33 x34 x35 x36 x37 x38 x39 x40 x41 x42 x43 x44 x45 : Value, a' = ((((((((((((((((((((((((((a.put (some 20) x20).put (some 21) x21).put (some 22) x22).put (some 23) x23).put (some 24) x24).put (some 25) x25).put (some 26) x26).put (some 27) x27).put (some 28) x28).put (some 29) x29).put (some 30) x30).put (some 31) x31).put (some 32) x32).put (some 33) x33).put (some 34) x34).put (some 35) x35).put (some 36) x36).put (some 37) x37).put (some 38) x38).put (some 39) x39).put (some 40) x40).put (some 41) x41).put (some 42) x42).put (some 43) x43).put (some 44) x44).put (some 45) x45) ∧ ∃ e u, EvB D A n c 10 w w' N e u) ?_ ?_
    · intro R HR
      cases b1 with
      | true =>
        have ca : (W10).cell? ⟨w.heap.size, 0, none⟩ = some (.pointer (some ⟨D, 0, none⟩)) := HB.down.s1.cell
        have qa_3 : (W10).cell? ⟨N, 3, none⟩ = some (.string ⟨e1.pre.toArray⟩) := HB.down.cell 3
        have fa_3 : (W10).frozen? ⟨N, 3, none⟩ = false := HB.down.free 3
        have qa_2 : (W10).cell? ⟨N, 2, none⟩ = some (.string ⟨e1.said.toArray⟩) := HB.down.cell 2
        have fa_2 : (W10).frozen? ⟨N, 2, none⟩ = false := HB.down.free 2
        have HB1 : PLift (EvB D A n c 10 w (W10.setCell ⟨N, 2, none⟩ (.string ⟨e1.pre.toArray⟩)) N { e1 with said := e1.pre } u1) := PLift.up (HB.down.put1 HD.down 2 _ rfl rfl rfl (six rfl rfl rfl rfl rfl rfl) rfl)
        have cb : (W10.setCell ⟨N, 2, none⟩ (.string ⟨e1.pre.toArray⟩)).cell? ⟨w.heap.size, 0, none⟩ = some (.pointer (some ⟨D, 0, none⟩)) := HB1.down.s1.cell
        go_wp2_with fail
        refine (kdiffStays D A n c 4 (by omega) _ HB1.down.s1.kit.d).mono ?_
        rintro r W11 ⟨⟨v, rfl, l, hl, hsl, ho⟩, hk⟩
        obtain ⟨Bv, pv, rfl⟩ := own_sliceN ho
        have HB2 : PLift _ := PLift.up (HB1.down.step hlt.down hk)
        have HOv : PLift _ := PLift.up (own_mono ho HB1.down.s1.kit.b.size)
        have HSl : PLift (∀ s ∈ l, s.length ≤ 1000000) := PLift.up (fun s q => by have := hsl s q; omega)
        clear ho hsl
        clear hk
        have qc_13 : (W11).cell? ⟨N, 13, none⟩ = some (u1.ws) := HB2.down.cell 13
        have fc_13 : (W11).frozen? ⟨N, 13, none⟩ = false := HB2.down.free 13
        have cc : (W11).cell? ⟨w.heap.size, 0, none⟩ = some (.pointer (some ⟨D, 0, none⟩)) := HB2.down.s1.cell
        have HB3 : PLift (EvB D A n c 10 w (W11.setCell ⟨N, 13, none⟩ (.slice Bv l.length pv)) N (EvV.putLl { e1 with said := e1.pre } 2 l) (u1.putSl 2 (.slice Bv l.length pv))) := PLift.up (HB2.down.putList HD.down 2 (by omega) HOv.down (by omega) HSl.down)
        have cd : (W11.setCell ⟨N, 13, none⟩ (.slice Bv l.length pv)).cell? ⟨w.heap.size, 0, none⟩ = some (.pointer (some ⟨D, 0, none⟩)) := HB3.down.s1.cell
        have qd_13 : (W11.setCell ⟨N, 13, none⟩ (.slice Bv l.length pv)).cell? ⟨N, 13, none⟩ = some (.slice Bv l.length pv) := HB3.down.cell 13
        have fd_13 : (W11.setCell ⟨N, 13, none⟩ (.slice Bv l.length pv)).frozen? ⟨N, 13, none⟩ = false := HB3.down.free 13
        have wl : IntKind.i64.wrap ((l.length : Int) + 1) = (l.length : Int) + 1 := by rw [IntKind.wrap_i64]; omega
        go_wp2_with fail
        refine (HN.down ((l.length : Int) + 1) (by omega) (by omega) _ HB3.down.s1.kit.d).mono ?_
        rintro r W12 ⟨⟨y, rfl, y0, y1⟩, hk⟩
        have HB4 : PLift _ := PLift.up (HB3.down.step hlt.down hk)
        have qe_12 : (W12).cell? ⟨N, 12, none⟩ = some (.int .i64 e1.tol) := HB4.down.cell 12
        have fe_12 : (W12).frozen? ⟨N, 12, none⟩ = false := HB4.down.free 12
        have HB5 : PLift (EvB D A n c 10 w (W12.setCell ⟨N, 12, none⟩ (.int .i64 y)) N { (EvV.putLl { e1 with said := e1.pre } 2 l) with tol := y } (u1.putSl 2 (.slice Bv l.length pv))) := PLift.up (HB4.down.put1 HD.down 12 _ rfl rfl rfl (six rfl rfl rfl rfl rfl rfl) rfl)
        clear hk
        have cf : (W12.setCell ⟨N, 12, none⟩ (.int .i64 y)).cell? ⟨w.heap.size, 0, none⟩ = some (.pointer (some ⟨D, 0, none⟩)) := HB5.down.s1.cell
        go_wp2_with fail
        refine (kdiff1 D A n c 2 w.heap.size (by omega) _ HB5.down.s1.kit.d (HB5.down.s1.cellB hlt.down)).mono ?_
        rintro r W13 ⟨⟨v, rfl, l2, hl2, hsl2, ho⟩, hk⟩
        obtain ⟨Bv2, pv2, rfl⟩ := own_sliceN ho
        have HB6 : PLift _ := PLift.up (HB5.down.step hlt.down hk)
        have HOv2 : PLift _ := PLift.up (own_mono ho HB5.down.s1.kit.b.size)
        have HSl2 : PLift (∀ s ∈ l2, s.length ≤ 1000000) := PLift.up (fun s q => by have := hsl2 s q; omega)
        clear ho hsl2
        clear hk
        have qg_16 : (W13).cell? ⟨N, 16, none⟩ = some (u1.cf) := HB6.down.cell 16
        have fg_16 : (W13).frozen? ⟨N, 16, none⟩ = false := HB6.down.free 16
        have HB7 : PLift (EvB D A n c 10 w (W13.setCell ⟨N, 16, none⟩ (.slice Bv2 l2.length pv2)) N _ _) := PLift.up (HB6.down.putList HD.down 5 (by omega) HOv2.down (by omega) HSl2.down)
        go_wp2_with fail
        exact HR.down _ _ ⟨_, _, _, _, _, _, _, _, _, _, _, _, _, _, _, _, _, _, _, _, _, _, _, _, _, _, by simp only [Act.put, List.setIfInBounds_toArray, List.set_cons_zero, List.set_cons_succ]; rfl, _, _, HB7.down⟩
      | false =>
        have HBd : PLift (EvB D A n c 10 w W10.drew N e1 u1) := PLift.up (HB.down.later ((Below.refl _ _).drew))
        have cd := HBd.down.s1.cell
        go_wp2_with fail
        go_region_law (first
          | (go_simp; go_at_call 27; refine (HN.down 20 (by omega) (by omega) _ HBd.down.s1.kit.d).mono ?_
             rintro r W11 ⟨⟨y, rfl, y0, y1⟩, hk⟩
             have HB1 : PLift _ := PLift.up (HBd.down.step hlt.down hk)
             have c1 := HB1.down.s1.cell
             have wy : IntKind.i64.wrap (1 + y) = 1 + y := by rw [IntKind.wrap_i64]; omega
             clear hk)
          | (go_simp; go_at_call 28; refine (HDIG.down _ HB1.down.s1.kit.d).mono ?_
             rintro r W12 ⟨⟨s, rfl, hs⟩, hk⟩
             have HB2 : PLift _ := PLift.up (HB1.down.step hlt.down hk)
             have q4 : W12.cell? ⟨N, 4, none⟩ = some (.int .i64 e1.num) := HB2.down.cell 4
             have f4 := HB2.down.free 4
             have HB3 : PLift (EvB D A n c 10 w (W12.setCell ⟨N, 4, none⟩ (.int .i64 (1 + y))) N { e1 with num := 1 + y } u1) := PLift.up (HB2.down.put1 HD.down 4 _ rfl rfl rfl (six rfl rfl rfl rfl rfl rfl) rfl)
             have q5 : (W12.setCell ⟨N, 4, none⟩ (.int .i64 (1 + y))).cell? ⟨N, 5, none⟩ = some (.string ⟨e1.prior.toArray⟩) := HB3.down.cell 5
             have f5 := HB3.down.free 5
             have HB4 : PLift (EvB D A n c 10 w ((W12.setCell ⟨N, 4, none⟩ (.int .i64 (1 + y))).setCell ⟨N, 5, none⟩ (.string ⟨s.toArray⟩)) N { e1 with num := 1 + y, prior := s } u1) := PLift.up (HB3.down.put1 HD.down 5 _ rfl rfl rfl (six rfl rfl rfl rfl rfl rfl) rfl)
             clear hk))
        all_goals exact HR.down _ _ ⟨_, _, _, _, _, _, _, _, _, _, _, _, _, _, _, _, _, _, _, _, _, _, _, _, _, _, by simp only [Act.put, List.setIfInBounds_toArray, List.set_cons_zero, List.set_cons_succ]; rfl, _, _, HB4.down⟩
    · rintro a' W20 ⟨x20, x21, x22, x23, x24, x25, x26, x27, x28, x29, x30, x31, x32, x33, x34, x35, x36, x37, x38, x39, x40, x41, x42, x43, x44, x45, ha, e2, u2, hB⟩
      simp only [Act.put, List.setIfInBounds_toArray, List.set_cons_zero, List.set_cons_succ] at ha
      subst ha
      have HBb : PLift _ := PLift.up hB
      clear hB HB
      have qk : W20.cell? ⟨N, 1, none⟩ = some (.int .i64 e2.kind) := HBb.down.cell 1
      go_wp2_with fail
      refine (r14_established_kind e2.kind _).mono ?_
      rintro r w' ⟨rfl, rfl⟩
      generalize estK e2.kind = b2
      clear qk
      rename_i K2 h2 K1 h1 K0 h0
      refine h0 _ _ (h1 _ _ ?_)
      clear h0 h1 K0 K1
      refine cutX (fun a a' w' => ∃ x49 x50 x51 x52 x53 x54 x55 x56 x57 x58 x59 x60 x61 x62 x63 x64 x65 x66 x67 x68 x69 x70 x71 x72 x73 : Value, a' = (((((((((((((((((((((((((a.put (some 49) x49).put (some 50) x50).put (some 51) x51).put (some 52) x52).put (some 53) x53).put (some 54) x54).put (some 55) x55).put (some 56) x56).put (some 57) x57).put (some 58) x58).put (some 59) x59).put (some 60) x60).put (some 61) x61).put (some 62) x62).put (some 63) x63).put (some 64) x64).put (some 65) x65).put (some 66) x66).put (some 67) x67).put (some 68) x68).put (some 69) x69).put (some 70) x70).put (some 71) x71).put (some 72) x72).put (some 73) x73) ∧ ∃ e u, EvB D A n c 10 w w' N e u) ?_ ?_
      · intro R HR
        cases b2 with
        | true =>
          have HBd : PLift (EvB D A n c 10 w W20.drew N e2 u2) := PLift.up (HBb.down.later ((Below.refl _ _).drew))
          go_wp2_with fail
          refine cutX (fun a a' w' => ∃ y49 y50 y51 y52 y53 y54 y55 y56 : Value, ∃ (Bk : Option Addr) (pk : Nat) (lk : List (List UInt8)), a' = ((((((((a.put (some 49) y49).put (some 50) y50).put (some 51) y51).put (some 52) y52).put (some 53) y53).put (some 54) y54).put (some 55) y55).put (some 56) y56) ∧ lk.length ≤ 3 ∧ EvB D A n c 10 w w' N (e2.putLl 0 lk) (u2.putSl 0 (.slice Bk lk.length pk))) ?_ ?_
          · intro R9 HRX
            refine wp_region_held_drew (S := fun W => W.cell? ⟨w.heap.size, 0, none⟩ = some (.pointer (some ⟨D, 0, none⟩))) (by kernel_rfl) HBd.down.s1.cell (fun hH => ?_)
            clear hH
            refine wpAnyH_take (i := 0) (v := .pointer (some ⟨D, 0, none⟩)) rfl (by kernel_rfl) (by kernel_rfl) (by kernel_rfl) (fun _ _ _ h => h) (Or.inl ⟨by rfl, ?_⟩) HBd.down.s1.cell ?_
            · intro W hS
              go_simp
            refine wpAnyH_take (i := 3) (v := .pointer (some ⟨D, 0, none⟩)) rfl (by kernel_rfl) (by kernel_rfl) (by kernel_rfl) (fun _ _ _ h => h) (Or.inl ⟨by rfl, ?_⟩) HBd.down.s1.cell ?_
            · intro W hS
              go_simp
            refine wpAnyH_take (i := 4) (v := .func (.func 35) #[] #[.pointer (some ⟨w.heap.size, 0, none⟩)]) rfl (by kernel_rfl) (by kernel_rfl) (by kernel_rfl) (fun _ _ _ h => h) (Or.inl ⟨by rfl, ?_⟩) HBd.down.s1.cell ?_
            · intro W hS
              go_simp
            refine wpAnyH_ready (rs := [1]) (by kernel_rfl) (by simp) ?_
            refine AllReadyH.cons rfl (fun K hK => ?_) AllReadyH.nil
            go_simp
            go_at_call 34
            refine (HKEY.down _ HBd.down.s1.kit.d).mono ?_
            rintro r W21 ⟨⟨s, rfl, hs⟩, hk⟩
            have HB1 : PLift _ := PLift.up (HBd.down.step hlt.down hk)
            have HLs : PLift _ := PLift.up hs
            clear hk hs
            refine hK.out _ _ HB1.down.s1.cell (fun hH => ?_)
            clear hK K hH
            refine wpAnyH_ready (rs := [2, 5]) (by kernel_rfl) (by simp) ?_
            refine AllReadyH.cons rfl (fun K hK => ?_) ?_
            · go_simp
              have HB2 : PLift (EvB D A n c 10 w (W21.alloc (.cells #[.string ⟨s.toArray⟩] 9)) N e2 u2) := PLift.up (HB1.down.later (ext_alloc _ _))
              have HOK0 : PLift ((W21.alloc (.cells #[.string ⟨s.toArray⟩] 9)).ownsRow w.heap.size 9 1 (.slice (some ⟨W21.heap.size, 0, none⟩) 1 1) 1 (strCells [s]).toList) := PLift.up (World.ownsRow_lit _ _ 1 HB1.down.s1.kit.b.size (by decide) rfl)
              have HFR : PLift _ := PLift.up (HB1.down.fresh (b := W21.heap.size) (k := 1) (cp := 1) (Nat.le_refl _))
              refine hK.out _ _ HB2.down.s1.cell (fun hH => ?_)
              clear hK K hH
              refine wpAnyH_ready (rs := [5]) (by kernel_rfl) (by simp) ?_
              refine AllReadyH.cons rfl (fun K hK => ?_) AllReadyH.nil
              go_simp
              go_at_call 31
              refine (kdiff2 D A n c 2 w.heap.size (by omega) _ HB2.down.s1.kit.d (HB2.down.s1.cellB hlt.down)).mono ?_
              rintro r W22 ⟨⟨v, rfl, l, hl, hsl, ho⟩, hk⟩
              obtain ⟨Bv, pv, rfl⟩ := own_sliceN ho
              have HB3 : PLift _ := PLift.up (HB2.down.step hlt.down hk)
              have HOv : PLift _ := PLift.up (own_mono ho HB2.down.s1.kit.b.size)
              have HSl : PLift (∀ s ∈ l, s.length ≤ 1000000) := PLift.up (fun s q => by have := hsl s q; omega)
              clear ho hsl
              have HOK : PLift _ := PLift.up (own_kit HOK0.down hlt.down hk.b)
              clear hk
              refine hK.out _ _ HB3.down.s1.cell (fun hH => ?_)
              clear hK K hH
              refine wpAnyH_ready (rs := [6]) (by kernel_rfl) (by simp) ?_
              refine AllReadyH.cons rfl (fun K hK => ?_) AllReadyH.nil
              have hst := strs_own l HOv.down (by omega) HSl.down
              refine step_kapp HD.down HB3.down.s1.kit 32 9 (.string ⟨#[]⟩) 1 16 Tryz.underlying32 kStr rfl (by decide) (by decide) rfl _ _ rfl _ 1 (strCells [s]).toList rfl HOK.down Bv l.length pv (strCells l).toList rfl (by rw [strCells_len]; omega) hst.cellsB.2.2 hst.cellsB.2.1 (strCells_one _) (by omega) ?_
              intro v3 W25 ho hk3 hg
              obtain ⟨lk, hlk⟩ : ∃ lk, lk = [s] ++ l := ⟨_, rfl⟩
              rw [strCells_append, show 1 + l.length = ([s] ++ l).length by simp; omega, ← hlk] at ho
              have HLK : PLift (lk.length ≤ 3 ∧ ∀ x ∈ lk, x.length ≤ 1000000) := PLift.up ⟨by rw [hlk, List.length_append]; simp; omega, fun x hx => by
                rw [hlk, List.mem_append, List.mem_singleton] at hx
                rcases hx with rfl | hx
                · have := HLs.down; omega
                · exact HSl.down x hx⟩
              clear hlk
              obtain ⟨Bk, pk, rfl⟩ := own_sliceN ho
              have HB5 : PLift (EvB D A n c 10 w W25 N e2 u2) := PLift.up (HB3.down.grown hk3 HOK.down hg HFR.down.1 HFR.down.2)
              have HOk : PLift _ := PLift.up ho
              clear ho hk3 hg hst
              refine hK.out _ _ HB5.down.s1.cell (fun hH => ?_)
              clear hK K hH
              refine wpAnyH_take (i := 7) (v := .pointer (some ⟨N, 8, none⟩)) rfl (by kernel_rfl) (by kernel_rfl) (by kernel_rfl) (fun _ _ _ h => h) (Or.inl ⟨by rfl, ?_⟩) HB5.down.s1.cell ?_
              · intro W hS
                go_simp
              refine wpAnyH_ready (rs := [8]) (by kernel_rfl) (by simp) ?_
              refine AllReadyH.cons rfl (fun K hK => ?_) AllReadyH.nil
              have q8 : W25.cell? ⟨N, 8, none⟩ = some u2.ks := HB5.down.cell 8
              have f8 := HB5.down.free 8
              have HB6 : PLift (EvB D A n c 10 w (W25.setCell ⟨N, 8, none⟩ (.slice Bk lk.length pk)) N (e2.putLl 0 lk) (u2.putSl 0 (.slice Bk lk.length pk))) := PLift.up (HB5.down.putList HD.down 0 (by omega) HOk.down (by have := HLK.down.1; omega) HLK.down.2)
              go_simp
              refine hK.out _ _ HB6.down.s1.cell (fun hH => ?_)
              clear hK K hH
              refine wpAnyH_done (by kernel_rfl) ?_ _
              exact HRX.down _ _ ⟨.pointer (some ⟨D, 0, none⟩), .string ⟨s.toArray⟩, .slice (some ⟨W21.heap.size, 0, none⟩) 1 1, .pointer (some ⟨D, 0, none⟩), .func (.func 35) #[] #[.pointer (some ⟨w.heap.size, 0, none⟩)], .slice Bv l.length pv, .slice Bk lk.length pk, .pointer (some ⟨N, 8, none⟩), Bk, pk, lk, by kernel_rfl, HLK.down.1, HB6.down⟩
            refine AllReadyH.cons rfl (fun K hK => ?_) AllReadyH.nil
            · go_simp
              go_at_call 31
              refine (kdiff2 D A n c 2 w.heap.size (by omega) _ HB1.down.s1.kit.d (HB1.down.s1.cellB hlt.down)).mono ?_
              rintro r W22 ⟨⟨v, rfl, l, hl, hsl, ho⟩, hk⟩
              obtain ⟨Bv, pv, rfl⟩ := own_sliceN ho
              have HB3a : PLift _ := PLift.up (HB1.down.step hlt.down hk)
              have HOv : PLift _ := PLift.up (own_mono ho HB1.down.s1.kit.b.size)
              have HSl : PLift (∀ s ∈ l, s.length ≤ 1000000) := PLift.up (fun s q => by have := hsl s q; omega)
              clear ho hsl
              clear hk
              refine hK.out _ _ HB3a.down.s1.cell (fun hH => ?_)
              clear hK K hH
              refine wpAnyH_ready (rs := [2]) (by kernel_rfl) (by simp) ?_
              refine AllReadyH.cons rfl (fun K hK => ?_) AllReadyH.nil
              go_simp
              have HB3 : PLift (EvB D A n c 10 w (W22.alloc (.cells #[.string ⟨s.toArray⟩] 9)) N e2 u2) := PLift.up (HB3a.down.later (ext_alloc _ _))
              have HOK : PLift ((W22.alloc (.cells #[.string ⟨s.toArray⟩] 9)).ownsRow w.heap.size 9 1 (.slice (some ⟨W22.heap.size, 0, none⟩) 1 1) 1 (strCells [s]).toList) := PLift.up (World.ownsRow_lit _ _ 1 HB3a.down.s1.kit.b.size (by decide) rfl)
              have HFR : PLift _ := PLift.up (HB3a.down.fresh (b := W22.heap.size) (k := 1) (cp := 1) (Nat.le_refl _))
              have HOva := HOv
              clear HOv
              have HOv : PLift _ := PLift.up (own_later HOva.down (ext_alloc _ (.cells #[.string ⟨s.toArray⟩] 9)))
              refine hK.out _ _ HB3.down.s1.cell (fun hH => ?_)
              clear hK K hH
              refine wpAnyH_ready (rs := [6]) (by kernel_rfl) (by simp) ?_
              refine AllReadyH.cons rfl (fun K hK => ?_) AllReadyH.nil
              have hst := strs_own l HOv.down (by omega) HSl.down
              refine step_kapp HD.down HB3.down.s1.kit 32 9 (.string ⟨#[]⟩) 1 16 Tryz.underlying32 kStr rfl (by decide) (by decide) rfl _ _ rfl _ 1 (strCells [s]).toList rfl HOK.down Bv l.length pv (strCells l).toList rfl (by rw [strCells_len]; omega) hst.cellsB.2.2 hst.cellsB.2.1 (strCells_one _) (by omega) ?_
              intro v3 W25 ho hk3 hg
              obtain ⟨lk, hlk⟩ : ∃ lk, lk = [s] ++ l := ⟨_, rfl⟩
              rw [strCells_append, show 1 + l.length = ([s] ++ l).length by simp; omega, ← hlk] at ho
              have HLK : PLift (lk.length ≤ 3 ∧ ∀ x ∈ lk, x.length ≤ 1000000) := PLift.up ⟨by rw [hlk, List.length_append]; simp; omega, fun x hx => by
                rw [hlk, List.mem_append, List.mem_singleton] at hx
                rcases hx with rfl | hx
                · have := HLs.down; omega
                · exact HSl.down x hx⟩
              clear hlk
              obtain ⟨Bk, pk, rfl⟩ := own_sliceN ho
              have HB5 : PLift (EvB D A n c 10 w W25 N e2 u2) := PLift.up (HB3.down.grown hk3 HOK.down hg HFR.down.1 HFR.down.2)
              have HOk : PLift _ := PLift.up ho
              clear ho hk3 hg hst
              refine hK.out _ _ HB5.down.s1.cell (fun hH => ?_)
              clear hK K hH
              refine wpAnyH_take (i := 7) (v := .pointer (some ⟨N, 8, none⟩)) rfl (by kernel_rfl) (by kernel_rfl) (by kernel_rfl) (fun _ _ _ h => h) (Or.inl ⟨by rfl, ?_⟩) HB5.down.s1.cell ?_
              · intro W hS
                go_simp
              refine wpAnyH_ready (rs := [8]) (by kernel_rfl) (by simp) ?_
              refine AllReadyH.cons rfl (fun K hK => ?_) AllReadyH.nil
              have q8 : W25.cell? ⟨N, 8, none⟩ = some u2.ks := HB5.down.cell 8
              have f8 := HB5.down.free 8
              have HB6 : PLift (EvB D A n c 10 w (W25.setCell ⟨N, 8, none⟩ (.slice Bk lk.length pk)) N (e2.putLl 0 lk) (u2.putSl 0 (.slice Bk lk.length pk))) := PLift.up (HB5.down.putList HD.down 0 (by omega) HOk.down (by have := HLK.down.1; omega) HLK.down.2)
              go_simp
              refine hK.out _ _ HB6.down.s1.cell (fun hH => ?_)
              clear hK K hH
              refine wpAnyH_done (by kernel_rfl) ?_ _
              exact HRX.down _ _ ⟨.pointer (some ⟨D, 0, none⟩), .string ⟨s.toArray⟩, .slice (some ⟨W22.heap.size, 0, none⟩) 1 1, .pointer (some ⟨D, 0, none⟩), .func (.func 35) #[] #[.pointer (some ⟨w.heap.size, 0, none⟩)], .slice Bv l.length pv, .slice Bk lk.length pk, .pointer (some ⟨N, 8, none⟩), Bk, pk, lk, by kernel_rfl, HLK.down.1, HB6.down⟩
          · rintro a' W26 ⟨y49, y50, y51, y52, y53, y54, y55, y56, Bk, pk, lk, ha, hlk, hB⟩
            simp only [Act.put, List.setIfInBounds_toArray, List.set_cons_zero, List.set_cons_succ] at ha
            subst ha
            have HB7 : PLift _ := PLift.up hB
            clear hB
            have ch : (W26).cell? ⟨w.heap.size, 0, none⟩ = some (.pointer (some ⟨D, 0, none⟩)) := HB7.down.s1.cell
            have qh_8 : (W26).cell? ⟨N, 8, none⟩ = some (.slice Bk lk.length pk) := HB7.down.cell 8
            have fh_8 : (W26).frozen? ⟨N, 8, none⟩ = false := HB7.down.free 8
            go_wp2_with fail
            refine (HTHR.down lk.length (by omega) _ HB7.down.s1.kit.d).mono ?_
            rintro r W27 ⟨⟨v, t, rfl, hv⟩, hk⟩
            obtain ⟨Bt, ct, rfl⟩ : ∃ B cp, v = .slice B t.ws.length cp := by obtain ⟨_, ⟨B, cp, q, _⟩, _⟩ := hv.now; exact ⟨B, cp, q⟩
            have HB8 : PLift _ := PLift.up (HB7.down.step hlt.down hk)
            have hv2 := hv.mono HB7.down.s1.kit.b.size
            have qW27_a : W27.cell? ⟨N, 6, none⟩ = some (.int .i64 e2.thr.num) := HB8.down.cell 6
            have fW27_a := HB8.down.free 6
            have qW27_b : (W27.setCell ⟨N, 6, none⟩ (.int .i64 t.num)).cell? ⟨N, 7, none⟩ = some (u2.tw) := cell_of_row _ _ 7 _ _ _ (heap_setCell_same _ _ _ _ _ _ HB8.down.row)
            have fW27_b : (W27.setCell ⟨N, 6, none⟩ (.int .i64 t.num)).frozen? ⟨N, 7, none⟩ = false := frozen_of_row (heap_setCell_same _ _ _ _ _ _ HB8.down.row)
            have HB9 : PLift (EvB D A n c 10 w ((W27.setCell ⟨N, 6, none⟩ (.int .i64 t.num)).setCell ⟨N, 7, none⟩ (.slice Bt t.ws.length ct)) N _ _) := PLift.up (HB8.down.putThr HD.down hv2)
            have cW27 := HB9.down.s1.cell
            clear hk hv hv2
            go_wp2_with fail
            refine (kdiffDigest D A n c 3 (by omega) _ HB9.down.s1.kit.d).mono ?_
            rintro r W28 ⟨⟨v, rfl, l, hl, hsl, ho⟩, hk⟩
            obtain ⟨Bv, pv, rfl⟩ := own_sliceN ho
            have HB10 : PLift _ := PLift.up (HB9.down.step hlt.down hk)
            have HOv : PLift _ := PLift.up (own_mono ho HB9.down.s1.kit.b.size)
            have HSl : PLift (∀ s ∈ l, s.length ≤ 1000000) := PLift.up (fun s q => by have := hsl s q; omega)
            clear ho hsl
            clear hk
            have cj : (W28).cell? ⟨w.heap.size, 0, none⟩ = some (.pointer (some ⟨D, 0, none⟩)) := HB10.down.s1.cell
            have qj_11 : (W28).cell? ⟨N, 11, none⟩ = some (u2.nx) := HB10.down.cell 11
            have fj_11 : (W28).frozen? ⟨N, 11, none⟩ = false := HB10.down.free 11
            have HB11 : PLift (EvB D A n c 10 w (W28.setCell ⟨N, 11, none⟩ (.slice Bv l.length pv)) N _ _) := PLift.up (HB10.down.putList HD.down 1 (by omega) HOv.down (by omega) HSl.down)
            have ck : (W28.setCell ⟨N, 11, none⟩ (.slice Bv l.length pv)).cell? ⟨w.heap.size, 0, none⟩ = some (.pointer (some ⟨D, 0, none⟩)) := HB11.down.s1.cell
            have qk_11 : (W28.setCell ⟨N, 11, none⟩ (.slice Bv l.length pv)).cell? ⟨N, 11, none⟩ = some (.slice Bv l.length pv) := HB11.down.cell 11
            have fk_11 : (W28.setCell ⟨N, 11, none⟩ (.slice Bv l.length pv)).frozen? ⟨N, 11, none⟩ = false := HB11.down.free 11
            go_wp2_with fail
            refine (HTHR.down l.length (by omega) _ HB11.down.s1.kit.d).mono ?_
            rintro r W29 ⟨⟨v, t, rfl, hv⟩, hk⟩
            obtain ⟨Bt, ct, rfl⟩ : ∃ B cp, v = .slice B t.ws.length cp := by obtain ⟨_, ⟨B, cp, q, _⟩, _⟩ := hv.now; exact ⟨B, cp, q⟩
            have HB12 : PLift _ := PLift.up (HB11.down.step hlt.down hk)
            have hv2 := hv.mono HB11.down.s1.kit.b.size
            have qW29_a : W29.cell? ⟨N, 9, none⟩ = some (.int .i64 e2.nthr.num) := HB12.down.cell 9
            have fW29_a := HB12.down.free 9
            have qW29_b : (W29.setCell ⟨N, 9, none⟩ (.int .i64 t.num)).cell? ⟨N, 10, none⟩ = some (u2.nw) := cell_of_row _ _ 10 _ _ _ (heap_setCell_same _ _ _ _ _ _ HB12.down.row)
            have fW29_b : (W29.setCell ⟨N, 9, none⟩ (.int .i64 t.num)).frozen? ⟨N, 10, none⟩ = false := frozen_of_row (heap_setCell_same _ _ _ _ _ _ HB12.down.row)
            have HB13 : PLift (EvB D A n c 10 w ((W29.setCell ⟨N, 9, none⟩ (.int .i64 t.num)).setCell ⟨N, 10, none⟩ (.slice Bt t.ws.length ct)) N _ _) := PLift.up (HB12.down.putNthr HD.down hv2)
            have cW29 := HB13.down.s1.cell
            clear hk hv hv2
            go_wp2_with fail
            exact HR.down _ _ ⟨_, _, _, _, _, _, _, _, _, _, _, _, _, _, _, _, _, _, _, _, _, _, _, _, _, by simp only [Act.put, List.setIfInBounds_toArray, List.set_cons_zero, List.set_cons_succ]; rfl, _, _, HB13.down⟩
        | false =>
          go_wp2_with fail
          exact HR.down _ _ ⟨_, _, _, _, _, _, _, _, _, _, _, _, _, _, _, _, _, _, _, _, _, _, _, _, _, by simp only [Act.put, List.setIfInBounds_toArray, List.set_cons_zero, List.set_cons_succ]; rfl, _, _, HBb.down⟩
      · rintro a' W30 ⟨x49, x50, x51, x52, x53, x54, x55, x56, x57, x58, x59, x60, x61, x62, x63, x64, x65, x66, x67, x68, x69, x70, x71, x72, x73, ha, e3, u3, hB⟩
        simp only [Act.put, List.setIfInBounds_toArray, List.set_cons_zero, List.set_cons_succ] at ha
        subst ha
        have HBc : PLift _ := PLift.up hB
        clear hB HBb
        have qk : W30.cell? ⟨N, 1, none⟩ = some (.int .i64 e3.kind) := HBc.down.cell 1
        go_wp2_with fail
        refine (r14_rotation e3.kind _).mono ?_
        rintro r w' ⟨rfl, rfl⟩
        generalize rotK e3.kind = b3
        clear qk
        rename_i K2 h2 K1 h1 K0 h0
        refine h0 _ _ (h1 _ _ ?_)
        clear h0 h1 K0 K1
        refine cutX (fun a a' w' => ∃ x77 x78 x79 x80 x81 x82 x83 x84 x85 x86 x87 x88 x89 : Value, a' = (((((((((((((a.put (some 77) x77).put (some 78) x78).put (some 79) x79).put (some 80) x80).put (some 81) x81).put (some 82) x82).put (some 83) x83).put (some 84) x84).put (some 85) x85).put (some 86) x86).put (some 87) x87).put (some 88) x88).put (some 89) x89) ∧ ∃ e u, EvB D A n c 10 w w' N e u) ?_ ?_
        · intro R HR
          cases b3 with
          | true =>
            have HBd : PLift (EvB D A n c 10 w W30.drew N e3 u3) := PLift.up (HBc.down.later ((Below.refl _ _).drew))
            go_wp2_with fail
            refine wp_region_held_drew (S := fun W => W.cell? ⟨w.heap.size, 0, none⟩ = some (.pointer (some ⟨D, 0, none⟩))) (by kernel_rfl) HBd.down.s1.cell (fun hH => ?_)
            clear hH
            refine wpAnyH_take (i := 0) (v := .pointer (some ⟨D, 0, none⟩)) rfl (by kernel_rfl) (by kernel_rfl) (by kernel_rfl) (fun _ _ _ h => h) (Or.inl ⟨by rfl, ?_⟩) HBd.down.s1.cell ?_
            · intro W hS
              go_simp
            refine wpAnyH_take (i := 1) (v := .pointer (some ⟨D, 0, none⟩)) rfl (by kernel_rfl) (by kernel_rfl) (by kernel_rfl) (fun _ _ _ h => h) (Or.inl ⟨by rfl, ?_⟩) HBd.down.s1.cell ?_
            · intro W hS
              go_simp
            refine wpAnyH_take (i := 4) (v := .pointer (some ⟨D, 0, none⟩)) rfl (by kernel_rfl) (by kernel_rfl) (by kernel_rfl) (fun _ _ _ h => h) (Or.inl ⟨by rfl, ?_⟩) HBd.down.s1.cell ?_
            · intro W hS
              go_simp
            refine wpAnyH_take (i := 5) (v := .pointer (some ⟨D, 0, none⟩)) rfl (by kernel_rfl) (by kernel_rfl) (by kernel_rfl) (fun _ _ _ h => h) (Or.inl ⟨by rfl, ?_⟩) HBd.down.s1.cell ?_
            · intro W hS
              go_simp
            refine wpAnyH_take (i := 2) (v := .func (.func 32) #[.pointer (some ⟨D, 0, none⟩)] #[]) rfl (by kernel_rfl) (by kernel_rfl) (by kernel_rfl) (fun _ _ _ h => h) (Or.inl ⟨by rfl, ?_⟩) HBd.down.s1.cell ?_
            · intro W hS
              go_simp
            refine wpAnyH_take (i := 6) (v := .func (.func 32) #[.pointer (some ⟨D, 0, none⟩)] #[]) rfl (by kernel_rfl) (by kernel_rfl) (by kernel_rfl) (fun _ _ _ h => h) (Or.inl ⟨by rfl, ?_⟩) HBd.down.s1.cell ?_
            · intro W hS
              go_simp
            refine wpAnyH_ready (rs := [3]) (by kernel_rfl) (by simp) ?_
            refine AllReadyH.cons rfl (fun K hK => ?_) AllReadyH.nil
            go_simp
            go_at_call 31
            refine (kdiffStays D A n c 2 (by omega) _ HBd.down.s1.kit.d).mono ?_
            rintro r W31 ⟨⟨v, rfl, l, hl, hsl, ho⟩, hk⟩
            obtain ⟨Bv, pv, rfl⟩ := own_sliceN ho
            have HB1 : PLift _ := PLift.up (HBd.down.step hlt.down hk)
            have HOv : PLift _ := PLift.up (own_mono ho HBd.down.s1.kit.b.size)
            have HSl : PLift (∀ s ∈ l, s.length ≤ 1000000) := PLift.up (fun s q => by have := hsl s q; omega)
            clear ho hsl
            clear hk
            refine hK.out _ _ HB1.down.s1.cell (fun hH => ?_)
            clear hK K hH
            refine wpAnyH_take (i := 8) (v := .pointer (some ⟨N, 14, none⟩)) rfl (by kernel_rfl) (by kernel_rfl) (by kernel_rfl) (fun _ _ _ h => h) (Or.inl ⟨by rfl, ?_⟩) HB1.down.s1.cell ?_
            · intro W hS
              go_simp
            refine wpAnyH_ready (rs := [7]) (by kernel_rfl) (by simp) ?_
            refine AllReadyH.cons rfl (fun K hK => ?_) AllReadyH.nil
            · go_simp
              go_at_call 31
              refine (kdiffStays D A n c 2 (by omega) _ HB1.down.s1.kit.d).mono ?_
              rintro r W32 ⟨⟨v, rfl, l2, hl2, hsl2, ho⟩, hk⟩
              obtain ⟨Bv2, pv2, rfl⟩ := own_sliceN ho
              have HB2 : PLift _ := PLift.up (HB1.down.step hlt.down hk)
              have HOv2 : PLift _ := PLift.up (own_mono ho HB1.down.s1.kit.b.size)
              have HSl2 : PLift (∀ s ∈ l2, s.length ≤ 1000000) := PLift.up (fun s q => by have := hsl2 s q; omega)
              clear ho hsl2
              have HOva : PLift _ := PLift.up (own_kit HOv.down hlt.down hk.b)
              clear hk HOv
              refine hK.out _ _ HB2.down.s1.cell (fun hH => ?_)
              clear hK K hH
              refine wpAnyH_ready (rs := [9]) (by kernel_rfl) (by simp) ?_
              refine AllReadyH.cons rfl (fun K hK => ?_) AllReadyH.nil
              have qs_14 : (W32).cell? ⟨N, 14, none⟩ = some (u3.cs) := HB2.down.cell 14
              have fs_14 : (W32).frozen? ⟨N, 14, none⟩ = false := HB2.down.free 14
              have HB3 : PLift (EvB D A n c 10 w (W32.setCell ⟨N, 14, none⟩ (.slice Bv l.length pv)) N (EvV.putLl e3 3 l) (EvS.putSl u3 3 (.slice Bv l.length pv))) := PLift.up (HB2.down.putList HD.down 3 (by omega) HOva.down (by omega) HSl.down)
              have HOvb : PLift ((W32.setCell ⟨N, 14, none⟩ (.slice Bv l.length pv)).ownsRow w.heap.size 9 1 (.slice Bv2 l2.length pv2) l2.length (strCells l2).toList) := PLift.up (own_setCell HOv2.down _ _ (own_type HOv2.down HB2.down.row (by decide)))
              go_simp
              refine hK.out _ _ HB3.down.s1.cell (fun hH => ?_)
              clear hK K hH
              refine wpAnyH_take (i := 10) (v := .pointer (some ⟨N, 15, none⟩)) rfl (by kernel_rfl) (by kernel_rfl) (by kernel_rfl) (fun _ _ _ h => h) (Or.inl ⟨by rfl, ?_⟩) HB3.down.s1.cell ?_
              · intro W hS
                go_simp
              refine wpAnyH_ready (rs := [11]) (by kernel_rfl) (by simp) ?_
              refine AllReadyH.cons rfl (fun K hK => ?_) AllReadyH.nil
              have qt_15 : (W32.setCell ⟨N, 14, none⟩ (.slice Bv l.length pv)).cell? ⟨N, 15, none⟩ = some (u3.aa) := HB3.down.cell 15
              have ft_15 : (W32.setCell ⟨N, 14, none⟩ (.slice Bv l.length pv)).frozen? ⟨N, 15, none⟩ = false := HB3.down.free 15
              have HB4 : PLift (EvB D A n c 10 w ((W32.setCell ⟨N, 14, none⟩ (.slice Bv l.length pv)).setCell ⟨N, 15, none⟩ (.slice Bv2 l2.length pv2)) N (EvV.putLl (EvV.putLl e3 3 l) 4 l2) (EvS.putSl (EvS.putSl u3 3 (.slice Bv l.length pv)) 4 (.slice Bv2 l2.length pv2))) := PLift.up (HB3.down.putList HD.down 4 (by omega) HOvb.down (by omega) HSl2.down)
              go_simp
              refine hK.out _ _ HB4.down.s1.cell (fun hH => ?_)
              clear hK K hH
              refine wpAnyH_done (by kernel_rfl) ?_ _
              have cu : ((W32.setCell ⟨N, 14, none⟩ (.slice Bv l.length pv)).setCell ⟨N, 15, none⟩ (.slice Bv2 l2.length pv2)).cell? ⟨w.heap.size, 0, none⟩ = some (.pointer (some ⟨D, 0, none⟩)) := HB4.down.s1.cell
              go_wp2_with fail
              refine (HN.down 4 (by omega) (by omega) _ HB4.down.s1.kit.d).mono ?_
              rintro r W33 ⟨⟨y, rfl, y0, y1⟩, hk⟩
              have HB5 : PLift _ := PLift.up (HB4.down.step hlt.down hk)
              have qv_12 : (W33).cell? ⟨N, 12, none⟩ = some (.int .i64 e3.tol) := HB5.down.cell 12
              have fv_12 : (W33).frozen? ⟨N, 12, none⟩ = false := HB5.down.free 12
              have HB6 : PLift (EvB D A n c 10 w (W33.setCell ⟨N, 12, none⟩ (.int .i64 y)) N { (EvV.putLl (EvV.putLl e3 3 l) 4 l2) with tol := y } (EvS.putSl (EvS.putSl u3 3 (.slice Bv l.length pv)) 4 (.slice Bv2 l2.length pv2))) := PLift.up (HB5.down.put1 HD.down 12 _ rfl rfl rfl (six rfl rfl rfl rfl rfl rfl) rfl)
              clear hk
              go_wp2_with fail
              exact HR.down _ _ ⟨_, _, _, _, _, _, _, _, _, _, _, _, _, by simp only [Act.put, List.setIfInBounds_toArray, List.set_cons_zero, List.set_cons_succ]; rfl, _, _, HB6.down⟩
          | false =>
            go_wp2_with fail
            exact HR.down _ _ ⟨_, _, _, _, _, _, _, _, _, _, _, _, _, by simp only [Act.put, List.setIfInBounds_toArray, List.set_cons_zero, List.set_cons_succ]; rfl, _, _, HBc.down⟩
        · rintro a' W40 ⟨x77, x78, x79, x80, x81, x82, x83, x84, x85, x86, x87, x88, x89, ha, e4, u4, hB⟩
          simp only [Act.put, List.setIfInBounds_toArray, List.set_cons_zero, List.set_cons_succ] at ha
          subst ha
          have HBe : PLift _ := PLift.up hB
          clear hB HBc
          have qw_1 : (W40).cell? ⟨N, 1, none⟩ = some (.int .i64 e4.kind) := HBe.down.cell 1
          have fw_1 : (W40).frozen? ⟨N, 1, none⟩ = false := HBe.down.free 1
          have cw : (W40).cell? ⟨w.heap.size, 0, none⟩ = some (.pointer (some ⟨D, 0, none⟩)) := HBe.down.s1.cell
          by_cases h4 : e4.kind = 4
          · have h4b : (e4.kind == 4) = true := by simpa using h4
            go_wp2_with fail
            refine (HDIG.down _ HBe.down.s1.kit.d).mono ?_
            rintro r W41 ⟨⟨s, rfl, hs⟩, hk⟩
            have HB1 : PLift _ := PLift.up (HBe.down.step hlt.down hk)
            clear hk
            have qx_18 : (W41).cell? ⟨N, 18, none⟩ = some (.string ⟨e4.del.toArray⟩) := HB1.down.cell 18
            have fx_18 : (W41).frozen? ⟨N, 18, none⟩ = false := HB1.down.free 18
            have HBF : PLift (EvB D A n c 10 w (W41.setCell ⟨N, 18, none⟩ (.string ⟨s.toArray⟩)) N { e4 with del := s } u4) := PLift.up (HB1.down.put1 HD.down 18 _ rfl rfl rfl (six rfl rfl rfl rfl rfl rfl) rfl)
            go_wp2_with (first
              | (refine wpList_load_row rfl 35 _ rfl N rfl 35 _ _ _ HBF.down.row Tryz.underlying35 rfl (by kernel_rfl) ?_)
              | (refine wpList_store_row rfl 35 _ _ rfl (w.heap.size + 1) _ rfl rfl 35 _ HBF.down.s1.res (by kernel_rfl) rfl HBF.down.own.one ?_))
            refine bodyPost_ret (results_cell_row rfl _ _ (w.heap.size + 1) _ _ _ _ rfl (setRow_heap _ _ _ _ _ _ HBF.down.s1.res) Tryz.underlying35 rfl (by kernel_rfl)) rfl ?_
            exact HBF.down.ends HD.down
          · have h4b : (e4.kind == 4) = false := by simpa using h4
            have HBF : PLift _ := HBe
            go_wp2_with (first
              | (refine wpList_load_row rfl 35 _ rfl N rfl 35 _ _ _ HBF.down.row Tryz.underlying35 rfl (by kernel_rfl) ?_)
              | (refine wpList_store_row rfl 35 _ _ rfl (w.heap.size + 1) _ rfl rfl 35 _ HBF.down.s1.res (by kernel_rfl) rfl HBF.down.own.one ?_))
            refine bodyPost_ret (results_cell_row rfl _ _ (w.heap.size + 1) _ _ _ _ rfl (setRow_heap _ _ _ _ _ _ HBF.down.s1.res) Tryz.underlying35 rfl (by kernel_rfl)) rfl ?_
            exact HBF.down.ends HD.down
end Go.Proofs.YtkinlobfdkeamaaGreatDoor

