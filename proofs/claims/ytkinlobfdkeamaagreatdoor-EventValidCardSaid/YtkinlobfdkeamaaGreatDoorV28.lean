/- Something of an event is changed. (Printed by gen_odd.py.) -/
import Derived.Test.YtkinlobfdkeamaaGreatDoorV25
namespace Go.Proofs.YtkinlobfdkeamaaGreatDoor
open Go.RowKit

set_option maxHeartbeats 16000000 in
set_option maxRecDepth 100000 in
theorem kodd (D : Nat) (A : Option Addr) (n c m : Nat) (hm : m ≤ 1000) (e : EvV) (u : EvS) (w : World) (hd : Dice D A n c w) (h : Firm D w (fun W => EvM W e u)) (hf : Few m e) :
    Calls Tryz.prog 13 #[.pointer (some ⟨D, 0, none⟩), .agg (evCells e u)] w fun r w' => (∃ e' u', r = .returned (.agg (evCells e' u')) ∧ Firm D w' (fun W => EvM W e' u') ∧ Few (m + 2) e') ∧ KitW D A n c w w' := by
  obtain ⟨C0, hC0⟩ : ∃ V, V = evCells e u := ⟨_, rfl⟩
  have HCP : PLift _ := PLift.up (fun W (hk : KitW D A n c w W) => kcopy D A n c e u W hk.d (h.kit hk.b))
  have HN : PLift _ := PLift.up (fun (k : Int) h1 h2 W hd => next_any D A n c k h1 h2 W hd)
  have HKEY : PLift _ := PLift.up (fun W hd => kkey_any D A n c W hd)
  have HSTA : PLift _ := PLift.up (fun W hd => kstays_any D A n c W hd)
  have HDIG : PLift _ := PLift.up (fun W hd => kdigest_any D A n c W hd)
  have HTHR : PLift _ := PLift.up (fun k hk W hd => kthr_any D A n c k hk W hd)
  have HWRD : PLift _ := PLift.up (fun v l h1 W hd hs => kword_any D A n c v l h1 W hd hs)
  have HD : PLift _ := PLift.up hd
  have HF : PLift _ := PLift.up hf
  have HM : PLift (m ≤ 1000) := PLift.up hm
  have hlt : PLift (D < w.heap.size) := PLift.up hd.lt
  rw [← hC0] at HCP ⊢
  have HSZ : PLift (C0.size = 19) := PLift.up (by rw [hC0]; rfl)
  clear hd h hC0 hf hm
  go_enter Tryz.func13, Tryz.ntmps13
  go_wp2_with (first
    | (refine wpList_load_row rfl 35 _ rfl w.heap.size rfl 35 C0 _ _ (hA2_0 _ _ _) Tryz.underlying35 rfl (by rw [HSZ.down]; kernel_rfl) ?_)
    | (go_at_call 40; refine (HCP.down _ ((KitW.refl HD.down).later (extA2 _ _ _))).mono ?_
       rintro r W2 ⟨⟨u1, rfl, hE, hA⟩, hk2⟩
       have HROW : PLift _ := PLift.up (hk2.b.row (by have := hlt.down; omega) (hA2_0 w (.cells C0 35) (.cells #[.int .i64 0, .int .i64 0, .string ⟨#[]⟩, .string ⟨#[]⟩, .int .i64 0, .string ⟨#[]⟩, .int .i64 0, .slice none 0 0, .slice none 0 0, .int .i64 0, .slice none 0 0, .slice none 0 0, .int .i64 0, .slice none 0 0, .slice none 0 0, .slice none 0 0, .slice none 0 0, .slice none 0 0, .string ⟨#[]⟩] 35)))
       have HZ : PLift (W2.heap[w.heap.size + 1]? = some (.cells zeroEv 35 (0, 0))) := PLift.up (hk2.b.row (by have := hlt.down; omega) (hA2_1 w (.cells C0 35) (.cells #[.int .i64 0, .int .i64 0, .string ⟨#[]⟩, .string ⟨#[]⟩, .int .i64 0, .string ⟨#[]⟩, .int .i64 0, .slice none 0 0, .slice none 0 0, .int .i64 0, .slice none 0 0, .slice none 0 0, .int .i64 0, .slice none 0 0, .slice none 0 0, .slice none 0 0, .slice none 0 0, .slice none 0 0, .string ⟨#[]⟩] 35)))
       have HE : PLift (EvO w.heap.size W2 e u1) := PLift.up (hE.mono (by simp only [size_alloc]; omega))
       have HA : PLift _ := PLift.up hA
       have HK2 : PLift _ := PLift.up (((KitW.refl HD.down).later (extA2 _ _ _)).trans hk2)
       clear hE hA hk2)
    | (refine wpList_store_row rfl 35 _ _ rfl w.heap.size (evCells e u1) rfl rfl 35 C0 HROW.down (by kernel_rfl) HSZ.down HE.down.one ?_))
  have hS3 : OddS D A n c m w (W2.setRow w.heap.size (evCells e u1)) e u1 := ⟨setRow_heap _ _ _ _ _ _ HROW.down, by rw [setRow_other _ _ _ _ (show w.heap.size + 1 ≠ w.heap.size by omega)]; exact HZ.down, HE.down.setRow HROW.down _, HF.down, HK2.down.setRow HD.down (Nat.le_refl _) _⟩
  have HS3 : PLift _ := PLift.up hS3
  clear hS3
  refine (HN.down 16 (by omega) (by omega) _ HS3.down.kit.d).mono ?_
  rintro r W4 ⟨⟨z, rfl, z0, z1⟩, hk4⟩
  have HS : PLift _ := PLift.up (HS3.down.step hlt.down hk4)
  clear hk4
  generalize W2.setRow w.heap.size (evCells e u1) = W3 at HS3
  clear HROW HZ HE HK2 HS3 HCP
  have hz : z = 0 ∨ z = 1 ∨ z = 2 ∨ z = 3 ∨ z = 4 ∨ z = 5 ∨ z = 6 ∨ z = 7 ∨ z = 8 ∨ z = 9 ∨ z = 10 ∨ z = 11 ∨ z = 12 ∨ z = 13 ∨ z = 14 ∨ z = 15 := by omega
  clear z0 z1
  rcases hz with rfl | rfl | rfl | rfl | rfl | rfl | rfl | rfl | rfl | rfl | rfl | rfl | rfl | rfl | rfl | rfl
  · -- case 0
    go_wp2_with fail
    refine (HN.down 6 (by omega) (by omega) _ HS.down.kit.d).mono ?_
    rintro r W5 ⟨⟨y, rfl, y0, y1⟩, hk5⟩
    have HS5 : PLift _ := PLift.up (HS.down.step hlt.down hk5)
    clear hk5
    have q0 : W5.cell? ⟨w.heap.size, 0, none⟩ = some (.int .i64 e.form) := HS5.down.cell 0
    have f0 : W5.frozen? ⟨w.heap.size, 0, none⟩ = false := HS5.down.free 0
    have HSF : PLift (OddS D A n c m w (W5.setCell ⟨w.heap.size, 0, none⟩ (.int .i64 (y - 1))) { e with form := y - 1 } u1) := PLift.up (HS5.down.put1 HD.down 0 _ rfl rfl rfl (six rfl rfl rfl rfl rfl rfl) rfl)
    go_wp2_with (first
      | (refine wpList_load_row rfl 35 _ rfl w.heap.size rfl 35 _ _ _ HSF.down.row Tryz.underlying35 rfl (by kernel_rfl) ?_)
      | (refine wpList_store_row rfl 35 _ _ rfl (w.heap.size + 1) _ rfl rfl 35 _ HSF.down.res (by kernel_rfl) rfl HSF.down.own.one ?_))
    refine bodyPost_ret (results_cell_row rfl _ _ (w.heap.size + 1) _ _ _ _ rfl (setRow_heap _ _ _ _ _ _ HSF.down.res) Tryz.underlying35 rfl (by kernel_rfl)) rfl ?_
    exact HSF.down.ends HD.down (by omega) (by have := HM.down; omega)
  · -- case 1
    go_wp2_with fail
    refine (HN.down 7 (by omega) (by omega) _ HS.down.kit.d).mono ?_
    rintro r W5 ⟨⟨y, rfl, y0, y1⟩, hk5⟩
    have HS5 : PLift _ := PLift.up (HS.down.step hlt.down hk5)
    clear hk5
    have q1 : W5.cell? ⟨w.heap.size, 1, none⟩ = some (.int .i64 e.kind) := HS5.down.cell 1
    have f1 : W5.frozen? ⟨w.heap.size, 1, none⟩ = false := HS5.down.free 1
    have HSF : PLift (OddS D A n c m w (W5.setCell ⟨w.heap.size, 1, none⟩ (.int .i64 y)) { e with kind := y } u1) := PLift.up (HS5.down.put1 HD.down 1 _ rfl rfl rfl (six rfl rfl rfl rfl rfl rfl) rfl)
    go_wp2_with (first
      | (refine wpList_load_row rfl 35 _ rfl w.heap.size rfl 35 _ _ _ HSF.down.row Tryz.underlying35 rfl (by kernel_rfl) ?_)
      | (refine wpList_store_row rfl 35 _ _ rfl (w.heap.size + 1) _ rfl rfl 35 _ HSF.down.res (by kernel_rfl) rfl HSF.down.own.one ?_))
    refine bodyPost_ret (results_cell_row rfl _ _ (w.heap.size + 1) _ _ _ _ rfl (setRow_heap _ _ _ _ _ _ HSF.down.res) Tryz.underlying35 rfl (by kernel_rfl)) rfl ?_
    exact HSF.down.ends HD.down (by omega) (by have := HM.down; omega)
  · -- case 2
    go_wp2_with fail
    refine (HN.down 5 (by omega) (by omega) _ (HS.down.later (ext_alloc _ _)).kit.d).mono ?_
    rintro r W5 ⟨⟨y, rfl, y0, y1⟩, hk5⟩
    have HS5 : PLift _ := PLift.up ((HS.down.later (ext_alloc _ _)).step hlt.down hk5)
    obtain ⟨Y, rfl⟩ := Int.eq_ofNat_of_zero_le y0
    obtain ⟨p, hp⟩ := five_cells (hk5.b.row (by have := hlt.down; have := HS.down.kit.b.size; omega) (hA1_0 _ _)) Y (by omega)
    clear hk5
    have q4 : W5.cell? ⟨w.heap.size, 4, none⟩ = some (.int .i64 e.num) := HS5.down.cell 4
    have f4 : W5.frozen? ⟨w.heap.size, 4, none⟩ = false := HS5.down.free 4
    have HSF : PLift (OddS D A n c m w (W5.setCell ⟨w.heap.size, 4, none⟩ (.int .i64 p)) { e with num := p } u1) := PLift.up (HS5.down.put1 HD.down 4 _ rfl rfl rfl (six rfl rfl rfl rfl rfl rfl) rfl)
    go_wp2_with (first
      | (refine wpList_load_row rfl 35 _ rfl w.heap.size rfl 35 _ _ _ HSF.down.row Tryz.underlying35 rfl (by kernel_rfl) ?_)
      | (refine wpList_store_row rfl 35 _ _ rfl (w.heap.size + 1) _ rfl rfl 35 _ HSF.down.res (by kernel_rfl) rfl HSF.down.own.one ?_))
    refine bodyPost_ret (results_cell_row rfl _ _ (w.heap.size + 1) _ _ _ _ rfl (setRow_heap _ _ _ _ _ _ HSF.down.res) Tryz.underlying35 rfl (by kernel_rfl)) rfl ?_
    exact HSF.down.ends HD.down (by omega) (by have := HM.down; omega)
  · -- case 3
    go_wp2_with fail
    refine (HDIG.down _ HS.down.kit.d).mono ?_
    rintro r W5 ⟨⟨s, rfl, hs⟩, hk5⟩
    have HS5 : PLift _ := PLift.up (HS.down.step hlt.down hk5)
    have HLs : PLift _ := PLift.up hs
    clear hk5 hs
    go_wp2_with fail
    refine (HWRD.down _ [[], [120], s] (by simp) _ (HS5.down.later (ext_alloc _ _)).kit.d (firm_row [[], [120], s] (hA1_0 _ _) (by have := hlt.down; have := HS5.down.kit.b.size; omega) (by simp) (by have := HLs.down; exact (fun x hx => by simp only [List.mem_cons, List.not_mem_nil, or_false] at hx; rcases hx with rfl | rfl | rfl <;> first | omega | (simp; done) | (simp only [List.length_take]; omega))))).mono ?_
    rintro r W6 ⟨⟨x, rfl, _⟩, hk5⟩
    have HS6 : PLift _ := PLift.up ((HS5.down.later (ext_alloc _ _)).step hlt.down hk5)
    clear hk5
    have q3 : W6.cell? ⟨w.heap.size, 3, none⟩ = some (.string ⟨e.pre.toArray⟩) := HS6.down.cell 3
    have f3 : W6.frozen? ⟨w.heap.size, 3, none⟩ = false := HS6.down.free 3
    have HSF : PLift (OddS D A n c m w (W6.setCell ⟨w.heap.size, 3, none⟩ (.string ⟨x.toArray⟩)) { e with pre := x } u1) := PLift.up (HS6.down.put1 HD.down 3 _ rfl rfl rfl (six rfl rfl rfl rfl rfl rfl) rfl)
    go_wp2_with (first
      | (refine wpList_load_row rfl 35 _ rfl w.heap.size rfl 35 _ _ _ HSF.down.row Tryz.underlying35 rfl (by kernel_rfl) ?_)
      | (refine wpList_store_row rfl 35 _ _ rfl (w.heap.size + 1) _ rfl rfl 35 _ HSF.down.res (by kernel_rfl) rfl HSF.down.own.one ?_))
    refine bodyPost_ret (results_cell_row rfl _ _ (w.heap.size + 1) _ _ _ _ rfl (setRow_heap _ _ _ _ _ _ HSF.down.res) Tryz.underlying35 rfl (by kernel_rfl)) rfl ?_
    exact HSF.down.ends HD.down (by omega) (by have := HM.down; omega)
  · -- case 4
    go_wp2_with fail
    refine (HDIG.down _ HS.down.kit.d).mono ?_
    rintro r W5 ⟨⟨s, rfl, hs⟩, hk5⟩
    have HS5 : PLift _ := PLift.up (HS.down.step hlt.down hk5)
    have HLs : PLift _ := PLift.up hs
    clear hk5 hs
    go_wp2_with fail
    refine (HKEY.down _ HS5.down.kit.d).mono ?_
    rintro r W6 ⟨⟨s2, rfl, hs2⟩, hk5⟩
    have HS6 : PLift _ := PLift.up (HS5.down.step hlt.down hk5)
    have HLs2 : PLift _ := PLift.up hs2
    clear hk5 hs2
    go_wp2_with fail
    refine (HWRD.down _ [[], [120], s, s2] (by simp) _ (HS6.down.later (ext_alloc _ _)).kit.d (firm_row [[], [120], s, s2] (hA1_0 _ _) (by have := hlt.down; have := HS6.down.kit.b.size; omega) (by simp) (by have := HLs.down; have := HLs2.down; exact (fun x hx => by simp only [List.mem_cons, List.not_mem_nil, or_false] at hx; rcases hx with rfl | rfl | rfl | rfl <;> first | omega | (simp; done) | (simp only [List.length_take]; omega))))).mono ?_
    rintro r W7 ⟨⟨x, rfl, _⟩, hk5⟩
    have HS7 : PLift _ := PLift.up ((HS6.down.later (ext_alloc _ _)).step hlt.down hk5)
    clear hk5
    have q5 : W7.cell? ⟨w.heap.size, 5, none⟩ = some (.string ⟨e.prior.toArray⟩) := HS7.down.cell 5
    have f5 : W7.frozen? ⟨w.heap.size, 5, none⟩ = false := HS7.down.free 5
    have HSF : PLift (OddS D A n c m w (W7.setCell ⟨w.heap.size, 5, none⟩ (.string ⟨x.toArray⟩)) { e with prior := x } u1) := PLift.up (HS7.down.put1 HD.down 5 _ rfl rfl rfl (six rfl rfl rfl rfl rfl rfl) rfl)
    go_wp2_with (first
      | (refine wpList_load_row rfl 35 _ rfl w.heap.size rfl 35 _ _ _ HSF.down.row Tryz.underlying35 rfl (by kernel_rfl) ?_)
      | (refine wpList_store_row rfl 35 _ _ rfl (w.heap.size + 1) _ rfl rfl 35 _ HSF.down.res (by kernel_rfl) rfl HSF.down.own.one ?_))
    refine bodyPost_ret (results_cell_row rfl _ _ (w.heap.size + 1) _ _ _ _ rfl (setRow_heap _ _ _ _ _ _ HSF.down.res) Tryz.underlying35 rfl (by kernel_rfl)) rfl ?_
    exact HSF.down.ends HD.down (by omega) (by have := HM.down; omega)
  · -- case 5
    have HSd : PLift (OddS D A n c m w W4.drew e u1) := PLift.up (HS.down.later ((Below.refl _ _).drew))
    obtain ⟨B1, c1, e1⟩ := HS.down.slice 0 (by omega)
    have HE1 : PLift _ := PLift.up e1
    have d0 : W4.drew.cell? ⟨w.heap.size, 8, none⟩ = some (.slice B1 (e.ll 0).length c1) := ((HSd.down.cell 8).trans (evCells_sl e u1 0 (by omega))).trans (congrArg some e1)
    have HLEN : PLift ((e.ll 0).length ≤ 1000) := PLift.up (by have := (HS.down.few.ll 0 (by omega)).1; have := HM.down; omega)
    clear e1
    go_wp2_with fail
    refine cutX (fun a a' w' => ∃ x48 x49 x50 x51 x52 x53 x54 : Value, a' = (((((((a.put (some 48) x48).put (some 49) x49).put (some 50) x50).put (some 51) x51).put (some 52) x52).put (some 53) x53).put (some 54) x54) ∧ ∃ e' u', OddS D A n c (m + 2) w w' e' u') ?_ ?_
    · intro R HR
      go_region_law (first
      | (go_simp; go_at_call 34; refine (HKEY.down _ HSd.down.kit.d).mono ?_
         rintro r W5 ⟨⟨s, rfl, hs⟩, hk5⟩
         have HS5 : PLift _ := PLift.up (HSd.down.step hlt.down hk5)
         have HLs : PLift _ := PLift.up hs
         have dW5 : W5.cell? ⟨w.heap.size, 8, none⟩ = some (.slice B1 (e.ll 0).length c1) := ((HS5.down.cell 8).trans (evCells_sl e u1 0 (by omega))).trans (congrArg some HE1.down)
         have aW5 : ∀ o, (W5.alloc o).cell? ⟨w.heap.size, 8, none⟩ = some (.slice B1 (e.ll 0).length c1) := fun o => cellLater (ext_alloc _ _) dW5
         clear hk5 hs)
      | (refine step_kapp HD.down (HS5.down.later (ext_alloc _ _)).kit 32 9 (.string ⟨#[]⟩) 1 16 Tryz.underlying32 kStr rfl (by decide) (by decide) rfl _ _ rfl (.slice B1 (e.ll 0).length c1) (e.ll 0).length (strCells (e.ll 0)).toList rfl (by rw [← HE1.down]; exact (HS5.down.later (ext_alloc _ _)).own.own 0 (by omega)) (some ⟨W5.heap.size, 0, none⟩) 1 1 (strCells [s]).toList rfl rfl (fun j u hu => ⟨_, rfl, by rw [add0, cell_of_row _ _ j _ _ _ (hA1_0 _ _)]; simpa [strCells] using hu⟩) (by simp) (strCells_one _) (by have := HLEN.down; omega) ?_
         intro v2 W9 ho hk9 hg9
         obtain ⟨A2, m2, c2, rfl⟩ := own_slice ho
         have hg9' := hg9
         rw [← HE1.down] at hg9'
         have HSF : PLift (OddS D A n c (m + 2) w (W9.setCell ⟨w.heap.size, 8, none⟩ (.slice A2 m2 c2)) (e.putLl 0 (e.ll 0 ++ [s])) (u1.putSl 0 (.slice A2 m2 c2))) := PLift.up ((HS5.down.later (ext_alloc _ _)).grow HD.down HA.down (i := 0) (by omega) (news := [s]) ho hk9 hg9' (by simp) (by have := HLs.down; exact (fun x hx => by simp only [List.mem_cons, List.not_mem_nil, or_false] at hx; rcases hx with rfl <;> first | omega | (simp; done) | (simp only [List.length_take]; omega))))
         have hrow9 := (HS5.down.later (ext_alloc _ _)).rowAt (i := 0) (by omega) hg9'
         have q9 : W9.cell? ⟨w.heap.size, 8, none⟩ = some (.slice B1 (e.ll 0).length c1) := ((cell_of_row _ _ 8 _ _ _ hrow9).trans (evCells_sl e u1 0 (by omega))).trans (congrArg some HE1.down)
         have f9 : W9.frozen? ⟨w.heap.size, 8, none⟩ = false := frozen_of_row hrow9
         clear ho hk9 hg9 hg9' hrow9))
      all_goals exact HR.down _ _ ⟨_, _, _, _, _, _, _, by simp only [Act.put, List.setIfInBounds_toArray, List.set_cons_zero, List.set_cons_succ]; rfl, _, _, HSF.down⟩
    · rintro a' W10 ⟨x48, x49, x50, x51, x52, x53, x54, ha, eF, uF, hSF⟩
      simp only [Act.put, List.setIfInBounds_toArray, List.set_cons_zero, List.set_cons_succ] at ha
      subst ha
      have HSF : PLift _ := PLift.up hSF
      clear hSF
      go_wp2_with (first
        | (refine wpList_load_row rfl 35 _ rfl w.heap.size rfl 35 _ _ _ HSF.down.row Tryz.underlying35 rfl (by kernel_rfl) ?_)
        | (refine wpList_store_row rfl 35 _ _ rfl (w.heap.size + 1) _ rfl rfl 35 _ HSF.down.res (by kernel_rfl) rfl HSF.down.own.one ?_))
      refine bodyPost_ret (results_cell_row rfl _ _ (w.heap.size + 1) _ _ _ _ rfl (setRow_heap _ _ _ _ _ _ HSF.down.res) Tryz.underlying35 rfl (by kernel_rfl)) rfl ?_
      exact HSF.down.ends HD.down (by omega) (by have := HM.down; omega)
  · -- case 6
    have HSd : PLift (OddS D A n c m w W4.drew e u1) := PLift.up (HS.down.later ((Below.refl _ _).drew))
    obtain ⟨B1, c1, e1⟩ := HS.down.slice 0 (by omega)
    have HE1 : PLift _ := PLift.up e1
    have d0 : W4.drew.cell? ⟨w.heap.size, 8, none⟩ = some (.slice B1 (e.ll 0).length c1) := ((HSd.down.cell 8).trans (evCells_sl e u1 0 (by omega))).trans (congrArg some e1)
    have HLEN : PLift ((e.ll 0).length ≤ 1000) := PLift.up (by have := (HS.down.few.ll 0 (by omega)).1; have := HM.down; omega)
    clear e1
    go_wp2_with fail
    refine cutX (fun a a' w' => ∃ x57 x58 x59 x60 x61 x62 x63 : Value, a' = (((((((a.put (some 57) x57).put (some 58) x58).put (some 59) x59).put (some 60) x60).put (some 61) x61).put (some 62) x62).put (some 63) x63) ∧ ∃ e' u', OddS D A n c (m + 2) w w' e' u') ?_ ?_
    · intro R HR
      go_region_law (first
      | (go_simp; go_at_call 32; refine (HSTA.down _ HSd.down.kit.d).mono ?_
         rintro r W5 ⟨⟨s, rfl, hs⟩, hk5⟩
         have HS5 : PLift _ := PLift.up (HSd.down.step hlt.down hk5)
         have HLs : PLift _ := PLift.up hs
         have dW5 : W5.cell? ⟨w.heap.size, 8, none⟩ = some (.slice B1 (e.ll 0).length c1) := ((HS5.down.cell 8).trans (evCells_sl e u1 0 (by omega))).trans (congrArg some HE1.down)
         have aW5 : ∀ o, (W5.alloc o).cell? ⟨w.heap.size, 8, none⟩ = some (.slice B1 (e.ll 0).length c1) := fun o => cellLater (ext_alloc _ _) dW5
         clear hk5 hs)
      | (refine step_kapp HD.down (HS5.down.later (ext_alloc _ _)).kit 32 9 (.string ⟨#[]⟩) 1 16 Tryz.underlying32 kStr rfl (by decide) (by decide) rfl _ _ rfl (.slice B1 (e.ll 0).length c1) (e.ll 0).length (strCells (e.ll 0)).toList rfl (by rw [← HE1.down]; exact (HS5.down.later (ext_alloc _ _)).own.own 0 (by omega)) (some ⟨W5.heap.size, 0, none⟩) 1 1 (strCells [s]).toList rfl rfl (fun j u hu => ⟨_, rfl, by rw [add0, cell_of_row _ _ j _ _ _ (hA1_0 _ _)]; simpa [strCells] using hu⟩) (by simp) (strCells_one _) (by have := HLEN.down; omega) ?_
         intro v2 W9 ho hk9 hg9
         obtain ⟨A2, m2, c2, rfl⟩ := own_slice ho
         have hg9' := hg9
         rw [← HE1.down] at hg9'
         have HSF : PLift (OddS D A n c (m + 2) w (W9.setCell ⟨w.heap.size, 8, none⟩ (.slice A2 m2 c2)) (e.putLl 0 (e.ll 0 ++ [s])) (u1.putSl 0 (.slice A2 m2 c2))) := PLift.up ((HS5.down.later (ext_alloc _ _)).grow HD.down HA.down (i := 0) (by omega) (news := [s]) ho hk9 hg9' (by simp) (by have := HLs.down; exact (fun x hx => by simp only [List.mem_cons, List.not_mem_nil, or_false] at hx; rcases hx with rfl <;> first | omega | (simp; done) | (simp only [List.length_take]; omega))))
         have hrow9 := (HS5.down.later (ext_alloc _ _)).rowAt (i := 0) (by omega) hg9'
         have q9 : W9.cell? ⟨w.heap.size, 8, none⟩ = some (.slice B1 (e.ll 0).length c1) := ((cell_of_row _ _ 8 _ _ _ hrow9).trans (evCells_sl e u1 0 (by omega))).trans (congrArg some HE1.down)
         have f9 : W9.frozen? ⟨w.heap.size, 8, none⟩ = false := frozen_of_row hrow9
         clear ho hk9 hg9 hg9' hrow9))
      all_goals exact HR.down _ _ ⟨_, _, _, _, _, _, _, by simp only [Act.put, List.setIfInBounds_toArray, List.set_cons_zero, List.set_cons_succ]; rfl, _, _, HSF.down⟩
    · rintro a' W10 ⟨x57, x58, x59, x60, x61, x62, x63, ha, eF, uF, hSF⟩
      simp only [Act.put, List.setIfInBounds_toArray, List.set_cons_zero, List.set_cons_succ] at ha
      subst ha
      have HSF : PLift _ := PLift.up hSF
      clear hSF
      go_wp2_with (first
        | (refine wpList_load_row rfl 35 _ rfl w.heap.size rfl 35 _ _ _ HSF.down.row Tryz.underlying35 rfl (by kernel_rfl) ?_)
        | (refine wpList_store_row rfl 35 _ _ rfl (w.heap.size + 1) _ rfl rfl 35 _ HSF.down.res (by kernel_rfl) rfl HSF.down.own.one ?_))
      refine bodyPost_ret (results_cell_row rfl _ _ (w.heap.size + 1) _ _ _ _ rfl (setRow_heap _ _ _ _ _ _ HSF.down.res) Tryz.underlying35 rfl (by kernel_rfl)) rfl ?_
      exact HSF.down.ends HD.down (by omega) (by have := HM.down; omega)
  · -- case 7
    go_wp2_with fail
    refine (HN.down 4 (by omega) (by omega) _ HS.down.kit.d).mono ?_
    rintro r W5 ⟨⟨y, rfl, y0, y1⟩, hk5⟩
    have HS5 : PLift _ := PLift.up (HS.down.step hlt.down hk5)
    clear hk5
    obtain ⟨Y, rfl⟩ := Int.eq_ofNat_of_zero_le y0
    go_wp2_with fail
    refine (HTHR.down Y (by omega) _ HS5.down.kit.d).mono ?_
    rintro r W6 ⟨⟨v, t, rfl, hv⟩, hk6⟩
    obtain ⟨B1, c1, rfl⟩ : ∃ B cp, v = .slice B t.ws.length cp := by obtain ⟨_, ⟨B, cp, q, _⟩, _⟩ := hv.now; exact ⟨B, cp, q⟩
    have HS6 : PLift _ := PLift.up (HS5.down.step hlt.down hk6)
    have hv2 := hv.mono HS5.down.kit.b.size
    have HSF : PLift (OddS D A n c m w ((W6.setCell ⟨w.heap.size, 6, none⟩ (.int .i64 t.num)).setCell ⟨w.heap.size, 7, none⟩ (.slice B1 t.ws.length c1)) { e with thr := t } { u1 with tw := .slice B1 t.ws.length c1 }) := PLift.up (HS6.down.putThr HD.down hv2)
    have q6 : W6.cell? ⟨w.heap.size, 6, none⟩ = some (.int .i64 e.thr.num) := HS6.down.cell 6
    have f6 : W6.frozen? ⟨w.heap.size, 6, none⟩ = false := HS6.down.free 6
    have q7 : (W6.setCell ⟨w.heap.size, 6, none⟩ (.int .i64 t.num)).cell? ⟨w.heap.size, 7, none⟩ = some u1.tw := cell_of_row _ _ 7 _ _ _ (heap_setCell_same _ _ _ _ _ _ HS6.down.row)
    have f7 : (W6.setCell ⟨w.heap.size, 6, none⟩ (.int .i64 t.num)).frozen? ⟨w.heap.size, 7, none⟩ = false := frozen_of_row (heap_setCell_same _ _ _ _ _ _ HS6.down.row)
    clear hv hv2 hk6
    go_wp2_with (first
      | (refine wpList_load_row rfl 35 _ rfl w.heap.size rfl 35 _ _ _ HSF.down.row Tryz.underlying35 rfl (by kernel_rfl) ?_)
      | (refine wpList_store_row rfl 35 _ _ rfl (w.heap.size + 1) _ rfl rfl 35 _ HSF.down.res (by kernel_rfl) rfl HSF.down.own.one ?_))
    refine bodyPost_ret (results_cell_row rfl _ _ (w.heap.size + 1) _ _ _ _ rfl (setRow_heap _ _ _ _ _ _ HSF.down.res) Tryz.underlying35 rfl (by kernel_rfl)) rfl ?_
    exact HSF.down.ends HD.down (by omega) (by have := HM.down; omega)
  · -- case 8
    have HSd : PLift (OddS D A n c m w W4.drew e u1) := PLift.up (HS.down.later ((Below.refl _ _).drew))
    obtain ⟨B1, c1, e1⟩ := HS.down.slice 1 (by omega)
    have HE1 : PLift _ := PLift.up e1
    have d0 : W4.drew.cell? ⟨w.heap.size, 11, none⟩ = some (.slice B1 (e.ll 1).length c1) := ((HSd.down.cell 11).trans (evCells_sl e u1 1 (by omega))).trans (congrArg some e1)
    have HLEN : PLift ((e.ll 1).length ≤ 1000) := PLift.up (by have := (HS.down.few.ll 1 (by omega)).1; have := HM.down; omega)
    clear e1
    go_wp2_with fail
    refine cutX (fun a a' w' => ∃ x73 x74 x75 x76 x77 x78 x79 : Value, a' = (((((((a.put (some 73) x73).put (some 74) x74).put (some 75) x75).put (some 76) x76).put (some 77) x77).put (some 78) x78).put (some 79) x79) ∧ ∃ e' u', OddS D A n c (m + 2) w w' e' u') ?_ ?_
    · intro R HR
      go_region_law (first
      | (go_simp; go_at_call 28; refine (HDIG.down _ HSd.down.kit.d).mono ?_
         rintro r W5 ⟨⟨s, rfl, hs⟩, hk5⟩
         have HS5 : PLift _ := PLift.up (HSd.down.step hlt.down hk5)
         have HLs : PLift _ := PLift.up hs
         have dW5 : W5.cell? ⟨w.heap.size, 11, none⟩ = some (.slice B1 (e.ll 1).length c1) := ((HS5.down.cell 11).trans (evCells_sl e u1 1 (by omega))).trans (congrArg some HE1.down)
         have aW5 : ∀ o, (W5.alloc o).cell? ⟨w.heap.size, 11, none⟩ = some (.slice B1 (e.ll 1).length c1) := fun o => cellLater (ext_alloc _ _) dW5
         clear hk5 hs)
      | (refine step_kapp HD.down (HS5.down.later (ext_alloc _ _)).kit 32 9 (.string ⟨#[]⟩) 1 16 Tryz.underlying32 kStr rfl (by decide) (by decide) rfl _ _ rfl (.slice B1 (e.ll 1).length c1) (e.ll 1).length (strCells (e.ll 1)).toList rfl (by rw [← HE1.down]; exact (HS5.down.later (ext_alloc _ _)).own.own 1 (by omega)) (some ⟨W5.heap.size, 0, none⟩) 1 1 (strCells [s]).toList rfl rfl (fun j u hu => ⟨_, rfl, by rw [add0, cell_of_row _ _ j _ _ _ (hA1_0 _ _)]; simpa [strCells] using hu⟩) (by simp) (strCells_one _) (by have := HLEN.down; omega) ?_
         intro v2 W9 ho hk9 hg9
         obtain ⟨A2, m2, c2, rfl⟩ := own_slice ho
         have hg9' := hg9
         rw [← HE1.down] at hg9'
         have HSF : PLift (OddS D A n c (m + 2) w (W9.setCell ⟨w.heap.size, 11, none⟩ (.slice A2 m2 c2)) (e.putLl 1 (e.ll 1 ++ [s])) (u1.putSl 1 (.slice A2 m2 c2))) := PLift.up ((HS5.down.later (ext_alloc _ _)).grow HD.down HA.down (i := 1) (by omega) (news := [s]) ho hk9 hg9' (by simp) (by have := HLs.down; exact (fun x hx => by simp only [List.mem_cons, List.not_mem_nil, or_false] at hx; rcases hx with rfl <;> first | omega | (simp; done) | (simp only [List.length_take]; omega))))
         have hrow9 := (HS5.down.later (ext_alloc _ _)).rowAt (i := 1) (by omega) hg9'
         have q9 : W9.cell? ⟨w.heap.size, 11, none⟩ = some (.slice B1 (e.ll 1).length c1) := ((cell_of_row _ _ 11 _ _ _ hrow9).trans (evCells_sl e u1 1 (by omega))).trans (congrArg some HE1.down)
         have f9 : W9.frozen? ⟨w.heap.size, 11, none⟩ = false := frozen_of_row hrow9
         clear ho hk9 hg9 hg9' hrow9))
      all_goals exact HR.down _ _ ⟨_, _, _, _, _, _, _, by simp only [Act.put, List.setIfInBounds_toArray, List.set_cons_zero, List.set_cons_succ]; rfl, _, _, HSF.down⟩
    · rintro a' W10 ⟨x73, x74, x75, x76, x77, x78, x79, ha, eF, uF, hSF⟩
      simp only [Act.put, List.setIfInBounds_toArray, List.set_cons_zero, List.set_cons_succ] at ha
      subst ha
      have HSF : PLift _ := PLift.up hSF
      clear hSF
      go_wp2_with (first
        | (refine wpList_load_row rfl 35 _ rfl w.heap.size rfl 35 _ _ _ HSF.down.row Tryz.underlying35 rfl (by kernel_rfl) ?_)
        | (refine wpList_store_row rfl 35 _ _ rfl (w.heap.size + 1) _ rfl rfl 35 _ HSF.down.res (by kernel_rfl) rfl HSF.down.own.one ?_))
      refine bodyPost_ret (results_cell_row rfl _ _ (w.heap.size + 1) _ _ _ _ rfl (setRow_heap _ _ _ _ _ _ HSF.down.res) Tryz.underlying35 rfl (by kernel_rfl)) rfl ?_
      exact HSF.down.ends HD.down (by omega) (by have := HM.down; omega)
  · -- case 9
    have HSd : PLift (OddS D A n c m w W4.drew e u1) := PLift.up (HS.down.later ((Below.refl _ _).drew))
    obtain ⟨B0, c0, e0⟩ := HS.down.slice 0 (by omega)
    have g0 : W4.cell? ⟨w.heap.size, 8, none⟩ = some (.slice B0 (e.ll 0).length c0) := ((HS.down.cell 8).trans (evCells_sl e u1 0 (by omega))).trans (congrArg some e0)
    have hst : Strs W4 (.slice B0 (e.ll 0).length c0) (e.ll 0) := by rw [← e0]; exact strs_own _ (HS.down.own.own 0 (by omega)) (by have := (HS.down.few.ll 0 (by omega)).1; have := HM.down; omega) (HS.down.few.ll 0 (by omega)).2
    have HST : PLift _ := PLift.up hst
    have HE0 : PLift _ := PLift.up e0
    clear hst e0
    by_cases hl : (e.ll 0).length = 0
    · have k0 : ¬ ((0 : Int) < ((e.ll 0).length : Int)) := by omega
      have HSF : PLift _ := HS
      go_wp2_with (first
        | (refine wpList_load_row rfl 35 _ rfl w.heap.size rfl 35 _ _ _ HSF.down.row Tryz.underlying35 rfl (by kernel_rfl) ?_)
        | (refine wpList_store_row rfl 35 _ _ rfl (w.heap.size + 1) _ rfl rfl 35 _ HSF.down.res (by kernel_rfl) rfl HSF.down.own.one ?_))
      refine bodyPost_ret (results_cell_row rfl _ _ (w.heap.size + 1) _ _ _ _ rfl (setRow_heap _ _ _ _ _ _ HSF.down.res) Tryz.underlying35 rfl (by kernel_rfl)) rfl ?_
      exact HSF.down.ends HD.down (by omega) (by have := HM.down; omega)
    · have k0 : (0 : Int) < ((e.ll 0).length : Int) := by omega
      obtain ⟨B1, c1, e1⟩ := HS.down.slice 1 (by omega)
      have HE1 : PLift _ := PLift.up e1
      have d0 : W4.drew.cell? ⟨w.heap.size, 11, none⟩ = some (.slice B1 (e.ll 1).length c1) := ((HSd.down.cell 11).trans (evCells_sl e u1 1 (by omega))).trans (congrArg some e1)
      have HLEN : PLift ((e.ll 1).length ≤ 1000) := PLift.up (by have := (HS.down.few.ll 1 (by omega)).1; have := HM.down; omega)
      clear e1
      obtain ⟨⟨B0', c0', he0, hc0, hel0⟩, _, hsh0⟩ := HST.down
      cases he0
      obtain ⟨ad, rfl, hcell0⟩ := hel0 0 (by omega)
      have hs0 : ((e.ll 0).getD 0 []).length ≤ 1000000 := hsh0 _ (getD_mem (by omega))
      have HL0 : PLift _ := PLift.up hs0
      generalize (e.ll 0).getD 0 [] = s0 at hcell0 HL0
      clear hel0 hsh0 hc0 hs0
      have g1 : W4.drew.cell? ⟨w.heap.size, 8, none⟩ = some (.slice (some ad) (e.ll 0).length c0) := g0
      have hcd : W4.drew.cell? (ad.add 0) = some (.string ⟨s0.toArray⟩) := hcell0
      have hcd2 : W4.drew.cell? ad = some (.string ⟨s0.toArray⟩) := by rw [show ad.add 0 = ad from by simp [Addr.add]] at hcell0; exact hcell0
      have HDG : PLift _ := PLift.up (r10_digest s0 (by have := HL0.down; omega) W4.drew)
      go_wp2_with fail
      go_region_law (first
        | (go_simp; go_at_call 41; refine HDG.down.mono ?_
           rintro r W5 ⟨rfl, b5⟩
           have HS5 : PLift _ := PLift.up (HSd.down.later b5)
           have HLs : PLift _ := PLift.up (digP_len s0)
           have dW5 : W5.cell? ⟨w.heap.size, 11, none⟩ = some (.slice B1 (e.ll 1).length c1) := ((HS5.down.cell 11).trans (evCells_sl e u1 1 (by omega))).trans (congrArg some HE1.down)
           have aW5 : ∀ o, (W5.alloc o).cell? ⟨w.heap.size, 11, none⟩ = some (.slice B1 (e.ll 1).length c1) := fun o => cellLater (ext_alloc _ _) dW5
           clear b5)
        | (refine step_kapp HD.down (HS5.down.later (ext_alloc _ _)).kit 32 9 (.string ⟨#[]⟩) 1 16 Tryz.underlying32 kStr rfl (by decide) (by decide) rfl _ _ rfl (.slice B1 (e.ll 1).length c1) (e.ll 1).length (strCells (e.ll 1)).toList rfl (by rw [← HE1.down]; exact (HS5.down.later (ext_alloc _ _)).own.own 1 (by omega)) (some ⟨W5.heap.size, 0, none⟩) 1 1 (strCells [digP s0]).toList rfl rfl (fun j u hu => ⟨_, rfl, by rw [add0, cell_of_row _ _ j _ _ _ (hA1_0 _ _)]; simpa [strCells] using hu⟩) (by simp) (strCells_one _) (by have := HLEN.down; omega) ?_
           intro v2 W9 ho hk9 hg9
           obtain ⟨A2, m2, c2, rfl⟩ := own_slice ho
           have hg9' := hg9
           rw [← HE1.down] at hg9'
           have HSF : PLift (OddS D A n c (m + 2) w (W9.setCell ⟨w.heap.size, 11, none⟩ (.slice A2 m2 c2)) (e.putLl 1 (e.ll 1 ++ [digP s0])) (u1.putSl 1 (.slice A2 m2 c2))) := PLift.up ((HS5.down.later (ext_alloc _ _)).grow HD.down HA.down (i := 1) (by omega) (news := [digP s0]) ho hk9 hg9' (by simp) (by have := HLs.down; exact (fun x hx => by simp only [List.mem_cons, List.not_mem_nil, or_false] at hx; rcases hx with rfl <;> first | omega | (simp; done) | (simp only [List.length_take]; omega))))
           have hrow9 := (HS5.down.later (ext_alloc _ _)).rowAt (i := 1) (by omega) hg9'
           have q9 : W9.cell? ⟨w.heap.size, 11, none⟩ = some (.slice B1 (e.ll 1).length c1) := ((cell_of_row _ _ 11 _ _ _ hrow9).trans (evCells_sl e u1 1 (by omega))).trans (congrArg some HE1.down)
           have f9 : W9.frozen? ⟨w.heap.size, 11, none⟩ = false := frozen_of_row hrow9
           clear ho hk9 hg9 hg9' hrow9))
      all_goals
        have HSG : PLift _ := HSF
        clear HSF
        have HSF : PLift (OddS D A n c (m + 2) w (((W9.setCell ⟨w.heap.size, 11, none⟩ (.slice A2 m2 c2)).setCell ⟨w.heap.size, 9, none⟩ (.int .i64 1)).setCell ⟨w.heap.size, 10, none⟩ (.slice none 0 0)) { e.putLl 1 (e.ll 1 ++ [digP s0]) with nthr := ⟨1, []⟩ } { u1.putSl 1 (.slice A2 m2 c2) with nw := .slice none 0 0 }) := PLift.up (HSG.down.putNthr HD.down (t := ⟨1, []⟩) (fun W _ => Fracss.nil W))
        have r9 : (W9.setCell ⟨w.heap.size, 11, none⟩ (.slice A2 m2 c2)).cell? ⟨w.heap.size, 9, none⟩ = some (.int .i64 e.nthr.num) := HSG.down.cell 9
        have t9 : (W9.setCell ⟨w.heap.size, 11, none⟩ (.slice A2 m2 c2)).frozen? ⟨w.heap.size, 9, none⟩ = false := HSG.down.free 9
        have r10 : ((W9.setCell ⟨w.heap.size, 11, none⟩ (.slice A2 m2 c2)).setCell ⟨w.heap.size, 9, none⟩ (.int .i64 1)).cell? ⟨w.heap.size, 10, none⟩ = some u1.nw := cell_of_row _ _ 10 _ _ _ (heap_setCell_same _ _ _ _ _ _ HSG.down.row)
        have t10 : ((W9.setCell ⟨w.heap.size, 11, none⟩ (.slice A2 m2 c2)).setCell ⟨w.heap.size, 9, none⟩ (.int .i64 1)).frozen? ⟨w.heap.size, 10, none⟩ = false := frozen_of_row (heap_setCell_same _ _ _ _ _ _ HSG.down.row)
        go_wp2_with (first
          | (refine wpList_load_row rfl 35 _ rfl w.heap.size rfl 35 _ _ _ HSF.down.row Tryz.underlying35 rfl (by kernel_rfl) ?_)
          | (refine wpList_store_row rfl 35 _ _ rfl (w.heap.size + 1) _ rfl rfl 35 _ HSF.down.res (by kernel_rfl) rfl HSF.down.own.one ?_))
        refine bodyPost_ret (results_cell_row rfl _ _ (w.heap.size + 1) _ _ _ _ rfl (setRow_heap _ _ _ _ _ _ HSF.down.res) Tryz.underlying35 rfl (by kernel_rfl)) rfl ?_
        exact HSF.down.ends HD.down (by omega) (by have := HM.down; omega)
  · -- case 10
    go_wp2_with fail
    refine (HN.down 11 (by omega) (by omega) _ HS.down.kit.d).mono ?_
    rintro r W5 ⟨⟨y, rfl, y0, y1⟩, hk5⟩
    have HS5 : PLift _ := PLift.up (HS.down.step hlt.down hk5)
    clear hk5
    have q12 : W5.cell? ⟨w.heap.size, 12, none⟩ = some (.int .i64 e.tol) := HS5.down.cell 12
    have f12 : W5.frozen? ⟨w.heap.size, 12, none⟩ = false := HS5.down.free 12
    have HSF : PLift (OddS D A n c m w (W5.setCell ⟨w.heap.size, 12, none⟩ (.int .i64 (y - 1))) { e with tol := y - 1 } u1) := PLift.up (HS5.down.put1 HD.down 12 _ rfl rfl rfl (six rfl rfl rfl rfl rfl rfl) rfl)
    go_wp2_with (first
      | (refine wpList_load_row rfl 35 _ rfl w.heap.size rfl 35 _ _ _ HSF.down.row Tryz.underlying35 rfl (by kernel_rfl) ?_)
      | (refine wpList_store_row rfl 35 _ _ rfl (w.heap.size + 1) _ rfl rfl 35 _ HSF.down.res (by kernel_rfl) rfl HSF.down.own.one ?_))
    refine bodyPost_ret (results_cell_row rfl _ _ (w.heap.size + 1) _ _ _ _ rfl (setRow_heap _ _ _ _ _ _ HSF.down.res) Tryz.underlying35 rfl (by kernel_rfl)) rfl ?_
    exact HSF.down.ends HD.down (by omega) (by have := HM.down; omega)
  · -- case 11
    have HSd : PLift (OddS D A n c m w W4.drew e u1) := PLift.up (HS.down.later ((Below.refl _ _).drew))
    obtain ⟨B1, c1, e1⟩ := HS.down.slice 2 (by omega)
    have HE1 : PLift _ := PLift.up e1
    have d0 : W4.drew.cell? ⟨w.heap.size, 13, none⟩ = some (.slice B1 (e.ll 2).length c1) := ((HSd.down.cell 13).trans (evCells_sl e u1 2 (by omega))).trans (congrArg some e1)
    have HLEN : PLift ((e.ll 2).length ≤ 1000) := PLift.up (by have := (HS.down.few.ll 2 (by omega)).1; have := HM.down; omega)
    clear e1
    go_wp2_with fail
    refine cutX (fun a a' w' => ∃ x106 x107 x108 x109 x110 x111 x112 x113 x114 x115 x116 x117 x118 : Value, a' = (((((((((((((a.put (some 106) x106).put (some 107) x107).put (some 108) x108).put (some 109) x109).put (some 110) x110).put (some 111) x111).put (some 112) x112).put (some 113) x113).put (some 114) x114).put (some 115) x115).put (some 116) x116).put (some 117) x117).put (some 118) x118) ∧ ∃ e' u', OddS D A n c (m + 2) w w' e' u') ?_ ?_
    · intro R HR
      go_region_law (first
      | (go_simp; go_at_call 32; refine (HSTA.down _ HSd.down.kit.d).mono ?_
         rintro r W5 ⟨⟨s, rfl, hs⟩, hk5⟩
         have HS5 : PLift _ := PLift.up (HSd.down.step hlt.down hk5)
         have HLs : PLift _ := PLift.up hs
         have dW5 : W5.cell? ⟨w.heap.size, 13, none⟩ = some (.slice B1 (e.ll 2).length c1) := ((HS5.down.cell 13).trans (evCells_sl e u1 2 (by omega))).trans (congrArg some HE1.down)
         have aW5 : ∀ o, (W5.alloc o).cell? ⟨w.heap.size, 13, none⟩ = some (.slice B1 (e.ll 2).length c1) := fun o => cellLater (ext_alloc _ _) dW5
         clear hk5 hs)
      | (go_simp; go_at_call 34; refine (HKEY.down _ HS5.down.kit.d).mono ?_
         rintro r W6 ⟨⟨s2, rfl, hs2⟩, hk5⟩
         have HS6 : PLift _ := PLift.up (HS5.down.step hlt.down hk5)
         have HLs2 : PLift _ := PLift.up hs2
         have dW6 : W6.cell? ⟨w.heap.size, 13, none⟩ = some (.slice B1 (e.ll 2).length c1) := ((HS6.down.cell 13).trans (evCells_sl e u1 2 (by omega))).trans (congrArg some HE1.down)
         have aW6 : ∀ o, (W6.alloc o).cell? ⟨w.heap.size, 13, none⟩ = some (.slice B1 (e.ll 2).length c1) := fun o => cellLater (ext_alloc _ _) dW6
         clear hk5 hs2)
      | (go_simp; go_at_call 27; refine (HN.down 2 (by omega) (by omega) _ HS6.down.kit.d).mono ?_
         rintro r W7 ⟨⟨y, rfl, y0, y1⟩, hk5⟩
         have HS7 : PLift _ := PLift.up (HS6.down.step hlt.down hk5)
         have dW7 : W7.cell? ⟨w.heap.size, 13, none⟩ = some (.slice B1 (e.ll 2).length c1) := ((HS7.down.cell 13).trans (evCells_sl e u1 2 (by omega))).trans (congrArg some HE1.down)
         have aW7 : ∀ o, (W7.alloc o).cell? ⟨w.heap.size, 13, none⟩ = some (.slice B1 (e.ll 2).length c1) := fun o => cellLater (ext_alloc _ _) dW7
         obtain ⟨Y, rfl⟩ := Int.eq_ofNat_of_zero_le y0
         obtain ⟨K, hK⟩ : ∃ K : Nat, K = 44 - Y := ⟨_, rfl⟩
         have k1 : (44 : Int) - (Y : Int) = (K : Int) := by omega
         have k2 : (K : Int) ≤ 44 := by omega
         have k4 : K ≤ 44 := by omega
         have k5 : IntKind.i64.wrap (K : Int) = (K : Int) := by rw [IntKind.wrap_i64]; omega
         have k6 : 0 ≤ (K : Int) := by omega
         have k3 := HLs2.down
         have HEX : PLift ((⟨s2.toArray⟩ : ByteArray).extract 0 K = ⟨(s2.take K).toArray⟩) := PLift.up (by apply ByteArray.ext; apply Array.toList_inj.1; rw [Lib.extract_data]; rfl)
         clear hk5 y0 y1 hK)
      | (refine step_kapp HD.down (HS7.down.later (ext_alloc _ _)).kit 32 9 (.string ⟨#[]⟩) 1 16 Tryz.underlying32 kStr rfl (by decide) (by decide) rfl _ _ rfl (.slice B1 (e.ll 2).length c1) (e.ll 2).length (strCells (e.ll 2)).toList rfl (by rw [← HE1.down]; exact (HS7.down.later (ext_alloc _ _)).own.own 2 (by omega)) (some ⟨W7.heap.size, 0, none⟩) 2 2 (strCells [s, s2.take K]).toList rfl rfl (fun j u hu => ⟨_, rfl, by rw [add0, cell_of_row _ _ j _ _ _ (hA1_0 _ _)]; simpa [strCells, HEX.down] using hu⟩) (by simp) (strCells_one _) (by have := HLEN.down; omega) ?_
         intro v2 W9 ho hk9 hg9
         obtain ⟨A2, m2, c2, rfl⟩ := own_slice ho
         have hg9' := hg9
         rw [← HE1.down] at hg9'
         have HSF : PLift (OddS D A n c (m + 2) w (W9.setCell ⟨w.heap.size, 13, none⟩ (.slice A2 m2 c2)) (e.putLl 2 (e.ll 2 ++ [s, s2.take K])) (u1.putSl 2 (.slice A2 m2 c2))) := PLift.up ((HS7.down.later (ext_alloc _ _)).grow HD.down HA.down (i := 2) (by omega) (news := [s, s2.take K]) ho hk9 hg9' (by simp) (by have := HLs.down; have := HLs2.down; exact (fun x hx => by simp only [List.mem_cons, List.not_mem_nil, or_false] at hx; rcases hx with rfl | rfl <;> first | omega | (simp; done) | (simp only [List.length_take]; omega))))
         have hrow9 := (HS7.down.later (ext_alloc _ _)).rowAt (i := 2) (by omega) hg9'
         have q9 : W9.cell? ⟨w.heap.size, 13, none⟩ = some (.slice B1 (e.ll 2).length c1) := ((cell_of_row _ _ 13 _ _ _ hrow9).trans (evCells_sl e u1 2 (by omega))).trans (congrArg some HE1.down)
         have f9 : W9.frozen? ⟨w.heap.size, 13, none⟩ = false := frozen_of_row hrow9
         clear ho hk9 hg9 hg9' hrow9))
      all_goals exact HR.down _ _ ⟨_, _, _, _, _, _, _, _, _, _, _, _, _, by simp only [Act.put, List.setIfInBounds_toArray, List.set_cons_zero, List.set_cons_succ]; rfl, _, _, HSF.down⟩
    · rintro a' W10 ⟨x106, x107, x108, x109, x110, x111, x112, x113, x114, x115, x116, x117, x118, ha, eF, uF, hSF⟩
      simp only [Act.put, List.setIfInBounds_toArray, List.set_cons_zero, List.set_cons_succ] at ha
      subst ha
      have HSF : PLift _ := PLift.up hSF
      clear hSF
      go_wp2_with (first
        | (refine wpList_load_row rfl 35 _ rfl w.heap.size rfl 35 _ _ _ HSF.down.row Tryz.underlying35 rfl (by kernel_rfl) ?_)
        | (refine wpList_store_row rfl 35 _ _ rfl (w.heap.size + 1) _ rfl rfl 35 _ HSF.down.res (by kernel_rfl) rfl HSF.down.own.one ?_))
      refine bodyPost_ret (results_cell_row rfl _ _ (w.heap.size + 1) _ _ _ _ rfl (setRow_heap _ _ _ _ _ _ HSF.down.res) Tryz.underlying35 rfl (by kernel_rfl)) rfl ?_
      exact HSF.down.ends HD.down (by omega) (by have := HM.down; omega)
  · -- case 12
    have HSd : PLift (OddS D A n c m w W4.drew e u1) := PLift.up (HS.down.later ((Below.refl _ _).drew))
    obtain ⟨B1, c1, e1⟩ := HS.down.slice 5 (by omega)
    have HE1 : PLift _ := PLift.up e1
    have d0 : W4.drew.cell? ⟨w.heap.size, 16, none⟩ = some (.slice B1 (e.ll 5).length c1) := ((HSd.down.cell 16).trans (evCells_sl e u1 5 (by omega))).trans (congrArg some e1)
    have HLEN : PLift ((e.ll 5).length ≤ 1000) := PLift.up (by have := (HS.down.few.ll 5 (by omega)).1; have := HM.down; omega)
    clear e1
    have a0 : ∀ o, (W4.drew.alloc o).cell? ⟨w.heap.size, 16, none⟩ = some (.slice B1 (e.ll 5).length c1) := fun o => cellLater (ext_alloc _ _) d0
    have a00 : ∀ o, (W4.alloc o).cell? ⟨w.heap.size, 16, none⟩ = some (.slice B1 (e.ll 5).length c1) := fun o => cellLater (ext_alloc _ _) (((HS.down.cell 16).trans (evCells_sl e u1 5 (by omega))).trans (congrArg some HE1.down))
    go_wp2_with fail
    refine cutX (fun a a' w' => ∃ x121 x122 x123 x124 x125 x126 x127 x128 : Value, a' = ((((((((a.put (some 121) x121).put (some 122) x122).put (some 123) x123).put (some 124) x124).put (some 125) x125).put (some 126) x126).put (some 127) x127).put (some 128) x128) ∧ ∃ e' u', OddS D A n c (m + 2) w w' e' u') ?_ ?_
    · intro R HR
      go_region_law (first
      | (go_simp; go_at_call 23; refine (HWRD.down _ ([[], [101, 111], [65, 66, 67, 68, 69, 70, 71, 72, 73], [79, 75]] : List (List UInt8)) (by simp) _ (HSd.down.later (ext_alloc _ _)).kit.d (firm_row ([[], [101, 111], [65, 66, 67, 68, 69, 70, 71, 72, 73], [79, 75]] : List (List UInt8)) (hA1_0 _ _) (by have := hlt.down; have := HSd.down.kit.b.size; omega) (by simp) (by exact (fun x hx => by simp only [List.mem_cons, List.not_mem_nil, or_false] at hx; rcases hx with rfl | rfl | rfl | rfl <;> first | omega | (simp; done) | (simp only [List.length_take]; omega))))).mono ?_
         rintro r W5 ⟨⟨s, rfl, hs⟩, hk5⟩
         have HS5 : PLift _ := PLift.up ((HSd.down.later (ext_alloc _ _)).step hlt.down hk5)
         have HLs : PLift (s.length ≤ 1000000) := PLift.up ((show ∀ x ∈ ([[], [101, 111], [65, 66, 67, 68, 69, 70, 71, 72, 73], [79, 75]] : List (List UInt8)), x.length ≤ 1000000 from (by exact (fun x hx => by simp only [List.mem_cons, List.not_mem_nil, or_false] at hx; rcases hx with rfl | rfl | rfl | rfl <;> first | omega | (simp; done) | (simp only [List.length_take]; omega)))) _ hs)
         have dW5 : W5.cell? ⟨w.heap.size, 16, none⟩ = some (.slice B1 (e.ll 5).length c1) := ((HS5.down.cell 16).trans (evCells_sl e u1 5 (by omega))).trans (congrArg some HE1.down)
         have aW5 : ∀ o, (W5.alloc o).cell? ⟨w.heap.size, 16, none⟩ = some (.slice B1 (e.ll 5).length c1) := fun o => cellLater (ext_alloc _ _) dW5
         clear hk5 hs)
      | (refine step_kapp HD.down (HS5.down.later (ext_alloc _ _)).kit 32 9 (.string ⟨#[]⟩) 1 16 Tryz.underlying32 kStr rfl (by decide) (by decide) rfl _ _ rfl (.slice B1 (e.ll 5).length c1) (e.ll 5).length (strCells (e.ll 5)).toList rfl (by rw [← HE1.down]; exact (HS5.down.later (ext_alloc _ _)).own.own 5 (by omega)) (some ⟨W5.heap.size, 0, none⟩) 1 1 (strCells [s]).toList rfl rfl (fun j u hu => ⟨_, rfl, by rw [add0, cell_of_row _ _ j _ _ _ (hA1_0 _ _)]; simpa [strCells] using hu⟩) (by simp) (strCells_one _) (by have := HLEN.down; omega) ?_
         intro v2 W9 ho hk9 hg9
         obtain ⟨A2, m2, c2, rfl⟩ := own_slice ho
         have hg9' := hg9
         rw [← HE1.down] at hg9'
         have HSF : PLift (OddS D A n c (m + 2) w (W9.setCell ⟨w.heap.size, 16, none⟩ (.slice A2 m2 c2)) (e.putLl 5 (e.ll 5 ++ [s])) (u1.putSl 5 (.slice A2 m2 c2))) := PLift.up ((HS5.down.later (ext_alloc _ _)).grow HD.down HA.down (i := 5) (by omega) (news := [s]) ho hk9 hg9' (by simp) (by have := HLs.down; exact (fun x hx => by simp only [List.mem_cons, List.not_mem_nil, or_false] at hx; rcases hx with rfl <;> first | omega | (simp; done) | (simp only [List.length_take]; omega))))
         have hrow9 := (HS5.down.later (ext_alloc _ _)).rowAt (i := 5) (by omega) hg9'
         have q9 : W9.cell? ⟨w.heap.size, 16, none⟩ = some (.slice B1 (e.ll 5).length c1) := ((cell_of_row _ _ 16 _ _ _ hrow9).trans (evCells_sl e u1 5 (by omega))).trans (congrArg some HE1.down)
         have f9 : W9.frozen? ⟨w.heap.size, 16, none⟩ = false := frozen_of_row hrow9
         clear ho hk9 hg9 hg9' hrow9))
      all_goals exact HR.down _ _ ⟨_, _, _, _, _, _, _, _, by simp only [Act.put, List.setIfInBounds_toArray, List.set_cons_zero, List.set_cons_succ]; rfl, _, _, HSF.down⟩
    · rintro a' W10 ⟨x121, x122, x123, x124, x125, x126, x127, x128, ha, eF, uF, hSF⟩
      simp only [Act.put, List.setIfInBounds_toArray, List.set_cons_zero, List.set_cons_succ] at ha
      subst ha
      have HSF : PLift _ := PLift.up hSF
      clear hSF
      go_wp2_with (first
        | (refine wpList_load_row rfl 35 _ rfl w.heap.size rfl 35 _ _ _ HSF.down.row Tryz.underlying35 rfl (by kernel_rfl) ?_)
        | (refine wpList_store_row rfl 35 _ _ rfl (w.heap.size + 1) _ rfl rfl 35 _ HSF.down.res (by kernel_rfl) rfl HSF.down.own.one ?_))
      refine bodyPost_ret (results_cell_row rfl _ _ (w.heap.size + 1) _ _ _ _ rfl (setRow_heap _ _ _ _ _ _ HSF.down.res) Tryz.underlying35 rfl (by kernel_rfl)) rfl ?_
      exact HSF.down.ends HD.down (by omega) (by have := HM.down; omega)
  · -- case 13
    have HSd : PLift (OddS D A n c m w W4.drew e u1) := PLift.up (HS.down.later ((Below.refl _ _).drew))
    obtain ⟨B1, c1, e1⟩ := HS.down.anSlice
    have HE1 : PLift _ := PLift.up e1
    have d0 : W4.drew.cell? ⟨w.heap.size, 17, none⟩ = some (.slice B1 e.anc.length c1) := (HSd.down.cell 17).trans (congrArg some e1)
    have HLEN : PLift (e.anc.length ≤ 1000) := PLift.up (by have := HS.down.few.an.1; have := HM.down; omega)
    clear e1
    go_wp2_with fail
    refine cutX (fun a a' w' => ∃ x131 x132 x133 x134 x135 x136 x137 x138 x139 x140 x141 x142 x143 x144 x145 x146 x147 x148 x149 : Value, a' = (((((((((((((((((((a.put (some 131) x131).put (some 132) x132).put (some 133) x133).put (some 134) x134).put (some 135) x135).put (some 136) x136).put (some 137) x137).put (some 138) x138).put (some 139) x139).put (some 140) x140).put (some 141) x141).put (some 142) x142).put (some 143) x143).put (some 144) x144).put (some 145) x145).put (some 146) x146).put (some 147) x147).put (some 148) x148).put (some 149) x149) ∧ ∃ e' u', OddS D A n c (m + 2) w w' e' u') ?_ ?_
    · intro R HR
      go_region_law (first
      | (go_simp; go_at_call 28; refine (HDIG.down _ HS7.down.kit.d).mono ?_
         rintro r W8 ⟨⟨s2, rfl, hs2⟩, hk5⟩
         have HS8 : PLift _ := PLift.up (HS7.down.step hlt.down hk5)
         have HLs2 : PLift _ := PLift.up hs2
         have dW8 : W8.cell? ⟨w.heap.size, 17, none⟩ = some (.slice B1 e.anc.length c1) := (HS8.down.cell 17).trans (congrArg some HE1.down)
         have aW8 : ∀ o, (W8.alloc o).cell? ⟨w.heap.size, 17, none⟩ = some (.slice B1 e.anc.length c1) := fun o => cellLater (ext_alloc _ _) dW8
         clear hk5 hs2)
      | (go_simp; go_at_call 28; refine (HDIG.down _ HSd.down.kit.d).mono ?_
         rintro r W5 ⟨⟨s, rfl, hs⟩, hk5⟩
         have HS5 : PLift _ := PLift.up (HSd.down.step hlt.down hk5)
         have HLs : PLift _ := PLift.up hs
         have dW5 : W5.cell? ⟨w.heap.size, 17, none⟩ = some (.slice B1 e.anc.length c1) := (HS5.down.cell 17).trans (congrArg some HE1.down)
         have aW5 : ∀ o, (W5.alloc o).cell? ⟨w.heap.size, 17, none⟩ = some (.slice B1 e.anc.length c1) := fun o => cellLater (ext_alloc _ _) dW5
         clear hk5 hs)
      | (go_simp; go_at_call 23; refine (HWRD.down _ [s2, []] (by simp) _ (HS8.down.later (ext_alloc _ _)).kit.d (firm_row [s2, []] (hA1_0 _ _) (by have := hlt.down; have := HS8.down.kit.b.size; omega) (by simp) (by have := HLs2.down; exact (fun x hx => by simp only [List.mem_cons, List.not_mem_nil, or_false] at hx; rcases hx with rfl | rfl <;> first | omega | (simp; done) | (simp only [List.length_take]; omega))))).mono ?_
         rintro r W9 ⟨⟨x2, rfl, hx2⟩, hk5⟩
         have HS9 : PLift _ := PLift.up ((HS8.down.later (ext_alloc _ _)).step hlt.down hk5)
         have HLx2 : PLift (x2.length ≤ 1000000) := PLift.up ((show ∀ x ∈ [s2, []], x.length ≤ 1000000 from (by have := HLs2.down; exact (fun x hx => by simp only [List.mem_cons, List.not_mem_nil, or_false] at hx; rcases hx with rfl | rfl <;> first | omega | (simp; done) | (simp only [List.length_take]; omega)))) _ hx2)
         have dW9 : W9.cell? ⟨w.heap.size, 17, none⟩ = some (.slice B1 e.anc.length c1) := (HS9.down.cell 17).trans (congrArg some HE1.down)
         have aW9 : ∀ o, (W9.alloc o).cell? ⟨w.heap.size, 17, none⟩ = some (.slice B1 e.anc.length c1) := fun o => cellLater (ext_alloc _ _) dW9
         clear hk5 hx2)
      | (go_simp; go_at_call 23; refine (HWRD.down _ [[], [120], s] (by simp) _ (HS5.down.later (ext_alloc _ _)).kit.d (firm_row [[], [120], s] (hA1_0 _ _) (by have := hlt.down; have := HS5.down.kit.b.size; omega) (by simp) (by have := HLs.down; exact (fun x hx => by simp only [List.mem_cons, List.not_mem_nil, or_false] at hx; rcases hx with rfl | rfl | rfl <;> first | omega | (simp; done) | (simp only [List.length_take]; omega))))).mono ?_
         rintro r W6 ⟨⟨x, rfl, hx⟩, hk5⟩
         have HS6 : PLift _ := PLift.up ((HS5.down.later (ext_alloc _ _)).step hlt.down hk5)
         have HLx : PLift (x.length ≤ 1000000) := PLift.up ((show ∀ x ∈ [[], [120], s], x.length ≤ 1000000 from (by have := HLs.down; exact (fun x hx => by simp only [List.mem_cons, List.not_mem_nil, or_false] at hx; rcases hx with rfl | rfl | rfl <;> first | omega | (simp; done) | (simp only [List.length_take]; omega)))) _ hx)
         have dW6 : W6.cell? ⟨w.heap.size, 17, none⟩ = some (.slice B1 e.anc.length c1) := (HS6.down.cell 17).trans (congrArg some HE1.down)
         have aW6 : ∀ o, (W6.alloc o).cell? ⟨w.heap.size, 17, none⟩ = some (.slice B1 e.anc.length c1) := fun o => cellLater (ext_alloc _ _) dW6
         clear hk5 hx)
      | (go_simp; go_at_call 27; refine (HN.down 3 (by omega) (by omega) _ HS6.down.kit.d).mono ?_
         rintro r W7 ⟨⟨y, rfl, y0, y1⟩, hk5⟩
         have HS7 : PLift _ := PLift.up (HS6.down.step hlt.down hk5)
         have dW7 : W7.cell? ⟨w.heap.size, 17, none⟩ = some (.slice B1 e.anc.length c1) := (HS7.down.cell 17).trans (congrArg some HE1.down)
         have aW7 : ∀ o, (W7.alloc o).cell? ⟨w.heap.size, 17, none⟩ = some (.slice B1 e.anc.length c1) := fun o => cellLater (ext_alloc _ _) dW7
         have k5 : IntKind.i64.wrap (y - 1) = y - 1 := by rw [IntKind.wrap_i64]; omega
         clear hk5)
      | (refine step_kapp HD.down (HS9.down.later (ext_alloc _ _)).kit 33 68 (.agg #[.string ⟨#[]⟩, .int .i64 0, .string ⟨#[]⟩]) 3 40 Tryz.underlying33 kSeal rfl (by decide) (by decide) rfl _ _ rfl (.slice B1 e.anc.length c1) e.anc.length (sealCells e.anc) rfl (by rw [← HE1.down]; exact (HS9.down.later (ext_alloc _ _)).own.an) (some ⟨W9.heap.size, 0, none⟩) 1 1 (sealCells [(⟨x, y - 1, x2⟩ : SealV)]) rfl rfl (fun j u hu => ⟨_, rfl, by rw [add0, cell_of_row _ _ j _ _ _ (hA1_0 _ _)]; simpa [sealCells] using hu⟩) (by simp) (sealCells_one _) (by have := HLEN.down; omega) ?_
         intro v2 W10 ho hk9 hg9
         obtain ⟨A2, m2, c2, rfl⟩ := own_slice ho
         have hg9' := hg9
         rw [← HE1.down] at hg9'
         have HSF : PLift (OddS D A n c (m + 2) w (W10.setCell ⟨w.heap.size, 17, none⟩ (.slice A2 m2 c2)) { e with anc := e.anc ++ [(⟨x, y - 1, x2⟩ : SealV)] } { u1 with an := .slice A2 m2 c2 }) := PLift.up ((HS9.down.later (ext_alloc _ _)).growAn HD.down (news := [(⟨x, y - 1, x2⟩ : SealV)]) ho hk9 hg9' (by simp) (fun s hs => by rw [List.mem_singleton] at hs; subst hs; have := HLx.down; have := HLx2.down; exact ⟨by show x.length ≤ _; omega, by show x2.length ≤ _; omega⟩))
         have hrow9 := (HS9.down.later (ext_alloc _ _)).rowAn hg9'
         have q9 : W10.cell? ⟨w.heap.size, 17, none⟩ = some (.slice B1 e.anc.length c1) := (cell_of_row _ _ 17 _ _ _ hrow9).trans (congrArg some HE1.down)
         have f9 : W10.frozen? ⟨w.heap.size, 17, none⟩ = false := frozen_of_row hrow9
         clear ho hk9 hg9 hg9' hrow9))
      all_goals exact HR.down _ _ ⟨_, _, _, _, _, _, _, _, _, _, _, _, _, _, _, _, _, _, _, by simp only [Act.put, List.setIfInBounds_toArray, List.set_cons_zero, List.set_cons_succ]; rfl, _, _, HSF.down⟩
    · rintro a' W10 ⟨x131, x132, x133, x134, x135, x136, x137, x138, x139, x140, x141, x142, x143, x144, x145, x146, x147, x148, x149, ha, eF, uF, hSF⟩
      simp only [Act.put, List.setIfInBounds_toArray, List.set_cons_zero, List.set_cons_succ] at ha
      subst ha
      have HSF : PLift _ := PLift.up hSF
      clear hSF
      go_wp2_with (first
        | (refine wpList_load_row rfl 35 _ rfl w.heap.size rfl 35 _ _ _ HSF.down.row Tryz.underlying35 rfl (by kernel_rfl) ?_)
        | (refine wpList_store_row rfl 35 _ _ rfl (w.heap.size + 1) _ rfl rfl 35 _ HSF.down.res (by kernel_rfl) rfl HSF.down.own.one ?_))
      refine bodyPost_ret (results_cell_row rfl _ _ (w.heap.size + 1) _ _ _ _ rfl (setRow_heap _ _ _ _ _ _ HSF.down.res) Tryz.underlying35 rfl (by kernel_rfl)) rfl ?_
      exact HSF.down.ends HD.down (by omega) (by have := HM.down; omega)
  · -- case 14
    go_wp2_with fail
    refine (HDIG.down _ HS.down.kit.d).mono ?_
    rintro r W5 ⟨⟨s, rfl, hs⟩, hk5⟩
    have HS5 : PLift _ := PLift.up (HS.down.step hlt.down hk5)
    have HLs : PLift _ := PLift.up hs
    clear hk5 hs
    go_wp2_with fail
    refine (HWRD.down _ [[], s, [120]] (by simp) _ (HS5.down.later (ext_alloc _ _)).kit.d (firm_row [[], s, [120]] (hA1_0 _ _) (by have := hlt.down; have := HS5.down.kit.b.size; omega) (by simp) (by have := HLs.down; exact (fun x hx => by simp only [List.mem_cons, List.not_mem_nil, or_false] at hx; rcases hx with rfl | rfl | rfl <;> first | omega | (simp; done) | (simp only [List.length_take]; omega))))).mono ?_
    rintro r W6 ⟨⟨x, rfl, _⟩, hk5⟩
    have HS6 : PLift _ := PLift.up ((HS5.down.later (ext_alloc _ _)).step hlt.down hk5)
    clear hk5
    have q18 : W6.cell? ⟨w.heap.size, 18, none⟩ = some (.string ⟨e.del.toArray⟩) := HS6.down.cell 18
    have f18 : W6.frozen? ⟨w.heap.size, 18, none⟩ = false := HS6.down.free 18
    have HSF : PLift (OddS D A n c m w (W6.setCell ⟨w.heap.size, 18, none⟩ (.string ⟨x.toArray⟩)) { e with del := x } u1) := PLift.up (HS6.down.put1 HD.down 18 _ rfl rfl rfl (six rfl rfl rfl rfl rfl rfl) rfl)
    go_wp2_with (first
      | (refine wpList_load_row rfl 35 _ rfl w.heap.size rfl 35 _ _ _ HSF.down.row Tryz.underlying35 rfl (by kernel_rfl) ?_)
      | (refine wpList_store_row rfl 35 _ _ rfl (w.heap.size + 1) _ rfl rfl 35 _ HSF.down.res (by kernel_rfl) rfl HSF.down.own.one ?_))
    refine bodyPost_ret (results_cell_row rfl _ _ (w.heap.size + 1) _ _ _ _ rfl (setRow_heap _ _ _ _ _ _ HSF.down.res) Tryz.underlying35 rfl (by kernel_rfl)) rfl ?_
    exact HSF.down.ends HD.down (by omega) (by have := HM.down; omega)
  · -- case 15
    have HSd : PLift (OddS D A n c m w W4.drew e u1) := PLift.up (HS.down.later ((Below.refl _ _).drew))
    obtain ⟨B1, c1, e1⟩ := HS.down.slice 3 (by omega)
    have HE1 : PLift _ := PLift.up e1
    have d0 : W4.drew.cell? ⟨w.heap.size, 14, none⟩ = some (.slice B1 (e.ll 3).length c1) := ((HSd.down.cell 14).trans (evCells_sl e u1 3 (by omega))).trans (congrArg some e1)
    have HLEN : PLift ((e.ll 3).length ≤ 1000) := PLift.up (by have := (HS.down.few.ll 3 (by omega)).1; have := HM.down; omega)
    clear e1
    go_wp2_with fail
    refine cutX (fun a a' w' => ∃ x160 x161 x162 x163 x164 x165 x166 : Value, a' = (((((((a.put (some 160) x160).put (some 161) x161).put (some 162) x162).put (some 163) x163).put (some 164) x164).put (some 165) x165).put (some 166) x166) ∧ ∃ e' u', OddS D A n c (m + 2) w w' e' u') ?_ ?_
    · intro R HR
      go_region_law (first
      | (go_simp; go_at_call 32; refine (HSTA.down _ HSd.down.kit.d).mono ?_
         rintro r W5 ⟨⟨s, rfl, hs⟩, hk5⟩
         have HS5 : PLift _ := PLift.up (HSd.down.step hlt.down hk5)
         have HLs : PLift _ := PLift.up hs
         have dW5 : W5.cell? ⟨w.heap.size, 14, none⟩ = some (.slice B1 (e.ll 3).length c1) := ((HS5.down.cell 14).trans (evCells_sl e u1 3 (by omega))).trans (congrArg some HE1.down)
         have aW5 : ∀ o, (W5.alloc o).cell? ⟨w.heap.size, 14, none⟩ = some (.slice B1 (e.ll 3).length c1) := fun o => cellLater (ext_alloc _ _) dW5
         clear hk5 hs)
      | (refine step_kapp HD.down (HS5.down.later (ext_alloc _ _)).kit 32 9 (.string ⟨#[]⟩) 1 16 Tryz.underlying32 kStr rfl (by decide) (by decide) rfl _ _ rfl (.slice B1 (e.ll 3).length c1) (e.ll 3).length (strCells (e.ll 3)).toList rfl (by rw [← HE1.down]; exact (HS5.down.later (ext_alloc _ _)).own.own 3 (by omega)) (some ⟨W5.heap.size, 0, none⟩) 1 1 (strCells [s]).toList rfl rfl (fun j u hu => ⟨_, rfl, by rw [add0, cell_of_row _ _ j _ _ _ (hA1_0 _ _)]; simpa [strCells] using hu⟩) (by simp) (strCells_one _) (by have := HLEN.down; omega) ?_
         intro v2 W9 ho hk9 hg9
         obtain ⟨A2, m2, c2, rfl⟩ := own_slice ho
         have hg9' := hg9
         rw [← HE1.down] at hg9'
         have HSF : PLift (OddS D A n c (m + 2) w (W9.setCell ⟨w.heap.size, 14, none⟩ (.slice A2 m2 c2)) (e.putLl 3 (e.ll 3 ++ [s])) (u1.putSl 3 (.slice A2 m2 c2))) := PLift.up ((HS5.down.later (ext_alloc _ _)).grow HD.down HA.down (i := 3) (by omega) (news := [s]) ho hk9 hg9' (by simp) (by have := HLs.down; exact (fun x hx => by simp only [List.mem_cons, List.not_mem_nil, or_false] at hx; rcases hx with rfl <;> first | omega | (simp; done) | (simp only [List.length_take]; omega))))
         have hrow9 := (HS5.down.later (ext_alloc _ _)).rowAt (i := 3) (by omega) hg9'
         have q9 : W9.cell? ⟨w.heap.size, 14, none⟩ = some (.slice B1 (e.ll 3).length c1) := ((cell_of_row _ _ 14 _ _ _ hrow9).trans (evCells_sl e u1 3 (by omega))).trans (congrArg some HE1.down)
         have f9 : W9.frozen? ⟨w.heap.size, 14, none⟩ = false := frozen_of_row hrow9
         clear ho hk9 hg9 hg9' hrow9))
      all_goals exact HR.down _ _ ⟨_, _, _, _, _, _, _, by simp only [Act.put, List.setIfInBounds_toArray, List.set_cons_zero, List.set_cons_succ]; rfl, _, _, HSF.down⟩
    · rintro a' W10 ⟨x160, x161, x162, x163, x164, x165, x166, ha, eF, uF, hSF⟩
      simp only [Act.put, List.setIfInBounds_toArray, List.set_cons_zero, List.set_cons_succ] at ha
      subst ha
      have HSF : PLift _ := PLift.up hSF
      clear hSF
      go_wp2_with (first
        | (refine wpList_load_row rfl 35 _ rfl w.heap.size rfl 35 _ _ _ HSF.down.row Tryz.underlying35 rfl (by kernel_rfl) ?_)
        | (refine wpList_store_row rfl 35 _ _ rfl (w.heap.size + 1) _ rfl rfl 35 _ HSF.down.res (by kernel_rfl) rfl HSF.down.own.one ?_))
      refine bodyPost_ret (results_cell_row rfl _ _ (w.heap.size + 1) _ _ _ _ rfl (setRow_heap _ _ _ _ _ _ HSF.down.res) Tryz.underlying35 rfl (by kernel_rfl)) rfl ?_
      exact HSF.down.ends HD.down (by omega) (by have := HM.down; omega)

end Go.Proofs.YtkinlobfdkeamaaGreatDoor

