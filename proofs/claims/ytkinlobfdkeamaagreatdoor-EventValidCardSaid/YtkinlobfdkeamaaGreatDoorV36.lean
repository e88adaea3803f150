/- The equality of events, on both sides. (Printed by gen_same.py.) -/
import Derived.Test.YtkinlobfdkeamaaGreatDoorV34
import Derived.Test.YtkinlobfdkeamaaGreatDoorV35
import Derived.Deep.Cut
namespace Go.Proofs.YtkinlobfdkeamaaGreatDoor
open Go.RowKit
set_option maxHeartbeats 20000000 in
set_option maxRecDepth 100000 in
theorem event_same (x y : EvV) (u v : EvS) (w : World) (hx : EvM w x u) (hy : EvM w y v) : Calls Tryz.prog 20 #[.agg (evCells x u), .agg (evCells y v)] w fun r w' => r = .returned (.bool (decide (x = y))) ∧ Below w.heap.size w w' := by
  have h_thr := fun w' (hb : Below w.heap.size w w') => thr_same _ _ x.thr y.thr w' (hx.later hb).thr (hy.later hb).thr
  have h_keys := fun w' (hb : Below w.heap.size w w') => equal_strs _ _ x.keys y.keys w' (hx.later hb).ks (hy.later hb).ks
  have h_nthr := fun w' (hb : Below w.heap.size w w') => thr_same _ _ x.nthr y.nthr w' (hx.later hb).nthr (hy.later hb).nthr
  have h_next := fun w' (hb : Below w.heap.size w w') => equal_strs _ _ x.next y.next w' (hx.later hb).nx (hy.later hb).nx
  have h_wits := fun w' (hb : Below w.heap.size w w') => equal_strs _ _ x.wits y.wits w' (hx.later hb).ws (hy.later hb).ws
  have h_cuts := fun w' (hb : Below w.heap.size w w') => equal_strs _ _ x.cuts y.cuts w' (hx.later hb).cs (hy.later hb).cs
  have h_adds := fun w' (hb : Below w.heap.size w w') => equal_strs _ _ x.adds y.adds w' (hx.later hb).aa (hy.later hb).aa
  have h_conf := fun w' (hb : Below w.heap.size w w') => equal_strs _ _ x.conf y.conf w' (hx.later hb).cf (hy.later hb).cf
  have h_anc := fun w' (hb : Below w.heap.size w w') => equal_seals _ _ x.anc y.anc w' (hx.later hb).an (hy.later hb).an
  have HH_thr : PLift _ := PLift.up h_thr
  clear h_thr
  have HH_keys : PLift _ := PLift.up h_keys
  clear h_keys
  have HH_nthr : PLift _ := PLift.up h_nthr
  clear h_nthr
  have HH_next : PLift _ := PLift.up h_next
  clear h_next
  have HH_wits : PLift _ := PLift.up h_wits
  clear h_wits
  have HH_cuts : PLift _ := PLift.up h_cuts
  clear h_cuts
  have HH_adds : PLift _ := PLift.up h_adds
  clear h_adds
  have HH_conf : PLift _ := PLift.up h_conf
  clear h_conf
  have HH_anc : PLift _ := PLift.up h_anc
  clear h_anc
  obtain ⟨q, hq⟩ : ∃ q, q = decide (x = y) := ⟨_, rfl⟩
  rw [← hq]
  have HQ : PLift _ := PLift.up hq
  clear hq hx hy
  obtain ⟨form1, kind1, said1, pre1, num1, prior1, thr1, keys1, nthr1, next1, tol1, wits1, cuts1, adds1, conf1, anc1, del1⟩ := x
  obtain ⟨form2, kind2, said2, pre2, num2, prior2, thr2, keys2, nthr2, next2, tol2, wits2, cuts2, adds2, conf2, anc2, del2⟩ := y
  obtain ⟨tw1, ks1, nw1, nx1, ws1, cs1, aa1, cf1, an1⟩ := u
  obtain ⟨tw2, ks2, nw2, nx2, ws2, cs2, aa2, cf2, an2⟩ := v
  unfold evCells
  dsimp only at *
  go_enter Tryz.func20, Tryz.ntmps20
  have hB0 := extA2 w (.cells #[.int .i64 form1, .int .i64 kind1, .string ⟨said1.toArray⟩, .string ⟨pre1.toArray⟩, .int .i64 num1, .string ⟨prior1.toArray⟩, .int .i64 thr1.num, tw1, ks1, .int .i64 nthr1.num, nw1, nx1, .int .i64 tol1, ws1, cs1, aa1, cf1, an1, .string ⟨del1.toArray⟩] 35) (.cells #[.int .i64 form2, .int .i64 kind2, .string ⟨said2.toArray⟩, .string ⟨pre2.toArray⟩, .int .i64 num2, .string ⟨prior2.toArray⟩, .int .i64 thr2.num, tw2, ks2, .int .i64 nthr2.num, nw2, nx2, .int .i64 tol2, ws2, cs2, aa2, cf2, an2, .string ⟨del2.toArray⟩] 35)
  have hr0 := hA2_0 w (.cells #[.int .i64 form1, .int .i64 kind1, .string ⟨said1.toArray⟩, .string ⟨pre1.toArray⟩, .int .i64 num1, .string ⟨prior1.toArray⟩, .int .i64 thr1.num, tw1, ks1, .int .i64 nthr1.num, nw1, nx1, .int .i64 tol1, ws1, cs1, aa1, cf1, an1, .string ⟨del1.toArray⟩] 35) (.cells #[.int .i64 form2, .int .i64 kind2, .string ⟨said2.toArray⟩, .string ⟨pre2.toArray⟩, .int .i64 num2, .string ⟨prior2.toArray⟩, .int .i64 thr2.num, tw2, ks2, .int .i64 nthr2.num, nw2, nx2, .int .i64 tol2, ws2, cs2, aa2, cf2, an2, .string ⟨del2.toArray⟩] 35)
  have hs0 := hA2_1 w (.cells #[.int .i64 form1, .int .i64 kind1, .string ⟨said1.toArray⟩, .string ⟨pre1.toArray⟩, .int .i64 num1, .string ⟨prior1.toArray⟩, .int .i64 thr1.num, tw1, ks1, .int .i64 nthr1.num, nw1, nx1, .int .i64 tol1, ws1, cs1, aa1, cf1, an1, .string ⟨del1.toArray⟩] 35) (.cells #[.int .i64 form2, .int .i64 kind2, .string ⟨said2.toArray⟩, .string ⟨pre2.toArray⟩, .int .i64 num2, .string ⟨prior2.toArray⟩, .int .i64 thr2.num, tw2, ks2, .int .i64 nthr2.num, nw2, nx2, .int .i64 tol2, ws2, cs2, aa2, cf2, an2, .string ⟨del2.toArray⟩] 35)
  go_upto_region 1 with (fail)
  rename_i KK hKK0
  have hKK : PLift _ := PLift.up hKK0
  clear hKK0
  generalize (Value.agg #[.int .i64 form1, .int .i64 kind1, .string ⟨said1.toArray⟩, .string ⟨pre1.toArray⟩, .int .i64 num1, .string ⟨prior1.toArray⟩, .int .i64 thr1.num, tw1, ks1, .int .i64 nthr1.num, nw1, nx1, .int .i64 tol1, ws1, cs1, aa1, cf1, an1, .string ⟨del1.toArray⟩]) = V1
  generalize (Value.agg #[.int .i64 form2, .int .i64 kind2, .string ⟨said2.toArray⟩, .string ⟨pre2.toArray⟩, .int .i64 num2, .string ⟨prior2.toArray⟩, .int .i64 thr2.num, tw2, ks2, .int .i64 nthr2.num, nw2, nx2, .int .i64 tol2, ws2, cs2, aa2, cf2, an2, .string ⟨del2.toArray⟩]) = V2
  generalize ((w.alloc (.cells #[.int .i64 form1, .int .i64 kind1, .string ⟨said1.toArray⟩, .string ⟨pre1.toArray⟩, .int .i64 num1, .string ⟨prior1.toArray⟩, .int .i64 thr1.num, tw1, ks1, .int .i64 nthr1.num, nw1, nx1, .int .i64 tol1, ws1, cs1, aa1, cf1, an1, .string ⟨del1.toArray⟩] 35)).alloc (.cells #[.int .i64 form2, .int .i64 kind2, .string ⟨said2.toArray⟩, .string ⟨pre2.toArray⟩, .int .i64 num2, .string ⟨prior2.toArray⟩, .int .i64 thr2.num, tw2, ks2, .int .i64 nthr2.num, nw2, nx2, .int .i64 tol2, ws2, cs2, aa2, cf2, an2, .string ⟨del2.toArray⟩] 35)) = W0 at hB0 hr0 hs0 ⊢
  apply wp_region_lit
  simp only [List.append_eq, List.cons_append, List.nil_append]
  refine hide_ops (fun O hO => ?_)
  have HO : PLift _ := PLift.up hO
  clear hO
  refine wpList_take 6 (fun K hK => ?_)
  simp only [List.take_succ_cons, List.take_zero, List.drop_succ_cons, List.drop_zero] at hK ⊢
  have HK : PLift _ := PLift.up hK
  clear hK
  have p0 := cell_of_row _ _ 0 _ _ _ hr0
  have s0 := cell_of_row _ _ 0 _ _ _ hs0
  by_cases z_form : form1 = form2
  rotate_left
  · have t_form : (form1 == form2) = false := by simpa using z_form
    have HR := Lib.hid (show q = false by rw [HQ.down, decide_eq_false_iff_not]; intro h; exact z_form (congrArg EvV.form h))
    go_wp2_with fail
    refine HK.down _ _ ?_
    refine skip_one 122 [10] 4 (by rw [HO.down]; kernel_rfl) rfl (fun s hm => by rw [List.mem_singleton.1 hm]; rfl) (fun a' h1 h2 => ?_)
    refine hKK.down _ _ ?_
    exact ret_false rfl h1 h2 ⟨by rw [HR.out], hB0⟩
  subst z_form
  go_wp2_with fail
  refine HK.down _ _ ?_
  clear HK K p0 s0
  skip
  refine wpList_take 7 (fun K hK => ?_)
  simp only [List.take_succ_cons, List.take_zero, List.drop_succ_cons, List.drop_zero] at hK ⊢
  have HK : PLift _ := PLift.up hK
  clear hK
  have g5 : (O[5]?).bind (fun o => o.dst) = some 10 := by rw [HO.down]; rfl
  have p1 := cell_of_row _ _ 1 _ _ _ hr0
  have s1 := cell_of_row _ _ 1 _ _ _ hs0
  by_cases z_kind : kind1 = kind2
  rotate_left
  · have t_kind : (kind1 == kind2) = false := by simpa using z_kind
    have HR := Lib.hid (show q = false by rw [HQ.down, decide_eq_false_iff_not]; intro h; exact z_kind (congrArg EvV.kind h))
    go_wp2_with fail
    refine HK.down _ _ ?_
    refine skip_one 122 [17] 4 (by rw [HO.down]; kernel_rfl) rfl (fun s hm => by rw [List.mem_singleton.1 hm]; rfl) (fun a' h1 h2 => ?_)
    refine hKK.down _ _ ?_
    exact ret_false rfl h1 h2 ⟨by rw [HR.out], hB0⟩
  subst z_kind
  go_wp2_with fail
  refine HK.down _ _ ?_
  clear HK K p1 s1 g5
  skip
  refine wpList_take 7 (fun K hK => ?_)
  simp only [List.take_succ_cons, List.take_zero, List.drop_succ_cons, List.drop_zero] at hK ⊢
  have HK : PLift _ := PLift.up hK
  clear hK
  have g12 : (O[12]?).bind (fun o => o.dst) = some 17 := by rw [HO.down]; rfl
  have p2 := cell_of_row _ _ 2 _ _ _ hr0
  have s2 := cell_of_row _ _ 2 _ _ _ hs0
  by_cases z_said : said1 = said2
  rotate_left
  · have t_said : (said1 == said2) = false := by simpa using z_said
    have HR := Lib.hid (show q = false by rw [HQ.down, decide_eq_false_iff_not]; intro h; exact z_said (congrArg EvV.said h))
    go_wp2_with fail
    refine HK.down _ _ ?_
    refine skip_one 122 [24] 4 (by rw [HO.down]; kernel_rfl) rfl (fun s hm => by rw [List.mem_singleton.1 hm]; rfl) (fun a' h1 h2 => ?_)
    refine hKK.down _ _ ?_
    exact ret_false rfl h1 h2 ⟨by rw [HR.out], hB0⟩
  subst z_said
  go_wp2_with fail
  refine HK.down _ _ ?_
  clear HK K p2 s2 g12
  skip
  refine wpList_take 7 (fun K hK => ?_)
  simp only [List.take_succ_cons, List.take_zero, List.drop_succ_cons, List.drop_zero] at hK ⊢
  have HK : PLift _ := PLift.up hK
  clear hK
  have g19 : (O[19]?).bind (fun o => o.dst) = some 24 := by rw [HO.down]; rfl
  have p3 := cell_of_row _ _ 3 _ _ _ hr0
  have s3 := cell_of_row _ _ 3 _ _ _ hs0
  by_cases z_pre : pre1 = pre2
  rotate_left
  · have t_pre : (pre1 == pre2) = false := by simpa using z_pre
    have HR := Lib.hid (show q = false by rw [HQ.down, decide_eq_false_iff_not]; intro h; exact z_pre (congrArg EvV.pre h))
    go_wp2_with fail
    refine HK.down _ _ ?_
    refine skip_one 122 [31] 4 (by rw [HO.down]; kernel_rfl) rfl (fun s hm => by rw [List.mem_singleton.1 hm]; rfl) (fun a' h1 h2 => ?_)
    refine hKK.down _ _ ?_
    exact ret_false rfl h1 h2 ⟨by rw [HR.out], hB0⟩
  subst z_pre
  go_wp2_with fail
  refine HK.down _ _ ?_
  clear HK K p3 s3 g19
  skip
  refine wpList_take 7 (fun K hK => ?_)
  simp only [List.take_succ_cons, List.take_zero, List.drop_succ_cons, List.drop_zero] at hK ⊢
  have HK : PLift _ := PLift.up hK
  clear hK
  have g26 : (O[26]?).bind (fun o => o.dst) = some 31 := by rw [HO.down]; rfl
  have p4 := cell_of_row _ _ 4 _ _ _ hr0
  have s4 := cell_of_row _ _ 4 _ _ _ hs0
  by_cases z_num : num1 = num2
  rotate_left
  · have t_num : (num1 == num2) = false := by simpa using z_num
    have HR := Lib.hid (show q = false by rw [HQ.down, decide_eq_false_iff_not]; intro h; exact z_num (congrArg EvV.num h))
    go_wp2_with fail
    refine HK.down _ _ ?_
    refine skip_one 122 [38] 4 (by rw [HO.down]; kernel_rfl) rfl (fun s hm => by rw [List.mem_singleton.1 hm]; rfl) (fun a' h1 h2 => ?_)
    refine hKK.down _ _ ?_
    exact ret_false rfl h1 h2 ⟨by rw [HR.out], hB0⟩
  subst z_num
  go_wp2_with fail
  refine HK.down _ _ ?_
  clear HK K p4 s4 g26
  skip
  refine wpList_take 7 (fun K hK => ?_)
  simp only [List.take_succ_cons, List.take_zero, List.drop_succ_cons, List.drop_zero] at hK ⊢
  have HK : PLift _ := PLift.up hK
  clear hK
  have g33 : (O[33]?).bind (fun o => o.dst) = some 38 := by rw [HO.down]; rfl
  have p5 := cell_of_row _ _ 5 _ _ _ hr0
  have s5 := cell_of_row _ _ 5 _ _ _ hs0
  by_cases z_prior : prior1 = prior2
  rotate_left
  · have t_prior : (prior1 == prior2) = false := by simpa using z_prior
    have HR := Lib.hid (show q = false by rw [HQ.down, decide_eq_false_iff_not]; intro h; exact z_prior (congrArg EvV.prior h))
    go_wp2_with fail
    refine HK.down _ _ ?_
    refine skip_one 122 [45] 4 (by rw [HO.down]; kernel_rfl) rfl (fun s hm => by rw [List.mem_singleton.1 hm]; rfl) (fun a' h1 h2 => ?_)
    refine hKK.down _ _ ?_
    exact ret_false rfl h1 h2 ⟨by rw [HR.out], hB0⟩
  subst z_prior
  go_wp2_with fail
  refine HK.down _ _ ?_
  clear HK K p5 s5 g33
  skip
  refine wpList_take 7 (fun K hK => ?_)
  simp only [List.take_succ_cons, List.take_zero, List.drop_succ_cons, List.drop_zero] at hK ⊢
  have HK : PLift _ := PLift.up hK
  clear hK
  have g40 : (O[40]?).bind (fun o => o.dst) = some 45 := by rw [HO.down]; rfl
  have p6 := cell_of_row _ _ 6 _ _ _ hr0
  have s6 := cell_of_row _ _ 6 _ _ _ hs0
  have p7 := cell_of_row _ _ 7 _ _ _ hr0
  have s7 := cell_of_row _ _ 7 _ _ _ hs0
  go_wp2_with fail
  refine (HH_thr.down _ hB0).mono ?_
  rintro r w1 ⟨rfl, b1⟩
  have hr1 := rowLater b1 hr0
  have hs1 := rowLater b1 hs0
  have hB1 := ext_trans hB0 b1
  clear HH_thr b1 hr0 hs0 hB0 p6 s6 p7 s7
  by_cases z_thr : thr1 = thr2
  rotate_left
  · rw [decide_eq_false z_thr]
    have HR := Lib.hid (show q = false by rw [HQ.down, decide_eq_false_iff_not]; intro h; exact z_thr (congrArg EvV.thr h))
    go_wp2_with fail
    refine HK.down _ _ ?_
    refine skip_one 122 [52] 4 (by rw [HO.down]; kernel_rfl) rfl (fun s hm => by rw [List.mem_singleton.1 hm]; rfl) (fun a' h1 h2 => ?_)
    refine hKK.down _ _ ?_
    exact ret_false rfl h1 h2 ⟨by rw [HR.out], hB1⟩
  rw [decide_eq_true z_thr]
  go_wp2_with fail
  refine HK.down _ _ ?_
  clear HK K g40
  have Z_thr : PLift (thr1 = thr2) := PLift.up z_thr
  clear z_thr
  refine wpList_take 7 (fun K hK => ?_)
  simp only [List.take_succ_cons, List.take_zero, List.drop_succ_cons, List.drop_zero] at hK ⊢
  have HK : PLift _ := PLift.up hK
  clear hK
  have g47 : (O[47]?).bind (fun o => o.dst) = some 52 := by rw [HO.down]; rfl
  have p8 := cell_of_row _ _ 8 _ _ _ hr1
  have s8 := cell_of_row _ _ 8 _ _ _ hs1
  go_wp2_with fail
  refine (HH_keys.down _ hB1).mono ?_
  rintro r w2 ⟨rfl, b2⟩
  have hr2 := rowLater b2 hr1
  have hs2 := rowLater b2 hs1
  have hB2 := ext_trans hB1 b2
  clear HH_keys b2 hr1 hs1 hB1 p8 s8
  by_cases z_keys : keys1 = keys2
  rotate_left
  · rw [decide_eq_false z_keys]
    have HR := Lib.hid (show q = false by rw [HQ.down, decide_eq_false_iff_not]; intro h; exact z_keys (congrArg EvV.keys h))
    go_wp2_with fail
    refine HK.down _ _ ?_
    refine skip_one 122 [59] 4 (by rw [HO.down]; kernel_rfl) rfl (fun s hm => by rw [List.mem_singleton.1 hm]; rfl) (fun a' h1 h2 => ?_)
    refine hKK.down _ _ ?_
    exact ret_false rfl h1 h2 ⟨by rw [HR.out], hB2⟩
  rw [decide_eq_true z_keys]
  go_wp2_with fail
  refine HK.down _ _ ?_
  clear HK K g47
  have Z_keys : PLift (keys1 = keys2) := PLift.up z_keys
  clear z_keys
  refine wpList_take 7 (fun K hK => ?_)
  simp only [List.take_succ_cons, List.take_zero, List.drop_succ_cons, List.drop_zero] at hK ⊢
  have HK : PLift _ := PLift.up hK
  clear hK
  have g54 : (O[54]?).bind (fun o => o.dst) = some 59 := by rw [HO.down]; rfl
  have p9 := cell_of_row _ _ 9 _ _ _ hr2
  have s9 := cell_of_row _ _ 9 _ _ _ hs2
  have p10 := cell_of_row _ _ 10 _ _ _ hr2
  have s10 := cell_of_row _ _ 10 _ _ _ hs2
  go_wp2_with fail
  refine (HH_nthr.down _ hB2).mono ?_
  rintro r w3 ⟨rfl, b3⟩
  have hr3 := rowLater b3 hr2
  have hs3 := rowLater b3 hs2
  have hB3 := ext_trans hB2 b3
  clear HH_nthr b3 hr2 hs2 hB2 p9 s9 p10 s10
  by_cases z_nthr : nthr1 = nthr2
  rotate_left
  · rw [decide_eq_false z_nthr]
    have HR := Lib.hid (show q = false by rw [HQ.down, decide_eq_false_iff_not]; intro h; exact z_nthr (congrArg EvV.nthr h))
    go_wp2_with fail
    refine HK.down _ _ ?_
    refine skip_one 122 [66] 4 (by rw [HO.down]; kernel_rfl) rfl (fun s hm => by rw [List.mem_singleton.1 hm]; rfl) (fun a' h1 h2 => ?_)
    refine hKK.down _ _ ?_
    exact ret_false rfl h1 h2 ⟨by rw [HR.out], hB3⟩
  rw [decide_eq_true z_nthr]
  go_wp2_with fail
  refine HK.down _ _ ?_
  clear HK K g54
  have Z_nthr : PLift (nthr1 = nthr2) := PLift.up z_nthr
  clear z_nthr
  refine wpList_take 7 (fun K hK => ?_)
  simp only [List.take_succ_cons, List.take_zero, List.drop_succ_cons, List.drop_zero] at hK ⊢
  have HK : PLift _ := PLift.up hK
  clear hK
  have g61 : (O[61]?).bind (fun o => o.dst) = some 66 := by rw [HO.down]; rfl
  have p11 := cell_of_row _ _ 11 _ _ _ hr3
  have s11 := cell_of_row _ _ 11 _ _ _ hs3
  go_wp2_with fail
  refine (HH_next.down _ hB3).mono ?_
  rintro r w4 ⟨rfl, b4⟩
  have hr4 := rowLater b4 hr3
  have hs4 := rowLater b4 hs3
  have hB4 := ext_trans hB3 b4
  clear HH_next b4 hr3 hs3 hB3 p11 s11
  by_cases z_next : next1 = next2
  rotate_left
  · rw [decide_eq_false z_next]
    have HR := Lib.hid (show q = false by rw [HQ.down, decide_eq_false_iff_not]; intro h; exact z_next (congrArg EvV.next h))
    go_wp2_with fail
    refine HK.down _ _ ?_
    refine skip_one 122 [73] 4 (by rw [HO.down]; kernel_rfl) rfl (fun s hm => by rw [List.mem_singleton.1 hm]; rfl) (fun a' h1 h2 => ?_)
    refine hKK.down _ _ ?_
    exact ret_false rfl h1 h2 ⟨by rw [HR.out], hB4⟩
  rw [decide_eq_true z_next]
  go_wp2_with fail
  refine HK.down _ _ ?_
  clear HK K g61
  have Z_next : PLift (next1 = next2) := PLift.up z_next
  clear z_next
  refine wpList_take 7 (fun K hK => ?_)
  simp only [List.take_succ_cons, List.take_zero, List.drop_succ_cons, List.drop_zero] at hK ⊢
  have HK : PLift _ := PLift.up hK
  clear hK
  have g68 : (O[68]?).bind (fun o => o.dst) = some 73 := by rw [HO.down]; rfl
  have p12 := cell_of_row _ _ 12 _ _ _ hr4
  have s12 := cell_of_row _ _ 12 _ _ _ hs4
  by_cases z_tol : tol1 = tol2
  rotate_left
  · have t_tol : (tol1 == tol2) = false := by simpa using z_tol
    have HR := Lib.hid (show q = false by rw [HQ.down, decide_eq_false_iff_not]; intro h; exact z_tol (congrArg EvV.tol h))
    go_wp2_with fail
    refine HK.down _ _ ?_
    refine skip_one 122 [80] 4 (by rw [HO.down]; kernel_rfl) rfl (fun s hm => by rw [List.mem_singleton.1 hm]; rfl) (fun a' h1 h2 => ?_)
    refine hKK.down _ _ ?_
    exact ret_false rfl h1 h2 ⟨by rw [HR.out], hB4⟩
  subst z_tol
  go_wp2_with fail
  refine HK.down _ _ ?_
  clear HK K p12 s12 g68
  skip
  refine wpList_take 7 (fun K hK => ?_)
  simp only [List.take_succ_cons, List.take_zero, List.drop_succ_cons, List.drop_zero] at hK ⊢
  have HK : PLift _ := PLift.up hK
  clear hK
  have g75 : (O[75]?).bind (fun o => o.dst) = some 80 := by rw [HO.down]; rfl
  have p13 := cell_of_row _ _ 13 _ _ _ hr4
  have s13 := cell_of_row _ _ 13 _ _ _ hs4
  go_wp2_with fail
  refine (HH_wits.down _ hB4).mono ?_
  rintro r w5 ⟨rfl, b5⟩
  have hr5 := rowLater b5 hr4
  have hs5 := rowLater b5 hs4
  have hB5 := ext_trans hB4 b5
  clear HH_wits b5 hr4 hs4 hB4 p13 s13
  by_cases z_wits : wits1 = wits2
  rotate_left
  · rw [decide_eq_false z_wits]
    have HR := Lib.hid (show q = false by rw [HQ.down, decide_eq_false_iff_not]; intro h; exact z_wits (congrArg EvV.wits h))
    go_wp2_with fail
    refine HK.down _ _ ?_
    refine skip_one 122 [87] 4 (by rw [HO.down]; kernel_rfl) rfl (fun s hm => by rw [List.mem_singleton.1 hm]; rfl) (fun a' h1 h2 => ?_)
    refine hKK.down _ _ ?_
    exact ret_false rfl h1 h2 ⟨by rw [HR.out], hB5⟩
  rw [decide_eq_true z_wits]
  go_wp2_with fail
  refine HK.down _ _ ?_
  clear HK K g75
  have Z_wits : PLift (wits1 = wits2) := PLift.up z_wits
  clear z_wits
  refine wpList_take 7 (fun K hK => ?_)
  simp only [List.take_succ_cons, List.take_zero, List.drop_succ_cons, List.drop_zero] at hK ⊢
  have HK : PLift _ := PLift.up hK
  clear hK
  have g82 : (O[82]?).bind (fun o => o.dst) = some 87 := by rw [HO.down]; rfl
  have p14 := cell_of_row _ _ 14 _ _ _ hr5
  have s14 := cell_of_row _ _ 14 _ _ _ hs5
  go_wp2_with fail
  refine (HH_cuts.down _ hB5).mono ?_
  rintro r w6 ⟨rfl, b6⟩
  have hr6 := rowLater b6 hr5
  have hs6 := rowLater b6 hs5
  have hB6 := ext_trans hB5 b6
  clear HH_cuts b6 hr5 hs5 hB5 p14 s14
  by_cases z_cuts : cuts1 = cuts2
  rotate_left
  · rw [decide_eq_false z_cuts]
    have HR := Lib.hid (show q = false by rw [HQ.down, decide_eq_false_iff_not]; intro h; exact z_cuts (congrArg EvV.cuts h))
    go_wp2_with fail
    refine HK.down _ _ ?_
    refine skip_one 122 [94] 4 (by rw [HO.down]; kernel_rfl) rfl (fun s hm => by rw [List.mem_singleton.1 hm]; rfl) (fun a' h1 h2 => ?_)
    refine hKK.down _ _ ?_
    exact ret_false rfl h1 h2 ⟨by rw [HR.out], hB6⟩
  rw [decide_eq_true z_cuts]
  go_wp2_with fail
  refine HK.down _ _ ?_
  clear HK K g82
  have Z_cuts : PLift (cuts1 = cuts2) := PLift.up z_cuts
  clear z_cuts
  refine wpList_take 7 (fun K hK => ?_)
  simp only [List.take_succ_cons, List.take_zero, List.drop_succ_cons, List.drop_zero] at hK ⊢
  have HK : PLift _ := PLift.up hK
  clear hK
  have g89 : (O[89]?).bind (fun o => o.dst) = some 94 := by rw [HO.down]; rfl
  have p15 := cell_of_row _ _ 15 _ _ _ hr6
  have s15 := cell_of_row _ _ 15 _ _ _ hs6
  go_wp2_with fail
  refine (HH_adds.down _ hB6).mono ?_
  rintro r w7 ⟨rfl, b7⟩
  have hr7 := rowLater b7 hr6
  have hs7 := rowLater b7 hs6
  have hB7 := ext_trans hB6 b7
  clear HH_adds b7 hr6 hs6 hB6 p15 s15
  by_cases z_adds : adds1 = adds2
  rotate_left
  · rw [decide_eq_false z_adds]
    have HR := Lib.hid (show q = false by rw [HQ.down, decide_eq_false_iff_not]; intro h; exact z_adds (congrArg EvV.adds h))
    go_wp2_with fail
    refine HK.down _ _ ?_
    refine skip_one 122 [101] 4 (by rw [HO.down]; kernel_rfl) rfl (fun s hm => by rw [List.mem_singleton.1 hm]; rfl) (fun a' h1 h2 => ?_)
    refine hKK.down _ _ ?_
    exact ret_false rfl h1 h2 ⟨by rw [HR.out], hB7⟩
  rw [decide_eq_true z_adds]
  go_wp2_with fail
  refine HK.down _ _ ?_
  clear HK K g89
  have Z_adds : PLift (adds1 = adds2) := PLift.up z_adds
  clear z_adds
  refine wpList_take 7 (fun K hK => ?_)
  simp only [List.take_succ_cons, List.take_zero, List.drop_succ_cons, List.drop_zero] at hK ⊢
  have HK : PLift _ := PLift.up hK
  clear hK
  have g96 : (O[96]?).bind (fun o => o.dst) = some 101 := by rw [HO.down]; rfl
  have p16 := cell_of_row _ _ 16 _ _ _ hr7
  have s16 := cell_of_row _ _ 16 _ _ _ hs7
  go_wp2_with fail
  refine (HH_conf.down _ hB7).mono ?_
  rintro r w8 ⟨rfl, b8⟩
  have hr8 := rowLater b8 hr7
  have hs8 := rowLater b8 hs7
  have hB8 := ext_trans hB7 b8
  clear HH_conf b8 hr7 hs7 hB7 p16 s16
  by_cases z_conf : conf1 = conf2
  rotate_left
  · rw [decide_eq_false z_conf]
    have HR := Lib.hid (show q = false by rw [HQ.down, decide_eq_false_iff_not]; intro h; exact z_conf (congrArg EvV.conf h))
    go_wp2_with fail
    refine HK.down _ _ ?_
    refine skip_one 122 [108] 4 (by rw [HO.down]; kernel_rfl) rfl (fun s hm => by rw [List.mem_singleton.1 hm]; rfl) (fun a' h1 h2 => ?_)
    refine hKK.down _ _ ?_
    exact ret_false rfl h1 h2 ⟨by rw [HR.out], hB8⟩
  rw [decide_eq_true z_conf]
  go_wp2_with fail
  refine HK.down _ _ ?_
  clear HK K g96
  have Z_conf : PLift (conf1 = conf2) := PLift.up z_conf
  clear z_conf
  refine wpList_take 7 (fun K hK => ?_)
  simp only [List.take_succ_cons, List.take_zero, List.drop_succ_cons, List.drop_zero] at hK ⊢
  have HK : PLift _ := PLift.up hK
  clear hK
  have g103 : (O[103]?).bind (fun o => o.dst) = some 108 := by rw [HO.down]; rfl
  have p17 := cell_of_row _ _ 17 _ _ _ hr8
  have s17 := cell_of_row _ _ 17 _ _ _ hs8
  go_wp2_with fail
  refine (HH_anc.down _ hB8).mono ?_
  rintro r w9 ⟨rfl, b9⟩
  have hr9 := rowLater b9 hr8
  have hs9 := rowLater b9 hs8
  have hB9 := ext_trans hB8 b9
  clear HH_anc b9 hr8 hs8 hB8 p17 s17
  by_cases z_anc : anc1 = anc2
  rotate_left
  · rw [decide_eq_false z_anc]
    have HR := Lib.hid (show q = false by rw [HQ.down, decide_eq_false_iff_not]; intro h; exact z_anc (congrArg EvV.anc h))
    go_wp2_with fail
    refine HK.down _ _ ?_
    refine skip_one 122 [115] 4 (by rw [HO.down]; kernel_rfl) rfl (fun s hm => by rw [List.mem_singleton.1 hm]; rfl) (fun a' h1 h2 => ?_)
    refine hKK.down _ _ ?_
    exact ret_false rfl h1 h2 ⟨by rw [HR.out], hB9⟩
  rw [decide_eq_true z_anc]
  go_wp2_with fail
  refine HK.down _ _ ?_
  clear HK K g103
  have Z_anc : PLift (anc1 = anc2) := PLift.up z_anc
  clear z_anc
  have g110 : (O[110]?).bind (fun o => o.dst) = some 115 := by rw [HO.down]; rfl
  have p18 := cell_of_row _ _ 18 _ _ _ hr9
  have s18 := cell_of_row _ _ 18 _ _ _ hs9
  by_cases z_del : del1 = del2
  rotate_left
  · have t_del : (del1 == del2) = false := by simpa using z_del
    have HR := Lib.hid (show q = false by rw [HQ.down, decide_eq_false_iff_not]; intro h; exact z_del (congrArg EvV.del h))
    go_wp2_with fail
    refine hKK.down _ _ ?_
    go_wp2_with fail
    go_ret
    rw [HR.out]
    exact ⟨rfl, hB9⟩
  subst z_del
  have HR := Lib.hid (show q = true by rw [HQ.down, decide_eq_true_iff]; simp only [Z_thr.down, Z_keys.down, Z_nthr.down, Z_next.down, Z_wits.down, Z_cuts.down, Z_adds.down, Z_conf.down, Z_anc.down])
  go_wp2_with fail
  refine hKK.down _ _ ?_
  go_wp2_with fail
  go_ret
  rw [HR.out]
  exact ⟨rfl, hB9⟩

set_option maxHeartbeats 20000000 in
set_option maxRecDepth 100000 in
theorem r14_same (x y : EvV) (u v : EvS) (w : World) (hx : EvM w x u) (hy : EvM w y v) : Calls Tryz.prog 21 #[.agg (evCells x u), .agg (evCells y v)] w fun r w' => r = .returned (.bool (decide (x = y))) ∧ Below w.heap.size w w' := by
  have h_thr := fun w' (hb : Below w.heap.size w w') => r13_same _ _ x.thr y.thr w' (hx.later hb).thr (hy.later hb).thr
  have h_keys := fun w' (hb : Below w.heap.size w w') => r14_sameTexts _ _ x.keys y.keys w' (hx.later hb).ks (hy.later hb).ks
  have h_nthr := fun w' (hb : Below w.heap.size w w') => r13_same _ _ x.nthr y.nthr w' (hx.later hb).nthr (hy.later hb).nthr
  have h_next := fun w' (hb : Below w.heap.size w w') => r14_sameTexts _ _ x.next y.next w' (hx.later hb).nx (hy.later hb).nx
  have h_wits := fun w' (hb : Below w.heap.size w w') => r14_sameTexts _ _ x.wits y.wits w' (hx.later hb).ws (hy.later hb).ws
  have h_cuts := fun w' (hb : Below w.heap.size w w') => r14_sameTexts _ _ x.cuts y.cuts w' (hx.later hb).cs (hy.later hb).cs
  have h_adds := fun w' (hb : Below w.heap.size w w') => r14_sameTexts _ _ x.adds y.adds w' (hx.later hb).aa (hy.later hb).aa
  have h_conf := fun w' (hb : Below w.heap.size w w') => r14_sameTexts _ _ x.conf y.conf w' (hx.later hb).cf (hy.later hb).cf
  have h_anc := fun w' (hb : Below w.heap.size w w') => r14_sameSeals _ _ x.anc y.anc w' (hx.later hb).an (hy.later hb).an
  have HH_thr : PLift _ := PLift.up h_thr
  clear h_thr
  have HH_keys : PLift _ := PLift.up h_keys
  clear h_keys
  have HH_nthr : PLift _ := PLift.up h_nthr
  clear h_nthr
  have HH_next : PLift _ := PLift.up h_next
  clear h_next
  have HH_wits : PLift _ := PLift.up h_wits
  clear h_wits
  have HH_cuts : PLift _ := PLift.up h_cuts
  clear h_cuts
  have HH_adds : PLift _ := PLift.up h_adds
  clear h_adds
  have HH_conf : PLift _ := PLift.up h_conf
  clear h_conf
  have HH_anc : PLift _ := PLift.up h_anc
  clear h_anc
  obtain ⟨q, hq⟩ : ∃ q, q = decide (x = y) := ⟨_, rfl⟩
  rw [← hq]
  have HQ : PLift _ := PLift.up hq
  clear hq hx hy
  obtain ⟨form1, kind1, said1, pre1, num1, prior1, thr1, keys1, nthr1, next1, tol1, wits1, cuts1, adds1, conf1, anc1, del1⟩ := x
  obtain ⟨form2, kind2, said2, pre2, num2, prior2, thr2, keys2, nthr2, next2, tol2, wits2, cuts2, adds2, conf2, anc2, del2⟩ := y
  obtain ⟨tw1, ks1, nw1, nx1, ws1, cs1, aa1, cf1, an1⟩ := u
  obtain ⟨tw2, ks2, nw2, nx2, ws2, cs2, aa2, cf2, an2⟩ := v
  unfold evCells
  dsimp only at *
  go_enter Tryz.func21, Tryz.ntmps21
  have hB0 := extA2 w (.cells #[.int .i64 form1, .int .i64 kind1, .string ⟨said1.toArray⟩, .string ⟨pre1.toArray⟩, .int .i64 num1, .string ⟨prior1.toArray⟩, .int .i64 thr1.num, tw1, ks1, .int .i64 nthr1.num, nw1, nx1, .int .i64 tol1, ws1, cs1, aa1, cf1, an1, .string ⟨del1.toArray⟩] 35) (.cells #[.int .i64 form2, .int .i64 kind2, .string ⟨said2.toArray⟩, .string ⟨pre2.toArray⟩, .int .i64 num2, .string ⟨prior2.toArray⟩, .int .i64 thr2.num, tw2, ks2, .int .i64 nthr2.num, nw2, nx2, .int .i64 tol2, ws2, cs2, aa2, cf2, an2, .string ⟨del2.toArray⟩] 35)
  have hr0 := hA2_0 w (.cells #[.int .i64 form1, .int .i64 kind1, .string ⟨said1.toArray⟩, .string ⟨pre1.toArray⟩, .int .i64 num1, .string ⟨prior1.toArray⟩, .int .i64 thr1.num, tw1, ks1, .int .i64 nthr1.num, nw1, nx1, .int .i64 tol1, ws1, cs1, aa1, cf1, an1, .string ⟨del1.toArray⟩] 35) (.cells #[.int .i64 form2, .int .i64 kind2, .string ⟨said2.toArray⟩, .string ⟨pre2.toArray⟩, .int .i64 num2, .string ⟨prior2.toArray⟩, .int .i64 thr2.num, tw2, ks2, .int .i64 nthr2.num, nw2, nx2, .int .i64 tol2, ws2, cs2, aa2, cf2, an2, .string ⟨del2.toArray⟩] 35)
  have hs0 := hA2_1 w (.cells #[.int .i64 form1, .int .i64 kind1, .string ⟨said1.toArray⟩, .string ⟨pre1.toArray⟩, .int .i64 num1, .string ⟨prior1.toArray⟩, .int .i64 thr1.num, tw1, ks1, .int .i64 nthr1.num, nw1, nx1, .int .i64 tol1, ws1, cs1, aa1, cf1, an1, .string ⟨del1.toArray⟩] 35) (.cells #[.int .i64 form2, .int .i64 kind2, .string ⟨said2.toArray⟩, .string ⟨pre2.toArray⟩, .int .i64 num2, .string ⟨prior2.toArray⟩, .int .i64 thr2.num, tw2, ks2, .int .i64 nthr2.num, nw2, nx2, .int .i64 tol2, ws2, cs2, aa2, cf2, an2, .string ⟨del2.toArray⟩] 35)
  go_upto_region 1 with (fail)
  rename_i KK hKK0
  have hKK : PLift _ := PLift.up hKK0
  clear hKK0
  generalize (Value.agg #[.int .i64 form1, .int .i64 kind1, .string ⟨said1.toArray⟩, .string ⟨pre1.toArray⟩, .int .i64 num1, .string ⟨prior1.toArray⟩, .int .i64 thr1.num, tw1, ks1, .int .i64 nthr1.num, nw1, nx1, .int .i64 tol1, ws1, cs1, aa1, cf1, an1, .string ⟨del1.toArray⟩]) = V1
  generalize (Value.agg #[.int .i64 form2, .int .i64 kind2, .string ⟨said2.toArray⟩, .string ⟨pre2.toArray⟩, .int .i64 num2, .string ⟨prior2.toArray⟩, .int .i64 thr2.num, tw2, ks2, .int .i64 nthr2.num, nw2, nx2, .int .i64 tol2, ws2, cs2, aa2, cf2, an2, .string ⟨del2.toArray⟩]) = V2
  generalize ((w.alloc (.cells #[.int .i64 form1, .int .i64 kind1, .string ⟨said1.toArray⟩, .string ⟨pre1.toArray⟩, .int .i64 num1, .string ⟨prior1.toArray⟩, .int .i64 thr1.num, tw1, ks1, .int .i64 nthr1.num, nw1, nx1, .int .i64 tol1, ws1, cs1, aa1, cf1, an1, .string ⟨del1.toArray⟩] 35)).alloc (.cells #[.int .i64 form2, .int .i64 kind2, .string ⟨said2.toArray⟩, .string ⟨pre2.toArray⟩, .int .i64 num2, .string ⟨prior2.toArray⟩, .int .i64 thr2.num, tw2, ks2, .int .i64 nthr2.num, nw2, nx2, .int .i64 tol2, ws2, cs2, aa2, cf2, an2, .string ⟨del2.toArray⟩] 35)) = W0 at hB0 hr0 hs0 ⊢
  apply wp_region_lit
  simp only [List.append_eq, List.cons_append, List.nil_append]
  refine hide_ops (fun O hO => ?_)
  have HO : PLift _ := PLift.up hO
  clear hO
  refine wpList_take 6 (fun K hK => ?_)
  simp only [List.take_succ_cons, List.take_zero, List.drop_succ_cons, List.drop_zero] at hK ⊢
  have HK : PLift _ := PLift.up hK
  clear hK
  have p0 := cell_of_row _ _ 0 _ _ _ hr0
  have s0 := cell_of_row _ _ 0 _ _ _ hs0
  by_cases z_form : form1 = form2
  rotate_left
  · have t_form : (form1 == form2) = false := by simpa using z_form
    have HR := Lib.hid (show q = false by rw [HQ.down, decide_eq_false_iff_not]; intro h; exact z_form (congrArg EvV.form h))
    go_wp2_with fail
    refine HK.down _ _ ?_
    refine skip_one 122 [10] 4 (by rw [HO.down]; kernel_rfl) rfl (fun s hm => by rw [List.mem_singleton.1 hm]; rfl) (fun a' h1 h2 => ?_)
    refine hKK.down _ _ ?_
    exact ret_false rfl h1 h2 ⟨by rw [HR.out], hB0⟩
  subst z_form
  go_wp2_with fail
  refine HK.down _ _ ?_
  clear HK K p0 s0
  skip
  refine wpList_take 7 (fun K hK => ?_)
  simp only [List.take_succ_cons, List.take_zero, List.drop_succ_cons, List.drop_zero] at hK ⊢
  have HK : PLift _ := PLift.up hK
  clear hK
  have g5 : (O[5]?).bind (fun o => o.dst) = some 10 := by rw [HO.down]; rfl
  have p1 := cell_of_row _ _ 1 _ _ _ hr0
  have s1 := cell_of_row _ _ 1 _ _ _ hs0
  by_cases z_kind : kind1 = kind2
  rotate_left
  · have t_kind : (kind1 == kind2) = false := by simpa using z_kind
    have HR := Lib.hid (show q = false by rw [HQ.down, decide_eq_false_iff_not]; intro h; exact z_kind (congrArg EvV.kind h))
    go_wp2_with fail
    refine HK.down _ _ ?_
    refine skip_one 122 [17] 4 (by rw [HO.down]; kernel_rfl) rfl (fun s hm => by rw [List.mem_singleton.1 hm]; rfl) (fun a' h1 h2 => ?_)
    refine hKK.down _ _ ?_
    exact ret_false rfl h1 h2 ⟨by rw [HR.out], hB0⟩
  subst z_kind
  go_wp2_with fail
  refine HK.down _ _ ?_
  clear HK K p1 s1 g5
  skip
  refine wpList_take 7 (fun K hK => ?_)
  simp only [List.take_succ_cons, List.take_zero, List.drop_succ_cons, List.drop_zero] at hK ⊢
  have HK : PLift _ := PLift.up hK
  clear hK
  have g12 : (O[12]?).bind (fun o => o.dst) = some 17 := by rw [HO.down]; rfl
  have p2 := cell_of_row _ _ 2 _ _ _ hr0
  have s2 := cell_of_row _ _ 2 _ _ _ hs0
  by_cases z_said : said1 = said2
  rotate_left
  · have t_said : (said1 == said2) = false := by simpa using z_said
    have HR := Lib.hid (show q = false by rw [HQ.down, decide_eq_false_iff_not]; intro h; exact z_said (congrArg EvV.said h))
    go_wp2_with fail
    refine HK.down _ _ ?_
    refine skip_one 122 [24] 4 (by rw [HO.down]; kernel_rfl) rfl (fun s hm => by rw [List.mem_singleton.1 hm]; rfl) (fun a' h1 h2 => ?_)
    refine hKK.down _ _ ?_
    exact ret_false rfl h1 h2 ⟨by rw [HR.out], hB0⟩
  subst z_said
  go_wp2_with fail
  refine HK.down _ _ ?_
  clear HK K p2 s2 g12
  skip
  refine wpList_take 7 (fun K hK => ?_)
  simp only [List.take_succ_cons, List.take_zero, List.drop_succ_cons, List.drop_zero] at hK ⊢
  have HK : PLift _ := PLift.up hK
  clear hK
  have g19 : (O[19]?).bind (fun o => o.dst) = some 24 := by rw [HO.down]; rfl
  have p3 := cell_of_row _ _ 3 _ _ _ hr0
  have s3 := cell_of_row _ _ 3 _ _ _ hs0
  by_cases z_pre : pre1 = pre2
  rotate_left
  · have t_pre : (pre1 == pre2) = false := by simpa using z_pre
    have HR := Lib.hid (show q = false by rw [HQ.down, decide_eq_false_iff_not]; intro h; exact z_pre (congrArg EvV.pre h))
    go_wp2_with fail
    refine HK.down _ _ ?_
    refine skip_one 122 [31] 4 (by rw [HO.down]; kernel_rfl) rfl (fun s hm => by rw [List.mem_singleton.1 hm]; rfl) (fun a' h1 h2 => ?_)
    refine hKK.down _ _ ?_
    exact ret_false rfl h1 h2 ⟨by rw [HR.out], hB0⟩
  subst z_pre
  go_wp2_with fail
  refine HK.down _ _ ?_
  clear HK K p3 s3 g19
  skip
  refine wpList_take 7 (fun K hK => ?_)
  simp only [List.take_succ_cons, List.take_zero, List.drop_succ_cons, List.drop_zero] at hK ⊢
  have HK : PLift _ := PLift.up hK
  clear hK
  have g26 : (O[26]?).bind (fun o => o.dst) = some 31 := by rw [HO.down]; rfl
  have p4 := cell_of_row _ _ 4 _ _ _ hr0
  have s4 := cell_of_row _ _ 4 _ _ _ hs0
  by_cases z_num : num1 = num2
  rotate_left
  · have t_num : (num1 == num2) = false := by simpa using z_num
    have HR := Lib.hid (show q = false by rw [HQ.down, decide_eq_false_iff_not]; intro h; exact z_num (congrArg EvV.num h))
    go_wp2_with fail
    refine HK.down _ _ ?_
    refine skip_one 122 [38] 4 (by rw [HO.down]; kernel_rfl) rfl (fun s hm => by rw [List.mem_singleton.1 hm]; rfl) (fun a' h1 h2 => ?_)
    refine hKK.down _ _ ?_
    exact ret_false rfl h1 h2 ⟨by rw [HR.out], hB0⟩
  subst z_num
  go_wp2_with fail
  refine HK.down _ _ ?_
  clear HK K p4 s4 g26
  skip
  refine wpList_take 7 (fun K hK => ?_)
  simp only [List.take_succ_cons, List.take_zero, List.drop_succ_cons, List.drop_zero] at hK ⊢
  have HK : PLift _ := PLift.up hK
  clear hK
  have g33 : (O[33]?).bind (fun o => o.dst) = some 38 := by rw [HO.down]; rfl
  have p5 := cell_of_row _ _ 5 _ _ _ hr0
  have s5 := cell_of_row _ _ 5 _ _ _ hs0
  by_cases z_prior : prior1 = prior2
  rotate_left
  · have t_prior : (prior1 == prior2) = false := by simpa using z_prior
    have HR := Lib.hid (show q = false by rw [HQ.down, decide_eq_false_iff_not]; intro h; exact z_prior (congrArg EvV.prior h))
    go_wp2_with fail
    refine HK.down _ _ ?_
    refine skip_one 122 [45] 4 (by rw [HO.down]; kernel_rfl) rfl (fun s hm => by rw [List.mem_singleton.1 hm]; rfl) (fun a' h1 h2 => ?_)
    refine hKK.down _ _ ?_
    exact ret_false rfl h1 h2 ⟨by rw [HR.out], hB0⟩
  subst z_prior
  go_wp2_with fail
  refine HK.down _ _ ?_
  clear HK K p5 s5 g33
  skip
  refine wpList_take 7 (fun K hK => ?_)
  simp only [List.take_succ_cons, List.take_zero, List.drop_succ_cons, List.drop_zero] at hK ⊢
  have HK : PLift _ := PLift.up hK
  clear hK
  have g40 : (O[40]?).bind (fun o => o.dst) = some 45 := by rw [HO.down]; rfl
  have p6 := cell_of_row _ _ 6 _ _ _ hr0
  have s6 := cell_of_row _ _ 6 _ _ _ hs0
  have p7 := cell_of_row _ _ 7 _ _ _ hr0
  have s7 := cell_of_row _ _ 7 _ _ _ hs0
  go_wp2_with fail
  refine (HH_thr.down _ hB0).mono ?_
  rintro r w1 ⟨rfl, b1⟩
  have hr1 := rowLater b1 hr0
  have hs1 := rowLater b1 hs0
  have hB1 := ext_trans hB0 b1
  clear HH_thr b1 hr0 hs0 hB0 p6 s6 p7 s7
  by_cases z_thr : thr1 = thr2
  rotate_left
  · rw [decide_eq_false z_thr]
    have HR := Lib.hid (show q = false by rw [HQ.down, decide_eq_false_iff_not]; intro h; exact z_thr (congrArg EvV.thr h))
    go_wp2_with fail
    refine HK.down _ _ ?_
    refine skip_one 122 [52] 4 (by rw [HO.down]; kernel_rfl) rfl (fun s hm => by rw [List.mem_singleton.1 hm]; rfl) (fun a' h1 h2 => ?_)
    refine hKK.down _ _ ?_
    exact ret_false rfl h1 h2 ⟨by rw [HR.out], hB1⟩
  rw [decide_eq_true z_thr]
  go_wp2_with fail
  refine HK.down _ _ ?_
  clear HK K g40
  have Z_thr : PLift (thr1 = thr2) := PLift.up z_thr
  clear z_thr
  refine wpList_take 7 (fun K hK => ?_)
  simp only [List.take_succ_cons, List.take_zero, List.drop_succ_cons, List.drop_zero] at hK ⊢
  have HK : PLift _ := PLift.up hK
  clear hK
  have g47 : (O[47]?).bind (fun o => o.dst) = some 52 := by rw [HO.down]; rfl
  have p8 := cell_of_row _ _ 8 _ _ _ hr1
  have s8 := cell_of_row _ _ 8 _ _ _ hs1
  go_wp2_with fail
  refine (HH_keys.down _ hB1).mono ?_
  rintro r w2 ⟨rfl, b2⟩
  have hr2 := rowLater b2 hr1
  have hs2 := rowLater b2 hs1
  have hB2 := ext_trans hB1 b2
  clear HH_keys b2 hr1 hs1 hB1 p8 s8
  by_cases z_keys : keys1 = keys2
  rotate_left
  · rw [decide_eq_false z_keys]
    have HR := Lib.hid (show q = false by rw [HQ.down, decide_eq_false_iff_not]; intro h; exact z_keys (congrArg EvV.keys h))
    go_wp2_with fail
    refine HK.down _ _ ?_
    refine skip_one 122 [59] 4 (by rw [HO.down]; kernel_rfl) rfl (fun s hm => by rw [List.mem_singleton.1 hm]; rfl) (fun a' h1 h2 => ?_)
    refine hKK.down _ _ ?_
    exact ret_false rfl h1 h2 ⟨by rw [HR.out], hB2⟩
  rw [decide_eq_true z_keys]
  go_wp2_with fail
  refine HK.down _ _ ?_
  clear HK K g47
  have Z_keys : PLift (keys1 = keys2) := PLift.up z_keys
  clear z_keys
  refine wpList_take 7 (fun K hK => ?_)
  simp only [List.take_succ_cons, List.take_zero, List.drop_succ_cons, List.drop_zero] at hK ⊢
  have HK : PLift _ := PLift.up hK
  clear hK
  have g54 : (O[54]?).bind (fun o => o.dst) = some 59 := by rw [HO.down]; rfl
  have p9 := cell_of_row _ _ 9 _ _ _ hr2
  have s9 := cell_of_row _ _ 9 _ _ _ hs2
  have p10 := cell_of_row _ _ 10 _ _ _ hr2
  have s10 := cell_of_row _ _ 10 _ _ _ hs2
  go_wp2_with fail
  refine (HH_nthr.down _ hB2).mono ?_
  rintro r w3 ⟨rfl, b3⟩
  have hr3 := rowLater b3 hr2
  have hs3 := rowLater b3 hs2
  have hB3 := ext_trans hB2 b3
  clear HH_nthr b3 hr2 hs2 hB2 p9 s9 p10 s10
  by_cases z_nthr : nthr1 = nthr2
  rotate_left
  · rw [decide_eq_false z_nthr]
    have HR := Lib.hid (show q = false by rw [HQ.down, decide_eq_false_iff_not]; intro h; exact z_nthr (congrArg EvV.nthr h))
    go_wp2_with fail
    refine HK.down _ _ ?_
    refine skip_one 122 [66] 4 (by rw [HO.down]; kernel_rfl) rfl (fun s hm => by rw [List.mem_singleton.1 hm]; rfl) (fun a' h1 h2 => ?_)
    refine hKK.down _ _ ?_
    exact ret_false rfl h1 h2 ⟨by rw [HR.out], hB3⟩
  rw [decide_eq_true z_nthr]
  go_wp2_with fail
  refine HK.down _ _ ?_
  clear HK K g54
  have Z_nthr : PLift (nthr1 = nthr2) := PLift.up z_nthr
  clear z_nthr
  refine wpList_take 7 (fun K hK => ?_)
  simp only [List.take_succ_cons, List.take_zero, List.drop_succ_cons, List.drop_zero] at hK ⊢
  have HK : PLift _ := PLift.up hK
  clear hK
  have g61 : (O[61]?).bind (fun o => o.dst) = some 66 := by rw [HO.down]; rfl
  have p11 := cell_of_row _ _ 11 _ _ _ hr3
  have s11 := cell_of_row _ _ 11 _ _ _ hs3
  go_wp2_with fail
  refine (HH_next.down _ hB3).mono ?_
  rintro r w4 ⟨rfl, b4⟩
  have hr4 := rowLater b4 hr3
  have hs4 := rowLater b4 hs3
  have hB4 := ext_trans hB3 b4
  clear HH_next b4 hr3 hs3 hB3 p11 s11
  by_cases z_next : next1 = next2
  rotate_left
  · rw [decide_eq_false z_next]
    have HR := Lib.hid (show q = false by rw [HQ.down, decide_eq_false_iff_not]; intro h; exact z_next (congrArg EvV.next h))
    go_wp2_with fail
    refine HK.down _ _ ?_
    refine skip_one 122 [73] 4 (by rw [HO.down]; kernel_rfl) rfl (fun s hm => by rw [List.mem_singleton.1 hm]; rfl) (fun a' h1 h2 => ?_)
    refine hKK.down _ _ ?_
    exact ret_false rfl h1 h2 ⟨by rw [HR.out], hB4⟩
  rw [decide_eq_true z_next]
  go_wp2_with fail
  refine HK.down _ _ ?_
  clear HK K g61
  have Z_next : PLift (next1 = next2) := PLift.up z_next
  clear z_next
  refine wpList_take 7 (fun K hK => ?_)
  simp only [List.take_succ_cons, List.take_zero, List.drop_succ_cons, List.drop_zero] at hK ⊢
  have HK : PLift _ := PLift.up hK
  clear hK
  have g68 : (O[68]?).bind (fun o => o.dst) = some 73 := by rw [HO.down]; rfl
  have p12 := cell_of_row _ _ 12 _ _ _ hr4
  have s12 := cell_of_row _ _ 12 _ _ _ hs4
  by_cases z_tol : tol1 = tol2
  rotate_left
  · have t_tol : (tol1 == tol2) = false := by simpa using z_tol
    have HR := Lib.hid (show q = false by rw [HQ.down, decide_eq_false_iff_not]; intro h; exact z_tol (congrArg EvV.tol h))
    go_wp2_with fail
    refine HK.down _ _ ?_
    refine skip_one 122 [80] 4 (by rw [HO.down]; kernel_rfl) rfl (fun s hm => by rw [List.mem_singleton.1 hm]; rfl) (fun a' h1 h2 => ?_)
    refine hKK.down _ _ ?_
    exact ret_false rfl h1 h2 ⟨by rw [HR.out], hB4⟩
  subst z_tol
  go_wp2_with fail
  refine HK.down _ _ ?_
  clear HK K p12 s12 g68
  skip
  refine wpList_take 7 (fun K hK => ?_)
  simp only [List.take_succ_cons, List.take_zero, List.drop_succ_cons, List.drop_zero] at hK ⊢
  have HK : PLift _ := PLift.up hK
  clear hK
  have g75 : (O[75]?).bind (fun o => o.dst) = some 80 := by rw [HO.down]; rfl
  have p13 := cell_of_row _ _ 13 _ _ _ hr4
  have s13 := cell_of_row _ _ 13 _ _ _ hs4
  go_wp2_with fail
  refine (HH_wits.down _ hB4).mono ?_
  rintro r w5 ⟨rfl, b5⟩
  have hr5 := rowLater b5 hr4
  have hs5 := rowLater b5 hs4
  have hB5 := ext_trans hB4 b5
  clear HH_wits b5 hr4 hs4 hB4 p13 s13
  by_cases z_wits : wits1 = wits2
  rotate_left
  · rw [decide_eq_false z_wits]
    have HR := Lib.hid (show q = false by rw [HQ.down, decide_eq_false_iff_not]; intro h; exact z_wits (congrArg EvV.wits h))
    go_wp2_with fail
    refine HK.down _ _ ?_
    refine skip_one 122 [87] 4 (by rw [HO.down]; kernel_rfl) rfl (fun s hm => by rw [List.mem_singleton.1 hm]; rfl) (fun a' h1 h2 => ?_)
    refine hKK.down _ _ ?_
    exact ret_false rfl h1 h2 ⟨by rw [HR.out], hB5⟩
  rw [decide_eq_true z_wits]
  go_wp2_with fail
  refine HK.down _ _ ?_
  clear HK K g75
  have Z_wits : PLift (wits1 = wits2) := PLift.up z_wits
  clear z_wits
  refine wpList_take 7 (fun K hK => ?_)
  simp only [List.take_succ_cons, List.take_zero, List.drop_succ_cons, List.drop_zero] at hK ⊢
  have HK : PLift _ := PLift.up hK
  clear hK
  have g82 : (O[82]?).bind (fun o => o.dst) = some 87 := by rw [HO.down]; rfl
  have p14 := cell_of_row _ _ 14 _ _ _ hr5
  have s14 := cell_of_row _ _ 14 _ _ _ hs5
  go_wp2_with fail
  refine (HH_cuts.down _ hB5).mono ?_
  rintro r w6 ⟨rfl, b6⟩
  have hr6 := rowLater b6 hr5
  have hs6 := rowLater b6 hs5
  have hB6 := ext_trans hB5 b6
  clear HH_cuts b6 hr5 hs5 hB5 p14 s14
  by_cases z_cuts : cuts1 = cuts2
  rotate_left
  · rw [decide_eq_false z_cuts]
    have HR := Lib.hid (show q = false by rw [HQ.down, decide_eq_false_iff_not]; intro h; exact z_cuts (congrArg EvV.cuts h))
    go_wp2_with fail
    refine HK.down _ _ ?_
    refine skip_one 122 [94] 4 (by rw [HO.down]; kernel_rfl) rfl (fun s hm => by rw [List.mem_singleton.1 hm]; rfl) (fun a' h1 h2 => ?_)
    refine hKK.down _ _ ?_
    exact ret_false rfl h1 h2 ⟨by rw [HR.out], hB6⟩
  rw [decide_eq_true z_cuts]
  go_wp2_with fail
  refine HK.down _ _ ?_
  clear HK K g82
  have Z_cuts : PLift (cuts1 = cuts2) := PLift.up z_cuts
  clear z_cuts
  refine wpList_take 7 (fun K hK => ?_)
  simp only [List.take_succ_cons, List.take_zero, List.drop_succ_cons, List.drop_zero] at hK ⊢
  have HK : PLift _ := PLift.up hK
  clear hK
  have g89 : (O[89]?).bind (fun o => o.dst) = some 94 := by rw [HO.down]; rfl
  have p15 := cell_of_row _ _ 15 _ _ _ hr6
  have s15 := cell_of_row _ _ 15 _ _ _ hs6
  go_wp2_with fail
  refine (HH_adds.down _ hB6).mono ?_
  rintro r w7 ⟨rfl, b7⟩
  have hr7 := rowLater b7 hr6
  have hs7 := rowLater b7 hs6
  have hB7 := ext_trans hB6 b7
  clear HH_adds b7 hr6 hs6 hB6 p15 s15
  by_cases z_adds : adds1 = adds2
  rotate_left
  · rw [decide_eq_false z_adds]
    have HR := Lib.hid (show q = false by rw [HQ.down, decide_eq_false_iff_not]; intro h; exact z_adds (congrArg EvV.adds h))
    go_wp2_with fail
    refine HK.down _ _ ?_
    refine skip_one 122 [101] 4 (by rw [HO.down]; kernel_rfl) rfl (fun s hm => by rw [List.mem_singleton.1 hm]; rfl) (fun a' h1 h2 => ?_)
    refine hKK.down _ _ ?_
    exact ret_false rfl h1 h2 ⟨by rw [HR.out], hB7⟩
  rw [decide_eq_true z_adds]
  go_wp2_with fail
  refine HK.down _ _ ?_
  clear HK K g89
  have Z_adds : PLift (adds1 = adds2) := PLift.up z_adds
  clear z_adds
  refine wpList_take 7 (fun K hK => ?_)
  simp only [List.take_succ_cons, List.take_zero, List.drop_succ_cons, List.drop_zero] at hK ⊢
  have HK : PLift _ := PLift.up hK
  clear hK
  have g96 : (O[96]?).bind (fun o => o.dst) = some 101 := by rw [HO.down]; rfl
  have p16 := cell_of_row _ _ 16 _ _ _ hr7
  have s16 := cell_of_row _ _ 16 _ _ _ hs7
  go_wp2_with fail
  refine (HH_conf.down _ hB7).mono ?_
  rintro r w8 ⟨rfl, b8⟩
  have hr8 := rowLater b8 hr7
  have hs8 := rowLater b8 hs7
  have hB8 := ext_trans hB7 b8
  clear HH_conf b8 hr7 hs7 hB7 p16 s16
  by_cases z_conf : conf1 = conf2
  rotate_left
  · rw [decide_eq_false z_conf]
    have HR := Lib.hid (show q = false by rw [HQ.down, decide_eq_false_iff_not]; intro h; exact z_conf (congrArg EvV.conf h))
    go_wp2_with fail
    refine HK.down _ _ ?_
    refine skip_one 122 [108] 4 (by rw [HO.down]; kernel_rfl) rfl (fun s hm => by rw [List.mem_singleton.1 hm]; rfl) (fun a' h1 h2 => ?_)
    refine hKK.down _ _ ?_
    exact ret_false rfl h1 h2 ⟨by rw [HR.out], hB8⟩
  rw [decide_eq_true z_conf]
  go_wp2_with fail
  refine HK.down _ _ ?_
  clear HK K g96
  have Z_conf : PLift (conf1 = conf2) := PLift.up z_conf
  clear z_conf
  refine wpList_take 7 (fun K hK => ?_)
  simp only [List.take_succ_cons, List.take_zero, List.drop_succ_cons, List.drop_zero] at hK ⊢
  have HK : PLift _ := PLift.up hK
  clear hK
  have g103 : (O[103]?).bind (fun o => o.dst) = some 108 := by rw [HO.down]; rfl
  have p17 := cell_of_row _ _ 17 _ _ _ hr8
  have s17 := cell_of_row _ _ 17 _ _ _ hs8
  go_wp2_with fail
  refine (HH_anc.down _ hB8).mono ?_
  rintro r w9 ⟨rfl, b9⟩
  have hr9 := rowLater b9 hr8
  have hs9 := rowLater b9 hs8
  have hB9 := ext_trans hB8 b9
  clear HH_anc b9 hr8 hs8 hB8 p17 s17
  by_cases z_anc : anc1 = anc2
  rotate_left
  · rw [decide_eq_false z_anc]
    have HR := Lib.hid (show q = false by rw [HQ.down, decide_eq_false_iff_not]; intro h; exact z_anc (congrArg EvV.anc h))
    go_wp2_with fail
    refine HK.down _ _ ?_
    refine skip_one 122 [115] 4 (by rw [HO.down]; kernel_rfl) rfl (fun s hm => by rw [List.mem_singleton.1 hm]; rfl) (fun a' h1 h2 => ?_)
    refine hKK.down _ _ ?_
    exact ret_false rfl h1 h2 ⟨by rw [HR.out], hB9⟩
  rw [decide_eq_true z_anc]
  go_wp2_with fail
  refine HK.down _ _ ?_
  clear HK K g103
  have Z_anc : PLift (anc1 = anc2) := PLift.up z_anc
  clear z_anc
  have g110 : (O[110]?).bind (fun o => o.dst) = some 115 := by rw [HO.down]; rfl
  have p18 := cell_of_row _ _ 18 _ _ _ hr9
  have s18 := cell_of_row _ _ 18 _ _ _ hs9
  by_cases z_del : del1 = del2
  rotate_left
  · have t_del : (del1 == del2) = false := by simpa using z_del
    have HR := Lib.hid (show q = false by rw [HQ.down, decide_eq_false_iff_not]; intro h; exact z_del (congrArg EvV.del h))
    go_wp2_with fail
    refine hKK.down _ _ ?_
    go_wp2_with fail
    go_ret
    rw [HR.out]
    exact ⟨rfl, hB9⟩
  subst z_del
  have HR := Lib.hid (show q = true by rw [HQ.down, decide_eq_true_iff]; simp only [Z_thr.down, Z_keys.down, Z_nthr.down, Z_next.down, Z_wits.down, Z_cuts.down, Z_adds.down, Z_conf.down, Z_anc.down])
  go_wp2_with fail
  refine hKK.down _ _ ?_
  go_wp2_with fail
  go_ret
  rw [HR.out]
  exact ⟨rfl, hB9⟩

end Go.Proofs.YtkinlobfdkeamaaGreatDoor

