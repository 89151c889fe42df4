/- step, Clean. -/
import Derived.Test.YtdmobhndbibhoaaGreatA34
namespace Go.Proofs.YtdmobhndbibhoaaGreat
set_option linter.unusedVariables false
set_option linter.unusedSimpArgs false
open Go.RowKit Larch
set_option maxRecDepth 100000
attribute [local go_sem ↓] Go.wp_at_zero Go.wp_at_succ
theorem root_cnt (c : List HFr) : ∀ (e : HFr) (T : HTree), 1 ≤ cntC (plug (e :: c) T).ann.1 (e :: c) := by
 induction c with
 | nil => intro e T; simp only [plug, mk_ann, cntC, one_self]; omega
 | cons f c ih =>
   intro e T
   have := ih f (mk e.x e.d e.s T e.sib)
   have h : plug (e :: f :: c) T = plug (f :: c) (mk e.x e.d e.s T e.sib) := rfl
   rw [h, cntC]
   omega
theorem root_ne {g : Gt} {w : World} {u e : HFr} {c : List HFr} {t : HTree} (h : Tree g w (plug (u :: e :: c) t)) : u.x.1 ≠ (plug (u :: e :: c) t).ann.1 := fun he => by
 have h1 := root_cnt c e (mk u.x u.d u.s t u.sib)
 have h2 := h.2 u.x.1
 have h3 : (plug (u :: e :: c) t) = plug (e :: c) (mk u.x u.d u.s t u.sib) := rfl
 rw [h3] at he h2
 rw [← he] at h1
 rw [cnt_plug, cnt_mk, one_self] at h2
 omega
theorem plug_ann (u : HFr) (c : List HFr) : ∀ (N N' : HTree), (plug (u :: c) N).ann = (plug (u :: c) N').ann := by
 induction c generalizing u with
 | nil => intro N N'; simp only [plug, mk_ann]
 | cons e c ih => intro N N'; exact ih e _ _
def DoneR (Q : World → Prop) (e : Ending) (w' : World) : Prop := e = .returned (.tuple #[]) ∧ Q w'
set_option maxHeartbeats 2000000 in
theorem step_red {g : Gt} {b cap be : Nat} {f e u : HFr} {c : List HFr} {v : HTree} {w : World} (hp : PathAt g w (f :: e :: u :: c) v b cap) (hlen : (f :: e :: u :: c).length < 900000)
 (hv : HT g w v) (hv0 : v.it.w = 0) (Q : World → Prop) (hR : Calls Tryz.prog 234 #[gval g, ptr be, ptr u.x.1, ptr e.x.1, ptr f.x.1] w.drew (DoneR Q)) :
 Calls Tryz.prog 191 #[gval g, ptr be, .slice (some ⟨b, 0, none⟩) ((f :: e :: u :: c).length + 1) cap] w (DoneR Q) := by
 have hup := fun k W (h : PathAt g W (f :: e :: u :: c) v b cap) => up_any k h hlen
 have hc0 := hp.cell 0 (by omega)
 generalize hn : (f :: e :: u :: c).length = n at *
 unfold ptr at *
 go_enter Tryz.func191, Tryz.ntmps191
 have hpd := hp.fr0 (Fr.drew g No w)
 have hc0 : w.drew.cell? ⟨b, n, none⟩ = some (.pointer (some ⟨v.ann.1, 0, none⟩)) := hc0
 have hx1 : IntKind.i64.wrap ((n : Int)) = (n : Int) := IntWalk.i64_in _ (by omega)
 have hx2 : (n : Int) < (n : Int) + 1 := by omega
 go_wp2_with fail
 refine wp_region_X (S := fun w' => w' = w.drew) [] (by kernel_rfl) ?_
 refine tY 0 _ rfl (by kernel_rfl) (fun _ _ _ => id) rfl (by rfl) (by intro wq _; go_simp <;> with_reducible rfl) ?_
 try go_frame
 refine tY 1 _ rfl (by kernel_rfl) (fun _ _ _ => id) rfl (by rfl) (by intro wq _; go_simp <;> with_reducible rfl) ?_
 try go_frame
 refine tY 2 _ rfl (by kernel_rfl) (fun _ _ _ => id) rfl (by rfl) (by intro wq _; go_simp <;> with_reducible rfl) ?_
 try go_frame
 refine tY 3 _ rfl (by kernel_rfl) (fun _ _ _ => id) rfl (by rfl) (by intro wq _; go_simp <;> with_reducible rfl) ?_
 try go_frame
 refine tY 4 _ rfl (by kernel_rfl) (fun _ _ _ => id) rfl (by rfl) (by intro wq _; go_simp <;> with_reducible rfl) ?_
 try go_frame
 refine tY 6 _ rfl (by kernel_rfl) (fun _ _ _ => id) rfl (by rfl) (by intro wq _; go_simp <;> with_reducible rfl) ?_
 try go_frame
 refine tY 8 _ rfl (by kernel_rfl) (fun _ _ _ => id) rfl (by rfl) (by intro wq _; go_simp <;> with_reducible rfl) ?_
 try go_frame
 refine tX 5 _ rfl (by kernel_rfl) (fun _ _ _ => id) rfl (by rfl) (by intro wq hSq; subst hSq; have z0 := hc0; go_simp <;> with_reducible rfl) ?_
 try go_frame
 refine wpAnyX_ready (rs := [7]) (by kernel_rfl) (by simp) ?_
 refine ReadyX.cons rfl (fun K hK => ?_) ReadyX.nil
 go_simp
 refine (hup 1 _ hpd).mono ?_
 rintro e1 w1 ⟨rfl, rfl⟩
 refine hK.out _ _ rfl (fun hSx => ?_)
 clear hK K hSx
 try go_frame
 refine wpAnyX_ready (rs := [9]) (by kernel_rfl) (by simp) ?_
 refine ReadyX.cons rfl (fun K hK => ?_) ReadyX.nil
 go_simp
 refine (hup 2 _ hpd).mono ?_
 rintro e1 w1 ⟨rfl, rfl⟩
 refine hK.out _ _ rfl (fun hSx => ?_)
 clear hK K hSx
 try go_frame
 refine tY 10 _ rfl (by kernel_rfl) (fun _ _ _ => id) rfl (by rfl) (by intro wq _; go_simp <;> with_reducible rfl) ?_
 try go_frame
 refine tY 11 _ rfl (by kernel_rfl) (fun _ _ _ => id) rfl (by rfl) (by intro wq _; go_simp <;> with_reducible rfl) ?_
 try go_frame
 refine tY 12 _ rfl (by kernel_rfl) (fun _ _ _ => id) rfl (by rfl) (by intro wq _; go_simp <;> with_reducible rfl) ?_
 try go_frame
 refine wpAnyX_done (by kernel_rfl) ?_ _
 clear hx1 hx2
 have hwv := HT.wk (k := 0) (hv.fr0 (Fr.drew g No w)) rfl hv0
 have e1 : lastB (f :: e :: u :: c) v 1 = some ⟨f.x.1, 0, none⟩ := rfl
 have e2 : lastB (f :: e :: u :: c) v 2 = some ⟨e.x.1, 0, none⟩ := rfl
 have e3 : lastB (f :: e :: u :: c) v 3 = some ⟨u.x.1, 0, none⟩ := rfl
 rw [e1, e2]
 have hu3 := hup 3 _ hpd
 rw [e3] at hu3
 clear hup hp hc0 hpd
 go_wp2_with (first | (go_at_call 232; refine hwv.mono ?_; rintro e w6 ⟨rfl, rfl⟩) | (go_at_call 233; refine hu3.mono ?_; rintro e w6 ⟨rfl, rfl⟩))
 refine hR.mono ?_
 rintro e w7 ⟨rfl, hQ⟩
 have HQ := Lib.hid hQ
 clear hQ hR hwv hu3
 go_wp2
 go_end0
 exact ⟨rfl, HQ.out⟩
set_option maxHeartbeats 4000000 in
theorem step_over_f_1 {g : Gt} {m b cap be : Nat} {fx : Nat × Nat} {fd : It} {e : HFr} {c : List HFr} {v r : HTree} {w : World} (hg : GOk g m w) (hm : m + 300 < LIM) (hp : PathAt g w (⟨fx, fd, false, r⟩ :: e :: c) v b cap) (hlen : (⟨fx, fd, false, r⟩ :: e :: c : List HFr).length < 900000)
 (hX : HT g w (mk fx fd false v r)) (hne : v.ann.1 ≠ r.ann.1) (hv2 : v.it.w = 2) (hrw : r.it.w = 1) (Q : World → Prop)
 (hR : ∀ w', Fr g No w w' → GOk g (m + 3) w' → Calls Tryz.prog 236 #[gval g, ptr be, ptr e.x.1, ptr fx.1, ptr v.ann.1] w' (DoneR Q)) :
 Calls Tryz.prog 191 #[gval g, ptr be, .slice (some ⟨b, 0, none⟩) ((⟨fx, fd, false, r⟩ :: e :: c : List HFr).length + 1) cap] w (DoneR Q) := by
 have hup := fun k W (h : PathAt g W (⟨fx, fd, false, r⟩ :: e :: c : List HFr) v b cap) => up_any k h hlen
 have hc0 := hp.cell 0 (by omega)
 generalize hn : (⟨fx, fd, false, r⟩ :: e :: c : List HFr).length = n at *
 unfold ptr at *
 go_enter Tryz.func191, Tryz.ntmps191
 have hpd := hp.fr0 (Fr.drew g No w)
 have hc0 : w.drew.cell? ⟨b, n, none⟩ = some (.pointer (some ⟨v.ann.1, 0, none⟩)) := hc0
 have hx1 : IntKind.i64.wrap ((n : Int)) = (n : Int) := IntWalk.i64_in _ (by omega)
 have hx2 : (n : Int) < (n : Int) + 1 := by omega
 go_wp2_with fail
 refine wp_region_X (S := fun w' => w' = w.drew) [] (by kernel_rfl) ?_
 refine tY 0 _ rfl (by kernel_rfl) (fun _ _ _ => id) rfl (by rfl) (by intro wq _; go_simp <;> with_reducible rfl) ?_
 try go_frame
 refine tY 1 _ rfl (by kernel_rfl) (fun _ _ _ => id) rfl (by rfl) (by intro wq _; go_simp <;> with_reducible rfl) ?_
 try go_frame
 refine tY 2 _ rfl (by kernel_rfl) (fun _ _ _ => id) rfl (by rfl) (by intro wq _; go_simp <;> with_reducible rfl) ?_
 try go_frame
 refine tY 3 _ rfl (by kernel_rfl) (fun _ _ _ => id) rfl (by rfl) (by intro wq _; go_simp <;> with_reducible rfl) ?_
 try go_frame
 refine tY 4 _ rfl (by kernel_rfl) (fun _ _ _ => id) rfl (by rfl) (by intro wq _; go_simp <;> with_reducible rfl) ?_
 try go_frame
 refine tY 6 _ rfl (by kernel_rfl) (fun _ _ _ => id) rfl (by rfl) (by intro wq _; go_simp <;> with_reducible rfl) ?_
 try go_frame
 refine tY 8 _ rfl (by kernel_rfl) (fun _ _ _ => id) rfl (by rfl) (by intro wq _; go_simp <;> with_reducible rfl) ?_
 try go_frame
 refine tX 5 _ rfl (by kernel_rfl) (fun _ _ _ => id) rfl (by rfl) (by intro wq hSq; subst hSq; have z0 := hc0; go_simp <;> with_reducible rfl) ?_
 try go_frame
 refine wpAnyX_ready (rs := [7]) (by kernel_rfl) (by simp) ?_
 refine ReadyX.cons rfl (fun K hK => ?_) ReadyX.nil
 go_simp
 refine (hup 1 _ hpd).mono ?_
 rintro e1 w1 ⟨rfl, rfl⟩
 refine hK.out _ _ rfl (fun hSx => ?_)
 clear hK K hSx
 try go_frame
 refine wpAnyX_ready (rs := [9]) (by kernel_rfl) (by simp) ?_
 refine ReadyX.cons rfl (fun K hK => ?_) ReadyX.nil
 go_simp
 refine (hup 2 _ hpd).mono ?_
 rintro e1 w1 ⟨rfl, rfl⟩
 refine hK.out _ _ rfl (fun hSx => ?_)
 clear hK K hSx
 try go_frame
 refine tY 10 _ rfl (by kernel_rfl) (fun _ _ _ => id) rfl (by rfl) (by intro wq _; go_simp <;> with_reducible rfl) ?_
 try go_frame
 refine tY 11 _ rfl (by kernel_rfl) (fun _ _ _ => id) rfl (by rfl) (by intro wq _; go_simp <;> with_reducible rfl) ?_
 try go_frame
 refine tY 12 _ rfl (by kernel_rfl) (fun _ _ _ => id) rfl (by rfl) (by intro wq _; go_simp <;> with_reducible rfl) ?_
 try go_frame
 refine wpAnyX_done (by kernel_rfl) ?_ _
 clear hx1 hx2
 have e1 : lastB (⟨fx, fd, false, r⟩ :: e :: c : List HFr) v 1 = some ⟨fx.1, 0, none⟩ := rfl
 have e2 : lastB (⟨fx, fd, false, r⟩ :: e :: c : List HFr) v 2 = some ⟨e.x.1, 0, none⟩ := rfl
 rw [e1, e2]
 clear hup hp hc0 hpd e1 e2 hn
 replace hX := hX.fr0 (Fr.drew g No w)
 have hF := Fr.drew g No w
 replace hg := hg.drew
 have hv := ((HT_mk _ _ _ _ _ _ _).1 hX).2.1
 have hwv := HT.wk (k := 2) hv rfl hv2
 go_wp2_with (go_at_call 232; refine hwv.mono ?_; rintro e w6 ⟨rfl, rfl⟩)
 clear hwv hv
 have hnd := ((HT_mk _ _ _ _ _ _ _).1 hX).1
 simp only [Bool.false_eq_true, if_false] at hnd
 refine (Left_inner hg (by omega) hnd).mono ?_
 rintro e w1 ⟨rfl, f, hg1⟩
 replace hX := hX.fr0 f
 replace hF := hF.tr f
 clear hg f hnd
 have hv := ((HT_mk _ _ _ _ _ _ _).1 hX).2.1
 have hr := ((HT_mk _ _ _ _ _ _ _).1 hX).2.2
 have hq := neq_rec hv.isRec hv.isRec
 rw [show (!decide (v.ann.1 = v.ann.1)) = false from by simp] at hq
 clear hv hr hne
 unfold ptr
 go_wp2_with fail
 clear hq
 have hnd := ((HT_mk _ _ _ _ _ _ _).1 hX).1
 simp only [Bool.false_eq_true, if_false] at hnd
 refine (side_any true hg1 (by omega) hnd).mono ?_
 rintro e w2 ⟨rfl, f, hg2⟩
 replace hX := hX.fr0 f
 replace hF := hF.tr f
 clear hg1 f hnd
 simp only [if_true]
 unfold ptr
 have hr := ((HT_mk _ _ _ _ _ _ _).1 hX).2.2
 have hwr := HT.wk (k := 1) hr rfl hrw
 go_wp2_with (go_at_call 232; refine hwr.mono ?_; rintro e w6 ⟨rfl, rfl⟩)
 refine (hR _ hF (hg2.mono (by omega))).mono ?_
 rintro e w7 ⟨rfl, hQ⟩
 have HQ := Lib.hid hQ
 clear hQ hR
 go_wp2
 go_end0
 exact ⟨rfl, HQ.out⟩
set_option maxHeartbeats 4000000 in
theorem step_over_t_1 {g : Gt} {m b cap be : Nat} {fx : Nat × Nat} {fd : It} {e : HFr} {c : List HFr} {v r : HTree} {w : World} (hg : GOk g m w) (hm : m + 300 < LIM) (hp : PathAt g w (⟨fx, fd, true, r⟩ :: e :: c) v b cap) (hlen : (⟨fx, fd, true, r⟩ :: e :: c : List HFr).length < 900000)
 (hX : HT g w (mk fx fd true v r)) (hne : v.ann.1 ≠ r.ann.1) (hv2 : v.it.w = 2) (hrw : r.it.w = 1) (Q : World → Prop)
 (hR : ∀ w', Fr g No w w' → GOk g (m + 3) w' → Calls Tryz.prog 236 #[gval g, ptr be, ptr e.x.1, ptr fx.1, ptr v.ann.1] w' (DoneR Q)) :
 Calls Tryz.prog 191 #[gval g, ptr be, .slice (some ⟨b, 0, none⟩) ((⟨fx, fd, true, r⟩ :: e :: c : List HFr).length + 1) cap] w (DoneR Q) := by
 have hup := fun k W (h : PathAt g W (⟨fx, fd, true, r⟩ :: e :: c : List HFr) v b cap) => up_any k h hlen
 have hc0 := hp.cell 0 (by omega)
 generalize hn : (⟨fx, fd, true, r⟩ :: e :: c : List HFr).length = n at *
 unfold ptr at *
 go_enter Tryz.func191, Tryz.ntmps191
 have hpd := hp.fr0 (Fr.drew g No w)
 have hc0 : w.drew.cell? ⟨b, n, none⟩ = some (.pointer (some ⟨v.ann.1, 0, none⟩)) := hc0
 have hx1 : IntKind.i64.wrap ((n : Int)) = (n : Int) := IntWalk.i64_in _ (by omega)
 have hx2 : (n : Int) < (n : Int) + 1 := by omega
 go_wp2_with fail
 refine wp_region_X (S := fun w' => w' = w.drew) [] (by kernel_rfl) ?_
 refine tY 0 _ rfl (by kernel_rfl) (fun _ _ _ => id) rfl (by rfl) (by intro wq _; go_simp <;> with_reducible rfl) ?_
 try go_frame
 refine tY 1 _ rfl (by kernel_rfl) (fun _ _ _ => id) rfl (by rfl) (by intro wq _; go_simp <;> with_reducible rfl) ?_
 try go_frame
 refine tY 2 _ rfl (by kernel_rfl) (fun _ _ _ => id) rfl (by rfl) (by intro wq _; go_simp <;> with_reducible rfl) ?_
 try go_frame
 refine tY 3 _ rfl (by kernel_rfl) (fun _ _ _ => id) rfl (by rfl) (by intro wq _; go_simp <;> with_reducible rfl) ?_
 try go_frame
 refine tY 4 _ rfl (by kernel_rfl) (fun _ _ _ => id) rfl (by rfl) (by intro wq _; go_simp <;> with_reducible rfl) ?_
 try go_frame
 refine tY 6 _ rfl (by kernel_rfl) (fun _ _ _ => id) rfl (by rfl) (by intro wq _; go_simp <;> with_reducible rfl) ?_
 try go_frame
 refine tY 8 _ rfl (by kernel_rfl) (fun _ _ _ => id) rfl (by rfl) (by intro wq _; go_simp <;> with_reducible rfl) ?_
 try go_frame
 refine tX 5 _ rfl (by kernel_rfl) (fun _ _ _ => id) rfl (by rfl) (by intro wq hSq; subst hSq; have z0 := hc0; go_simp <;> with_reducible rfl) ?_
 try go_frame
 refine wpAnyX_ready (rs := [7]) (by kernel_rfl) (by simp) ?_
 refine ReadyX.cons rfl (fun K hK => ?_) ReadyX.nil
 go_simp
 refine (hup 1 _ hpd).mono ?_
 rintro e1 w1 ⟨rfl, rfl⟩
 refine hK.out _ _ rfl (fun hSx => ?_)
 clear hK K hSx
 try go_frame
 refine wpAnyX_ready (rs := [9]) (by kernel_rfl) (by simp) ?_
 refine ReadyX.cons rfl (fun K hK => ?_) ReadyX.nil
 go_simp
 refine (hup 2 _ hpd).mono ?_
 rintro e1 w1 ⟨rfl, rfl⟩
 refine hK.out _ _ rfl (fun hSx => ?_)
 clear hK K hSx
 try go_frame
 refine tY 10 _ rfl (by kernel_rfl) (fun _ _ _ => id) rfl (by rfl) (by intro wq _; go_simp <;> with_reducible rfl) ?_
 try go_frame
 refine tY 11 _ rfl (by kernel_rfl) (fun _ _ _ => id) rfl (by rfl) (by intro wq _; go_simp <;> with_reducible rfl) ?_
 try go_frame
 refine tY 12 _ rfl (by kernel_rfl) (fun _ _ _ => id) rfl (by rfl) (by intro wq _; go_simp <;> with_reducible rfl) ?_
 try go_frame
 refine wpAnyX_done (by kernel_rfl) ?_ _
 clear hx1 hx2
 have e1 : lastB (⟨fx, fd, true, r⟩ :: e :: c : List HFr) v 1 = some ⟨fx.1, 0, none⟩ := rfl
 have e2 : lastB (⟨fx, fd, true, r⟩ :: e :: c : List HFr) v 2 = some ⟨e.x.1, 0, none⟩ := rfl
 rw [e1, e2]
 clear hup hp hc0 hpd e1 e2 hn
 replace hX := hX.fr0 (Fr.drew g No w)
 have hF := Fr.drew g No w
 replace hg := hg.drew
 have hv := ((HT_mk _ _ _ _ _ _ _).1 hX).2.1
 have hwv := HT.wk (k := 2) hv rfl hv2
 go_wp2_with (go_at_call 232; refine hwv.mono ?_; rintro e w6 ⟨rfl, rfl⟩)
 clear hwv hv
 have hnd := ((HT_mk _ _ _ _ _ _ _).1 hX).1
 simp only [if_true] at hnd
 refine (Left_inner hg (by omega) hnd).mono ?_
 rintro e w1 ⟨rfl, f, hg1⟩
 replace hX := hX.fr0 f
 replace hF := hF.tr f
 clear hg f hnd
 have hv := ((HT_mk _ _ _ _ _ _ _).1 hX).2.1
 have hr := ((HT_mk _ _ _ _ _ _ _).1 hX).2.2
 have hq := neq_rec hr.isRec hv.isRec
 rw [show (!decide (r.ann.1 = v.ann.1)) = true from by simp [Ne.symm hne]] at hq
 clear hv hr hne
 unfold ptr
 go_wp2_with fail
 clear hq
 have hnd := ((HT_mk _ _ _ _ _ _ _).1 hX).1
 simp only [if_true] at hnd
 refine (side_any false hg1 (by omega) hnd).mono ?_
 rintro e w2 ⟨rfl, f, hg2⟩
 replace hX := hX.fr0 f
 replace hF := hF.tr f
 clear hg1 f hnd
 simp only [Bool.false_eq_true, if_false]
 unfold ptr
 have hr := ((HT_mk _ _ _ _ _ _ _).1 hX).2.2
 have hwr := HT.wk (k := 1) hr rfl hrw
 go_wp2_with (go_at_call 232; refine hwr.mono ?_; rintro e w6 ⟨rfl, rfl⟩)
 refine (hR _ hF (hg2.mono (by omega))).mono ?_
 rintro e w7 ⟨rfl, hQ⟩
 have HQ := Lib.hid hQ
 clear hQ hR
 go_wp2
 go_end0
 exact ⟨rfl, HQ.out⟩
set_option maxHeartbeats 4000000 in
theorem step_over_f_0 {g : Gt} {m b cap be : Nat} {fx rx : Nat × Nat} {fd rd : It} {e : HFr} {c : List HFr} {v A B : HTree} {w : World} (hg : GOk g m w) (hm : m + 300 < LIM) (hp : PathAt g w (⟨fx, fd, false, .node rx rd A B⟩ :: e :: c) v b cap) (hlen : (⟨fx, fd, false, .node rx rd A B⟩ :: e :: c : List HFr).length < 900000)
 (hX : HT g w (mk fx fd false v (.node rx rd A B))) (hne : v.ann.1 ≠ (T.node rx rd A B : HTree).ann.1) (hv2 : v.it.w = 2) (hrw : rd.w = 0) (hfw : fd.w = 1) (hlw : A.it.w = 1) (Q : World → Prop)
 (hR : ∀ w', Fr g No w w' → GOk g (m + 3) w' → Calls Tryz.prog 236 #[gval g, ptr be, ptr e.x.1, ptr fx.1, ptr v.ann.1] w' (DoneR Q)) :
 Calls Tryz.prog 191 #[gval g, ptr be, .slice (some ⟨b, 0, none⟩) ((⟨fx, fd, false, .node rx rd A B⟩ :: e :: c : List HFr).length + 1) cap] w (DoneR Q) := by
 have hup := fun k W (h : PathAt g W (⟨fx, fd, false, (.node rx rd A B)⟩ :: e :: c : List HFr) v b cap) => up_any k h hlen
 have hc0 := hp.cell 0 (by omega)
 generalize hn : (⟨fx, fd, false, (.node rx rd A B)⟩ :: e :: c : List HFr).length = n at *
 unfold ptr at *
 go_enter Tryz.func191, Tryz.ntmps191
 have hpd := hp.fr0 (Fr.drew g No w)
 have hc0 : w.drew.cell? ⟨b, n, none⟩ = some (.pointer (some ⟨v.ann.1, 0, none⟩)) := hc0
 have hx1 : IntKind.i64.wrap ((n : Int)) = (n : Int) := IntWalk.i64_in _ (by omega)
 have hx2 : (n : Int) < (n : Int) + 1 := by omega
 go_wp2_with fail
 refine wp_region_X (S := fun w' => w' = w.drew) [] (by kernel_rfl) ?_
 refine tY 0 _ rfl (by kernel_rfl) (fun _ _ _ => id) rfl (by rfl) (by intro wq _; go_simp <;> with_reducible rfl) ?_
 try go_frame
 refine tY 1 _ rfl (by kernel_rfl) (fun _ _ _ => id) rfl (by rfl) (by intro wq _; go_simp <;> with_reducible rfl) ?_
 try go_frame
 refine tY 2 _ rfl (by kernel_rfl) (fun _ _ _ => id) rfl (by rfl) (by intro wq _; go_simp <;> with_reducible rfl) ?_
 try go_frame
 refine tY 3 _ rfl (by kernel_rfl) (fun _ _ _ => id) rfl (by rfl) (by intro wq _; go_simp <;> with_reducible rfl) ?_
 try go_frame
 refine tY 4 _ rfl (by kernel_rfl) (fun _ _ _ => id) rfl (by rfl) (by intro wq _; go_simp <;> with_reducible rfl) ?_
 try go_frame
 refine tY 6 _ rfl (by kernel_rfl) (fun _ _ _ => id) rfl (by rfl) (by intro wq _; go_simp <;> with_reducible rfl) ?_
 try go_frame
 refine tY 8 _ rfl (by kernel_rfl) (fun _ _ _ => id) rfl (by rfl) (by intro wq _; go_simp <;> with_reducible rfl) ?_
 try go_frame
 refine tX 5 _ rfl (by kernel_rfl) (fun _ _ _ => id) rfl (by rfl) (by intro wq hSq; subst hSq; have z0 := hc0; go_simp <;> with_reducible rfl) ?_
 try go_frame
 refine wpAnyX_ready (rs := [7]) (by kernel_rfl) (by simp) ?_
 refine ReadyX.cons rfl (fun K hK => ?_) ReadyX.nil
 go_simp
 refine (hup 1 _ hpd).mono ?_
 rintro e1 w1 ⟨rfl, rfl⟩
 refine hK.out _ _ rfl (fun hSx => ?_)
 clear hK K hSx
 try go_frame
 refine wpAnyX_ready (rs := [9]) (by kernel_rfl) (by simp) ?_
 refine ReadyX.cons rfl (fun K hK => ?_) ReadyX.nil
 go_simp
 refine (hup 2 _ hpd).mono ?_
 rintro e1 w1 ⟨rfl, rfl⟩
 refine hK.out _ _ rfl (fun hSx => ?_)
 clear hK K hSx
 try go_frame
 refine tY 10 _ rfl (by kernel_rfl) (fun _ _ _ => id) rfl (by rfl) (by intro wq _; go_simp <;> with_reducible rfl) ?_
 try go_frame
 refine tY 11 _ rfl (by kernel_rfl) (fun _ _ _ => id) rfl (by rfl) (by intro wq _; go_simp <;> with_reducible rfl) ?_
 try go_frame
 refine tY 12 _ rfl (by kernel_rfl) (fun _ _ _ => id) rfl (by rfl) (by intro wq _; go_simp <;> with_reducible rfl) ?_
 try go_frame
 refine wpAnyX_done (by kernel_rfl) ?_ _
 clear hx1 hx2
 have e1 : lastB (⟨fx, fd, false, (.node rx rd A B)⟩ :: e :: c : List HFr) v 1 = some ⟨fx.1, 0, none⟩ := rfl
 have e2 : lastB (⟨fx, fd, false, (.node rx rd A B)⟩ :: e :: c : List HFr) v 2 = some ⟨e.x.1, 0, none⟩ := rfl
 rw [e1, e2]
 clear hup hp hc0 hpd e1 e2 hn
 replace hX := hX.fr0 (Fr.drew g No w)
 have hF := Fr.drew g No w
 replace hg := hg.drew
 have hv := ((HT_mk _ _ _ _ _ _ _).1 hX).2.1
 have hwv := HT.wk (k := 2) hv rfl hv2
 go_wp2_with (go_at_call 232; refine hwv.mono ?_; rintro e w6 ⟨rfl, rfl⟩)
 clear hwv hv
 have hnd := ((HT_mk _ _ _ _ _ _ _).1 hX).1
 simp only [Bool.false_eq_true, if_false] at hnd
 refine (Left_inner hg (by omega) hnd).mono ?_
 rintro e w1 ⟨rfl, f, hg1⟩
 replace hX := hX.fr0 f
 replace hF := hF.tr f
 clear hg f hnd
 have hv := ((HT_mk _ _ _ _ _ _ _).1 hX).2.1
 have hr := ((HT_mk _ _ _ _ _ _ _).1 hX).2.2
 have hq := neq_rec hv.isRec hv.isRec
 rw [show (!decide (v.ann.1 = v.ann.1)) = false from by simp] at hq
 clear hv hr hne
 unfold ptr
 go_wp2_with fail
 clear hq
 have hnd := ((HT_mk _ _ _ _ _ _ _).1 hX).1
 simp only [Bool.false_eq_true, if_false] at hnd
 refine (side_any true hg1 (by omega) hnd).mono ?_
 rintro e w2 ⟨rfl, f, hg2⟩
 replace hX := hX.fr0 f
 replace hF := hF.tr f
 clear hg1 f hnd
 simp only [if_true]
 unfold ptr
 have hr := ((HT_mk _ _ _ _ _ _ _).1 hX).2.2
 have hwr := HT.wk (k := 0) hr rfl hrw
 have hwf := HT.wk (k := 1) (p := fx.1) hX (by rw [mk_ann]) (by rw [mk_it]; exact hfw)
 go_wp2_with (go_at_call 232; first | (refine hwr.mono ?_; rintro e w6 ⟨rfl, rfl⟩) | (refine hwf.mono ?_; rintro e w6 ⟨rfl, rfl⟩))
 clear hwf hwr
 refine (side_any false hg2 (by omega) hr.1).mono ?_
 rintro e w3 ⟨rfl, f, hg3⟩
 replace hr := hr.fr0 f
 replace hF := hF.tr f
 clear hg2 f hX
 simp only [Bool.false_eq_true, if_false]
 unfold ptr
 have hwl := HT.wk (k := 1) hr.2.1 rfl hlw
 go_wp2_with (go_at_call 232; refine hwl.mono ?_; rintro e w6 ⟨rfl, rfl⟩)
 clear hwl hr
 refine (hR _ hF (hg3.mono (by omega))).mono ?_
 rintro e w7 ⟨rfl, hQ⟩
 have HQ := Lib.hid hQ
 clear hQ hR
 go_wp2
 go_end0
 exact ⟨rfl, HQ.out⟩
set_option maxHeartbeats 4000000 in
theorem step_over_t_0 {g : Gt} {m b cap be : Nat} {fx rx : Nat × Nat} {fd rd : It} {e : HFr} {c : List HFr} {v A B : HTree} {w : World} (hg : GOk g m w) (hm : m + 300 < LIM) (hp : PathAt g w (⟨fx, fd, true, .node rx rd A B⟩ :: e :: c) v b cap) (hlen : (⟨fx, fd, true, .node rx rd A B⟩ :: e :: c : List HFr).length < 900000)
 (hX : HT g w (mk fx fd true v (.node rx rd A B))) (hne : v.ann.1 ≠ (T.node rx rd A B : HTree).ann.1) (hv2 : v.it.w = 2) (hrw : rd.w = 0) (hfw : fd.w = 1) (hlw : B.it.w = 1) (Q : World → Prop)
 (hR : ∀ w', Fr g No w w' → GOk g (m + 3) w' → Calls Tryz.prog 236 #[gval g, ptr be, ptr e.x.1, ptr fx.1, ptr v.ann.1] w' (DoneR Q)) :
 Calls Tryz.prog 191 #[gval g, ptr be, .slice (some ⟨b, 0, none⟩) ((⟨fx, fd, true, .node rx rd A B⟩ :: e :: c : List HFr).length + 1) cap] w (DoneR Q) := by
 have hup := fun k W (h : PathAt g W (⟨fx, fd, true, (.node rx rd A B)⟩ :: e :: c : List HFr) v b cap) => up_any k h hlen
 have hc0 := hp.cell 0 (by omega)
 generalize hn : (⟨fx, fd, true, (.node rx rd A B)⟩ :: e :: c : List HFr).length = n at *
 unfold ptr at *
 go_enter Tryz.func191, Tryz.ntmps191
 have hpd := hp.fr0 (Fr.drew g No w)
 have hc0 : w.drew.cell? ⟨b, n, none⟩ = some (.pointer (some ⟨v.ann.1, 0, none⟩)) := hc0
 have hx1 : IntKind.i64.wrap ((n : Int)) = (n : Int) := IntWalk.i64_in _ (by omega)
 have hx2 : (n : Int) < (n : Int) + 1 := by omega
 go_wp2_with fail
 refine wp_region_X (S := fun w' => w' = w.drew) [] (by kernel_rfl) ?_
 refine tY 0 _ rfl (by kernel_rfl) (fun _ _ _ => id) rfl (by rfl) (by intro wq _; go_simp <;> with_reducible rfl) ?_
 try go_frame
 refine tY 1 _ rfl (by kernel_rfl) (fun _ _ _ => id) rfl (by rfl) (by intro wq _; go_simp <;> with_reducible rfl) ?_
 try go_frame
 refine tY 2 _ rfl (by kernel_rfl) (fun _ _ _ => id) rfl (by rfl) (by intro wq _; go_simp <;> with_reducible rfl) ?_
 try go_frame
 refine tY 3 _ rfl (by kernel_rfl) (fun _ _ _ => id) rfl (by rfl) (by intro wq _; go_simp <;> with_reducible rfl) ?_
 try go_frame
 refine tY 4 _ rfl (by kernel_rfl) (fun _ _ _ => id) rfl (by rfl) (by intro wq _; go_simp <;> with_reducible rfl) ?_
 try go_frame
 refine tY 6 _ rfl (by kernel_rfl) (fun _ _ _ => id) rfl (by rfl) (by intro wq _; go_simp <;> with_reducible rfl) ?_
 try go_frame
 refine tY 8 _ rfl (by kernel_rfl) (fun _ _ _ => id) rfl (by rfl) (by intro wq _; go_simp <;> with_reducible rfl) ?_
 try go_frame
 refine tX 5 _ rfl (by kernel_rfl) (fun _ _ _ => id) rfl (by rfl) (by intro wq hSq; subst hSq; have z0 := hc0; go_simp <;> with_reducible rfl) ?_
 try go_frame
 refine wpAnyX_ready (rs := [7]) (by kernel_rfl) (by simp) ?_
 refine ReadyX.cons rfl (fun K hK => ?_) ReadyX.nil
 go_simp
 refine (hup 1 _ hpd).mono ?_
 rintro e1 w1 ⟨rfl, rfl⟩
 refine hK.out _ _ rfl (fun hSx => ?_)
 clear hK K hSx
 try go_frame
 refine wpAnyX_ready (rs := [9]) (by kernel_rfl) (by simp) ?_
 refine ReadyX.cons rfl (fun K hK => ?_) ReadyX.nil
 go_simp
 refine (hup 2 _ hpd).mono ?_
 rintro e1 w1 ⟨rfl, rfl⟩
 refine hK.out _ _ rfl (fun hSx => ?_)
 clear hK K hSx
 try go_frame
 refine tY 10 _ rfl (by kernel_rfl) (fun _ _ _ => id) rfl (by rfl) (by intro wq _; go_simp <;> with_reducible rfl) ?_
 try go_frame
 refine tY 11 _ rfl (by kernel_rfl) (fun _ _ _ => id) rfl (by rfl) (by intro wq _; go_simp <;> with_reducible rfl) ?_
 try go_frame
 refine tY 12 _ rfl (by kernel_rfl) (fun _ _ _ => id) rfl (by rfl) (by intro wq _; go_simp <;> with_reducible rfl) ?_
 try go_frame
 refine wpAnyX_done (by kernel_rfl) ?_ _
 clear hx1 hx2
 have e1 : lastB (⟨fx, fd, true, (.node rx rd A B)⟩ :: e :: c : List HFr) v 1 = some ⟨fx.1, 0, none⟩ := rfl
 have e2 : lastB (⟨fx, fd, true, (.node rx rd A B)⟩ :: e :: c : List HFr) v 2 = some ⟨e.x.1, 0, none⟩ := rfl
 rw [e1, e2]
 clear hup hp hc0 hpd e1 e2 hn
 replace hX := hX.fr0 (Fr.drew g No w)
 have hF := Fr.drew g No w
 replace hg := hg.drew
 have hv := ((HT_mk _ _ _ _ _ _ _).1 hX).2.1
 have hwv := HT.wk (k := 2) hv rfl hv2
 go_wp2_with (go_at_call 232; refine hwv.mono ?_; rintro e w6 ⟨rfl, rfl⟩)
 clear hwv hv
 have hnd := ((HT_mk _ _ _ _ _ _ _).1 hX).1
 simp only [if_true] at hnd
 refine (Left_inner hg (by omega) hnd).mono ?_
 rintro e w1 ⟨rfl, f, hg1⟩
 replace hX := hX.fr0 f
 replace hF := hF.tr f
 clear hg f hnd
 have hv := ((HT_mk _ _ _ _ _ _ _).1 hX).2.1
 have hr := ((HT_mk _ _ _ _ _ _ _).1 hX).2.2
 have hq := neq_rec hr.isRec hv.isRec
 rw [show (!decide ((T.node rx rd A B : HTree).ann.1 = v.ann.1)) = true from by simp [Ne.symm hne]] at hq
 clear hv hr hne
 unfold ptr
 go_wp2_with fail
 clear hq
 have hnd := ((HT_mk _ _ _ _ _ _ _).1 hX).1
 simp only [if_true] at hnd
 refine (side_any false hg1 (by omega) hnd).mono ?_
 rintro e w2 ⟨rfl, f, hg2⟩
 replace hX := hX.fr0 f
 replace hF := hF.tr f
 clear hg1 f hnd
 simp only [Bool.false_eq_true, if_false]
 unfold ptr
 have hr := ((HT_mk _ _ _ _ _ _ _).1 hX).2.2
 have hwr := HT.wk (k := 0) hr rfl hrw
 have hwf := HT.wk (k := 1) (p := fx.1) hX (by rw [mk_ann]) (by rw [mk_it]; exact hfw)
 go_wp2_with (go_at_call 232; first | (refine hwr.mono ?_; rintro e w6 ⟨rfl, rfl⟩) | (refine hwf.mono ?_; rintro e w6 ⟨rfl, rfl⟩))
 clear hwf hwr
 refine (side_any true hg2 (by omega) hr.1).mono ?_
 rintro e w3 ⟨rfl, f, hg3⟩
 replace hr := hr.fr0 f
 replace hF := hF.tr f
 clear hg2 f hX
 simp only [if_true]
 unfold ptr
 have hwl := HT.wk (k := 1) hr.2.2 rfl hlw
 go_wp2_with (go_at_call 232; refine hwl.mono ?_; rintro e w6 ⟨rfl, rfl⟩)
 clear hwl hr
 refine (hR _ hF (hg3.mono (by omega))).mono ?_
 rintro e w7 ⟨rfl, hQ⟩
 have HQ := Lib.hid hQ
 clear hQ hR
 go_wp2
 go_end0
 exact ⟨rfl, HQ.out⟩
end Go.Proofs.YtdmobhndbibhoaaGreat
