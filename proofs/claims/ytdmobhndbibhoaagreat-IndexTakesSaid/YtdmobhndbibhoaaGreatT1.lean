/- package index: Successor, Predecessor, Min, Max, Range of handles; node.Read, Table. -/
import Derived.Test.YtdmobhndbibhoaaGreatD2
import Derived.Test.YtdmobhndbibhoaaGreatD4
namespace Go.Proofs.YtdmobhndbibhoaaGreat
open Go.RowKit Larch
set_option maxRecDepth 100000
set_option linter.unusedVariables false
set_option linter.unusedSimpArgs false
attribute [local go_sem ↓] Go.wp_at_zero Go.wp_at_succ
set_option maxHeartbeats 4000000 in
theorem hSucc_any {g : Gt} {m be hb : Nat} {t : T Unit} {key : Int} {w0 w : World} (hS : St g m be t w0 w) (hH : Cl g w hb #[ptr be, gval g] 106) (hm : m + cost t.size < LIM) (hsz : t.size < 300000) :
 Calls Tryz.prog 59 #[ptr hb, .int .i64 key] w (PairS g (m + cost t.size) be t (succL key (pairs t)) w) := by
 have hS0 : St g m be t w w := ⟨hS.map, hS.good, hS.gate, Fr.refl _ _ _⟩
 have hF1 := Fr.alloc g No w (.cells #[.int .i64 0, .int .i64 0] 49) hS.gate
 have hBW := At.new hS.gate (.cells #[.int .i64 0, .int .i64 0] 49)
 have hHW := hF1.at hH id
 have hSW := hS0.alloc (.cells #[.int .i64 0, .int .i64 0] 49)
 have hC := succ_st (key := key) hSW.drew hm hsz
 clear hF1 hS0 hH hS
 unfold ptr at hC ⊢
 go_enter Tryz.func59, Tryz.ntmps59
 go_wp2_with fail
 generalize hW : World.alloc w _ = W at *
 have hsW := hSW.tf.size
 clear hW
 refine wp_region_X (S := (fun w' => w'.cell? ⟨hb, 0, none⟩ = some (.pointer (some ⟨be, 0, none⟩)) ∧ w'.cell? ⟨hb, 1, none⟩ = some (gval g))) [12] (by kernel_rfl) ?_
 refine tY 0 _ rfl (by kernel_rfl) (fun _ _ _ => id) (keepH hHW.drew) (by rfl) (by intro wq _; go_simp <;> with_reducible rfl) ?_
 try go_frame
 refine tY 1 _ rfl (by kernel_rfl) (fun _ _ _ => id) (keepH hHW.drew) (by rfl) (by intro wq _; go_simp <;> with_reducible rfl) ?_
 try go_frame
 refine tY 2 _ rfl (by kernel_rfl) (fun _ _ _ => id) (keepH hHW.drew) (by rfl) (by intro wq _; go_simp <;> with_reducible rfl) ?_
 try go_frame
 refine tY 4 _ rfl (by kernel_rfl) (fun _ _ _ => id) (keepH hHW.drew) (by rfl) (by intro wq _; go_simp <;> with_reducible rfl) ?_
 try go_frame
 refine tY 5 _ rfl (by kernel_rfl) (fun _ _ _ => id) (keepH hHW.drew) (by rfl) (by intro wq _; go_simp <;> with_reducible rfl) ?_
 try go_frame
 refine tY 6 _ rfl (by kernel_rfl) (fun _ _ _ => id) (keepH hHW.drew) (by rfl) (by intro wq _; go_simp <;> with_reducible rfl) ?_
 try go_frame
 refine tY 8 _ rfl (by kernel_rfl) (fun _ _ _ => id) (keepH hHW.drew) (by rfl) (by intro wq _; go_simp <;> with_reducible rfl) ?_
 try go_frame
 refine tX 3 _ rfl (by kernel_rfl) (fun _ _ _ => id) (keepH hHW.drew) (by rfl) (by intro wq hSq; obtain ⟨s0, s1⟩ := hSq; go_simp <;> with_reducible rfl) ?_
 try go_frame
 refine tX 7 _ rfl (by kernel_rfl) (fun _ _ _ => id) (keepH hHW.drew) (by rfl) (by intro wq hSq; obtain ⟨s0, s1⟩ := hSq; go_simp <;> with_reducible rfl) ?_
 try go_frame
 refine wpAnyX_ready (rs := [9]) (by kernel_rfl) (by simp) ?_
 refine ReadyX.cons rfl (fun K hK => ?_) ReadyX.nil
 go_simp
 refine hC.mono ?_
 rintro e w1 ⟨rfl, hSt1⟩
 obtain ⟨pa, pb, hp, _⟩ := pO_form (succL key (pairs t))
 obtain ⟨ok, hok⟩ : ∃ b, (succL key (pairs t)).isSome = b := ⟨_, rfl⟩
 rw [hp, hok]
 have HR := Lib.hid (And.intro hp hok)
 clear hp hok
 have hH1 := hSt1.tf.at hHW.drew (by decide)
 have hB1 := hSt1.tf.at hBW.drew (by decide)
 have q0 := hB1.free 0
 have q1 := hB1.free 1
 have r0 := hB1.cell 0
 have r1 := hB1.cell 1
 refine hK.out _ _ (keepH hH1) (fun hS1 => ?_)
 clear hK K
 try go_frame
 refine tY 10 _ rfl (by kernel_rfl) (fun _ _ _ => id) hS1 (by rfl) (by intro wq _; go_simp <;> with_reducible rfl) ?_
 try go_frame
 refine tY 11 _ rfl (by kernel_rfl) (fun _ _ _ => id) hS1 (by rfl) (by intro wq _; go_simp <;> with_reducible rfl) ?_
 try go_frame
 refine wpAnyX_ready (rs := [12]) (by kernel_rfl) (by simp) ?_
 refine ReadyX.last (x := 12) rfl (by kernel_rfl) (fun K hK => ?_) ReadyX.nil
 go_simp
 refine hK.out _ _ ?_
 clear hK K
 try go_frame
 refine wpAnyX_takeG (i := 13) (x := 12) (v := ?_) rfl (by kernel_rfl) (by kernel_rfl) (fun _ _ _ h => h)  (Or.inl ⟨by rfl, ?_⟩) ?_
 rotate_left
 ·(intro wq _; go_simp <;> with_reducible rfl)
 try go_frame
 refine wpAnyX_done (by kernel_rfl) ?_ _
 have hS2 := hSW.drew.trans hSt1
 obtain ⟨f4, g4, hR⟩ := set2 (x := .int .i64 pa) (y := .int .i64 pb) hS2.gate hB1 rfl
 have hS4 := hS2.own1 hB1 (by decide) (Nat.le_refl _) f4 g4
 simp only [List.getElem_toArray, List.getElem_cons_succ, List.getElem_cons_zero, List.setIfInBounds_toArray, List.set_cons_succ, List.set_cons_zero]
 go_wp2_with fail
 refine bodyPost_ret (results_ct rfl _ rfl hR.1 Tryz.underlying49 size49) rfl ?_
 obtain ⟨e1, e2⟩ := HR.out
 exact ⟨by rw [e1, e2]; rfl, hS4⟩
set_option maxHeartbeats 4000000 in
theorem hPred_any {g : Gt} {m be hb : Nat} {t : T Unit} {key : Int} {w0 w : World} (hS : St g m be t w0 w) (hH : Cl g w hb #[ptr be, gval g] 106) (hm : m + cost t.size < LIM) (hsz : t.size < 300000) :
 Calls Tryz.prog 60 #[ptr hb, .int .i64 key] w (PairS g (m + cost t.size) be t (predL key (pairs t)) w) := by
 have hS0 : St g m be t w w := ⟨hS.map, hS.good, hS.gate, Fr.refl _ _ _⟩
 have hF1 := Fr.alloc g No w (.cells #[.int .i64 0, .int .i64 0] 49) hS.gate
 have hBW := At.new hS.gate (.cells #[.int .i64 0, .int .i64 0] 49)
 have hHW := hF1.at hH id
 have hSW := hS0.alloc (.cells #[.int .i64 0, .int .i64 0] 49)
 have hC := pred_st (key := key) hSW.drew hm hsz
 clear hF1 hS0 hH hS
 unfold ptr at hC ⊢
 go_enter Tryz.func60, Tryz.ntmps60
 go_wp2_with fail
 generalize hW : World.alloc w _ = W at *
 have hsW := hSW.tf.size
 clear hW
 refine wp_region_X (S := (fun w' => w'.cell? ⟨hb, 0, none⟩ = some (.pointer (some ⟨be, 0, none⟩)) ∧ w'.cell? ⟨hb, 1, none⟩ = some (gval g))) [12] (by kernel_rfl) ?_
 refine tY 0 _ rfl (by kernel_rfl) (fun _ _ _ => id) (keepH hHW.drew) (by rfl) (by intro wq _; go_simp <;> with_reducible rfl) ?_
 try go_frame
 refine tY 1 _ rfl (by kernel_rfl) (fun _ _ _ => id) (keepH hHW.drew) (by rfl) (by intro wq _; go_simp <;> with_reducible rfl) ?_
 try go_frame
 refine tY 2 _ rfl (by kernel_rfl) (fun _ _ _ => id) (keepH hHW.drew) (by rfl) (by intro wq _; go_simp <;> with_reducible rfl) ?_
 try go_frame
 refine tY 4 _ rfl (by kernel_rfl) (fun _ _ _ => id) (keepH hHW.drew) (by rfl) (by intro wq _; go_simp <;> with_reducible rfl) ?_
 try go_frame
 refine tY 5 _ rfl (by kernel_rfl) (fun _ _ _ => id) (keepH hHW.drew) (by rfl) (by intro wq _; go_simp <;> with_reducible rfl) ?_
 try go_frame
 refine tY 6 _ rfl (by kernel_rfl) (fun _ _ _ => id) (keepH hHW.drew) (by rfl) (by intro wq _; go_simp <;> with_reducible rfl) ?_
 try go_frame
 refine tY 8 _ rfl (by kernel_rfl) (fun _ _ _ => id) (keepH hHW.drew) (by rfl) (by intro wq _; go_simp <;> with_reducible rfl) ?_
 try go_frame
 refine tX 3 _ rfl (by kernel_rfl) (fun _ _ _ => id) (keepH hHW.drew) (by rfl) (by intro wq hSq; obtain ⟨s0, s1⟩ := hSq; go_simp <;> with_reducible rfl) ?_
 try go_frame
 refine tX 7 _ rfl (by kernel_rfl) (fun _ _ _ => id) (keepH hHW.drew) (by rfl) (by intro wq hSq; obtain ⟨s0, s1⟩ := hSq; go_simp <;> with_reducible rfl) ?_
 try go_frame
 refine wpAnyX_ready (rs := [9]) (by kernel_rfl) (by simp) ?_
 refine ReadyX.cons rfl (fun K hK => ?_) ReadyX.nil
 go_simp
 refine hC.mono ?_
 rintro e w1 ⟨rfl, hSt1⟩
 obtain ⟨pa, pb, hp, _⟩ := pO_form (predL key (pairs t))
 obtain ⟨ok, hok⟩ : ∃ b, (predL key (pairs t)).isSome = b := ⟨_, rfl⟩
 rw [hp, hok]
 have HR := Lib.hid (And.intro hp hok)
 clear hp hok
 have hH1 := hSt1.tf.at hHW.drew (by decide)
 have hB1 := hSt1.tf.at hBW.drew (by decide)
 have q0 := hB1.free 0
 have q1 := hB1.free 1
 have r0 := hB1.cell 0
 have r1 := hB1.cell 1
 refine hK.out _ _ (keepH hH1) (fun hS1 => ?_)
 clear hK K
 try go_frame
 refine tY 10 _ rfl (by kernel_rfl) (fun _ _ _ => id) hS1 (by rfl) (by intro wq _; go_simp <;> with_reducible rfl) ?_
 try go_frame
 refine tY 11 _ rfl (by kernel_rfl) (fun _ _ _ => id) hS1 (by rfl) (by intro wq _; go_simp <;> with_reducible rfl) ?_
 try go_frame
 refine wpAnyX_ready (rs := [12]) (by kernel_rfl) (by simp) ?_
 refine ReadyX.last (x := 12) rfl (by kernel_rfl) (fun K hK => ?_) ReadyX.nil
 go_simp
 refine hK.out _ _ ?_
 clear hK K
 try go_frame
 refine wpAnyX_takeG (i := 13) (x := 12) (v := ?_) rfl (by kernel_rfl) (by kernel_rfl) (fun _ _ _ h => h)  (Or.inl ⟨by rfl, ?_⟩) ?_
 rotate_left
 ·(intro wq _; go_simp <;> with_reducible rfl)
 try go_frame
 refine wpAnyX_done (by kernel_rfl) ?_ _
 have hS2 := hSW.drew.trans hSt1
 obtain ⟨f4, g4, hR⟩ := set2 (x := .int .i64 pa) (y := .int .i64 pb) hS2.gate hB1 rfl
 have hS4 := hS2.own1 hB1 (by decide) (Nat.le_refl _) f4 g4
 simp only [List.getElem_toArray, List.getElem_cons_succ, List.getElem_cons_zero, List.setIfInBounds_toArray, List.set_cons_succ, List.set_cons_zero]
 go_wp2_with fail
 refine bodyPost_ret (results_ct rfl _ rfl hR.1 Tryz.underlying49 size49) rfl ?_
 obtain ⟨e1, e2⟩ := HR.out
 exact ⟨by rw [e1, e2]; rfl, hS4⟩
set_option maxHeartbeats 4000000 in
theorem hMin_any {g : Gt} {m be hb : Nat} {t : T Unit} {w0 w : World} (hS : St g m be t w0 w) (hH : Cl g w hb #[ptr be, gval g] 106) (hm : m + cost t.size < LIM) (hsz : t.size < 300000) :
 Calls Tryz.prog 61 #[ptr hb] w (PairS g (m + cost t.size) be t ((pairs t).head?) w) := by
 have hS0 : St g m be t w w := ⟨hS.map, hS.good, hS.gate, Fr.refl _ _ _⟩
 have hF1 := Fr.alloc g No w (.cells #[.int .i64 0, .int .i64 0] 49) hS.gate
 have hBW := At.new hS.gate (.cells #[.int .i64 0, .int .i64 0] 49)
 have hHW := hF1.at hH id
 have hSW := hS0.alloc (.cells #[.int .i64 0, .int .i64 0] 49)
 have hC := min_st hSW.drew hm hsz
 clear hF1 hS0 hH hS
 unfold ptr at hC ⊢
 go_enter Tryz.func61, Tryz.ntmps61
 go_wp2_with fail
 generalize hW : World.alloc w _ = W at *
 have hsW := hSW.tf.size
 clear hW
 refine wp_region_X (S := (fun w' => w'.cell? ⟨hb, 0, none⟩ = some (.pointer (some ⟨be, 0, none⟩)) ∧ w'.cell? ⟨hb, 1, none⟩ = some (gval g))) [11] (by kernel_rfl) ?_
 refine tY 0 _ rfl (by kernel_rfl) (fun _ _ _ => id) (keepH hHW.drew) (by rfl) (by intro wq _; go_simp <;> with_reducible rfl) ?_
 try go_frame
 refine tY 1 _ rfl (by kernel_rfl) (fun _ _ _ => id) (keepH hHW.drew) (by rfl) (by intro wq _; go_simp <;> with_reducible rfl) ?_
 try go_frame
 refine tY 2 _ rfl (by kernel_rfl) (fun _ _ _ => id) (keepH hHW.drew) (by rfl) (by intro wq _; go_simp <;> with_reducible rfl) ?_
 try go_frame
 refine tY 4 _ rfl (by kernel_rfl) (fun _ _ _ => id) (keepH hHW.drew) (by rfl) (by intro wq _; go_simp <;> with_reducible rfl) ?_
 try go_frame
 refine tY 5 _ rfl (by kernel_rfl) (fun _ _ _ => id) (keepH hHW.drew) (by rfl) (by intro wq _; go_simp <;> with_reducible rfl) ?_
 try go_frame
 refine tY 6 _ rfl (by kernel_rfl) (fun _ _ _ => id) (keepH hHW.drew) (by rfl) (by intro wq _; go_simp <;> with_reducible rfl) ?_
 try go_frame
 refine tX 3 _ rfl (by kernel_rfl) (fun _ _ _ => id) (keepH hHW.drew) (by rfl) (by intro wq hSq; obtain ⟨s0, s1⟩ := hSq; go_simp <;> with_reducible rfl) ?_
 try go_frame
 refine tX 7 _ rfl (by kernel_rfl) (fun _ _ _ => id) (keepH hHW.drew) (by rfl) (by intro wq hSq; obtain ⟨s0, s1⟩ := hSq; go_simp <;> with_reducible rfl) ?_
 try go_frame
 refine wpAnyX_ready (rs := [8]) (by kernel_rfl) (by simp) ?_
 refine ReadyX.cons rfl (fun K hK => ?_) ReadyX.nil
 go_simp
 refine hC.mono ?_
 rintro e w1 ⟨rfl, hSt1⟩
 obtain ⟨pa, pb, hp, _⟩ := pO_form ((pairs t).head?)
 obtain ⟨ok, hok⟩ : ∃ b, ((pairs t).head?).isSome = b := ⟨_, rfl⟩
 rw [hp, hok]
 have HR := Lib.hid (And.intro hp hok)
 clear hp hok
 have hH1 := hSt1.tf.at hHW.drew (by decide)
 have hB1 := hSt1.tf.at hBW.drew (by decide)
 have q0 := hB1.free 0
 have q1 := hB1.free 1
 have r0 := hB1.cell 0
 have r1 := hB1.cell 1
 refine hK.out _ _ (keepH hH1) (fun hS1 => ?_)
 clear hK K
 try go_frame
 refine tY 9 _ rfl (by kernel_rfl) (fun _ _ _ => id) hS1 (by rfl) (by intro wq _; go_simp <;> with_reducible rfl) ?_
 try go_frame
 refine tY 10 _ rfl (by kernel_rfl) (fun _ _ _ => id) hS1 (by rfl) (by intro wq _; go_simp <;> with_reducible rfl) ?_
 try go_frame
 refine wpAnyX_ready (rs := [11]) (by kernel_rfl) (by simp) ?_
 refine ReadyX.last (x := 11) rfl (by kernel_rfl) (fun K hK => ?_) ReadyX.nil
 go_simp
 refine hK.out _ _ ?_
 clear hK K
 try go_frame
 refine wpAnyX_takeG (i := 12) (x := 11) (v := ?_) rfl (by kernel_rfl) (by kernel_rfl) (fun _ _ _ h => h)  (Or.inl ⟨by rfl, ?_⟩) ?_
 rotate_left
 ·(intro wq _; go_simp <;> with_reducible rfl)
 try go_frame
 refine wpAnyX_done (by kernel_rfl) ?_ _
 have hS2 := hSW.drew.trans hSt1
 obtain ⟨f4, g4, hR⟩ := set2 (x := .int .i64 pa) (y := .int .i64 pb) hS2.gate hB1 rfl
 have hS4 := hS2.own1 hB1 (by decide) (Nat.le_refl _) f4 g4
 simp only [List.getElem_toArray, List.getElem_cons_succ, List.getElem_cons_zero, List.setIfInBounds_toArray, List.set_cons_succ, List.set_cons_zero]
 go_wp2_with fail
 refine bodyPost_ret (results_ct rfl _ rfl hR.1 Tryz.underlying49 size49) rfl ?_
 obtain ⟨e1, e2⟩ := HR.out
 exact ⟨by rw [e1, e2]; rfl, hS4⟩
set_option maxHeartbeats 4000000 in
theorem hMax_any {g : Gt} {m be hb : Nat} {t : T Unit} {w0 w : World} (hS : St g m be t w0 w) (hH : Cl g w hb #[ptr be, gval g] 106) (hm : m + cost t.size < LIM) (hsz : t.size < 300000) :
 Calls Tryz.prog 62 #[ptr hb] w (PairS g (m + cost t.size) be t ((pairs t).getLast?) w) := by
 have hS0 : St g m be t w w := ⟨hS.map, hS.good, hS.gate, Fr.refl _ _ _⟩
 have hF1 := Fr.alloc g No w (.cells #[.int .i64 0, .int .i64 0] 49) hS.gate
 have hBW := At.new hS.gate (.cells #[.int .i64 0, .int .i64 0] 49)
 have hHW := hF1.at hH id
 have hSW := hS0.alloc (.cells #[.int .i64 0, .int .i64 0] 49)
 have hC := max_st hSW.drew hm hsz
 clear hF1 hS0 hH hS
 unfold ptr at hC ⊢
 go_enter Tryz.func62, Tryz.ntmps62
 go_wp2_with fail
 generalize hW : World.alloc w _ = W at *
 have hsW := hSW.tf.size
 clear hW
 refine wp_region_X (S := (fun w' => w'.cell? ⟨hb, 0, none⟩ = some (.pointer (some ⟨be, 0, none⟩)) ∧ w'.cell? ⟨hb, 1, none⟩ = some (gval g))) [11] (by kernel_rfl) ?_
 refine tY 0 _ rfl (by kernel_rfl) (fun _ _ _ => id) (keepH hHW.drew) (by rfl) (by intro wq _; go_simp <;> with_reducible rfl) ?_
 try go_frame
 refine tY 1 _ rfl (by kernel_rfl) (fun _ _ _ => id) (keepH hHW.drew) (by rfl) (by intro wq _; go_simp <;> with_reducible rfl) ?_
 try go_frame
 refine tY 2 _ rfl (by kernel_rfl) (fun _ _ _ => id) (keepH hHW.drew) (by rfl) (by intro wq _; go_simp <;> with_reducible rfl) ?_
 try go_frame
 refine tY 4 _ rfl (by kernel_rfl) (fun _ _ _ => id) (keepH hHW.drew) (by rfl) (by intro wq _; go_simp <;> with_reducible rfl) ?_
 try go_frame
 refine tY 5 _ rfl (by kernel_rfl) (fun _ _ _ => id) (keepH hHW.drew) (by rfl) (by intro wq _; go_simp <;> with_reducible rfl) ?_
 try go_frame
 refine tY 6 _ rfl (by kernel_rfl) (fun _ _ _ => id) (keepH hHW.drew) (by rfl) (by intro wq _; go_simp <;> with_reducible rfl) ?_
 try go_frame
 refine tX 3 _ rfl (by kernel_rfl) (fun _ _ _ => id) (keepH hHW.drew) (by rfl) (by intro wq hSq; obtain ⟨s0, s1⟩ := hSq; go_simp <;> with_reducible rfl) ?_
 try go_frame
 refine tX 7 _ rfl (by kernel_rfl) (fun _ _ _ => id) (keepH hHW.drew) (by rfl) (by intro wq hSq; obtain ⟨s0, s1⟩ := hSq; go_simp <;> with_reducible rfl) ?_
 try go_frame
 refine wpAnyX_ready (rs := [8]) (by kernel_rfl) (by simp) ?_
 refine ReadyX.cons rfl (fun K hK => ?_) ReadyX.nil
 go_simp
 refine hC.mono ?_
 rintro e w1 ⟨rfl, hSt1⟩
 obtain ⟨pa, pb, hp, _⟩ := pO_form ((pairs t).getLast?)
 obtain ⟨ok, hok⟩ : ∃ b, ((pairs t).getLast?).isSome = b := ⟨_, rfl⟩
 rw [hp, hok]
 have HR := Lib.hid (And.intro hp hok)
 clear hp hok
 have hH1 := hSt1.tf.at hHW.drew (by decide)
 have hB1 := hSt1.tf.at hBW.drew (by decide)
 have q0 := hB1.free 0
 have q1 := hB1.free 1
 have r0 := hB1.cell 0
 have r1 := hB1.cell 1
 refine hK.out _ _ (keepH hH1) (fun hS1 => ?_)
 clear hK K
 try go_frame
 refine tY 9 _ rfl (by kernel_rfl) (fun _ _ _ => id) hS1 (by rfl) (by intro wq _; go_simp <;> with_reducible rfl) ?_
 try go_frame
 refine tY 10 _ rfl (by kernel_rfl) (fun _ _ _ => id) hS1 (by rfl) (by intro wq _; go_simp <;> with_reducible rfl) ?_
 try go_frame
 refine wpAnyX_ready (rs := [11]) (by kernel_rfl) (by simp) ?_
 refine ReadyX.last (x := 11) rfl (by kernel_rfl) (fun K hK => ?_) ReadyX.nil
 go_simp
 refine hK.out _ _ ?_
 clear hK K
 try go_frame
 refine wpAnyX_takeG (i := 12) (x := 11) (v := ?_) rfl (by kernel_rfl) (by kernel_rfl) (fun _ _ _ h => h)  (Or.inl ⟨by rfl, ?_⟩) ?_
 rotate_left
 ·(intro wq _; go_simp <;> with_reducible rfl)
 try go_frame
 refine wpAnyX_done (by kernel_rfl) ?_ _
 have hS2 := hSW.drew.trans hSt1
 obtain ⟨f4, g4, hR⟩ := set2 (x := .int .i64 pa) (y := .int .i64 pb) hS2.gate hB1 rfl
 have hS4 := hS2.own1 hB1 (by decide) (Nat.le_refl _) f4 g4
 simp only [List.getElem_toArray, List.getElem_cons_succ, List.getElem_cons_zero, List.setIfInBounds_toArray, List.set_cons_succ, List.set_cons_zero]
 go_wp2_with fail
 refine bodyPost_ret (results_ct rfl _ rfl hR.1 Tryz.underlying49 size49) rfl ?_
 obtain ⟨e1, e2⟩ := HR.out
 exact ⟨by rw [e1, e2]; rfl, hS4⟩
set_option maxHeartbeats 4000000 in
theorem hRange_any {g : Gt} {m be hb : Nat} {t : T Unit} {lo hi : Int} {w0 w : World} (hS : St g m be t w0 w) (hH : Cl g w hb #[ptr be, gval g] 106) (hm : m + cost t.size < LIM) (hsz : t.size < 300000) :
 Calls Tryz.prog 58 #[ptr hb, .int .i64 lo, .int .i64 hi] w fun e w' => ∃ v, e = .returned v ∧ St g (m + cost t.size) be t w w' ∧ PV g w.heap.size w' (rngL lo hi (pairs t)) v := by
 have hS0 : St g m be t w w := ⟨hS.map, hS.good, hS.gate, Fr.refl _ _ _⟩
 have hC := range_st (lo := lo) (hi := hi) hS0.drew hm hsz
 have hFD := TF.of (Fr.drew g No w)
 obtain ⟨l0, l1⟩ := keepH hH
 unfold ptr at hC ⊢
 go_enter Tryz.func58, Tryz.ntmps58
 go_wp2_with fail
 go_still_tail 10, (by kernel_rfl)
 go_wp2_with fail
 refine hC.mono ?_
 rintro e w1 ⟨v, rfl, hS1, hP1⟩
 have HX : Hid (St g (m + cost t.size) be t w w1 ∧ PV g w.heap.size w1 (rngL lo hi (pairs t)) v) := ⟨⟨hS1.map, hS1.good, hS1.gate, hFD.trans hS1.tf⟩, hP1⟩
 clear hC hS1 hP1 l0 l1 hS0
 go_wp2_with fail
 go_ret
 exact ⟨_, rfl, HX.out⟩
set_option maxHeartbeats 4000000 in
theorem Read_any {g : Gt} {m : Nat} {t : HTree} {w : World} (hg : GOk g m w) (hm : m + 2 * t.size + 100 < LIM) (hsz : t.size < 90000) (hT : Tree g w t) :
 Calls Tryz.prog 63 #[gval g, ptr t.ann.1] w fun e w' => ∃ ov, e = .returned (.tuple #[ov, .int .i64 0]) ∧ Row g w' 88 6 ov (layT 0 t).length (nVs (layT 0 t)) ∧ (∀ b, ov.ownBlock = some b → w.heap.size ≤ b) ∧ Fr g No w w' ∧ GOk g (m + 2 * t.size) w' := by
 have hmm := @run_makeMap Tryz.prog
 have hF1 := Fr.alloc g No w (.map #[] 0) hg
 have hG1 := hg.alloc (.map #[] 0)
 have hM1 := At.new hg (.map #[] 0)
 have hF2 := Fr.alloc g No _ (.cells #[gval g, .map (some w.heap.size), .slice none 0 0] 153) hG1
 have hG2 := hG1.alloc (.cells #[gval g, .map (some w.heap.size), .slice none 0 0] 153)
 have hR2 := At.new hG1 (.cells #[gval g, .map (some w.heap.size), .slice none 0 0] 153)
 have hM2 := hF2.at hM1 id
 have hF := hF1.tr hF2
 simp only [World.size_alloc] at hR2
 have hRd := read_any hG2 hm hsz (hT.fr0 hF) hR2 hM2
 clear hM1 hF1 hF2 hG1 hg hT
 unfold ptr at *
 clear hR2 hM2 hG2
 obtain ⟨gv, hgv⟩ : ∃ v, gval g = v := ⟨_, rfl⟩
 have hform := gval_form g
 rw [hgv] at hRd hform hF ⊢
 have HF := Lib.hid hF
 clear hgv hF
 rcases hform with rfl | ⟨gb, rfl⟩
 all_goals
  go_enter Tryz.func63, Tryz.ntmps63
  go_wp2_with fail
  refine hRd.mono ?_
  rintro e w1 ⟨rfl, ov, hC, hR, hN, hFr, hG⟩
  obtain ⟨oa, oc, rfl⟩ := hR.slice
  have c2 := hC.cell 2
  have hsz2 := HF.out.size
  have HX : Hid (Row g w1 88 6 (.slice oa (layT 0 t).length oc) (layT 0 t).length (nVs (layT 0 t)) ∧ (∀ b, (Value.slice oa (layT 0 t).length oc).ownBlock = some b → w.heap.size ≤ b) ∧ Fr g No w w1 ∧ GOk g (m + 2 * t.size) w1) :=
   ⟨hR, fun b hb => Nat.le_trans hsz2 (hN b hb), HF.out.trans hFr (fun _ _ h => h) (fun c hc h => by rcases h with h | h <;> omega), hG⟩
  clear hR hN hFr hG hRd hmm
  go_wp2_with fail
  go_ret2
  exact ⟨_, rfl, HX.out⟩
def TabQ (g : Gt) (m be : Nat) (t : T Unit) (w : World) (e : Ending) (w' : World) : Prop :=
 ∃ ov, e = .returned ov ∧ Row g w' 88 6 ov (layT 0 t).length (nVs (layT 0 t)) ∧ (∀ b, ov.ownBlock = some b → w.heap.size ≤ b) ∧ Fr g No w w' ∧ St g m be t w w'
set_option maxHeartbeats 4000000 in
theorem Table_any {g : Gt} {m k be mb : Nat} {t : T Unit} {w0 w : World} (hgt : g.gt = none) (hS : St g m be t w0 w) (hM : Cl g w mb #[ptr be] 102) (hsz : t.size < 90000) :
 Calls Tryz.prog 21 #[ptr mb] w (TabQ g k be t w) := by
 obtain ⟨N, hTr, he, hb⟩ := hS.map
 have hn : N.size = t.size := by rw [← he, er_size]
 have hlim : LIM = 1099511627776 := rfl
 have hR := Read_any (m := 0) (hS.gate.any hgt) (by omega) (by omega) hTr
 rw [gval_none hgt, hb] at hR
 have h0 := hM.cell 0
 have hS0 : St g m be t w w := ⟨hS.map, hS.good, hS.gate, Fr.refl _ _ _⟩
 have hlay : layT 0 N = layT 0 t := by rw [← he, layT_er]
 rw [hlay] at hR
 unfold ptr at hR h0 ⊢
 clear hlim hTr hn he hlay hM
 go_enter Tryz.func21, Tryz.ntmps21
 go_wp2_with fail
 refine hR.mono ?_
 rintro e w1 ⟨ov, rfl, hRow, hN, hF, hG⟩
 obtain ⟨oa, oc, rfl⟩ := hRow.slice
 have HX : Hid (Row g w1 88 6 (.slice oa (layT 0 t).length oc) (layT 0 t).length (nVs (layT 0 t)) ∧ (∀ b, (Value.slice oa (layT 0 t).length oc).ownBlock = some b → w.heap.size ≤ b) ∧ Fr g No w w1 ∧ St g k be t w w1) := ⟨hRow, hN, hF, hS0.fr hF (hG.any hgt)⟩
 clear hR hRow hN hF hG hS0 hS
 go_wp2_with fail
 go_ret
 exact ⟨_, rfl, HX.out⟩
end Go.Proofs.YtdmobhndbibhoaaGreat
