/- The reader of a tree. -/
import Derived.Test.YtdmobhndbibhoaaGreatD3
namespace Go.Proofs.YtdmobhndbibhoaaGreat
open Go.RowKit Larch
set_option maxRecDepth 100000
set_option linter.unusedVariables false
set_option linter.unusedSimpArgs false
attribute [local go_sem ↓] Go.wp_at_zero Go.wp_at_succ
set_option maxHeartbeats 16000000 in
theorem read_any {g : Gt} {rb mb m : Nat} {t : HTree} {w : World} (hg : GOk g m w) (hm : m + 2 * t.size + 100 < LIM) (hsz : t.size < 90000) (hT : Tree g w t) (hr0 : Cl g w rb #[gval g, .map (some mb), .slice none 0 0] 153) (hm0 : At g w mb (.map #[] 0)) :
 Calls Tryz.prog 104 #[.pointer (some ⟨rb, 0, none⟩), ptr t.ann.1] w (RdQ g rb mb m t w) := by
 have hF := Fr.alloc g No w (.cells #[.pointer (some ⟨t.ann.1, 0, none⟩), .int .i64 0, .int .i64 0] 228) hg
 have hG := hg.alloc (.cells #[.pointer (some ⟨t.ann.1, 0, none⟩), .int .i64 0, .int .i64 0] 228)
 have hB := At.new hg (.cells #[.pointer (some ⟨t.ann.1, 0, none⟩), .int .i64 0, .int .i64 0] 228)
 have hst : RdSt g rb mb m t w (.slice (some ⟨w.heap.size, 0, none⟩) 1 1) (w.alloc (.cells #[.pointer (some ⟨t.ann.1, 0, none⟩), .int .i64 0, .int .i64 0] 228)) t.size :=
  ⟨[⟨t, 0, 0⟩], [], .slice none 0 0, #[], 0, ⟨rfl, .inr ⟨_, 1, _, rfl, Nat.le_refl _, by decide, hB, rfl, rfl⟩⟩, hF.at hr0 id, Row.nil, hF.at hm0 id, fin_start t, by simp only [List.mem_singleton]; rintro s rfl; exact ⟨hT.1.fr0 hF, .inl rfl⟩,
   by simp, fun a => by simp only [cntS, List.map_cons, List.map_nil, List.sum_cons, List.sum_nil]; have := hT.2 a; omega, by simp [Value.ownBlock], by simp [Value.ownBlock], hF.mono (fun _ _ h => h.elim),
   by simp only [sumT, List.map_cons, List.map_nil, List.sum_cons, List.sum_nil, Nat.add_zero, Nat.sub_self, Nat.mul_zero]; exact hG, by simp [sumT], by simp [sumT], by simp [sumT]⟩
 have hlr := hr0.lt
 have hlm := hm0.lt
 have hrm : rb ≠ mb := fun h => by subst h; have := hr0.1.symm.trans hm0.1; simp at this
 clear hF hG hB hT hg hr0 hm0
 unfold ptr at *
 go_enter Tryz.func104, Tryz.ntmps104
 go_wp2_with fail
 go_loopw [5] (fun v5 wr => ∃ k, RdSt g rb mb m t w v5 wr k) (fun v5 wr => least (RdSt g rb mb m t w v5 wr))
 case atStart => exact ⟨_, hst⟩
 case round =>
  have hsp := least_spec hrel
  generalize hn : least _ = n at hsp
  obtain ⟨st, out, ov, es, clock, hr5, hrd, hro, hmp, hfin, hH, hes, hcn, hn5, hno, hF, hG, hs, hle, hsum⟩ := hsp
  rcases List.eq_nil_or_concat st with rfl | ⟨st', s, rfl⟩
  ·obtain ⟨a5, c5, rfl⟩ := hr5.slice
   have hx : out = layT 0 t := hfin
   have HE : Hid (RdQ g rb mb m t w (.returned (.int .i64 0)) wr) := ⟨rfl, ov, hrd, by rw [← hx]; exact hro, hno, hF, hG.mono (by omega)⟩
   clear hr5 hrd hro hmp hfin hH hes hF hG hst hrel hn
   simp only [List.length_nil]
   go_wp2_with fail
   go_ret
   exact HE.out
  ·simp only [List.concat_eq_append] at *
   rw [List.length_append] at hr5
   simp only [List.length_cons, List.length_nil, Nat.zero_add] at hr5
   rw [tdVs_app] at hr5
   have hs1 : sumT [s] = s.t.size := by simp [sumT]
   rw [sumT_app, hs1] at hs hle hsum hG
   obtain ⟨b5, c5, rfl⟩ := hr5.pos (Nat.succ_pos _)
   have hsp := s.t.size_pos
   have hpop := Row.popN hr5 (ys := tdVs [s]) rfl
   have hHs := hH s (by simp)
   have hHr : ∀ q ∈ st', HT g wr q.t ∧ (q.s = 0 ∨ (q.s = 1 ∨ q.s = 2) ∧ q.p < out.length) := fun q hq => hH q (by simp [hq])
   have hge : ∀ j u, (tdVs [s])[j]? = some u → wr.cell? ⟨b5, st'.length * 3 + j, none⟩ = some u := fun j u hj => by
    have hj3 : j < 3 := by have := (List.getElem?_eq_some_iff.1 hj).1; rw [tdVs_len] at this; simpa using this
    rw [hr5.cell (st'.length * 3 + j) (by omega), List.getElem?_append_right (by rw [tdVs_len]; omega), tdVs_len, Nat.add_sub_cancel_left]; exact hj
   have d0 : wr.cell? ⟨b5, st'.length * 3, none⟩ = some (.pointer (some ⟨s.t.ann.1, 0, none⟩)) := hge 0 _ rfl
   have d1 : wr.cell? ⟨b5, st'.length * 3 + 1, none⟩ = some (.int .i64 (s.p : Int)) := hge 1 _ rfl
   have d2 : wr.cell? ⟨b5, st'.length * 3 + 2, none⟩ = some (.int .i64 s.s) := hge 2 _ rfl
   have hsl := sumT_len st'
   have hw1 : IntKind.i64.wrap ((st'.length : Int) + 1 - 1) = (st'.length : Int) := by rw [IntWalk.i64_in _ (by omega)]; omega
   have hpos : (0 : Int) < (st'.length : Int) + 1 := by omega
   have hw8 : (0 : Int) ≤ (st'.length : Int) := by omega
   have hcp : st'.length ≤ c5 := by
    rcases hpop.2 with ⟨h, _⟩ | ⟨_, _, _, h, h2, _⟩
    ·cases h
    ·simp at h; omega
   have HN : Hid (least (RdSt g rb mb m t w (.slice (some ⟨b5, 0, none⟩) (st'.length + 1) c5) wr) = n ∧ sumT st' + s.t.size = n) := ⟨hn, hs⟩
   obtain ⟨sb, hsb⟩ : ∃ q, s.t.ann.1 = q := ⟨_, rfl⟩
   obtain ⟨sp, hspp⟩ : ∃ q, s.p = q := ⟨_, rfl⟩
   obtain ⟨ss, hss⟩ : ∃ q, s.s = q := ⟨_, rfl⟩
   rw [hsb] at d0
   rw [hspp] at d1
   rw [hss] at d2
   have hNK : NewKey wr sb es := fun e he => by
    obtain ⟨b, h1, h2, h3⟩ := hes e he
    refine ⟨b, h1, fun h => ?_, h2⟩
    rw [cntS_app, h, ← hsb] at h3
    have := cnt_ann s.t
    simp only [cntS, List.map_cons, List.map_nil, List.sum_cons, List.sum_nil] at h3
    omega
   have hRc : IsRec wr sb := hsb ▸ hHs.1.isRec
   have hfin' : fin out (s :: st'.reverse) = layT 0 t := by rw [← hfin]; simp
   obtain ⟨on, hon⟩ : ∃ q, out.length = q := ⟨_, rfl⟩
   obtain ⟨oa, oc, rfl⟩ := hro.slice
   rw [hon] at hrd
   have hmax : ¬ ((on : Int) = 100000) := by omega
   have fA := Fr.alloc g No wr (.cells #[.pointer (some ⟨sb, 0, none⟩), .int .i64 (sp : Int), .int .i64 ss] 228) hG
   have gA := hG.alloc (.cells #[.pointer (some ⟨sb, 0, none⟩), .int .i64 (sp : Int), .int .i64 ss] 228)
   have bA := At.new hG (.cells #[.pointer (some ⟨sb, 0, none⟩), .int .i64 (sp : Int), .int .i64 ss] 228)
   have q0 := box_free (cs := #[.pointer none, .int .i64 0, .int .i64 0]) (T := 228) hG 0
   have q1 := box_free (cs := #[.pointer none, .int .i64 0, .int .i64 0]) (T := 228) hG 1
   have q2 := box_free (cs := #[.pointer none, .int .i64 0, .int .i64 0]) (T := 228) hG 2
   have hrdA := fA.at hrd id
   have hmpA := fA.at hmp id
   have hlk : ∀ k, (Instr.lookup 151 (.map (some mb)) (.pointer (some ⟨sb, 0, none⟩)) false).run Tryz.prog ((wr.alloc (.cells #[.pointer (some ⟨sb, 0, none⟩), .int .i64 (sp : Int), .int .i64 ss] 228)).drewN k) = .ok (.bool false) _ := fun k =>
    lookup_new (w := (wr.alloc _).drewN k) (es := es) (clock := clock) hmpA.1 (hRc.alloc _) (fun e he => by obtain ⟨b, h1, h2, h3⟩ := hNK e he; exact ⟨b, h1, h2, h3.alloc _⟩)
   have a0 := bA.cell 0
   have r1 := hrdA.cell 1
   have r2 := hrdA.cell 2
   clear hr5 hst hrel hn hs hge hH hfin
   go_wp2_with fail
   clear q0 q1 q2 d0 d1 d2
   go_quiet (fail)
   generalize hWA : wr.alloc _ = WA at *
   have fD := Fr.drewN g WA nq
   have gD := gA.drewN nq
   have f1 := fA.tr fD
   have hrd1 := fD.at hrdA id
   have hmp1 := fD.at hmpA id
   have hro1 := hro.fr f1 (fun _ _ h => h)
   have hpop1 := hpop.fr f1 (fun _ _ h => h)
   have bA1 := fD.at bA id
   have a0 := bA1.cell 0
   have r1 := hrd1.cell 1
   have r2 := hrd1.cell 2
   have hRc1 := f1.isRec _ hRc
   have hNK1 : NewKey (WA.drewN nq) sb es := fun e he => by obtain ⟨b, h1, h2, h3⟩ := hNK e he; exact ⟨b, h1, h2, f1.isRec _ h3⟩
   have hT1 := hHs.1.fr0 f1
   have hHr1 : ∀ q ∈ st', HT g (WA.drewN nq) q.t ∧ (q.s = 0 ∨ (q.s = 1 ∨ q.s = 2) ∧ q.p < out.length) := fun q hq => ⟨(hHr q hq).1.fr0 f1, (hHr q hq).2⟩
   have hes1 : ∀ e ∈ es.toList, ∃ b, e.key = .pointer (some ⟨b, 0, none⟩) ∧ IsRec (WA.drewN nq) b ∧ cntS b (st' ++ [s]) = 0 := fun e he => by obtain ⟨b, h1, h2, h3⟩ := hes e he; exact ⟨b, h1, f1.isRec _ h2, h3⟩
   have szA := hF.size
   have hF1 := hF.tr (f1.mono (fun _ _ h => h.elim))
   clear hrdA hmpA hro hpop hRc hNK hHr hes hF hrd hmp hlk fA gA
   generalize WA.drewN nq = W1 at *
   clear fD bA hWA
   go_wp2_with fail
   have hmu := update_new (v := .bool true) (w := W1.drew) hmp1.1 hRc1 hNK1
   refine wp_region_X (S := (fun w' => w'.cell? ⟨rb, 1, none⟩ = some (.map (some mb)) ∧ w'.cell? ⟨wr.heap.size, 0, none⟩ = some (.pointer (some ⟨sb, 0, none⟩)))) [6] (by kernel_rfl) ?_
   refine tY 0 _ rfl (by kernel_rfl) (fun _ _ _ => id) ⟨r1, a0⟩ (by rfl) (by intro wq _; go_simp <;> with_reducible rfl) ?_
   try go_frame
   refine tY 1 _ rfl (by kernel_rfl) (fun _ _ _ => id) ⟨r1, a0⟩ (by rfl) (by intro wq _; go_simp <;> with_reducible rfl) ?_
   try go_frame
   refine tY 2 _ rfl (by kernel_rfl) (fun _ _ _ => id) ⟨r1, a0⟩ (by rfl) (by intro wq _; go_simp <;> with_reducible rfl) ?_
   try go_frame
   refine tY 4 _ rfl (by kernel_rfl) (fun _ _ _ => id) ⟨r1, a0⟩ (by rfl) (by intro wq _; go_simp <;> with_reducible rfl) ?_
   try go_frame
   refine tX 3 _ rfl (by kernel_rfl) (fun _ _ _ => id) ⟨r1, a0⟩ (by rfl) (by intro wq hSq; obtain ⟨s0, s1⟩ := hSq; go_simp <;> with_reducible rfl) ?_
   try go_frame
   refine tX 5 _ rfl (by kernel_rfl) (fun _ _ _ => id) ⟨r1, a0⟩ (by rfl) (by intro wq hSq; obtain ⟨s0, s1⟩ := hSq; go_simp <;> with_reducible rfl) ?_
   try go_frame
   refine wpAnyX_ready (rs := [6]) (by kernel_rfl) (by simp) ?_
   refine ReadyX.last (x := 6) rfl (by kernel_rfl) (fun K hK => ?_) ReadyX.nil
   go_simp
   refine hK.out _ _ ?_
   clear hK K
   try go_frame
   refine wpAnyX_done (by kernel_rfl) ?_ _
   have hnm : ∀ c cs T, Cl g W1 c cs T → ¬ c = mb := fun c cs T hc e => by subst e; have := hc.1.symm.trans hmp1.1; simp at this
   have hmpD : At g W1.drew mb (.map es clock) := hmp1
   have f2 := (Fr.drew g (fun c => c = mb) W1).tr (Fr.wPut hmpD (.map (es.push { key := .pointer (some ⟨sb, 0, none⟩), val := .bool true, born := clock }) (clock + 1)) (by simp) rfl)
   have gW2 : GOk g (m + 2 * (t.size - (sumT st' + s.t.size))) (wPut W1.drew mb (.map (es.push { key := .pointer (some ⟨sb, 0, none⟩), val := .bool true, born := clock }) (clock + 1))) := GOk.wPut gD.drew hmpD
   have hmp2 := At.wPut (o := .map (es.push { key := .pointer (some ⟨sb, 0, none⟩), val := .bool true, born := clock }) (clock + 1)) hmpD
   generalize wPut W1.drew mb _ = W2 at *
   have hrd2 := f2.at hrd1 (fun h => hrm h)
   have bA2 := f2.at bA1 (hnm _ _ _ bA1)
   have hro2 := hro1.fr f2 (fun b hb e => hro1.no hmp1 (by simp) (e ▸ hb))
   have hpop2 := hpop1.fr f2 (fun b hb e => hpop1.no hmp1 (by simp) (e ▸ hb))
   have hT2 := hT1.fr f2 (fun c cs T hc _ => hnm c cs T hc)
   have hHr2 : ∀ q ∈ st', HT g W2 q.t ∧ (q.s = 0 ∨ (q.s = 1 ∨ q.s = 2) ∧ q.p < out.length) := fun q hq => ⟨(hHr1 q hq).1.fr f2 (fun c cs T hc _ => hnm c cs T hc), (hHr1 q hq).2⟩
   have hes2 : ∀ e ∈ (es.push { key := .pointer (some ⟨sb, 0, none⟩), val := .bool true, born := clock }).toList, ∃ b, e.key = .pointer (some ⟨b, 0, none⟩) ∧ IsRec W2 b ∧ cntS b st' + cnt b s.t = (if b = sb then 1 else 0) ∧ (b = sb → e.key = .pointer (some ⟨sb, 0, none⟩)) := fun e he => by
    rw [Array.toList_push, List.mem_append] at he
    rcases he with he | he
    ·obtain ⟨b, h1, h2, h3⟩ := hes1 e he
     rw [cntS_app] at h3
     simp only [cntS, List.map_cons, List.map_nil, List.sum_cons, List.sum_nil] at h3
     have hne : b ≠ sb := fun h => by have := cnt_ann s.t; rw [h, ← hsb] at h3; omega
     exact ⟨b, h1, f2.isRec _ h2, by rw [if_neg hne]; simp only [cntS]; omega, fun h => absurd h hne⟩
    ·simp only [List.mem_singleton] at he
     subst he
     refine ⟨sb, rfl, f2.isRec _ hRc1, ?_, fun _ => rfl⟩
     rw [if_pos rfl]
     have h1 := hcn sb
     rw [cntS_app] at h1
     simp only [cntS, List.map_cons, List.map_nil, List.sum_cons, List.sum_nil] at h1 ⊢
     have h2 := cnt_ann s.t
     rw [hsb] at h2
     omega
   have hF2 := hF1.tr (f2.mono (fun _ _ h => .inr h))
   clear hrd1 bA1 hro1 hpop1 hT1 hHr1 hes1 hF1 f2 hmp1 hmpD hnm hNK1 hRc1 hmu a0 r1 r2 gD f1
   obtain ⟨ix, rx⟩ := hT2.nd.rec
   rw [hsb] at rx
   obtain ⟨d, hd⟩ : ∃ q, s.t.it = q := ⟨_, rfl⟩
   obtain ⟨lf, hlf⟩ : ∃ q, s.t.isLeaf = q := ⟨_, rfl⟩
   rw [hd, hlf] at rx
   have HD := Lib.hid (And.intro hd (And.intro hlf (And.intro hsb (And.intro hspp hss))))
   clear hd hlf hsb hspp hss
   have k10 := keep10 hrd2 bA2 rx
   go_wp2_with fail
   have z0 := box_free (cs := #[.int .i64 0, .int .i64 0, .int .i64 0, .int .i64 0, .bool false]) (T := 184) gW2 0
   refine wp_region_X (S := (fun w' => w'.cell? ⟨rb, 2, none⟩ = some (.slice oa on oc) ∧ w'.cell? ⟨wr.heap.size, 0, none⟩ = some (.pointer (some ⟨sb, 0, none⟩)) ∧ w'.cell? ⟨sb, 0, none⟩ = some (.int .i64 d.k) ∧ w'.cell? ⟨sb, 1, none⟩ = some (.int .i64 d.i) ∧ w'.cell? ⟨sb, 2, none⟩ = some (.int .i64 d.w) ∧ w'.cell? ⟨sb, 3, none⟩ = some (.int .i64 d.v) ∧ w'.cell? ⟨sb, 4, none⟩ = some (.bool lf))) [12] (by kernel_rfl) ?_
   refine tY 0 _ rfl (by kernel_rfl) (fun _ _ _ => id) k10 (by rfl) (by intro wq _; go_simp <;> with_reducible rfl) ?_
   try go_frame
   refine tY 1 _ rfl (by kernel_rfl) (fun _ _ _ => id) k10 (by rfl) (by intro wq _; go_simp <;> with_reducible rfl) ?_
   try go_frame
   refine tY 2 _ rfl (by kernel_rfl) (fun _ _ _ => id) k10 (by rfl) (by intro wq _; go_simp <;> with_reducible rfl) ?_
   try go_frame
   refine tY 5 _ rfl (by kernel_rfl) (fun _ _ _ => id) k10 (by rfl) (by intro wq _; go_simp <;> with_reducible rfl) ?_
   try go_frame
   refine tX 3 _ rfl (by kernel_rfl) (fun _ _ _ => id) k10 (by rfl) (by intro wq hSq; obtain ⟨s0, s1, s2, s3, s4, s5, s6⟩ := hSq; go_simp <;> with_reducible rfl) ?_
   try go_frame
   refine tY 4 _ rfl (by kernel_rfl) (fun _ _ _ => id) k10 (by rfl) (by intro wq _; go_simp <;> with_reducible rfl) ?_
   try go_frame
   refine tX 6 _ rfl (by kernel_rfl) (fun _ _ _ => id) k10 (by rfl) (by intro wq hSq; obtain ⟨s0, s1, s2, s3, s4, s5, s6⟩ := hSq; go_simp <;> with_reducible rfl) ?_
   try go_frame
   refine tY 7 _ rfl (by kernel_rfl) (fun _ _ _ => id) k10 (by rfl) (by intro wq _; go_simp <;> with_reducible rfl) ?_
   try go_frame
   refine tY 8 _ rfl (by kernel_rfl) (fun _ _ _ => id) k10 (by rfl) (by intro wq _; go_simp <;> with_reducible rfl) ?_
   try go_frame
   refine tX 9 _ rfl (by kernel_rfl) (fun _ _ _ => id) k10 (by rfl) (by intro wq hSq; obtain ⟨s0, s1, s2, s3, s4, s5, s6⟩ := hSq; go_simp <;> with_reducible rfl) ?_
   try go_frame
   refine wpAnyX_ready (rs := [10]) (by kernel_rfl) (by simp) ?_
   refine ReadyX.cons rfl (fun K hK => ?_) ReadyX.nil
   go_simp
   refine hK.out _ _ (keep10 ((fr_d1 gW2 _).at hrd2 id) ((fr_d1 gW2 _).at bA2 id) ((fr_d1 gW2 _).at rx id)) (fun hS1 => ?_)
   clear hK K
   try go_frame
   refine tY 11 _ rfl (by kernel_rfl) (fun _ _ _ => id) hS1 (by rfl) (by intro wq _; go_simp <;> with_reducible rfl) ?_
   try go_frame
   refine wpAnyX_ready (rs := [12]) (by kernel_rfl) (by simp) ?_
   refine ReadyX.last (x := 12) rfl (by kernel_rfl) (fun K hK => ?_) ReadyX.nil
   go_simp
   refine hK.out _ _ ?_
   clear hK K
   try go_frame
   refine wpAnyX_done (by kernel_rfl) ?_ _
   have f3 := (Fr.alloc g No W2 (.cells #[.int .i64 d.k, .int .i64 d.i, .int .i64 d.w, .int .i64 d.v, .bool lf] 184) gW2).tr (Fr.drew g No _)
   have gW3 := (gW2.alloc (.cells #[.int .i64 d.k, .int .i64 d.i, .int .i64 d.w, .int .i64 d.v, .bool lf] 184)).drew
   have bE3 := (At.new gW2 (.cells #[.int .i64 d.k, .int .i64 d.i, .int .i64 d.w, .int .i64 d.v, .bool lf] 184)).drew
   have szE := hF2.size
   generalize heb : W2.heap.size = eb at *
   generalize htb : wr.heap.size = tb at *
   generalize (W2.alloc _).drew = W3 at *
   have hrd3 := f3.at hrd2 id
   have bA3 := f3.at bA2 id
   have hro3 := hro2.fr f3 (fun _ _ h => h)
   have hpop3 := hpop2.fr f3 (fun _ _ h => h)
   have hmp3 := f3.at hmp2 id
   have hT3 := hT2.fr0 f3
   have hHr3 : ∀ q ∈ st', HT g W3 q.t ∧ (q.s = 0 ∨ (q.s = 1 ∨ q.s = 2) ∧ q.p < out.length) := fun q hq => ⟨(hHr2 q hq).1.fr0 f3, (hHr2 q hq).2⟩
   have hes3 : ∀ e ∈ (es.push { key := .pointer (some ⟨sb, 0, none⟩), val := .bool true, born := clock }).toList, ∃ b, e.key = .pointer (some ⟨b, 0, none⟩) ∧ IsRec W3 b ∧ cntS b st' + cnt b s.t = (if b = sb then 1 else 0) := fun e he => by
    obtain ⟨b, h1, h2, h3, _⟩ := hes2 e he; exact ⟨b, h1, f3.isRec _ h2, h3⟩
   have hF3 := hF2.tr (f3.mono (fun _ _ h => h.elim))
   clear hrd2 bA2 hro2 hpop2 hT2 hHr2 hes2 hF2 f3 hmp2 rx k10 z0 hS1 gW2
   have a2 := bA3.cell 2
   have htbl := bA3.lt
   have hebl := bE3.lt
   have HES := Lib.hid hes3
   have HHR := Lib.hid hHr3
   clear hes3 hHr3
   have hss := hHs.2
   rw [HD.out.2.2.2.2, HD.out.2.2.2.1] at hss
   clear hHs
   go_upto_block 2 with fail
   go_cut [] (fun wx => RdMid g rb mb m t w wx st' s out sb sp ss d lf on oa oc b5 c5 es clock tb eb)
   case first =>
    clear HN hfin' hcn hn5 hrm hlr hlm
    rcases hss with rfl | ⟨rfl | rfl, hsp2⟩
    ·rw [hon] at hno
     have hro4 : Row g W3 88 6 (.slice oa on oc) on (nVs (setc out sp 0 on)) := by
      have : setc out sp 0 on = out := by unfold setc; rw [show setR 0 on = id from by funext r; simp [setR]]; exact List.modify_id ..
      rw [this, ← hon]; exact hro3
     have hrd4 := hrd3
     have bA4 := bA3
     have bE4 := bE3
     have hpop4 := hpop3
     have hmp4 := hmp3
     have hT4 := hT3
     have hHr4 := HHR.out
     have hes4 := HES.out
     have hF4 := hF3
     have gW4 := gW3
     have hno4 : ∀ b, (Value.slice oa on oc).ownBlock = some b → w.heap.size ≤ b := fun b hb => hno b hb
     clear hro3 hrd3 bA3 bE3 hpop3 hmp3 hT3 HHR HES hF3 gW3 hno
     go_wp2_with fail
     go_meet
     exact ⟨hro4, hrd4, bA4, bE4, hpop4, hmp4, hT4, hHr4, hes4, hF4, gW4, hno4⟩
    ·have hpos : 0 < out.length := by omega
     obtain ⟨ob, oc', hoo⟩ := hro3.pos hpos
     simp only [Value.slice.injEq] at hoo
     obtain ⟨rfl, _, rfl⟩ := hoo
     have p1 := hrd3.cell 2
     have p2 := bA3.cell 1
     have p3 := hro3.free (sp * 6 + 4)
     obtain ⟨xo, hxo⟩ : ∃ x, W3.cell? ⟨ob, sp * 6 + 4, none⟩ = some x := by
      rw [hro3.cell (sp * 6 + 4) (by omega)]
      exact ⟨_, List.getElem?_eq_getElem (by rw [nVs_len]; omega)⟩
     have p4 : (0 : Int) ≤ (sp : Int) := by omega
     have p5 : (sp : Int) < (on : Int) := by omega
     have p6 : sp < on := by omega
     go_wp2_with fail
     refine wp_region_X (S := (fun w' => w'.cell? ⟨rb, 2, none⟩ = some (.slice (some ⟨ob, 0, none⟩) on oc) ∧ w'.cell? ⟨tb, 1, none⟩ = some (.int .i64 (sp : Int)))) [9] (by kernel_rfl) ?_
     refine tY 0 _ rfl (by kernel_rfl) (fun _ _ _ => id) ⟨p1, p2⟩ (by rfl) (by intro wq _; go_simp <;> with_reducible rfl) ?_
     try go_frame
     refine tY 1 _ rfl (by kernel_rfl) (fun _ _ _ => id) ⟨p1, p2⟩ (by rfl) (by intro wq _; go_simp <;> with_reducible rfl) ?_
     try go_frame
     refine tY 2 _ rfl (by kernel_rfl) (fun _ _ _ => id) ⟨p1, p2⟩ (by rfl) (by intro wq _; go_simp <;> with_reducible rfl) ?_
     try go_frame
     refine tY 4 _ rfl (by kernel_rfl) (fun _ _ _ => id) ⟨p1, p2⟩ (by rfl) (by intro wq _; go_simp <;> with_reducible rfl) ?_
     try go_frame
     refine tY 6 _ rfl (by kernel_rfl) (fun _ _ _ => id) ⟨p1, p2⟩ (by rfl) (by intro wq _; go_simp <;> with_reducible rfl) ?_
     try go_frame
     refine tX 3 _ rfl (by kernel_rfl) (fun _ _ _ => id) ⟨p1, p2⟩ (by rfl) (by intro wq hSq; obtain ⟨s0, s1⟩ := hSq; go_simp <;> with_reducible rfl) ?_
     try go_frame
     refine tX 5 _ rfl (by kernel_rfl) (fun _ _ _ => id) ⟨p1, p2⟩ (by rfl) (by intro wq hSq; obtain ⟨s0, s1⟩ := hSq; go_simp <;> with_reducible rfl) ?_
     try go_frame
     refine tY 7 _ rfl (by kernel_rfl) (fun _ _ _ => id) ⟨p1, p2⟩ (by rfl) (by intro wq _; go_simp <;> with_reducible rfl) ?_
     try go_frame
     refine tY 8 _ rfl (by kernel_rfl) (fun _ _ _ => id) ⟨p1, p2⟩ (by rfl) (by intro wq _; go_simp <;> with_reducible rfl) ?_
     try go_frame
     refine wpAnyX_ready (rs := [9]) (by kernel_rfl) (by simp) ?_
     refine ReadyX.last (x := 9) rfl (by kernel_rfl) (fun K hK => ?_) ReadyX.nil
     go_simp
     refine hK.out _ _ ?_
     clear hK K
     try go_frame
     refine wpAnyX_done (by kernel_rfl) ?_ _
     obtain ⟨hro4', f4', gW4'⟩ := Row.set (x := .int .i64 (on : Int)) hro3 gW3 (by decide) (show sp * 6 + 4 < out.length * 6 by omega)
     rw [nVs_set4 _ _ _ hsp2] at hro4'
     have f4 : Fr g (fun c => c = ob) W3 _ := f4'.tr (Fr.drew g _ _)
     replace hro4' := hro4'.fr (Fr.drew g No _) (fun _ _ h => h)
     replace gW4' := gW4'.drew
     clear f4' p1 p2 p3 hxo
     generalize (World.setCell W3 _ _).drew = W4 at *
     have hro4 : Row g W4 88 6 (.slice (some ⟨ob, 0, none⟩) on oc) on (nVs (setc out sp 1 on)) := by
      have : setc out sp 1 on = out.modify sp fun r => ⟨r.d, (on : Int), r.r⟩ := by unfold setc setR; simp
      rw [this, ← hon]; rw [hon] at hro4' ⊢; exact hro4'
     have ho4 : ∀ c cs T, Cl g W3 c cs T → T ≠ 88 → ¬ c = ob := fun c cs T hc hT e => hro3.notin hc (fun h => hT h.symm) (by rw [e]; rfl)
     have hrd4 := f4.at hrd3 (ho4 _ _ _ hrd3 (by decide))
     have bA4 := f4.at bA3 (ho4 _ _ _ bA3 (by decide))
     have bE4 := f4.at bE3 (ho4 _ _ _ bE3 (by decide))
     have hpop4 := hpop3.fr f4 (fun b hb e => hpop3.ne2 hro3 (by decide) b hb (by rw [e]; rfl))
     have hmp4 := f4.at hmp3 (fun e => hro3.no hmp3 (by simp) (by rw [← e]; rfl))
     have hT4 := hT3.fr f4 (fun c cs T hc hT => ho4 c cs T hc (by rcases hT with rfl | rfl | rfl <;> decide))
     have hHr4 : ∀ q ∈ st', HT g W4 q.t ∧ (q.s = 0 ∨ (q.s = 1 ∨ q.s = 2) ∧ q.p < out.length) := fun q hq => ⟨(HHR.out q hq).1.fr f4 (fun c cs T hc hT => ho4 c cs T hc (by rcases hT with rfl | rfl | rfl <;> decide)), (HHR.out q hq).2⟩
     have hes4 : ∀ e ∈ (es.push { key := .pointer (some ⟨sb, 0, none⟩), val := .bool true, born := clock }).toList, ∃ b, e.key = .pointer (some ⟨b, 0, none⟩) ∧ IsRec W4 b ∧ cntS b st' + cnt b s.t = (if b = sb then 1 else 0) := fun e he => by
      obtain ⟨b, h1, h2, h3⟩ := HES.out e he; exact ⟨b, h1, f4.isRec _ h2, h3⟩
     have hF4 : Fr g (fun c => c = rb ∨ c = mb) w W4 := Fr.trans hF3 f4 (fun _ _ h => h) (fun c hc e => by have := hno ob rfl; omega)
     have gW4 := gW4'
     have hno4 : ∀ b, (Value.slice (some ⟨ob, 0, none⟩) on oc).ownBlock = some b → w.heap.size ≤ b := fun b hb => hno b hb
     clear hro3 hrd3 bA3 bE3 hpop3 hmp3 hT3 HHR HES hF3 gW3 gW4' f4 ho4 hro4' hno
     go_wp2_with fail
     go_meet
     exact ⟨hro4, hrd4, bA4, bE4, hpop4, hmp4, hT4, hHr4, hes4, hF4, gW4, hno4⟩
    ·have hpos : 0 < out.length := by omega
     obtain ⟨ob, oc', hoo⟩ := hro3.pos hpos
     simp only [Value.slice.injEq] at hoo
     obtain ⟨rfl, _, rfl⟩ := hoo
     have p1 := hrd3.cell 2
     have p2 := bA3.cell 1
     have p3 := hro3.free (sp * 6 + 5)
     obtain ⟨xo, hxo⟩ : ∃ x, W3.cell? ⟨ob, sp * 6 + 5, none⟩ = some x := by
      rw [hro3.cell (sp * 6 + 5) (by omega)]
      exact ⟨_, List.getElem?_eq_getElem (by rw [nVs_len]; omega)⟩
     have p4 : (0 : Int) ≤ (sp : Int) := by omega
     have p5 : (sp : Int) < (on : Int) := by omega
     have p6 : sp < on := by omega
     go_wp2_with fail
     refine wp_region_X (S := (fun w' => w'.cell? ⟨rb, 2, none⟩ = some (.slice (some ⟨ob, 0, none⟩) on oc) ∧ w'.cell? ⟨tb, 1, none⟩ = some (.int .i64 (sp : Int)))) [9] (by kernel_rfl) ?_
     refine tY 0 _ rfl (by kernel_rfl) (fun _ _ _ => id) ⟨p1, p2⟩ (by rfl) (by intro wq _; go_simp <;> with_reducible rfl) ?_
     try go_frame
     refine tY 1 _ rfl (by kernel_rfl) (fun _ _ _ => id) ⟨p1, p2⟩ (by rfl) (by intro wq _; go_simp <;> with_reducible rfl) ?_
     try go_frame
     refine tY 2 _ rfl (by kernel_rfl) (fun _ _ _ => id) ⟨p1, p2⟩ (by rfl) (by intro wq _; go_simp <;> with_reducible rfl) ?_
     try go_frame
     refine tY 4 _ rfl (by kernel_rfl) (fun _ _ _ => id) ⟨p1, p2⟩ (by rfl) (by intro wq _; go_simp <;> with_reducible rfl) ?_
     try go_frame
     refine tY 6 _ rfl (by kernel_rfl) (fun _ _ _ => id) ⟨p1, p2⟩ (by rfl) (by intro wq _; go_simp <;> with_reducible rfl) ?_
     try go_frame
     refine tX 3 _ rfl (by kernel_rfl) (fun _ _ _ => id) ⟨p1, p2⟩ (by rfl) (by intro wq hSq; obtain ⟨s0, s1⟩ := hSq; go_simp <;> with_reducible rfl) ?_
     try go_frame
     refine tX 5 _ rfl (by kernel_rfl) (fun _ _ _ => id) ⟨p1, p2⟩ (by rfl) (by intro wq hSq; obtain ⟨s0, s1⟩ := hSq; go_simp <;> with_reducible rfl) ?_
     try go_frame
     refine tY 7 _ rfl (by kernel_rfl) (fun _ _ _ => id) ⟨p1, p2⟩ (by rfl) (by intro wq _; go_simp <;> with_reducible rfl) ?_
     try go_frame
     refine tY 8 _ rfl (by kernel_rfl) (fun _ _ _ => id) ⟨p1, p2⟩ (by rfl) (by intro wq _; go_simp <;> with_reducible rfl) ?_
     try go_frame
     refine wpAnyX_ready (rs := [9]) (by kernel_rfl) (by simp) ?_
     refine ReadyX.last (x := 9) rfl (by kernel_rfl) (fun K hK => ?_) ReadyX.nil
     go_simp
     refine hK.out _ _ ?_
     clear hK K
     try go_frame
     refine wpAnyX_done (by kernel_rfl) ?_ _
     obtain ⟨hro4', f4', gW4'⟩ := Row.set (x := .int .i64 (on : Int)) hro3 gW3 (by decide) (show sp * 6 + 5 < out.length * 6 by omega)
     rw [nVs_set5 _ _ _ hsp2] at hro4'
     have f4 : Fr g (fun c => c = ob) W3 _ := f4'.tr (Fr.drew g _ _)
     replace hro4' := hro4'.fr (Fr.drew g No _) (fun _ _ h => h)
     replace gW4' := gW4'.drew
     clear f4' p1 p2 p3 hxo
     generalize (World.setCell W3 _ _).drew = W4 at *
     have hro4 : Row g W4 88 6 (.slice (some ⟨ob, 0, none⟩) on oc) on (nVs (setc out sp 2 on)) := by
      have : setc out sp 2 on = out.modify sp fun r => ⟨r.d, r.l, (on : Int)⟩ := by unfold setc setR; simp
      rw [this, ← hon]; rw [hon] at hro4' ⊢; exact hro4'
     have ho4 : ∀ c cs T, Cl g W3 c cs T → T ≠ 88 → ¬ c = ob := fun c cs T hc hT e => hro3.notin hc (fun h => hT h.symm) (by rw [e]; rfl)
     have hrd4 := f4.at hrd3 (ho4 _ _ _ hrd3 (by decide))
     have bA4 := f4.at bA3 (ho4 _ _ _ bA3 (by decide))
     have bE4 := f4.at bE3 (ho4 _ _ _ bE3 (by decide))
     have hpop4 := hpop3.fr f4 (fun b hb e => hpop3.ne2 hro3 (by decide) b hb (by rw [e]; rfl))
     have hmp4 := f4.at hmp3 (fun e => hro3.no hmp3 (by simp) (by rw [← e]; rfl))
     have hT4 := hT3.fr f4 (fun c cs T hc hT => ho4 c cs T hc (by rcases hT with rfl | rfl | rfl <;> decide))
     have hHr4 : ∀ q ∈ st', HT g W4 q.t ∧ (q.s = 0 ∨ (q.s = 1 ∨ q.s = 2) ∧ q.p < out.length) := fun q hq => ⟨(HHR.out q hq).1.fr f4 (fun c cs T hc hT => ho4 c cs T hc (by rcases hT with rfl | rfl | rfl <;> decide)), (HHR.out q hq).2⟩
     have hes4 : ∀ e ∈ (es.push { key := .pointer (some ⟨sb, 0, none⟩), val := .bool true, born := clock }).toList, ∃ b, e.key = .pointer (some ⟨b, 0, none⟩) ∧ IsRec W4 b ∧ cntS b st' + cnt b s.t = (if b = sb then 1 else 0) := fun e he => by
      obtain ⟨b, h1, h2, h3⟩ := HES.out e he; exact ⟨b, h1, f4.isRec _ h2, h3⟩
     have hF4 : Fr g (fun c => c = rb ∨ c = mb) w W4 := Fr.trans hF3 f4 (fun _ _ h => h) (fun c hc e => by have := hno ob rfl; omega)
     have gW4 := gW4'
     have hno4 : ∀ b, (Value.slice (some ⟨ob, 0, none⟩) on oc).ownBlock = some b → w.heap.size ≤ b := fun b hb => hno b hb
     clear hro3 hrd3 bA3 bE3 hpop3 hmp3 hT3 HHR HES hF3 gW3 gW4' f4 ho4 hro4' hno
     go_wp2_with fail
     go_meet
     exact ⟨hro4, hrd4, bA4, bE4, hpop4, hmp4, hT4, hHr4, hes4, hF4, gW4, hno4⟩
   case rest =>
    have hn2 := HN.out.2
    have hnl := HN.out.1
    rename_i K hK
    refine hK _ _ ?_
    refine read_tail hm hsz hlr hlm hrm hcn hle hsum hn5 hsp hsl hcp hn2 hfin' hon hmax HD szE szA hcut (by rintro c ⟨ts, ds⟩ ⟨ts', ds'⟩ w he h; obtain rfl : ds = ds' := he; exact h) ?_
    clear HN hK hcut hcn hn5 hfin' HD hro3 hrd3 bA3 bE3 hpop3 hmp3 hT3 HHR HES hF3 gW3 hno hss a2
    intro u6 u7 u8 u9 u10 u63 u14 u15 u16 u17 u18 u19 u20 u21 u22 u23 u24 u25 u26 u27 u28 u29 u30 u31 u32 u33 u34 u35 u36 u37 u38 u39 u40 u41 u42 u43 u44 u45 u46 u47 u48 u49 u50 u51 u52 u53 u54 u55 u56 u57 u58 u59 u60 u61 u62 u64 u65 u66 u67 u68 u69 u70 u71 u72 u73 u74 u75 u76 u77 u78 u79 u80 u81 u82 u83 u84 u85 u86 u87 u88 u89 u90 u91 u92 u93 u94 u95 u96 u97 u98 u99 u100 u101 u102 u103 u104 u105 u106 u107 u108 u109 u110 u111 u112 u113 u114 u115 u116 u117 u118 u119 u120 u121 u122 u123 u124 u125 u126 u127 u128 u129 v5 wq ⟨k', hk', hR⟩
    go_roundw
    case rel =>
     repeat apply Exists.intro
     exact ⟨⟨_, hR⟩, rfl⟩
    case measure =>
     have h1 := least_le hR
     show least (RdSt g rb mb m t w v5 wq) < least (RdSt g rb mb m t w (.slice (some ⟨b5, 0, none⟩) (st'.length + 1) c5) wr)
     omega
end Go.Proofs.YtdmobhndbibhoaaGreat
