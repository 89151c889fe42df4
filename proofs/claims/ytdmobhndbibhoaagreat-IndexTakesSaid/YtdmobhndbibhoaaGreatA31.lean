/- chroma's over: the walk to black or light, and behind it. -/
import Derived.Test.YtdmobhndbibhoaaGreatA24
namespace Go.Proofs.YtdmobhndbibhoaaGreat
open Go.RowKit Larch
set_option maxRecDepth 100000
set_option linter.unusedVariables false
set_option linter.unusedSimpArgs false
attribute [local go_sem ↓] Go.wp_at_zero Go.wp_at_succ
set_option maxHeartbeats 4000000 in
theorem over_b_f {g : Gt} {m be : Nat} {u : HFr} {c : List HFr} {x : Nat × Nat} {d : It} {l r : HTree} {w : World} {E : T Unit} (hg : GOk g m w) (hm : m + 200 < LIM)
 (hTr : Tree g w (plug (u :: c) (.node x d l r))) (he : IsRec w be) (hbe : u.x.1 ≠ be) (hd0 : 0 ≤ d.w) (hd1 : d.w ≤ 1) (hdi : d.i = 0) (hwv : l.it.w = 2) (hwf : r.it.w = 1) (hM : ∀ {m tb lo be ub xb la ra b6 b7 i1 i3 i6 i7 fc1 fc3 fc6 fc7 : Nat} {fa1 fa3 fa6 fa7 : Option Addr} {w : World}, GOk g m w → m + 100 < LIM → HT g w (plug (u :: c) (.node x d l r)) → TrySt g w tb [⟨u.x.1, u.x.2, u.d, false, frT u x.1, i1, false, .slice fa1 2 fc1⟩, vt (.node x d l r) i3 true (.slice fa3 2 fc3), vt l i6 true (.slice fa6 (kidsOf l).length fc6), vt r i7 true (.slice fa7 (kidsOf r).length fc7)] →
   Bx g w tb b6 #[.pointer (some ⟨be, 0, none⟩)] 99 → Bx g w tb b7 #[.pointer (some ⟨ub, 0, none⟩)] 99 → IsRec w be → u.x.1 ≠ be → lo ≤ w.heap.size → u.x.1 = ub → x.1 = xb → l.ann.1 = la → r.ann.1 = ra →
   Calls Tryz.prog 281 #[.pointer (some ⟨tb, 0, none⟩), .agg #[.pointer (some ⟨xb, 0, none⟩), .pointer (some ⟨i3, 0, none⟩), .slice fa3 2 fc3], .agg #[.pointer (some ⟨la, 0, none⟩), .pointer (some ⟨i6, 0, none⟩), .slice fa6 (kidsOf l).length fc6], .agg #[.pointer (some ⟨ra, 0, none⟩), .pointer (some ⟨i7, 0, none⟩), .slice fa7 (kidsOf r).length fc7], .int .i64 0, .func (.func 279) #[] #[.pointer (some ⟨b6, 0, none⟩), .pointer (some ⟨b7, 0, none⟩)]] w
    (MakeR g m tb lo [⟨u.x.1, u.x.2, u.d, false, frT u x.1, i1, false, .slice fa1 2 fc1⟩, vt (.node x d l r) i3 true (.slice fa3 2 fc3), vt l i6 true (.slice fa6 (kidsOf l).length fc6), vt r i7 true (.slice fa7 (kidsOf r).length fc7)] x l r d E w)) :
 Calls Tryz.prog 236 #[gval g, ptr be, ptr u.x.1, ptr x.1, ptr l.ann.1] w (StepR g (m + 200) u c E w) := by
 have hT := hTr.1
 have hU := hTr.2
 have hlo := hT.lt
 have hne1 : u.sib.ann.1 ≠ x.1 := fun h => by
  have k := hU x.1
  have k2 := cnt_ann_le x.1 u.sib
  rw [h] at k2
  simp only [cnt_plug, cntC, cnt, one_self] at k k2
  omega
 have hne2 : l.ann.1 ≠ r.ann.1 := fun h => by
  have k := hU l.ann.1
  have k1 := cnt_ann_le l.ann.1 l
  have k2 := cnt_ann_le l.ann.1 r
  rw [← h] at k2
  simp only [cnt_plug, cntC, cnt, one_self] at k k1 k2
  omega
 have HX := Lib.hid (And.intro hU (And.intro hlo (And.intro hne1 hne2)))
 clear hU hlo hne1 hne2 hTr
 obtain ⟨ub, hub⟩ : ∃ q : Nat, u.x.1 = q := ⟨_, rfl⟩
 obtain ⟨xb, hxb⟩ : ∃ q : Nat, x.1 = q := ⟨_, rfl⟩
 obtain ⟨la, hla⟩ : ∃ q : Nat, l.ann.1 = q := ⟨_, rfl⟩
 obtain ⟨ra, hra⟩ : ∃ q : Nat, r.ann.1 = q := ⟨_, rfl⟩
 rw [hub] at hbe
 rw [hub, hxb, hla]
 unfold ptr
 have HB := Lib.hid (And.intro hub (And.intro hxb (And.intro hla hra)))
 clear hub hxb hla hra
 have HBE := Lib.hid hbe
 clear hbe
 obtain ⟨so, hso⟩ : ∃ q : Int, (if u.s then (1 : Int) else 0) = q := ⟨_, rfl⟩
 have HSO := Lib.hid hso
 clear hso
 have hFa := Fr.alloc g No w (.cells #[.pointer (some ⟨be, 0, none⟩)] 99) hg
 have hga := hg.alloc (.cells #[.pointer (some ⟨be, 0, none⟩)] 99)
 have hFb := Fr.alloc g No _ (.cells #[.pointer (some ⟨ub, 0, none⟩)] 99) hga
 have hgb := hga.alloc (.cells #[.pointer (some ⟨ub, 0, none⟩)] 99)
 have A6 := hFb.at (At.new hg (.cells #[.pointer (some ⟨be, 0, none⟩)] 99)) id
 have A7 := At.new hga (.cells #[.pointer (some ⟨ub, 0, none⟩)] 99)
 simp only [World.size_alloc] at A7
 have hFc := Fr.alloc g No _ (.cells #[gval g, .slice none 0 0, .slice none 0 0, .bool true] 218) hgb
 have ht := TrySt.start hgb
 simp only [World.size_alloc] at ht
 have hTB := fun b => try_blk (g := g) (w := (w.alloc (.cells #[.pointer (some ⟨be, 0, none⟩)] 99)).alloc (.cells #[.pointer (some ⟨ub, 0, none⟩)] 99)) b
 simp only [World.size_alloc] at hTB
 have t6 : Bx g _ (w.heap.size + 1 + 1) w.heap.size #[.pointer (some ⟨be, 0, none⟩)] 99 := ⟨hFc.at A6 id, fun h => by have := hTB _ h; omega⟩
 have t7 : Bx g _ (w.heap.size + 1 + 1) (w.heap.size + 1) #[.pointer (some ⟨ub, 0, none⟩)] 99 := ⟨hFc.at A7 id, fun h => by have := hTB _ h; omega⟩
 replace hg := hgb.alloc (.cells #[gval g, .slice none 0 0, .slice none 0 0, .bool true] 218)
 have hFw := (hFa.tr hFb).tr hFc
 clear hFa hFb hFc hga hgb A6 A7
 replace hT := hT.fr0 hFw
 replace he := hFw.isRec _ he
 have hgc := gval_cells g
 unfold Value.cells at hgc
 have z0 := t7.1.cell 0
 go_enter Tryz.func236, Tryz.ntmps236
 go_wp2_with fail
 clear z0
 generalize hW : World.alloc (World.alloc (World.alloc w _) _) _ = W0 at *
 clear hW hgc
 have hFT : FrT g (w.heap.size + 1 + 1) W0 W0 := by obtain ⟨cs, h⟩ := ht.at; exact FrT.of h (Fr.refl g No W0)
 refine (linkU_tr (a := x.1) false hg (by omega) (by simp) ht (HTp.u hT) HB.out.1).mono ?_
 rintro e w1 ⟨i1, fa1, fc1, rfl, fT, hg', ht'⟩
 replace hT := hT.frT ht fT
 replace t6 := t6.fr fT
 replace t7 := t7.fr fT
 replace hFT := hFT.trans fT
 clear ht hg fT
 have ht := ht'
 have hg := hg'
 clear ht' hg'
 simp only [List.nil_append, List.cons_append, List.append_assoc] at ht
 obtain ⟨q0, q1, q2⟩ := bq hg
 obtain ⟨b11, hg', f⟩ := bn #[.pointer (some ⟨ub, 0, none⟩), .pointer (some ⟨i1, 0, none⟩), .slice fa1 2 fc1] ht hg
 replace hT := hT.fr0 f
 replace t6 := t6.fr (ht.frT f)
 replace t7 := t7.fr (ht.frT f)
 replace hFT := hFT.trans (ht.frT f)
 replace ht := ht.fr0 f
 replace hg := hg'; clear hg' f
 have z0 := b11.1.cell 0
 have z1 := b11.1.cell 1
 have z2 := b11.1.cell 2
 go_wp2_with fail
 clear z0 z1 z2
 clear q0 q1 q2
 generalize hW : World.alloc w1 _ = W1 at *
 clear hW
 refine (leadsU_tr (a := x.1) (i := i1) (info := i1) (fin := false) hg ht (by simp) HX.out.2.2.1 (HTp.X hT).isRec (HTp.sib hT).isRec HB.out.1 HB.out.2.1).mono ?_
 rintro e w2 ⟨rfl, f, hg'⟩
 rw [HSO.out]
 replace hT := hT.fr0 f
 replace b11 := b11.fr (ht.frT f)
 replace t6 := t6.fr (ht.frT f)
 replace t7 := t7.fr (ht.frT f)
 replace hFT := hFT.trans (ht.frT f)
 replace ht := ht.fr0 f
 replace hg := hg'; clear hg' f
 go_wp2_with fail
 refine (link_tr (t := .node x d l r) true hg (by omega) (by simp) ht (HTp.X hT) HB.out.2.1).mono ?_
 rintro e w3 ⟨i3, fa3, fc3, rfl, fT, hg', ht'⟩
 replace hT := hT.frT ht fT
 replace b11 := b11.fr fT
 replace t6 := t6.fr fT
 replace t7 := t7.fr fT
 replace hFT := hFT.trans fT
 clear ht hg fT
 have ht := ht'
 have hg := hg'
 clear ht' hg'
 simp only [List.nil_append, List.cons_append, List.append_assoc] at ht
 simp only [kidsOf, List.length_cons, List.length_nil, Nat.zero_add, Nat.reduceAdd] at ht ⊢
 obtain ⟨q0, q1, q2⟩ := bq hg
 obtain ⟨b13, hg', f⟩ := bn #[.pointer (some ⟨xb, 0, none⟩), .pointer (some ⟨i3, 0, none⟩), .slice fa3 2 fc3] ht hg
 replace hT := hT.fr0 f
 replace b11 := b11.fr (ht.frT f)
 replace t6 := t6.fr (ht.frT f)
 replace t7 := t7.fr (ht.frT f)
 replace hFT := hFT.trans (ht.frT f)
 replace ht := ht.fr0 f
 replace hg := hg'; clear hg' f
 have z0 := b13.1.cell 0
 have z1 := b13.1.cell 1
 have z2 := b13.1.cell 2
 go_wp2_with fail
 clear z0 z1 z2
 clear q0 q1 q2
 generalize hW : World.alloc w3 _ = W2 at *
 clear hW
 have hX := HTp.X hT
 refine (leads_tr (x := x) (d := d) (l := l) (r := r) (i := i3) (i0 := i3) (fin := true) false hg ht (by simp [kidsOf]) hX.2.1 hX.2.2 HX.out.2.2.2 HB.out.2.1 HB.out.2.2.1).mono ?_
 clear hX
 rintro e w4 ⟨rfl, f, hg'⟩
 replace hT := hT.fr0 f
 replace b11 := b11.fr (ht.frT f)
 replace b13 := b13.fr (ht.frT f)
 replace t6 := t6.fr (ht.frT f)
 replace t7 := t7.fr (ht.frT f)
 replace hFT := hFT.trans (ht.frT f)
 replace ht := ht.fr0 f
 replace hg := hg'; clear hg' f
 simp only [Bool.false_eq_true, if_false]
 have z0 := b13.1.cell 0
 have z1 := b13.1.cell 1
 have z2 := b13.1.cell 2
 go_wp2_with fail
 clear z0 z1 z2
 have hX := HTp.X hT
 have hl := hX.2.1
 have hr := hX.2.2
 refine (both_t (x := x) (d := d) (l := l) (r := r) (i := i3) (i0 := i3) (fa := fa3) (fc := fc3) (fin := true) false hg (by omega) (by simp) ht (by simp [kidsOf]) hl hr HB.out.2.1 rfl).mono ?_
 rintro e w6 ⟨i6, fa6, fc6, i7, fa7, fc7, rfl, fT, hg', ht'⟩
 clear hX hl hr
 simp only [Bool.false_eq_true, if_false]
 rw [HB.out.2.2.1, HB.out.2.2.2]
 replace hT := hT.frT ht fT
 replace b11 := b11.fr fT
 replace b13 := b13.fr fT
 replace t6 := t6.fr fT
 replace t7 := t7.fr fT
 replace hFT := hFT.trans fT
 clear ht hg fT
 have ht := ht'
 have hg := hg'
 clear ht' hg'
 simp only [List.nil_append, List.cons_append, List.append_assoc] at ht
 obtain ⟨q0, q3⟩ := box_free2 (cs := #[.pointer none, .pointer none, .slice none 0 0]) (ds := #[.pointer none, .pointer none, .slice none 0 0]) (T := 220) (U := 220) hg 0
 have q6 := (box_free2 (cs := #[.pointer (some ⟨la, 0, none⟩), .pointer (some ⟨i6, 0, none⟩), .slice fa6 (kidsOf l).length fc6]) (ds := #[.pointer none, .pointer none, .slice none 0 0]) (T := 220) (U := 220) hg 0).2
 obtain ⟨q1, q4⟩ := box_free2 (cs := #[.pointer none, .pointer none, .slice none 0 0]) (ds := #[.pointer none, .pointer none, .slice none 0 0]) (T := 220) (U := 220) hg 1
 have q7 := (box_free2 (cs := #[.pointer (some ⟨la, 0, none⟩), .pointer (some ⟨i6, 0, none⟩), .slice fa6 (kidsOf l).length fc6]) (ds := #[.pointer none, .pointer none, .slice none 0 0]) (T := 220) (U := 220) hg 1).2
 obtain ⟨q2, q5⟩ := box_free2 (cs := #[.pointer none, .pointer none, .slice none 0 0]) (ds := #[.pointer none, .pointer none, .slice none 0 0]) (T := 220) (U := 220) hg 2
 have q8 := (box_free2 (cs := #[.pointer (some ⟨la, 0, none⟩), .pointer (some ⟨i6, 0, none⟩), .slice fa6 (kidsOf l).length fc6]) (ds := #[.pointer none, .pointer none, .slice none 0 0]) (T := 220) (U := 220) hg 2).2
 obtain ⟨b15, hg', f⟩ := bn #[.pointer (some ⟨la, 0, none⟩), .pointer (some ⟨i6, 0, none⟩), .slice fa6 (kidsOf l).length fc6] ht hg
 replace hT := hT.fr0 f
 replace b11 := b11.fr (ht.frT f)
 replace b13 := b13.fr (ht.frT f)
 replace t6 := t6.fr (ht.frT f)
 replace t7 := t7.fr (ht.frT f)
 replace hFT := hFT.trans (ht.frT f)
 replace ht := ht.fr0 f
 replace hg := hg'; clear hg' f
 obtain ⟨b16, hg', f⟩ := bn #[.pointer (some ⟨ra, 0, none⟩), .pointer (some ⟨i7, 0, none⟩), .slice fa7 (kidsOf r).length fc7] ht hg
 replace hT := hT.fr0 f
 replace b11 := b11.fr (ht.frT f)
 replace b13 := b13.fr (ht.frT f)
 replace t6 := t6.fr (ht.frT f)
 replace t7 := t7.fr (ht.frT f)
 replace b15 := b15.fr (ht.frT f)
 replace hFT := hFT.trans (ht.frT f)
 replace ht := ht.fr0 f
 replace hg := hg'; clear hg' f
 simp only [World.size_alloc] at b16
 unfold ptr
 have hX := HTp.X hT
 have hl := hX.2.1
 have hr := hX.2.2
 obtain ⟨ix, rx⟩ := hX.nd.rec
 have x1 := rc1 rx
 rw [show (T.node x d l r).ann.1 = xb from HB.out.2.1, show (T.node x d l r).it.i = 0 from hdi] at x1
 clear rx
 have z0 := ht.okc
 have z1 := b13.1.cell 0
 have z2 := b13.1.cell 1
 have z3 := b13.1.cell 2
 have z4 := b15.1.cell 0
 have z5 := b15.1.cell 1
 have z6 := b15.1.cell 2
 have z7 := b16.1.cell 0
 have z8 := b16.1.cell 1
 have z9 := b16.1.cell 2
 go_wp2_with fail
 clear z0 z1 z2 z3 z4 z5 z6 z7 z8 z9
 clear q0 q1 q2 q3 q4 q5 q6 q7 q8
 generalize hW : World.alloc (World.alloc w6 _) _ = W3 at *
 clear hW
 clear x1 hX hl hr
 refine (HT.of (HTp.X hT).2.1 HB.out.2.2.1 hg).mono ?_
 rintro e w7 ⟨rfl, f, hg'⟩
 rw [hwv]
 replace hT := hT.fr0 f
 replace b11 := b11.fr (ht.frT f)
 replace b13 := b13.fr (ht.frT f)
 replace t6 := t6.fr (ht.frT f)
 replace t7 := t7.fr (ht.frT f)
 replace b15 := b15.fr (ht.frT f)
 replace b16 := b16.fr (ht.frT f)
 replace hFT := hFT.trans (ht.frT f)
 replace ht := ht.fr0 f
 replace hg := hg'; clear hg' f
 have z0 := b16.1.cell 0
 have z1 := b16.1.cell 1
 have z2 := b16.1.cell 2
 go_wp2_with fail
 clear z0 z1 z2
 refine (HT.of (HTp.X hT).2.2 HB.out.2.2.2 hg).mono ?_
 rintro e w8 ⟨rfl, f, hg'⟩
 rw [hwf]
 replace hT := hT.fr0 f
 replace b11 := b11.fr (ht.frT f)
 replace b13 := b13.fr (ht.frT f)
 replace t6 := t6.fr (ht.frT f)
 replace t7 := t7.fr (ht.frT f)
 replace b15 := b15.fr (ht.frT f)
 replace b16 := b16.fr (ht.frT f)
 replace hFT := hFT.trans (ht.frT f)
 replace ht := ht.fr0 f
 replace hg := hg'; clear hg' f
 have z0 := b13.1.cell 0
 have z1 := b13.1.cell 1
 have z2 := b13.1.cell 2
 have z3 := b15.1.cell 0
 have z4 := b15.1.cell 1
 have z5 := b15.1.cell 2
 have z6 := b16.1.cell 0
 have z7 := b16.1.cell 1
 have z8 := b16.1.cell 2
 go_wp2_with fail
 clear z0 z1 z2 z3 z4 z5 z6 z7 z8
 refine (HT.of (HTp.X hT).2.2 HB.out.2.2.2 hg).mono ?_
 rintro e w9 ⟨rfl, f, hg'⟩
 rw [hwf]
 replace hT := hT.fr0 f
 replace b11 := b11.fr (ht.frT f)
 replace b13 := b13.fr (ht.frT f)
 replace t6 := t6.fr (ht.frT f)
 replace t7 := t7.fr (ht.frT f)
 replace b15 := b15.fr (ht.frT f)
 replace b16 := b16.fr (ht.frT f)
 replace hFT := hFT.trans (ht.frT f)
 replace ht := ht.fr0 f
 replace hg := hg'; clear hg' f
 have z0 := b13.1.cell 0
 have z1 := b13.1.cell 1
 have z2 := b13.1.cell 2
 have z3 := b15.1.cell 0
 have z4 := b15.1.cell 1
 have z5 := b15.1.cell 2
 have z6 := b16.1.cell 0
 have z7 := b16.1.cell 1
 have z8 := b16.1.cell 2
 go_wp2_with fail
 clear z0 z1 z2 z3 z4 z5 z6 z7 z8
 refine (hM hg (by omega) hT ht t6 t7 (hFT.fr.isRec _ he) (by rw [HB.out.1]; exact HBE.out) (Nat.le_trans hFw.size hFT.fr.size) HB.out.1 HB.out.2.1 HB.out.2.2.1 HB.out.2.2.2).mono ?_
 rintro e w10 ⟨N, L', F, R, P, rfl, fT, hg', ht', hN, hE, hFr, hc1, hc2, hR, hL⟩
 clear hM
 replace hT := hT.frT ht fT
 replace b11 := b11.fr fT
 replace b13 := b13.fr fT
 replace t6 := t6.fr fT
 replace t7 := t7.fr fT
 replace b15 := b15.fr fT
 replace b16 := b16.fr fT
 replace hFT := hFT.trans fT
 clear ht hg fT
 have ht := ht'
 have hg := hg'
 clear ht' hg'
 simp only [List.nil_append, List.cons_append, List.append_assoc] at ht
 have z0 := ht.okc
 have HP := Lib.hid (And.intro hE (And.intro hFr (And.intro hc1 (And.intro hc2 (And.intro hR hL)))))
 clear hE hFr hc1 hc2 hR hL
 have HNT := Lib.hid hN
 obtain ⟨na, hna⟩ : ∃ q : Nat, N.ann.1 = q := ⟨_, rfl⟩
 rw [hna]
 have HNA := Lib.hid hna
 clear hna hN
 unfold ptr
 go_wp2_with fail
 clear z0
 have hnd : ((([⟨u.x.1, u.x.2, u.d, false, frT u x.1, i1, false, .slice fa1 2 fc1⟩, vt (.node x d l r) i3 true (.slice fa3 2 fc3), vt l i6 true (.slice fa6 (kidsOf l).length fc6), vt r i7 true (.slice fa7 (kidsOf r).length fc7)] ++ L') : List VRec).map (·.b)).Nodup := nd_count fun a => by
  have k := HX.out.1 a
  have k1 := HP.out.2.2.2.1 a
  have k2 := HP.out.2.2.2.2.1 a
  have e0 : ∀ M : List VRec, ((M.map (·.b)).map (one a)).sum = (M.map fun q => one a q.b).sum := fun M => by rw [List.map_map]; rfl
  rw [e0]
  simp only [cnt_plug, cntC] at k
  simp only [List.map_append, List.sum_append, List.map_cons, List.map_nil, List.sum_cons, List.sum_nil, ann_node]
  omega
 have hL2 := HP.out.2.2.2.2.2
 simp only [List.cons_append, List.nil_append] at hnd
 rw [← HSO.out]
 refine (swap_t (u := u) (a := x.1) (info := i1) (fa := fa1) (fc := fc1) hg (by simp only [List.length_cons]; omega) (by simp only [List.length_cons]; omega) rfl ht hnd (by have h := HNT.out.isRec; rwa [HNA.out] at h)).mono ?_
 rintro e wz ⟨rfl, f, hg', hnd2⟩
 rw [HSO.out]
 have hfin := swap_tree (u := u) (c := c) (lo := w.heap.size) (P := P) (R := R) (F := F) ⟨hT, HX.out.1⟩ HX.out.2.1 HNT.out HP.out.2.2.1 HP.out.2.2.2.1 (fun q hq => by
  have h := HP.out.2.2.2.2.1 q.b
  simp only [List.mem_cons] at hq
  rcases hq with rfl | rfl | rfl | hq
  ·simp only [ann_node, one_self] at h ⊢; omega
  ·simp only [one_self] at h ⊢; omega
  ·simp only [one_self] at h ⊢; omega
  ·have := sum_ge hq; omega) HP.out.2.1.1 (fun a ha => (HP.out.2.1.2 a ha).1) (fun q hq => ht.vok hq) rfl rfl rfl rfl f (by rw [HNA.out]; exact hnd2)
 obtain ⟨hTree, hTF⟩ := hfin
 have hTF0 : TF g w wz := by
  refine TF.trans (TF.of (hFw.trans hFT.fr (fun _ _ h => h) (fun b hb h => ?_))) hTF
  have := hTB b h
  omega
 have HFIN : Hid (Tree g wz _ ∧ TF g w wz ∧ GOk g _ wz) := ⟨hTree, hTF0, hg'⟩
 clear hTree hTF hTF0 hg' f hnd2 hnd
 go_wp2
 go_end0
 obtain ⟨hz1, hz2, hz3⟩ := HFIN.out
 exact ⟨rfl, _, hz1, HP.out.1, hz2, hz3.mono (by simp only [List.length_cons]; omega)⟩
set_option maxHeartbeats 4000000 in
theorem over_b_t {g : Gt} {m be : Nat} {u : HFr} {c : List HFr} {x : Nat × Nat} {d : It} {l r : HTree} {w : World} {E : T Unit} (hg : GOk g m w) (hm : m + 200 < LIM)
 (hTr : Tree g w (plug (u :: c) (.node x d l r))) (he : IsRec w be) (hbe : u.x.1 ≠ be) (hd0 : 0 ≤ d.w) (hd1 : d.w ≤ 1) (hdi : d.i = 0) (hwv : r.it.w = 2) (hwf : l.it.w = 1) (hM : ∀ {m tb lo be ub xb la ra b6 b7 i1 i3 i6 i7 fc1 fc3 fc6 fc7 : Nat} {fa1 fa3 fa6 fa7 : Option Addr} {w : World}, GOk g m w → m + 100 < LIM → HT g w (plug (u :: c) (.node x d l r)) → TrySt g w tb [⟨u.x.1, u.x.2, u.d, false, frT u x.1, i1, false, .slice fa1 2 fc1⟩, vt (.node x d l r) i3 true (.slice fa3 2 fc3), vt l i6 true (.slice fa6 (kidsOf l).length fc6), vt r i7 true (.slice fa7 (kidsOf r).length fc7)] →
   Bx g w tb b6 #[.pointer (some ⟨be, 0, none⟩)] 99 → Bx g w tb b7 #[.pointer (some ⟨ub, 0, none⟩)] 99 → IsRec w be → u.x.1 ≠ be → lo ≤ w.heap.size → u.x.1 = ub → x.1 = xb → l.ann.1 = la → r.ann.1 = ra →
   Calls Tryz.prog 281 #[.pointer (some ⟨tb, 0, none⟩), .agg #[.pointer (some ⟨xb, 0, none⟩), .pointer (some ⟨i3, 0, none⟩), .slice fa3 2 fc3], .agg #[.pointer (some ⟨ra, 0, none⟩), .pointer (some ⟨i7, 0, none⟩), .slice fa7 (kidsOf r).length fc7], .agg #[.pointer (some ⟨la, 0, none⟩), .pointer (some ⟨i6, 0, none⟩), .slice fa6 (kidsOf l).length fc6], .int .i64 1, .func (.func 279) #[] #[.pointer (some ⟨b6, 0, none⟩), .pointer (some ⟨b7, 0, none⟩)]] w
    (MakeR g m tb lo [⟨u.x.1, u.x.2, u.d, false, frT u x.1, i1, false, .slice fa1 2 fc1⟩, vt (.node x d l r) i3 true (.slice fa3 2 fc3), vt l i6 true (.slice fa6 (kidsOf l).length fc6), vt r i7 true (.slice fa7 (kidsOf r).length fc7)] x l r d E w)) :
 Calls Tryz.prog 236 #[gval g, ptr be, ptr u.x.1, ptr x.1, ptr r.ann.1] w (StepR g (m + 200) u c E w) := by
 have hT := hTr.1
 have hU := hTr.2
 have hlo := hT.lt
 have hne1 : u.sib.ann.1 ≠ x.1 := fun h => by
  have k := hU x.1
  have k2 := cnt_ann_le x.1 u.sib
  rw [h] at k2
  simp only [cnt_plug, cntC, cnt, one_self] at k k2
  omega
 have hne2 : l.ann.1 ≠ r.ann.1 := fun h => by
  have k := hU l.ann.1
  have k1 := cnt_ann_le l.ann.1 l
  have k2 := cnt_ann_le l.ann.1 r
  rw [← h] at k2
  simp only [cnt_plug, cntC, cnt, one_self] at k k1 k2
  omega
 have HX := Lib.hid (And.intro hU (And.intro hlo (And.intro hne1 hne2)))
 clear hU hlo hne1 hne2 hTr
 obtain ⟨ub, hub⟩ : ∃ q : Nat, u.x.1 = q := ⟨_, rfl⟩
 obtain ⟨xb, hxb⟩ : ∃ q : Nat, x.1 = q := ⟨_, rfl⟩
 obtain ⟨la, hla⟩ : ∃ q : Nat, l.ann.1 = q := ⟨_, rfl⟩
 obtain ⟨ra, hra⟩ : ∃ q : Nat, r.ann.1 = q := ⟨_, rfl⟩
 rw [hub] at hbe
 rw [hub, hxb, hra]
 unfold ptr
 have HB := Lib.hid (And.intro hub (And.intro hxb (And.intro hla hra)))
 clear hub hxb hla hra
 have HBE := Lib.hid hbe
 clear hbe
 obtain ⟨so, hso⟩ : ∃ q : Int, (if u.s then (1 : Int) else 0) = q := ⟨_, rfl⟩
 have HSO := Lib.hid hso
 clear hso
 have hFa := Fr.alloc g No w (.cells #[.pointer (some ⟨be, 0, none⟩)] 99) hg
 have hga := hg.alloc (.cells #[.pointer (some ⟨be, 0, none⟩)] 99)
 have hFb := Fr.alloc g No _ (.cells #[.pointer (some ⟨ub, 0, none⟩)] 99) hga
 have hgb := hga.alloc (.cells #[.pointer (some ⟨ub, 0, none⟩)] 99)
 have A6 := hFb.at (At.new hg (.cells #[.pointer (some ⟨be, 0, none⟩)] 99)) id
 have A7 := At.new hga (.cells #[.pointer (some ⟨ub, 0, none⟩)] 99)
 simp only [World.size_alloc] at A7
 have hFc := Fr.alloc g No _ (.cells #[gval g, .slice none 0 0, .slice none 0 0, .bool true] 218) hgb
 have ht := TrySt.start hgb
 simp only [World.size_alloc] at ht
 have hTB := fun b => try_blk (g := g) (w := (w.alloc (.cells #[.pointer (some ⟨be, 0, none⟩)] 99)).alloc (.cells #[.pointer (some ⟨ub, 0, none⟩)] 99)) b
 simp only [World.size_alloc] at hTB
 have t6 : Bx g _ (w.heap.size + 1 + 1) w.heap.size #[.pointer (some ⟨be, 0, none⟩)] 99 := ⟨hFc.at A6 id, fun h => by have := hTB _ h; omega⟩
 have t7 : Bx g _ (w.heap.size + 1 + 1) (w.heap.size + 1) #[.pointer (some ⟨ub, 0, none⟩)] 99 := ⟨hFc.at A7 id, fun h => by have := hTB _ h; omega⟩
 replace hg := hgb.alloc (.cells #[gval g, .slice none 0 0, .slice none 0 0, .bool true] 218)
 have hFw := (hFa.tr hFb).tr hFc
 clear hFa hFb hFc hga hgb A6 A7
 replace hT := hT.fr0 hFw
 replace he := hFw.isRec _ he
 have hgc := gval_cells g
 unfold Value.cells at hgc
 have z0 := t7.1.cell 0
 go_enter Tryz.func236, Tryz.ntmps236
 go_wp2_with fail
 clear z0
 generalize hW : World.alloc (World.alloc (World.alloc w _) _) _ = W0 at *
 clear hW hgc
 have hFT : FrT g (w.heap.size + 1 + 1) W0 W0 := by obtain ⟨cs, h⟩ := ht.at; exact FrT.of h (Fr.refl g No W0)
 refine (linkU_tr (a := x.1) false hg (by omega) (by simp) ht (HTp.u hT) HB.out.1).mono ?_
 rintro e w1 ⟨i1, fa1, fc1, rfl, fT, hg', ht'⟩
 replace hT := hT.frT ht fT
 replace t6 := t6.fr fT
 replace t7 := t7.fr fT
 replace hFT := hFT.trans fT
 clear ht hg fT
 have ht := ht'
 have hg := hg'
 clear ht' hg'
 simp only [List.nil_append, List.cons_append, List.append_assoc] at ht
 obtain ⟨q0, q1, q2⟩ := bq hg
 obtain ⟨b11, hg', f⟩ := bn #[.pointer (some ⟨ub, 0, none⟩), .pointer (some ⟨i1, 0, none⟩), .slice fa1 2 fc1] ht hg
 replace hT := hT.fr0 f
 replace t6 := t6.fr (ht.frT f)
 replace t7 := t7.fr (ht.frT f)
 replace hFT := hFT.trans (ht.frT f)
 replace ht := ht.fr0 f
 replace hg := hg'; clear hg' f
 have z0 := b11.1.cell 0
 have z1 := b11.1.cell 1
 have z2 := b11.1.cell 2
 go_wp2_with fail
 clear z0 z1 z2
 clear q0 q1 q2
 generalize hW : World.alloc w1 _ = W1 at *
 clear hW
 refine (leadsU_tr (a := x.1) (i := i1) (info := i1) (fin := false) hg ht (by simp) HX.out.2.2.1 (HTp.X hT).isRec (HTp.sib hT).isRec HB.out.1 HB.out.2.1).mono ?_
 rintro e w2 ⟨rfl, f, hg'⟩
 rw [HSO.out]
 replace hT := hT.fr0 f
 replace b11 := b11.fr (ht.frT f)
 replace t6 := t6.fr (ht.frT f)
 replace t7 := t7.fr (ht.frT f)
 replace hFT := hFT.trans (ht.frT f)
 replace ht := ht.fr0 f
 replace hg := hg'; clear hg' f
 go_wp2_with fail
 refine (link_tr (t := .node x d l r) true hg (by omega) (by simp) ht (HTp.X hT) HB.out.2.1).mono ?_
 rintro e w3 ⟨i3, fa3, fc3, rfl, fT, hg', ht'⟩
 replace hT := hT.frT ht fT
 replace b11 := b11.fr fT
 replace t6 := t6.fr fT
 replace t7 := t7.fr fT
 replace hFT := hFT.trans fT
 clear ht hg fT
 have ht := ht'
 have hg := hg'
 clear ht' hg'
 simp only [List.nil_append, List.cons_append, List.append_assoc] at ht
 simp only [kidsOf, List.length_cons, List.length_nil, Nat.zero_add, Nat.reduceAdd] at ht ⊢
 obtain ⟨q0, q1, q2⟩ := bq hg
 obtain ⟨b13, hg', f⟩ := bn #[.pointer (some ⟨xb, 0, none⟩), .pointer (some ⟨i3, 0, none⟩), .slice fa3 2 fc3] ht hg
 replace hT := hT.fr0 f
 replace b11 := b11.fr (ht.frT f)
 replace t6 := t6.fr (ht.frT f)
 replace t7 := t7.fr (ht.frT f)
 replace hFT := hFT.trans (ht.frT f)
 replace ht := ht.fr0 f
 replace hg := hg'; clear hg' f
 have z0 := b13.1.cell 0
 have z1 := b13.1.cell 1
 have z2 := b13.1.cell 2
 go_wp2_with fail
 clear z0 z1 z2
 clear q0 q1 q2
 generalize hW : World.alloc w3 _ = W2 at *
 clear hW
 have hX := HTp.X hT
 refine (leads_tr (x := x) (d := d) (l := l) (r := r) (i := i3) (i0 := i3) (fin := true) true hg ht (by simp [kidsOf]) hX.2.1 hX.2.2 HX.out.2.2.2 HB.out.2.1 HB.out.2.2.2).mono ?_
 clear hX
 rintro e w4 ⟨rfl, f, hg'⟩
 replace hT := hT.fr0 f
 replace b11 := b11.fr (ht.frT f)
 replace b13 := b13.fr (ht.frT f)
 replace t6 := t6.fr (ht.frT f)
 replace t7 := t7.fr (ht.frT f)
 replace hFT := hFT.trans (ht.frT f)
 replace ht := ht.fr0 f
 replace hg := hg'; clear hg' f
 simp only [if_true]
 have z0 := b13.1.cell 0
 have z1 := b13.1.cell 1
 have z2 := b13.1.cell 2
 go_wp2_with fail
 clear z0 z1 z2
 have hX := HTp.X hT
 have hl := hX.2.1
 have hr := hX.2.2
 refine (both_t (x := x) (d := d) (l := l) (r := r) (i := i3) (i0 := i3) (fa := fa3) (fc := fc3) (fin := true) true hg (by omega) (by simp) ht (by simp [kidsOf]) hl hr HB.out.2.1 rfl).mono ?_
 rintro e w6 ⟨i6, fa6, fc6, i7, fa7, fc7, rfl, fT, hg', ht'⟩
 clear hX hl hr
 simp only [if_true]
 rw [HB.out.2.2.1, HB.out.2.2.2]
 replace hT := hT.frT ht fT
 replace b11 := b11.fr fT
 replace b13 := b13.fr fT
 replace t6 := t6.fr fT
 replace t7 := t7.fr fT
 replace hFT := hFT.trans fT
 clear ht hg fT
 have ht := ht'
 have hg := hg'
 clear ht' hg'
 simp only [List.nil_append, List.cons_append, List.append_assoc] at ht
 obtain ⟨q0, q3⟩ := box_free2 (cs := #[.pointer none, .pointer none, .slice none 0 0]) (ds := #[.pointer none, .pointer none, .slice none 0 0]) (T := 220) (U := 220) hg 0
 have q6 := (box_free2 (cs := #[.pointer (some ⟨ra, 0, none⟩), .pointer (some ⟨i7, 0, none⟩), .slice fa7 (kidsOf r).length fc7]) (ds := #[.pointer none, .pointer none, .slice none 0 0]) (T := 220) (U := 220) hg 0).2
 obtain ⟨q1, q4⟩ := box_free2 (cs := #[.pointer none, .pointer none, .slice none 0 0]) (ds := #[.pointer none, .pointer none, .slice none 0 0]) (T := 220) (U := 220) hg 1
 have q7 := (box_free2 (cs := #[.pointer (some ⟨ra, 0, none⟩), .pointer (some ⟨i7, 0, none⟩), .slice fa7 (kidsOf r).length fc7]) (ds := #[.pointer none, .pointer none, .slice none 0 0]) (T := 220) (U := 220) hg 1).2
 obtain ⟨q2, q5⟩ := box_free2 (cs := #[.pointer none, .pointer none, .slice none 0 0]) (ds := #[.pointer none, .pointer none, .slice none 0 0]) (T := 220) (U := 220) hg 2
 have q8 := (box_free2 (cs := #[.pointer (some ⟨ra, 0, none⟩), .pointer (some ⟨i7, 0, none⟩), .slice fa7 (kidsOf r).length fc7]) (ds := #[.pointer none, .pointer none, .slice none 0 0]) (T := 220) (U := 220) hg 2).2
 obtain ⟨b15, hg', f⟩ := bn #[.pointer (some ⟨ra, 0, none⟩), .pointer (some ⟨i7, 0, none⟩), .slice fa7 (kidsOf r).length fc7] ht hg
 replace hT := hT.fr0 f
 replace b11 := b11.fr (ht.frT f)
 replace b13 := b13.fr (ht.frT f)
 replace t6 := t6.fr (ht.frT f)
 replace t7 := t7.fr (ht.frT f)
 replace hFT := hFT.trans (ht.frT f)
 replace ht := ht.fr0 f
 replace hg := hg'; clear hg' f
 obtain ⟨b16, hg', f⟩ := bn #[.pointer (some ⟨la, 0, none⟩), .pointer (some ⟨i6, 0, none⟩), .slice fa6 (kidsOf l).length fc6] ht hg
 replace hT := hT.fr0 f
 replace b11 := b11.fr (ht.frT f)
 replace b13 := b13.fr (ht.frT f)
 replace t6 := t6.fr (ht.frT f)
 replace t7 := t7.fr (ht.frT f)
 replace b15 := b15.fr (ht.frT f)
 replace hFT := hFT.trans (ht.frT f)
 replace ht := ht.fr0 f
 replace hg := hg'; clear hg' f
 simp only [World.size_alloc] at b16
 unfold ptr
 have hX := HTp.X hT
 have hl := hX.2.1
 have hr := hX.2.2
 obtain ⟨ix, rx⟩ := hX.nd.rec
 have x1 := rc1 rx
 rw [show (T.node x d l r).ann.1 = xb from HB.out.2.1, show (T.node x d l r).it.i = 0 from hdi] at x1
 clear rx
 have z0 := ht.okc
 have z1 := b13.1.cell 0
 have z2 := b13.1.cell 1
 have z3 := b13.1.cell 2
 have z4 := b15.1.cell 0
 have z5 := b15.1.cell 1
 have z6 := b15.1.cell 2
 have z7 := b16.1.cell 0
 have z8 := b16.1.cell 1
 have z9 := b16.1.cell 2
 go_wp2_with fail
 clear z0 z1 z2 z3 z4 z5 z6 z7 z8 z9
 clear q0 q1 q2 q3 q4 q5 q6 q7 q8
 generalize hW : World.alloc (World.alloc w6 _) _ = W3 at *
 clear hW
 clear x1 hX hl hr
 refine (HT.of (HTp.X hT).2.2 HB.out.2.2.2 hg).mono ?_
 rintro e w7 ⟨rfl, f, hg'⟩
 rw [hwv]
 replace hT := hT.fr0 f
 replace b11 := b11.fr (ht.frT f)
 replace b13 := b13.fr (ht.frT f)
 replace t6 := t6.fr (ht.frT f)
 replace t7 := t7.fr (ht.frT f)
 replace b15 := b15.fr (ht.frT f)
 replace b16 := b16.fr (ht.frT f)
 replace hFT := hFT.trans (ht.frT f)
 replace ht := ht.fr0 f
 replace hg := hg'; clear hg' f
 have z0 := b16.1.cell 0
 have z1 := b16.1.cell 1
 have z2 := b16.1.cell 2
 go_wp2_with fail
 clear z0 z1 z2
 refine (HT.of (HTp.X hT).2.1 HB.out.2.2.1 hg).mono ?_
 rintro e w8 ⟨rfl, f, hg'⟩
 rw [hwf]
 replace hT := hT.fr0 f
 replace b11 := b11.fr (ht.frT f)
 replace b13 := b13.fr (ht.frT f)
 replace t6 := t6.fr (ht.frT f)
 replace t7 := t7.fr (ht.frT f)
 replace b15 := b15.fr (ht.frT f)
 replace b16 := b16.fr (ht.frT f)
 replace hFT := hFT.trans (ht.frT f)
 replace ht := ht.fr0 f
 replace hg := hg'; clear hg' f
 have z0 := b13.1.cell 0
 have z1 := b13.1.cell 1
 have z2 := b13.1.cell 2
 have z3 := b15.1.cell 0
 have z4 := b15.1.cell 1
 have z5 := b15.1.cell 2
 have z6 := b16.1.cell 0
 have z7 := b16.1.cell 1
 have z8 := b16.1.cell 2
 go_wp2_with fail
 clear z0 z1 z2 z3 z4 z5 z6 z7 z8
 refine (HT.of (HTp.X hT).2.1 HB.out.2.2.1 hg).mono ?_
 rintro e w9 ⟨rfl, f, hg'⟩
 rw [hwf]
 replace hT := hT.fr0 f
 replace b11 := b11.fr (ht.frT f)
 replace b13 := b13.fr (ht.frT f)
 replace t6 := t6.fr (ht.frT f)
 replace t7 := t7.fr (ht.frT f)
 replace b15 := b15.fr (ht.frT f)
 replace b16 := b16.fr (ht.frT f)
 replace hFT := hFT.trans (ht.frT f)
 replace ht := ht.fr0 f
 replace hg := hg'; clear hg' f
 have z0 := b13.1.cell 0
 have z1 := b13.1.cell 1
 have z2 := b13.1.cell 2
 have z3 := b15.1.cell 0
 have z4 := b15.1.cell 1
 have z5 := b15.1.cell 2
 have z6 := b16.1.cell 0
 have z7 := b16.1.cell 1
 have z8 := b16.1.cell 2
 go_wp2_with fail
 clear z0 z1 z2 z3 z4 z5 z6 z7 z8
 refine (hM hg (by omega) hT ht t6 t7 (hFT.fr.isRec _ he) (by rw [HB.out.1]; exact HBE.out) (Nat.le_trans hFw.size hFT.fr.size) HB.out.1 HB.out.2.1 HB.out.2.2.1 HB.out.2.2.2).mono ?_
 rintro e w10 ⟨N, L', F, R, P, rfl, fT, hg', ht', hN, hE, hFr, hc1, hc2, hR, hL⟩
 clear hM
 replace hT := hT.frT ht fT
 replace b11 := b11.fr fT
 replace b13 := b13.fr fT
 replace t6 := t6.fr fT
 replace t7 := t7.fr fT
 replace b15 := b15.fr fT
 replace b16 := b16.fr fT
 replace hFT := hFT.trans fT
 clear ht hg fT
 have ht := ht'
 have hg := hg'
 clear ht' hg'
 simp only [List.nil_append, List.cons_append, List.append_assoc] at ht
 have z0 := ht.okc
 have HP := Lib.hid (And.intro hE (And.intro hFr (And.intro hc1 (And.intro hc2 (And.intro hR hL)))))
 clear hE hFr hc1 hc2 hR hL
 have HNT := Lib.hid hN
 obtain ⟨na, hna⟩ : ∃ q : Nat, N.ann.1 = q := ⟨_, rfl⟩
 rw [hna]
 have HNA := Lib.hid hna
 clear hna hN
 unfold ptr
 go_wp2_with fail
 clear z0
 have hnd : ((([⟨u.x.1, u.x.2, u.d, false, frT u x.1, i1, false, .slice fa1 2 fc1⟩, vt (.node x d l r) i3 true (.slice fa3 2 fc3), vt l i6 true (.slice fa6 (kidsOf l).length fc6), vt r i7 true (.slice fa7 (kidsOf r).length fc7)] ++ L') : List VRec).map (·.b)).Nodup := nd_count fun a => by
  have k := HX.out.1 a
  have k1 := HP.out.2.2.2.1 a
  have k2 := HP.out.2.2.2.2.1 a
  have e0 : ∀ M : List VRec, ((M.map (·.b)).map (one a)).sum = (M.map fun q => one a q.b).sum := fun M => by rw [List.map_map]; rfl
  rw [e0]
  simp only [cnt_plug, cntC] at k
  simp only [List.map_append, List.sum_append, List.map_cons, List.map_nil, List.sum_cons, List.sum_nil, ann_node]
  omega
 have hL2 := HP.out.2.2.2.2.2
 simp only [List.cons_append, List.nil_append] at hnd
 rw [← HSO.out]
 refine (swap_t (u := u) (a := x.1) (info := i1) (fa := fa1) (fc := fc1) hg (by simp only [List.length_cons]; omega) (by simp only [List.length_cons]; omega) rfl ht hnd (by have h := HNT.out.isRec; rwa [HNA.out] at h)).mono ?_
 rintro e wz ⟨rfl, f, hg', hnd2⟩
 rw [HSO.out]
 have hfin := swap_tree (u := u) (c := c) (lo := w.heap.size) (P := P) (R := R) (F := F) ⟨hT, HX.out.1⟩ HX.out.2.1 HNT.out HP.out.2.2.1 HP.out.2.2.2.1 (fun q hq => by
  have h := HP.out.2.2.2.2.1 q.b
  simp only [List.mem_cons] at hq
  rcases hq with rfl | rfl | rfl | hq
  ·simp only [ann_node, one_self] at h ⊢; omega
  ·simp only [one_self] at h ⊢; omega
  ·simp only [one_self] at h ⊢; omega
  ·have := sum_ge hq; omega) HP.out.2.1.1 (fun a ha => (HP.out.2.1.2 a ha).1) (fun q hq => ht.vok hq) rfl rfl rfl rfl f (by rw [HNA.out]; exact hnd2)
 obtain ⟨hTree, hTF⟩ := hfin
 have hTF0 : TF g w wz := by
  refine TF.trans (TF.of (hFw.trans hFT.fr (fun _ _ h => h) (fun b hb h => ?_))) hTF
  have := hTB b h
  omega
 have HFIN : Hid (Tree g wz _ ∧ TF g w wz ∧ GOk g _ wz) := ⟨hTree, hTF0, hg'⟩
 clear hTree hTF hTF0 hg' f hnd2 hnd
 go_wp2
 go_end0
 obtain ⟨hz1, hz2, hz3⟩ := HFIN.out
 exact ⟨rfl, _, hz1, HP.out.1, hz2, hz3.mono (by simp only [List.length_cons]; omega)⟩
set_option maxHeartbeats 4000000 in
theorem over_l_f {g : Gt} {m be : Nat} {u : HFr} {c : List HFr} {x : Nat × Nat} {d : It} {l r : HTree} {w : World} {E : T Unit} (hg : GOk g m w) (hm : m + 200 < LIM)
 (hTr : Tree g w (plug (u :: c) (.node x d l r))) (he : IsRec w be) (hbe : u.x.1 ≠ be) (hd0 : 0 ≤ d.w) (hd1 : d.w ≤ 1) (hdi : d.i = 0) (hwv : l.it.w = 2) (hwf : r.it.w = 0) (hM : ∀ {m tb lo be ub xb la ra b6 b7 i1 i3 i6 i7 fc1 fc3 fc6 fc7 : Nat} {fa1 fa3 fa6 fa7 : Option Addr} {w : World}, GOk g m w → m + 100 < LIM → HT g w (plug (u :: c) (.node x d l r)) → TrySt g w tb [⟨u.x.1, u.x.2, u.d, false, frT u x.1, i1, false, .slice fa1 2 fc1⟩, vt (.node x d l r) i3 true (.slice fa3 2 fc3), vt l i6 true (.slice fa6 (kidsOf l).length fc6), vt r i7 true (.slice fa7 (kidsOf r).length fc7)] →
   Bx g w tb b6 #[.pointer (some ⟨be, 0, none⟩)] 99 → Bx g w tb b7 #[.pointer (some ⟨ub, 0, none⟩)] 99 → IsRec w be → u.x.1 ≠ be → lo ≤ w.heap.size → u.x.1 = ub → x.1 = xb → l.ann.1 = la → r.ann.1 = ra →
   Calls Tryz.prog 282 #[.pointer (some ⟨tb, 0, none⟩), .agg #[.pointer (some ⟨xb, 0, none⟩), .pointer (some ⟨i3, 0, none⟩), .slice fa3 2 fc3], .agg #[.pointer (some ⟨la, 0, none⟩), .pointer (some ⟨i6, 0, none⟩), .slice fa6 (kidsOf l).length fc6], .agg #[.pointer (some ⟨ra, 0, none⟩), .pointer (some ⟨i7, 0, none⟩), .slice fa7 (kidsOf r).length fc7], .int .i64 0, .func (.func 279) #[] #[.pointer (some ⟨b6, 0, none⟩), .pointer (some ⟨b7, 0, none⟩)]] w
    (MakeR g m tb lo [⟨u.x.1, u.x.2, u.d, false, frT u x.1, i1, false, .slice fa1 2 fc1⟩, vt (.node x d l r) i3 true (.slice fa3 2 fc3), vt l i6 true (.slice fa6 (kidsOf l).length fc6), vt r i7 true (.slice fa7 (kidsOf r).length fc7)] x l r d E w)) :
 Calls Tryz.prog 236 #[gval g, ptr be, ptr u.x.1, ptr x.1, ptr l.ann.1] w (StepR g (m + 200) u c E w) := by
 have hT := hTr.1
 have hU := hTr.2
 have hlo := hT.lt
 have hne1 : u.sib.ann.1 ≠ x.1 := fun h => by
  have k := hU x.1
  have k2 := cnt_ann_le x.1 u.sib
  rw [h] at k2
  simp only [cnt_plug, cntC, cnt, one_self] at k k2
  omega
 have hne2 : l.ann.1 ≠ r.ann.1 := fun h => by
  have k := hU l.ann.1
  have k1 := cnt_ann_le l.ann.1 l
  have k2 := cnt_ann_le l.ann.1 r
  rw [← h] at k2
  simp only [cnt_plug, cntC, cnt, one_self] at k k1 k2
  omega
 have HX := Lib.hid (And.intro hU (And.intro hlo (And.intro hne1 hne2)))
 clear hU hlo hne1 hne2 hTr
 obtain ⟨ub, hub⟩ : ∃ q : Nat, u.x.1 = q := ⟨_, rfl⟩
 obtain ⟨xb, hxb⟩ : ∃ q : Nat, x.1 = q := ⟨_, rfl⟩
 obtain ⟨la, hla⟩ : ∃ q : Nat, l.ann.1 = q := ⟨_, rfl⟩
 obtain ⟨ra, hra⟩ : ∃ q : Nat, r.ann.1 = q := ⟨_, rfl⟩
 rw [hub] at hbe
 rw [hub, hxb, hla]
 unfold ptr
 have HB := Lib.hid (And.intro hub (And.intro hxb (And.intro hla hra)))
 clear hub hxb hla hra
 have HBE := Lib.hid hbe
 clear hbe
 obtain ⟨so, hso⟩ : ∃ q : Int, (if u.s then (1 : Int) else 0) = q := ⟨_, rfl⟩
 have HSO := Lib.hid hso
 clear hso
 have hFa := Fr.alloc g No w (.cells #[.pointer (some ⟨be, 0, none⟩)] 99) hg
 have hga := hg.alloc (.cells #[.pointer (some ⟨be, 0, none⟩)] 99)
 have hFb := Fr.alloc g No _ (.cells #[.pointer (some ⟨ub, 0, none⟩)] 99) hga
 have hgb := hga.alloc (.cells #[.pointer (some ⟨ub, 0, none⟩)] 99)
 have A6 := hFb.at (At.new hg (.cells #[.pointer (some ⟨be, 0, none⟩)] 99)) id
 have A7 := At.new hga (.cells #[.pointer (some ⟨ub, 0, none⟩)] 99)
 simp only [World.size_alloc] at A7
 have hFc := Fr.alloc g No _ (.cells #[gval g, .slice none 0 0, .slice none 0 0, .bool true] 218) hgb
 have ht := TrySt.start hgb
 simp only [World.size_alloc] at ht
 have hTB := fun b => try_blk (g := g) (w := (w.alloc (.cells #[.pointer (some ⟨be, 0, none⟩)] 99)).alloc (.cells #[.pointer (some ⟨ub, 0, none⟩)] 99)) b
 simp only [World.size_alloc] at hTB
 have t6 : Bx g _ (w.heap.size + 1 + 1) w.heap.size #[.pointer (some ⟨be, 0, none⟩)] 99 := ⟨hFc.at A6 id, fun h => by have := hTB _ h; omega⟩
 have t7 : Bx g _ (w.heap.size + 1 + 1) (w.heap.size + 1) #[.pointer (some ⟨ub, 0, none⟩)] 99 := ⟨hFc.at A7 id, fun h => by have := hTB _ h; omega⟩
 replace hg := hgb.alloc (.cells #[gval g, .slice none 0 0, .slice none 0 0, .bool true] 218)
 have hFw := (hFa.tr hFb).tr hFc
 clear hFa hFb hFc hga hgb A6 A7
 replace hT := hT.fr0 hFw
 replace he := hFw.isRec _ he
 have hgc := gval_cells g
 unfold Value.cells at hgc
 have z0 := t7.1.cell 0
 go_enter Tryz.func236, Tryz.ntmps236
 go_wp2_with fail
 clear z0
 generalize hW : World.alloc (World.alloc (World.alloc w _) _) _ = W0 at *
 clear hW hgc
 have hFT : FrT g (w.heap.size + 1 + 1) W0 W0 := by obtain ⟨cs, h⟩ := ht.at; exact FrT.of h (Fr.refl g No W0)
 refine (linkU_tr (a := x.1) false hg (by omega) (by simp) ht (HTp.u hT) HB.out.1).mono ?_
 rintro e w1 ⟨i1, fa1, fc1, rfl, fT, hg', ht'⟩
 replace hT := hT.frT ht fT
 replace t6 := t6.fr fT
 replace t7 := t7.fr fT
 replace hFT := hFT.trans fT
 clear ht hg fT
 have ht := ht'
 have hg := hg'
 clear ht' hg'
 simp only [List.nil_append, List.cons_append, List.append_assoc] at ht
 obtain ⟨q0, q1, q2⟩ := bq hg
 obtain ⟨b11, hg', f⟩ := bn #[.pointer (some ⟨ub, 0, none⟩), .pointer (some ⟨i1, 0, none⟩), .slice fa1 2 fc1] ht hg
 replace hT := hT.fr0 f
 replace t6 := t6.fr (ht.frT f)
 replace t7 := t7.fr (ht.frT f)
 replace hFT := hFT.trans (ht.frT f)
 replace ht := ht.fr0 f
 replace hg := hg'; clear hg' f
 have z0 := b11.1.cell 0
 have z1 := b11.1.cell 1
 have z2 := b11.1.cell 2
 go_wp2_with fail
 clear z0 z1 z2
 clear q0 q1 q2
 generalize hW : World.alloc w1 _ = W1 at *
 clear hW
 refine (leadsU_tr (a := x.1) (i := i1) (info := i1) (fin := false) hg ht (by simp) HX.out.2.2.1 (HTp.X hT).isRec (HTp.sib hT).isRec HB.out.1 HB.out.2.1).mono ?_
 rintro e w2 ⟨rfl, f, hg'⟩
 rw [HSO.out]
 replace hT := hT.fr0 f
 replace b11 := b11.fr (ht.frT f)
 replace t6 := t6.fr (ht.frT f)
 replace t7 := t7.fr (ht.frT f)
 replace hFT := hFT.trans (ht.frT f)
 replace ht := ht.fr0 f
 replace hg := hg'; clear hg' f
 go_wp2_with fail
 refine (link_tr (t := .node x d l r) true hg (by omega) (by simp) ht (HTp.X hT) HB.out.2.1).mono ?_
 rintro e w3 ⟨i3, fa3, fc3, rfl, fT, hg', ht'⟩
 replace hT := hT.frT ht fT
 replace b11 := b11.fr fT
 replace t6 := t6.fr fT
 replace t7 := t7.fr fT
 replace hFT := hFT.trans fT
 clear ht hg fT
 have ht := ht'
 have hg := hg'
 clear ht' hg'
 simp only [List.nil_append, List.cons_append, List.append_assoc] at ht
 simp only [kidsOf, List.length_cons, List.length_nil, Nat.zero_add, Nat.reduceAdd] at ht ⊢
 obtain ⟨q0, q1, q2⟩ := bq hg
 obtain ⟨b13, hg', f⟩ := bn #[.pointer (some ⟨xb, 0, none⟩), .pointer (some ⟨i3, 0, none⟩), .slice fa3 2 fc3] ht hg
 replace hT := hT.fr0 f
 replace b11 := b11.fr (ht.frT f)
 replace t6 := t6.fr (ht.frT f)
 replace t7 := t7.fr (ht.frT f)
 replace hFT := hFT.trans (ht.frT f)
 replace ht := ht.fr0 f
 replace hg := hg'; clear hg' f
 have z0 := b13.1.cell 0
 have z1 := b13.1.cell 1
 have z2 := b13.1.cell 2
 go_wp2_with fail
 clear z0 z1 z2
 clear q0 q1 q2
 generalize hW : World.alloc w3 _ = W2 at *
 clear hW
 have hX := HTp.X hT
 refine (leads_tr (x := x) (d := d) (l := l) (r := r) (i := i3) (i0 := i3) (fin := true) false hg ht (by simp [kidsOf]) hX.2.1 hX.2.2 HX.out.2.2.2 HB.out.2.1 HB.out.2.2.1).mono ?_
 clear hX
 rintro e w4 ⟨rfl, f, hg'⟩
 replace hT := hT.fr0 f
 replace b11 := b11.fr (ht.frT f)
 replace b13 := b13.fr (ht.frT f)
 replace t6 := t6.fr (ht.frT f)
 replace t7 := t7.fr (ht.frT f)
 replace hFT := hFT.trans (ht.frT f)
 replace ht := ht.fr0 f
 replace hg := hg'; clear hg' f
 simp only [Bool.false_eq_true, if_false]
 have z0 := b13.1.cell 0
 have z1 := b13.1.cell 1
 have z2 := b13.1.cell 2
 go_wp2_with fail
 clear z0 z1 z2
 have hX := HTp.X hT
 have hl := hX.2.1
 have hr := hX.2.2
 refine (both_t (x := x) (d := d) (l := l) (r := r) (i := i3) (i0 := i3) (fa := fa3) (fc := fc3) (fin := true) false hg (by omega) (by simp) ht (by simp [kidsOf]) hl hr HB.out.2.1 rfl).mono ?_
 rintro e w6 ⟨i6, fa6, fc6, i7, fa7, fc7, rfl, fT, hg', ht'⟩
 clear hX hl hr
 simp only [Bool.false_eq_true, if_false]
 rw [HB.out.2.2.1, HB.out.2.2.2]
 replace hT := hT.frT ht fT
 replace b11 := b11.fr fT
 replace b13 := b13.fr fT
 replace t6 := t6.fr fT
 replace t7 := t7.fr fT
 replace hFT := hFT.trans fT
 clear ht hg fT
 have ht := ht'
 have hg := hg'
 clear ht' hg'
 simp only [List.nil_append, List.cons_append, List.append_assoc] at ht
 obtain ⟨q0, q3⟩ := box_free2 (cs := #[.pointer none, .pointer none, .slice none 0 0]) (ds := #[.pointer none, .pointer none, .slice none 0 0]) (T := 220) (U := 220) hg 0
 have q6 := (box_free2 (cs := #[.pointer (some ⟨la, 0, none⟩), .pointer (some ⟨i6, 0, none⟩), .slice fa6 (kidsOf l).length fc6]) (ds := #[.pointer none, .pointer none, .slice none 0 0]) (T := 220) (U := 220) hg 0).2
 obtain ⟨q1, q4⟩ := box_free2 (cs := #[.pointer none, .pointer none, .slice none 0 0]) (ds := #[.pointer none, .pointer none, .slice none 0 0]) (T := 220) (U := 220) hg 1
 have q7 := (box_free2 (cs := #[.pointer (some ⟨la, 0, none⟩), .pointer (some ⟨i6, 0, none⟩), .slice fa6 (kidsOf l).length fc6]) (ds := #[.pointer none, .pointer none, .slice none 0 0]) (T := 220) (U := 220) hg 1).2
 obtain ⟨q2, q5⟩ := box_free2 (cs := #[.pointer none, .pointer none, .slice none 0 0]) (ds := #[.pointer none, .pointer none, .slice none 0 0]) (T := 220) (U := 220) hg 2
 have q8 := (box_free2 (cs := #[.pointer (some ⟨la, 0, none⟩), .pointer (some ⟨i6, 0, none⟩), .slice fa6 (kidsOf l).length fc6]) (ds := #[.pointer none, .pointer none, .slice none 0 0]) (T := 220) (U := 220) hg 2).2
 obtain ⟨b15, hg', f⟩ := bn #[.pointer (some ⟨la, 0, none⟩), .pointer (some ⟨i6, 0, none⟩), .slice fa6 (kidsOf l).length fc6] ht hg
 replace hT := hT.fr0 f
 replace b11 := b11.fr (ht.frT f)
 replace b13 := b13.fr (ht.frT f)
 replace t6 := t6.fr (ht.frT f)
 replace t7 := t7.fr (ht.frT f)
 replace hFT := hFT.trans (ht.frT f)
 replace ht := ht.fr0 f
 replace hg := hg'; clear hg' f
 obtain ⟨b16, hg', f⟩ := bn #[.pointer (some ⟨ra, 0, none⟩), .pointer (some ⟨i7, 0, none⟩), .slice fa7 (kidsOf r).length fc7] ht hg
 replace hT := hT.fr0 f
 replace b11 := b11.fr (ht.frT f)
 replace b13 := b13.fr (ht.frT f)
 replace t6 := t6.fr (ht.frT f)
 replace t7 := t7.fr (ht.frT f)
 replace b15 := b15.fr (ht.frT f)
 replace hFT := hFT.trans (ht.frT f)
 replace ht := ht.fr0 f
 replace hg := hg'; clear hg' f
 simp only [World.size_alloc] at b16
 unfold ptr
 have hX := HTp.X hT
 have hl := hX.2.1
 have hr := hX.2.2
 obtain ⟨ix, rx⟩ := hX.nd.rec
 have x1 := rc1 rx
 rw [show (T.node x d l r).ann.1 = xb from HB.out.2.1, show (T.node x d l r).it.i = 0 from hdi] at x1
 clear rx
 have z0 := ht.okc
 have z1 := b13.1.cell 0
 have z2 := b13.1.cell 1
 have z3 := b13.1.cell 2
 have z4 := b15.1.cell 0
 have z5 := b15.1.cell 1
 have z6 := b15.1.cell 2
 have z7 := b16.1.cell 0
 have z8 := b16.1.cell 1
 have z9 := b16.1.cell 2
 go_wp2_with fail
 clear z0 z1 z2 z3 z4 z5 z6 z7 z8 z9
 clear q0 q1 q2 q3 q4 q5 q6 q7 q8
 generalize hW : World.alloc (World.alloc w6 _) _ = W3 at *
 clear hW
 clear x1 hX hl hr
 refine (HT.of (HTp.X hT).2.1 HB.out.2.2.1 hg).mono ?_
 rintro e w7 ⟨rfl, f, hg'⟩
 rw [hwv]
 replace hT := hT.fr0 f
 replace b11 := b11.fr (ht.frT f)
 replace b13 := b13.fr (ht.frT f)
 replace t6 := t6.fr (ht.frT f)
 replace t7 := t7.fr (ht.frT f)
 replace b15 := b15.fr (ht.frT f)
 replace b16 := b16.fr (ht.frT f)
 replace hFT := hFT.trans (ht.frT f)
 replace ht := ht.fr0 f
 replace hg := hg'; clear hg' f
 have z0 := b16.1.cell 0
 have z1 := b16.1.cell 1
 have z2 := b16.1.cell 2
 go_wp2_with fail
 clear z0 z1 z2
 refine (HT.of (HTp.X hT).2.2 HB.out.2.2.2 hg).mono ?_
 rintro e w8 ⟨rfl, f, hg'⟩
 rw [hwf]
 replace hT := hT.fr0 f
 replace b11 := b11.fr (ht.frT f)
 replace b13 := b13.fr (ht.frT f)
 replace t6 := t6.fr (ht.frT f)
 replace t7 := t7.fr (ht.frT f)
 replace b15 := b15.fr (ht.frT f)
 replace b16 := b16.fr (ht.frT f)
 replace hFT := hFT.trans (ht.frT f)
 replace ht := ht.fr0 f
 replace hg := hg'; clear hg' f
 have z0 := b13.1.cell 0
 have z1 := b13.1.cell 1
 have z2 := b13.1.cell 2
 have z3 := b15.1.cell 0
 have z4 := b15.1.cell 1
 have z5 := b15.1.cell 2
 have z6 := b16.1.cell 0
 have z7 := b16.1.cell 1
 have z8 := b16.1.cell 2
 go_wp2_with fail
 clear z0 z1 z2 z3 z4 z5 z6 z7 z8
 refine (HT.of (HTp.X hT).2.2 HB.out.2.2.2 hg).mono ?_
 rintro e w9 ⟨rfl, f, hg'⟩
 rw [hwf]
 replace hT := hT.fr0 f
 replace b11 := b11.fr (ht.frT f)
 replace b13 := b13.fr (ht.frT f)
 replace t6 := t6.fr (ht.frT f)
 replace t7 := t7.fr (ht.frT f)
 replace b15 := b15.fr (ht.frT f)
 replace b16 := b16.fr (ht.frT f)
 replace hFT := hFT.trans (ht.frT f)
 replace ht := ht.fr0 f
 replace hg := hg'; clear hg' f
 have z0 := b13.1.cell 0
 have z1 := b13.1.cell 1
 have z2 := b13.1.cell 2
 have z3 := b15.1.cell 0
 have z4 := b15.1.cell 1
 have z5 := b15.1.cell 2
 have z6 := b16.1.cell 0
 have z7 := b16.1.cell 1
 have z8 := b16.1.cell 2
 go_wp2_with fail
 clear z0 z1 z2 z3 z4 z5 z6 z7 z8
 refine (hM hg (by omega) hT ht t6 t7 (hFT.fr.isRec _ he) (by rw [HB.out.1]; exact HBE.out) (Nat.le_trans hFw.size hFT.fr.size) HB.out.1 HB.out.2.1 HB.out.2.2.1 HB.out.2.2.2).mono ?_
 rintro e w10 ⟨N, L', F, R, P, rfl, fT, hg', ht', hN, hE, hFr, hc1, hc2, hR, hL⟩
 clear hM
 replace hT := hT.frT ht fT
 replace b11 := b11.fr fT
 replace b13 := b13.fr fT
 replace t6 := t6.fr fT
 replace t7 := t7.fr fT
 replace b15 := b15.fr fT
 replace b16 := b16.fr fT
 replace hFT := hFT.trans fT
 clear ht hg fT
 have ht := ht'
 have hg := hg'
 clear ht' hg'
 simp only [List.nil_append, List.cons_append, List.append_assoc] at ht
 have z0 := ht.okc
 have HP := Lib.hid (And.intro hE (And.intro hFr (And.intro hc1 (And.intro hc2 (And.intro hR hL)))))
 clear hE hFr hc1 hc2 hR hL
 have HNT := Lib.hid hN
 obtain ⟨na, hna⟩ : ∃ q : Nat, N.ann.1 = q := ⟨_, rfl⟩
 rw [hna]
 have HNA := Lib.hid hna
 clear hna hN
 unfold ptr
 go_wp2_with fail
 clear z0
 have hnd : ((([⟨u.x.1, u.x.2, u.d, false, frT u x.1, i1, false, .slice fa1 2 fc1⟩, vt (.node x d l r) i3 true (.slice fa3 2 fc3), vt l i6 true (.slice fa6 (kidsOf l).length fc6), vt r i7 true (.slice fa7 (kidsOf r).length fc7)] ++ L') : List VRec).map (·.b)).Nodup := nd_count fun a => by
  have k := HX.out.1 a
  have k1 := HP.out.2.2.2.1 a
  have k2 := HP.out.2.2.2.2.1 a
  have e0 : ∀ M : List VRec, ((M.map (·.b)).map (one a)).sum = (M.map fun q => one a q.b).sum := fun M => by rw [List.map_map]; rfl
  rw [e0]
  simp only [cnt_plug, cntC] at k
  simp only [List.map_append, List.sum_append, List.map_cons, List.map_nil, List.sum_cons, List.sum_nil, ann_node]
  omega
 have hL2 := HP.out.2.2.2.2.2
 simp only [List.cons_append, List.nil_append] at hnd
 rw [← HSO.out]
 refine (swap_t (u := u) (a := x.1) (info := i1) (fa := fa1) (fc := fc1) hg (by simp only [List.length_cons]; omega) (by simp only [List.length_cons]; omega) rfl ht hnd (by have h := HNT.out.isRec; rwa [HNA.out] at h)).mono ?_
 rintro e wz ⟨rfl, f, hg', hnd2⟩
 rw [HSO.out]
 have hfin := swap_tree (u := u) (c := c) (lo := w.heap.size) (P := P) (R := R) (F := F) ⟨hT, HX.out.1⟩ HX.out.2.1 HNT.out HP.out.2.2.1 HP.out.2.2.2.1 (fun q hq => by
  have h := HP.out.2.2.2.2.1 q.b
  simp only [List.mem_cons] at hq
  rcases hq with rfl | rfl | rfl | hq
  ·simp only [ann_node, one_self] at h ⊢; omega
  ·simp only [one_self] at h ⊢; omega
  ·simp only [one_self] at h ⊢; omega
  ·have := sum_ge hq; omega) HP.out.2.1.1 (fun a ha => (HP.out.2.1.2 a ha).1) (fun q hq => ht.vok hq) rfl rfl rfl rfl f (by rw [HNA.out]; exact hnd2)
 obtain ⟨hTree, hTF⟩ := hfin
 have hTF0 : TF g w wz := by
  refine TF.trans (TF.of (hFw.trans hFT.fr (fun _ _ h => h) (fun b hb h => ?_))) hTF
  have := hTB b h
  omega
 have HFIN : Hid (Tree g wz _ ∧ TF g w wz ∧ GOk g _ wz) := ⟨hTree, hTF0, hg'⟩
 clear hTree hTF hTF0 hg' f hnd2 hnd
 go_wp2
 go_end0
 obtain ⟨hz1, hz2, hz3⟩ := HFIN.out
 exact ⟨rfl, _, hz1, HP.out.1, hz2, hz3.mono (by simp only [List.length_cons]; omega)⟩
set_option maxHeartbeats 4000000 in
theorem over_l_t {g : Gt} {m be : Nat} {u : HFr} {c : List HFr} {x : Nat × Nat} {d : It} {l r : HTree} {w : World} {E : T Unit} (hg : GOk g m w) (hm : m + 200 < LIM)
 (hTr : Tree g w (plug (u :: c) (.node x d l r))) (he : IsRec w be) (hbe : u.x.1 ≠ be) (hd0 : 0 ≤ d.w) (hd1 : d.w ≤ 1) (hdi : d.i = 0) (hwv : r.it.w = 2) (hwf : l.it.w = 0) (hM : ∀ {m tb lo be ub xb la ra b6 b7 i1 i3 i6 i7 fc1 fc3 fc6 fc7 : Nat} {fa1 fa3 fa6 fa7 : Option Addr} {w : World}, GOk g m w → m + 100 < LIM → HT g w (plug (u :: c) (.node x d l r)) → TrySt g w tb [⟨u.x.1, u.x.2, u.d, false, frT u x.1, i1, false, .slice fa1 2 fc1⟩, vt (.node x d l r) i3 true (.slice fa3 2 fc3), vt l i6 true (.slice fa6 (kidsOf l).length fc6), vt r i7 true (.slice fa7 (kidsOf r).length fc7)] →
   Bx g w tb b6 #[.pointer (some ⟨be, 0, none⟩)] 99 → Bx g w tb b7 #[.pointer (some ⟨ub, 0, none⟩)] 99 → IsRec w be → u.x.1 ≠ be → lo ≤ w.heap.size → u.x.1 = ub → x.1 = xb → l.ann.1 = la → r.ann.1 = ra →
   Calls Tryz.prog 282 #[.pointer (some ⟨tb, 0, none⟩), .agg #[.pointer (some ⟨xb, 0, none⟩), .pointer (some ⟨i3, 0, none⟩), .slice fa3 2 fc3], .agg #[.pointer (some ⟨ra, 0, none⟩), .pointer (some ⟨i7, 0, none⟩), .slice fa7 (kidsOf r).length fc7], .agg #[.pointer (some ⟨la, 0, none⟩), .pointer (some ⟨i6, 0, none⟩), .slice fa6 (kidsOf l).length fc6], .int .i64 1, .func (.func 279) #[] #[.pointer (some ⟨b6, 0, none⟩), .pointer (some ⟨b7, 0, none⟩)]] w
    (MakeR g m tb lo [⟨u.x.1, u.x.2, u.d, false, frT u x.1, i1, false, .slice fa1 2 fc1⟩, vt (.node x d l r) i3 true (.slice fa3 2 fc3), vt l i6 true (.slice fa6 (kidsOf l).length fc6), vt r i7 true (.slice fa7 (kidsOf r).length fc7)] x l r d E w)) :
 Calls Tryz.prog 236 #[gval g, ptr be, ptr u.x.1, ptr x.1, ptr r.ann.1] w (StepR g (m + 200) u c E w) := by
 have hT := hTr.1
 have hU := hTr.2
 have hlo := hT.lt
 have hne1 : u.sib.ann.1 ≠ x.1 := fun h => by
  have k := hU x.1
  have k2 := cnt_ann_le x.1 u.sib
  rw [h] at k2
  simp only [cnt_plug, cntC, cnt, one_self] at k k2
  omega
 have hne2 : l.ann.1 ≠ r.ann.1 := fun h => by
  have k := hU l.ann.1
  have k1 := cnt_ann_le l.ann.1 l
  have k2 := cnt_ann_le l.ann.1 r
  rw [← h] at k2
  simp only [cnt_plug, cntC, cnt, one_self] at k k1 k2
  omega
 have HX := Lib.hid (And.intro hU (And.intro hlo (And.intro hne1 hne2)))
 clear hU hlo hne1 hne2 hTr
 obtain ⟨ub, hub⟩ : ∃ q : Nat, u.x.1 = q := ⟨_, rfl⟩
 obtain ⟨xb, hxb⟩ : ∃ q : Nat, x.1 = q := ⟨_, rfl⟩
 obtain ⟨la, hla⟩ : ∃ q : Nat, l.ann.1 = q := ⟨_, rfl⟩
 obtain ⟨ra, hra⟩ : ∃ q : Nat, r.ann.1 = q := ⟨_, rfl⟩
 rw [hub] at hbe
 rw [hub, hxb, hra]
 unfold ptr
 have HB := Lib.hid (And.intro hub (And.intro hxb (And.intro hla hra)))
 clear hub hxb hla hra
 have HBE := Lib.hid hbe
 clear hbe
 obtain ⟨so, hso⟩ : ∃ q : Int, (if u.s then (1 : Int) else 0) = q := ⟨_, rfl⟩
 have HSO := Lib.hid hso
 clear hso
 have hFa := Fr.alloc g No w (.cells #[.pointer (some ⟨be, 0, none⟩)] 99) hg
 have hga := hg.alloc (.cells #[.pointer (some ⟨be, 0, none⟩)] 99)
 have hFb := Fr.alloc g No _ (.cells #[.pointer (some ⟨ub, 0, none⟩)] 99) hga
 have hgb := hga.alloc (.cells #[.pointer (some ⟨ub, 0, none⟩)] 99)
 have A6 := hFb.at (At.new hg (.cells #[.pointer (some ⟨be, 0, none⟩)] 99)) id
 have A7 := At.new hga (.cells #[.pointer (some ⟨ub, 0, none⟩)] 99)
 simp only [World.size_alloc] at A7
 have hFc := Fr.alloc g No _ (.cells #[gval g, .slice none 0 0, .slice none 0 0, .bool true] 218) hgb
 have ht := TrySt.start hgb
 simp only [World.size_alloc] at ht
 have hTB := fun b => try_blk (g := g) (w := (w.alloc (.cells #[.pointer (some ⟨be, 0, none⟩)] 99)).alloc (.cells #[.pointer (some ⟨ub, 0, none⟩)] 99)) b
 simp only [World.size_alloc] at hTB
 have t6 : Bx g _ (w.heap.size + 1 + 1) w.heap.size #[.pointer (some ⟨be, 0, none⟩)] 99 := ⟨hFc.at A6 id, fun h => by have := hTB _ h; omega⟩
 have t7 : Bx g _ (w.heap.size + 1 + 1) (w.heap.size + 1) #[.pointer (some ⟨ub, 0, none⟩)] 99 := ⟨hFc.at A7 id, fun h => by have := hTB _ h; omega⟩
 replace hg := hgb.alloc (.cells #[gval g, .slice none 0 0, .slice none 0 0, .bool true] 218)
 have hFw := (hFa.tr hFb).tr hFc
 clear hFa hFb hFc hga hgb A6 A7
 replace hT := hT.fr0 hFw
 replace he := hFw.isRec _ he
 have hgc := gval_cells g
 unfold Value.cells at hgc
 have z0 := t7.1.cell 0
 go_enter Tryz.func236, Tryz.ntmps236
 go_wp2_with fail
 clear z0
 generalize hW : World.alloc (World.alloc (World.alloc w _) _) _ = W0 at *
 clear hW hgc
 have hFT : FrT g (w.heap.size + 1 + 1) W0 W0 := by obtain ⟨cs, h⟩ := ht.at; exact FrT.of h (Fr.refl g No W0)
 refine (linkU_tr (a := x.1) false hg (by omega) (by simp) ht (HTp.u hT) HB.out.1).mono ?_
 rintro e w1 ⟨i1, fa1, fc1, rfl, fT, hg', ht'⟩
 replace hT := hT.frT ht fT
 replace t6 := t6.fr fT
 replace t7 := t7.fr fT
 replace hFT := hFT.trans fT
 clear ht hg fT
 have ht := ht'
 have hg := hg'
 clear ht' hg'
 simp only [List.nil_append, List.cons_append, List.append_assoc] at ht
 obtain ⟨q0, q1, q2⟩ := bq hg
 obtain ⟨b11, hg', f⟩ := bn #[.pointer (some ⟨ub, 0, none⟩), .pointer (some ⟨i1, 0, none⟩), .slice fa1 2 fc1] ht hg
 replace hT := hT.fr0 f
 replace t6 := t6.fr (ht.frT f)
 replace t7 := t7.fr (ht.frT f)
 replace hFT := hFT.trans (ht.frT f)
 replace ht := ht.fr0 f
 replace hg := hg'; clear hg' f
 have z0 := b11.1.cell 0
 have z1 := b11.1.cell 1
 have z2 := b11.1.cell 2
 go_wp2_with fail
 clear z0 z1 z2
 clear q0 q1 q2
 generalize hW : World.alloc w1 _ = W1 at *
 clear hW
 refine (leadsU_tr (a := x.1) (i := i1) (info := i1) (fin := false) hg ht (by simp) HX.out.2.2.1 (HTp.X hT).isRec (HTp.sib hT).isRec HB.out.1 HB.out.2.1).mono ?_
 rintro e w2 ⟨rfl, f, hg'⟩
 rw [HSO.out]
 replace hT := hT.fr0 f
 replace b11 := b11.fr (ht.frT f)
 replace t6 := t6.fr (ht.frT f)
 replace t7 := t7.fr (ht.frT f)
 replace hFT := hFT.trans (ht.frT f)
 replace ht := ht.fr0 f
 replace hg := hg'; clear hg' f
 go_wp2_with fail
 refine (link_tr (t := .node x d l r) true hg (by omega) (by simp) ht (HTp.X hT) HB.out.2.1).mono ?_
 rintro e w3 ⟨i3, fa3, fc3, rfl, fT, hg', ht'⟩
 replace hT := hT.frT ht fT
 replace b11 := b11.fr fT
 replace t6 := t6.fr fT
 replace t7 := t7.fr fT
 replace hFT := hFT.trans fT
 clear ht hg fT
 have ht := ht'
 have hg := hg'
 clear ht' hg'
 simp only [List.nil_append, List.cons_append, List.append_assoc] at ht
 simp only [kidsOf, List.length_cons, List.length_nil, Nat.zero_add, Nat.reduceAdd] at ht ⊢
 obtain ⟨q0, q1, q2⟩ := bq hg
 obtain ⟨b13, hg', f⟩ := bn #[.pointer (some ⟨xb, 0, none⟩), .pointer (some ⟨i3, 0, none⟩), .slice fa3 2 fc3] ht hg
 replace hT := hT.fr0 f
 replace b11 := b11.fr (ht.frT f)
 replace t6 := t6.fr (ht.frT f)
 replace t7 := t7.fr (ht.frT f)
 replace hFT := hFT.trans (ht.frT f)
 replace ht := ht.fr0 f
 replace hg := hg'; clear hg' f
 have z0 := b13.1.cell 0
 have z1 := b13.1.cell 1
 have z2 := b13.1.cell 2
 go_wp2_with fail
 clear z0 z1 z2
 clear q0 q1 q2
 generalize hW : World.alloc w3 _ = W2 at *
 clear hW
 have hX := HTp.X hT
 refine (leads_tr (x := x) (d := d) (l := l) (r := r) (i := i3) (i0 := i3) (fin := true) true hg ht (by simp [kidsOf]) hX.2.1 hX.2.2 HX.out.2.2.2 HB.out.2.1 HB.out.2.2.2).mono ?_
 clear hX
 rintro e w4 ⟨rfl, f, hg'⟩
 replace hT := hT.fr0 f
 replace b11 := b11.fr (ht.frT f)
 replace b13 := b13.fr (ht.frT f)
 replace t6 := t6.fr (ht.frT f)
 replace t7 := t7.fr (ht.frT f)
 replace hFT := hFT.trans (ht.frT f)
 replace ht := ht.fr0 f
 replace hg := hg'; clear hg' f
 simp only [if_true]
 have z0 := b13.1.cell 0
 have z1 := b13.1.cell 1
 have z2 := b13.1.cell 2
 go_wp2_with fail
 clear z0 z1 z2
 have hX := HTp.X hT
 have hl := hX.2.1
 have hr := hX.2.2
 refine (both_t (x := x) (d := d) (l := l) (r := r) (i := i3) (i0 := i3) (fa := fa3) (fc := fc3) (fin := true) true hg (by omega) (by simp) ht (by simp [kidsOf]) hl hr HB.out.2.1 rfl).mono ?_
 rintro e w6 ⟨i6, fa6, fc6, i7, fa7, fc7, rfl, fT, hg', ht'⟩
 clear hX hl hr
 simp only [if_true]
 rw [HB.out.2.2.1, HB.out.2.2.2]
 replace hT := hT.frT ht fT
 replace b11 := b11.fr fT
 replace b13 := b13.fr fT
 replace t6 := t6.fr fT
 replace t7 := t7.fr fT
 replace hFT := hFT.trans fT
 clear ht hg fT
 have ht := ht'
 have hg := hg'
 clear ht' hg'
 simp only [List.nil_append, List.cons_append, List.append_assoc] at ht
 obtain ⟨q0, q3⟩ := box_free2 (cs := #[.pointer none, .pointer none, .slice none 0 0]) (ds := #[.pointer none, .pointer none, .slice none 0 0]) (T := 220) (U := 220) hg 0
 have q6 := (box_free2 (cs := #[.pointer (some ⟨ra, 0, none⟩), .pointer (some ⟨i7, 0, none⟩), .slice fa7 (kidsOf r).length fc7]) (ds := #[.pointer none, .pointer none, .slice none 0 0]) (T := 220) (U := 220) hg 0).2
 obtain ⟨q1, q4⟩ := box_free2 (cs := #[.pointer none, .pointer none, .slice none 0 0]) (ds := #[.pointer none, .pointer none, .slice none 0 0]) (T := 220) (U := 220) hg 1
 have q7 := (box_free2 (cs := #[.pointer (some ⟨ra, 0, none⟩), .pointer (some ⟨i7, 0, none⟩), .slice fa7 (kidsOf r).length fc7]) (ds := #[.pointer none, .pointer none, .slice none 0 0]) (T := 220) (U := 220) hg 1).2
 obtain ⟨q2, q5⟩ := box_free2 (cs := #[.pointer none, .pointer none, .slice none 0 0]) (ds := #[.pointer none, .pointer none, .slice none 0 0]) (T := 220) (U := 220) hg 2
 have q8 := (box_free2 (cs := #[.pointer (some ⟨ra, 0, none⟩), .pointer (some ⟨i7, 0, none⟩), .slice fa7 (kidsOf r).length fc7]) (ds := #[.pointer none, .pointer none, .slice none 0 0]) (T := 220) (U := 220) hg 2).2
 obtain ⟨b15, hg', f⟩ := bn #[.pointer (some ⟨ra, 0, none⟩), .pointer (some ⟨i7, 0, none⟩), .slice fa7 (kidsOf r).length fc7] ht hg
 replace hT := hT.fr0 f
 replace b11 := b11.fr (ht.frT f)
 replace b13 := b13.fr (ht.frT f)
 replace t6 := t6.fr (ht.frT f)
 replace t7 := t7.fr (ht.frT f)
 replace hFT := hFT.trans (ht.frT f)
 replace ht := ht.fr0 f
 replace hg := hg'; clear hg' f
 obtain ⟨b16, hg', f⟩ := bn #[.pointer (some ⟨la, 0, none⟩), .pointer (some ⟨i6, 0, none⟩), .slice fa6 (kidsOf l).length fc6] ht hg
 replace hT := hT.fr0 f
 replace b11 := b11.fr (ht.frT f)
 replace b13 := b13.fr (ht.frT f)
 replace t6 := t6.fr (ht.frT f)
 replace t7 := t7.fr (ht.frT f)
 replace b15 := b15.fr (ht.frT f)
 replace hFT := hFT.trans (ht.frT f)
 replace ht := ht.fr0 f
 replace hg := hg'; clear hg' f
 simp only [World.size_alloc] at b16
 unfold ptr
 have hX := HTp.X hT
 have hl := hX.2.1
 have hr := hX.2.2
 obtain ⟨ix, rx⟩ := hX.nd.rec
 have x1 := rc1 rx
 rw [show (T.node x d l r).ann.1 = xb from HB.out.2.1, show (T.node x d l r).it.i = 0 from hdi] at x1
 clear rx
 have z0 := ht.okc
 have z1 := b13.1.cell 0
 have z2 := b13.1.cell 1
 have z3 := b13.1.cell 2
 have z4 := b15.1.cell 0
 have z5 := b15.1.cell 1
 have z6 := b15.1.cell 2
 have z7 := b16.1.cell 0
 have z8 := b16.1.cell 1
 have z9 := b16.1.cell 2
 go_wp2_with fail
 clear z0 z1 z2 z3 z4 z5 z6 z7 z8 z9
 clear q0 q1 q2 q3 q4 q5 q6 q7 q8
 generalize hW : World.alloc (World.alloc w6 _) _ = W3 at *
 clear hW
 clear x1 hX hl hr
 refine (HT.of (HTp.X hT).2.2 HB.out.2.2.2 hg).mono ?_
 rintro e w7 ⟨rfl, f, hg'⟩
 rw [hwv]
 replace hT := hT.fr0 f
 replace b11 := b11.fr (ht.frT f)
 replace b13 := b13.fr (ht.frT f)
 replace t6 := t6.fr (ht.frT f)
 replace t7 := t7.fr (ht.frT f)
 replace b15 := b15.fr (ht.frT f)
 replace b16 := b16.fr (ht.frT f)
 replace hFT := hFT.trans (ht.frT f)
 replace ht := ht.fr0 f
 replace hg := hg'; clear hg' f
 have z0 := b16.1.cell 0
 have z1 := b16.1.cell 1
 have z2 := b16.1.cell 2
 go_wp2_with fail
 clear z0 z1 z2
 refine (HT.of (HTp.X hT).2.1 HB.out.2.2.1 hg).mono ?_
 rintro e w8 ⟨rfl, f, hg'⟩
 rw [hwf]
 replace hT := hT.fr0 f
 replace b11 := b11.fr (ht.frT f)
 replace b13 := b13.fr (ht.frT f)
 replace t6 := t6.fr (ht.frT f)
 replace t7 := t7.fr (ht.frT f)
 replace b15 := b15.fr (ht.frT f)
 replace b16 := b16.fr (ht.frT f)
 replace hFT := hFT.trans (ht.frT f)
 replace ht := ht.fr0 f
 replace hg := hg'; clear hg' f
 have z0 := b13.1.cell 0
 have z1 := b13.1.cell 1
 have z2 := b13.1.cell 2
 have z3 := b15.1.cell 0
 have z4 := b15.1.cell 1
 have z5 := b15.1.cell 2
 have z6 := b16.1.cell 0
 have z7 := b16.1.cell 1
 have z8 := b16.1.cell 2
 go_wp2_with fail
 clear z0 z1 z2 z3 z4 z5 z6 z7 z8
 refine (HT.of (HTp.X hT).2.1 HB.out.2.2.1 hg).mono ?_
 rintro e w9 ⟨rfl, f, hg'⟩
 rw [hwf]
 replace hT := hT.fr0 f
 replace b11 := b11.fr (ht.frT f)
 replace b13 := b13.fr (ht.frT f)
 replace t6 := t6.fr (ht.frT f)
 replace t7 := t7.fr (ht.frT f)
 replace b15 := b15.fr (ht.frT f)
 replace b16 := b16.fr (ht.frT f)
 replace hFT := hFT.trans (ht.frT f)
 replace ht := ht.fr0 f
 replace hg := hg'; clear hg' f
 have z0 := b13.1.cell 0
 have z1 := b13.1.cell 1
 have z2 := b13.1.cell 2
 have z3 := b15.1.cell 0
 have z4 := b15.1.cell 1
 have z5 := b15.1.cell 2
 have z6 := b16.1.cell 0
 have z7 := b16.1.cell 1
 have z8 := b16.1.cell 2
 go_wp2_with fail
 clear z0 z1 z2 z3 z4 z5 z6 z7 z8
 refine (hM hg (by omega) hT ht t6 t7 (hFT.fr.isRec _ he) (by rw [HB.out.1]; exact HBE.out) (Nat.le_trans hFw.size hFT.fr.size) HB.out.1 HB.out.2.1 HB.out.2.2.1 HB.out.2.2.2).mono ?_
 rintro e w10 ⟨N, L', F, R, P, rfl, fT, hg', ht', hN, hE, hFr, hc1, hc2, hR, hL⟩
 clear hM
 replace hT := hT.frT ht fT
 replace b11 := b11.fr fT
 replace b13 := b13.fr fT
 replace t6 := t6.fr fT
 replace t7 := t7.fr fT
 replace b15 := b15.fr fT
 replace b16 := b16.fr fT
 replace hFT := hFT.trans fT
 clear ht hg fT
 have ht := ht'
 have hg := hg'
 clear ht' hg'
 simp only [List.nil_append, List.cons_append, List.append_assoc] at ht
 have z0 := ht.okc
 have HP := Lib.hid (And.intro hE (And.intro hFr (And.intro hc1 (And.intro hc2 (And.intro hR hL)))))
 clear hE hFr hc1 hc2 hR hL
 have HNT := Lib.hid hN
 obtain ⟨na, hna⟩ : ∃ q : Nat, N.ann.1 = q := ⟨_, rfl⟩
 rw [hna]
 have HNA := Lib.hid hna
 clear hna hN
 unfold ptr
 go_wp2_with fail
 clear z0
 have hnd : ((([⟨u.x.1, u.x.2, u.d, false, frT u x.1, i1, false, .slice fa1 2 fc1⟩, vt (.node x d l r) i3 true (.slice fa3 2 fc3), vt l i6 true (.slice fa6 (kidsOf l).length fc6), vt r i7 true (.slice fa7 (kidsOf r).length fc7)] ++ L') : List VRec).map (·.b)).Nodup := nd_count fun a => by
  have k := HX.out.1 a
  have k1 := HP.out.2.2.2.1 a
  have k2 := HP.out.2.2.2.2.1 a
  have e0 : ∀ M : List VRec, ((M.map (·.b)).map (one a)).sum = (M.map fun q => one a q.b).sum := fun M => by rw [List.map_map]; rfl
  rw [e0]
  simp only [cnt_plug, cntC] at k
  simp only [List.map_append, List.sum_append, List.map_cons, List.map_nil, List.sum_cons, List.sum_nil, ann_node]
  omega
 have hL2 := HP.out.2.2.2.2.2
 simp only [List.cons_append, List.nil_append] at hnd
 rw [← HSO.out]
 refine (swap_t (u := u) (a := x.1) (info := i1) (fa := fa1) (fc := fc1) hg (by simp only [List.length_cons]; omega) (by simp only [List.length_cons]; omega) rfl ht hnd (by have h := HNT.out.isRec; rwa [HNA.out] at h)).mono ?_
 rintro e wz ⟨rfl, f, hg', hnd2⟩
 rw [HSO.out]
 have hfin := swap_tree (u := u) (c := c) (lo := w.heap.size) (P := P) (R := R) (F := F) ⟨hT, HX.out.1⟩ HX.out.2.1 HNT.out HP.out.2.2.1 HP.out.2.2.2.1 (fun q hq => by
  have h := HP.out.2.2.2.2.1 q.b
  simp only [List.mem_cons] at hq
  rcases hq with rfl | rfl | rfl | hq
  ·simp only [ann_node, one_self] at h ⊢; omega
  ·simp only [one_self] at h ⊢; omega
  ·simp only [one_self] at h ⊢; omega
  ·have := sum_ge hq; omega) HP.out.2.1.1 (fun a ha => (HP.out.2.1.2 a ha).1) (fun q hq => ht.vok hq) rfl rfl rfl rfl f (by rw [HNA.out]; exact hnd2)
 obtain ⟨hTree, hTF⟩ := hfin
 have hTF0 : TF g w wz := by
  refine TF.trans (TF.of (hFw.trans hFT.fr (fun _ _ h => h) (fun b hb h => ?_))) hTF
  have := hTB b h
  omega
 have HFIN : Hid (Tree g wz _ ∧ TF g w wz ∧ GOk g _ wz) := ⟨hTree, hTF0, hg'⟩
 clear hTree hTF hTF0 hg' f hnd2 hnd
 go_wp2
 go_end0
 obtain ⟨hz1, hz2, hz3⟩ := HFIN.out
 exact ⟨rfl, _, hz1, HP.out.1, hz2, hz3.mono (by simp only [List.length_cons]; omega)⟩
end Go.Proofs.YtdmobhndbibhoaaGreat
