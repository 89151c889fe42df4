/- chroma's red: BLK, RB1, RB2. -/
import Derived.Test.YtdmobhndbibhoaaGreatA24
namespace Go.Proofs.YtdmobhndbibhoaaGreat
open Go.RowKit Larch
set_option maxRecDepth 100000
set_option linter.unusedVariables false
set_option linter.unusedSimpArgs false
attribute [local go_sem ↓] Go.wp_at_zero Go.wp_at_succ
set_option maxHeartbeats 4000000 in
theorem red_blk_f {g : Gt} {m be : Nat} {u : HFr} {c : List HFr} {x : Nat × Nat} {d : It} {l r : HTree} {w : World} (hg : GOk g m w) (hm : m + 200 < LIM)
 (hTr : Tree g w (plug (u :: c) (.node x d l r))) (he : IsRec w be) (hbe : u.x.1 ≠ be) (hdw : d.w = 1) (hdi : d.i = 0) (hwl : l.it.w = 0) (hwr : r.it.w = 0) (hvl : l.isLeaf = false → l.it.v = 0) (hvr : r.isLeaf = false → r.it.v = 0) (hrl : (!l.isLeaf && ((l.ch false).it.w == 0 || (l.ch true).it.w == 0)) = true) :
 Calls Tryz.prog 234 #[gval g, ptr be, ptr u.x.1, ptr x.1, ptr l.ann.1] w (StepR g (m + 200) u c (mk () (nd d.k (topW u.d 0)) false (setW 1 l.er) (setW 1 r.er)) w) := by
 have hT := hTr.1
 have hU := hTr.2
 have hlo := hT.lt
 have hne1 : u.sib.ann.1 ≠ x.1 := fun h => by
  have k := hU x.1
  have k2 := cnt_ann_le x.1 u.sib
  rw [h] at k2
  simp only [cnt_plug, cntC, cnt, one_self] at k k2
  omega
 have hne2 : l.ann.1 ≠ r.ann.1 := fun h => by
  have k := hU l.ann.1
  have k1 := cnt_ann_le l.ann.1 l
  have k2 := cnt_ann_le l.ann.1 r
  rw [← h] at k2
  simp only [cnt_plug, cntC, cnt, one_self] at k k1 k2
  omega
 have HX := Lib.hid (And.intro hU (And.intro hlo (And.intro hne1 hne2)))
 clear hU hlo hne1 hne2 hTr
 obtain ⟨ub, hub⟩ : ∃ q : Nat, u.x.1 = q := ⟨_, rfl⟩
 obtain ⟨xb, hxb⟩ : ∃ q : Nat, x.1 = q := ⟨_, rfl⟩
 obtain ⟨la, hla⟩ : ∃ q : Nat, l.ann.1 = q := ⟨_, rfl⟩
 obtain ⟨ra, hra⟩ : ∃ q : Nat, r.ann.1 = q := ⟨_, rfl⟩
 rw [hub] at hbe
 rw [hub, hxb, hla]
 unfold ptr
 have HB := Lib.hid (And.intro hub (And.intro hxb (And.intro hla hra)))
 clear hub hxb hla hra
 have HBE := Lib.hid hbe
 clear hbe
 obtain ⟨so, hso⟩ : ∃ q : Int, (if u.s then (1 : Int) else 0) = q := ⟨_, rfl⟩
 have HSO := Lib.hid hso
 clear hso
 have hFw := Fr.alloc g No w (.cells #[gval g, .slice none 0 0, .slice none 0 0, .bool true] 218) hg
 have ht := TrySt.start hg
 replace hg := hg.alloc (.cells #[gval g, .slice none 0 0, .slice none 0 0, .bool true] 218)
 replace hT := hT.fr0 hFw
 replace he := hFw.isRec _ he
 have hgc := gval_cells g
 unfold Value.cells at hgc
 go_enter Tryz.func234, Tryz.ntmps234
 go_wp2_with fail
 have hTB := fun b => try_blk (g := g) (w := w) b
 generalize hW : World.alloc w _ = W0 at *
 clear hW hgc
 have hFT : FrT g w.heap.size W0 W0 := by obtain ⟨cs, h⟩ := ht.at; exact FrT.of h (Fr.refl g No W0)
 refine (linkU_tr (a := x.1) false hg (by omega) (by simp) ht (HTp.u hT) HB.out.1).mono ?_
 rintro e w1 ⟨i1, fa1, fc1, rfl, fT, hg', ht'⟩
 replace hT := hT.frT ht fT
 replace hFT := hFT.trans fT
 clear ht hg fT
 have ht := ht'
 have hg := hg'
 clear ht' hg'
 simp only [List.nil_append, List.cons_append, List.append_assoc] at ht
 obtain ⟨q0, q1, q2⟩ := bq hg
 obtain ⟨b11, hg', f⟩ := bn #[.pointer (some ⟨ub, 0, none⟩), .pointer (some ⟨i1, 0, none⟩), .slice fa1 2 fc1] ht hg
 replace hT := hT.fr0 f
 replace hFT := hFT.trans (ht.frT f)
 replace ht := ht.fr0 f
 replace hg := hg'; clear hg' f
 have z0 := b11.1.cell 0
 have z1 := b11.1.cell 1
 have z2 := b11.1.cell 2
 go_wp2_with fail
 clear z0 z1 z2
 clear q0 q1 q2
 generalize hW : World.alloc w1 _ = W1 at *
 clear hW
 refine (leadsU_tr (a := x.1) (i := i1) (info := i1) (fin := false) hg ht (by simp) HX.out.2.2.1 (HTp.X hT).isRec (HTp.sib hT).isRec HB.out.1 HB.out.2.1).mono ?_
 rintro e w2 ⟨rfl, f, hg'⟩
 rw [HSO.out]
 replace hT := hT.fr0 f
 replace b11 := b11.fr (ht.frT f)
 replace hFT := hFT.trans (ht.frT f)
 replace ht := ht.fr0 f
 replace hg := hg'; clear hg' f
 go_wp2_with fail
 refine (link_tr (t := .node x d l r) true hg (by omega) (by simp) ht (HTp.X hT) HB.out.2.1).mono ?_
 rintro e w3 ⟨i3, fa3, fc3, rfl, fT, hg', ht'⟩
 replace hT := hT.frT ht fT
 replace b11 := b11.fr fT
 replace hFT := hFT.trans fT
 clear ht hg fT
 have ht := ht'
 have hg := hg'
 clear ht' hg'
 simp only [List.nil_append, List.cons_append, List.append_assoc] at ht
 simp only [kidsOf, List.length_cons, List.length_nil, Nat.zero_add, Nat.reduceAdd] at ht ⊢
 obtain ⟨q0, q1, q2⟩ := bq hg
 obtain ⟨b13, hg', f⟩ := bn #[.pointer (some ⟨xb, 0, none⟩), .pointer (some ⟨i3, 0, none⟩), .slice fa3 2 fc3] ht hg
 replace hT := hT.fr0 f
 replace b11 := b11.fr (ht.frT f)
 replace hFT := hFT.trans (ht.frT f)
 replace ht := ht.fr0 f
 replace hg := hg'; clear hg' f
 have z0 := b13.1.cell 0
 have z1 := b13.1.cell 1
 have z2 := b13.1.cell 2
 go_wp2_with fail
 clear z0 z1 z2
 clear q0 q1 q2
 generalize hW : World.alloc w3 _ = W2 at *
 clear hW
 have hX := HTp.X hT
 refine (leads_tr (x := x) (d := d) (l := l) (r := r) (i := i3) (i0 := i3) (fin := true) false hg ht (by simp [kidsOf]) hX.2.1 hX.2.2 HX.out.2.2.2 HB.out.2.1 HB.out.2.2.1).mono ?_
 clear hX
 rintro e w4 ⟨rfl, f, hg'⟩
 replace hT := hT.fr0 f
 replace b11 := b11.fr (ht.frT f)
 replace b13 := b13.fr (ht.frT f)
 replace hFT := hFT.trans (ht.frT f)
 replace ht := ht.fr0 f
 replace hg := hg'; clear hg' f
 simp only [Bool.false_eq_true, if_false]
 have z0 := b13.1.cell 0
 have z1 := b13.1.cell 1
 have z2 := b13.1.cell 2
 go_wp2_with fail
 refine (below_t (x := x) (d := d) (l := l) (r := r) (i := i3) (i0 := i3) (fin := true) true hg ht (by simp [kidsOf]) HB.out.2.1 rfl HB.out.2.2.2).mono ?_
 rintro e w5 ⟨rfl, f, hg'⟩
 clear z0 z1 z2
 replace hT := hT.fr0 f
 replace b11 := b11.fr (ht.frT f)
 replace b13 := b13.fr (ht.frT f)
 replace hFT := hFT.trans (ht.frT f)
 replace ht := ht.fr0 f
 replace hg := hg'; clear hg' f
 have hX := HTp.X hT
 have hl := hX.2.1
 have hr := hX.2.2
 obtain ⟨ix, rx⟩ := hX.nd.rec
 have x1 := rc1 rx
 rw [show (T.node x d l r).ann.1 = xb from HB.out.2.1, show (T.node x d l r).it.i = 0 from hdi] at x1
 clear rx
 have z0 := ht.okc
 have z1 := b13.1.cell 0
 have z2 := b13.1.cell 1
 have z3 := b13.1.cell 2
 have wx := HT.wk (k := 1) hX HB.out.2.1 hdw
 have wl := HT.wk (k := 0) hl HB.out.2.2.1 hwl
 have wr := HT.wk (k := 0) hr HB.out.2.2.2 hwr
 go_wp2_with (go_at_call 232; first | (refine wx.mono ?_; rintro e w6 ⟨rfl, rfl⟩) | (refine wl.mono ?_; rintro e w6 ⟨rfl, rfl⟩) | (refine wr.mono ?_; rintro e w6 ⟨rfl, rfl⟩))
 clear x1 wx wl wr
 clear z0 z1 z2 z3
 refine (both_t (x := x) (d := d) (l := l) (r := r) (i := i3) (i0 := i3) (fa := fa3) (fc := fc3) (fin := true) false hg (by omega) (by simp) ht (by simp [kidsOf]) hl hr HB.out.2.1 rfl).mono ?_
 rintro e w6 ⟨i6, fa6, fc6, i7, fa7, fc7, rfl, fT, hg', ht'⟩
 clear hX hl hr
 simp only [Bool.false_eq_true, if_false]
 rw [HB.out.2.2.1, HB.out.2.2.2]
 replace hT := hT.frT ht fT
 replace b11 := b11.fr fT
 replace b13 := b13.fr fT
 replace hFT := hFT.trans fT
 clear ht hg fT
 have ht := ht'
 have hg := hg'
 clear ht' hg'
 simp only [List.nil_append, List.cons_append, List.append_assoc] at ht
 obtain ⟨q0, q3⟩ := box_free2 (cs := #[.pointer none, .pointer none, .slice none 0 0]) (ds := #[.pointer none, .pointer none, .slice none 0 0]) (T := 220) (U := 220) hg 0
 have q6 := (box_free2 (cs := #[.pointer (some ⟨la, 0, none⟩), .pointer (some ⟨i6, 0, none⟩), .slice fa6 (kidsOf l).length fc6]) (ds := #[.pointer none, .pointer none, .slice none 0 0]) (T := 220) (U := 220) hg 0).2
 obtain ⟨q1, q4⟩ := box_free2 (cs := #[.pointer none, .pointer none, .slice none 0 0]) (ds := #[.pointer none, .pointer none, .slice none 0 0]) (T := 220) (U := 220) hg 1
 have q7 := (box_free2 (cs := #[.pointer (some ⟨la, 0, none⟩), .pointer (some ⟨i6, 0, none⟩), .slice fa6 (kidsOf l).length fc6]) (ds := #[.pointer none, .pointer none, .slice none 0 0]) (T := 220) (U := 220) hg 1).2
 obtain ⟨q2, q5⟩ := box_free2 (cs := #[.pointer none, .pointer none, .slice none 0 0]) (ds := #[.pointer none, .pointer none, .slice none 0 0]) (T := 220) (U := 220) hg 2
 have q8 := (box_free2 (cs := #[.pointer (some ⟨la, 0, none⟩), .pointer (some ⟨i6, 0, none⟩), .slice fa6 (kidsOf l).length fc6]) (ds := #[.pointer none, .pointer none, .slice none 0 0]) (T := 220) (U := 220) hg 2).2
 obtain ⟨b16, hg', f⟩ := bn #[.pointer (some ⟨la, 0, none⟩), .pointer (some ⟨i6, 0, none⟩), .slice fa6 (kidsOf l).length fc6] ht hg
 replace hT := hT.fr0 f
 replace b11 := b11.fr (ht.frT f)
 replace b13 := b13.fr (ht.frT f)
 replace hFT := hFT.trans (ht.frT f)
 replace ht := ht.fr0 f
 replace hg := hg'; clear hg' f
 obtain ⟨b17, hg', f⟩ := bn #[.pointer (some ⟨ra, 0, none⟩), .pointer (some ⟨i7, 0, none⟩), .slice fa7 (kidsOf r).length fc7] ht hg
 replace hT := hT.fr0 f
 replace b11 := b11.fr (ht.frT f)
 replace b13 := b13.fr (ht.frT f)
 replace b16 := b16.fr (ht.frT f)
 replace hFT := hFT.trans (ht.frT f)
 replace ht := ht.fr0 f
 replace hg := hg'; clear hg' f
 simp only [World.size_alloc] at b17
 unfold ptr
 have z0 := ht.okc
 have z1 := b16.1.cell 0
 have z2 := b16.1.cell 1
 have z3 := b16.1.cell 2
 have z4 := b17.1.cell 0
 have z5 := b17.1.cell 1
 have z6 := b17.1.cell 2
 go_wp2_with fail
 clear z0 z1 z2 z3 z4 z5 z6
 clear q0 q1 q2 q3 q4 q5 q6 q7 q8
 generalize hW : World.alloc (World.alloc w6 _) _ = W3 at *
 clear hW
 refine (reds_t (t := l) (i := i6) (i0 := i6) (fin := true) (fa := fa6) (fc := fc6) hg ht (by simp) (HTp.X hT).2.1 HB.out.2.2.1).mono ?_
 rintro e w7 ⟨rfl, f, hg'⟩
 rw [hrl]
 replace hT := hT.fr0 f
 replace b11 := b11.fr (ht.frT f)
 replace b13 := b13.fr (ht.frT f)
 replace b16 := b16.fr (ht.frT f)
 replace b17 := b17.fr (ht.frT f)
 replace hFT := hFT.trans (ht.frT f)
 replace ht := ht.fr0 f
 replace hg := hg'; clear hg' f
 go_wp2_with fail
 have hFr := Fresh.start w.heap.size
 have hlh := Nat.le_refl w.heap.size
 have hsz := Nat.le_trans hFw.size hFT.fr.size
 have f := Fr.drew g No w7
 have hg' := hg.drew
 replace hT := hT.fr0 f
 replace hsz := Nat.le_trans hsz f.size
 replace hFT := hFT.trans (ht.frT f)
 replace ht := ht.fr0 f
 replace hg := hg'; clear hg' f
 have hS : SB g w7 w.heap.size w7.drew := SB.start
 refine wp_region_X (S := SB g w7 w.heap.size) [] (by kernel_rfl) ?_
 refine tY 0 _ rfl (by kernel_rfl) (fun _ _ _ => id) hS (by rfl) (by intro wq _; go_simp <;> with_reducible rfl) ?_
 try go_frame
 refine tY 1 _ rfl (by kernel_rfl) (fun _ _ _ => id) hS (by rfl) (by intro wq _; go_simp <;> with_reducible rfl) ?_
 try go_frame
 refine tY 3 _ rfl (by kernel_rfl) (fun _ _ _ => id) hS (by rfl) (by intro wq _; go_simp <;> with_reducible rfl) ?_
 try go_frame
 refine tY 4 _ rfl (by kernel_rfl) (fun _ _ _ => id) hS (by rfl) (by intro wq _; go_simp <;> with_reducible rfl) ?_
 try go_frame
 refine tX 2 _ rfl (by kernel_rfl) (fun _ _ _ => id) hS (by rfl) (by intro wq hSq; have z0 := (hSq _ _ b13).cell 0; have z1 := (hSq _ _ b13).cell 1; have z2 := (hSq _ _ b13).cell 2; go_simp <;> with_reducible rfl) ?_
 try go_frame
 refine tX 5 _ rfl (by kernel_rfl) (fun _ _ _ => id) hS (by rfl) (by intro wq hSq; have z0 := (hSq _ _ b13).cell 0; have z1 := (hSq _ _ b13).cell 1; have z2 := (hSq _ _ b13).cell 2; go_simp <;> with_reducible rfl) ?_
 try go_frame
 refine tX 9 _ rfl (by kernel_rfl) (fun _ _ _ => id) hS (by rfl) (by intro wq hSq; have z0 := (hSq _ _ b16).cell 0; have z1 := (hSq _ _ b16).cell 1; have z2 := (hSq _ _ b16).cell 2; go_simp <;> with_reducible rfl) ?_
 try go_frame
 refine tX 11 _ rfl (by kernel_rfl) (fun _ _ _ => id) hS (by rfl) (by intro wq hSq; have z0 := (hSq _ _ b17).cell 0; have z1 := (hSq _ _ b17).cell 1; have z2 := (hSq _ _ b17).cell 2; go_simp <;> with_reducible rfl) ?_
 try go_frame
 refine wpAnyX_ready (rs := [6]) (by kernel_rfl) (by simp) ?_
 refine ReadyX.cons rfl (fun K hK => ?_) ReadyX.nil
 go_simp
 refine (HT.of (HTp.X hT) HB.out.2.1 hg).mono ?_
 rintro e w9 ⟨rfl, f, hg'⟩
 rw [show (T.node x d l r).it.w = 1 from hdw]
 have hSn := hS.fr f
 replace hT := hT.fr0 f
 replace hsz := Nat.le_trans hsz f.size
 replace hFT := hFT.trans (ht.frT f)
 replace ht := ht.fr0 f
 replace hg := hg'; clear hg' f
 refine hK.out _ _ hSn (fun hSx => ?_)
 clear hK K hS
 have hS := hSx
 clear hSx hSn
 try go_frame
 refine tY 7 _ rfl (by kernel_rfl) (fun _ _ _ => id) hS (by rfl) (by intro wq _; go_simp <;> with_reducible rfl) ?_
 try go_frame
 refine wpAnyX_ready (rs := [8]) (by kernel_rfl) (by simp) ?_
 refine ReadyX.cons rfl (fun K hK => ?_) ReadyX.nil
 go_simp
 refine (weightBelow_t (u := u) (a := x.1) 0 (HTp.u hT) (hFT.fr.isRec _ he) (by rw [HB.out.1]; exact HBE.out) HB.out.1).mono ?_
 rintro e w10 ⟨rfl, rfl⟩
 obtain ⟨tw, htw⟩ : ∃ q : Int, topW u.d 0 = q := ⟨_, rfl⟩
 rw [htw]
 have HTW := Lib.hid htw
 clear htw
 have hSn := hS
 refine hK.out _ _ hSn (fun hSx => ?_)
 clear hK K hS
 have hS := hSx
 clear hSx hSn
 try go_frame
 refine wpAnyX_ready (rs := [10]) (by kernel_rfl) (by simp) ?_
 refine ReadyX.cons rfl (fun K hK => ?_) ReadyX.nil
 go_simp
 refine (as_t (t := l) (i := i6) (i0 := i6) (fin := true) (fa := fa6) (fc := fc6) 1 hg ht (by simp) (HTp.X hT).2.1 hvl HB.out.2.2.1).mono ?_
 rintro e w11 hNew
 obtain ⟨y1, rfl, n1, n2, n3, f, hg', hN1⟩ := hNew
 have hSn := hS.fr f
 have hFr' := hFr.new hsz n1 n2 n3 hN1 (ann_reW _ _ _) hlh
 have hlh' := Nat.le_trans hlh (Nat.le_trans hsz f.size)
 clear hFr hlh hsz n1 n2 n3
 have hFr := hFr'
 have hlh := hlh'
 clear hFr' hlh'
 have hsz := Nat.le_refl w11.heap.size
 replace hT := hT.fr0 f
 replace hFT := hFT.trans (ht.frT f)
 replace ht := ht.fr0 f
 replace hg := hg'; clear hg' f
 unfold ptr
 refine hK.out _ _ hSn (fun hSx => ?_)
 clear hK K hS
 have hS := hSx
 clear hSx hSn
 try go_frame
 refine wpAnyX_ready (rs := [12]) (by kernel_rfl) (by simp) ?_
 refine ReadyX.cons rfl (fun K hK => ?_) ReadyX.nil
 go_simp
 refine (as_t (t := r) (i := i7) (i0 := i7) (fin := true) (fa := fa7) (fc := fc7) 1 hg ht (by simp) (HTp.X hT).2.2 hvr HB.out.2.2.2).mono ?_
 rintro e w12 hNew
 obtain ⟨y2, rfl, n1, n2, n3, f, hg', hN2⟩ := hNew
 have hSn := hS.fr f
 have hFr' := hFr.new hsz n1 n2 n3 hN2 (ann_reW _ _ _) hlh
 have hlh' := Nat.le_trans hlh (Nat.le_trans hsz f.size)
 clear hFr hlh hsz n1 n2 n3
 have hFr := hFr'
 have hlh := hlh'
 clear hFr' hlh'
 have hsz := Nat.le_refl w12.heap.size
 replace hT := hT.fr0 f
 replace hN1 := hN1.fr0 f
 replace hFT := hFT.trans (ht.frT f)
 replace ht := ht.fr0 f
 replace hg := hg'; clear hg' f
 unfold ptr
 refine hK.out _ _ hSn (fun hSx => ?_)
 clear hK K hS
 have hS := hSx
 clear hSx hSn
 try go_frame
 refine wpAnyX_ready (rs := [13]) (by kernel_rfl) (by simp) ?_
 refine ReadyX.cons rfl (fun K hK => ?_) ReadyX.nil
 go_simp
 refine (inner_t (k := .node x d l r) (i := i3) (n := 2) false (reW y1 1 l) (reW y2 1 r) _ _ hg (HTp.X hT) hN1 hN2 HB.out.2.1 rfl (by rw [ann_reW]) (by rw [ann_reW])).mono ?_
 rintro e w13 hNew
 simp only [T.it] at hNew
 obtain ⟨y3, rfl, n1, n2, n3, f, hg', hN3⟩ := hNew
 have hSn := hS.fr f
 have hFr' := hFr.new hsz n1 n2 n3 hN3 (mk_ann _ _ _ _ _) hlh
 have hlh' := Nat.le_trans hlh (Nat.le_trans hsz f.size)
 clear hFr hlh hsz n1 n2 n3
 have hFr := hFr'
 have hlh := hlh'
 clear hFr' hlh'
 have hsz := Nat.le_refl w13.heap.size
 replace hT := hT.fr0 f
 replace hN1 := hN1.fr0 f
 replace hN2 := hN2.fr0 f
 replace hFT := hFT.trans (ht.frT f)
 replace ht := ht.fr0 f
 replace hg := hg'; clear hg' f
 unfold ptr
 refine hK.out _ _ hSn (fun hSx => ?_)
 clear hK K hS
 have hS := hSx
 clear hSx hSn
 try go_frame
 refine wpAnyX_ready (rs := [14]) (by kernel_rfl) (by simp) ?_
 refine ReadyX.cons rfl (fun K hK => ?_) ReadyX.nil
 go_simp
 have hnd : (([u.x.1, x.1, l.ann.1, r.ann.1] : List Nat)).Nodup := nd_count fun a => by
  have k := HX.out.1 a
  have k0 := cnt_ann_le a l
  have k1 := cnt_ann_le a r
  simp only [cnt_plug, cntC, cnt, List.map_cons, List.map_nil, List.sum_cons, List.sum_nil] at k ⊢
  omega
 rw [← HSO.out]
 refine (swap_t (u := u) (a := x.1) (info := i1) (fa := fa1) (fc := fc1) hg (by simp only [List.length_cons, List.length_nil]; omega) (by simp) rfl ht hnd (by have h := hN3.isRec; rw [mk_ann] at h; exact h)).mono ?_
 rintro e wz ⟨rfl, f, hg', hnd2⟩
 rw [HSO.out]
 have hfin := swap_tree (u := u) (c := c) (lo := w.heap.size) (P := fun a => cnt a l + cnt a r - (one a l.ann.1 + one a l.ann.2 + one a r.ann.1 + one a r.ann.2)) (R := fun a => one a x.1 + one a x.2 + (one a l.ann.1 + one a l.ann.2 + one a r.ann.1 + one a r.ann.2)) ⟨hT, HX.out.1⟩ HX.out.2.1 hN3 (fun a => by
  have k0 := cnt_ann_le a l
  have k1 := cnt_ann_le a r
  have j1 := cnt_reW a y1 1 l
  have j2 := cnt_reW a y2 1 r
  simp only [cnt_mk, cnt]
  omega) (fun a => by
  have k0 := cnt_ann_le a l
  have k1 := cnt_ann_le a r
  simp only [cnt]
  omega) (fun q hq => by
  simp only [List.mem_cons, List.not_mem_nil, or_false] at hq
  rcases hq with rfl | rfl | rfl <;> simp only [T.ann, one_self] <;> omega) hFr.1 (fun a ha => (hFr.2 a ha).1) (fun q hq => ht.vok hq) rfl rfl rfl rfl f (by rw [mk_ann]; exact hnd2)
 obtain ⟨hTree, hTF⟩ := hfin
 have hSn := hS.tf hTF
 have hTF0 : TF g w wz := by
  refine TF.trans (TF.of (hFw.trans hFT.fr (fun _ _ h => h) (fun b hb h => ?_))) hTF
  have := hTB b h
  omega
 have HFIN : Hid (Tree g wz _ ∧ TF g w wz ∧ GOk g _ wz) := ⟨hTree, hTF0, hg'⟩
 clear hTree hTF hTF0 hg' f hnd2 hnd
 refine hK.out _ _ hSn (fun hSx => ?_)
 clear hK K hS
 have hS := hSx
 clear hSx hSn
 try go_frame
 refine wpAnyX_done (by kernel_rfl) ?_ _
 go_wp2
 go_end0
 obtain ⟨hz1, hz2, hz3⟩ := HFIN.out
 refine ⟨rfl, _, hz1, ?_, hz2, hz3.mono (by simp only [List.length_cons, List.length_nil]; omega)⟩
 rw [er_mk, er_reW, er_reW, HTW.out]
set_option maxHeartbeats 4000000 in
theorem red_blk_t {g : Gt} {m be : Nat} {u : HFr} {c : List HFr} {x : Nat × Nat} {d : It} {l r : HTree} {w : World} (hg : GOk g m w) (hm : m + 200 < LIM)
 (hTr : Tree g w (plug (u :: c) (.node x d l r))) (he : IsRec w be) (hbe : u.x.1 ≠ be) (hdw : d.w = 1) (hdi : d.i = 0) (hwl : l.it.w = 0) (hwr : r.it.w = 0) (hvl : l.isLeaf = false → l.it.v = 0) (hvr : r.isLeaf = false → r.it.v = 0) (hrl : (!l.isLeaf && ((l.ch false).it.w == 0 || (l.ch true).it.w == 0)) = false) (hrr : (!r.isLeaf && ((r.ch false).it.w == 0 || (r.ch true).it.w == 0)) = true) :
 Calls Tryz.prog 234 #[gval g, ptr be, ptr u.x.1, ptr x.1, ptr r.ann.1] w (StepR g (m + 200) u c (mk () (nd d.k (topW u.d 0)) false (setW 1 l.er) (setW 1 r.er)) w) := by
 have hT := hTr.1
 have hU := hTr.2
 have hlo := hT.lt
 have hne1 : u.sib.ann.1 ≠ x.1 := fun h => by
  have k := hU x.1
  have k2 := cnt_ann_le x.1 u.sib
  rw [h] at k2
  simp only [cnt_plug, cntC, cnt, one_self] at k k2
  omega
 have hne2 : l.ann.1 ≠ r.ann.1 := fun h => by
  have k := hU l.ann.1
  have k1 := cnt_ann_le l.ann.1 l
  have k2 := cnt_ann_le l.ann.1 r
  rw [← h] at k2
  simp only [cnt_plug, cntC, cnt, one_self] at k k1 k2
  omega
 have HX := Lib.hid (And.intro hU (And.intro hlo (And.intro hne1 hne2)))
 clear hU hlo hne1 hne2 hTr
 obtain ⟨ub, hub⟩ : ∃ q : Nat, u.x.1 = q := ⟨_, rfl⟩
 obtain ⟨xb, hxb⟩ : ∃ q : Nat, x.1 = q := ⟨_, rfl⟩
 obtain ⟨la, hla⟩ : ∃ q : Nat, l.ann.1 = q := ⟨_, rfl⟩
 obtain ⟨ra, hra⟩ : ∃ q : Nat, r.ann.1 = q := ⟨_, rfl⟩
 rw [hub] at hbe
 rw [hub, hxb, hra]
 unfold ptr
 have HB := Lib.hid (And.intro hub (And.intro hxb (And.intro hla hra)))
 clear hub hxb hla hra
 have HBE := Lib.hid hbe
 clear hbe
 obtain ⟨so, hso⟩ : ∃ q : Int, (if u.s then (1 : Int) else 0) = q := ⟨_, rfl⟩
 have HSO := Lib.hid hso
 clear hso
 have hFw := Fr.alloc g No w (.cells #[gval g, .slice none 0 0, .slice none 0 0, .bool true] 218) hg
 have ht := TrySt.start hg
 replace hg := hg.alloc (.cells #[gval g, .slice none 0 0, .slice none 0 0, .bool true] 218)
 replace hT := hT.fr0 hFw
 replace he := hFw.isRec _ he
 have hgc := gval_cells g
 unfold Value.cells at hgc
 go_enter Tryz.func234, Tryz.ntmps234
 go_wp2_with fail
 have hTB := fun b => try_blk (g := g) (w := w) b
 generalize hW : World.alloc w _ = W0 at *
 clear hW hgc
 have hFT : FrT g w.heap.size W0 W0 := by obtain ⟨cs, h⟩ := ht.at; exact FrT.of h (Fr.refl g No W0)
 refine (linkU_tr (a := x.1) false hg (by omega) (by simp) ht (HTp.u hT) HB.out.1).mono ?_
 rintro e w1 ⟨i1, fa1, fc1, rfl, fT, hg', ht'⟩
 replace hT := hT.frT ht fT
 replace hFT := hFT.trans fT
 clear ht hg fT
 have ht := ht'
 have hg := hg'
 clear ht' hg'
 simp only [List.nil_append, List.cons_append, List.append_assoc] at ht
 obtain ⟨q0, q1, q2⟩ := bq hg
 obtain ⟨b11, hg', f⟩ := bn #[.pointer (some ⟨ub, 0, none⟩), .pointer (some ⟨i1, 0, none⟩), .slice fa1 2 fc1] ht hg
 replace hT := hT.fr0 f
 replace hFT := hFT.trans (ht.frT f)
 replace ht := ht.fr0 f
 replace hg := hg'; clear hg' f
 have z0 := b11.1.cell 0
 have z1 := b11.1.cell 1
 have z2 := b11.1.cell 2
 go_wp2_with fail
 clear z0 z1 z2
 clear q0 q1 q2
 generalize hW : World.alloc w1 _ = W1 at *
 clear hW
 refine (leadsU_tr (a := x.1) (i := i1) (info := i1) (fin := false) hg ht (by simp) HX.out.2.2.1 (HTp.X hT).isRec (HTp.sib hT).isRec HB.out.1 HB.out.2.1).mono ?_
 rintro e w2 ⟨rfl, f, hg'⟩
 rw [HSO.out]
 replace hT := hT.fr0 f
 replace b11 := b11.fr (ht.frT f)
 replace hFT := hFT.trans (ht.frT f)
 replace ht := ht.fr0 f
 replace hg := hg'; clear hg' f
 go_wp2_with fail
 refine (link_tr (t := .node x d l r) true hg (by omega) (by simp) ht (HTp.X hT) HB.out.2.1).mono ?_
 rintro e w3 ⟨i3, fa3, fc3, rfl, fT, hg', ht'⟩
 replace hT := hT.frT ht fT
 replace b11 := b11.fr fT
 replace hFT := hFT.trans fT
 clear ht hg fT
 have ht := ht'
 have hg := hg'
 clear ht' hg'
 simp only [List.nil_append, List.cons_append, List.append_assoc] at ht
 simp only [kidsOf, List.length_cons, List.length_nil, Nat.zero_add, Nat.reduceAdd] at ht ⊢
 obtain ⟨q0, q1, q2⟩ := bq hg
 obtain ⟨b13, hg', f⟩ := bn #[.pointer (some ⟨xb, 0, none⟩), .pointer (some ⟨i3, 0, none⟩), .slice fa3 2 fc3] ht hg
 replace hT := hT.fr0 f
 replace b11 := b11.fr (ht.frT f)
 replace hFT := hFT.trans (ht.frT f)
 replace ht := ht.fr0 f
 replace hg := hg'; clear hg' f
 have z0 := b13.1.cell 0
 have z1 := b13.1.cell 1
 have z2 := b13.1.cell 2
 go_wp2_with fail
 clear z0 z1 z2
 clear q0 q1 q2
 generalize hW : World.alloc w3 _ = W2 at *
 clear hW
 have hX := HTp.X hT
 refine (leads_tr (x := x) (d := d) (l := l) (r := r) (i := i3) (i0 := i3) (fin := true) true hg ht (by simp [kidsOf]) hX.2.1 hX.2.2 HX.out.2.2.2 HB.out.2.1 HB.out.2.2.2).mono ?_
 clear hX
 rintro e w4 ⟨rfl, f, hg'⟩
 replace hT := hT.fr0 f
 replace b11 := b11.fr (ht.frT f)
 replace b13 := b13.fr (ht.frT f)
 replace hFT := hFT.trans (ht.frT f)
 replace ht := ht.fr0 f
 replace hg := hg'; clear hg' f
 simp only [if_true]
 have z0 := b13.1.cell 0
 have z1 := b13.1.cell 1
 have z2 := b13.1.cell 2
 go_wp2_with fail
 refine (below_t (x := x) (d := d) (l := l) (r := r) (i := i3) (i0 := i3) (fin := true) false hg ht (by simp [kidsOf]) HB.out.2.1 rfl HB.out.2.2.1).mono ?_
 rintro e w5 ⟨rfl, f, hg'⟩
 clear z0 z1 z2
 replace hT := hT.fr0 f
 replace b11 := b11.fr (ht.frT f)
 replace b13 := b13.fr (ht.frT f)
 replace hFT := hFT.trans (ht.frT f)
 replace ht := ht.fr0 f
 replace hg := hg'; clear hg' f
 have hX := HTp.X hT
 have hl := hX.2.1
 have hr := hX.2.2
 obtain ⟨ix, rx⟩ := hX.nd.rec
 have x1 := rc1 rx
 rw [show (T.node x d l r).ann.1 = xb from HB.out.2.1, show (T.node x d l r).it.i = 0 from hdi] at x1
 clear rx
 have z0 := ht.okc
 have z1 := b13.1.cell 0
 have z2 := b13.1.cell 1
 have z3 := b13.1.cell 2
 have wx := HT.wk (k := 1) hX HB.out.2.1 hdw
 have wl := HT.wk (k := 0) hl HB.out.2.2.1 hwl
 have wr := HT.wk (k := 0) hr HB.out.2.2.2 hwr
 go_wp2_with (go_at_call 232; first | (refine wx.mono ?_; rintro e w6 ⟨rfl, rfl⟩) | (refine wl.mono ?_; rintro e w6 ⟨rfl, rfl⟩) | (refine wr.mono ?_; rintro e w6 ⟨rfl, rfl⟩))
 clear x1 wx wl wr
 clear z0 z1 z2 z3
 refine (both_t (x := x) (d := d) (l := l) (r := r) (i := i3) (i0 := i3) (fa := fa3) (fc := fc3) (fin := true) false hg (by omega) (by simp) ht (by simp [kidsOf]) hl hr HB.out.2.1 rfl).mono ?_
 rintro e w6 ⟨i6, fa6, fc6, i7, fa7, fc7, rfl, fT, hg', ht'⟩
 clear hX hl hr
 simp only [Bool.false_eq_true, if_false]
 rw [HB.out.2.2.1, HB.out.2.2.2]
 replace hT := hT.frT ht fT
 replace b11 := b11.fr fT
 replace b13 := b13.fr fT
 replace hFT := hFT.trans fT
 clear ht hg fT
 have ht := ht'
 have hg := hg'
 clear ht' hg'
 simp only [List.nil_append, List.cons_append, List.append_assoc] at ht
 obtain ⟨q0, q3⟩ := box_free2 (cs := #[.pointer none, .pointer none, .slice none 0 0]) (ds := #[.pointer none, .pointer none, .slice none 0 0]) (T := 220) (U := 220) hg 0
 have q6 := (box_free2 (cs := #[.pointer (some ⟨la, 0, none⟩), .pointer (some ⟨i6, 0, none⟩), .slice fa6 (kidsOf l).length fc6]) (ds := #[.pointer none, .pointer none, .slice none 0 0]) (T := 220) (U := 220) hg 0).2
 obtain ⟨q1, q4⟩ := box_free2 (cs := #[.pointer none, .pointer none, .slice none 0 0]) (ds := #[.pointer none, .pointer none, .slice none 0 0]) (T := 220) (U := 220) hg 1
 have q7 := (box_free2 (cs := #[.pointer (some ⟨la, 0, none⟩), .pointer (some ⟨i6, 0, none⟩), .slice fa6 (kidsOf l).length fc6]) (ds := #[.pointer none, .pointer none, .slice none 0 0]) (T := 220) (U := 220) hg 1).2
 obtain ⟨q2, q5⟩ := box_free2 (cs := #[.pointer none, .pointer none, .slice none 0 0]) (ds := #[.pointer none, .pointer none, .slice none 0 0]) (T := 220) (U := 220) hg 2
 have q8 := (box_free2 (cs := #[.pointer (some ⟨la, 0, none⟩), .pointer (some ⟨i6, 0, none⟩), .slice fa6 (kidsOf l).length fc6]) (ds := #[.pointer none, .pointer none, .slice none 0 0]) (T := 220) (U := 220) hg 2).2
 obtain ⟨b16, hg', f⟩ := bn #[.pointer (some ⟨la, 0, none⟩), .pointer (some ⟨i6, 0, none⟩), .slice fa6 (kidsOf l).length fc6] ht hg
 replace hT := hT.fr0 f
 replace b11 := b11.fr (ht.frT f)
 replace b13 := b13.fr (ht.frT f)
 replace hFT := hFT.trans (ht.frT f)
 replace ht := ht.fr0 f
 replace hg := hg'; clear hg' f
 obtain ⟨b17, hg', f⟩ := bn #[.pointer (some ⟨ra, 0, none⟩), .pointer (some ⟨i7, 0, none⟩), .slice fa7 (kidsOf r).length fc7] ht hg
 replace hT := hT.fr0 f
 replace b11 := b11.fr (ht.frT f)
 replace b13 := b13.fr (ht.frT f)
 replace b16 := b16.fr (ht.frT f)
 replace hFT := hFT.trans (ht.frT f)
 replace ht := ht.fr0 f
 replace hg := hg'; clear hg' f
 simp only [World.size_alloc] at b17
 unfold ptr
 have z0 := ht.okc
 have z1 := b16.1.cell 0
 have z2 := b16.1.cell 1
 have z3 := b16.1.cell 2
 have z4 := b17.1.cell 0
 have z5 := b17.1.cell 1
 have z6 := b17.1.cell 2
 go_wp2_with fail
 clear z0 z1 z2 z3 z4 z5 z6
 clear q0 q1 q2 q3 q4 q5 q6 q7 q8
 generalize hW : World.alloc (World.alloc w6 _) _ = W3 at *
 clear hW
 refine (reds_t (t := l) (i := i6) (i0 := i6) (fin := true) (fa := fa6) (fc := fc6) hg ht (by simp) (HTp.X hT).2.1 HB.out.2.2.1).mono ?_
 rintro e w7 ⟨rfl, f, hg'⟩
 rw [hrl]
 replace hT := hT.fr0 f
 replace b11 := b11.fr (ht.frT f)
 replace b13 := b13.fr (ht.frT f)
 replace b16 := b16.fr (ht.frT f)
 replace b17 := b17.fr (ht.frT f)
 replace hFT := hFT.trans (ht.frT f)
 replace ht := ht.fr0 f
 replace hg := hg'; clear hg' f
 have z0 := b17.1.cell 0
 have z1 := b17.1.cell 1
 have z2 := b17.1.cell 2
 go_wp2_with fail
 clear z0 z1 z2
 refine (reds_t (t := r) (i := i7) (i0 := i7) (fin := true) (fa := fa7) (fc := fc7) hg ht (by simp) (HTp.X hT).2.2 HB.out.2.2.2).mono ?_
 rintro e w8 ⟨rfl, f, hg'⟩
 rw [hrr]
 replace hT := hT.fr0 f
 replace b11 := b11.fr (ht.frT f)
 replace b13 := b13.fr (ht.frT f)
 replace b16 := b16.fr (ht.frT f)
 replace b17 := b17.fr (ht.frT f)
 replace hFT := hFT.trans (ht.frT f)
 replace ht := ht.fr0 f
 replace hg := hg'; clear hg' f
 go_wp2_with fail
 have hFr := Fresh.start w.heap.size
 have hlh := Nat.le_refl w.heap.size
 have hsz := Nat.le_trans hFw.size hFT.fr.size
 have f := Fr.drew g No w8
 have hg' := hg.drew
 replace hT := hT.fr0 f
 replace hsz := Nat.le_trans hsz f.size
 replace hFT := hFT.trans (ht.frT f)
 replace ht := ht.fr0 f
 replace hg := hg'; clear hg' f
 have hS : SB g w8 w.heap.size w8.drew := SB.start
 refine wp_region_X (S := SB g w8 w.heap.size) [] (by kernel_rfl) ?_
 refine tY 0 _ rfl (by kernel_rfl) (fun _ _ _ => id) hS (by rfl) (by intro wq _; go_simp <;> with_reducible rfl) ?_
 try go_frame
 refine tY 1 _ rfl (by kernel_rfl) (fun _ _ _ => id) hS (by rfl) (by intro wq _; go_simp <;> with_reducible rfl) ?_
 try go_frame
 refine tY 3 _ rfl (by kernel_rfl) (fun _ _ _ => id) hS (by rfl) (by intro wq _; go_simp <;> with_reducible rfl) ?_
 try go_frame
 refine tY 4 _ rfl (by kernel_rfl) (fun _ _ _ => id) hS (by rfl) (by intro wq _; go_simp <;> with_reducible rfl) ?_
 try go_frame
 refine tX 2 _ rfl (by kernel_rfl) (fun _ _ _ => id) hS (by rfl) (by intro wq hSq; have z0 := (hSq _ _ b13).cell 0; have z1 := (hSq _ _ b13).cell 1; have z2 := (hSq _ _ b13).cell 2; go_simp <;> with_reducible rfl) ?_
 try go_frame
 refine tX 5 _ rfl (by kernel_rfl) (fun _ _ _ => id) hS (by rfl) (by intro wq hSq; have z0 := (hSq _ _ b13).cell 0; have z1 := (hSq _ _ b13).cell 1; have z2 := (hSq _ _ b13).cell 2; go_simp <;> with_reducible rfl) ?_
 try go_frame
 refine tX 9 _ rfl (by kernel_rfl) (fun _ _ _ => id) hS (by rfl) (by intro wq hSq; have z0 := (hSq _ _ b16).cell 0; have z1 := (hSq _ _ b16).cell 1; have z2 := (hSq _ _ b16).cell 2; go_simp <;> with_reducible rfl) ?_
 try go_frame
 refine tX 11 _ rfl (by kernel_rfl) (fun _ _ _ => id) hS (by rfl) (by intro wq hSq; have z0 := (hSq _ _ b17).cell 0; have z1 := (hSq _ _ b17).cell 1; have z2 := (hSq _ _ b17).cell 2; go_simp <;> with_reducible rfl) ?_
 try go_frame
 refine wpAnyX_ready (rs := [6]) (by kernel_rfl) (by simp) ?_
 refine ReadyX.cons rfl (fun K hK => ?_) ReadyX.nil
 go_simp
 refine (HT.of (HTp.X hT) HB.out.2.1 hg).mono ?_
 rintro e w9 ⟨rfl, f, hg'⟩
 rw [show (T.node x d l r).it.w = 1 from hdw]
 have hSn := hS.fr f
 replace hT := hT.fr0 f
 replace hsz := Nat.le_trans hsz f.size
 replace hFT := hFT.trans (ht.frT f)
 replace ht := ht.fr0 f
 replace hg := hg'; clear hg' f
 refine hK.out _ _ hSn (fun hSx => ?_)
 clear hK K hS
 have hS := hSx
 clear hSx hSn
 try go_frame
 refine tY 7 _ rfl (by kernel_rfl) (fun _ _ _ => id) hS (by rfl) (by intro wq _; go_simp <;> with_reducible rfl) ?_
 try go_frame
 refine wpAnyX_ready (rs := [8]) (by kernel_rfl) (by simp) ?_
 refine ReadyX.cons rfl (fun K hK => ?_) ReadyX.nil
 go_simp
 refine (weightBelow_t (u := u) (a := x.1) 0 (HTp.u hT) (hFT.fr.isRec _ he) (by rw [HB.out.1]; exact HBE.out) HB.out.1).mono ?_
 rintro e w10 ⟨rfl, rfl⟩
 obtain ⟨tw, htw⟩ : ∃ q : Int, topW u.d 0 = q := ⟨_, rfl⟩
 rw [htw]
 have HTW := Lib.hid htw
 clear htw
 have hSn := hS
 refine hK.out _ _ hSn (fun hSx => ?_)
 clear hK K hS
 have hS := hSx
 clear hSx hSn
 try go_frame
 refine wpAnyX_ready (rs := [10]) (by kernel_rfl) (by simp) ?_
 refine ReadyX.cons rfl (fun K hK => ?_) ReadyX.nil
 go_simp
 refine (as_t (t := l) (i := i6) (i0 := i6) (fin := true) (fa := fa6) (fc := fc6) 1 hg ht (by simp) (HTp.X hT).2.1 hvl HB.out.2.2.1).mono ?_
 rintro e w11 hNew
 obtain ⟨y1, rfl, n1, n2, n3, f, hg', hN1⟩ := hNew
 have hSn := hS.fr f
 have hFr' := hFr.new hsz n1 n2 n3 hN1 (ann_reW _ _ _) hlh
 have hlh' := Nat.le_trans hlh (Nat.le_trans hsz f.size)
 clear hFr hlh hsz n1 n2 n3
 have hFr := hFr'
 have hlh := hlh'
 clear hFr' hlh'
 have hsz := Nat.le_refl w11.heap.size
 replace hT := hT.fr0 f
 replace hFT := hFT.trans (ht.frT f)
 replace ht := ht.fr0 f
 replace hg := hg'; clear hg' f
 unfold ptr
 refine hK.out _ _ hSn (fun hSx => ?_)
 clear hK K hS
 have hS := hSx
 clear hSx hSn
 try go_frame
 refine wpAnyX_ready (rs := [12]) (by kernel_rfl) (by simp) ?_
 refine ReadyX.cons rfl (fun K hK => ?_) ReadyX.nil
 go_simp
 refine (as_t (t := r) (i := i7) (i0 := i7) (fin := true) (fa := fa7) (fc := fc7) 1 hg ht (by simp) (HTp.X hT).2.2 hvr HB.out.2.2.2).mono ?_
 rintro e w12 hNew
 obtain ⟨y2, rfl, n1, n2, n3, f, hg', hN2⟩ := hNew
 have hSn := hS.fr f
 have hFr' := hFr.new hsz n1 n2 n3 hN2 (ann_reW _ _ _) hlh
 have hlh' := Nat.le_trans hlh (Nat.le_trans hsz f.size)
 clear hFr hlh hsz n1 n2 n3
 have hFr := hFr'
 have hlh := hlh'
 clear hFr' hlh'
 have hsz := Nat.le_refl w12.heap.size
 replace hT := hT.fr0 f
 replace hN1 := hN1.fr0 f
 replace hFT := hFT.trans (ht.frT f)
 replace ht := ht.fr0 f
 replace hg := hg'; clear hg' f
 unfold ptr
 refine hK.out _ _ hSn (fun hSx => ?_)
 clear hK K hS
 have hS := hSx
 clear hSx hSn
 try go_frame
 refine wpAnyX_ready (rs := [13]) (by kernel_rfl) (by simp) ?_
 refine ReadyX.cons rfl (fun K hK => ?_) ReadyX.nil
 go_simp
 refine (inner_t (k := .node x d l r) (i := i3) (n := 2) false (reW y1 1 l) (reW y2 1 r) _ _ hg (HTp.X hT) hN1 hN2 HB.out.2.1 rfl (by rw [ann_reW]) (by rw [ann_reW])).mono ?_
 rintro e w13 hNew
 simp only [T.it] at hNew
 obtain ⟨y3, rfl, n1, n2, n3, f, hg', hN3⟩ := hNew
 have hSn := hS.fr f
 have hFr' := hFr.new hsz n1 n2 n3 hN3 (mk_ann _ _ _ _ _) hlh
 have hlh' := Nat.le_trans hlh (Nat.le_trans hsz f.size)
 clear hFr hlh hsz n1 n2 n3
 have hFr := hFr'
 have hlh := hlh'
 clear hFr' hlh'
 have hsz := Nat.le_refl w13.heap.size
 replace hT := hT.fr0 f
 replace hN1 := hN1.fr0 f
 replace hN2 := hN2.fr0 f
 replace hFT := hFT.trans (ht.frT f)
 replace ht := ht.fr0 f
 replace hg := hg'; clear hg' f
 unfold ptr
 refine hK.out _ _ hSn (fun hSx => ?_)
 clear hK K hS
 have hS := hSx
 clear hSx hSn
 try go_frame
 refine wpAnyX_ready (rs := [14]) (by kernel_rfl) (by simp) ?_
 refine ReadyX.cons rfl (fun K hK => ?_) ReadyX.nil
 go_simp
 have hnd : (([u.x.1, x.1, l.ann.1, r.ann.1] : List Nat)).Nodup := nd_count fun a => by
  have k := HX.out.1 a
  have k0 := cnt_ann_le a l
  have k1 := cnt_ann_le a r
  simp only [cnt_plug, cntC, cnt, List.map_cons, List.map_nil, List.sum_cons, List.sum_nil] at k ⊢
  omega
 rw [← HSO.out]
 refine (swap_t (u := u) (a := x.1) (info := i1) (fa := fa1) (fc := fc1) hg (by simp only [List.length_cons, List.length_nil]; omega) (by simp) rfl ht hnd (by have h := hN3.isRec; rw [mk_ann] at h; exact h)).mono ?_
 rintro e wz ⟨rfl, f, hg', hnd2⟩
 rw [HSO.out]
 have hfin := swap_tree (u := u) (c := c) (lo := w.heap.size) (P := fun a => cnt a l + cnt a r - (one a l.ann.1 + one a l.ann.2 + one a r.ann.1 + one a r.ann.2)) (R := fun a => one a x.1 + one a x.2 + (one a l.ann.1 + one a l.ann.2 + one a r.ann.1 + one a r.ann.2)) ⟨hT, HX.out.1⟩ HX.out.2.1 hN3 (fun a => by
  have k0 := cnt_ann_le a l
  have k1 := cnt_ann_le a r
  have j1 := cnt_reW a y1 1 l
  have j2 := cnt_reW a y2 1 r
  simp only [cnt_mk, cnt]
  omega) (fun a => by
  have k0 := cnt_ann_le a l
  have k1 := cnt_ann_le a r
  simp only [cnt]
  omega) (fun q hq => by
  simp only [List.mem_cons, List.not_mem_nil, or_false] at hq
  rcases hq with rfl | rfl | rfl <;> simp only [T.ann, one_self] <;> omega) hFr.1 (fun a ha => (hFr.2 a ha).1) (fun q hq => ht.vok hq) rfl rfl rfl rfl f (by rw [mk_ann]; exact hnd2)
 obtain ⟨hTree, hTF⟩ := hfin
 have hSn := hS.tf hTF
 have hTF0 : TF g w wz := by
  refine TF.trans (TF.of (hFw.trans hFT.fr (fun _ _ h => h) (fun b hb h => ?_))) hTF
  have := hTB b h
  omega
 have HFIN : Hid (Tree g wz _ ∧ TF g w wz ∧ GOk g _ wz) := ⟨hTree, hTF0, hg'⟩
 clear hTree hTF hTF0 hg' f hnd2 hnd
 refine hK.out _ _ hSn (fun hSx => ?_)
 clear hK K hS
 have hS := hSx
 clear hSx hSn
 try go_frame
 refine wpAnyX_done (by kernel_rfl) ?_ _
 go_wp2
 go_end0
 obtain ⟨hz1, hz2, hz3⟩ := HFIN.out
 refine ⟨rfl, _, hz1, ?_, hz2, hz3.mono (by simp only [List.length_cons, List.length_nil]; omega)⟩
 rw [er_mk, er_reW, er_reW, HTW.out]
end Go.Proofs.YtdmobhndbibhoaaGreat
