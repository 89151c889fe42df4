/- chroma's light. -/
import Derived.Test.YtdmobhndbibhoaaGreatA24
namespace Go.Proofs.YtdmobhndbibhoaaGreat
open Go.RowKit Larch
set_option maxRecDepth 100000
set_option linter.unusedVariables false
set_option linter.unusedSimpArgs false
attribute [local go_sem ↓] Go.wp_at_zero Go.wp_at_succ
set_option maxHeartbeats 4000000 in
theorem light_c_f {g : Gt} {m tb lo be ub xb la ra b6 b7 i1 i3 i6 i7 fc1 fc3 fc6 fc7 : Nat} {fa1 fa3 fa6 fa7 : Option Addr} {u : HFr} {c : List HFr} {x rx : Nat × Nat} {d rd : It} {l r A B : HTree} {zx : Nat × Nat} {zd : It} {C D : HTree} {w : World} (hg : GOk g m w) (hm : m + 100 < LIM)
 (hT : HT g w (plug (u :: c) (.node x d l r))) (ht : TrySt g w tb [⟨u.x.1, u.x.2, u.d, false, frT u x.1, i1, false, .slice fa1 2 fc1⟩, vt (.node x d l r) i3 true (.slice fa3 2 fc3), vt l i6 true (.slice fa6 (kidsOf l).length fc6), vt r i7 true (.slice fa7 (kidsOf r).length fc7)])
 (t6 : Bx g w tb b6 #[.pointer (some ⟨be, 0, none⟩)] 99) (t7 : Bx g w tb b7 #[.pointer (some ⟨ub, 0, none⟩)] 99) (he : IsRec w be) (hbe : u.x.1 ≠ be) (hlo : lo ≤ w.heap.size)
 (hub : u.x.1 = ub) (hxb : x.1 = xb) (hla : l.ann.1 = la) (hra : r.ann.1 = ra) (hd0 : 0 ≤ d.w) (hd1 : d.w ≤ 1) (hN : r = .node rx rd A B) (hwv : l.it.w = 2) (hvn : l.isLeaf = false → l.it.v = 0) (hrv : rd.v = 0) (hdw : d.w = 1) (hwrl : A.it.w = 1) (hN2 : A = .node zx zd C D) (hzv : zd.v = 0) (hwb : D.it.w = 1) (hwa : C.it.w = 1) :
 Calls Tryz.prog 282 #[.pointer (some ⟨tb, 0, none⟩), .agg #[.pointer (some ⟨xb, 0, none⟩), .pointer (some ⟨i3, 0, none⟩), .slice fa3 2 fc3], .agg #[.pointer (some ⟨la, 0, none⟩), .pointer (some ⟨i6, 0, none⟩), .slice fa6 (kidsOf l).length fc6], .agg #[.pointer (some ⟨ra, 0, none⟩), .pointer (some ⟨i7, 0, none⟩), .slice fa7 (kidsOf r).length fc7], .int .i64 0, .func (.func 279) #[] #[.pointer (some ⟨b6, 0, none⟩), .pointer (some ⟨b7, 0, none⟩)]] w
  (MakeR g m tb lo [⟨u.x.1, u.x.2, u.d, false, frT u x.1, i1, false, .slice fa1 2 fc1⟩, vt (.node x d l r) i3 true (.slice fa3 2 fc3), vt l i6 true (.slice fa6 (kidsOf l).length fc6), vt r i7 true (.slice fa7 (kidsOf r).length fc7)] x l r d (mk () (nd rd.k (topW u.d 1)) false (mk () (nd d.k 1) false (setW (l.it.w - 1) l.er) (setW 0 (T.node zx zd C D).er)) B.er) w) := by
 subst hN
 obtain ⟨aa, haa⟩ : ∃ q : Nat, A.ann.1 = q := ⟨_, rfl⟩
 obtain ⟨bb, hbb⟩ : ∃ q : Nat, B.ann.1 = q := ⟨_, rfl⟩
 have HC := Lib.hid (And.intro haa hbb)
 clear haa hbb
 have HB := Lib.hid (And.intro hub (And.intro hxb (And.intro hla hra)))
 clear hub hxb hla hra
 have HBE := Lib.hid hbe
 clear hbe
 simp only [kidsOf_node, List.length_cons, List.length_nil, Nat.zero_add, Nat.reduceAdd] at ht ⊢
 have hFT : FrT g tb w w := ht.frT (Fr.refl g No w)
 obtain ⟨c7, hg', f⟩ := bn #[.pointer (some ⟨xb, 0, none⟩), .pointer (some ⟨i3, 0, none⟩), .slice fa3 2 fc3] ht hg
 replace hT := hT.fr0 f
 replace t6 := t6.fr (ht.frT f)
 replace t7 := t7.fr (ht.frT f)
 replace hFT := hFT.trans (ht.frT f)
 replace ht := ht.fr0 f
 replace hg := hg'; clear hg' f
 obtain ⟨c8, hg', f⟩ := bn #[.pointer (some ⟨la, 0, none⟩), .pointer (some ⟨i6, 0, none⟩), .slice fa6 (kidsOf l).length fc6] ht hg
 replace hT := hT.fr0 f
 replace t6 := t6.fr (ht.frT f)
 replace t7 := t7.fr (ht.frT f)
 replace c7 := c7.fr (ht.frT f)
 replace hFT := hFT.trans (ht.frT f)
 replace ht := ht.fr0 f
 replace hg := hg'; clear hg' f
 simp only [World.size_alloc] at c8
 obtain ⟨c9, hg', f⟩ := bn #[.pointer (some ⟨ra, 0, none⟩), .pointer (some ⟨i7, 0, none⟩), .slice fa7 2 fc7] ht hg
 replace hT := hT.fr0 f
 replace t6 := t6.fr (ht.frT f)
 replace t7 := t7.fr (ht.frT f)
 replace c7 := c7.fr (ht.frT f)
 replace c8 := c8.fr (ht.frT f)
 replace hFT := hFT.trans (ht.frT f)
 replace ht := ht.fr0 f
 replace hg := hg'; clear hg' f
 simp only [World.size_alloc] at c9
 go_enter Tryz.func282, Tryz.ntmps282
 go_wp2_with fail
 generalize hW : World.alloc (World.alloc (World.alloc w _) _) _ = W0 at *
 clear hW
 have f := Fr.drew g No W0
 have hg' := hg.drew
 have hReg : FrT g tb W0 W0 := ht.frT (Fr.refl g No _)
 replace hT := hT.fr0 f
 replace hReg := hReg.trans (ht.frT f)
 replace hFT := hFT.trans (ht.frT f)
 replace ht := ht.fr0 f
 replace hg := hg'; clear hg' f
 have hS : SB g W0 tb W0.drew := SB.start
 refine wp_region_X (S := SB g W0 tb) [] (by kernel_rfl) ?_
 refine tY 0 _ rfl (by kernel_rfl) (fun _ _ _ => id) hS (by rfl) (by intro wq _; go_simp <;> with_reducible rfl) ?_
 try go_frame
 refine tY 2 _ rfl (by kernel_rfl) (fun _ _ _ => id) hS (by rfl) (by intro wq _; go_simp <;> with_reducible rfl) ?_
 try go_frame
 refine tY 4 _ rfl (by kernel_rfl) (fun _ _ _ => id) hS (by rfl) (by intro wq _; go_simp <;> with_reducible rfl) ?_
 try go_frame
 refine tY 6 _ rfl (by kernel_rfl) (fun _ _ _ => id) hS (by rfl) (by intro wq _; go_simp <;> with_reducible rfl) ?_
 try go_frame
 refine tY 7 _ rfl (by kernel_rfl) (fun _ _ _ => id) hS (by rfl) (by intro wq _; go_simp <;> with_reducible rfl) ?_
 try go_frame
 refine tX 1 _ rfl (by kernel_rfl) (fun _ _ _ => id) hS (by rfl) (by intro wq hSq; have z0 := (hSq _ _ c9).cell 0; have z1 := (hSq _ _ c9).cell 1; have z2 := (hSq _ _ c9).cell 2; go_simp <;> with_reducible rfl) ?_
 try go_frame
 refine tX 5 _ rfl (by kernel_rfl) (fun _ _ _ => id) hS (by rfl) (by intro wq hSq; have z0 := (hSq _ _ c9).cell 0; have z1 := (hSq _ _ c9).cell 1; have z2 := (hSq _ _ c9).cell 2; go_simp <;> with_reducible rfl) ?_
 try go_frame
 refine wpAnyX_ready (rs := [3]) (by kernel_rfl) (by simp) ?_
 refine ReadyX.cons rfl (fun K hK => ?_) ReadyX.nil
 go_simp
 refine (below_t (x := rx) (d := rd) (l := A) (r := B) (i := i7) (i0 := i7) (fin := true) (fa := fa7) (fc := fc7) false hg ht (by simp [kidsOf]) HB.out.2.2.2 rfl HC.out.1).mono ?_
 rintro e w1 ⟨rfl, f, hg'⟩
 have hSn := hS.fr f
 replace hT := hT.fr0 f
 replace hReg := hReg.trans (ht.frT f)
 replace hFT := hFT.trans (ht.frT f)
 replace ht := ht.fr0 f
 replace hg := hg'; clear hg' f
 refine hK.out _ _ hSn (fun hSx => ?_)
 clear hK K hS
 have hS := hSx
 clear hSx hSn
 try go_frame
 refine wpAnyX_ready (rs := [8]) (by kernel_rfl) (by simp) ?_
 refine ReadyX.cons rfl (fun K hK => ?_) ReadyX.nil
 go_simp
 refine (below_t (x := rx) (d := rd) (l := A) (r := B) (i := i7) (i0 := i7) (fin := true) (fa := fa7) (fc := fc7) true hg ht (by simp [kidsOf]) HB.out.2.2.2 rfl HC.out.2).mono ?_
 rintro e w2 ⟨rfl, f, hg'⟩
 have hSn := hS.fr f
 replace hT := hT.fr0 f
 replace hReg := hReg.trans (ht.frT f)
 replace hFT := hFT.trans (ht.frT f)
 replace ht := ht.fr0 f
 replace hg := hg'; clear hg' f
 refine hK.out _ _ hSn (fun hSx => ?_)
 clear hK K hS
 have hS := hSx
 clear hSx hSn
 try go_frame
 refine tY 9 _ rfl (by kernel_rfl) (fun _ _ _ => id) hS (by rfl) (by intro wq _; go_simp <;> with_reducible rfl) ?_
 try go_frame
 refine tY 10 _ rfl (by kernel_rfl) (fun _ _ _ => id) hS (by rfl) (by intro wq _; go_simp <;> with_reducible rfl) ?_
 try go_frame
 refine wpAnyX_done (by kernel_rfl) ?_ _
 replace t6 := t6.fr hReg
 replace t7 := t7.fr hReg
 replace c7 := c7.fr hReg
 replace c8 := c8.fr hReg
 replace c9 := c9.fr hReg
 clear hReg hS
 have z0 := ht.okc
 have z1 := c7.1.cell 0
 have z2 := c7.1.cell 1
 have z3 := c7.1.cell 2
 have wrl := HT.wk (k := 1) (HTp.X hT).2.2.2.1 HC.out.1 hwrl
 go_wp2_with fail
 clear z0 z1 z2 z3
 refine (HT.of (HTp.X hT) HB.out.2.1 hg).mono ?_
 rintro e w3 ⟨rfl, f, hg'⟩
 rw [show (T.node x d l (T.node rx rd A B)).it.w = 1 from hdw]
 replace wrl := HT.wk (k := 1) ((HTp.X hT).2.2.2.1.fr0 f) HC.out.1 hwrl
 replace hT := hT.fr0 f
 replace t6 := t6.fr (ht.frT f)
 replace t7 := t7.fr (ht.frT f)
 replace c7 := c7.fr (ht.frT f)
 replace c8 := c8.fr (ht.frT f)
 replace c9 := c9.fr (ht.frT f)
 replace hFT := hFT.trans (ht.frT f)
 replace ht := ht.fr0 f
 replace hg := hg'; clear hg' f
 go_wp2_with (go_at_call 232; refine wrl.mono ?_; rintro e w5 ⟨rfl, rfl⟩)
 clear wrl
 refine (link_tr (t := A) true hg (by omega) (by simp) ht (HTp.X hT).2.2.2.1 HC.out.1).mono ?_
 rintro e w6 ⟨i8, fa8, fc8, rfl, fT, hg', ht'⟩
 replace hT := hT.frT ht fT
 replace t6 := t6.fr fT
 replace t7 := t7.fr fT
 replace c7 := c7.fr fT
 replace c8 := c8.fr fT
 replace c9 := c9.fr fT
 replace hFT := hFT.trans fT
 clear ht hg fT
 have ht := ht'
 have hg := hg'
 clear ht' hg'
 simp only [List.nil_append, List.cons_append, List.append_assoc] at ht
 subst hN2
 obtain ⟨cc, hcc⟩ : ∃ q : Nat, C.ann.1 = q := ⟨_, rfl⟩
 obtain ⟨dd, hdd⟩ : ∃ q : Nat, D.ann.1 = q := ⟨_, rfl⟩
 have HD := Lib.hid (And.intro hcc hdd)
 clear hcc hdd
 simp only [kidsOf_node, List.length_cons, List.length_nil, Nat.zero_add, Nat.reduceAdd] at ht ⊢
 obtain ⟨q0, q1, q2⟩ := bq hg
 obtain ⟨c15, hg', f⟩ := bn #[.pointer (some ⟨aa, 0, none⟩), .pointer (some ⟨i8, 0, none⟩), .slice fa8 2 fc8] ht hg
 replace hT := hT.fr0 f
 replace t6 := t6.fr (ht.frT f)
 replace t7 := t7.fr (ht.frT f)
 replace c7 := c7.fr (ht.frT f)
 replace c8 := c8.fr (ht.frT f)
 replace c9 := c9.fr (ht.frT f)
 replace hFT := hFT.trans (ht.frT f)
 replace ht := ht.fr0 f
 replace hg := hg'; clear hg' f
 have z0 := ht.okc
 have z1 := c15.1.cell 0
 have z2 := c15.1.cell 1
 have z3 := c15.1.cell 2
 have z4 := c7.1.cell 0
 have z5 := c7.1.cell 1
 have z6 := c7.1.cell 2
 go_wp2_with fail
 clear z0 z1 z2 z3 z4 z5 z6
 clear q0 q1 q2
 generalize hW : World.alloc w6 _ = W1 at *
 clear hW
 refine (HT.of (HTp.X hT) HB.out.2.1 hg).mono ?_
 rintro e w7 ⟨rfl, f, hg'⟩
 rw [show (T.node x d l (T.node rx rd (T.node zx zd C D) B)).it.w = 1 from hdw]
 replace hT := hT.fr0 f
 replace t6 := t6.fr (ht.frT f)
 replace t7 := t7.fr (ht.frT f)
 replace c7 := c7.fr (ht.frT f)
 replace c8 := c8.fr (ht.frT f)
 replace c9 := c9.fr (ht.frT f)
 replace c15 := c15.fr (ht.frT f)
 replace hFT := hFT.trans (ht.frT f)
 replace ht := ht.fr0 f
 replace hg := hg'; clear hg' f
 go_wp2_with fail
 refine (top_any (u := u) (a := x.1) 1 t6.1 t7.1 (HTp.u hT) (hFT.fr.isRec _ he) HBE.out HB.out.1).mono ?_
 rintro e w10 ⟨rfl, rfl⟩
 obtain ⟨tw, htw⟩ : ∃ q : Int, topW u.d 1 = q := ⟨_, rfl⟩
 rw [htw]
 have HTW := Lib.hid htw
 clear htw
 have z0 := c15.1.cell 0
 have z1 := c15.1.cell 1
 have z2 := c15.1.cell 2
 go_wp2_with fail
 clear z0 z1 z2
 refine (HT.of (i' := i8) (HTp.X hT).2.2.2.1 HC.out.1 hg).mono ?_
 rintro e w8 ⟨rfl, f, hg'⟩
 rw [show (T.node zx zd C D).it.w = 1 from hwrl]
 replace hT := hT.fr0 f
 replace t6 := t6.fr (ht.frT f)
 replace t7 := t7.fr (ht.frT f)
 replace c7 := c7.fr (ht.frT f)
 replace c8 := c8.fr (ht.frT f)
 replace c9 := c9.fr (ht.frT f)
 replace c15 := c15.fr (ht.frT f)
 replace hFT := hFT.trans (ht.frT f)
 replace ht := ht.fr0 f
 replace hg := hg'; clear hg' f
 go_wp2_with fail
 have f := Fr.drew g No w8
 have hg' := hg.drew
 have hReg : FrT g tb w8 w8 := ht.frT (Fr.refl g No _)
 replace hT := hT.fr0 f
 replace hReg := hReg.trans (ht.frT f)
 replace hFT := hFT.trans (ht.frT f)
 replace ht := ht.fr0 f
 replace hg := hg'; clear hg' f
 have hS : SB g w8 tb w8.drew := SB.start
 refine wp_region_X (S := SB g w8 tb) [] (by kernel_rfl) ?_
 refine tY 0 _ rfl (by kernel_rfl) (fun _ _ _ => id) hS (by rfl) (by intro wq _; go_simp <;> with_reducible rfl) ?_
 try go_frame
 refine tY 2 _ rfl (by kernel_rfl) (fun _ _ _ => id) hS (by rfl) (by intro wq _; go_simp <;> with_reducible rfl) ?_
 try go_frame
 refine tY 4 _ rfl (by kernel_rfl) (fun _ _ _ => id) hS (by rfl) (by intro wq _; go_simp <;> with_reducible rfl) ?_
 try go_frame
 refine tY 6 _ rfl (by kernel_rfl) (fun _ _ _ => id) hS (by rfl) (by intro wq _; go_simp <;> with_reducible rfl) ?_
 try go_frame
 refine tY 7 _ rfl (by kernel_rfl) (fun _ _ _ => id) hS (by rfl) (by intro wq _; go_simp <;> with_reducible rfl) ?_
 try go_frame
 refine tX 1 _ rfl (by kernel_rfl) (fun _ _ _ => id) hS (by rfl) (by intro wq hSq; have z0 := (hSq _ _ c15).cell 0; have z1 := (hSq _ _ c15).cell 1; have z2 := (hSq _ _ c15).cell 2; go_simp <;> with_reducible rfl) ?_
 try go_frame
 refine tX 5 _ rfl (by kernel_rfl) (fun _ _ _ => id) hS (by rfl) (by intro wq hSq; have z0 := (hSq _ _ c15).cell 0; have z1 := (hSq _ _ c15).cell 1; have z2 := (hSq _ _ c15).cell 2; go_simp <;> with_reducible rfl) ?_
 try go_frame
 refine wpAnyX_ready (rs := [3]) (by kernel_rfl) (by simp) ?_
 refine ReadyX.cons rfl (fun K hK => ?_) ReadyX.nil
 go_simp
 refine (below_t (x := zx) (d := zd) (l := C) (r := D) (i := i8) (i0 := i8) (fin := true) (fa := fa8) (fc := fc8) false hg ht (by simp [kidsOf]) HC.out.1 rfl HD.out.1).mono ?_
 rintro e w9 ⟨rfl, f, hg'⟩
 have hSn := hS.fr f
 replace hT := hT.fr0 f
 replace hReg := hReg.trans (ht.frT f)
 replace hFT := hFT.trans (ht.frT f)
 replace ht := ht.fr0 f
 replace hg := hg'; clear hg' f
 refine hK.out _ _ hSn (fun hSx => ?_)
 clear hK K hS
 have hS := hSx
 clear hSx hSn
 try go_frame
 refine wpAnyX_ready (rs := [8]) (by kernel_rfl) (by simp) ?_
 refine ReadyX.cons rfl (fun K hK => ?_) ReadyX.nil
 go_simp
 refine (below_t (x := zx) (d := zd) (l := C) (r := D) (i := i8) (i0 := i8) (fin := true) (fa := fa8) (fc := fc8) true hg ht (by simp [kidsOf]) HC.out.1 rfl HD.out.2).mono ?_
 rintro e w10 ⟨rfl, f, hg'⟩
 have hSn := hS.fr f
 replace hT := hT.fr0 f
 replace hReg := hReg.trans (ht.frT f)
 replace hFT := hFT.trans (ht.frT f)
 replace ht := ht.fr0 f
 replace hg := hg'; clear hg' f
 refine hK.out _ _ hSn (fun hSx => ?_)
 clear hK K hS
 have hS := hSx
 clear hSx hSn
 try go_frame
 refine tY 9 _ rfl (by kernel_rfl) (fun _ _ _ => id) hS (by rfl) (by intro wq _; go_simp <;> with_reducible rfl) ?_
 try go_frame
 refine tY 10 _ rfl (by kernel_rfl) (fun _ _ _ => id) hS (by rfl) (by intro wq _; go_simp <;> with_reducible rfl) ?_
 try go_frame
 refine wpAnyX_done (by kernel_rfl) ?_ _
 replace t6 := t6.fr hReg
 replace t7 := t7.fr hReg
 replace c7 := c7.fr hReg
 replace c8 := c8.fr hReg
 replace c9 := c9.fr hReg
 replace c15 := c15.fr hReg
 clear hReg hS
 have z0 := ht.okc
 have wb := HT.wk (k := 1) (HTp.X hT).2.2.2.1.2.2 HD.out.2 hwb
 have wa := HT.wk (k := 1) (HTp.X hT).2.2.2.1.2.1 HD.out.1 hwa
 go_wp2_with (go_at_call 232; first | (refine wb.mono ?_; rintro e w11 ⟨rfl, rfl⟩) | (refine wa.mono ?_; rintro e w11 ⟨rfl, rfl⟩))
 clear wb wa
 clear z0
 have hFr := Fresh.start lo
 have hlh := Nat.le_refl lo
 have hsz := Nat.le_trans hlo hFT.fr.size
 have f := Fr.drew g No w10
 have hg' := hg.drew
 have hReg : FrT g tb w10 w10 := ht.frT (Fr.refl g No _)
 replace hT := hT.fr0 f
 replace hReg := hReg.trans (ht.frT f)
 replace hsz := Nat.le_trans hsz f.size
 replace hFT := hFT.trans (ht.frT f)
 replace ht := ht.fr0 f
 replace hg := hg'; clear hg' f
 have hS : SB g w10 tb w10.drew := SB.start
 refine wp_region_X (S := SB g w10 tb) [] (by kernel_rfl) ?_
 refine tY 1 _ rfl (by kernel_rfl) (fun _ _ _ => id) hS (by rfl) (by intro wq _; go_simp <;> with_reducible rfl) ?_
 try go_frame
 refine tY 2 _ rfl (by kernel_rfl) (fun _ _ _ => id) hS (by rfl) (by intro wq _; go_simp <;> with_reducible rfl) ?_
 try go_frame
 refine tY 4 _ rfl (by kernel_rfl) (fun _ _ _ => id) hS (by rfl) (by intro wq _; go_simp <;> with_reducible rfl) ?_
 try go_frame
 refine tY 10 _ rfl (by kernel_rfl) (fun _ _ _ => id) hS (by rfl) (by intro wq _; go_simp <;> with_reducible rfl) ?_
 try go_frame
 refine tX 0 _ rfl (by kernel_rfl) (fun _ _ _ => id) hS (by rfl) (by intro wq hSq; have z0 := (hSq _ _ c9).cell 0; have z1 := (hSq _ _ c9).cell 1; have z2 := (hSq _ _ c9).cell 2; go_simp <;> with_reducible rfl) ?_
 try go_frame
 refine tX 3 _ rfl (by kernel_rfl) (fun _ _ _ => id) hS (by rfl) (by intro wq hSq; have z0 := (hSq _ _ c7).cell 0; have z1 := (hSq _ _ c7).cell 1; have z2 := (hSq _ _ c7).cell 2; go_simp <;> with_reducible rfl) ?_
 try go_frame
 refine tX 5 _ rfl (by kernel_rfl) (fun _ _ _ => id) hS (by rfl) (by intro wq hSq; have z0 := (hSq _ _ c8).cell 0; have z1 := (hSq _ _ c8).cell 1; have z2 := (hSq _ _ c8).cell 2; go_simp <;> with_reducible rfl) ?_
 try go_frame
 refine tX 7 _ rfl (by kernel_rfl) (fun _ _ _ => id) hS (by rfl) (by intro wq hSq; have z0 := (hSq _ _ c15).cell 0; have z1 := (hSq _ _ c15).cell 1; have z2 := (hSq _ _ c15).cell 2; go_simp <;> with_reducible rfl) ?_
 try go_frame
 refine wpAnyX_ready (rs := [6]) (by kernel_rfl) (by simp) ?_
 refine ReadyX.cons rfl (fun K hK => ?_) ReadyX.nil
 go_simp
 refine (less_t (t := l) (i := i6) (i0 := i6) (fin := true) (fa := fa6) (fc := fc6) hg ht (by simp [kidsOf]) (HTp.X hT).2.1 hvn (by omega) (by omega) HB.out.2.2.1).mono ?_
 rintro e w13 hNew
 obtain ⟨y1, rfl, n1, n2, n3, f, hg', hN1⟩ := hNew
 have hSn := hS.fr f
 have hFr' := hFr.new hsz n1 n2 n3 hN1 (ann_reW _ _ _) hlh
 have hlh' := Nat.le_trans hlh (Nat.le_trans hsz f.size)
 clear hFr hlh hsz n1 n2 n3
 have hFr := hFr'
 have hlh := hlh'
 clear hFr' hlh'
 have hsz := Nat.le_refl w13.heap.size
 replace hT := hT.fr0 f
 replace hReg := hReg.trans (ht.frT f)
 replace hFT := hFT.trans (ht.frT f)
 replace ht := ht.fr0 f
 replace hg := hg'; clear hg' f
 unfold ptr
 refine hK.out _ _ hSn (fun hSx => ?_)
 clear hK K hS
 have hS := hSx
 clear hSx hSn
 try go_frame
 refine wpAnyX_ready (rs := [8]) (by kernel_rfl) (by simp) ?_
 refine ReadyX.cons rfl (fun K hK => ?_) ReadyX.nil
 go_simp
 refine (as_t (t := (T.node zx zd C D)) (i := i8) (i0 := i8) (fin := true) (fa := fa8) (fc := fc8) 0 hg ht (by simp [kidsOf]) (HTp.X hT).2.2.2.1 (fun _ => hzv) HC.out.1).mono ?_
 rintro e w14 hNew
 obtain ⟨y2, rfl, n1, n2, n3, f, hg', hN2⟩ := hNew
 have hSn := hS.fr f
 have hFr' := hFr.new hsz n1 n2 n3 hN2 (ann_reW _ _ _) hlh
 have hlh' := Nat.le_trans hlh (Nat.le_trans hsz f.size)
 clear hFr hlh hsz n1 n2 n3
 have hFr := hFr'
 have hlh := hlh'
 clear hFr' hlh'
 have hsz := Nat.le_refl w14.heap.size
 replace hT := hT.fr0 f
 replace hN1 := hN1.fr0 f
 replace hReg := hReg.trans (ht.frT f)
 replace hFT := hFT.trans (ht.frT f)
 replace ht := ht.fr0 f
 replace hg := hg'; clear hg' f
 unfold ptr
 refine hK.out _ _ hSn (fun hSx => ?_)
 clear hK K hS
 have hS := hSx
 clear hSx hSn
 try go_frame
 refine wpAnyX_ready (rs := [9]) (by kernel_rfl) (by simp) ?_
 refine ReadyX.cons rfl (fun K hK => ?_) ReadyX.nil
 go_simp
 refine (inner_t (k := .node x d l (T.node rx rd (T.node zx zd C D) B)) (i := i3) (n := 2) false (reW y1 (l.it.w - 1) l) (reW y2 0 (T.node zx zd C D)) _ _ hg (HTp.X hT) hN1 hN2 HB.out.2.1 rfl (by rw [ann_reW]) (by rw [ann_reW])).mono ?_
 rintro e w15 hNew
 simp only [it_node] at hNew
 obtain ⟨y3, rfl, n1, n2, n3, f, hg', hN3⟩ := hNew
 have hSn := hS.fr f
 have hFr' := hFr.new hsz n1 n2 n3 hN3 (mk_ann _ _ _ _ _) hlh
 have hlh' := Nat.le_trans hlh (Nat.le_trans hsz f.size)
 clear hFr hlh hsz n1 n2 n3
 have hFr := hFr'
 have hlh := hlh'
 clear hFr' hlh'
 have hsz := Nat.le_refl w15.heap.size
 replace hT := hT.fr0 f
 replace hN1 := hN1.fr0 f
 replace hN2 := hN2.fr0 f
 replace hReg := hReg.trans (ht.frT f)
 replace hFT := hFT.trans (ht.frT f)
 replace ht := ht.fr0 f
 replace hg := hg'; clear hg' f
 unfold ptr
 refine hK.out _ _ hSn (fun hSx => ?_)
 clear hK K hS
 have hS := hSx
 clear hSx hSn
 try go_frame
 refine wpAnyX_ready (rs := [11]) (by kernel_rfl) (by simp) ?_
 refine ReadyX.cons rfl (fun K hK => ?_) ReadyX.nil
 go_simp
 refine (inner_t (k := (T.node rx rd (T.node zx zd C D) B)) (i := i7) (n := 2) false (mk y3 (nd d.k 1) false (reW y1 (l.it.w - 1) l) (reW y2 0 (T.node zx zd C D))) B _ _ hg (HTp.X hT).2.2 hN3 (HTp.X hT).2.2.2.2 HB.out.2.2.2 rfl (by rw [mk_ann]) HC.out.2).mono ?_
 rintro e w16 hNew
 simp only [it_node] at hNew
 obtain ⟨y4, rfl, n1, n2, n3, f, hg', hN4⟩ := hNew
 have hSn := hS.fr f
 have hFr' := hFr.new hsz n1 n2 n3 hN4 (mk_ann _ _ _ _ _) hlh
 have hlh' := Nat.le_trans hlh (Nat.le_trans hsz f.size)
 clear hFr hlh hsz n1 n2 n3
 have hFr := hFr'
 have hlh := hlh'
 clear hFr' hlh'
 have hsz := Nat.le_refl w16.heap.size
 replace hT := hT.fr0 f
 replace hN1 := hN1.fr0 f
 replace hN2 := hN2.fr0 f
 replace hN3 := hN3.fr0 f
 replace hReg := hReg.trans (ht.frT f)
 replace hFT := hFT.trans (ht.frT f)
 replace ht := ht.fr0 f
 replace hg := hg'; clear hg' f
 unfold ptr
 refine hK.out _ _ hSn (fun hSx => ?_)
 clear hK K hS
 have hS := hSx
 clear hSx hSn
 try go_frame
 refine tY 12 _ rfl (by kernel_rfl) (fun _ _ _ => id) hS (by rfl) (by intro wq _; go_simp <;> with_reducible rfl) ?_
 try go_frame
 refine wpAnyX_done (by kernel_rfl) ?_ _
 replace t6 := t6.fr hReg
 replace t7 := t7.fr hReg
 replace c7 := c7.fr hReg
 replace c8 := c8.fr hReg
 replace c9 := c9.fr hReg
 replace c15 := c15.fr hReg
 clear hReg hS
 have HFIN : Hid (FrT g tb w _ ∧ GOk g _ _ ∧ TrySt g _ tb _ ∧ HT g _ _ ∧ Fresh lo _ _) := ⟨hFT, hg, ht, hN4, hFr⟩
 clear hFT hg ht hT hN4 hFr hsz hlh t6 t7 c7 c8 c9 c15
 go_wp2
 go_ret
 obtain ⟨hz1, hz2, hz3, hz4, hz5⟩ := HFIN.out
 refine ⟨_, [vt (T.node zx zd C D) i8 true (.slice fa8 2 fc8)], _, (fun a => one a x.1 + one a x.2 + one a rx.1 + one a rx.2 + one a zx.1 + one a zx.2 + (one a l.ann.1 + one a l.ann.2)), (fun a => cnt a C + cnt a D + cnt a B + (cnt a l - (one a l.ann.1 + one a l.ann.2))), by rw [mk_ann]; rfl, hz1, hz2.mono (by omega), hz3, hz4, by simp only [er_mk, er_reW, HTW.out, hwv, Int.reduceSub], hz5, fun a => ?_, fun a => ?_, fun a => ?_, by simp⟩
 ·have k0 := cnt_ann_le a l
  have k1 := cnt_ann_le a C
  have k2 := cnt_ann_le a D
  have k3 := cnt_ann_le a B
  have j1 := cnt_reW a y1 (l.it.w - 1) l
  have j2 := cnt_reW a y2 0 (T.node zx zd C D)
  simp only [T.ann, cnt] at j2
  simp only [cnt_mk, cnt]
  omega
 ·have k0 := cnt_ann_le a l
  have k1 := cnt_ann_le a C
  have k2 := cnt_ann_le a D
  have k3 := cnt_ann_le a B
  simp only [cnt]
  omega
 ·have k0 := cnt_ann_le a l
  have k1 := cnt_ann_le a C
  have k2 := cnt_ann_le a D
  have k3 := cnt_ann_le a B
  simp only [T.ann, List.map_cons, List.map_nil, List.sum_cons, List.sum_nil]
  omega
set_option maxHeartbeats 4000000 in
theorem light_c_t {g : Gt} {m tb lo be ub xb la ra b6 b7 i1 i3 i6 i7 fc1 fc3 fc6 fc7 : Nat} {fa1 fa3 fa6 fa7 : Option Addr} {u : HFr} {c : List HFr} {x rx : Nat × Nat} {d rd : It} {l r A B : HTree} {zx : Nat × Nat} {zd : It} {C D : HTree} {w : World} (hg : GOk g m w) (hm : m + 100 < LIM)
 (hT : HT g w (plug (u :: c) (.node x d l r))) (ht : TrySt g w tb [⟨u.x.1, u.x.2, u.d, false, frT u x.1, i1, false, .slice fa1 2 fc1⟩, vt (.node x d l r) i3 true (.slice fa3 2 fc3), vt l i6 true (.slice fa6 (kidsOf l).length fc6), vt r i7 true (.slice fa7 (kidsOf r).length fc7)])
 (t6 : Bx g w tb b6 #[.pointer (some ⟨be, 0, none⟩)] 99) (t7 : Bx g w tb b7 #[.pointer (some ⟨ub, 0, none⟩)] 99) (he : IsRec w be) (hbe : u.x.1 ≠ be) (hlo : lo ≤ w.heap.size)
 (hub : u.x.1 = ub) (hxb : x.1 = xb) (hla : l.ann.1 = la) (hra : r.ann.1 = ra) (hd0 : 0 ≤ d.w) (hd1 : d.w ≤ 1) (hN : l = .node rx rd A B) (hwv : r.it.w = 2) (hvn : r.isLeaf = false → r.it.v = 0) (hrv : rd.v = 0) (hdw : d.w = 1) (hwrl : B.it.w = 1) (hN2 : B = .node zx zd C D) (hzv : zd.v = 0) (hwb : C.it.w = 1) (hwa : D.it.w = 1) :
 Calls Tryz.prog 282 #[.pointer (some ⟨tb, 0, none⟩), .agg #[.pointer (some ⟨xb, 0, none⟩), .pointer (some ⟨i3, 0, none⟩), .slice fa3 2 fc3], .agg #[.pointer (some ⟨ra, 0, none⟩), .pointer (some ⟨i7, 0, none⟩), .slice fa7 (kidsOf r).length fc7], .agg #[.pointer (some ⟨la, 0, none⟩), .pointer (some ⟨i6, 0, none⟩), .slice fa6 (kidsOf l).length fc6], .int .i64 1, .func (.func 279) #[] #[.pointer (some ⟨b6, 0, none⟩), .pointer (some ⟨b7, 0, none⟩)]] w
  (MakeR g m tb lo [⟨u.x.1, u.x.2, u.d, false, frT u x.1, i1, false, .slice fa1 2 fc1⟩, vt (.node x d l r) i3 true (.slice fa3 2 fc3), vt l i6 true (.slice fa6 (kidsOf l).length fc6), vt r i7 true (.slice fa7 (kidsOf r).length fc7)] x l r d (mk () (nd rd.k (topW u.d 1)) true (mk () (nd d.k 1) true (setW (r.it.w - 1) r.er) (setW 0 (T.node zx zd C D).er)) A.er) w) := by
 subst hN
 obtain ⟨aa, haa⟩ : ∃ q : Nat, A.ann.1 = q := ⟨_, rfl⟩
 obtain ⟨bb, hbb⟩ : ∃ q : Nat, B.ann.1 = q := ⟨_, rfl⟩
 have HC := Lib.hid (And.intro haa hbb)
 clear haa hbb
 have HB := Lib.hid (And.intro hub (And.intro hxb (And.intro hla hra)))
 clear hub hxb hla hra
 have HBE := Lib.hid hbe
 clear hbe
 simp only [kidsOf_node, List.length_cons, List.length_nil, Nat.zero_add, Nat.reduceAdd] at ht ⊢
 have hFT : FrT g tb w w := ht.frT (Fr.refl g No w)
 obtain ⟨c7, hg', f⟩ := bn #[.pointer (some ⟨xb, 0, none⟩), .pointer (some ⟨i3, 0, none⟩), .slice fa3 2 fc3] ht hg
 replace hT := hT.fr0 f
 replace t6 := t6.fr (ht.frT f)
 replace t7 := t7.fr (ht.frT f)
 replace hFT := hFT.trans (ht.frT f)
 replace ht := ht.fr0 f
 replace hg := hg'; clear hg' f
 obtain ⟨c8, hg', f⟩ := bn #[.pointer (some ⟨ra, 0, none⟩), .pointer (some ⟨i7, 0, none⟩), .slice fa7 (kidsOf r).length fc7] ht hg
 replace hT := hT.fr0 f
 replace t6 := t6.fr (ht.frT f)
 replace t7 := t7.fr (ht.frT f)
 replace c7 := c7.fr (ht.frT f)
 replace hFT := hFT.trans (ht.frT f)
 replace ht := ht.fr0 f
 replace hg := hg'; clear hg' f
 simp only [World.size_alloc] at c8
 obtain ⟨c9, hg', f⟩ := bn #[.pointer (some ⟨la, 0, none⟩), .pointer (some ⟨i6, 0, none⟩), .slice fa6 2 fc6] ht hg
 replace hT := hT.fr0 f
 replace t6 := t6.fr (ht.frT f)
 replace t7 := t7.fr (ht.frT f)
 replace c7 := c7.fr (ht.frT f)
 replace c8 := c8.fr (ht.frT f)
 replace hFT := hFT.trans (ht.frT f)
 replace ht := ht.fr0 f
 replace hg := hg'; clear hg' f
 simp only [World.size_alloc] at c9
 go_enter Tryz.func282, Tryz.ntmps282
 go_wp2_with fail
 generalize hW : World.alloc (World.alloc (World.alloc w _) _) _ = W0 at *
 clear hW
 have f := Fr.drew g No W0
 have hg' := hg.drew
 have hReg : FrT g tb W0 W0 := ht.frT (Fr.refl g No _)
 replace hT := hT.fr0 f
 replace hReg := hReg.trans (ht.frT f)
 replace hFT := hFT.trans (ht.frT f)
 replace ht := ht.fr0 f
 replace hg := hg'; clear hg' f
 have hS : SB g W0 tb W0.drew := SB.start
 refine wp_region_X (S := SB g W0 tb) [] (by kernel_rfl) ?_
 refine tY 0 _ rfl (by kernel_rfl) (fun _ _ _ => id) hS (by rfl) (by intro wq _; go_simp <;> with_reducible rfl) ?_
 try go_frame
 refine tY 2 _ rfl (by kernel_rfl) (fun _ _ _ => id) hS (by rfl) (by intro wq _; go_simp <;> with_reducible rfl) ?_
 try go_frame
 refine tY 4 _ rfl (by kernel_rfl) (fun _ _ _ => id) hS (by rfl) (by intro wq _; go_simp <;> with_reducible rfl) ?_
 try go_frame
 refine tY 6 _ rfl (by kernel_rfl) (fun _ _ _ => id) hS (by rfl) (by intro wq _; go_simp <;> with_reducible rfl) ?_
 try go_frame
 refine tY 7 _ rfl (by kernel_rfl) (fun _ _ _ => id) hS (by rfl) (by intro wq _; go_simp <;> with_reducible rfl) ?_
 try go_frame
 refine tX 1 _ rfl (by kernel_rfl) (fun _ _ _ => id) hS (by rfl) (by intro wq hSq; have z0 := (hSq _ _ c9).cell 0; have z1 := (hSq _ _ c9).cell 1; have z2 := (hSq _ _ c9).cell 2; go_simp <;> with_reducible rfl) ?_
 try go_frame
 refine tX 5 _ rfl (by kernel_rfl) (fun _ _ _ => id) hS (by rfl) (by intro wq hSq; have z0 := (hSq _ _ c9).cell 0; have z1 := (hSq _ _ c9).cell 1; have z2 := (hSq _ _ c9).cell 2; go_simp <;> with_reducible rfl) ?_
 try go_frame
 refine wpAnyX_ready (rs := [3]) (by kernel_rfl) (by simp) ?_
 refine ReadyX.cons rfl (fun K hK => ?_) ReadyX.nil
 go_simp
 refine (below_t (x := rx) (d := rd) (l := A) (r := B) (i := i6) (i0 := i6) (fin := true) (fa := fa6) (fc := fc6) true hg ht (by simp [kidsOf]) HB.out.2.2.1 rfl HC.out.2).mono ?_
 rintro e w1 ⟨rfl, f, hg'⟩
 have hSn := hS.fr f
 replace hT := hT.fr0 f
 replace hReg := hReg.trans (ht.frT f)
 replace hFT := hFT.trans (ht.frT f)
 replace ht := ht.fr0 f
 replace hg := hg'; clear hg' f
 refine hK.out _ _ hSn (fun hSx => ?_)
 clear hK K hS
 have hS := hSx
 clear hSx hSn
 try go_frame
 refine wpAnyX_ready (rs := [8]) (by kernel_rfl) (by simp) ?_
 refine ReadyX.cons rfl (fun K hK => ?_) ReadyX.nil
 go_simp
 refine (below_t (x := rx) (d := rd) (l := A) (r := B) (i := i6) (i0 := i6) (fin := true) (fa := fa6) (fc := fc6) false hg ht (by simp [kidsOf]) HB.out.2.2.1 rfl HC.out.1).mono ?_
 rintro e w2 ⟨rfl, f, hg'⟩
 have hSn := hS.fr f
 replace hT := hT.fr0 f
 replace hReg := hReg.trans (ht.frT f)
 replace hFT := hFT.trans (ht.frT f)
 replace ht := ht.fr0 f
 replace hg := hg'; clear hg' f
 refine hK.out _ _ hSn (fun hSx => ?_)
 clear hK K hS
 have hS := hSx
 clear hSx hSn
 try go_frame
 refine tY 9 _ rfl (by kernel_rfl) (fun _ _ _ => id) hS (by rfl) (by intro wq _; go_simp <;> with_reducible rfl) ?_
 try go_frame
 refine tY 10 _ rfl (by kernel_rfl) (fun _ _ _ => id) hS (by rfl) (by intro wq _; go_simp <;> with_reducible rfl) ?_
 try go_frame
 refine wpAnyX_done (by kernel_rfl) ?_ _
 replace t6 := t6.fr hReg
 replace t7 := t7.fr hReg
 replace c7 := c7.fr hReg
 replace c8 := c8.fr hReg
 replace c9 := c9.fr hReg
 clear hReg hS
 have z0 := ht.okc
 have z1 := c7.1.cell 0
 have z2 := c7.1.cell 1
 have z3 := c7.1.cell 2
 have wrl := HT.wk (k := 1) (HTp.X hT).2.1.2.2 HC.out.2 hwrl
 go_wp2_with fail
 clear z0 z1 z2 z3
 refine (HT.of (HTp.X hT) HB.out.2.1 hg).mono ?_
 rintro e w3 ⟨rfl, f, hg'⟩
 rw [show (T.node x d (T.node rx rd A B) r).it.w = 1 from hdw]
 replace wrl := HT.wk (k := 1) ((HTp.X hT).2.1.2.2.fr0 f) HC.out.2 hwrl
 replace hT := hT.fr0 f
 replace t6 := t6.fr (ht.frT f)
 replace t7 := t7.fr (ht.frT f)
 replace c7 := c7.fr (ht.frT f)
 replace c8 := c8.fr (ht.frT f)
 replace c9 := c9.fr (ht.frT f)
 replace hFT := hFT.trans (ht.frT f)
 replace ht := ht.fr0 f
 replace hg := hg'; clear hg' f
 go_wp2_with (go_at_call 232; refine wrl.mono ?_; rintro e w5 ⟨rfl, rfl⟩)
 clear wrl
 refine (link_tr (t := B) true hg (by omega) (by simp) ht (HTp.X hT).2.1.2.2 HC.out.2).mono ?_
 rintro e w6 ⟨i8, fa8, fc8, rfl, fT, hg', ht'⟩
 replace hT := hT.frT ht fT
 replace t6 := t6.fr fT
 replace t7 := t7.fr fT
 replace c7 := c7.fr fT
 replace c8 := c8.fr fT
 replace c9 := c9.fr fT
 replace hFT := hFT.trans fT
 clear ht hg fT
 have ht := ht'
 have hg := hg'
 clear ht' hg'
 simp only [List.nil_append, List.cons_append, List.append_assoc] at ht
 subst hN2
 obtain ⟨cc, hcc⟩ : ∃ q : Nat, C.ann.1 = q := ⟨_, rfl⟩
 obtain ⟨dd, hdd⟩ : ∃ q : Nat, D.ann.1 = q := ⟨_, rfl⟩
 have HD := Lib.hid (And.intro hcc hdd)
 clear hcc hdd
 simp only [kidsOf_node, List.length_cons, List.length_nil, Nat.zero_add, Nat.reduceAdd] at ht ⊢
 obtain ⟨q0, q1, q2⟩ := bq hg
 obtain ⟨c15, hg', f⟩ := bn #[.pointer (some ⟨bb, 0, none⟩), .pointer (some ⟨i8, 0, none⟩), .slice fa8 2 fc8] ht hg
 replace hT := hT.fr0 f
 replace t6 := t6.fr (ht.frT f)
 replace t7 := t7.fr (ht.frT f)
 replace c7 := c7.fr (ht.frT f)
 replace c8 := c8.fr (ht.frT f)
 replace c9 := c9.fr (ht.frT f)
 replace hFT := hFT.trans (ht.frT f)
 replace ht := ht.fr0 f
 replace hg := hg'; clear hg' f
 have z0 := ht.okc
 have z1 := c15.1.cell 0
 have z2 := c15.1.cell 1
 have z3 := c15.1.cell 2
 have z4 := c7.1.cell 0
 have z5 := c7.1.cell 1
 have z6 := c7.1.cell 2
 go_wp2_with fail
 clear z0 z1 z2 z3 z4 z5 z6
 clear q0 q1 q2
 generalize hW : World.alloc w6 _ = W1 at *
 clear hW
 refine (HT.of (HTp.X hT) HB.out.2.1 hg).mono ?_
 rintro e w7 ⟨rfl, f, hg'⟩
 rw [show (T.node x d (T.node rx rd A (T.node zx zd C D)) r).it.w = 1 from hdw]
 replace hT := hT.fr0 f
 replace t6 := t6.fr (ht.frT f)
 replace t7 := t7.fr (ht.frT f)
 replace c7 := c7.fr (ht.frT f)
 replace c8 := c8.fr (ht.frT f)
 replace c9 := c9.fr (ht.frT f)
 replace c15 := c15.fr (ht.frT f)
 replace hFT := hFT.trans (ht.frT f)
 replace ht := ht.fr0 f
 replace hg := hg'; clear hg' f
 go_wp2_with fail
 refine (top_any (u := u) (a := x.1) 1 t6.1 t7.1 (HTp.u hT) (hFT.fr.isRec _ he) HBE.out HB.out.1).mono ?_
 rintro e w10 ⟨rfl, rfl⟩
 obtain ⟨tw, htw⟩ : ∃ q : Int, topW u.d 1 = q := ⟨_, rfl⟩
 rw [htw]
 have HTW := Lib.hid htw
 clear htw
 have z0 := c15.1.cell 0
 have z1 := c15.1.cell 1
 have z2 := c15.1.cell 2
 go_wp2_with fail
 clear z0 z1 z2
 refine (HT.of (i' := i8) (HTp.X hT).2.1.2.2 HC.out.2 hg).mono ?_
 rintro e w8 ⟨rfl, f, hg'⟩
 rw [show (T.node zx zd C D).it.w = 1 from hwrl]
 replace hT := hT.fr0 f
 replace t6 := t6.fr (ht.frT f)
 replace t7 := t7.fr (ht.frT f)
 replace c7 := c7.fr (ht.frT f)
 replace c8 := c8.fr (ht.frT f)
 replace c9 := c9.fr (ht.frT f)
 replace c15 := c15.fr (ht.frT f)
 replace hFT := hFT.trans (ht.frT f)
 replace ht := ht.fr0 f
 replace hg := hg'; clear hg' f
 go_wp2_with fail
 have f := Fr.drew g No w8
 have hg' := hg.drew
 have hReg : FrT g tb w8 w8 := ht.frT (Fr.refl g No _)
 replace hT := hT.fr0 f
 replace hReg := hReg.trans (ht.frT f)
 replace hFT := hFT.trans (ht.frT f)
 replace ht := ht.fr0 f
 replace hg := hg'; clear hg' f
 have hS : SB g w8 tb w8.drew := SB.start
 refine wp_region_X (S := SB g w8 tb) [] (by kernel_rfl) ?_
 refine tY 0 _ rfl (by kernel_rfl) (fun _ _ _ => id) hS (by rfl) (by intro wq _; go_simp <;> with_reducible rfl) ?_
 try go_frame
 refine tY 2 _ rfl (by kernel_rfl) (fun _ _ _ => id) hS (by rfl) (by intro wq _; go_simp <;> with_reducible rfl) ?_
 try go_frame
 refine tY 4 _ rfl (by kernel_rfl) (fun _ _ _ => id) hS (by rfl) (by intro wq _; go_simp <;> with_reducible rfl) ?_
 try go_frame
 refine tY 6 _ rfl (by kernel_rfl) (fun _ _ _ => id) hS (by rfl) (by intro wq _; go_simp <;> with_reducible rfl) ?_
 try go_frame
 refine tY 7 _ rfl (by kernel_rfl) (fun _ _ _ => id) hS (by rfl) (by intro wq _; go_simp <;> with_reducible rfl) ?_
 try go_frame
 refine tX 1 _ rfl (by kernel_rfl) (fun _ _ _ => id) hS (by rfl) (by intro wq hSq; have z0 := (hSq _ _ c15).cell 0; have z1 := (hSq _ _ c15).cell 1; have z2 := (hSq _ _ c15).cell 2; go_simp <;> with_reducible rfl) ?_
 try go_frame
 refine tX 5 _ rfl (by kernel_rfl) (fun _ _ _ => id) hS (by rfl) (by intro wq hSq; have z0 := (hSq _ _ c15).cell 0; have z1 := (hSq _ _ c15).cell 1; have z2 := (hSq _ _ c15).cell 2; go_simp <;> with_reducible rfl) ?_
 try go_frame
 refine wpAnyX_ready (rs := [3]) (by kernel_rfl) (by simp) ?_
 refine ReadyX.cons rfl (fun K hK => ?_) ReadyX.nil
 go_simp
 refine (below_t (x := zx) (d := zd) (l := C) (r := D) (i := i8) (i0 := i8) (fin := true) (fa := fa8) (fc := fc8) true hg ht (by simp [kidsOf]) HC.out.2 rfl HD.out.2).mono ?_
 rintro e w9 ⟨rfl, f, hg'⟩
 have hSn := hS.fr f
 replace hT := hT.fr0 f
 replace hReg := hReg.trans (ht.frT f)
 replace hFT := hFT.trans (ht.frT f)
 replace ht := ht.fr0 f
 replace hg := hg'; clear hg' f
 refine hK.out _ _ hSn (fun hSx => ?_)
 clear hK K hS
 have hS := hSx
 clear hSx hSn
 try go_frame
 refine wpAnyX_ready (rs := [8]) (by kernel_rfl) (by simp) ?_
 refine ReadyX.cons rfl (fun K hK => ?_) ReadyX.nil
 go_simp
 refine (below_t (x := zx) (d := zd) (l := C) (r := D) (i := i8) (i0 := i8) (fin := true) (fa := fa8) (fc := fc8) false hg ht (by simp [kidsOf]) HC.out.2 rfl HD.out.1).mono ?_
 rintro e w10 ⟨rfl, f, hg'⟩
 have hSn := hS.fr f
 replace hT := hT.fr0 f
 replace hReg := hReg.trans (ht.frT f)
 replace hFT := hFT.trans (ht.frT f)
 replace ht := ht.fr0 f
 replace hg := hg'; clear hg' f
 refine hK.out _ _ hSn (fun hSx => ?_)
 clear hK K hS
 have hS := hSx
 clear hSx hSn
 try go_frame
 refine tY 9 _ rfl (by kernel_rfl) (fun _ _ _ => id) hS (by rfl) (by intro wq _; go_simp <;> with_reducible rfl) ?_
 try go_frame
 refine tY 10 _ rfl (by kernel_rfl) (fun _ _ _ => id) hS (by rfl) (by intro wq _; go_simp <;> with_reducible rfl) ?_
 try go_frame
 refine wpAnyX_done (by kernel_rfl) ?_ _
 replace t6 := t6.fr hReg
 replace t7 := t7.fr hReg
 replace c7 := c7.fr hReg
 replace c8 := c8.fr hReg
 replace c9 := c9.fr hReg
 replace c15 := c15.fr hReg
 clear hReg hS
 have z0 := ht.okc
 have wb := HT.wk (k := 1) (HTp.X hT).2.1.2.2.2.1 HD.out.1 hwb
 have wa := HT.wk (k := 1) (HTp.X hT).2.1.2.2.2.2 HD.out.2 hwa
 go_wp2_with (go_at_call 232; first | (refine wb.mono ?_; rintro e w11 ⟨rfl, rfl⟩) | (refine wa.mono ?_; rintro e w11 ⟨rfl, rfl⟩))
 clear wb wa
 clear z0
 have hFr := Fresh.start lo
 have hlh := Nat.le_refl lo
 have hsz := Nat.le_trans hlo hFT.fr.size
 have f := Fr.drew g No w10
 have hg' := hg.drew
 have hReg : FrT g tb w10 w10 := ht.frT (Fr.refl g No _)
 replace hT := hT.fr0 f
 replace hReg := hReg.trans (ht.frT f)
 replace hsz := Nat.le_trans hsz f.size
 replace hFT := hFT.trans (ht.frT f)
 replace ht := ht.fr0 f
 replace hg := hg'; clear hg' f
 have hS : SB g w10 tb w10.drew := SB.start
 refine wp_region_X (S := SB g w10 tb) [] (by kernel_rfl) ?_
 refine tY 1 _ rfl (by kernel_rfl) (fun _ _ _ => id) hS (by rfl) (by intro wq _; go_simp <;> with_reducible rfl) ?_
 try go_frame
 refine tY 2 _ rfl (by kernel_rfl) (fun _ _ _ => id) hS (by rfl) (by intro wq _; go_simp <;> with_reducible rfl) ?_
 try go_frame
 refine tY 4 _ rfl (by kernel_rfl) (fun _ _ _ => id) hS (by rfl) (by intro wq _; go_simp <;> with_reducible rfl) ?_
 try go_frame
 refine tY 10 _ rfl (by kernel_rfl) (fun _ _ _ => id) hS (by rfl) (by intro wq _; go_simp <;> with_reducible rfl) ?_
 try go_frame
 refine tX 0 _ rfl (by kernel_rfl) (fun _ _ _ => id) hS (by rfl) (by intro wq hSq; have z0 := (hSq _ _ c9).cell 0; have z1 := (hSq _ _ c9).cell 1; have z2 := (hSq _ _ c9).cell 2; go_simp <;> with_reducible rfl) ?_
 try go_frame
 refine tX 3 _ rfl (by kernel_rfl) (fun _ _ _ => id) hS (by rfl) (by intro wq hSq; have z0 := (hSq _ _ c7).cell 0; have z1 := (hSq _ _ c7).cell 1; have z2 := (hSq _ _ c7).cell 2; go_simp <;> with_reducible rfl) ?_
 try go_frame
 refine tX 5 _ rfl (by kernel_rfl) (fun _ _ _ => id) hS (by rfl) (by intro wq hSq; have z0 := (hSq _ _ c8).cell 0; have z1 := (hSq _ _ c8).cell 1; have z2 := (hSq _ _ c8).cell 2; go_simp <;> with_reducible rfl) ?_
 try go_frame
 refine tX 7 _ rfl (by kernel_rfl) (fun _ _ _ => id) hS (by rfl) (by intro wq hSq; have z0 := (hSq _ _ c15).cell 0; have z1 := (hSq _ _ c15).cell 1; have z2 := (hSq _ _ c15).cell 2; go_simp <;> with_reducible rfl) ?_
 try go_frame
 refine wpAnyX_ready (rs := [6]) (by kernel_rfl) (by simp) ?_
 refine ReadyX.cons rfl (fun K hK => ?_) ReadyX.nil
 go_simp
 refine (less_t (t := r) (i := i7) (i0 := i7) (fin := true) (fa := fa7) (fc := fc7) hg ht (by simp [kidsOf]) (HTp.X hT).2.2 hvn (by omega) (by omega) HB.out.2.2.2).mono ?_
 rintro e w13 hNew
 obtain ⟨y1, rfl, n1, n2, n3, f, hg', hN1⟩ := hNew
 have hSn := hS.fr f
 have hFr' := hFr.new hsz n1 n2 n3 hN1 (ann_reW _ _ _) hlh
 have hlh' := Nat.le_trans hlh (Nat.le_trans hsz f.size)
 clear hFr hlh hsz n1 n2 n3
 have hFr := hFr'
 have hlh := hlh'
 clear hFr' hlh'
 have hsz := Nat.le_refl w13.heap.size
 replace hT := hT.fr0 f
 replace hReg := hReg.trans (ht.frT f)
 replace hFT := hFT.trans (ht.frT f)
 replace ht := ht.fr0 f
 replace hg := hg'; clear hg' f
 unfold ptr
 refine hK.out _ _ hSn (fun hSx => ?_)
 clear hK K hS
 have hS := hSx
 clear hSx hSn
 try go_frame
 refine wpAnyX_ready (rs := [8]) (by kernel_rfl) (by simp) ?_
 refine ReadyX.cons rfl (fun K hK => ?_) ReadyX.nil
 go_simp
 refine (as_t (t := (T.node zx zd C D)) (i := i8) (i0 := i8) (fin := true) (fa := fa8) (fc := fc8) 0 hg ht (by simp [kidsOf]) (HTp.X hT).2.1.2.2 (fun _ => hzv) HC.out.2).mono ?_
 rintro e w14 hNew
 obtain ⟨y2, rfl, n1, n2, n3, f, hg', hN2⟩ := hNew
 have hSn := hS.fr f
 have hFr' := hFr.new hsz n1 n2 n3 hN2 (ann_reW _ _ _) hlh
 have hlh' := Nat.le_trans hlh (Nat.le_trans hsz f.size)
 clear hFr hlh hsz n1 n2 n3
 have hFr := hFr'
 have hlh := hlh'
 clear hFr' hlh'
 have hsz := Nat.le_refl w14.heap.size
 replace hT := hT.fr0 f
 replace hN1 := hN1.fr0 f
 replace hReg := hReg.trans (ht.frT f)
 replace hFT := hFT.trans (ht.frT f)
 replace ht := ht.fr0 f
 replace hg := hg'; clear hg' f
 unfold ptr
 refine hK.out _ _ hSn (fun hSx => ?_)
 clear hK K hS
 have hS := hSx
 clear hSx hSn
 try go_frame
 refine wpAnyX_ready (rs := [9]) (by kernel_rfl) (by simp) ?_
 refine ReadyX.cons rfl (fun K hK => ?_) ReadyX.nil
 go_simp
 refine (inner_t (k := .node x d (T.node rx rd A (T.node zx zd C D)) r) (i := i3) (n := 2) true (reW y1 (r.it.w - 1) r) (reW y2 0 (T.node zx zd C D)) _ _ hg (HTp.X hT) hN1 hN2 HB.out.2.1 rfl (by rw [ann_reW]) (by rw [ann_reW])).mono ?_
 rintro e w15 hNew
 simp only [it_node] at hNew
 obtain ⟨y3, rfl, n1, n2, n3, f, hg', hN3⟩ := hNew
 have hSn := hS.fr f
 have hFr' := hFr.new hsz n1 n2 n3 hN3 (mk_ann _ _ _ _ _) hlh
 have hlh' := Nat.le_trans hlh (Nat.le_trans hsz f.size)
 clear hFr hlh hsz n1 n2 n3
 have hFr := hFr'
 have hlh := hlh'
 clear hFr' hlh'
 have hsz := Nat.le_refl w15.heap.size
 replace hT := hT.fr0 f
 replace hN1 := hN1.fr0 f
 replace hN2 := hN2.fr0 f
 replace hReg := hReg.trans (ht.frT f)
 replace hFT := hFT.trans (ht.frT f)
 replace ht := ht.fr0 f
 replace hg := hg'; clear hg' f
 unfold ptr
 refine hK.out _ _ hSn (fun hSx => ?_)
 clear hK K hS
 have hS := hSx
 clear hSx hSn
 try go_frame
 refine wpAnyX_ready (rs := [11]) (by kernel_rfl) (by simp) ?_
 refine ReadyX.cons rfl (fun K hK => ?_) ReadyX.nil
 go_simp
 refine (inner_t (k := (T.node rx rd A (T.node zx zd C D))) (i := i6) (n := 2) true (mk y3 (nd d.k 1) true (reW y1 (r.it.w - 1) r) (reW y2 0 (T.node zx zd C D))) A _ _ hg (HTp.X hT).2.1 hN3 (HTp.X hT).2.1.2.1 HB.out.2.2.1 rfl (by rw [mk_ann]) HC.out.1).mono ?_
 rintro e w16 hNew
 simp only [it_node] at hNew
 obtain ⟨y4, rfl, n1, n2, n3, f, hg', hN4⟩ := hNew
 have hSn := hS.fr f
 have hFr' := hFr.new hsz n1 n2 n3 hN4 (mk_ann _ _ _ _ _) hlh
 have hlh' := Nat.le_trans hlh (Nat.le_trans hsz f.size)
 clear hFr hlh hsz n1 n2 n3
 have hFr := hFr'
 have hlh := hlh'
 clear hFr' hlh'
 have hsz := Nat.le_refl w16.heap.size
 replace hT := hT.fr0 f
 replace hN1 := hN1.fr0 f
 replace hN2 := hN2.fr0 f
 replace hN3 := hN3.fr0 f
 replace hReg := hReg.trans (ht.frT f)
 replace hFT := hFT.trans (ht.frT f)
 replace ht := ht.fr0 f
 replace hg := hg'; clear hg' f
 unfold ptr
 refine hK.out _ _ hSn (fun hSx => ?_)
 clear hK K hS
 have hS := hSx
 clear hSx hSn
 try go_frame
 refine tY 12 _ rfl (by kernel_rfl) (fun _ _ _ => id) hS (by rfl) (by intro wq _; go_simp <;> with_reducible rfl) ?_
 try go_frame
 refine wpAnyX_done (by kernel_rfl) ?_ _
 replace t6 := t6.fr hReg
 replace t7 := t7.fr hReg
 replace c7 := c7.fr hReg
 replace c8 := c8.fr hReg
 replace c9 := c9.fr hReg
 replace c15 := c15.fr hReg
 clear hReg hS
 have HFIN : Hid (FrT g tb w _ ∧ GOk g _ _ ∧ TrySt g _ tb _ ∧ HT g _ _ ∧ Fresh lo _ _) := ⟨hFT, hg, ht, hN4, hFr⟩
 clear hFT hg ht hT hN4 hFr hsz hlh t6 t7 c7 c8 c9 c15
 go_wp2
 go_ret
 obtain ⟨hz1, hz2, hz3, hz4, hz5⟩ := HFIN.out
 refine ⟨_, [vt (T.node zx zd C D) i8 true (.slice fa8 2 fc8)], _, (fun a => one a x.1 + one a x.2 + one a rx.1 + one a rx.2 + one a zx.1 + one a zx.2 + (one a r.ann.1 + one a r.ann.2)), (fun a => cnt a C + cnt a D + cnt a A + (cnt a r - (one a r.ann.1 + one a r.ann.2))), by rw [mk_ann]; rfl, hz1, hz2.mono (by omega), hz3, hz4, by simp only [er_mk, er_reW, HTW.out, hwv, Int.reduceSub], hz5, fun a => ?_, fun a => ?_, fun a => ?_, by simp⟩
 ·have k0 := cnt_ann_le a r
  have k1 := cnt_ann_le a C
  have k2 := cnt_ann_le a D
  have k3 := cnt_ann_le a A
  have j1 := cnt_reW a y1 (r.it.w - 1) r
  have j2 := cnt_reW a y2 0 (T.node zx zd C D)
  simp only [T.ann, cnt] at j2
  simp only [cnt_mk, cnt]
  omega
 ·have k0 := cnt_ann_le a r
  have k1 := cnt_ann_le a C
  have k2 := cnt_ann_le a D
  have k3 := cnt_ann_le a A
  simp only [cnt]
  omega
 ·have k0 := cnt_ann_le a r
  have k1 := cnt_ann_le a C
  have k2 := cnt_ann_le a D
  have k3 := cnt_ann_le a A
  simp only [T.ann, List.map_cons, List.map_nil, List.sum_cons, List.sum_nil]
  omega
end Go.Proofs.YtdmobhndbibhoaaGreat
