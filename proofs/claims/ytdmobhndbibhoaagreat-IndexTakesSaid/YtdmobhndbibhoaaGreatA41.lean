/- Delete. -/
import Derived.Test.YtdmobhndbibhoaaGreatA40
namespace Go.Proofs.YtdmobhndbibhoaaGreat
open Go.RowKit Larch
set_option maxRecDepth 100000
set_option linter.unusedVariables false
set_option linter.unusedSimpArgs false
attribute [local go_sem ↓] Go.wp_at_zero Go.wp_at_succ
theorem size_plug_add {α : Type} (c : List (Larch.Fr α)) : ∀ t t' : T α, (plug c t).size + t'.size = (plug c t').size + t.size := by
 induction c with
 | nil => intro t t'; simp only [plug]; omega
 | cons f c ih =>
   intro t t'
   have := ih (mk f.x f.d f.s t f.sib) (mk f.x f.d f.s t' f.sib)
   simp only [size_mk] at this
   simp only [plug]
   omega
theorem kidsOf_leaf (x : Nat × Nat) (d : It) : kidsOf (.leaf x d) = [] := rfl
theorem size_reW (x : Nat × Nat) (wt : Int) (t : HTree) : (reW x wt t).size = t.size := by cases t <;> rfl
section
variable {g : Gt} {m tb : Nat} {L : List VRec} {w : World}
theorem child_t {x : Nat × Nat} {d : It} {l r t : HTree} {p i i0 fc : Nat} {fin : Bool} {fa : Option Addr} {k : Int} (s : Bool) (hg : GOk g m w) (hm : m + 7 < LIM) (hL : L.length < 900) (ht : TrySt g w tb L)
 (hr : vt (.node x d l r) i0 fin (.slice fa 2 fc) ∈ L) (hT : HT g w t) (hst : (if s then r else l) = t) (hp : x.1 = p) (hk : (if s then 1 else 0) = k) :
 Calls Tryz.prog 143 #[.pointer (some ⟨tb, 0, none⟩), .agg #[.pointer (some ⟨p, 0, none⟩), .pointer (some ⟨i, 0, none⟩), .slice fa 2 fc], .int .i64 k, .bool true] w fun e w' => ∃ i' fa' fc',
  e = .returned (.agg #[ptr t.ann.1, ptr i', .slice fa' (kidsOf t).length fc']) ∧ FrT g tb w w' ∧ GOk g (m + 7) w' ∧ TrySt g w' tb (L ++ [vt t i' true (.slice fa' (kidsOf t).length fc')]) := by
 subst hp hk
 have hc : (if s then r.ann.1 else l.ann.1) = t.ann.1 := by subst hst; cases s <;> rfl
 have := child_tr (g := g) (m := m) (tb := tb) (fc := fc) (c0 := l.ann.1) (c1 := r.ann.1) (rb := x.1) (info := i) (fb := t.ann.2) (fa := fa) (L := L) (d := t.it) (lf := t.isLeaf) (kids := kidsOf t) (fin := true) (w := w) s hg hm hL ht (ht.row hr) (shape_kids t) (by rw [hc]; exact hT.nd)
 refine this.mono ?_
 rintro e w' ⟨i', fv, he, h1, h2, h3⟩
 obtain ⟨fa', fc', rfl⟩ := lastSlice h3
 rw [hc] at he h3
 exact ⟨i', fa', fc', he, h1, h2, h3⟩
end
set_option maxHeartbeats 2000000 in
theorem Clean_none {g : Gt} {key : Int} {m be : Nat} {t : HTree} {w : World} (hg : GOk g m w) (hT : Tree g w t) (hm : m + t.size + 300 < LIM) (hS : t.size < 900000) (hb : t.ann.1 = be) (hv : viol key [] t = none) :
 Calls Tryz.prog 142 #[gval g, ptr be, .int .i64 key] w (DoneR (CleanQ g (m + t.size + 300) be t.size t.er w)) := by
 have hV := violation_any (g := g) (key := key) (t0 := t) hg (by omega) (by omega) hT.1
 rw [hb, hv] at hV
 unfold ptr
 go_enter Tryz.func142, Tryz.ntmps142
 go_wp2_with fail
 refine wp_loop_rounds 1 ?_
 rw [rounds_succ]
 go_wp2_with fail
 refine hV.mono ?_
 rintro e w1 ⟨⟨v1, rfl⟩, hf1, hg1⟩
 have HE : Hid (CleanQ g (m + t.size + 300) be t.size t.er w w1) := ⟨t, hT.fr0 hf1, rfl, hb, TF.of hf1, hg1.mono (by omega), rfl⟩
 clear hV hf1 hg1
 go_wp2_with fail
 go_end0
 exact ⟨rfl, HE.out⟩
set_option maxHeartbeats 2000000 in
theorem del_none {g : Gt} {m be : Nat} {c : List HFr} {x : Nat × Nat} {d : It} {key : Int} {t : HTree} {w : World} (hg : GOk g m w) (hm : m + t.size + 300 < LIM) (hsz : t.size < 900000)
 (hTr : Tree g w t) (hroot0 : t.ann.1 = be) (hway : way key [] t = (c, .leaf x d)) (hback : plug c (.leaf x d) = t) (hk : hasK d key = false) :
 Calls Tryz.prog 103 #[gval g, ptr be, .int .i64 key] w (MapR g (m + t.size + 100) be t.er 0 false w) := by
 have hFind := Find_any (g := g) (n := m) (key := key) hg (by omega) hsz hTr.1
 rw [hway, hroot0] at hFind
 unfold ptr
 go_enter Tryz.func103, Tryz.ntmps103
 go_wp2_with fail
 refine wp_loop_rounds 1 ?_
 rw [rounds_succ]
 go_wp2_with fail
 refine hFind.mono ?_
 rintro e w1 ⟨rfl, f, hg'⟩
 have e0 : lastB c (.leaf x d) 0 = some ⟨x.1, 0, none⟩ := rfl
 obtain ⟨p1, hp1⟩ : ∃ q, lastB c (.leaf x d) 1 = q := ⟨_, rfl⟩
 obtain ⟨p2, hp2⟩ : ∃ q, lastB c (.leaf x d) 2 = q := ⟨_, rfl⟩
 rw [e0, hp1, hp2]
 clear e0 hp1 hp2 hFind
 have hT := hTr.fr0 f
 have hTX : HT g w1 (.leaf x d) := by have := hT.1; rw [← hback, HT_plug] at this; exact this.2
 obtain ⟨ix, rx⟩ := hTX.nd.rec
 have hhas := has_any key rx
 rw [show (T.leaf x d).it = d from rfl, hk, show (T.leaf x d).ann.1 = x.1 from rfl] at hhas
 have HFIN : Hid (MapR g (m + t.size + 100) be t.er 0 false w (.returned (.tuple #[.int .i64 0, .bool false])) w1) :=
  ⟨rfl, _, hT, rfl, hroot0, TF.of f, hg'.mono (by have := way_size key t []; rw [hway] at this; simp only [List.length_nil] at this; omega)⟩
 clear rx hT hTX f hg'
 go_wp2_with (go_at_call 137; refine hhas.mono ?_; rintro e w6 ⟨rfl, rfl⟩)
 go_ret2
 exact HFIN.out
set_option maxHeartbeats 8000000 in
theorem del_new_f {g : Gt} {m be : Nat} {fx : Nat × Nat} {fd : It} {sib : HTree} {u : HFr} {c : List HFr} {x : Nat × Nat} {d : It} {key : Int} {w : World} {E : T Unit} {k : Nat} (hg : GOk g m w)
 (hm : m + (plug (u :: c) (.node fx fd (.leaf x d) sib)).size + 1000 + ((plug (u :: c) (.node fx fd (.leaf x d) sib)).size + 2) * ((plug (u :: c) (.node fx fd (.leaf x d) sib)).size + 302) < LIM) (hsz : (plug (u :: c) (.node fx fd (.leaf x d) sib)).size < 790000)
 (hTr : Tree g w (plug (u :: c) (.node fx fd (.leaf x d) sib))) (hroot0 : (plug (u :: c) (.node fx fd (.leaf x d) sib)).ann.1 = be) (hway : way key [] (plug (u :: c) (.node fx fd (.leaf x d) sib)) = (⟨fx, fd, false, sib⟩ :: u :: c, .leaf x d)) (hk : hasK d key = true)
 (hi : fd.i = 0) (hv : sib.isLeaf = false → sib.it.v = 0) (hb1 : 0 ≤ fd.w ∧ fd.w ≤ 1000) (hb2 : 0 ≤ sib.it.w ∧ sib.it.w ≤ 1000) (hbe : u.x.1 ≠ be)
 (hmid : Mid key (erC (u :: c)) (setW (topW u.d (fd.w + sib.it.w)) sib.er)) (hE : clean key k (plug (erC (u :: c)) (setW (topW u.d (fd.w + sib.it.w)) sib.er)) = E) (hck : c.length < k) :
 Calls Tryz.prog 103 #[gval g, ptr be, .int .i64 key] w (MapR g (m + (plug (u :: c) (.node fx fd (.leaf x d) sib)).size + 100 + ((plug (u :: c) (.node fx fd (.leaf x d) sib)).size + 2) * ((plug (u :: c) (.node fx fd (.leaf x d) sib)).size + 302)) be E d.v true w) := by
 have hU := hTr.2
 have hT := hTr.1
 have hlo := hT.lt
 have hne1 : u.sib.ann.1 ≠ fx.1 := fun h => by
  have k := hU fx.1
  have k2 := cnt_ann_le fx.1 u.sib
  rw [h] at k2
  simp only [cnt_plug, cntC, cnt, one_self] at k k2
  omega
 have hne2 : (T.leaf x d).ann.1 ≠ sib.ann.1 := fun h => by
  have k := hU (T.leaf x d).ann.1
  have k1 := cnt_ann_le (T.leaf x d).ann.1 (T.leaf x d)
  have k2 := cnt_ann_le (T.leaf x d).ann.1 sib
  rw [← h] at k2
  simp only [cnt_plug, cntC, cnt, one_self, T.ann] at k k1 k2
  omega
 have HX := Lib.hid (And.intro hU (And.intro hlo (And.intro hne1 hne2)))
 clear hU hlo hne1 hne2 hTr
 have hFind := Find_any (g := g) (n := m) (key := key) hg (by omega) (by omega) hT
 rw [hway] at hFind
 rw [hroot0] at hFind
 have he : IsRec w be := hroot0 ▸ hT.isRec
 obtain ⟨sz, hsz0⟩ : ∃ q : Nat, (plug (u :: c) (T.node fx fd (T.leaf x d) sib)).size = q := ⟨_, rfl⟩
 rw [hsz0] at hm hsz ⊢
 have hwl := way_size key (plug (u :: c) (T.node fx fd (T.leaf x d) sib)) []
 rw [hway, hsz0] at hwl
 simp only [List.length_nil, List.length_cons] at hwl
 obtain ⟨ub, hub⟩ : ∃ q : Nat, u.x.1 = q := ⟨_, rfl⟩
 obtain ⟨pb, hpb⟩ : ∃ q : Nat, fx.1 = q := ⟨_, rfl⟩
 obtain ⟨xb, hxb⟩ : ∃ q : Nat, (T.leaf x d : HTree).ann.1 = q := ⟨_, rfl⟩
 obtain ⟨sb, hsb⟩ : ∃ q : Nat, sib.ann.1 = q := ⟨_, rfl⟩
 obtain ⟨so, hso⟩ : ∃ q : Int, (if u.s then (1 : Int) else 0) = q := ⟨_, rfl⟩
 have HSO := Lib.hid hso
 clear hso
 unfold ptr
 go_enter Tryz.func103, Tryz.ntmps103
 go_wp2_with fail
 refine wp_loop_rounds 1 ?_
 rw [rounds_succ]
 go_wp2_with fail
 refine hFind.mono ?_
 rintro e w1 ⟨rfl, f, hg'⟩
 have e0 : lastB (⟨fx, fd, false, sib⟩ :: u :: c) (.leaf x d) 0 = some ⟨(T.leaf x d : HTree).ann.1, 0, none⟩ := rfl
 have e1 : lastB (⟨fx, fd, false, sib⟩ :: u :: c) (.leaf x d) 1 = some ⟨fx.1, 0, none⟩ := rfl
 have e2 : lastB (⟨fx, fd, false, sib⟩ :: u :: c) (.leaf x d) 2 = some ⟨u.x.1, 0, none⟩ := rfl
 rw [e0, e1, e2, hub, hpb, hxb]
 clear e0 e1 e2 hFind
 replace hT := hT.fr0 f
 replace he := f.isRec _ he
 have hF0 := f
 replace hg := GOk.mono hg' (show _ ≤ m + sz by simp only [List.length_cons]; omega)
 clear f hg' hwl
 obtain ⟨ix, rx⟩ := (HTp.X hT).2.1.nd.rec
 have hhas := has_any key rx
 have hFw := Fr.alloc g No w1 (.cells #[gval g, .slice none 0 0, .slice none 0 0, .bool true] 218) hg
 have ht := TrySt.start hg
 have hgb := hg.alloc (.cells #[gval g, .slice none 0 0, .slice none 0 0, .bool true] 218)
 have hTB := fun b => try_blk (g := g) (w := w1) b
 rw [show (T.leaf x d).it = d from rfl, hk] at hhas
 rw [hxb] at hhas
 clear rx
 have HB := Lib.hid (And.intro hub (And.intro hpb (And.intro hxb hsb)))
 clear hub hpb hxb hsb
 have hgc := gval_cells g
 unfold Value.cells at hgc
 go_wp2_with (go_at_call 137; refine hhas.mono ?_; rintro e w6 ⟨rfl, rfl⟩)
 generalize hW : World.alloc w1 _ = W0 at *
 clear hW hgc hhas
 replace hT := hT.fr0 hFw
 replace he := hFw.isRec _ he
 replace hg := hgb
 clear hgb
 have hFT : FrT g w1.heap.size W0 W0 := by obtain ⟨cs, h⟩ := ht.at; exact FrT.of h (Fr.refl g No W0)
 refine (linkU_tr (a := fx.1) false hg (by omega) (by simp) ht (HTp.u hT) HB.out.1).mono ?_
 rintro e w2 ⟨i1, fa1, fc1, rfl, fT, hg', ht'⟩
 replace hT := hT.frT ht fT
 replace hFT := hFT.trans fT
 clear ht hg fT
 have ht := ht'
 have hg := hg'
 clear ht' hg'
 simp only [List.nil_append, List.cons_append, List.append_assoc] at ht
 obtain ⟨q0, q1, q2⟩ := bq hg
 obtain ⟨b12, hg', f⟩ := bn #[.pointer (some ⟨ub, 0, none⟩), .pointer (some ⟨i1, 0, none⟩), .slice fa1 2 fc1] ht hg
 replace hT := hT.fr0 f
 replace hFT := hFT.trans (ht.frT f)
 replace ht := ht.fr0 f
 replace hg := hg'; clear hg' f
 have z0 := b12.1.cell 0
 have z1 := b12.1.cell 1
 have z2 := b12.1.cell 2
 go_wp2_with fail
 clear z0 z1 z2
 clear q0 q1 q2
 generalize hW : World.alloc w2 _ = W1 at *
 clear hW
 refine (leadsU_tr (a := fx.1) (i := i1) (info := i1) (fin := false) hg ht (by simp) HX.out.2.2.1 (HTp.X hT).isRec (HTp.sib hT).isRec HB.out.1 HB.out.2.1).mono ?_
 rintro e w3 ⟨rfl, f, hg'⟩
 rw [HSO.out]
 replace hT := hT.fr0 f
 replace b12 := b12.fr (ht.frT f)
 replace hFT := hFT.trans (ht.frT f)
 replace ht := ht.fr0 f
 replace hg := hg'; clear hg' f
 go_wp2_with fail
 refine (link_tr (t := (T.node fx fd (T.leaf x d) sib)) true hg (by omega) (by simp) ht (HTp.X hT) HB.out.2.1).mono ?_
 rintro e w4 ⟨i3, fa3, fc3, rfl, fT, hg', ht'⟩
 replace hT := hT.frT ht fT
 replace b12 := b12.fr fT
 replace hFT := hFT.trans fT
 clear ht hg fT
 have ht := ht'
 have hg := hg'
 clear ht' hg'
 simp only [List.nil_append, List.cons_append, List.append_assoc] at ht
 simp only [kidsOf, List.length_cons, List.length_nil, Nat.zero_add, Nat.reduceAdd] at ht ⊢
 obtain ⟨q0, q1, q2⟩ := bq hg
 obtain ⟨b14, hg', f⟩ := bn #[.pointer (some ⟨pb, 0, none⟩), .pointer (some ⟨i3, 0, none⟩), .slice fa3 2 fc3] ht hg
 replace hT := hT.fr0 f
 replace b12 := b12.fr (ht.frT f)
 replace hFT := hFT.trans (ht.frT f)
 replace ht := ht.fr0 f
 replace hg := hg'; clear hg' f
 have z0 := b14.1.cell 0
 have z1 := b14.1.cell 1
 have z2 := b14.1.cell 2
 go_wp2_with fail
 clear z0 z1 z2
 clear q0 q1 q2
 generalize hW : World.alloc w4 _ = W2 at *
 clear hW
 have hX := HTp.X hT
 refine (leads_tr (x := fx) (d := fd) (l := (T.leaf x d)) (r := sib) (i := i3) (i0 := i3) (fin := true) false hg ht (by simp [kidsOf]) hX.2.1 hX.2.2 HX.out.2.2.2 HB.out.2.1 HB.out.2.2.1).mono ?_
 clear hX
 rintro e w5 ⟨rfl, f, hg'⟩
 replace hT := hT.fr0 f
 replace b12 := b12.fr (ht.frT f)
 replace b14 := b14.fr (ht.frT f)
 replace hFT := hFT.trans (ht.frT f)
 replace ht := ht.fr0 f
 replace hg := hg'; clear hg' f
 simp only [Bool.false_eq_true, if_false]
 have z0 := b14.1.cell 0
 have z1 := b14.1.cell 1
 have z2 := b14.1.cell 2
 go_wp2_with fail
 clear z0 z1 z2
 have hX := HTp.X hT
 refine (child_t (x := fx) (d := fd) (l := (T.leaf x d)) (r := sib) (t := (T.leaf x d)) (i := i3) (i0 := i3) (fin := true) false hg (by omega) (by simp) ht (by simp [kidsOf]) hX.2.1 rfl HB.out.2.1 rfl).mono ?_
 clear hX
 rintro e w6 ⟨i5, fa5, fc5, rfl, fT, hg', ht'⟩
 replace hT := hT.frT ht fT
 replace b12 := b12.fr fT
 replace b14 := b14.fr fT
 replace hFT := hFT.trans fT
 clear ht hg fT
 have ht := ht'
 have hg := hg'
 clear ht' hg'
 simp only [List.nil_append, List.cons_append, List.append_assoc] at ht
 simp only [kidsOf, List.length_nil] at ht ⊢
 unfold ptr
 rw [HB.out.2.2.1]
 obtain ⟨q0, q1, q2⟩ := bq hg
 obtain ⟨b16, hg', f⟩ := bn #[.pointer (some ⟨xb, 0, none⟩), .pointer (some ⟨i5, 0, none⟩), .slice fa5 0 fc5] ht hg
 replace hT := hT.fr0 f
 replace b12 := b12.fr (ht.frT f)
 replace b14 := b14.fr (ht.frT f)
 replace hFT := hFT.trans (ht.frT f)
 replace ht := ht.fr0 f
 replace hg := hg'; clear hg' f
 have z0 := b14.1.cell 0
 have z1 := b14.1.cell 1
 have z2 := b14.1.cell 2
 have z3 := b16.1.cell 0
 have z4 := b16.1.cell 1
 have z5 := b16.1.cell 2
 go_wp2_with fail
 clear z0 z1 z2 z3 z4 z5
 clear q0 q1 q2
 generalize hW : World.alloc w6 _ = W3 at *
 clear hW
 have hX := HTp.X hT
 refine (child_t (x := fx) (d := fd) (l := (T.leaf x d)) (r := sib) (t := sib) (i := i3) (i0 := i3) (fin := true) true hg (by omega) (by simp) ht (by simp [kidsOf]) hX.2.2 rfl HB.out.2.1 rfl).mono ?_
 clear hX
 rintro e w7 ⟨i6, fa6, fc6, rfl, fT, hg', ht'⟩
 replace hT := hT.frT ht fT
 replace b12 := b12.fr fT
 replace b14 := b14.fr fT
 replace b16 := b16.fr fT
 replace hFT := hFT.trans fT
 clear ht hg fT
 have ht := ht'
 have hg := hg'
 clear ht' hg'
 simp only [List.nil_append, List.cons_append, List.append_assoc] at ht
 unfold ptr
 rw [HB.out.2.2.2]
 obtain ⟨q0, q1, q2⟩ := bq hg
 obtain ⟨b17, hg', f⟩ := bn #[.pointer (some ⟨sb, 0, none⟩), .pointer (some ⟨i6, 0, none⟩), .slice fa6 (kidsOf sib).length fc6] ht hg
 replace hT := hT.fr0 f
 replace b12 := b12.fr (ht.frT f)
 replace b14 := b14.fr (ht.frT f)
 replace b16 := b16.fr (ht.frT f)
 replace hFT := hFT.trans (ht.frT f)
 replace ht := ht.fr0 f
 replace hg := hg'; clear hg' f
 have z0 := ht.okc
 have z1 := b16.1.cell 0
 have z2 := b16.1.cell 1
 have z3 := b16.1.cell 2
 have z4 := b17.1.cell 0
 have z5 := b17.1.cell 1
 have z6 := b17.1.cell 2
 have q3 := q0
 have q4 := q1
 have q5 := q2
 have q6 := box_free (cs := #[.pointer (some ⟨sb, 0, none⟩), .pointer (some ⟨i6, 0, none⟩), .slice fa6 (kidsOf sib).length fc6]) (T := 220) hg 0
 have q7 := box_free (cs := #[.pointer (some ⟨sb, 0, none⟩), .pointer (some ⟨i6, 0, none⟩), .slice fa6 (kidsOf sib).length fc6]) (T := 220) hg 1
 have q8 := box_free (cs := #[.pointer (some ⟨sb, 0, none⟩), .pointer (some ⟨i6, 0, none⟩), .slice fa6 (kidsOf sib).length fc6]) (T := 220) hg 2
 obtain ⟨q0, q1, q2⟩ := bq hg
 obtain ⟨b18, hg', f⟩ := bn #[.pointer (some ⟨sb, 0, none⟩), .pointer (some ⟨i6, 0, none⟩), .slice fa6 (kidsOf sib).length fc6] ht hg
 replace hT := hT.fr0 f
 replace b12 := b12.fr (ht.frT f)
 replace b14 := b14.fr (ht.frT f)
 replace b16 := b16.fr (ht.frT f)
 replace b17 := b17.fr (ht.frT f)
 replace hFT := hFT.trans (ht.frT f)
 replace ht := ht.fr0 f
 replace hg := hg'; clear hg' f
 simp only [World.size_alloc] at q0 q1 q2 q3 q4 q5 q6 q7 q8 b18
 have z7 := b18.1.cell 0
 have z8 := b18.1.cell 1
 have z9 := b18.1.cell 2
 go_wp2_with fail
 clear z0 z1 z2 z3 z4 z5 z6 z7 z8 z9
 clear q0 q1 q2 q3 q4 q5 q6 q7 q8
 generalize hW : World.alloc (World.alloc w7 _) _ = W4 at *
 clear hW
 obtain ⟨ip, rp⟩ := (HTp.X hT).nd.rec
 rw [show (T.node fx fd (T.leaf x d) sib).ann.1 = pb from HB.out.2.1] at rp
 obtain ⟨pw, hpw⟩ : ∃ q : Int, fd.w = q := ⟨_, rfl⟩
 obtain ⟨sw, hsw⟩ : ∃ q : Int, sib.it.w = q := ⟨_, rfl⟩
 have HE0 := Lib.hid (And.intro hmid (And.intro hE hck))
 clear hmid hE hck
 have hLf := left_new (g := g) (sb := sb) (i' := i6) (i0 := i6) (fin := true) (fa := fa6) (fc := fc6) (t := sib) (u := u) (a := fx.1) (pw := pw) (sw := sw) hg rp hi hpw ht (by simp) (HTp.X hT).2.2 hv HB.out.2.2.2 hsw (by omega) (by omega) (HTp.u hT) (hFT.fr.isRec _ he) hbe HB.out.1
 unfold ptr at hLf
 refine hLf.mono ?_
 rintro e w8 hNew
 clear hLf rp
 obtain ⟨y, rfl, n1, n2, n3, f, hg', hN⟩ := hNew
 have hsz8 := Nat.le_trans hF0.size (Nat.le_trans hFw.size hFT.fr.size)
 have hFr := (Fresh.start w.heap.size).new hsz8 n1 n2 n3 hN (ann_reW _ _ _) (Nat.le_refl _)
 clear n1 n2 n3 hsz8
 replace hT := hT.fr0 f
 replace b12 := b12.fr (ht.frT f)
 replace b14 := b14.fr (ht.frT f)
 replace b16 := b16.fr (ht.frT f)
 replace b17 := b17.fr (ht.frT f)
 replace b18 := b18.fr (ht.frT f)
 replace hFT := hFT.trans (ht.frT f)
 replace ht := ht.fr0 f
 replace hg := hg'; clear hg' f
 unfold ptr
 go_wp2_with fail
 have hnd : (([u.x.1, fx.1, (T.leaf x d).ann.1, sib.ann.1] : List Nat)).Nodup := nd_count fun a => by
  have k := HX.out.1 a
  have k0 := cnt_ann_le a sib
  simp only [cnt_plug, cntC, cnt, T.ann, List.map_cons, List.map_nil, List.sum_cons, List.sum_nil] at k k0 ⊢
  omega
 rw [← HSO.out]
 refine (swap_t (u := u) (a := fx.1) (info := i1) (fa := fa1) (fc := fc1) hg (by simp only [List.length_cons, List.length_nil]; omega) (by simp) rfl ht hnd (by have h := hN.isRec; rw [ann_reW] at h; exact h)).mono ?_
 rintro e wz ⟨rfl, f, hg', hnd2⟩
 rw [HSO.out]
 have hfin := swap_tree (u := u) (c := c) (lo := w.heap.size) (P := fun a => cnt a sib - one a sib.ann.1 - one a sib.ann.2) (R := fun a => one a fx.1 + one a fx.2 + one a x.1 + one a x.2 + one a sib.ann.1 + one a sib.ann.2) ⟨hT, HX.out.1⟩ HX.out.2.1 hN (fun a => by
  have k0 := cnt_ann_le a sib
  have k1 := cnt_reW a y (topW u.d (pw + sw)) sib
  omega) (fun a => by
  have k0 := cnt_ann_le a sib
  simp only [cnt]
  omega) (fun q hq => by
  simp only [List.mem_cons, List.not_mem_nil, or_false] at hq
  rcases hq with rfl | rfl | rfl <;> simp only [T.ann, one_self] <;> omega) hFr.1 (fun a ha => (hFr.2 a ha).1) (fun q hq => ht.vok hq) rfl rfl rfl rfl f (by rw [ann_reW]; exact hnd2)
 obtain ⟨hTree, hTF⟩ := hfin
 obtain ⟨ix2, rx2⟩ := (HTp.X hT).2.1.nd.rec
 have hval := rx2
 rw [HB.out.2.2.1, show (T.leaf x d).it = d from rfl] at hval
 have hTF0 : TF g w wz := by
  refine TF.trans (TF.of ((hF0.tr hFw).trans hFT.fr (fun _ _ h => h) (fun b hb h => ?_))) hTF
  have := hTB b h
  have := hF0.size
  omega
 replace he := hTF.isRec _ (hFT.fr.isRec _ he)
 have hann : (plug (u :: c) (reW y (topW u.d (pw + sw)) sib)).ann.1 = be := by rw [plug_ann u c _ (T.node fx fd (T.leaf x d) sib)]; exact hroot0
 have hszN := size_plug_add (u :: c) (reW y (topW u.d (pw + sw)) sib) (T.node fx fd (T.leaf x d) sib)
 rw [size_reW, hsz0] at hszN
 simp only [T.size] at hszN
 have hpos := sib.size_pos
 have hl2 := size_plug (u :: c) (T.node fx fd (T.leaf x d) sib)
 rw [hsz0] at hl2
 simp only [List.length_cons, T.size] at hl2
 obtain ⟨SN, hSN⟩ : ∃ q : Nat, (plug (u :: c) (reW y (topW u.d (pw + sw)) sib)).size = q := ⟨_, rfl⟩
 rw [hSN] at hszN
 have hmul : (c.length + 1) * (SN + 300) ≤ (sz + 2) * (sz + 302) := Nat.mul_le_mul (by omega) (by omega)
 have hCl := Clean_any (g := g) (key := key) (m := m + sz + 100) (be := be) (S := SN) (L0 := c.length) (E := E) (w := wz)
  ⟨u, c, reW y (topW u.d (pw + sw)) sib, k, hTree, hann, by rw [er_reW, ← hpw, ← hsw]; exact HE0.out.1, by rw [er_reW, ← hpw, ← hsw]; exact HE0.out.2.1, HE0.out.2.2, Fr.refl _ _ _, by rw [Nat.sub_self, Nat.zero_mul]; exact hg'.mono (by simp only [List.length_cons, List.length_nil]; omega), rfl, Nat.le_refl _, hSN⟩
  (by omega) (by omega) (by omega) he
 unfold ptr at hCl
 have HF : Hid (Fr g _ w8 wz ∧ TF g w wz ∧ Cl g w8 xb _ 209) := ⟨f, hTF0, hval⟩
 have HM := Lib.hid hmul
 clear hTree hTF hTF0 hg' f hnd2 hnd hval rx2 hT hN he hann ht hFr hFT hFw hF0 hmul hszN hSN hl2
 go_wp2_with fail
 refine hCl.mono ?_
 rintro e wq ⟨rfl, M, z1, z2, z3, z4, z5, z6⟩
 have c3 := val_cell ((HF.out.1.mono (T := fun _ => True) (fun _ _ _ => trivial)).trans z4 (T := fun _ => True) (fun _ _ _ => trivial) (fun _ _ _ => trivial)) HF.out.2.2
 have HFIN : Hid (MapR g (m + sz + 100 + (sz + 2) * (sz + 302)) be E d.v true w (.returned (.tuple #[.int .i64 d.v, .bool true])) wq) :=
  ⟨rfl, M, z1, z2, z3, HF.out.2.1.trans z4, z5.mono (by have := HM.out; omega)⟩
 clear z1 z2 z3 z4 z5 z6 hCl
 go_wp2_with fail
 go_ret2
 exact HFIN.out
set_option maxHeartbeats 8000000 in
theorem del_new_t {g : Gt} {m be : Nat} {fx : Nat × Nat} {fd : It} {sib : HTree} {u : HFr} {c : List HFr} {x : Nat × Nat} {d : It} {key : Int} {w : World} {E : T Unit} {k : Nat} (hg : GOk g m w)
 (hm : m + (plug (u :: c) (.node fx fd sib (.leaf x d))).size + 1000 + ((plug (u :: c) (.node fx fd sib (.leaf x d))).size + 2) * ((plug (u :: c) (.node fx fd sib (.leaf x d))).size + 302) < LIM) (hsz : (plug (u :: c) (.node fx fd sib (.leaf x d))).size < 790000)
 (hTr : Tree g w (plug (u :: c) (.node fx fd sib (.leaf x d)))) (hroot0 : (plug (u :: c) (.node fx fd sib (.leaf x d))).ann.1 = be) (hway : way key [] (plug (u :: c) (.node fx fd sib (.leaf x d))) = (⟨fx, fd, true, sib⟩ :: u :: c, .leaf x d)) (hk : hasK d key = true)
 (hi : fd.i = 0) (hv : sib.isLeaf = false → sib.it.v = 0) (hb1 : 0 ≤ fd.w ∧ fd.w ≤ 1000) (hb2 : 0 ≤ sib.it.w ∧ sib.it.w ≤ 1000) (hbe : u.x.1 ≠ be)
 (hmid : Mid key (erC (u :: c)) (setW (topW u.d (fd.w + sib.it.w)) sib.er)) (hE : clean key k (plug (erC (u :: c)) (setW (topW u.d (fd.w + sib.it.w)) sib.er)) = E) (hck : c.length < k) :
 Calls Tryz.prog 103 #[gval g, ptr be, .int .i64 key] w (MapR g (m + (plug (u :: c) (.node fx fd sib (.leaf x d))).size + 100 + ((plug (u :: c) (.node fx fd sib (.leaf x d))).size + 2) * ((plug (u :: c) (.node fx fd sib (.leaf x d))).size + 302)) be E d.v true w) := by
 have hU := hTr.2
 have hT := hTr.1
 have hlo := hT.lt
 have hne1 : u.sib.ann.1 ≠ fx.1 := fun h => by
  have k := hU fx.1
  have k2 := cnt_ann_le fx.1 u.sib
  rw [h] at k2
  simp only [cnt_plug, cntC, cnt, one_self] at k k2
  omega
 have hne2 : sib.ann.1 ≠ (T.leaf x d).ann.1 := fun h => by
  have k := hU sib.ann.1
  have k1 := cnt_ann_le sib.ann.1 sib
  have k2 := cnt_ann_le sib.ann.1 (T.leaf x d)
  rw [← h] at k2
  simp only [cnt_plug, cntC, cnt, one_self, T.ann] at k k1 k2
  omega
 have HX := Lib.hid (And.intro hU (And.intro hlo (And.intro hne1 hne2)))
 clear hU hlo hne1 hne2 hTr
 have hFind := Find_any (g := g) (n := m) (key := key) hg (by omega) (by omega) hT
 rw [hway] at hFind
 rw [hroot0] at hFind
 have he : IsRec w be := hroot0 ▸ hT.isRec
 obtain ⟨sz, hsz0⟩ : ∃ q : Nat, (plug (u :: c) (T.node fx fd sib (T.leaf x d))).size = q := ⟨_, rfl⟩
 rw [hsz0] at hm hsz ⊢
 have hwl := way_size key (plug (u :: c) (T.node fx fd sib (T.leaf x d))) []
 rw [hway, hsz0] at hwl
 simp only [List.length_nil, List.length_cons] at hwl
 obtain ⟨ub, hub⟩ : ∃ q : Nat, u.x.1 = q := ⟨_, rfl⟩
 obtain ⟨pb, hpb⟩ : ∃ q : Nat, fx.1 = q := ⟨_, rfl⟩
 obtain ⟨xb, hxb⟩ : ∃ q : Nat, (T.leaf x d : HTree).ann.1 = q := ⟨_, rfl⟩
 obtain ⟨sb, hsb⟩ : ∃ q : Nat, sib.ann.1 = q := ⟨_, rfl⟩
 obtain ⟨so, hso⟩ : ∃ q : Int, (if u.s then (1 : Int) else 0) = q := ⟨_, rfl⟩
 have HSO := Lib.hid hso
 clear hso
 unfold ptr
 go_enter Tryz.func103, Tryz.ntmps103
 go_wp2_with fail
 refine wp_loop_rounds 1 ?_
 rw [rounds_succ]
 go_wp2_with fail
 refine hFind.mono ?_
 rintro e w1 ⟨rfl, f, hg'⟩
 have e0 : lastB (⟨fx, fd, true, sib⟩ :: u :: c) (.leaf x d) 0 = some ⟨(T.leaf x d : HTree).ann.1, 0, none⟩ := rfl
 have e1 : lastB (⟨fx, fd, true, sib⟩ :: u :: c) (.leaf x d) 1 = some ⟨fx.1, 0, none⟩ := rfl
 have e2 : lastB (⟨fx, fd, true, sib⟩ :: u :: c) (.leaf x d) 2 = some ⟨u.x.1, 0, none⟩ := rfl
 rw [e0, e1, e2, hub, hpb, hxb]
 clear e0 e1 e2 hFind
 replace hT := hT.fr0 f
 replace he := f.isRec _ he
 have hF0 := f
 replace hg := GOk.mono hg' (show _ ≤ m + sz by simp only [List.length_cons]; omega)
 clear f hg' hwl
 obtain ⟨ix, rx⟩ := (HTp.X hT).2.2.nd.rec
 have hhas := has_any key rx
 have hFw := Fr.alloc g No w1 (.cells #[gval g, .slice none 0 0, .slice none 0 0, .bool true] 218) hg
 have ht := TrySt.start hg
 have hgb := hg.alloc (.cells #[gval g, .slice none 0 0, .slice none 0 0, .bool true] 218)
 have hTB := fun b => try_blk (g := g) (w := w1) b
 rw [show (T.leaf x d).it = d from rfl, hk] at hhas
 rw [hxb] at hhas
 clear rx
 have HB := Lib.hid (And.intro hub (And.intro hpb (And.intro hxb hsb)))
 clear hub hpb hxb hsb
 have hgc := gval_cells g
 unfold Value.cells at hgc
 go_wp2_with (go_at_call 137; refine hhas.mono ?_; rintro e w6 ⟨rfl, rfl⟩)
 generalize hW : World.alloc w1 _ = W0 at *
 clear hW hgc hhas
 replace hT := hT.fr0 hFw
 replace he := hFw.isRec _ he
 replace hg := hgb
 clear hgb
 have hFT : FrT g w1.heap.size W0 W0 := by obtain ⟨cs, h⟩ := ht.at; exact FrT.of h (Fr.refl g No W0)
 refine (linkU_tr (a := fx.1) false hg (by omega) (by simp) ht (HTp.u hT) HB.out.1).mono ?_
 rintro e w2 ⟨i1, fa1, fc1, rfl, fT, hg', ht'⟩
 replace hT := hT.frT ht fT
 replace hFT := hFT.trans fT
 clear ht hg fT
 have ht := ht'
 have hg := hg'
 clear ht' hg'
 simp only [List.nil_append, List.cons_append, List.append_assoc] at ht
 obtain ⟨q0, q1, q2⟩ := bq hg
 obtain ⟨b12, hg', f⟩ := bn #[.pointer (some ⟨ub, 0, none⟩), .pointer (some ⟨i1, 0, none⟩), .slice fa1 2 fc1] ht hg
 replace hT := hT.fr0 f
 replace hFT := hFT.trans (ht.frT f)
 replace ht := ht.fr0 f
 replace hg := hg'; clear hg' f
 have z0 := b12.1.cell 0
 have z1 := b12.1.cell 1
 have z2 := b12.1.cell 2
 go_wp2_with fail
 clear z0 z1 z2
 clear q0 q1 q2
 generalize hW : World.alloc w2 _ = W1 at *
 clear hW
 refine (leadsU_tr (a := fx.1) (i := i1) (info := i1) (fin := false) hg ht (by simp) HX.out.2.2.1 (HTp.X hT).isRec (HTp.sib hT).isRec HB.out.1 HB.out.2.1).mono ?_
 rintro e w3 ⟨rfl, f, hg'⟩
 rw [HSO.out]
 replace hT := hT.fr0 f
 replace b12 := b12.fr (ht.frT f)
 replace hFT := hFT.trans (ht.frT f)
 replace ht := ht.fr0 f
 replace hg := hg'; clear hg' f
 go_wp2_with fail
 refine (link_tr (t := (T.node fx fd sib (T.leaf x d))) true hg (by omega) (by simp) ht (HTp.X hT) HB.out.2.1).mono ?_
 rintro e w4 ⟨i3, fa3, fc3, rfl, fT, hg', ht'⟩
 replace hT := hT.frT ht fT
 replace b12 := b12.fr fT
 replace hFT := hFT.trans fT
 clear ht hg fT
 have ht := ht'
 have hg := hg'
 clear ht' hg'
 simp only [List.nil_append, List.cons_append, List.append_assoc] at ht
 simp only [kidsOf, List.length_cons, List.length_nil, Nat.zero_add, Nat.reduceAdd] at ht ⊢
 obtain ⟨q0, q1, q2⟩ := bq hg
 obtain ⟨b14, hg', f⟩ := bn #[.pointer (some ⟨pb, 0, none⟩), .pointer (some ⟨i3, 0, none⟩), .slice fa3 2 fc3] ht hg
 replace hT := hT.fr0 f
 replace b12 := b12.fr (ht.frT f)
 replace hFT := hFT.trans (ht.frT f)
 replace ht := ht.fr0 f
 replace hg := hg'; clear hg' f
 have z0 := b14.1.cell 0
 have z1 := b14.1.cell 1
 have z2 := b14.1.cell 2
 go_wp2_with fail
 clear z0 z1 z2
 clear q0 q1 q2
 generalize hW : World.alloc w4 _ = W2 at *
 clear hW
 have hX := HTp.X hT
 refine (leads_tr (x := fx) (d := fd) (l := sib) (r := (T.leaf x d)) (i := i3) (i0 := i3) (fin := true) true hg ht (by simp [kidsOf]) hX.2.1 hX.2.2 HX.out.2.2.2 HB.out.2.1 HB.out.2.2.1).mono ?_
 clear hX
 rintro e w5 ⟨rfl, f, hg'⟩
 replace hT := hT.fr0 f
 replace b12 := b12.fr (ht.frT f)
 replace b14 := b14.fr (ht.frT f)
 replace hFT := hFT.trans (ht.frT f)
 replace ht := ht.fr0 f
 replace hg := hg'; clear hg' f
 simp only [if_true]
 have z0 := b14.1.cell 0
 have z1 := b14.1.cell 1
 have z2 := b14.1.cell 2
 go_wp2_with fail
 clear z0 z1 z2
 have hX := HTp.X hT
 refine (child_t (x := fx) (d := fd) (l := sib) (r := (T.leaf x d)) (t := sib) (i := i3) (i0 := i3) (fin := true) false hg (by omega) (by simp) ht (by simp [kidsOf]) hX.2.1 rfl HB.out.2.1 rfl).mono ?_
 clear hX
 rintro e w6 ⟨i5, fa5, fc5, rfl, fT, hg', ht'⟩
 replace hT := hT.frT ht fT
 replace b12 := b12.fr fT
 replace b14 := b14.fr fT
 replace hFT := hFT.trans fT
 clear ht hg fT
 have ht := ht'
 have hg := hg'
 clear ht' hg'
 simp only [List.nil_append, List.cons_append, List.append_assoc] at ht
 unfold ptr
 rw [HB.out.2.2.2]
 obtain ⟨q0, q1, q2⟩ := bq hg
 obtain ⟨b16, hg', f⟩ := bn #[.pointer (some ⟨sb, 0, none⟩), .pointer (some ⟨i5, 0, none⟩), .slice fa5 (kidsOf sib).length fc5] ht hg
 replace hT := hT.fr0 f
 replace b12 := b12.fr (ht.frT f)
 replace b14 := b14.fr (ht.frT f)
 replace hFT := hFT.trans (ht.frT f)
 replace ht := ht.fr0 f
 replace hg := hg'; clear hg' f
 have z0 := b14.1.cell 0
 have z1 := b14.1.cell 1
 have z2 := b14.1.cell 2
 have z3 := b16.1.cell 0
 have z4 := b16.1.cell 1
 have z5 := b16.1.cell 2
 go_wp2_with fail
 clear z0 z1 z2 z3 z4 z5
 clear q0 q1 q2
 generalize hW : World.alloc w6 _ = W3 at *
 clear hW
 have hX := HTp.X hT
 refine (child_t (x := fx) (d := fd) (l := sib) (r := (T.leaf x d)) (t := (T.leaf x d)) (i := i3) (i0 := i3) (fin := true) true hg (by omega) (by simp) ht (by simp [kidsOf]) hX.2.2 rfl HB.out.2.1 rfl).mono ?_
 clear hX
 rintro e w7 ⟨i6, fa6, fc6, rfl, fT, hg', ht'⟩
 replace hT := hT.frT ht fT
 replace b12 := b12.fr fT
 replace b14 := b14.fr fT
 replace b16 := b16.fr fT
 replace hFT := hFT.trans fT
 clear ht hg fT
 have ht := ht'
 have hg := hg'
 clear ht' hg'
 simp only [List.nil_append, List.cons_append, List.append_assoc] at ht
 simp only [kidsOf_leaf, List.length_nil] at ht ⊢
 unfold ptr
 rw [HB.out.2.2.1]
 obtain ⟨q0, q1, q2⟩ := bq hg
 obtain ⟨b17, hg', f⟩ := bn #[.pointer (some ⟨xb, 0, none⟩), .pointer (some ⟨i6, 0, none⟩), .slice fa6 0 fc6] ht hg
 replace hT := hT.fr0 f
 replace b12 := b12.fr (ht.frT f)
 replace b14 := b14.fr (ht.frT f)
 replace b16 := b16.fr (ht.frT f)
 replace hFT := hFT.trans (ht.frT f)
 replace ht := ht.fr0 f
 replace hg := hg'; clear hg' f
 have z0 := ht.okc
 have z1 := b16.1.cell 0
 have z2 := b16.1.cell 1
 have z3 := b16.1.cell 2
 have z4 := b17.1.cell 0
 have z5 := b17.1.cell 1
 have z6 := b17.1.cell 2
 have q3 := q0
 have q4 := q1
 have q5 := q2
 have q6 := box_free (cs := #[.pointer (some ⟨xb, 0, none⟩), .pointer (some ⟨i6, 0, none⟩), .slice fa6 0 fc6]) (T := 220) hg 0
 have q7 := box_free (cs := #[.pointer (some ⟨xb, 0, none⟩), .pointer (some ⟨i6, 0, none⟩), .slice fa6 0 fc6]) (T := 220) hg 1
 have q8 := box_free (cs := #[.pointer (some ⟨xb, 0, none⟩), .pointer (some ⟨i6, 0, none⟩), .slice fa6 0 fc6]) (T := 220) hg 2
 have y0 := (b16.fr (ht.frT (Fr.alloc g No _ (.cells #[.pointer (some ⟨xb, 0, none⟩), .pointer (some ⟨i6, 0, none⟩), .slice fa6 0 fc6] 220) hg))).1.cell 0
 have y1 := (b16.fr (ht.frT (Fr.alloc g No _ (.cells #[.pointer (some ⟨xb, 0, none⟩), .pointer (some ⟨i6, 0, none⟩), .slice fa6 0 fc6] 220) hg))).1.cell 1
 have y2 := (b16.fr (ht.frT (Fr.alloc g No _ (.cells #[.pointer (some ⟨xb, 0, none⟩), .pointer (some ⟨i6, 0, none⟩), .slice fa6 0 fc6] 220) hg))).1.cell 2
 obtain ⟨q0, q1, q2⟩ := bq hg
 obtain ⟨b18, hg', f⟩ := bn #[.pointer (some ⟨sb, 0, none⟩), .pointer (some ⟨i5, 0, none⟩), .slice fa5 (kidsOf sib).length fc5] ht hg
 replace hT := hT.fr0 f
 replace b12 := b12.fr (ht.frT f)
 replace b14 := b14.fr (ht.frT f)
 replace b16 := b16.fr (ht.frT f)
 replace b17 := b17.fr (ht.frT f)
 replace hFT := hFT.trans (ht.frT f)
 replace ht := ht.fr0 f
 replace hg := hg'; clear hg' f
 simp only [World.size_alloc] at q0 q1 q2 q3 q4 q5 q6 q7 q8 b18
 have z10 := b18.1.cell 0
 have z11 := b18.1.cell 1
 have z12 := b18.1.cell 2
 go_wp2_with fail
 clear z0 z1 z2 z3 z4 z5 z6 y0 y1 y2 z10 z11 z12
 clear q0 q1 q2 q3 q4 q5 q6 q7 q8
 generalize hW : World.alloc (World.alloc w7 _) _ = W4 at *
 clear hW
 obtain ⟨ip, rp⟩ := (HTp.X hT).nd.rec
 rw [show (T.node fx fd sib (T.leaf x d)).ann.1 = pb from HB.out.2.1] at rp
 obtain ⟨pw, hpw⟩ : ∃ q : Int, fd.w = q := ⟨_, rfl⟩
 obtain ⟨sw, hsw⟩ : ∃ q : Int, sib.it.w = q := ⟨_, rfl⟩
 have HE0 := Lib.hid (And.intro hmid (And.intro hE hck))
 clear hmid hE hck
 have hLf := left_new (g := g) (sb := sb) (i' := i5) (i0 := i5) (fin := true) (fa := fa5) (fc := fc5) (t := sib) (u := u) (a := fx.1) (pw := pw) (sw := sw) hg rp hi hpw ht (by simp) (HTp.X hT).2.1 hv HB.out.2.2.2 hsw (by omega) (by omega) (HTp.u hT) (hFT.fr.isRec _ he) hbe HB.out.1
 unfold ptr at hLf
 refine hLf.mono ?_
 rintro e w8 hNew
 clear hLf rp
 obtain ⟨y, rfl, n1, n2, n3, f, hg', hN⟩ := hNew
 have hsz8 := Nat.le_trans hF0.size (Nat.le_trans hFw.size hFT.fr.size)
 have hFr := (Fresh.start w.heap.size).new hsz8 n1 n2 n3 hN (ann_reW _ _ _) (Nat.le_refl _)
 clear n1 n2 n3 hsz8
 replace hT := hT.fr0 f
 replace b12 := b12.fr (ht.frT f)
 replace b14 := b14.fr (ht.frT f)
 replace b16 := b16.fr (ht.frT f)
 replace b17 := b17.fr (ht.frT f)
 replace b18 := b18.fr (ht.frT f)
 replace hFT := hFT.trans (ht.frT f)
 replace ht := ht.fr0 f
 replace hg := hg'; clear hg' f
 unfold ptr
 go_wp2_with fail
 have hnd : (([u.x.1, fx.1, sib.ann.1, (T.leaf x d).ann.1] : List Nat)).Nodup := nd_count fun a => by
  have k := HX.out.1 a
  have k0 := cnt_ann_le a sib
  simp only [cnt_plug, cntC, cnt, T.ann, List.map_cons, List.map_nil, List.sum_cons, List.sum_nil] at k k0 ⊢
  omega
 rw [← HSO.out]
 refine (swap_t (u := u) (a := fx.1) (info := i1) (fa := fa1) (fc := fc1) hg (by simp only [List.length_cons, List.length_nil]; omega) (by simp) rfl ht hnd (by have h := hN.isRec; rw [ann_reW] at h; exact h)).mono ?_
 rintro e wz ⟨rfl, f, hg', hnd2⟩
 rw [HSO.out]
 have hfin := swap_tree (u := u) (c := c) (lo := w.heap.size) (P := fun a => cnt a sib - one a sib.ann.1 - one a sib.ann.2) (R := fun a => one a fx.1 + one a fx.2 + one a x.1 + one a x.2 + one a sib.ann.1 + one a sib.ann.2) ⟨hT, HX.out.1⟩ HX.out.2.1 hN (fun a => by
  have k0 := cnt_ann_le a sib
  have k1 := cnt_reW a y (topW u.d (pw + sw)) sib
  omega) (fun a => by
  have k0 := cnt_ann_le a sib
  simp only [cnt]
  omega) (fun q hq => by
  simp only [List.mem_cons, List.not_mem_nil, or_false] at hq
  rcases hq with rfl | rfl | rfl <;> simp only [T.ann, one_self] <;> omega) hFr.1 (fun a ha => (hFr.2 a ha).1) (fun q hq => ht.vok hq) rfl rfl rfl rfl f (by rw [ann_reW]; exact hnd2)
 obtain ⟨hTree, hTF⟩ := hfin
 obtain ⟨ix2, rx2⟩ := (HTp.X hT).2.2.nd.rec
 have hval := rx2
 rw [HB.out.2.2.1, show (T.leaf x d).it = d from rfl] at hval
 have hTF0 : TF g w wz := by
  refine TF.trans (TF.of ((hF0.tr hFw).trans hFT.fr (fun _ _ h => h) (fun b hb h => ?_))) hTF
  have := hTB b h
  have := hF0.size
  omega
 replace he := hTF.isRec _ (hFT.fr.isRec _ he)
 have hann : (plug (u :: c) (reW y (topW u.d (pw + sw)) sib)).ann.1 = be := by rw [plug_ann u c _ (T.node fx fd sib (T.leaf x d))]; exact hroot0
 have hszN := size_plug_add (u :: c) (reW y (topW u.d (pw + sw)) sib) (T.node fx fd sib (T.leaf x d))
 rw [size_reW, hsz0] at hszN
 simp only [T.size] at hszN
 have hpos := sib.size_pos
 have hl2 := size_plug (u :: c) (T.node fx fd sib (T.leaf x d))
 rw [hsz0] at hl2
 simp only [List.length_cons, T.size] at hl2
 obtain ⟨SN, hSN⟩ : ∃ q : Nat, (plug (u :: c) (reW y (topW u.d (pw + sw)) sib)).size = q := ⟨_, rfl⟩
 rw [hSN] at hszN
 have hmul : (c.length + 1) * (SN + 300) ≤ (sz + 2) * (sz + 302) := Nat.mul_le_mul (by omega) (by omega)
 have hCl := Clean_any (g := g) (key := key) (m := m + sz + 100) (be := be) (S := SN) (L0 := c.length) (E := E) (w := wz)
  ⟨u, c, reW y (topW u.d (pw + sw)) sib, k, hTree, hann, by rw [er_reW, ← hpw, ← hsw]; exact HE0.out.1, by rw [er_reW, ← hpw, ← hsw]; exact HE0.out.2.1, HE0.out.2.2, Fr.refl _ _ _, by rw [Nat.sub_self, Nat.zero_mul]; exact hg'.mono (by simp only [List.length_cons, List.length_nil]; omega), rfl, Nat.le_refl _, hSN⟩
  (by omega) (by omega) (by omega) he
 unfold ptr at hCl
 have HF : Hid (Fr g _ w8 wz ∧ TF g w wz ∧ Cl g w8 xb _ 209) := ⟨f, hTF0, hval⟩
 have HM := Lib.hid hmul
 clear hTree hTF hTF0 hg' f hnd2 hnd hval rx2 hT hN he hann ht hFr hFT hFw hF0 hmul hszN hSN hl2
 go_wp2_with fail
 refine hCl.mono ?_
 rintro e wq ⟨rfl, M, z1, z2, z3, z4, z5, z6⟩
 have c3 := val_cell ((HF.out.1.mono (T := fun _ => True) (fun _ _ _ => trivial)).trans z4 (T := fun _ => True) (fun _ _ _ => trivial) (fun _ _ _ => trivial)) HF.out.2.2
 have HFIN : Hid (MapR g (m + sz + 100 + (sz + 2) * (sz + 302)) be E d.v true w (.returned (.tuple #[.int .i64 d.v, .bool true])) wq) :=
  ⟨rfl, M, z1, z2, z3, HF.out.2.1.trans z4, z5.mono (by have := HM.out; omega)⟩
 clear z1 z2 z3 z4 z5 z6 hCl
 go_wp2_with fail
 go_ret2
 exact HFIN.out
set_option maxHeartbeats 8000000 in
theorem del_crown {g : Gt} {m be : Nat} {fx : Nat × Nat} {fd : It} {sib : HTree} {u : HFr} {c : List HFr} {x : Nat × Nat} {d : It} {key : Int} {w : World} (hg : GOk g m w)
 (hm : m + (plug (u :: c) (.node fx fd (.leaf x d) sib)).size + 1000 + ((plug (u :: c) (.node fx fd (.leaf x d) sib)).size + 2) * ((plug (u :: c) (.node fx fd (.leaf x d) sib)).size + 302) < LIM) (hsz : (plug (u :: c) (.node fx fd (.leaf x d) sib)).size < 790000)
 (hTr : Tree g w (plug (u :: c) (.node fx fd (.leaf x d) sib))) (hroot0 : (plug (u :: c) (.node fx fd (.leaf x d) sib)).ann.1 = be) (hway : way key [] (plug (u :: c) (.node fx fd (.leaf x d) sib)) = (⟨fx, fd, false, sib⟩ :: u :: c, .leaf x d)) (hk : hasK d key = true)
 (hi : fd.i = 1) (hvn : ∀ N : HTree, N.er = .leaf () cr → viol key [] (plug (u :: c) N) = none) :
 Calls Tryz.prog 103 #[gval g, ptr be, .int .i64 key] w (MapR g (m + (plug (u :: c) (.node fx fd (.leaf x d) sib)).size + 100 + ((plug (u :: c) (.node fx fd (.leaf x d) sib)).size + 2) * ((plug (u :: c) (.node fx fd (.leaf x d) sib)).size + 302)) be (plug (erC (u :: c)) (.leaf () cr)) d.v true w) := by
 have hU := hTr.2
 have hT := hTr.1
 have hlo := hT.lt
 have hne1 : u.sib.ann.1 ≠ fx.1 := fun h => by
  have k := hU fx.1
  have k2 := cnt_ann_le fx.1 u.sib
  rw [h] at k2
  simp only [cnt_plug, cntC, cnt, one_self] at k k2
  omega
 have hne2 : (T.leaf x d).ann.1 ≠ sib.ann.1 := fun h => by
  have k := hU (T.leaf x d).ann.1
  have k1 := cnt_ann_le (T.leaf x d).ann.1 (T.leaf x d)
  have k2 := cnt_ann_le (T.leaf x d).ann.1 sib
  rw [← h] at k2
  simp only [cnt_plug, cntC, cnt, one_self, T.ann] at k k1 k2
  omega
 have HX := Lib.hid (And.intro hU (And.intro hlo (And.intro hne1 hne2)))
 clear hU hlo hne1 hne2 hTr
 have hFind := Find_any (g := g) (n := m) (key := key) hg (by omega) (by omega) hT
 rw [hway] at hFind
 rw [hroot0] at hFind
 have he : IsRec w be := hroot0 ▸ hT.isRec
 obtain ⟨sz, hsz0⟩ : ∃ q : Nat, (plug (u :: c) (T.node fx fd (T.leaf x d) sib)).size = q := ⟨_, rfl⟩
 rw [hsz0] at hm hsz ⊢
 have hwl := way_size key (plug (u :: c) (T.node fx fd (T.leaf x d) sib)) []
 rw [hway, hsz0] at hwl
 simp only [List.length_nil, List.length_cons] at hwl
 obtain ⟨ub, hub⟩ : ∃ q : Nat, u.x.1 = q := ⟨_, rfl⟩
 obtain ⟨pb, hpb⟩ : ∃ q : Nat, fx.1 = q := ⟨_, rfl⟩
 obtain ⟨xb, hxb⟩ : ∃ q : Nat, (T.leaf x d : HTree).ann.1 = q := ⟨_, rfl⟩
 obtain ⟨sb, hsb⟩ : ∃ q : Nat, sib.ann.1 = q := ⟨_, rfl⟩
 obtain ⟨so, hso⟩ : ∃ q : Int, (if u.s then (1 : Int) else 0) = q := ⟨_, rfl⟩
 have HSO := Lib.hid hso
 clear hso
 unfold ptr
 go_enter Tryz.func103, Tryz.ntmps103
 go_wp2_with fail
 refine wp_loop_rounds 1 ?_
 rw [rounds_succ]
 go_wp2_with fail
 refine hFind.mono ?_
 rintro e w1 ⟨rfl, f, hg'⟩
 have e0 : lastB (⟨fx, fd, false, sib⟩ :: u :: c) (.leaf x d) 0 = some ⟨(T.leaf x d : HTree).ann.1, 0, none⟩ := rfl
 have e1 : lastB (⟨fx, fd, false, sib⟩ :: u :: c) (.leaf x d) 1 = some ⟨fx.1, 0, none⟩ := rfl
 have e2 : lastB (⟨fx, fd, false, sib⟩ :: u :: c) (.leaf x d) 2 = some ⟨u.x.1, 0, none⟩ := rfl
 rw [e0, e1, e2, hub, hpb, hxb]
 clear e0 e1 e2 hFind
 replace hT := hT.fr0 f
 replace he := f.isRec _ he
 have hF0 := f
 replace hg := GOk.mono hg' (show _ ≤ m + sz by simp only [List.length_cons]; omega)
 clear f hg' hwl
 obtain ⟨ix, rx⟩ := (HTp.X hT).2.1.nd.rec
 have hhas := has_any key rx
 have hFw := Fr.alloc g No w1 (.cells #[gval g, .slice none 0 0, .slice none 0 0, .bool true] 218) hg
 have ht := TrySt.start hg
 have hgb := hg.alloc (.cells #[gval g, .slice none 0 0, .slice none 0 0, .bool true] 218)
 have hTB := fun b => try_blk (g := g) (w := w1) b
 rw [show (T.leaf x d).it = d from rfl, hk] at hhas
 rw [hxb] at hhas
 clear rx
 have HB := Lib.hid (And.intro hub (And.intro hpb (And.intro hxb hsb)))
 clear hub hpb hxb hsb
 have hgc := gval_cells g
 unfold Value.cells at hgc
 go_wp2_with (go_at_call 137; refine hhas.mono ?_; rintro e w6 ⟨rfl, rfl⟩)
 generalize hW : World.alloc w1 _ = W0 at *
 clear hW hgc hhas
 replace hT := hT.fr0 hFw
 replace he := hFw.isRec _ he
 replace hg := hgb
 clear hgb
 have hFT : FrT g w1.heap.size W0 W0 := by obtain ⟨cs, h⟩ := ht.at; exact FrT.of h (Fr.refl g No W0)
 refine (linkU_tr (a := fx.1) false hg (by omega) (by simp) ht (HTp.u hT) HB.out.1).mono ?_
 rintro e w2 ⟨i1, fa1, fc1, rfl, fT, hg', ht'⟩
 replace hT := hT.frT ht fT
 replace hFT := hFT.trans fT
 clear ht hg fT
 have ht := ht'
 have hg := hg'
 clear ht' hg'
 simp only [List.nil_append, List.cons_append, List.append_assoc] at ht
 obtain ⟨q0, q1, q2⟩ := bq hg
 obtain ⟨b12, hg', f⟩ := bn #[.pointer (some ⟨ub, 0, none⟩), .pointer (some ⟨i1, 0, none⟩), .slice fa1 2 fc1] ht hg
 replace hT := hT.fr0 f
 replace hFT := hFT.trans (ht.frT f)
 replace ht := ht.fr0 f
 replace hg := hg'; clear hg' f
 have z0 := b12.1.cell 0
 have z1 := b12.1.cell 1
 have z2 := b12.1.cell 2
 go_wp2_with fail
 clear z0 z1 z2
 clear q0 q1 q2
 generalize hW : World.alloc w2 _ = W1 at *
 clear hW
 refine (leadsU_tr (a := fx.1) (i := i1) (info := i1) (fin := false) hg ht (by simp) HX.out.2.2.1 (HTp.X hT).isRec (HTp.sib hT).isRec HB.out.1 HB.out.2.1).mono ?_
 rintro e w3 ⟨rfl, f, hg'⟩
 rw [HSO.out]
 replace hT := hT.fr0 f
 replace b12 := b12.fr (ht.frT f)
 replace hFT := hFT.trans (ht.frT f)
 replace ht := ht.fr0 f
 replace hg := hg'; clear hg' f
 go_wp2_with fail
 refine (link_tr (t := (T.node fx fd (T.leaf x d) sib)) true hg (by omega) (by simp) ht (HTp.X hT) HB.out.2.1).mono ?_
 rintro e w4 ⟨i3, fa3, fc3, rfl, fT, hg', ht'⟩
 replace hT := hT.frT ht fT
 replace b12 := b12.fr fT
 replace hFT := hFT.trans fT
 clear ht hg fT
 have ht := ht'
 have hg := hg'
 clear ht' hg'
 simp only [List.nil_append, List.cons_append, List.append_assoc] at ht
 simp only [kidsOf, List.length_cons, List.length_nil, Nat.zero_add, Nat.reduceAdd] at ht ⊢
 obtain ⟨q0, q1, q2⟩ := bq hg
 obtain ⟨b14, hg', f⟩ := bn #[.pointer (some ⟨pb, 0, none⟩), .pointer (some ⟨i3, 0, none⟩), .slice fa3 2 fc3] ht hg
 replace hT := hT.fr0 f
 replace b12 := b12.fr (ht.frT f)
 replace hFT := hFT.trans (ht.frT f)
 replace ht := ht.fr0 f
 replace hg := hg'; clear hg' f
 have z0 := b14.1.cell 0
 have z1 := b14.1.cell 1
 have z2 := b14.1.cell 2
 go_wp2_with fail
 clear z0 z1 z2
 clear q0 q1 q2
 generalize hW : World.alloc w4 _ = W2 at *
 clear hW
 have hX := HTp.X hT
 refine (leads_tr (x := fx) (d := fd) (l := (T.leaf x d)) (r := sib) (i := i3) (i0 := i3) (fin := true) false hg ht (by simp [kidsOf]) hX.2.1 hX.2.2 HX.out.2.2.2 HB.out.2.1 HB.out.2.2.1).mono ?_
 clear hX
 rintro e w5 ⟨rfl, f, hg'⟩
 replace hT := hT.fr0 f
 replace b12 := b12.fr (ht.frT f)
 replace b14 := b14.fr (ht.frT f)
 replace hFT := hFT.trans (ht.frT f)
 replace ht := ht.fr0 f
 replace hg := hg'; clear hg' f
 simp only [Bool.false_eq_true, if_false]
 have z0 := b14.1.cell 0
 have z1 := b14.1.cell 1
 have z2 := b14.1.cell 2
 go_wp2_with fail
 clear z0 z1 z2
 have hX := HTp.X hT
 refine (child_t (x := fx) (d := fd) (l := (T.leaf x d)) (r := sib) (t := (T.leaf x d)) (i := i3) (i0 := i3) (fin := true) false hg (by omega) (by simp) ht (by simp [kidsOf]) hX.2.1 rfl HB.out.2.1 rfl).mono ?_
 clear hX
 rintro e w6 ⟨i5, fa5, fc5, rfl, fT, hg', ht'⟩
 replace hT := hT.frT ht fT
 replace b12 := b12.fr fT
 replace b14 := b14.fr fT
 replace hFT := hFT.trans fT
 clear ht hg fT
 have ht := ht'
 have hg := hg'
 clear ht' hg'
 simp only [List.nil_append, List.cons_append, List.append_assoc] at ht
 simp only [kidsOf, List.length_nil] at ht ⊢
 unfold ptr
 rw [HB.out.2.2.1]
 obtain ⟨q0, q1, q2⟩ := bq hg
 obtain ⟨b16, hg', f⟩ := bn #[.pointer (some ⟨xb, 0, none⟩), .pointer (some ⟨i5, 0, none⟩), .slice fa5 0 fc5] ht hg
 replace hT := hT.fr0 f
 replace b12 := b12.fr (ht.frT f)
 replace b14 := b14.fr (ht.frT f)
 replace hFT := hFT.trans (ht.frT f)
 replace ht := ht.fr0 f
 replace hg := hg'; clear hg' f
 have z0 := b14.1.cell 0
 have z1 := b14.1.cell 1
 have z2 := b14.1.cell 2
 have z3 := b16.1.cell 0
 have z4 := b16.1.cell 1
 have z5 := b16.1.cell 2
 go_wp2_with fail
 clear z0 z1 z2 z3 z4 z5
 clear q0 q1 q2
 generalize hW : World.alloc w6 _ = W3 at *
 clear hW
 have hX := HTp.X hT
 refine (child_t (x := fx) (d := fd) (l := (T.leaf x d)) (r := sib) (t := sib) (i := i3) (i0 := i3) (fin := true) true hg (by omega) (by simp) ht (by simp [kidsOf]) hX.2.2 rfl HB.out.2.1 rfl).mono ?_
 clear hX
 rintro e w7 ⟨i6, fa6, fc6, rfl, fT, hg', ht'⟩
 replace hT := hT.frT ht fT
 replace b12 := b12.fr fT
 replace b14 := b14.fr fT
 replace b16 := b16.fr fT
 replace hFT := hFT.trans fT
 clear ht hg fT
 have ht := ht'
 have hg := hg'
 clear ht' hg'
 simp only [List.nil_append, List.cons_append, List.append_assoc] at ht
 unfold ptr
 rw [HB.out.2.2.2]
 obtain ⟨q0, q1, q2⟩ := bq hg
 obtain ⟨b17, hg', f⟩ := bn #[.pointer (some ⟨sb, 0, none⟩), .pointer (some ⟨i6, 0, none⟩), .slice fa6 (kidsOf sib).length fc6] ht hg
 replace hT := hT.fr0 f
 replace b12 := b12.fr (ht.frT f)
 replace b14 := b14.fr (ht.frT f)
 replace b16 := b16.fr (ht.frT f)
 replace hFT := hFT.trans (ht.frT f)
 replace ht := ht.fr0 f
 replace hg := hg'; clear hg' f
 have z0 := ht.okc
 have z1 := b16.1.cell 0
 have z2 := b16.1.cell 1
 have z3 := b16.1.cell 2
 have z4 := b17.1.cell 0
 have z5 := b17.1.cell 1
 have z6 := b17.1.cell 2
 have q3 := q0
 have q4 := q1
 have q5 := q2
 have q6 := box_free (cs := #[.pointer (some ⟨sb, 0, none⟩), .pointer (some ⟨i6, 0, none⟩), .slice fa6 (kidsOf sib).length fc6]) (T := 220) hg 0
 have q7 := box_free (cs := #[.pointer (some ⟨sb, 0, none⟩), .pointer (some ⟨i6, 0, none⟩), .slice fa6 (kidsOf sib).length fc6]) (T := 220) hg 1
 have q8 := box_free (cs := #[.pointer (some ⟨sb, 0, none⟩), .pointer (some ⟨i6, 0, none⟩), .slice fa6 (kidsOf sib).length fc6]) (T := 220) hg 2
 obtain ⟨q0, q1, q2⟩ := bq hg
 obtain ⟨b18, hg', f⟩ := bn #[.pointer (some ⟨sb, 0, none⟩), .pointer (some ⟨i6, 0, none⟩), .slice fa6 (kidsOf sib).length fc6] ht hg
 replace hT := hT.fr0 f
 replace b12 := b12.fr (ht.frT f)
 replace b14 := b14.fr (ht.frT f)
 replace b16 := b16.fr (ht.frT f)
 replace b17 := b17.fr (ht.frT f)
 replace hFT := hFT.trans (ht.frT f)
 replace ht := ht.fr0 f
 replace hg := hg'; clear hg' f
 simp only [World.size_alloc] at q0 q1 q2 q3 q4 q5 q6 q7 q8 b18
 have z7 := b18.1.cell 0
 have z8 := b18.1.cell 1
 have z9 := b18.1.cell 2
 go_wp2_with fail
 clear z0 z1 z2 z3 z4 z5 z6 z7 z8 z9
 clear q0 q1 q2 q3 q4 q5 q6 q7 q8
 generalize hW : World.alloc (World.alloc w7 _) _ = W4 at *
 clear hW
 obtain ⟨ip, rp⟩ := (HTp.X hT).nd.rec
 rw [show (T.node fx fd (T.leaf x d) sib).ann.1 = pb from HB.out.2.1] at rp
 have hLf := left_crown (g := g) (lo := w.heap.size) (sb := sb) (i' := i6) (n := (kidsOf sib).length) (fa := fa6) (fc := fc6) (p1 := .pointer (some ⟨be, 0, none⟩)) (p2 := .pointer (some ⟨ub, 0, none⟩)) hg (Nat.le_trans hF0.size (Nat.le_trans hFw.size hFT.fr.size)) rp hi
 unfold ptr at hLf
 refine hLf.mono ?_
 rintro e w8 ⟨N, F, rfl, f, hg', hN, hNE, hFr, hcn⟩
 clear hLf rp
 replace hT := hT.fr0 f
 replace b12 := b12.fr (ht.frT f)
 replace b14 := b14.fr (ht.frT f)
 replace b16 := b16.fr (ht.frT f)
 replace b17 := b17.fr (ht.frT f)
 replace b18 := b18.fr (ht.frT f)
 replace hFT := hFT.trans (ht.frT f)
 replace ht := ht.fr0 f
 replace hg := hg'; clear hg' f
 unfold ptr
 go_wp2_with fail
 have hnd : (([u.x.1, fx.1, (T.leaf x d).ann.1, sib.ann.1] : List Nat)).Nodup := nd_count fun a => by
  have k := HX.out.1 a
  have k0 := cnt_ann_le a sib
  simp only [cnt_plug, cntC, cnt, T.ann, List.map_cons, List.map_nil, List.sum_cons, List.sum_nil] at k k0 ⊢
  omega
 rw [← HSO.out]
 refine (swap_t (u := u) (a := fx.1) (info := i1) (fa := fa1) (fc := fc1) hg (by simp only [List.length_cons, List.length_nil]; omega) (by simp) rfl ht hnd hN.isRec).mono ?_
 rintro e wz ⟨rfl, f, hg', hnd2⟩
 rw [HSO.out]
 have hfin := swap_tree (u := u) (c := c) (lo := w.heap.size) (P := fun a => 0) (F := F) (R := fun a => cnt a (T.node fx fd (T.leaf x d) sib)) ⟨hT, HX.out.1⟩ HX.out.2.1 hN (fun a => by rw [hcn a]; rfl) (fun a => rfl) (fun q hq => by
  have k0 := cnt_ann sib
  simp only [List.mem_cons, List.not_mem_nil, or_false] at hq
  rcases hq with rfl | rfl | rfl
  ·show 1 ≤ cnt fx.1 _; simp only [cnt, one_self]; omega
  ·show 1 ≤ cnt x.1 _; simp only [cnt, one_self]; omega
  ·show 1 ≤ cnt sib.ann.1 _; simp only [cnt]; omega) hFr.1 (fun a ha => (hFr.2 a ha).1) (fun q hq => ht.vok hq) rfl rfl rfl rfl f hnd2
 obtain ⟨hTree, hTF⟩ := hfin
 obtain ⟨ix2, rx2⟩ := (HTp.X hT).2.1.nd.rec
 have hval := rx2
 rw [HB.out.2.2.1, show (T.leaf x d).it = d from rfl] at hval
 have hTF0 : TF g w wz := by
  refine TF.trans (TF.of ((hF0.tr hFw).trans hFT.fr (fun _ _ h => h) (fun b hb h => ?_))) hTF
  have := hTB b h
  have := hF0.size
  omega
 have hann : (plug (u :: c) N).ann.1 = be := by rw [plug_ann u c _ (T.node fx fd (T.leaf x d) sib)]; exact hroot0
 have hszN := size_plug_add (u :: c) N (T.node fx fd (T.leaf x d) sib)
 have hN1 : N.size = 1 := by rw [← er_size, hNE]; rfl
 rw [hN1, hsz0] at hszN
 simp only [T.size] at hszN
 have hpos := sib.size_pos
 obtain ⟨SN, hSN⟩ : ∃ q : Nat, (plug (u :: c) N).size = q := ⟨_, rfl⟩
 have hmul : (1 : Nat) * (sz + 302) ≤ (sz + 2) * (sz + 302) := Nat.mul_le_mul (by omega) (by omega)
 have hCl := Clean_none (g := g) (key := key) (m := m + sz + 100) (be := be) (t := plug (u :: c) N) (w := wz) (hg'.mono (by simp only [List.length_cons, List.length_nil]; omega)) hTree (by omega) (by omega) hann (hvn N hNE)
 rw [er_plug, hNE] at hCl
 unfold ptr at hCl
 have HF : Hid (Fr g _ w8 wz ∧ TF g w wz ∧ Cl g w8 xb _ 209) := ⟨f, hTF0, hval⟩
 clear hTree hTF hTF0 hg' f hnd2 hnd hval rx2 hT hN he hann ht hFr hFT hFw hF0
 go_wp2_with fail
 refine hCl.mono ?_
 rintro e wq ⟨rfl, M, z1, z2, z3, z4, z5, z6⟩
 have c3 := val_cell ((HF.out.1.mono (T := fun _ => True) (fun _ _ _ => trivial)).trans z4 (T := fun _ => True) (fun _ _ _ => trivial) (fun _ _ _ => trivial)) HF.out.2.2
 have HFIN : Hid (MapR g (m + sz + 100 + (sz + 2) * (sz + 302)) be (plug (erC (u :: c)) (.leaf () cr)) d.v true w (.returned (.tuple #[.int .i64 d.v, .bool true])) wq) :=
  ⟨rfl, M, z1, z2, z3, HF.out.2.1.trans z4, z5.mono (by omega)⟩
 clear z1 z2 z3 z4 z5 z6 hCl
 go_wp2_with fail
 go_ret2
 exact HFIN.out
end Go.Proofs.YtdmobhndbibhoaaGreat
