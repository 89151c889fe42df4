/- brought, left. -/
import Derived.Test.YtdmobhndbibhoaaGreatA37
namespace Go.Proofs.YtdmobhndbibhoaaGreat
set_option linter.unusedVariables false
set_option linter.unusedSimpArgs false
open Go.RowKit Larch
set_option maxRecDepth 100000
attribute [local go_sem ↓] Go.wp_at_zero Go.wp_at_succ
def MakeN (g : Gt) (m lo : Nat) (E : T Unit) (w : World) (e : Ending) (w' : World) : Prop :=
 ∃ (N : HTree) (F : Nat → Nat), e = .returned (ptr N.ann.1) ∧ Fr g No w w' ∧ GOk g m w' ∧ HT g w' N ∧ N.er = E ∧ Fresh lo w'.heap.size F ∧ ∀ a, cnt a N = F a
set_option maxHeartbeats 2000000 in
theorem brought_has {g : Gt} {m lo b : Nat} {d : It} {fs : Value} {info : Nat} {p1 p2 : Value} {key val : Int} {w : World} (hg : GOk g m w) (hlo : lo ≤ w.heap.size) (ha : Cl g w b (rc d true fs info 0) 209) (hk : hasK d key = true) :
 Calls Tryz.prog 141 #[p1, p2, ptr b, .int .i64 key, .int .i64 val] w (MakeN g m lo (.leaf () ⟨key, 0, d.w, val⟩) w) := by
 have c0 := rc0 ha
 have c1 := rc1 ha
 have c2 := rc2 ha
 have c3 := rc3 ha
 have c4 := rc4 ha
 have hF := Fr.alloc g No w (.cells #[.int .i64 d.k, .int .i64 d.i, .int .i64 d.w, .int .i64 d.v, .bool true] 184) hg
 have hG := hg.alloc (.cells #[.int .i64 d.k, .int .i64 d.i, .int .i64 d.w, .int .i64 d.v, .bool true] 184)
 have hh := has_any key (hF.at ha id)
 rw [hk] at hh
 unfold ptr
 clear ha
 go_enter Tryz.func141, Tryz.ntmps141
 go_wp2_with (go_at_call 137; refine hh.mono ?_; rintro e w1 ⟨rfl, rfl⟩)
 generalize hW : World.alloc w _ = W at *
 refine (Leaf_tr key 0 d.w val hG).mono ?_
 rintro e w1 hNew
 obtain ⟨y, rfl, n1, n2, n3, f, hg', hN⟩ := hNew
 have hFr := (Fresh.start lo).new (Nat.le_trans hlo hF.size) n1 n2 n3 hN rfl (Nat.le_refl _)
 have HE : Hid (Fr g No w w1 ∧ GOk g m w1 ∧ HT g w1 (.leaf y ⟨key, 0, d.w, val⟩) ∧ Fresh lo w1.heap.size _) := ⟨hF.tr f, hg', hN, hFr⟩
 clear hF hG hg' hN hFr f n1 n2 n3 hh c0 c1 c2 c3 c4
 unfold ptr
 go_wp2_with fail
 go_ret
 obtain ⟨h1, h2, h3, h4⟩ := HE.out
 exact ⟨_, _, rfl, h1, h2, h3, rfl, h4, fun a => by simp only [cnt]; omega⟩
set_option maxHeartbeats 2000000 in
theorem brought_crown {g : Gt} {m lo b : Nat} {d : It} {fs : Value} {info : Nat} {p1 p2 : Value} {key val : Int} {u : It} {w : World} (hg : GOk g m w) (hlo : lo ≤ w.heap.size) (ha : Cl g w b (rc d true fs info 0) 209) (hi : d.i = 1) :
 Calls Tryz.prog 141 #[p1, p2, ptr b, .int .i64 key, .int .i64 val] w (MakeN g m lo (grown u d key val) w) := by
 have hk : hasK d key = false := by simp [hasK, hi]
 have c0 := rc0 ha
 have c1 := rc1 ha
 rw [hi] at c1
 have c2 := rc2 ha
 have c3 := rc3 ha
 have c4 := rc4 ha
 have hF := Fr.alloc g No w (.cells #[.int .i64 d.k, .int .i64 1, .int .i64 d.w, .int .i64 d.v, .bool true] 184) hg
 have hG := hg.alloc (.cells #[.int .i64 d.k, .int .i64 1, .int .i64 d.w, .int .i64 d.v, .bool true] 184)
 have hh := has_any key (hF.at ha id)
 rw [hk] at hh
 unfold ptr
 clear ha
 go_enter Tryz.func141, Tryz.ntmps141
 go_wp2_with (go_at_call 137; refine hh.mono ?_; rintro e w1 ⟨rfl, rfl⟩)
 generalize hW : World.alloc w _ = W at *
 refine (Leaf_tr key 0 1 val hG).mono ?_
 rintro e w1 hNew
 obtain ⟨y, rfl, n1, n2, n3, f, hg', hN⟩ := hNew
 have hFr := (Fresh.start lo).new (Nat.le_trans hlo hF.size) n1 n2 n3 hN rfl (Nat.le_refl _)
 have hlh := Nat.le_trans hlo (Nat.le_trans hF.size f.size)
 have hF1 := hF.tr f
 clear n1 n2 n3 f hh c0 c1 c2 c3 c4 hF hG
 unfold ptr
 go_wp2_with fail
 refine (Leaf_tr 0 1 1 0 hg').mono ?_
 rintro e w2 hNew
 obtain ⟨y2, rfl, n1, n2, n3, f, hg2, hN2⟩ := hNew
 have hFr2 := hFr.new (Nat.le_refl _) n1 n2 n3 hN2 rfl hlh
 replace hlh := Nat.le_trans hlh f.size
 replace hN := hN.fr0 f
 have hF2 := hF1.tr f
 clear n1 n2 n3 f hF1 hg' hFr
 unfold ptr
 go_wp2_with fail
 refine (Inner_tr 0 1 1 _ _ hg2 hN hN2 rfl rfl).mono ?_
 rintro e w3 hNew
 obtain ⟨y3, rfl, n1, n2, n3, f, hg3, hN3⟩ := hNew
 have hFr3 := hFr2.new (Nat.le_refl _) n1 n2 n3 hN3 rfl hlh
 have HE : Hid (Fr g No w w3 ∧ GOk g m w3 ∧ HT g w3 (.node y3 _ _ _) ∧ Fresh lo w3.heap.size _) := ⟨hF2.tr f, hg3, hN3, hFr3⟩
 clear n1 n2 n3 f hF2 hg2 hFr2 hFr3 hN hN2 hN3 hg3
 unfold ptr
 go_wp2_with fail
 go_ret
 obtain ⟨h1, h2, h3, h4⟩ := HE.out
 exact ⟨_, _, rfl, h1, h2, h3, by simp only [grown, hi, if_true]; rfl, h4, fun a => by simp only [cnt]; omega⟩
set_option maxHeartbeats 4000000 in
theorem brought_new {g : Gt} {m lo b be p a : Nat} {d : It} {u : HFr} {fs : Value} {info : Nat} {key val : Int} {w : World} (hg : GOk g m w) (hlo : lo ≤ w.heap.size) (ha : Cl g w b (rc d true fs info 0) 209) (hi : d.i = 0) (hw : d.w = 1) (hk : hasK d key = false)
 (hu : NodeAt g w u.x.1 u.x.2 u.d false (frT u a)) (he : IsRec w be) (hne : u.x.1 ≠ be) (hp : u.x.1 = p) :
 Calls Tryz.prog 141 #[ptr be, ptr p, ptr b, .int .i64 key, .int .i64 val] w (MakeN g m lo (grown u.d d key val) w) := by
 have c0 := rc0 ha
 have c1 := rc1 ha
 have c2 := rc2 ha
 have c3 := rc3 ha
 have c4 := rc4 ha
 rw [hi] at c1
 rw [hw] at c2
 have hF := Fr.alloc g No w (.cells #[.int .i64 d.k, .int .i64 0, .int .i64 1, .int .i64 d.v, .bool true] 184) hg
 have hgc := hg.alloc (.cells #[.int .i64 d.k, .int .i64 0, .int .i64 1, .int .i64 d.v, .bool true] 184)
 have hbx := At.new hg (.cells #[.int .i64 d.k, .int .i64 0, .int .i64 1, .int .i64 d.v, .bool true] 184)
 have hh := has_any key (hF.at ha id)
 rw [hk] at hh
 have z1 := hbx.cell 1
 unfold ptr
 clear ha
 go_enter Tryz.func141, Tryz.ntmps141
 go_wp2_with (go_at_call 137; refine hh.mono ?_; rintro e w1 ⟨rfl, rfl⟩)
 clear hh z1 c0 c1 c2 c3 c4
 generalize hW : World.alloc w _ = W at *
 clear hW
 have hFr := Fresh.start lo
 have hlh := Nat.le_refl lo
 have hsz := Nat.le_trans hlo hF.size
 replace hF := hF.tr (Fr.drew g No W)
 replace hgc := hgc.drew
 replace hu := (hu.fr0 hF)
 replace he := hF.isRec _ he
 have hS := hbx.drew
 refine wp_region_X (S := fun w' => Cl g w' w.heap.size #[.int .i64 d.k, .int .i64 0, .int .i64 1, .int .i64 d.v, .bool true] 184) [] (by kernel_rfl) ?_
 refine tY 0 _ rfl (by kernel_rfl) (fun _ _ _ => id) hS (by rfl) (by intro wq _; go_simp <;> with_reducible rfl) ?_
 try go_frame
 refine tY 1 _ rfl (by kernel_rfl) (fun _ _ _ => id) hS (by rfl) (by intro wq _; go_simp <;> with_reducible rfl) ?_
 try go_frame
 refine tY 3 _ rfl (by kernel_rfl) (fun _ _ _ => id) hS (by rfl) (by intro wq _; go_simp <;> with_reducible rfl) ?_
 try go_frame
 refine tY 5 _ rfl (by kernel_rfl) (fun _ _ _ => id) hS (by rfl) (by intro wq _; go_simp <;> with_reducible rfl) ?_
 try go_frame
 refine tX 4 _ rfl (by kernel_rfl) (fun _ _ _ => id) hS (by rfl) (by intro wq hSq; have z0 := hSq.cell 0; have z3 := hSq.cell 3; go_simp <;> with_reducible rfl) ?_
 try go_frame
 refine tX 6 _ rfl (by kernel_rfl) (fun _ _ _ => id) hS (by rfl) (by intro wq hSq; have z0 := hSq.cell 0; have z3 := hSq.cell 3; go_simp <;> with_reducible rfl) ?_
 try go_frame
 refine wpAnyX_ready (rs := [2]) (by kernel_rfl) (by simp) ?_
 refine ReadyX.cons rfl (fun K hK => ?_) ReadyX.nil
 go_simp
 refine (Leaf_tr key 0 1 val hgc).mono ?_
 rintro e w1 hNew
 obtain ⟨y1, rfl, n1, n2, n3, f, hgn, hN1⟩ := hNew
 have hFrn := hFr.new hsz n1 n2 n3 hN1 rfl hlh
 have hlhn := Nat.le_trans hlh (Nat.le_trans hsz f.size)
 clear hFr hlh hsz n1 n2 n3
 have hFr := hFrn
 have hlh := hlhn
 have hsz := Nat.le_refl w1.heap.size
 clear hFrn hlhn
 have hSn := f.at hS id
 replace hF := hF.tr f
 replace hu := hu.fr0 f
 replace he := f.isRec _ he
 clear hgc f
 have hgc := hgn
 clear hgn
 unfold ptr
 refine hK.out _ _ hSn (fun hSx => ?_)
 clear hK K hS
 have hS := hSx
 clear hSx hSn
 try go_frame
 refine wpAnyX_ready (rs := [7]) (by kernel_rfl) (by simp) ?_
 refine ReadyX.cons rfl (fun K hK => ?_) ReadyX.nil
 go_simp
 refine (Leaf_tr d.k 0 1 d.v hgc).mono ?_
 rintro e w2 hNew
 obtain ⟨y2, rfl, n1, n2, n3, f, hgn, hN2⟩ := hNew
 have hFrn := hFr.new hsz n1 n2 n3 hN2 rfl hlh
 have hlhn := Nat.le_trans hlh (Nat.le_trans hsz f.size)
 clear hFr hlh hsz n1 n2 n3
 have hFr := hFrn
 have hlh := hlhn
 have hsz := Nat.le_refl w2.heap.size
 clear hFrn hlhn
 have hSn := f.at hS id
 replace hN1 := hN1.fr0 f
 replace hF := hF.tr f
 replace hu := hu.fr0 f
 replace he := f.isRec _ he
 clear hgc f
 have hgc := hgn
 clear hgn
 unfold ptr
 refine hK.out _ _ hSn (fun hSx => ?_)
 clear hK K hS
 have hS := hSx
 clear hSx hSn
 try go_frame
 refine tY 8 _ rfl (by kernel_rfl) (fun _ _ _ => id) hS (by rfl) (by intro wq _; go_simp <;> with_reducible rfl) ?_
 try go_frame
 refine tY 9 _ rfl (by kernel_rfl) (fun _ _ _ => id) hS (by rfl) (by intro wq _; go_simp <;> with_reducible rfl) ?_
 try go_frame
 refine wpAnyX_done (by kernel_rfl) ?_ _
 have z0 := hS.cell 0
 have z2 := hS.cell 2
 have hwb := weightBelow_t (u := u) (a := a) 0 hu he hne hp
 have hgr : grown u.d d key val = if key < d.k then .node () (nd d.k (topW u.d 0)) (.leaf () ⟨key, 0, 1, val⟩) (.leaf () ⟨d.k, 0, 1, d.v⟩)
  else .node () (nd key (topW u.d 0)) (.leaf () ⟨d.k, 0, 1, d.v⟩) (.leaf () ⟨key, 0, 1, val⟩) := by
  simp only [grown, hi, hw]; rfl
 obtain ⟨tw, htw⟩ : ∃ q : Int, topW u.d 0 = q := ⟨_, rfl⟩
 rw [htw] at hwb hgr
 have HG := Lib.hid hgr
 clear hgr htw hS hu he hk
 by_cases hlt : key < d.k
 ·go_wp2_with (go_at_call 189; refine hwb.mono ?_; rintro e w3 ⟨rfl, rfl⟩)
  clear hwb z0 z2
  refine (Inner_tr d.k 0 tw _ _ hgc hN1 hN2 rfl rfl).mono ?_
  rintro e w4 hNew
  obtain ⟨y3, rfl, n1, n2, n3, f, hg3, hN3⟩ := hNew
  have hFr3 := hFr.new hsz n1 n2 n3 hN3 rfl hlh
  have HE : Hid (Fr g No w w4 ∧ GOk g m w4 ∧ HT g w4 (.node y3 _ _ _) ∧ Fresh lo w4.heap.size _ ∧ key < d.k) := ⟨hF.tr f, hg3, hN3, hFr3, hlt⟩
  clear n1 n2 n3 f hF hgc hFr hFr3 hN1 hN2 hN3 hg3 hlt
  unfold ptr
  go_wp2_with fail
  go_ret
  obtain ⟨h1, h2, h3, h4, h5⟩ := HE.out
  exact ⟨_, _, rfl, h1, h2, h3, by rw [HG.out, if_pos h5]; rfl, h4, fun a => by simp only [cnt]; omega⟩
 ·go_wp2_with (go_at_call 189; refine hwb.mono ?_; rintro e w3 ⟨rfl, rfl⟩)
  clear hwb z0 z2
  refine (Inner_tr key 0 tw _ _ hgc hN2 hN1 rfl rfl).mono ?_
  rintro e w4 hNew
  obtain ⟨y3, rfl, n1, n2, n3, f, hg3, hN3⟩ := hNew
  have hFr3 := hFr.new hsz n1 n2 n3 hN3 rfl hlh
  have HE : Hid (Fr g No w w4 ∧ GOk g m w4 ∧ HT g w4 (.node y3 _ _ _) ∧ Fresh lo w4.heap.size _ ∧ d.k ≤ key) := ⟨hF.tr f, hg3, hN3, hFr3, hlt⟩
  clear n1 n2 n3 f hF hgc hFr hFr3 hN1 hN2 hN3 hg3 hlt
  unfold ptr
  go_wp2_with fail
  go_ret
  obtain ⟨h1, h2, h3, h4, h5⟩ := HE.out
  exact ⟨_, _, rfl, h1, h2, h3, by rw [HG.out, if_neg (by omega)]; rfl, h4, fun a => by simp only [cnt]; omega⟩
end Go.Proofs.YtdmobhndbibhoaaGreat
namespace Go.Proofs.YtdmobhndbibhoaaGreat
set_option linter.unusedVariables false
set_option linter.unusedSimpArgs false
open Go.RowKit Larch
set_option maxRecDepth 100000
attribute [local go_sem ↓] Go.wp_at_zero Go.wp_at_succ
set_option maxHeartbeats 2000000 in
theorem left_crown {g : Gt} {m lo b sb i' n fc : Nat} {fa : Option Addr} {d : It} {lf : Bool} {fs : Value} {info : Nat} {p1 p2 : Value} {w : World} (hg : GOk g m w) (hlo : lo ≤ w.heap.size) (ha : Cl g w b (rc d lf fs info 0) 209) (hi : d.i = 1) :
 Calls Tryz.prog 144 #[p1, p2, ptr b, .agg #[.pointer (some ⟨sb, 0, none⟩), .pointer (some ⟨i', 0, none⟩), .slice fa n fc]] w (MakeN g m lo (.leaf () cr) w) := by
 have hF := Fr.alloc g No w (.cells #[.pointer (some ⟨sb, 0, none⟩), .pointer (some ⟨i', 0, none⟩), .slice fa n fc] 220) hg
 have hG := hg.alloc (.cells #[.pointer (some ⟨sb, 0, none⟩), .pointer (some ⟨i', 0, none⟩), .slice fa n fc] 220)
 have c1 := rc1 (hF.at ha id)
 rw [hi] at c1
 unfold ptr
 clear ha
 go_enter Tryz.func144, Tryz.ntmps144
 go_wp2_with fail
 generalize hW : World.alloc w _ = W at *
 refine (Leaf_tr 0 1 1 0 hG).mono ?_
 rintro e w1 hNew
 obtain ⟨y, rfl, n1, n2, n3, f, hg', hN⟩ := hNew
 have hFr := (Fresh.start lo).new (Nat.le_trans hlo hF.size) n1 n2 n3 hN rfl (Nat.le_refl _)
 have HE : Hid (Fr g No w w1 ∧ GOk g m w1 ∧ HT g w1 (.leaf y ⟨0, 1, 1, 0⟩) ∧ Fresh lo w1.heap.size _) := ⟨hF.tr f, hg', hN, hFr⟩
 clear hF hG hg' hN hFr f n1 n2 n3 c1
 unfold ptr
 go_wp2_with fail
 go_ret
 obtain ⟨h1, h2, h3, h4⟩ := HE.out
 exact ⟨_, _, rfl, h1, h2, h3, rfl, h4, fun a => by simp only [cnt]; omega⟩
set_option maxHeartbeats 4000000 in
theorem left_new {g : Gt} {m pb sb i' i0 fc be p a tb : Nat} {fin : Bool} {fa : Option Addr} {L : List VRec} {d : It} {lf : Bool} {fs : Value} {info : Nat} {u : HFr} {t : HTree} {pw sw : Int} {w : World} (hg : GOk g m w) (ha : Cl g w pb (rc d lf fs info 0) 209) (hi : d.i = 0) (hdw : d.w = pw)
 (ht : TrySt g w tb L) (hr : vt t i0 fin (.slice fa (kidsOf t).length fc) ∈ L) (hT : HT g w t) (hv : t.isLeaf = false → t.it.v = 0) (hsb : t.ann.1 = sb) (hsw0 : t.it.w = sw) (hb1 : 0 ≤ pw ∧ pw ≤ 1000) (hb2 : 0 ≤ sw ∧ sw ≤ 1000)
 (hu : NodeAt g w u.x.1 u.x.2 u.d false (frT u a)) (he : IsRec w be) (hne : u.x.1 ≠ be) (hp : u.x.1 = p) :
 Calls Tryz.prog 144 #[ptr be, ptr p, ptr pb, .agg #[.pointer (some ⟨sb, 0, none⟩), .pointer (some ⟨i', 0, none⟩), .slice fa (kidsOf t).length fc]] w (NewT g m (fun x => reW x (topW u.d (pw + sw)) t) w) := by
 have hF := Fr.alloc g No w (.cells #[.pointer (some ⟨sb, 0, none⟩), .pointer (some ⟨i', 0, none⟩), .slice fa (kidsOf t).length fc] 220) hg
 have hG := hg.alloc (.cells #[.pointer (some ⟨sb, 0, none⟩), .pointer (some ⟨i', 0, none⟩), .slice fa (kidsOf t).length fc] 220)
 have hbx := At.new hg (.cells #[.pointer (some ⟨sb, 0, none⟩), .pointer (some ⟨i', 0, none⟩), .slice fa (kidsOf t).length fc] 220)
 have c1 := rc1 (hF.at ha id)
 rw [hi] at c1
 unfold ptr
 go_enter Tryz.func144, Tryz.ntmps144
 go_wp2_with fail
 generalize hW : World.alloc w _ = W at *
 clear hW c1
 have hFd := hF.tr (Fr.drew g No W)
 obtain ⟨si, hsr0⟩ := hT.nd.rec
 rw [hsb] at hsr0
 have hsr := hFd.at hsr0 id
 have hpr := hFd.at ha id
 have hpw := rc2 hpr
 have hsw := rc2 hsr
 rw [hdw] at hpw
 rw [hsw0] at hsw
 have hwb := weightBelow_t (u := u) (a := a) (pw + sw) (hu.fr0 hFd) (hFd.isRec _ he) hne hp
 have hAs := as_t (t := t) (i := i') (i0 := i0) (fin := fin) (fa := fa) (fc := fc) (p := sb) (topW u.d (pw + sw)) hG.drew (ht.fr0 hFd) hr (hT.fr0 hFd) hv hsb
 have hS := (show _ ∧ _ ∧ _ from ⟨hbx.drew, hpw, hsw⟩)
 refine wp_region_X (S := fun w' => Cl g w' w.heap.size #[.pointer (some ⟨sb, 0, none⟩), .pointer (some ⟨i', 0, none⟩), .slice fa (kidsOf t).length fc] 220 ∧ w'.cell? ⟨pb, 2, none⟩ = some (.int .i64 pw) ∧ w'.cell? ⟨sb, 2, none⟩ = some (.int .i64 sw)) [] (by kernel_rfl) ?_
 refine tY 1 _ rfl (by kernel_rfl) (fun _ _ _ => id) hS (by rfl) (by intro wq _; go_simp <;> with_reducible rfl) ?_
 try go_frame
 refine tY 2 _ rfl (by kernel_rfl) (fun _ _ _ => id) hS (by rfl) (by intro wq _; go_simp <;> with_reducible rfl) ?_
 try go_frame
 refine tY 3 _ rfl (by kernel_rfl) (fun _ _ _ => id) hS (by rfl) (by intro wq _; go_simp <;> with_reducible rfl) ?_
 try go_frame
 refine tY 4 _ rfl (by kernel_rfl) (fun _ _ _ => id) hS (by rfl) (by intro wq _; go_simp <;> with_reducible rfl) ?_
 try go_frame
 refine tY 5 _ rfl (by kernel_rfl) (fun _ _ _ => id) hS (by rfl) (by intro wq _; go_simp <;> with_reducible rfl) ?_
 try go_frame
 refine tY 6 _ rfl (by kernel_rfl) (fun _ _ _ => id) hS (by rfl) (by intro wq _; go_simp <;> with_reducible rfl) ?_
 try go_frame
 refine tY 8 _ rfl (by kernel_rfl) (fun _ _ _ => id) hS (by rfl) (by intro wq _; go_simp <;> with_reducible rfl) ?_
 try go_frame
 refine tX 0 _ rfl (by kernel_rfl) (fun _ _ _ => id) hS (by rfl) (by intro wq hSq; have z0 := hSq.1.cell 0; have z1 := hSq.1.cell 1; have z2 := hSq.1.cell 2; have z3 := hSq.2.1; have z4 := hSq.2.2; go_simp <;> with_reducible rfl) ?_
 try go_frame
 refine tX 7 _ rfl (by kernel_rfl) (fun _ _ _ => id) hS (by rfl) (by intro wq hSq; have z0 := hSq.1.cell 0; have z1 := hSq.1.cell 1; have z2 := hSq.1.cell 2; have z3 := hSq.2.1; have z4 := hSq.2.2; go_simp <;> with_reducible rfl) ?_
 try go_frame
 refine tX 9 _ rfl (by kernel_rfl) (fun _ _ _ => id) hS (by rfl) (by intro wq hSq; have z0 := hSq.1.cell 0; have z1 := hSq.1.cell 1; have z2 := hSq.1.cell 2; have z3 := hSq.2.1; have z4 := hSq.2.2; go_simp <;> with_reducible rfl) ?_
 try go_frame
 refine tY 10 _ rfl (by kernel_rfl) (fun _ _ _ => id) hS (by rfl) (by intro wq _; go_simp <;> with_reducible rfl) ?_
 try go_frame
 refine tY 11 _ rfl (by kernel_rfl) (fun _ _ _ => id) hS (by rfl) (by intro wq _; go_simp <;> with_reducible rfl) ?_
 try go_frame
 refine tY 12 _ rfl (by kernel_rfl) (fun _ _ _ => id) hS (by rfl) (by intro wq _; go_simp <;> with_reducible rfl) ?_
 try go_frame
 refine tX 13 _ rfl (by kernel_rfl) (fun _ _ _ => id) hS (by rfl) (by intro wq hSq; have z0 := hSq.1.cell 0; have z1 := hSq.1.cell 1; have z2 := hSq.1.cell 2; have z3 := hSq.2.1; have z4 := hSq.2.2; go_simp <;> with_reducible rfl) ?_
 try go_frame
 refine tY 14 _ rfl (by kernel_rfl) (fun _ _ _ => id) hS (by rfl) (by intro wq _; go_simp <;> with_reducible rfl) ?_
 try go_frame
 refine wpAnyX_ready (rs := [15]) (by kernel_rfl) (by simp) ?_
 refine ReadyX.cons rfl (fun K hK => ?_) ReadyX.nil
 go_simp
 rw [IntWalk.i64_in (pw + sw) (by omega)]
 refine hwb.mono ?_
 rintro e w1 ⟨rfl, rfl⟩
 have hSn := hS
 refine hK.out _ _ hSn (fun hSx => ?_)
 clear hK K hS
 have hS := hSx
 clear hSx hSn
 try go_frame
 refine wpAnyX_ready (rs := [16]) (by kernel_rfl) (by simp) ?_
 refine ReadyX.cons rfl (fun K hK => ?_) ReadyX.nil
 go_simp
 refine hAs.mono ?_
 rintro e w2 hNew
 obtain ⟨y, rfl, n1, n2, n3, f, hg', hN⟩ := hNew
 have hSn : Cl g w2 w.heap.size #[.pointer (some ⟨sb, 0, none⟩), .pointer (some ⟨i', 0, none⟩), .slice fa (kidsOf t).length fc] 220 ∧ w2.cell? ⟨pb, 2, none⟩ = some (.int .i64 pw) ∧ w2.cell? ⟨sb, 2, none⟩ = some (.int .i64 sw) := ⟨f.at hS.1 id, by rw [← hdw]; exact rc2 (f.at hpr id), by rw [← hsw0]; exact rc2 (f.at hsr id)⟩
 unfold ptr
 refine hK.out _ _ hSn (fun hSx => ?_)
 clear hK K hS
 have hS := hSx
 clear hSx hSn
 try go_frame
 refine tY 17 _ rfl (by kernel_rfl) (fun _ _ _ => id) hS (by rfl) (by intro wq _; go_simp <;> with_reducible rfl) ?_
 try go_frame
 refine wpAnyX_done (by kernel_rfl) ?_ _
 simp only [List.getElem_toArray, List.getElem_cons_succ, List.getElem_cons_zero, List.set_cons_succ, List.set_cons_zero]
 have HE : Hid (w.heap.size ≤ y.1 ∧ w.heap.size ≤ y.2 ∧ y.1 ≠ y.2 ∧ Fr g No w w2 ∧ GOk g m w2 ∧ HT g w2 (reW y (topW u.d (pw + sw)) t)) := ⟨Nat.le_trans hFd.size n1, Nat.le_trans hFd.size n2, n3, hFd.tr f, hg', hN⟩
 clear hS n1 n2 n3 f hg' hN hAs hwb hFd
 go_wp2
 go_ret
 exact ⟨y, rfl, HE.out⟩
end Go.Proofs.YtdmobhndbibhoaaGreat
