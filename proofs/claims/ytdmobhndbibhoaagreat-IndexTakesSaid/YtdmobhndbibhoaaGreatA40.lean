/- bring. -/
import Derived.Test.YtdmobhndbibhoaaGreatA39
namespace Go.Proofs.YtdmobhndbibhoaaGreat
open Go.RowKit Larch
set_option maxRecDepth 100000
set_option linter.unusedVariables false
set_option linter.unusedSimpArgs false
attribute [local go_sem ↓] Go.wp_at_zero Go.wp_at_succ
def MapR (g : Gt) (m be : Nat) (E : T Unit) (r : Int) (b : Bool) (w : World) (e : Ending) (w' : World) : Prop :=
 e = .returned (.tuple #[.int .i64 r, .bool b]) ∧ ∃ N : HTree, Tree g w' N ∧ N.er = E ∧ N.ann.1 = be ∧ TF g w w' ∧ GOk g m w'
theorem val_cell {g : Gt} {S : Nat → Prop} {w w' : World} {b : Nat} {d : It} {lf : Bool} {fs : Value} {info mk : Nat} (hf : Fr g S w w') (h : Cl g w b (rc d lf fs info mk) 209) :
 w'.cell? ⟨b, 3, none⟩ = some (.int .i64 d.v) := by
 obtain ⟨cs, h1, _, h3⟩ := hf.data b _ h.1 rfl
 rw [cell_of_row w' b 3 _ 209 (0, 0) h1, h3]; rfl
set_option maxHeartbeats 2000000 in
theorem bring_abs {g : Gt} {m be : Nat} {u : HFr} {c : List HFr} {x : Nat × Nat} {d : It} {key val : Int} {w : World} (hg : GOk g m w) (hm : m + (plug (u :: c) (.leaf x d)).size + 300 < LIM) (hsz : (plug (u :: c) (.leaf x d)).size < 900000)
 (hTr : Tree g w (plug (u :: c) (.leaf x d))) (hroot0 : (plug (u :: c) (.leaf x d)).ann.1 = be) (hway : way key [] (plug (u :: c) (.leaf x d)) = (u :: c, .leaf x d)) (hk : hasK d key = true) :
 Calls Tryz.prog 101 #[gval g, ptr be, .int .i64 key, .int .i64 val, .bool true] w (MapR g (m + (plug (u :: c) (.leaf x d)).size + 100) be (plug (u :: c) (.leaf x d)).er d.v true w) := by
 have hFind := Find_any (g := g) (n := m) (key := key) hg (by omega) hsz hTr.1
 rw [hway] at hFind
 have hroot : (plug (u :: c) (.leaf x d)).ann.1 = be := hroot0
 rw [hroot] at hFind
 unfold ptr
 go_enter Tryz.func101, Tryz.ntmps101
 go_wp2_with fail
 refine wp_loop_rounds 1 ?_
 rw [rounds_succ]
 go_wp2_with fail
 refine hFind.mono ?_
 rintro e w1 ⟨rfl, f, hg'⟩
 have e0 : lastB (u :: c) (.leaf x d) 0 = some ⟨x.1, 0, none⟩ := rfl
 have e1 : lastB (u :: c) (.leaf x d) 1 = some ⟨u.x.1, 0, none⟩ := rfl
 obtain ⟨p2, hp2⟩ : ∃ q, lastB (u :: c) (.leaf x d) 2 = q := ⟨_, rfl⟩
 rw [e0, e1, hp2]
 clear e0 e1 hp2 hFind
 have hT := hTr.fr0 f
 obtain ⟨ix, rx⟩ := (HTp.X hT.1).nd.rec
 have hhas := has_any key rx
 rw [show (T.leaf x d).it = d from rfl, hk] at hhas
 have c3 := val_cell (Fr.refl g No w1) rx
 rw [show (T.leaf x d).it = d from rfl, show (T.leaf x d).ann.1 = x.1 from rfl] at c3
 have HFIN : Hid (MapR g (m + (plug (u :: c) (.leaf x d)).size + 100) be (plug (u :: c) (.leaf x d)).er d.v true w (.returned (.tuple #[.int .i64 d.v, .bool true])) w1) :=
  ⟨rfl, _, hT, rfl, hroot0, TF.of f, hg'.mono (by have := way_size key (plug (u :: c) (.leaf x d)) []; rw [hway] at this; simp only [List.length_nil] at this; omega)⟩
 clear rx hT f hg'
 go_wp2_with (go_at_call 137; refine hhas.mono ?_; rintro e w6 ⟨rfl, rfl⟩)
 go_ret2
 exact HFIN.out
set_option maxHeartbeats 4000000 in
theorem bring_has {g : Gt} {m be : Nat} {u : HFr} {c : List HFr} {x : Nat × Nat} {d : It} {key val : Int} {w : World} {E0 : T Unit} (hg : GOk g m w) (hm : m + (plug (u :: c) (.leaf x d)).size + 300 < LIM) (hsz : (plug (u :: c) (.leaf x d)).size < 900000)
 (hTr : Tree g w (plug (u :: c) (.leaf x d))) (hroot0 : (plug (u :: c) (.leaf x d)).ann.1 = be) (hway : way key [] (plug (u :: c) (.leaf x d)) = (u :: c, .leaf x d)) (hk : hasK d key = true)
 (hM : ∀ W m', HT g W (plug (u :: c) (.leaf x d)) → GOk g m' W → IsRec W be → w.heap.size ≤ W.heap.size → Calls Tryz.prog 141 #[ptr be, ptr u.x.1, ptr x.1, .int .i64 key, .int .i64 val] W (MakeN g m' w.heap.size E0 W)) :
 Calls Tryz.prog 101 #[gval g, ptr be, .int .i64 key, .int .i64 val, .bool false] w (MapR g (m + (plug (u :: c) (.leaf x d)).size + 100) be (plug (erC (u :: c)) E0) d.v true w) := by
 have hU := hTr.2
 have hT := hTr.1
 have hlo := hT.lt
 have hne1 : u.sib.ann.1 ≠ x.1 := fun h => by
  have k := hU x.1
  have k2 := cnt_ann_le x.1 u.sib
  rw [h] at k2
  simp only [cnt_plug, cntC, cnt, one_self] at k k2
  omega
 have HX := Lib.hid (And.intro hU (And.intro hlo hne1))
 clear hU hlo hne1 hTr
 have hFind := Find_any (g := g) (n := m) (key := key) hg (by omega) hsz hT
 rw [hway] at hFind
 have hroot : (plug (u :: c) (.leaf x d)).ann.1 = be := hroot0
 rw [hroot] at hFind
 have he : IsRec w be := hroot ▸ hT.isRec
 obtain ⟨sz, hsz0⟩ : ∃ q : Nat, (plug (u :: c) (.leaf x d)).size = q := ⟨_, rfl⟩
 rw [hsz0] at hm hsz ⊢
 have hwl := way_size key (plug (u :: c) (.leaf x d)) []
 rw [hway, hsz0] at hwl
 simp only [List.length_nil, List.length_cons] at hwl
 obtain ⟨ub, hub⟩ : ∃ q : Nat, u.x.1 = q := ⟨_, rfl⟩
 obtain ⟨xb, hxb⟩ : ∃ q : Nat, x.1 = q := ⟨_, rfl⟩
 obtain ⟨so, hso⟩ : ∃ q : Int, (if u.s then (1 : Int) else 0) = q := ⟨_, rfl⟩
 have HSO := Lib.hid hso
 clear hso
 unfold ptr
 go_enter Tryz.func101, Tryz.ntmps101
 go_wp2_with fail
 refine wp_loop_rounds 1 ?_
 rw [rounds_succ]
 go_wp2_with fail
 refine hFind.mono ?_
 rintro e w1 ⟨rfl, f, hg'⟩
 have e0 : lastB (u :: c) (.leaf x d) 0 = some ⟨x.1, 0, none⟩ := rfl
 have e1 : lastB (u :: c) (.leaf x d) 1 = some ⟨u.x.1, 0, none⟩ := rfl
 obtain ⟨p2, hp2⟩ : ∃ q, lastB (u :: c) (.leaf x d) 2 = q := ⟨_, rfl⟩
 rw [e0, e1, hp2, hub, hxb]
 clear e0 e1 hp2 hFind
 replace hT := hT.fr0 f
 replace he := f.isRec _ he
 have hF0 := f
 replace hg := GOk.mono hg' (show _ ≤ m + sz by simp only [List.length_cons]; omega)
 clear f hg' hwl
 obtain ⟨ix, rx⟩ := (HTp.X hT).nd.rec
 have hhas := has_any key rx
 have hFw := Fr.alloc g No w1 (.cells #[gval g, .slice none 0 0, .slice none 0 0, .bool true] 218) hg
 have ht := TrySt.start hg
 have hgb := hg.alloc (.cells #[gval g, .slice none 0 0, .slice none 0 0, .bool true] 218)
 have hTB := fun b => try_blk (g := g) (w := w1) b
 rw [show (T.leaf x d).it = d from rfl, hk] at hhas
 rw [show (T.leaf x d).ann.1 = xb from hxb] at hhas
 clear rx
 have HUB := Lib.hid (And.intro hub hxb)
 clear hub hxb
 have hgc := gval_cells g
 unfold Value.cells at hgc
 go_wp2_with (go_at_call 137; refine hhas.mono ?_; rintro e w6 ⟨rfl, rfl⟩)
 generalize hW : World.alloc w1 _ = W0 at *
 clear hW hgc hhas
 replace hT := hT.fr0 hFw
 replace he := hFw.isRec _ he
 replace hg := hgb
 clear hgb
 have hFT : FrT g w1.heap.size W0 W0 := by obtain ⟨cs, h⟩ := ht.at; exact FrT.of h (Fr.refl g No W0)
 refine (linkU_tr (a := x.1) false hg (by omega) (by simp) ht (HTp.u hT) HUB.out.1).mono ?_
 rintro e w2 ⟨i1, fa1, fc1, rfl, fT, hg', ht'⟩
 replace hT := hT.frT ht fT
 replace hFT := hFT.trans fT
 clear ht hg fT
 have ht := ht'
 have hg := hg'
 clear ht' hg'
 simp only [List.nil_append, List.cons_append, List.append_assoc] at ht
 obtain ⟨q0, q1, q2⟩ := bq hg
 obtain ⟨b17, hg', f⟩ := bn #[.pointer (some ⟨ub, 0, none⟩), .pointer (some ⟨i1, 0, none⟩), .slice fa1 2 fc1] ht hg
 replace hT := hT.fr0 f
 replace hFT := hFT.trans (ht.frT f)
 replace ht := ht.fr0 f
 replace hg := hg'; clear hg' f
 have z0 := b17.1.cell 0
 have z1 := b17.1.cell 1
 have z2 := b17.1.cell 2
 go_wp2_with fail
 clear z0 z1 z2
 clear q0 q1 q2
 generalize hW : World.alloc w2 _ = W1 at *
 clear hW
 refine (leadsU_tr (a := x.1) (i := i1) (info := i1) (fin := false) hg ht (by simp) HX.out.2.2 (HTp.X hT).isRec (HTp.sib hT).isRec HUB.out.1 HUB.out.2).mono ?_
 rintro e w3 ⟨rfl, f, hg'⟩
 rw [HSO.out]
 replace hT := hT.fr0 f
 replace b17 := b17.fr (ht.frT f)
 replace hFT := hFT.trans (ht.frT f)
 replace ht := ht.fr0 f
 replace hg := hg'; clear hg' f
 go_wp2_with fail
 refine (link_tr (t := .leaf x d) true hg (by omega) (by simp) ht (HTp.X hT) HUB.out.2).mono ?_
 rintro e w4 ⟨i3, fa3, fc3, rfl, fT, hg', ht'⟩
 replace hT := hT.frT ht fT
 replace b17 := b17.fr fT
 replace hFT := hFT.trans fT
 clear ht hg fT
 have ht := ht'
 have hg := hg'
 clear ht' hg'
 simp only [List.nil_append, List.cons_append, List.append_assoc] at ht
 simp only [kidsOf, List.length_nil] at ht ⊢
 have z0 := ht.okc
 have hMk := hM w4 _ hT hg (hFT.fr.isRec _ he) (Nat.le_trans hF0.size (Nat.le_trans hFw.size hFT.fr.size))
 unfold ptr at hMk
 rw [HUB.out.1, HUB.out.2] at hMk
 go_wp2_with fail
 refine hMk.mono ?_
 rintro e w5 ⟨N, F, rfl, f, hg', hN, hNE, hFr, hcn⟩
 clear hMk
 clear z0
 replace hT := hT.fr0 f
 replace b17 := b17.fr (ht.frT f)
 replace hFT := hFT.trans (ht.frT f)
 replace ht := ht.fr0 f
 replace hg := hg'; clear hg' f
 unfold ptr
 go_wp2_with fail
 have hnd : (([u.x.1, x.1] : List Nat)).Nodup := nd_count fun a => by
  have k := HX.out.1 a
  simp only [cnt_plug, cntC, cnt, List.map_cons, List.map_nil, List.sum_cons, List.sum_nil] at k ⊢
  omega
 rw [← HSO.out]
 refine (swap_t (u := u) (a := x.1) (info := i1) (fa := fa1) (fc := fc1) hg (by simp only [List.length_cons, List.length_nil]; omega) (by simp) rfl ht hnd hN.isRec).mono ?_
 rintro e wz ⟨rfl, f, hg', hnd2⟩
 rw [HSO.out]
 have hfin := swap_tree (u := u) (c := c) (lo := w.heap.size) (P := fun a => 0) (F := F) (R := fun a => one a x.1 + one a x.2) ⟨hT, HX.out.1⟩ HX.out.2.1 hN (fun a => by rw [hcn a]; rfl)
  (fun a => by simp only [cnt]; omega) (fun q hq => by
  simp only [List.mem_cons, List.not_mem_nil, or_false] at hq
  rcases hq with rfl; simp only [T.ann, one_self]; omega) hFr.1 (fun a ha => (hFr.2 a ha).1) (fun q hq => ht.vok hq) rfl rfl rfl rfl f hnd2
 obtain ⟨hTree, hTF⟩ := hfin
 obtain ⟨ix2, rx2⟩ := (HTp.X hT).nd.rec
 have hval := rx2
 rw [show (T.leaf x d).ann.1 = xb from HUB.out.2, show (T.leaf x d).it = d from rfl] at hval
 have hTF0 : TF g w wz := by
  refine TF.trans (TF.of ((hF0.tr hFw).trans hFT.fr (fun _ _ h => h) (fun b hb h => ?_))) hTF
  have := hTB b h
  have := hF0.size
  omega
 replace he := hTF.isRec _ (hFT.fr.isRec _ he)
 have hann : (plug (u :: c) N).ann.1 = be := by rw [plug_ann u c N (.leaf x d)]; exact hroot0
 have c3 := val_cell hTF hval
 have HFIN : Hid (MapR g (m + sz + 100) be (plug (erC (u :: c)) E0) d.v true w (.returned (.tuple #[.int .i64 d.v, .bool true])) wz) :=
  ⟨rfl, _, hTree, by rw [er_plug, hNE], hann, hTF0, hg'.mono (by simp only [List.length_cons, List.length_nil]; omega)⟩
 clear hTree hTF hTF0 hg' f hnd2 hnd hval rx2 hT hN he hann ht hFr hFT hFw hF0
 go_wp2_with fail
 go_ret2
 exact HFIN.out
set_option maxHeartbeats 4000000 in
theorem bring_new {g : Gt} {m be : Nat} {u : HFr} {c : List HFr} {x : Nat × Nat} {d : It} {key val : Int} {w : World} {abs : Bool} {E0 E : T Unit} (hg : GOk g m w) (hm : m + (plug (u :: c) (.leaf x d)).size + 1000 + ((plug (u :: c) (.leaf x d)).size + 2) * ((plug (u :: c) (.leaf x d)).size + 302) < LIM) (hsz : (plug (u :: c) (.leaf x d)).size < 790000)
 (hTr : Tree g w (plug (u :: c) (.leaf x d))) (hroot0 : (plug (u :: c) (.leaf x d)).ann.1 = be) (hway : way key [] (plug (u :: c) (.leaf x d)) = (u :: c, .leaf x d)) (hk : hasK d key = false)
 (hM : ∀ W m', HT g W (plug (u :: c) (.leaf x d)) → GOk g m' W → IsRec W be → w.heap.size ≤ W.heap.size → Calls Tryz.prog 141 #[ptr be, ptr u.x.1, ptr x.1, .int .i64 key, .int .i64 val] W (MakeN g m' w.heap.size E0 W))
 (hst : ∀ N : HTree, N.er = E0 → ∃ (f : HFr) (c' : List HFr) (N' : HTree) (k : Nat), plug (f :: c') N' = plug (u :: c) N ∧ Mid key (erC (f :: c')) N'.er ∧ clean key k (plug (erC (f :: c')) N'.er) = E ∧ c'.length < k ∧ True)
 (hNS : ∀ N : HTree, N.er = E0 → (plug (u :: c) N).size = (plug (u :: c) (.leaf x d)).size + 2) :
 Calls Tryz.prog 101 #[gval g, ptr be, .int .i64 key, .int .i64 val, .bool abs] w (MapR g (m + (plug (u :: c) (.leaf x d)).size + 100 + ((plug (u :: c) (.leaf x d)).size + 2) * ((plug (u :: c) (.leaf x d)).size + 302)) be E d.v false w) := by
 have hU := hTr.2
 have hT := hTr.1
 have hlo := hT.lt
 have hne1 : u.sib.ann.1 ≠ x.1 := fun h => by
  have k := hU x.1
  have k2 := cnt_ann_le x.1 u.sib
  rw [h] at k2
  simp only [cnt_plug, cntC, cnt, one_self] at k k2
  omega
 have HX := Lib.hid (And.intro hU (And.intro hlo hne1))
 clear hU hlo hne1 hTr
 have hFind := Find_any (g := g) (n := m) (key := key) hg (by omega) (by omega) hT
 rw [hway] at hFind
 have hroot : (plug (u :: c) (.leaf x d)).ann.1 = be := hroot0
 rw [hroot] at hFind
 have he : IsRec w be := hroot ▸ hT.isRec
 obtain ⟨sz, hsz0⟩ : ∃ q : Nat, (plug (u :: c) (.leaf x d)).size = q := ⟨_, rfl⟩
 rw [hsz0] at hm hsz ⊢
 have hwl := way_size key (plug (u :: c) (.leaf x d)) []
 rw [hway, hsz0] at hwl
 simp only [List.length_nil, List.length_cons] at hwl
 obtain ⟨ub, hub⟩ : ∃ q : Nat, u.x.1 = q := ⟨_, rfl⟩
 obtain ⟨xb, hxb⟩ : ∃ q : Nat, x.1 = q := ⟨_, rfl⟩
 obtain ⟨so, hso⟩ : ∃ q : Int, (if u.s then (1 : Int) else 0) = q := ⟨_, rfl⟩
 have HSO := Lib.hid hso
 clear hso
 unfold ptr
 go_enter Tryz.func101, Tryz.ntmps101
 go_wp2_with fail
 refine wp_loop_rounds 1 ?_
 rw [rounds_succ]
 go_wp2_with fail
 refine hFind.mono ?_
 rintro e w1 ⟨rfl, f, hg'⟩
 have e0 : lastB (u :: c) (.leaf x d) 0 = some ⟨x.1, 0, none⟩ := rfl
 have e1 : lastB (u :: c) (.leaf x d) 1 = some ⟨u.x.1, 0, none⟩ := rfl
 obtain ⟨p2, hp2⟩ : ∃ q, lastB (u :: c) (.leaf x d) 2 = q := ⟨_, rfl⟩
 rw [e0, e1, hp2, hub, hxb]
 clear e0 e1 hp2 hFind
 replace hT := hT.fr0 f
 replace he := f.isRec _ he
 have hF0 := f
 replace hg := GOk.mono hg' (show _ ≤ m + sz by simp only [List.length_cons]; omega)
 clear f hg' hwl
 obtain ⟨ix, rx⟩ := (HTp.X hT).nd.rec
 have hhas := has_any key rx
 have hFw := Fr.alloc g No w1 (.cells #[gval g, .slice none 0 0, .slice none 0 0, .bool true] 218) hg
 have ht := TrySt.start hg
 have hgb := hg.alloc (.cells #[gval g, .slice none 0 0, .slice none 0 0, .bool true] 218)
 have hTB := fun b => try_blk (g := g) (w := w1) b
 rw [show (T.leaf x d).it = d from rfl, hk] at hhas
 rw [show (T.leaf x d).ann.1 = xb from hxb] at hhas
 clear rx
 have HUB := Lib.hid (And.intro hub hxb)
 clear hub hxb
 have hgc := gval_cells g
 unfold Value.cells at hgc
 go_wp2_with (go_at_call 137; refine hhas.mono ?_; rintro e w6 ⟨rfl, rfl⟩)
 generalize hW : World.alloc w1 _ = W0 at *
 clear hW hgc hhas
 replace hT := hT.fr0 hFw
 replace he := hFw.isRec _ he
 replace hg := hgb
 clear hgb
 have hFT : FrT g w1.heap.size W0 W0 := by obtain ⟨cs, h⟩ := ht.at; exact FrT.of h (Fr.refl g No W0)
 refine (linkU_tr (a := x.1) false hg (by omega) (by simp) ht (HTp.u hT) HUB.out.1).mono ?_
 rintro e w2 ⟨i1, fa1, fc1, rfl, fT, hg', ht'⟩
 replace hT := hT.frT ht fT
 replace hFT := hFT.trans fT
 clear ht hg fT
 have ht := ht'
 have hg := hg'
 clear ht' hg'
 simp only [List.nil_append, List.cons_append, List.append_assoc] at ht
 obtain ⟨q0, q1, q2⟩ := bq hg
 obtain ⟨b17, hg', f⟩ := bn #[.pointer (some ⟨ub, 0, none⟩), .pointer (some ⟨i1, 0, none⟩), .slice fa1 2 fc1] ht hg
 replace hT := hT.fr0 f
 replace hFT := hFT.trans (ht.frT f)
 replace ht := ht.fr0 f
 replace hg := hg'; clear hg' f
 have z0 := b17.1.cell 0
 have z1 := b17.1.cell 1
 have z2 := b17.1.cell 2
 go_wp2_with fail
 clear z0 z1 z2
 clear q0 q1 q2
 generalize hW : World.alloc w2 _ = W1 at *
 clear hW
 refine (leadsU_tr (a := x.1) (i := i1) (info := i1) (fin := false) hg ht (by simp) HX.out.2.2 (HTp.X hT).isRec (HTp.sib hT).isRec HUB.out.1 HUB.out.2).mono ?_
 rintro e w3 ⟨rfl, f, hg'⟩
 rw [HSO.out]
 replace hT := hT.fr0 f
 replace b17 := b17.fr (ht.frT f)
 replace hFT := hFT.trans (ht.frT f)
 replace ht := ht.fr0 f
 replace hg := hg'; clear hg' f
 go_wp2_with fail
 refine (link_tr (t := .leaf x d) true hg (by omega) (by simp) ht (HTp.X hT) HUB.out.2).mono ?_
 rintro e w4 ⟨i3, fa3, fc3, rfl, fT, hg', ht'⟩
 replace hT := hT.frT ht fT
 replace b17 := b17.fr fT
 replace hFT := hFT.trans fT
 clear ht hg fT
 have ht := ht'
 have hg := hg'
 clear ht' hg'
 simp only [List.nil_append, List.cons_append, List.append_assoc] at ht
 simp only [kidsOf, List.length_nil] at ht ⊢
 have z0 := ht.okc
 have hMk := hM w4 _ hT hg (hFT.fr.isRec _ he) (Nat.le_trans hF0.size (Nat.le_trans hFw.size hFT.fr.size))
 unfold ptr at hMk
 rw [HUB.out.1, HUB.out.2] at hMk
 go_wp2_with fail
 refine hMk.mono ?_
 rintro e w5 ⟨N, F, rfl, f, hg', hN, hNE, hFr, hcn⟩
 clear hMk
 clear z0
 replace hT := hT.fr0 f
 replace b17 := b17.fr (ht.frT f)
 replace hFT := hFT.trans (ht.frT f)
 replace ht := ht.fr0 f
 replace hg := hg'; clear hg' f
 unfold ptr
 go_wp2_with fail
 have hnd : (([u.x.1, x.1] : List Nat)).Nodup := nd_count fun a => by
  have k := HX.out.1 a
  simp only [cnt_plug, cntC, cnt, List.map_cons, List.map_nil, List.sum_cons, List.sum_nil] at k ⊢
  omega
 rw [← HSO.out]
 refine (swap_t (u := u) (a := x.1) (info := i1) (fa := fa1) (fc := fc1) hg (by simp only [List.length_cons, List.length_nil]; omega) (by simp) rfl ht hnd hN.isRec).mono ?_
 rintro e wz ⟨rfl, f, hg', hnd2⟩
 rw [HSO.out]
 have hfin := swap_tree (u := u) (c := c) (lo := w.heap.size) (P := fun a => 0) (F := F) (R := fun a => one a x.1 + one a x.2) ⟨hT, HX.out.1⟩ HX.out.2.1 hN (fun a => by rw [hcn a]; rfl)
  (fun a => by simp only [cnt]; omega) (fun q hq => by
  simp only [List.mem_cons, List.not_mem_nil, or_false] at hq
  rcases hq with rfl; simp only [T.ann, one_self]; omega) hFr.1 (fun a ha => (hFr.2 a ha).1) (fun q hq => ht.vok hq) rfl rfl rfl rfl f hnd2
 obtain ⟨hTree, hTF⟩ := hfin
 obtain ⟨ix2, rx2⟩ := (HTp.X hT).nd.rec
 have hval := rx2
 rw [show (T.leaf x d).ann.1 = xb from HUB.out.2, show (T.leaf x d).it = d from rfl] at hval
 have hTF0 : TF g w wz := by
  refine TF.trans (TF.of ((hF0.tr hFw).trans hFT.fr (fun _ _ h => h) (fun b hb h => ?_))) hTF
  have := hTB b h
  have := hF0.size
  omega
 replace he := hTF.isRec _ (hFT.fr.isRec _ he)
 have hann : (plug (u :: c) N).ann.1 = be := by rw [plug_ann u c N (.leaf x d)]; exact hroot0
 obtain ⟨fS, cS, NS, kS, q1, q2, q3, q4, q5⟩ := hst N hNE
 have hszN := hNS N hNE
 rw [hsz0] at hszN
 have hL0 : cS.length + 1 ≤ sz + 2 := by
  have := size_plug (fS :: cS) NS
  rw [q1, hszN] at this
  simp only [List.length_cons] at this
  omega
 have hmul : (cS.length + 1) * (sz + 2 + 300) ≤ (sz + 2) * (sz + 302) := by
  have := Nat.mul_le_mul_right (sz + 302) hL0
  exact this
 have hCl := Clean_any (g := g) (key := key) (m := m + sz + 100) (be := be) (S := sz + 2) (L0 := cS.length) (E := E) (w := wz)
  ⟨fS, cS, NS, kS, by rw [q1]; exact hTree, by rw [q1]; exact hann, q2, q3, q4, Fr.refl _ _ _, by rw [Nat.sub_self, Nat.zero_mul]; exact hg'.mono (by simp only [List.length_cons, List.length_nil]; omega), rfl, Nat.le_refl _, by rw [q1]; exact hszN⟩
  (by omega) (by omega) (by omega) he
 unfold ptr at hCl
 have HF : Hid (Fr g _ w5 wz ∧ TF g w wz ∧ Cl g w5 xb _ 209) := ⟨f, hTF0, hval⟩
 have HB := Lib.hid hmul
 clear hTree hTF hTF0 hg' f hnd2 hnd hval rx2 hT hN he hann ht hFr hFT hFw hF0 q1 q2 q3 q4 q5 hmul hszN
 go_wp2_with fail
 refine hCl.mono ?_
 rintro e wq ⟨rfl, M, z1, z2, z3, z4, z5, z6⟩
 have c3 := val_cell ((HF.out.1.mono (T := fun _ => True) (fun _ _ _ => trivial)).trans z4 (T := fun _ => True) (fun _ _ _ => trivial) (fun _ _ _ => trivial)) HF.out.2.2
 have HFIN : Hid (MapR g (m + sz + 100 + (sz + 2) * (sz + 302)) be E d.v false w (.returned (.tuple #[.int .i64 d.v, .bool false])) wq) :=
  ⟨rfl, M, z1, z2, z3, HF.out.2.1.trans z4, z5.mono (by have := HB.out; omega)⟩
 clear z1 z2 z3 z4 z5 z6 hCl
 go_wp2_with fail
 go_ret2
 exact HFIN.out
end Go.Proofs.YtdmobhndbibhoaaGreat
