/- chroma's makers of nodes: of, as, less, inner, weightBelow; and what they make as trees. -/
import Derived.Test.YtdmobhndbibhoaaGreatA13
import Derived.Test.YtdmobhndbibhoaaGreatC1
namespace Go.Proofs.YtdmobhndbibhoaaGreat
set_option linter.unusedVariables false
set_option linter.unusedSimpArgs false
open Go.RowKit Larch
set_option maxRecDepth 100000
attribute [local go_sem ↓] Go.wp_at_zero Go.wp_at_succ
theorem ann_leaf (x : Nat × Nat) (d : It) : (T.leaf x d).ann = x := rfl
theorem ann_node (x : Nat × Nat) (d : It) (l r : HTree) : (T.node x d l r).ann = x := rfl
def kidsOf : HTree → List Nat
 | .leaf _ _ => []
 | .node _ _ l r => [l.ann.1, r.ann.1]
theorem shape_kids (t : HTree) : Shape t.isLeaf (kidsOf t) := by
 cases t with
 | leaf x d => exact .inl ⟨rfl, rfl⟩
 | node x d l r => exact .inr ⟨rfl, _, _, rfl⟩
theorem HT.nd {g : Gt} {w : World} {t : HTree} (h : HT g w t) : NodeAt g w t.ann.1 t.ann.2 t.it t.isLeaf (kidsOf t) := by
 cases t with
 | leaf x d => exact h
 | node x d l r => exact h.1
theorem NodeAt.isRec {g : Gt} {w : World} {b fb : Nat} {d : It} {lf : Bool} {kids : List Nat} (h : NodeAt g w b fb d lf kids) : IsRec w b := by
 obtain ⟨i, st, h, _⟩ := h; exact ⟨_, h.1, rfl⟩
theorem HT.isRec {g : Gt} {w : World} {t : HTree} (h : HT g w t) : IsRec w t.ann.1 := h.nd.isRec
def reW (x : Nat × Nat) (wt : Int) : HTree → HTree
 | .leaf _ d => .leaf x ⟨d.k, d.i, wt, d.v⟩
 | .node _ d l r => .node x ⟨d.k, d.i, wt, d.v⟩ l r
theorem er_reW (x : Nat × Nat) (wt : Int) (t : HTree) : (reW x wt t).er = setW wt t.er := by cases t <;> rfl
theorem ann_reW (x : Nat × Nat) (wt : Int) (t : HTree) : (reW x wt t).ann = x := by cases t <;> rfl
def NewT (g : Gt) (m : Nat) (F : Nat × Nat → HTree) (w : World) (e : Ending) (w' : World) : Prop :=
 ∃ x : Nat × Nat, e = .returned (ptr x.1) ∧ w.heap.size ≤ x.1 ∧ w.heap.size ≤ x.2 ∧ x.1 ≠ x.2 ∧ Fr g No w w' ∧ GOk g m w' ∧ HT g w' (F x)
theorem NewT.pre {g : Gt} {m : Nat} {F : Nat × Nat → HTree} {w w1 w' : World} {e : Ending} (hf : Fr g No w w1) (h : NewT g m F w1 e w') : NewT g m F w e w' := by
 obtain ⟨x, he, h1, h2, h3, h4, h5, h6⟩ := h
 have := hf.size
 exact ⟨x, he, by omega, by omega, h3, hf.tr h4, h5, h6⟩
theorem newNode {g : Gt} {n : Nat} {d : It} {lf : Bool} {kids : List Nat} {w : World} {e : Ending} {w' : World} (h : NewRecG g n d lf (kids.map ptr).toArray w e w') (hk : ∀ c ∈ kids, IsRec w c) :
 ∃ x : Nat × Nat, e = .returned (ptr x.1) ∧ w.heap.size ≤ x.1 ∧ w.heap.size ≤ x.2 ∧ x.1 ≠ x.2 ∧ Fr g No w w' ∧ GOk g n w' ∧ NodeAt g w' x.1 x.2 d lf kids := by
 obtain ⟨b, fb, s, rfl, h1, h2, h3, h4, h5, h6, h7, h8, h9⟩ := h
 refine ⟨(b, fb), rfl, h1, h2, h4, h5, h6, s, 2, ?_, h8, h9, .inr rfl, fun c hc => h5.isRec c (hk c hc)⟩
 simpa using h7
theorem newLeaf {g : Gt} {n : Nat} {d : It} {w w' : World} {e : Ending} (h : NewRecG g n d true #[] w e w') : NewT g n (fun x => .leaf x d) w e w' := by
 obtain ⟨x, h⟩ := newNode (kids := []) h (by simp)
 exact ⟨x, h⟩
theorem newInner {g : Gt} {n : Nat} {d : It} {a b : HTree} {w w' : World} {e : Ending} (h : NewRecG g n d false #[ptr a.ann.1, ptr b.ann.1] w e w') (ha : HT g w a) (hb : HT g w b) :
 NewT g n (fun x => .node x d a b) w e w' := by
 obtain ⟨x, h1, h2, h3, h4, h5, h6, h7⟩ := newNode (kids := [a.ann.1, b.ann.1]) h (by
  intro c hc
  simp only [List.mem_cons, List.not_mem_nil, or_false] at hc
  rcases hc with rfl | rfl
  ·exact ha.isRec
  ·exact hb.isRec)
 exact ⟨x, h1, h2, h3, h4, h5, h6, h7, ha.fr0 h5, hb.fr0 h5⟩
section
variable {g : Gt} {m : Nat} {w : World}
theorem Inner_tr {pa pb : Nat} (k i wt : Int) (a b : HTree) (hg : GOk g m w) (ha : HT g w a) (hb : HT g w b) (ea : a.ann.1 = pa) (eb : b.ann.1 = pb) :
 Calls Tryz.prog 91 #[.int .i64 k, .int .i64 i, .int .i64 wt, .pointer (some ⟨pa, 0, none⟩), .pointer (some ⟨pb, 0, none⟩)] w (NewT g m (fun x => .node x ⟨k, i, wt, 0⟩ a b) w) := by
 subst ea eb
 exact (Inner_any (n := m) k i wt _ _ w hg (.inr ⟨_, rfl, ha.isRec⟩) (.inr ⟨_, rfl, hb.isRec⟩)).mono fun e w' h => newInner h ha hb
theorem Leaf_tr (k i wt v : Int) (hg : GOk g m w) : Calls Tryz.prog 92 #[.int .i64 k, .int .i64 i, .int .i64 wt, .int .i64 v] w (NewT g m (fun x => .leaf x ⟨k, i, wt, v⟩) w) :=
 (Leaf_any k i wt v w hg).mono fun e w' h => newLeaf h
set_option maxHeartbeats 400000 in
theorem of_any {b fc n i' : Nat} {fa : Option Addr} {d : It} {lf : Bool} {fs : Value} {info : Nat} {mk : Int} (hg : GOk g m w) (ha : Cl g w b (rc d lf fs info mk) 209) :
 Calls Tryz.prog 278 #[.agg #[ptr b, ptr i', .slice fa n fc]] w fun e w' => e = .returned (.int .i64 d.w) ∧ Fr g No w w' ∧ GOk g m w' := by
 have hF := Fr.alloc g No w (.cells #[ptr b, ptr i', .slice fa n fc] 220) hg
 have hG := hg.alloc (.cells #[ptr b, ptr i', .slice fa n fc] 220)
 have ha1 := hF.at ha id
 unfold ptr at *
 go_enter Tryz.func278, Tryz.ntmps278
 go_wp2_with (go_at_call 232; refine (weight_any ha1).mono ?_; rintro e w1 ⟨rfl, rfl⟩)
 go_ret
 exact ⟨rfl, hF, hG⟩
set_option maxHeartbeats 1000000 in
theorem as_any {i' fc : Nat} {fa : Option Addr} (t : HTree) (wt : Int) (hg : GOk g m w) (hT : HT g w t) (hr : Row g w 99 1 (.slice fa (kidsOf t).length fc) (kidsOf t).length ((kidsOf t).map ptr))
 (hv : t.isLeaf = false → t.it.v = 0) :
 Calls Tryz.prog 193 #[.agg #[ptr t.ann.1, ptr i', .slice fa (kidsOf t).length fc], .int .i64 wt] w (NewT g m (fun x => reW x wt t) w) := by
 obtain ⟨info, hrec⟩ := hT.nd.rec
 have hF := Fr.alloc g No w (.cells #[ptr t.ann.1, ptr i', .slice fa (kidsOf t).length fc] 220) hg
 have hG := hg.alloc (.cells #[ptr t.ann.1, ptr i', .slice fa (kidsOf t).length fc] 220)
 have c0 := rc0 (hF.at hrec id)
 have c1 := rc1 (hF.at hrec id)
 have c2 := rc2 (hF.at hrec id)
 have c3 := rc3 (hF.at hrec id)
 have c4 := rc4 (hF.at hrec id)
 cases t with
 | leaf x d =>
   simp only [kidsOf, ann_leaf, T.it, T.isLeaf, List.length_nil] at *
   unfold ptr at *
   go_enter Tryz.func193, Tryz.ntmps193
   go_wp2_with fail
   have hF2 := hF.tr (Fr.alloc g No _ (.cells #[.int .i64 d.k, .int .i64 d.i, .int .i64 d.w, .int .i64 d.v, .bool true] 184) hG)
   have hG2 := hG.alloc (.cells #[.int .i64 d.k, .int .i64 d.i, .int .i64 d.w, .int .i64 d.v, .bool true] 184)
   refine (Leaf_any d.k d.i wt d.v _ hG2).mono ?_
   rintro e w' h
   obtain ⟨y, rfl, h'⟩ := NewT.pre hF2 (newLeaf h)
   clear hF2 hG2 c0 c1 c2 c3 c4 h
   unfold ptr
   go_wp2_with fail
   go_ret
   exact ⟨y, rfl, h'⟩
 | node x d l r =>
   have hv' : d.v = 0 := hv rfl
   have ea := hT.2.1
   have eb := hT.2.2
   obtain ⟨fb0, rfl, r0, r1⟩ := Row.cells2 hr
   have hF2 := hF.tr (Fr.alloc g No _ (.cells #[.int .i64 d.k, .int .i64 d.i, .int .i64 d.w, .int .i64 d.v, .bool false] 184) hG)
   have hG2 := hG.alloc (.cells #[.int .i64 d.k, .int .i64 d.i, .int .i64 d.w, .int .i64 d.v, .bool false] 184)
   have r0' := (hr.fr hF2 (fun _ _ h => h)).cell 0 (by simp [kidsOf])
   have r1' := (hr.fr hF2 (fun _ _ h => h)).cell 1 (by simp [kidsOf])
   simp only [kidsOf, ann_node, T.it, T.isLeaf, List.length_cons, List.length_nil, List.map_cons, List.map_nil] at *
   generalize hla : l.ann = la at *
   generalize hra : r.ann = ra at *
   have HL := Lib.hid hla
   have HR := Lib.hid hra
   clear hla hra
   unfold ptr at *
   go_enter Tryz.func193, Tryz.ntmps193
   go_wp2_with fail
   have a1 := (Fr.alloc g No _ (.cells #[.int .i64 d.k, .int .i64 d.i, .int .i64 d.w, .int .i64 0, .bool false] 184) hG).at (At.new hg (.cells #[.pointer (some ⟨x.1, 0, none⟩), .pointer (some ⟨i', 0, none⟩), .slice (some ⟨fb0, 0, none⟩) 2 fc] 220)) id
   have a2 := At.new hG (.cells #[.int .i64 d.k, .int .i64 d.i, .int .i64 d.w, .int .i64 0, .bool false] 184)
   simp only [World.size_alloc] at a2
   rw [hv'] at hF2 hG2 r0' r1'
   generalize hW : World.alloc (World.alloc w _) _ = W at *
   have z2 := a1.cell 2
   have y0 := a2.cell 0
   have y1 := a2.cell 1
   have ea2 := ea.fr0 (hF2.tr (Fr.drew g No W))
   have eb2 := eb.fr0 (hF2.tr (Fr.drew g No W))
   clear hW a1 a2
   go_still_tail 13, (by kernel_rfl)
   go_wp2_with fail
   refine (Inner_tr (m := m) d.k d.i wt l r hG2.drew ea2 eb2 (congrArg Prod.fst HL.out) (congrArg Prod.fst HR.out)).mono ?_
   rintro e w' h
   obtain ⟨y, rfl, h'⟩ := NewT.pre (hF2.tr (Fr.drew g No W)) h
   clear h
   unfold ptr
   go_wp2_with fail
   go_ret
   exact ⟨y, rfl, by simpa [reW, hv'] using h'⟩
set_option maxHeartbeats 1000000 in
theorem less_any {i' fc : Nat} {fa : Option Addr} (t : HTree) (hg : GOk g m w) (hT : HT g w t) (hr : Row g w 99 1 (.slice fa (kidsOf t).length fc) (kidsOf t).length ((kidsOf t).map ptr))
 (hv : t.isLeaf = false → t.it.v = 0) (hb0 : 0 ≤ t.it.w) (hb1 : t.it.w ≤ 1000) :
 Calls Tryz.prog 280 #[.agg #[ptr t.ann.1, ptr i', .slice fa (kidsOf t).length fc]] w (NewT g m (fun x => reW x (t.it.w - 1) t) w) := by
 obtain ⟨info, hrec⟩ := hT.nd.rec
 have hF := Fr.alloc g No w (.cells #[ptr t.ann.1, ptr i', .slice fa (kidsOf t).length fc] 220) hg
 have hG := hg.alloc (.cells #[ptr t.ann.1, ptr i', .slice fa (kidsOf t).length fc] 220)
 have hbx := At.new hg (.cells #[ptr t.ann.1, ptr i', .slice fa (kidsOf t).length fc] 220)
 go_enter Tryz.func280, Tryz.ntmps280
 go_wp2_with fail
 generalize hW : World.alloc w _ = W at *
 have hT1 := hT.fr0 hF
 have hrec1 := hF.at hrec id
 have hr1 := hr.fr hF (fun _ _ h => h)
 refine wp_region_X (S := fun w' => Fr g No W w') [] (by kernel_rfl) ?_
 refine tX 0 _ rfl (by kernel_rfl) (fun _ _ _ => id) (Fr.drew g No _) (by rfl) (by intro wq hSq; have z0 := (hSq.at hbx id).cell 0; have z1 := (hSq.at hbx id).cell 1; have z2 := (hSq.at hbx id).cell 2; go_simp <;> with_reducible rfl) ?_
 try go_frame
 refine tX 1 _ rfl (by kernel_rfl) (fun _ _ _ => id) (Fr.drew g No _) (by rfl) (by intro wq hSq; have z0 := (hSq.at hbx id).cell 0; have z1 := (hSq.at hbx id).cell 1; have z2 := (hSq.at hbx id).cell 2; go_simp <;> with_reducible rfl) ?_
 try go_frame
 refine wpAnyX_ready (rs := [2]) (by kernel_rfl) (by simp) ?_
 refine ReadyX.cons rfl (fun K hK => ?_) ReadyX.nil
 go_simp
 refine (of_any hG.drew hrec1.drew).mono ?_
 rintro e w1 ⟨rfl, hF1, hG1⟩
 refine hK.out _ _ ((Fr.drew g No W).tr hF1) (fun hS2 => ?_)
 clear hK K
 try go_frame
 refine tY 3 _ rfl (by kernel_rfl) (fun _ _ _ => id) hS2 (by rfl) (by intro wq _; go_simp <;> with_reducible rfl) ?_
 try go_frame
 refine wpAnyX_ready (rs := [4]) (by kernel_rfl) (by simp) ?_
 refine ReadyX.cons rfl (fun K hK => ?_) ReadyX.nil
 go_simp
 rw [IntWalk.i64_in (t.it.w - 1) (by omega)]
 refine (as_any t (t.it.w - 1) hG1 (hT1.fr0 hS2) (hr1.fr hS2 (fun _ _ h => h)) hv).mono ?_
 rintro e w2 h
 obtain ⟨y, rfl, h'⟩ := NewT.pre (hF.tr hS2) h
 have hS3 : Fr g No W w2 := hS2.tr (by obtain ⟨y, _, _, _, _, h, _⟩ := h; exact h)
 refine hK.out _ _ hS3 (fun hS4 => ?_)
 clear hK K
 try go_frame
 refine tY 5 _ rfl (by kernel_rfl) (fun _ _ _ => id) hS4 (by rfl) (by intro wq _; go_simp <;> with_reducible rfl) ?_
 try go_frame
 refine wpAnyX_done (by kernel_rfl) ?_ _
 unfold ptr
 go_wp2_with fail
 go_ret
 exact ⟨y, rfl, h'⟩
set_option maxHeartbeats 1000000 in
theorem inner_any {b i' fc n : Nat} {fa : Option Addr} {d : It} {lf : Bool} {fs : Value} {info : Nat} (s : Bool) (wt : Int) (A B : HTree) (pa pb : Nat) (ea : A.ann.1 = pa) (eb : B.ann.1 = pb) (hg : GOk g m w)
 (hk : Cl g w b (rc d lf fs info 0) 209) (ha : HT g w A) (hb : HT g w B) :
 Calls Tryz.prog 277 #[.agg #[ptr b, ptr i', .slice fa n fc], .int .i64 wt, .int .i64 (if s then 1 else 0), .pointer (some ⟨pa, 0, none⟩), .pointer (some ⟨pb, 0, none⟩)] w (NewT g m (fun x => mk x (nd d.k wt) s A B) w) := by
 have hF := Fr.alloc g No w (.cells #[ptr b, ptr i', .slice fa n fc] 220) hg
 have hG := hg.alloc (.cells #[ptr b, ptr i', .slice fa n fc] 220)
 have c0 := rc0 (hF.at hk id)
 have ha1 := ha.fr0 hF
 have hb1 := hb.fr0 hF
 unfold ptr at *
 cases s with
 | false =>
   simp only [Bool.false_eq_true, if_false]
   go_enter Tryz.func277, Tryz.ntmps277
   go_wp2_with fail
   refine (Inner_tr d.k 0 wt A B hG ha1 hb1 ea eb).mono ?_
   rintro e w' h
   obtain ⟨y, rfl, h'⟩ := NewT.pre hF h
   clear h
   unfold ptr
   go_wp2_with fail
   go_ret
   exact ⟨y, rfl, h'⟩
 | true =>
   simp only [if_true]
   go_enter Tryz.func277, Tryz.ntmps277
   go_wp2_with fail
   refine (Inner_tr d.k 0 wt B A hG hb1 ha1 eb ea).mono ?_
   rintro e w' h
   obtain ⟨y, rfl, h'⟩ := NewT.pre hF h
   clear h
   unfold ptr
   go_wp2_with fail
   go_ret
   exact ⟨y, rfl, h'⟩
set_option maxHeartbeats 400000 in
theorem weightBelow_any {be b : Nat} {d : It} {lf : Bool} {fs : Value} {info : Nat} (wt : Int) (he : IsRec w be) (ha : Cl g w b (rc d lf fs info 0) 209) :
 Calls Tryz.prog 189 #[ptr be, ptr b, .int .i64 wt] w fun e w' => e = .returned (.int .i64 (if b ≠ be ∧ d.i = 1 then 1 else wt)) ∧ w = w' := by
 have h1 := rc1 ha
 have hne := neq_rec (a := b) (b := be) ⟨_, ha.1, rfl⟩ he
 unfold ptr
 by_cases hb : b = be
 ·subst hb
  rw [show (!decide (b = b)) = false from by simp] at hne
  rw [if_neg (by simp)]
  go_enter Tryz.func189, Tryz.ntmps189
  go_wp2
  go_ret
  exact ⟨rfl, rfl⟩
 ·rw [show (!decide (b = be)) = true from by simp [hb]] at hne
  by_cases hi : d.i = 1
  ·rw [if_pos ⟨hb, hi⟩]
   rw [hi] at h1
   clear ha
   go_enter Tryz.func189, Tryz.ntmps189
   go_wp2
   go_ret
   exact ⟨rfl, rfl⟩
  ·rw [if_neg (by simp [hi])]
   have hi' : (d.i == 1) = false := by simp [hi]
   go_enter Tryz.func189, Tryz.ntmps189
   go_wp2
   go_ret
   exact ⟨rfl, rfl⟩
end
end Go.Proofs.YtdmobhndbibhoaaGreat
namespace Go.Proofs.YtdmobhndbibhoaaGreat
set_option linter.unusedVariables false
set_option linter.unusedSimpArgs false
open Go.RowKit Larch
set_option maxRecDepth 100000
attribute [local go_sem ↓] Go.wp_at_zero Go.wp_at_succ
theorem ScxSt.isScx {g : Gt} {w : World} {s : Nat} {st : Int} (h : ScxSt g w s st) : IsScx w s := by
 obtain ⟨sc, h, h8, _⟩ := h; exact ⟨_, h.1, h8⟩
set_option maxHeartbeats 2000000 in
theorem swap_any {g : Gt} {m tb k0 k1 p : Nat} {L : List VRec} {r0 : VRec} {w : World} (s : Bool) (hg : GOk g m w) (hm : m + 2 * (r0 :: L).length + 3 < LIM) (hL : (r0 :: L).length < 900)
 (ht : TrySt g w tb (r0 :: L)) (hnd : ((r0 :: L).map (·.b)).Nodup) (hk : r0.kids = [k0, k1]) (hfin : r0.fin = false) (hp : IsRec w p) :
 Calls Tryz.prog 140 #[.pointer (some ⟨tb, 0, none⟩), .int .i64 (if s then 1 else 0), .pointer (some ⟨p, 0, none⟩)] w fun e w' => e = .returned (.bool true) ∧
  Fr g (fun c => c = r0.fb ∨ ∃ r ∈ r0 :: L, c = r.b) w w' ∧ GOk g (m + 2 * (r0 :: L).length + 3) w' ∧ NodeAt g w' r0.b r0.fb r0.d r0.lf (if s then [k0, p] else [p, k1]) := by
 obtain ⟨v, f, htb, hv, hf, hall⟩ := ht
 obtain ⟨bv, cv, rfl⟩ := hv.pos (by simp)
 obtain ⟨bf, cf, rfl⟩ := hf.pos (by simp)
 have hr0 := hall r0 (by simp)
 obtain ⟨q1, ⟨st, q2, q3⟩, q4, q5, q6⟩ := hr0
 rw [hk] at q4 q5 q6
 obtain ⟨b0, c0, hb0⟩ := q6.pos (by simp)
 have hdr := Fr.drew g No w
 have t0 := htb.cell 0
 have t1 := htb.cell 1
 have t2 := htb.cell 2
 have t3 := htb.cell 3
 have hsl : ∀ r ∈ r0 :: L, ∃ a l c, r.fv = .slice a l c := fun r hr => by
  obtain ⟨a, c, h⟩ := (hall r hr).2.2.2.2.slice; exact ⟨a, _, c, h⟩
 have hlk : LinkedAll g w (r0 :: L) := fun r hr => ⟨(hall r hr).1, by obtain ⟨st, h, _⟩ := (hall r hr).2.1; exact h.isScx⟩
 have hS := SCX_any (g := g) (m := m) (bv := bv) (cv := cv) (bf := bf) (cf := cf) (b0 := b0) (c0 := c0) (f := if s then 1 else 0) (fb := r0.fb) (L := r0 :: L) (r0 := r0)
  (fc := ([k0, k1].map ptr).toArray) (old := some ⟨if s then k1 else k0, 0, none⟩) (p := some ⟨p, 0, none⟩) (xs := [ptr k0, ptr k1]) (w := w.drew)
  hg.drew hm (by simp) (by omega) rfl hnd (hv.fr hdr (fun _ _ h => h)) (hf.fr hdr (fun _ _ h => h)) hb0 (by rw [hb0] at q6; exact q6.fr hdr (fun _ _ h => h)) (by cases s <;> simp)
  (by cases s <;> simp [ptr]) hsl hlk (by simp [VRec.fs, hk]) hfin q4.drew (by cases s <;> simp [ptr]) (.inr ⟨_, rfl, by cases s <;> exact q5 _ (by simp)⟩) (.inr ⟨p, rfl, hp⟩)
 have hpost : ∀ e w', SwapR g m r0.fb (if s then 1 else 0) (r0 :: L) r0 ([k0, k1].map ptr).toArray (some ⟨p, 0, none⟩) w.drew e w' → e = .returned (.bool true) ∧
  Fr g (fun c => c = r0.fb ∨ ∃ r ∈ r0 :: L, c = r.b) w w' ∧ GOk g (m + 2 * (r0 :: L).length + 3) w' ∧ NodeAt g w' r0.b r0.fb r0.d r0.lf (if s then [k0, p] else [p, k1]) := by
  rintro e w' ⟨he, h1, h2, sx, h3, h4, h5, h6⟩
  refine ⟨he, hdr.trans h1 (fun _ _ h => h.elim) (fun _ _ h => h), h2, sx, 1, ?_, ?_, h6, .inl rfl, ?_⟩
  ·rw [VRec.fs, hk] at h4; cases s <;> exact h4
  ·cases s <;> simpa [ptr] using h5
  ·intro c hc
   have k := h1.isRec
   cases s <;> simp at hc <;> rcases hc with rfl | rfl <;> first | exact k _ hp | exact k _ (q5 _ (by simp))
 have HP := Lib.hid hpost
 generalize hn : (r0 :: L).length = n at *
 clear hpost hall hsl hlk q1 q2 q4 q5 q6 hv hf hnd hm
 cases s with
 | false =>
   simp only [Bool.false_eq_true, if_false] at *
   go_enter Tryz.func140, Tryz.ntmps140
   go_wp2_with fail
   go_still_tail 19, (by kernel_rfl)
   go_wp2_with fail
   refine hS.mono ?_
   rintro e w' h
   have h' := HP.out e w' h
   obtain ⟨rfl, h2⟩ := h'
   have H2 := Lib.hid h2
   clear h h2 hS HP
   go_wp2_with fail
   go_ret
   exact ⟨rfl, H2.out⟩
 | true =>
   simp only [if_true] at *
   go_enter Tryz.func140, Tryz.ntmps140
   go_wp2_with fail
   go_still_tail 19, (by kernel_rfl)
   go_wp2_with fail
   refine hS.mono ?_
   rintro e w' h
   have h' := HP.out e w' h
   obtain ⟨rfl, h2⟩ := h'
   have H2 := Lib.hid h2
   clear h h2 hS HP
   go_wp2_with fail
   go_ret
   exact ⟨rfl, H2.out⟩
end Go.Proofs.YtdmobhndbibhoaaGreat
namespace Go.Proofs.YtdmobhndbibhoaaGreat
open Go.RowKit Larch
set_option maxRecDepth 100000
set_option linter.unusedVariables false
set_option linter.unusedSimpArgs false
attribute [local go_sem ↓] Go.wp_at_zero Go.wp_at_succ
theorem neq_scx (s : Nat) (w : World) : (binOp .neq 194 (.pointer (some ⟨s, 0, none⟩)) (.pointer (some ⟨s, 0, none⟩))).run Tryz.prog w = .ok (.bool false) w :=
 neq_ptr Tryz.underlying194 z278 (samePointer_self _ w)
theorem IsScx.alloc {w : World} {b : Nat} (h : IsScx w b) (o : Obj) : IsScx (w.alloc o) b := (Fr.alloc g00 No w o (n := 0) ok00).isScx b h
set_option maxHeartbeats 4000000 in
theorem VLX_any {g : Gt} {m bv cv : Nat} {L : List VRec} {w : World} (hg : GOk g m w) (hm : m + L.length < LIM) (hL0 : 0 < L.length) (hL : L.length < 900000)
 (hv : Row g w 220 3 (.slice (some ⟨bv, 0, none⟩) L.length cv) L.length (vL L)) (hr : ∀ r ∈ L, VI g w r) :
 Calls Tryz.prog 225 #[gval g, .slice (some ⟨bv, 0, none⟩) L.length cv] w fun e w' => e = .returned (.bool true) ∧ Fr g No w w' ∧ GOk g (m + L.length) w' := by
 go_enter Tryz.func225, Tryz.ntmps225
 go_wp2_with fail
 go_loopw [9] (fun i wr => ∃ k : Nat, k ≤ L.length ∧ i = .int .i64 k ∧ Fr g No w wr ∧ GOk g (m + k) wr) (fun i _ => L.length - (intOf i).toNat)
 case atStart => exact ⟨0, Nat.zero_le _, rfl, Fr.refl _ _ _, hg⟩
 case round =>
  obtain ⟨k, hk, rfl, hFr, hGr⟩ := hrel
  by_cases hlt : k < L.length
  ·have hrk := List.getElem?_eq_getElem hlt
   generalize L[k] = r at hrk
   have hVr := VI.fr (hr r (mem_of_get hrk)) hFr (fun _ _ _ _ _ h => h)
   obtain ⟨q0, q1, q2⟩ := vL_get L k r hrk
   have hvr := hv.fr hFr (fun _ _ h => h)
   have hc0 : wr.cell? ⟨bv, k * 3, none⟩ = some (.pointer (some ⟨r.b, 0, none⟩)) := by rw [hvr.cell (k * 3) (by omega), q0]
   have hc1 : wr.cell? ⟨bv, k * 3 + 1, none⟩ = some (.pointer (some ⟨r.info, 0, none⟩)) := by rw [hvr.cell (k * 3 + 1) (by omega), q1]
   have hc2 : wr.cell? ⟨bv, k * 3 + 2, none⟩ = some r.fv := by rw [hvr.cell (k * 3 + 2) (by omega), q2]
   obtain ⟨fa, fl, fcp, hfvr⟩ := hVr.2.2
   rw [hfvr] at hc2
   have hbx := At.new hGr (.cells #[.pointer (some ⟨r.b, 0, none⟩), .pointer (some ⟨r.info, 0, none⟩), .slice fa fl fcp] 220)
   have hF1 := Fr.alloc g No wr (.cells #[.pointer (some ⟨r.b, 0, none⟩), .pointer (some ⟨r.info, 0, none⟩), .slice fa fl fcp] 220) hGr
   have hq := neq_scx r.info
   clear hrk q0 q1 q2 hfvr hvr
   have hVr : Cl g wr r.b (rc r.d r.lf r.fs r.info 0) 209 ∧ IsScx wr r.info := ⟨hVr.1, hVr.2.1⟩
   clear hr hv
   go_wp2_with fail
   have hS := hbx.drew
   refine wp_region_X (S := fun w' => Cl g w' wr.heap.size #[.pointer (some ⟨r.b, 0, none⟩), .pointer (some ⟨r.info, 0, none⟩), .slice fa fl fcp] 220) [] (by kernel_rfl) ?_
   refine tY 0 _ rfl (by kernel_rfl) (fun _ _ _ => id) hS (by rfl) (by intro wq _; go_simp <;> with_reducible rfl) ?_
   try go_frame
   refine tY 2 _ rfl (by kernel_rfl) (fun _ _ _ => id) hS (by rfl) (by intro wq _; go_simp <;> with_reducible rfl) ?_
   try go_frame
   refine tY 4 _ rfl (by kernel_rfl) (fun _ _ _ => id) hS (by rfl) (by intro wq _; go_simp <;> with_reducible rfl) ?_
   try go_frame
   refine tX 1 _ rfl (by kernel_rfl) (fun _ _ _ => id) hS (by rfl) (by intro wq hSq; have z0 := hSq.cell 0; have z1 := hSq.cell 1; have z2 := hSq.cell 2; go_simp <;> with_reducible rfl) ?_
   try go_frame
   refine tX 5 _ rfl (by kernel_rfl) (fun _ _ _ => id) hS (by rfl) (by intro wq hSq; have z0 := hSq.cell 0; have z1 := hSq.cell 1; have z2 := hSq.cell 2; go_simp <;> with_reducible rfl) ?_
   try go_frame
   refine wpAnyX_ready (rs := [3]) (by kernel_rfl) (by simp) ?_
   refine ReadyX.cons rfl (fun K hK => ?_) ReadyX.nil
   go_simp
   refine (Rec_Info (hGr.alloc _).drew (by omega) ((At.alloc hGr hVr.1 _).drew) (IsScx.alloc hVr.2 _)).mono ?_
   rintro e w1 ⟨rfl, f1, hG1⟩
   have hSn := f1.at hS id
   refine hK.out _ _ hSn (fun hSx => ?_)
   clear hK K hS
   have hS := hSx
   clear hSx hSn
   try go_frame
   refine tY 6 _ rfl (by kernel_rfl) (fun _ _ _ => id) hS (by rfl) (by intro wq _; go_simp <;> with_reducible rfl) ?_
   try go_frame
   refine wpAnyX_done (by kernel_rfl) ?_ _
   have HE : Hid (Fr g No w w1 ∧ GOk g (m + k + 1) w1) := ⟨(hFr.tr hF1).tr ((Fr.drew g No _).tr f1), hG1⟩
   clear hS f1 hG1 hF1 hVr hbx
   go_wp2_with fail
   go_roundw
   case rel => exact ⟨k + 1, by omega, by go_num, HE.out.1, HE.out.2⟩
   case measure => simp [intOf]; omega
  ·have hkL : k = L.length := by omega
   subst hkL
   have HE : Hid (Fr g No w wr ∧ GOk g (m + L.length) wr) := ⟨hFr, hGr⟩
   have hLi : ¬ ((L.length : Int) < (L.length : Int)) := by omega
   clear hr hv
   go_wp2_with fail
   go_ret
   exact ⟨rfl, HE.out⟩
set_option maxHeartbeats 1000000 in
theorem holds_any {g : Gt} {m vb : Nat} {L : List VRec} {w : World} (hg : GOk g m w) (hm : m + L.length < LIM) (hL0 : 0 < L.length) (hL : L.length < 900000) (ht : VisSt g w vb L) :
 Calls Tryz.prog 185 #[.pointer (some ⟨vb, 0, none⟩)] w fun e w' => e = .returned (.bool true) ∧ Fr g No w w' ∧ GOk g (m + L.length) w' := by
 obtain ⟨v, hvb, hv, hr⟩ := ht
 obtain ⟨bv, cv, rfl⟩ := hv.pos hL0
 have c0 := hvb.cell 0
 have c1 := hvb.cell 1
 have hV := VLX_any hg.drew hm hL0 hL (hv.fr (Fr.drew g No w) (fun _ _ h => h)) (fun r h => (hr r h).fr (Fr.drew g No w) (fun _ _ _ _ _ h => h))
 generalize hn : L.length = n at *
 clear hv hr
 go_enter Tryz.func185, Tryz.ntmps185
 go_wp2_with fail
 go_still_tail 8, (by kernel_rfl)
 go_wp2_with fail
 refine hV.mono ?_
 rintro e w1 ⟨rfl, f, g'⟩
 have HE : Hid (Fr g No w w1 ∧ GOk g (m + n) w1) := ⟨(Fr.drew g No w).tr f, g'⟩
 clear hV f g'
 go_wp2_with fail
 go_ret
 exact ⟨rfl, HE.out⟩
end Go.Proofs.YtdmobhndbibhoaaGreat
namespace Go.Proofs.YtdmobhndbibhoaaGreat
set_option linter.unusedVariables false
set_option linter.unusedSimpArgs false
open Go.RowKit Larch
set_option maxRecDepth 100000
attribute [local go_sem ↓] Go.wp_at_zero Go.wp_at_succ
section
variable {g : Gt} {m : Nat} {w : World}
set_option maxHeartbeats 400000 in
theorem red1_any {b : Nat} {d : It} {lf : Bool} {fs : Value} {info : Nat} {mk : Int} (ha : Cl g w b (rc d lf fs info mk) 209) :
 Calls Tryz.prog 313 #[ptr b] w fun e w' => e = .returned (.bool (d.w == 0)) ∧ w = w' := by
 unfold ptr
 go_enter Tryz.func313, Tryz.ntmps313
 go_wp2_with (go_at_call 232; refine (weight_any ha).mono ?_; rintro e w1 ⟨rfl, rfl⟩)
 go_ret
 exact ⟨rfl, rfl⟩
set_option maxHeartbeats 1000000 in
theorem IndexF_nil {fa : Option Addr} {fc : Nat} :
 Calls Tryz.prog 312 #[.slice fa 0 fc, .func (.func 313) #[] #[]] w fun e w' => e = .returned (.bool false) ∧ w = w' := by
 have h324 : Calls Tryz.prog 324 #[.slice fa 0 fc, .func (.func 313) #[] #[]] w fun e w' => e = .returned (.int .i64 (-1)) ∧ w = w' := by
  go_enter Tryz.func324, Tryz.ntmps324
  go_wp2_with fail
  refine wp_loop_rounds 1 ?_
  rw [rounds_succ]
  go_wp2_with fail
  go_ret
  exact ⟨rfl, rfl⟩
 go_enter Tryz.func312, Tryz.ntmps312
 go_wp2_with (go_at_call 324; refine h324.mono ?_; rintro e w1 ⟨rfl, rfl⟩)
 go_ret
 exact ⟨rfl, rfl⟩
set_option maxHeartbeats 2000000 in
theorem IndexF_two {fa : Option Addr} {fc c0 c1 : Nat} {d0 d1 : It} {l0 l1 : Bool} {f0 f1 : Value} {i0 i1 : Nat} (hr : Row g w 99 1 (.slice fa 2 fc) 2 [ptr c0, ptr c1])
 (h0 : Cl g w c0 (rc d0 l0 f0 i0 0) 209) (h1 : Cl g w c1 (rc d1 l1 f1 i1 0) 209) :
 Calls Tryz.prog 312 #[.slice fa 2 fc, .func (.func 313) #[] #[]] w fun e w' => e = .returned (.bool (d0.w == 0 || d1.w == 0)) ∧ w = w' := by
 obtain ⟨b, rfl, r0, r1⟩ := hr.cells2
 have q0 := red1_any h0
 have q1 := red1_any h1
 unfold ptr at *
 have h324 : Calls Tryz.prog 324 #[.slice (some ⟨b, 0, none⟩) 2 fc, .func (.func 313) #[] #[]] w fun e w' => e = .returned (.int .i64 (if d0.w == 0 then 0 else if d1.w == 0 then 1 else -1)) ∧ w = w' := by
  clear h0 h1 hr
  cases e0 : (d0.w == 0) with
  | true =>
    rw [e0] at q0
    simp only [if_true]
    go_enter Tryz.func324, Tryz.ntmps324
    go_wp2_with fail
    refine wp_loop_rounds 1 ?_
    rw [rounds_succ]
    go_wp2_with fail
    refine q0.mono ?_
    rintro e w1 ⟨rfl, rfl⟩
    go_wp2_with fail
    go_ret
    exact ⟨rfl, rfl⟩
  | false =>
    cases e1 : (d1.w == 0) with
    | true =>
      rw [e0] at q0
      rw [e1] at q1
      simp only [if_true, Bool.false_eq_true, if_false]
      go_enter Tryz.func324, Tryz.ntmps324
      go_wp2_with fail
      refine wp_loop_rounds 2 ?_
      rw [rounds_succ]
      go_wp2_with fail
      refine q0.mono ?_
      rintro e w1 ⟨rfl, rfl⟩
      go_wp2_with fail
      rw [rounds_succ]
      go_wp2_with fail
      refine q1.mono ?_
      rintro e w1 ⟨rfl, rfl⟩
      go_wp2_with fail
      go_ret
      exact ⟨rfl, rfl⟩
    | false =>
      rw [e0] at q0
      rw [e1] at q1
      simp only [Bool.false_eq_true, if_false]
      go_enter Tryz.func324, Tryz.ntmps324
      go_wp2_with fail
      refine wp_loop_rounds 3 ?_
      rw [rounds_succ]
      go_wp2_with fail
      refine q0.mono ?_
      rintro e w1 ⟨rfl, rfl⟩
      go_wp2_with fail
      rw [rounds_succ]
      go_wp2_with fail
      refine q1.mono ?_
      rintro e w1 ⟨rfl, rfl⟩
      go_wp2_with fail
      rw [rounds_succ]
      go_wp2_with fail
      go_ret
      exact ⟨rfl, rfl⟩
 have hc : ∀ a b : Bool, (if a then (0 : Int) else if b then 1 else -1) ≥ 0 ↔ (a || b) = true := by intro a b; cases a <;> cases b <;> simp
 generalize hx : (if (d0.w == 0) = true then (0 : Int) else if (d1.w == 0) = true then 1 else -1) = x at *
 have hx' := hc (d0.w == 0) (d1.w == 0)
 rw [hx] at hx'
 have HX := Lib.hid hx'
 clear hx hc hx' q0 q1 h0 h1 hr
 go_enter Tryz.func312, Tryz.ntmps312
 go_wp2_with (go_at_call 324; refine h324.mono ?_; rintro e w1 ⟨rfl, rfl⟩)
 go_ret
 refine ⟨?_, rfl⟩
 have := HX.out
 cases hb : (d0.w == 0 || d1.w == 0) <;> simp_all
set_option maxHeartbeats 1000000 in
theorem reds_any {i' fc : Nat} {fa : Option Addr} (t : HTree) (hg : GOk g m w) (hT : HT g w t) (hr : Row g w 99 1 (.slice fa (kidsOf t).length fc) (kidsOf t).length ((kidsOf t).map ptr)) :
 Calls Tryz.prog 276 #[.agg #[ptr t.ann.1, ptr i', .slice fa (kidsOf t).length fc]] w fun e w' => e = .returned (.bool (!t.isLeaf && ((t.ch false).it.w == 0 || (t.ch true).it.w == 0))) ∧ Fr g No w w' ∧ GOk g m w' := by
 have hF := Fr.alloc g No w (.cells #[ptr t.ann.1, ptr i', .slice fa (kidsOf t).length fc] 220) hg
 have hG := hg.alloc (.cells #[ptr t.ann.1, ptr i', .slice fa (kidsOf t).length fc] 220)
 have hC : Calls Tryz.prog 312 #[.slice fa (kidsOf t).length fc, .func (.func 313) #[] #[]] (w.alloc (.cells #[ptr t.ann.1, ptr i', .slice fa (kidsOf t).length fc] 220))
  fun e w' => e = .returned (.bool (!t.isLeaf && ((t.ch false).it.w == 0 || (t.ch true).it.w == 0))) ∧ (w.alloc (.cells #[ptr t.ann.1, ptr i', .slice fa (kidsOf t).length fc] 220)) = w' := by
  cases t with
  | leaf x d => exact IndexF_nil
  | node x d l r =>
    have hT1 := hT.fr0 hF
    obtain ⟨ia, ha⟩ := hT1.2.1.nd.rec
    obtain ⟨ib, hb⟩ := hT1.2.2.nd.rec
    exact IndexF_two (hr.fr hF (fun _ _ h => h)) ha hb
 clear hr hT
 go_enter Tryz.func276, Tryz.ntmps276
 go_wp2_with (go_at_call 312; refine hC.mono ?_; rintro e w1 ⟨rfl, rfl⟩)
 go_ret
 exact ⟨rfl, hF, hG⟩
end
end Go.Proofs.YtdmobhndbibhoaaGreat
