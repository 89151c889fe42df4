/- The tree in memory and its plain shape. -/
import Derived.Test.YtdmobhndbibhoaaGreatA24
import Derived.Test.YtdmobhndbibhoaaGreatA21
import Derived.Test.YtdmobhndbibhoaaGreatA22
import Derived.Test.YtdmobhndbibhoaaGreatA23
import Derived.Test.YtdmobhndbibhoaaGreatA25
import Derived.Test.YtdmobhndbibhoaaGreatA26
import Derived.Test.YtdmobhndbibhoaaGreatA27
import Derived.Test.YtdmobhndbibhoaaGreatA28
import Derived.Test.YtdmobhndbibhoaaGreatA29
import Derived.Test.YtdmobhndbibhoaaGreatA30
import Derived.Test.YtdmobhndbibhoaaGreatA31
namespace Go.Proofs.YtdmobhndbibhoaaGreat
set_option linter.unusedVariables false
set_option linter.unusedSimpArgs false
open Go.RowKit Larch
set_option maxRecDepth 100000
def erF (f : HFr) : Larch.Fr Unit := ⟨(), f.d, f.s, f.sib.er⟩
def erC (c : List HFr) : List (Larch.Fr Unit) := c.map erF
theorem er_it (t : HTree) : t.er.it = t.it := by cases t <;> rfl
theorem er_isLeaf (t : HTree) : t.er.isLeaf = t.isLeaf := by cases t <;> rfl
theorem er_size (t : HTree) : t.er.size = t.size := by
 induction t with
 | leaf x d => rfl
 | node x d l r ihl ihr =>
   have h : (T.node x d l r).er = .node () d l.er r.er := rfl
   rw [h]; simp only [T.size, ihl, ihr]
theorem er_node (x : Nat × Nat) (d : It) (l r : HTree) : (T.node x d l r).er = .node () d l.er r.er := rfl
theorem er_leaf (x : Nat × Nat) (d : It) : (T.leaf x d : HTree).er = .leaf () d := rfl
theorem er_plug (c : List HFr) : ∀ t : HTree, (plug c t).er = plug (erC c) t.er := by
 induction c with
 | nil => intro t; rfl
 | cons f c ih => intro t; rw [plug, ih, er_mk]; rfl
theorem viol_er (key : Int) (t : HTree) : ∀ c : List HFr, viol key (erC c) t.er = (viol key c t).map fun z => (erC z.1, z.2.er) := by
 induction t with
 | leaf x d => intro c; rfl
 | node x d l r ihl ihr =>
   intro c
   rw [er_node]
   simp only [viol, er_it]
   split
   ·split
    ·rfl
    ·exact ihl (⟨x, d, false, r⟩ :: c)
   ·split
    ·rfl
    ·exact ihr (⟨x, d, true, l⟩ :: c)
theorem way_er (key : Int) (t : HTree) : ∀ c : List HFr, way key (erC c) t.er = (erC (way key c t).1, (way key c t).2.er) := by
 induction t with
 | leaf x d => intro c; rfl
 | node x d l r ihl ihr =>
   intro c
   rw [er_node]
   simp only [way]
   split
   ·exact ihl (⟨x, d, false, r⟩ :: c)
   ·exact ihr (⟨x, d, true, l⟩ :: c)
theorem viol_plug_back (key : Int) (t : HTree) : ∀ (c c' : List HFr) (v : HTree), viol key c t = some (c', v) → plug c' v = plug c t := by
 induction t with
 | leaf x d => intro c c' v h; simp [viol] at h
 | node x d l r ihl ihr =>
   intro c c' v h
   simp only [viol] at h
   split at h
   ·split at h
    ·cases h; rfl
    ·exact ihl _ _ _ h
   ·split at h
    ·cases h; rfl
    ·exact ihr _ _ _ h
theorem way_plug_back (key : Int) (t : HTree) : ∀ c : List HFr, plug (way key c t).1 (way key c t).2 = plug c t := by
 induction t with
 | leaf x d => intro c; rfl
 | node x d l r ihl ihr =>
   intro c
   simp only [way]
   split
   ·exact ihl (⟨x, d, false, r⟩ :: c)
   ·exact ihr (⟨x, d, true, l⟩ :: c)
theorem RBk_er (t : HTree) : ∀ h, RBk t.er h ↔ RBk t h := by
 induction t with
 | leaf x d => intro h; exact Iff.rfl
 | node x d l r ihl ihr =>
   intro h
   rw [er_node]
   simp only [RBk, er_it, er_isLeaf, ihl, ihr]
theorem erC_len (c : List HFr) : (erC c).length = c.length := by simp [erC]
theorem erC_cons {c : List HFr} {f : Larch.Fr Unit} {k : List (Larch.Fr Unit)} (h : erC c = f :: k) : ∃ f' c', c = f' :: c' ∧ erF f' = f ∧ erC c' = k := by
 cases c with
 | nil => cases h
 | cons f' c' =>
   simp only [erC, List.map_cons, List.cons.injEq] at h
   exact ⟨f', c', rfl, h.1, h.2⟩
theorem RBk.v0 {t : HTree} {h : Int} (hr : RBk t h) (hl : t.isLeaf = false) : t.it.v = 0 := by
 cases t with
 | leaf x d => cases hl
 | node x d l r => exact hr.2.1
end Go.Proofs.YtdmobhndbibhoaaGreat
namespace Go.Proofs.YtdmobhndbibhoaaGreat
set_option linter.unusedVariables false
set_option linter.unusedSimpArgs false
open Go.RowKit Larch
set_option maxRecDepth 100000
theorem it_node' {α : Type} (x : α) (d : It) (l r : T α) : (T.node x d l r).it = d := rfl
theorem kid_one {t : HTree} {h : Int} (hr : RBk t h) (h0 : t.it.w = 0) : (t.ch false).it.w = 1 ∧ (t.ch true).it.w = 1 ∨ t.isLeaf = true := by
 cases t with
 | leaf x d => exact .inr rfl
 | node x d l r =>
   obtain ⟨_, _, _, _, h1, h2⟩ := hr
   have h0 : d.w = 0 := h0
   left
   constructor
   ·rcases h1 with h | h
    ·exact h
    ·exact absurd h0 h.2.2
   ·rcases h2 with h | h
    ·exact h
    ·exact absurd h0 h.2.2
theorem red_all {g : Gt} {m be : Nat} {u : HFr} {c : List HFr} {ex fx : Nat × Nat} {ed fd : It} {es fs : Bool} {v sf se : HTree} {w : World} {h h' : Int} (hg : GOk g m w) (hm : m + 200 < LIM)
 (hTr : Tree g w (plug (u :: c) (mk ex ed es (mk fx fd fs v sf) se))) (he : IsRec w be) (hbe : u.x.1 ≠ be) (hdw : ed.w = 1) (hdi : ed.i = 0) (hfw : fd.w = 0) (hfv : fd.v = 0)
 (hv0 : v.it.w = 0) (hvn : v.isLeaf = false) (hsf : sf.it.w = 1) (hse : RBk se h) (hsw : W01 se) (hv : RBk v h') :
 Calls Tryz.prog 234 #[gval g, ptr be, ptr u.x.1, ptr ex.1, ptr fx.1] w (StepR g (m + 200) u c (redN u.d es (mk () ed es (mk () fd fs v.er sf.er) se.er)) w) := by
 have hFa : (mk fx fd fs v sf).ann = fx := mk_ann _ _ _ _ _
 have hFw : (mk fx fd fs v sf).it.w = 0 := by rw [mk_it]; exact hfw
 have hFv : (mk fx fd fs v sf).isLeaf = false → (mk fx fd fs v sf).it.v = 0 := fun _ => by rw [mk_it]; exact hfv
 by_cases hs0 : se.it.w = 0
 ·have hsl : se.isLeaf = false := by rcases hsw with h | h; omega; exact h.2
  have hkid := (kid_one hse hs0).resolve_right (by rw [hsl]; simp)
  have hE : redN u.d es (mk () ed es (mk () fd fs v.er sf.er) se.er) = mk () (nd ed.k (topW u.d 0)) es (setW 1 (mk fx fd fs v sf).er) (setW 1 se.er) := by
   simp only [redN, mk_ch, mk_ch', mk_it, er_it, hs0, if_true, er_mk, hdw, Int.sub_self]
  rw [hE]
  cases es with
  | false =>
    have := red_blk_f (l := mk fx fd fs v sf) (r := se) hg hm hTr he hbe hdw hdi hFw hs0 hFv (RBk.v0 hse) (by rw [mk_isLeaf]; cases fs <;> simp [mk, T.ch, hv0])
    rw [hFa] at this
    exact this
  | true =>
    have := red_blk_t (l := se) (r := mk fx fd fs v sf) hg hm hTr he hbe hdw hdi hs0 hFw (RBk.v0 hse) hFv (by rw [hkid.1, hkid.2]; simp) (by rw [mk_isLeaf]; cases fs <;> simp [mk, T.ch, hv0])
    rw [hFa] at this
    exact this
 ·have hs1 : se.it.w = 1 := by rcases hsw with h | h; exact h; exact absurd h.1 hs0
  by_cases hfe : fs = es
  ·subst hfe
   have hE : redN u.d fs (mk () ed fs (mk () fd fs v.er sf.er) se.er) = mk () (nd fd.k (topW u.d 1)) fs v.er (mk () (nd ed.k 0) fs sf.er se.er) := by
    simp only [redN, mk_ch, mk_ch', mk_it, er_it, if_neg hs0, hv0, if_true, hdw]
   rw [hE]
   cases fs with
   | false => exact red_rb1_f (l := mk fx fd false v sf) (r := se) hg hm hTr he hbe hdw hdi rfl hFw hs1 hv0
   | true => exact red_rb1_t (l := se) (r := mk fx fd true v sf) hg hm hTr he hbe hdw hdi rfl hs1 hFw hv0
  ·cases v with
   | leaf x d => cases hvn
   | node zx zd C D =>
     have hz : zd.w = 0 := hv0
     cases es with
     | false =>
       have : fs = true := by cases fs; exact absurd rfl hfe; rfl
       subst this
       exact red_rb2_f (l := mk fx fd true (.node zx zd C D) sf) (r := se) hg hm hTr he hbe hdw hdi rfl rfl hFw hs1 hsf hv0 |>.mono fun e w' h => by
        obtain ⟨h1, N, h2, h3, h4⟩ := h
        refine ⟨h1, N, h2, ?_, h4⟩
        rw [h3]
        have a1 : se.er.it.w = 1 := by rw [er_it]; exact hs1
        have a2 : sf.er.it.w = 1 := by rw [er_it]; exact hsf
        simp [redN, mk, T.ch, it_node', er_node, a1, a2, hdw]
     | true =>
       have : fs = false := by cases fs; rfl; exact absurd rfl hfe
       subst this
       exact red_rb2_t (l := se) (r := mk fx fd false (.node zx zd C D) sf) hg hm hTr he hbe hdw hdi rfl rfl hs1 hFw hsf hv0 |>.mono fun e w' h => by
        obtain ⟨h1, N, h2, h3, h4⟩ := h
        refine ⟨h1, N, h2, ?_, h4⟩
        rw [h3]
        have a1 : se.er.it.w = 1 := by rw [er_it]; exact hs1
        have a2 : sf.er.it.w = 1 := by rw [er_it]; exact hsf
        simp [redN, mk, T.ch, it_node', er_node, a1, a2, hdw]
end Go.Proofs.YtdmobhndbibhoaaGreat
namespace Go.Proofs.YtdmobhndbibhoaaGreat
set_option linter.unusedVariables false
open Go.RowKit Larch
set_option maxRecDepth 100000
set_option linter.unusedSimpArgs false
theorem StepR.er {g : Gt} {m : Nat} {u : HFr} {c : List HFr} {E E' : T Unit} {w w' : World} {e : Ending} (h : StepR g m u c E w e w') (hE : E = E') : StepR g m u c E' w e w' := hE ▸ h
theorem over_all {g : Gt} {m be : Nat} {u : HFr} {c : List HFr} {ex : Nat × Nat} {ed : It} {s : Bool} {v r : HTree} {w : World} {h : Int} (hg : GOk g m w) (hm : m + 200 < LIM)
 (hTr : Tree g w (plug (u :: c) (mk ex ed s v r))) (he : IsRec w be) (hbe : u.x.1 ≠ be) (hd : ed.w = 1 ∨ ed.w = 0 ∧ r.it.w = 1) (hdi : ed.i = 0)
 (hv2 : v.it.w = 2) (hr : RBk r h) (hrw : W01 r) (hv : RBk v h) :
 Calls Tryz.prog 236 #[gval g, ptr be, ptr u.x.1, ptr ex.1, ptr v.ann.1] w (StepR g (m + 200) u c (overN u.d s (mk () ed s v.er r.er)) w) := by
 have h2 := RBk_two hv hv2
 have hvn := RBk.v0 hv
 have hd0 : 0 ≤ ed.w := by omega
 have hd1 : ed.w ≤ 1 := by omega
 cases r with
 | leaf x d =>
   exfalso
   have h1 : h = d.w := hr.2
   rcases hrw with h | h
   ·have : d.w = 1 := h
    omega
   ·have := h.2
    simp [T.isLeaf] at this
 | node rx rd A B =>
   obtain ⟨ri, rv, hA, hB, kA, kB⟩ := hr
   have kA : Kid rd A := kA
   have kB : Kid rd B := kB
   have wA := kA.w01
   have wB := kB.w01
   have eA := er_it A
   have eB := er_it B
   have ev := er_it v
   have hvA := RBk.v0 hA
   have hvB := RBk.v0 hB
   by_cases hr1 : rd.w = 1
   ·have hbl : ∀ t : HTree, W01 t → t.it.w ≠ 0 → t.it.w = 1 := fun t ht h0 => by rcases ht with h | h; exact h; exact absurd h.1 h0
    cases s with
    | false =>
      by_cases hrr : B.it.w = 0
      ·refine (over_b_f (l := v) (r := .node rx rd A B) hg hm hTr he hbe hd0 hd1 hdi hv2 hr1 (fun hg hm hT ht t6 t7 he hbe hlo hub hxb hla hra => black_w5_f hg hm hT ht t6 t7 he hbe hlo hub hxb hla hra hd0 hd1 rfl hv2 hvn rv hrr hvB)).mono fun e w' hh => hh.er ?_
       simp [overN, mk, T.ch, it_node', er_node, eA, eB, ev, hr1, hrr, less, hv2]
      ·have hrr1 := hbl _ wB hrr
       by_cases hrl : A.it.w = 0
       ·have hln : A.isLeaf = false := by rcases wA with h | h; omega; exact h.2
        obtain ⟨zx, zd, C, D, hz⟩ : ∃ zx zd C D, A = T.node zx zd C D := by
         cases A with
         | leaf x d => cases hln
         | node x d C D => exact ⟨_, _, _, _, rfl⟩
        refine (over_b_f (l := v) (r := .node rx rd A B) hg hm hTr he hbe hd0 hd1 hdi hv2 hr1 (fun hg hm hT ht t6 t7 he hbe hlo hub hxb hla hra => black_w6_f hg hm hT ht t6 t7 he hbe hlo hub hxb hla hra hd0 hd1 rfl hv2 hvn rv hrr1 hrl hz)).mono fun e w' hh => hh.er ?_
        subst hz
        have hz0 : zd.w = 0 := hrl
        simp [overN, mk, T.ch, it_node', er_node, eA, eB, ev, hr1, hrr, hz0, less, hv2]
       ·have hrl1 := hbl _ wA hrl
        refine (over_b_f (l := v) (r := .node rx rd A B) hg hm hTr he hbe hd0 hd1 hdi hv2 hr1 (fun hg hm hT ht t6 t7 he hbe hlo hub hxb hla hra => black_push_f hg hm hT ht t6 t7 he hbe hlo hub hxb hla hra hd0 hd1 rfl hv2 hvn rv hrr1 hrl1)).mono fun e w' hh => hh.er ?_
        simp [overN, mk, T.ch, it_node', er_node, eA, eB, ev, hr1, hrr, hrl, less, hv2]
    | true =>
      by_cases hrr : A.it.w = 0
      ·refine (over_b_t (l := .node rx rd A B) (r := v) hg hm hTr he hbe hd0 hd1 hdi hv2 hr1 (fun hg hm hT ht t6 t7 he hbe hlo hub hxb hla hra => black_w5_t hg hm hT ht t6 t7 he hbe hlo hub hxb hla hra hd0 hd1 rfl hv2 hvn rv hrr hvA)).mono fun e w' hh => hh.er ?_
       simp [overN, mk, T.ch, it_node', er_node, eA, eB, ev, hr1, hrr, less, hv2]
      ·have hrr1 := hbl _ wA hrr
       by_cases hrl : B.it.w = 0
       ·have hln : B.isLeaf = false := by rcases wB with h | h; omega; exact h.2
        obtain ⟨zx, zd, C, D, hz⟩ : ∃ zx zd C D, B = T.node zx zd C D := by
         cases B with
         | leaf x d => cases hln
         | node x d C D => exact ⟨_, _, _, _, rfl⟩
        refine (over_b_t (l := .node rx rd A B) (r := v) hg hm hTr he hbe hd0 hd1 hdi hv2 hr1 (fun hg hm hT ht t6 t7 he hbe hlo hub hxb hla hra => black_w6_t hg hm hT ht t6 t7 he hbe hlo hub hxb hla hra hd0 hd1 rfl hv2 hvn rv hrr1 hrl hz)).mono fun e w' hh => hh.er ?_
        subst hz
        have hz0 : zd.w = 0 := hrl
        simp [overN, mk, T.ch, it_node', er_node, eA, eB, ev, hr1, hrr, hz0, less, hv2]
       ·have hrl1 := hbl _ wB hrl
        refine (over_b_t (l := .node rx rd A B) (r := v) hg hm hTr he hbe hd0 hd1 hdi hv2 hr1 (fun hg hm hT ht t6 t7 he hbe hlo hub hxb hla hra => black_push_t hg hm hT ht t6 t7 he hbe hlo hub hxb hla hra hd0 hd1 rfl hv2 hvn rv hrr1 hrl1)).mono fun e w' hh => hh.er ?_
        simp [overN, mk, T.ch, it_node', er_node, eA, eB, ev, hr1, hrr, hrl, less, hv2]
   ·have hr0 : rd.w = 0 := by rcases hrw with h | h; exact absurd h hr1; exact h.1
    have hde : ed.w = 1 := by
     rcases hd with h | h
     ·exact h
     ·exact absurd h.2 hr1
    cases s with
    | false =>
      have wA1 := kA.one hr0
      cases A with
      | leaf x d =>
        exfalso
        have h1 : h - rd.w = d.w := hA.2
        have h3 : d.w = 1 := wA1
        omega
      | node zx zd C D =>
        obtain ⟨zi, zv, hC, hD, kC, kD⟩ := hA
        have kC : Kid zd C := kC
        have kD : Kid zd D := kD
        have eC := er_it C
        have eD := er_it D
        have hvC := RBk.v0 hC
        have hvD := RBk.v0 hD
        have hbl : ∀ t : HTree, W01 t → t.it.w ≠ 0 → t.it.w = 1 := fun t ht h0 => by rcases ht with h | h; exact h; exact absurd h.1 h0
        by_cases hb : D.it.w = 0
        ·refine (over_l_f (l := v) (r := .node rx rd (.node zx zd C D) B) hg hm hTr he hbe hd0 hd1 hdi hv2 hr0 (fun hg hm hT ht t6 t7 he hbe hlo hub hxb hla hra => light_b_f hg hm hT ht t6 t7 he hbe hlo hub hxb hla hra hd0 hd1 rfl hv2 hvn rv hde wA1 rfl zv hb hvD)).mono fun e w' hh => hh.er ?_
         simp [overN, mk, T.ch, it_node', er_node, eA, eB, eC, eD, ev, hr0, hb, less, hv2, hde]
        ·have hb1 := hbl _ kD.w01 hb
         by_cases ha : C.it.w = 0
         ·have hln : C.isLeaf = false := by rcases kC.w01 with h | h; omega; exact h.2
          obtain ⟨vx, vd, P, Q, hz⟩ : ∃ vx vd P Q, C = T.node vx vd P Q := by
           cases C with
           | leaf x d => cases hln
           | node x d P Q => exact ⟨_, _, _, _, rfl⟩
          refine (over_l_f (l := v) (r := .node rx rd (.node zx zd C D) B) hg hm hTr he hbe hd0 hd1 hdi hv2 hr0 (fun hg hm hT ht t6 t7 he hbe hlo hub hxb hla hra => light_a_f hg hm hT ht t6 t7 he hbe hlo hub hxb hla hra hd0 hd1 rfl hv2 hvn rv hde wA1 rfl zv hb1 ha hz)).mono fun e w' hh => hh.er ?_
          subst hz
          have hz0 : vd.w = 0 := ha
          simp [overN, mk, T.ch, it_node', er_node, eA, eB, eC, eD, ev, hr0, hb, hz0, less, hv2, hde]
         ·have ha1 := hbl _ kC.w01 ha
          refine (over_l_f (l := v) (r := .node rx rd (.node zx zd C D) B) hg hm hTr he hbe hd0 hd1 hdi hv2 hr0 (fun hg hm hT ht t6 t7 he hbe hlo hub hxb hla hra => light_c_f hg hm hT ht t6 t7 he hbe hlo hub hxb hla hra hd0 hd1 rfl hv2 hvn rv hde wA1 rfl zv hb1 ha1)).mono fun e w' hh => hh.er ?_
          simp [overN, mk, T.ch, it_node', er_node, eA, eB, eC, eD, ev, hr0, hb, ha, less, hv2, hde, setW]
    | true =>
      have wB1 := kB.one hr0
      cases B with
      | leaf x d =>
        exfalso
        have h1 : h - rd.w = d.w := hB.2
        have h3 : d.w = 1 := wB1
        omega
      | node zx zd C D =>
        obtain ⟨zi, zv, hC, hD, kC, kD⟩ := hB
        have kC : Kid zd C := kC
        have kD : Kid zd D := kD
        have eC := er_it C
        have eD := er_it D
        have hvC := RBk.v0 hC
        have hvD := RBk.v0 hD
        have hbl : ∀ t : HTree, W01 t → t.it.w ≠ 0 → t.it.w = 1 := fun t ht h0 => by rcases ht with h | h; exact h; exact absurd h.1 h0
        by_cases hb : C.it.w = 0
        ·refine (over_l_t (l := .node rx rd A (.node zx zd C D)) (r := v) hg hm hTr he hbe hd0 hd1 hdi hv2 hr0 (fun hg hm hT ht t6 t7 he hbe hlo hub hxb hla hra => light_b_t hg hm hT ht t6 t7 he hbe hlo hub hxb hla hra hd0 hd1 rfl hv2 hvn rv hde wB1 rfl zv hb hvC)).mono fun e w' hh => hh.er ?_
         simp [overN, mk, T.ch, it_node', er_node, eA, eB, eC, eD, ev, hr0, hb, less, hv2, hde]
        ·have hb1 := hbl _ kC.w01 hb
         by_cases ha : D.it.w = 0
         ·have hln : D.isLeaf = false := by rcases kD.w01 with h | h; omega; exact h.2
          obtain ⟨vx, vd, P, Q, hz⟩ : ∃ vx vd P Q, D = T.node vx vd P Q := by
           cases D with
           | leaf x d => cases hln
           | node x d P Q => exact ⟨_, _, _, _, rfl⟩
          refine (over_l_t (l := .node rx rd A (.node zx zd C D)) (r := v) hg hm hTr he hbe hd0 hd1 hdi hv2 hr0 (fun hg hm hT ht t6 t7 he hbe hlo hub hxb hla hra => light_a_t hg hm hT ht t6 t7 he hbe hlo hub hxb hla hra hd0 hd1 rfl hv2 hvn rv hde wB1 rfl zv hb1 ha hz)).mono fun e w' hh => hh.er ?_
          subst hz
          have hz0 : vd.w = 0 := ha
          simp [overN, mk, T.ch, it_node', er_node, eA, eB, eC, eD, ev, hr0, hb, hz0, less, hv2, hde]
         ·have ha1 := hbl _ kD.w01 ha
          refine (over_l_t (l := .node rx rd A (.node zx zd C D)) (r := v) hg hm hTr he hbe hd0 hd1 hdi hv2 hr0 (fun hg hm hT ht t6 t7 he hbe hlo hub hxb hla hra => light_c_t hg hm hT ht t6 t7 he hbe hlo hub hxb hla hra hd0 hd1 rfl hv2 hvn rv hde wB1 rfl zv hb1 ha1)).mono fun e w' hh => hh.er ?_
          simp [overN, mk, T.ch, it_node', er_node, eA, eB, eC, eD, ev, hr0, hb, ha, less, hv2, hde, setW]
end Go.Proofs.YtdmobhndbibhoaaGreat
