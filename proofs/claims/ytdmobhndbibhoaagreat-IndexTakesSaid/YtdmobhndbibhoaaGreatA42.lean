/- The map's changes, whole: bring, Delete on a tree that is well. -/
import Derived.Test.YtdmobhndbibhoaaGreatA41
import Derived.Test.YtdmobhndbibhoaaGreatC1
namespace Go.Proofs.YtdmobhndbibhoaaGreat
set_option linter.unusedVariables false
set_option linter.unusedSimpArgs false
open Go.RowKit Larch
set_option maxRecDepth 100000
def MapAt (g : Gt) (w : World) (be : Nat) (t : T Unit) : Prop := ∃ N : HTree, Tree g w N ∧ N.er = t ∧ N.ann.1 = be
def cost (s : Nat) : Nat := s + 1000 + (s + 2) * (s + 302)
theorem MapAt.fr0 {g : Gt} {w w' : World} {be : Nat} {t : T Unit} (h : MapAt g w be t) (f : Go.Proofs.YtdmobhndbibhoaaGreat.Fr g No w w') : MapAt g w' be t := by
 obtain ⟨N, h1, h2, h3⟩ := h; exact ⟨N, h1.fr0 f, h2, h3⟩
theorem er_leaf_inv {t : HTree} {d : It} (h : t.er = .leaf () d) : ∃ x, t = .leaf x d := by
 cases t with
 | leaf x e => simp only [er_leaf, T.leaf.injEq] at h; obtain ⟨_, rfl⟩ := h; exact ⟨x, rfl⟩
 | node x e l r => simp [er_node] at h
theorem er_node_inv {t : HTree} {d : It} {L R : T Unit} (h : t.er = .node () d L R) : ∃ x l r, t = .node x d l r ∧ l.er = L ∧ r.er = R := by
 cases t with
 | leaf x e => simp [er_leaf] at h
 | node x e l r => simp only [er_node, T.node.injEq] at h; obtain ⟨_, rfl, rfl, rfl⟩ := h; exact ⟨x, l, r, rfl, rfl, rfl⟩
theorem way_heap {key : Int} {N : HTree} {cE : List (Larch.Fr Unit)} {d : It} (h : way key [] N.er = (cE, .leaf () d)) : ∃ c x, way key [] N = (c, .leaf x d) ∧ erC c = cE ∧ plug c (.leaf x d) = N := by
 have hw := way_er key N []
 rw [show erC [] = [] from rfl, h] at hw
 have hb := way_plug_back key N []
 cases hq : way key [] N with
 | mk c t =>
   rw [hq] at hw hb
   simp only [Prod.mk.injEq] at hw
   obtain ⟨x, rfl⟩ := er_leaf_inv hw.2.symm
   exact ⟨c, x, rfl, hw.1.symm, hb⟩
def BringQ (g : Gt) (m be : Nat) (E : T Unit) (o : Option Int) (w : World) (e : Ending) (w' : World) : Prop :=
 ∃ r, e = .returned (.tuple #[.int .i64 r, .bool o.isSome]) ∧ (∀ v, o = some v → r = v) ∧ MapAt g w' be E ∧ TF g w w' ∧ GOk g m w'
theorem MapR.q {g : Gt} {m m' be : Nat} {E : T Unit} {r : Int} {b : Bool} {o : Option Int} {w w' : World} {e : Ending} (h : MapR g m be E r b w e w') (hm : m ≤ m') (hb : o.isSome = b) (ho : ∀ v, o = some v → r = v) :
 BringQ g m' be E o w e w' := by
 obtain ⟨rfl, N, h1, h2, h3, h4, h5⟩ := h
 exact ⟨r, by rw [hb], ho, ⟨N, h1, h2, h3⟩, h4, h5.mono hm⟩
theorem bring_any {g : Gt} {m be : Nat} {t : T Unit} {key val : Int} {abs : Bool} {w : World} (hg : GOk g m w) (hm : m + cost t.size < LIM) (hsz : t.size < 790000) (hM : MapAt g w be t) (ht : Larch.Good t) :
 Calls Tryz.prog 101 #[gval g, ptr be, .int .i64 key, .int .i64 val, .bool abs] w (BringQ g (m + cost t.size) be (putT key val abs t) (getL key (pairs t)) w) := by
 obtain ⟨N, hTr, rfl, hbe⟩ := hM
 obtain ⟨cE, xE, dE, hwE, hgE⟩ := get_good (key := key) ht
 rw [hgE]
 unfold cost at hm ⊢
 rw [er_size] at hm hsz ⊢
 rcases way_good key ht with ⟨he, hw⟩ | ⟨uE, cE, x, d, hw, hmid, hi, h1, hp⟩
 ·have hdE : dE = cr := by rw [hw] at hwE; simp at hwE; exact hwE.2.symm
  subst hdE
  have hk : hasK cr key = false := rfl
  have hw' : way key [] N.er = ([⟨(), cr, false, .leaf () cr⟩], .leaf () cr) := hw
  obtain ⟨c, x, hwN, hc, hb⟩ := way_heap hw'
  obtain ⟨u, c', rfl, hu, hc'⟩ := erC_cons hc
  obtain rfl : c' = [] := by cases c' with | nil => rfl | cons => simp [erC] at hc'
  have hud : u.d = cr := by have := congrArg Larch.Fr.d hu; exact this
  subst hb
  have hE : putT key val abs (plug [u] (.leaf x cr) : HTree).er = clean key ((plug [u] (.leaf x cr) : HTree).er.size + 5) (plug [⟨(), cr, false, .leaf () cr⟩] (grown cr cr key val)) := by
   simp only [putT, hw', hk, Bool.false_eq_true, if_false]
  refine (bring_new (E0 := grown u.d cr key val) (E := putT key val abs (plug [u] (.leaf x cr) : HTree).er) hg (by omega) hsz hTr hbe hwN hk ?_ ?_ ?_).mono fun e w' h => h.q (by omega) (by rw [hk]; rfl) (by rw [hk]; intro v h; cases h)
  ·intro W m' hT hG hr hs
   obtain ⟨ix, rx⟩ := (HTp.X hT).nd.rec
   exact brought_crown hG hs rx rfl
  ·intro M hME
   rw [hud] at hME
   have hgr : grown cr cr key val = .node () cr (.leaf () ⟨key, 0, 1, val⟩) (.leaf () cr) := rfl
   rw [hgr] at hME
   obtain ⟨y, l, r, rfl, hl, hr⟩ := er_node_inv hME
   obtain ⟨y1, rfl⟩ := er_leaf_inv hl
   obtain ⟨y2, rfl⟩ := er_leaf_inv hr
   refine ⟨⟨y, cr, false, .leaf y2 cr⟩, [u], .leaf y1 ⟨key, 0, 1, val⟩, (plug [u] (.leaf x cr) : HTree).er.size + 5, rfl, ?_, ?_, by simp, trivial⟩
   ·have e : erC [⟨y, cr, false, .leaf y2 cr⟩, u] = crownC := by simp only [erC, List.map_cons, List.map_nil, hu]; rfl
    rw [e]
    exact mid_crown key (r := .leaf () ⟨key, 0, 1, val⟩) (h := 1) (by simp [RBk]) rfl (by simp [Bst, geo, lto])
   ·rw [hE]
    have e : erC [⟨y, cr, false, .leaf y2 cr⟩, u] = crownC := by simp only [erC, List.map_cons, List.map_nil, hu]; rfl
    rw [e, hgr]; rfl
  ·intro M hME
   have h3 : M.size = 3 := by rw [← er_size, hME, hud]; rfl
   have := size_plug_add [u] M (.leaf x cr)
   rw [h3] at this
   simp only [T.size] at this
   omega
 ·rw [hw] at hwE
  simp only [Prod.mk.injEq, T.leaf.injEq] at hwE
  obtain ⟨_, _, hdE⟩ := hwE
  subst hdE
  obtain ⟨c0, x0, hwN, hc, hb⟩ := way_heap hw
  obtain ⟨u, c, rfl, hu, hc'⟩ := erC_cons hc
  have hud : u.d = uE.d := congrArg Larch.Fr.d hu
  subst hb
  cases hk : hasK d key with
  | true =>
    cases abs with
    | true =>
      have hE : putT key val true (plug (u :: c) (.leaf x0 d) : HTree).er = (plug (u :: c) (.leaf x0 d) : HTree).er := by simp only [putT, hw, hk, if_true]
      rw [hE]
      exact (bring_abs hg (by omega) (by omega) hTr hbe hwN hk).mono fun e w' h => h.q (by omega) (by rfl) (by intro v h; simpa using h)
    | false =>
      have hE : putT key val false (plug (u :: c) (.leaf x0 d) : HTree).er = plug (erC (u :: c)) (.leaf () ⟨key, 0, d.w, val⟩) := by
       simp only [putT, hw, hk, if_true, Bool.false_eq_true, if_false]; rw [hc]
      rw [hE]
      refine (bring_has hg (by omega) (by omega) hTr hbe hwN hk ?_).mono fun e w' h => h.q (by omega) (by rfl) (by intro v h; simpa using h)
      intro W m' hT hG hr hs
      obtain ⟨ix, rx⟩ := (HTp.X hT).nd.rec
      exact brought_has hG hs rx hk
  | false =>
    have hkk : d.k ≠ key := fun h => by simp [hasK, hi, h] at hk
    have hE : putT key val abs (plug (u :: c) (.leaf x0 d) : HTree).er = clean key ((plug (u :: c) (.leaf x0 d) : HTree).er.size + 5) (plug (erC (u :: c)) (grown u.d d key val)) := by
     simp only [putT, hw, hk, Bool.false_eq_true, if_false]; rw [hc, hud]
    obtain ⟨e, c2, rfl⟩ := (show ∃ e c', c = e :: c' from by
     obtain ⟨⟨h, hcx, _⟩, _⟩ := hmid
     obtain ⟨e, c', h2⟩ := hcx.two
     rw [h2] at hc'
     obtain ⟨e', c'', h3, _⟩ := erC_cons hc'
     exact ⟨e', c'', h3⟩)
    refine (bring_new (E0 := grown u.d d key val) (E := putT key val abs (plug (u :: e :: c2) (.leaf x0 d) : HTree).er) hg (by omega) hsz hTr hbe hwN hk ?_ ?_ ?_).mono fun e w' h => h.q (by omega) (by rfl) (by intro v h; cases h)
    ·intro W m' hT hG hr hs
     obtain ⟨ix, rx⟩ := (HTp.X hT).nd.rec
     exact brought_new (a := x0.1) hG hs rx hi h1 hk (HTp.u hT) hr (by have := root_ne hTr; rw [hbe] at this; exact this) rfl
    ·intro M hME
     have hmg := (mid_grown (val := val) hmid hi h1 hkk).1
     refine ⟨u, e :: c2, M, (plug (u :: e :: c2) (.leaf x0 d) : HTree).er.size + 5, rfl, ?_, ?_, ?_, trivial⟩
     ·rw [hME, hc, hud]; exact hmg
     ·rw [hME, hE]
     ·have := size_plug (u :: e :: c2) (.leaf x0 d)
      rw [er_size]; simp only [List.length_cons] at this ⊢; omega
    ·intro M hME
     have h3 : M.size = 3 := by
      rw [← er_size, hME]
      simp only [grown, hi]
      split <;> (try split) <;> rfl
     have := size_plug_add (u :: e :: c2) M (.leaf x0 d)
     rw [h3] at this
     simp only [T.size] at this
     omega
theorem del_any {g : Gt} {m be : Nat} {t : T Unit} {key : Int} {w : World} (hg : GOk g m w) (hm : m + cost t.size < LIM) (hsz : t.size < 790000) (hM : MapAt g w be t) (ht : Larch.Good t) :
 Calls Tryz.prog 103 #[gval g, ptr be, .int .i64 key] w fun e w' => e = .returned (.tuple #[.int .i64 ((getL key (pairs t)).getD 0), .bool (getL key (pairs t)).isSome]) ∧ MapAt g w' be (delT key t) ∧ TF g w w' ∧ GOk g (m + cost t.size) w' := by
 obtain ⟨N, hTr, rfl, hbe⟩ := hM
 obtain ⟨cE0, xE, dE, hwE, hgE⟩ := get_good (key := key) ht
 rw [hgE]
 unfold cost at hm ⊢
 rw [er_size] at hm hsz ⊢
 obtain ⟨c0, x0, hwN, hc, hb⟩ := way_heap hwE
 cases hk : hasK dE key with
 | false =>
   rw [if_neg (by decide)]
   have hE : delT key N.er = N.er := by
    simp only [delT, hwE]
    split
    ·rename_i p g' c' x' d' h
     simp only [Prod.mk.injEq, T.leaf.injEq] at h
     obtain ⟨_, _, rfl⟩ := h
     rw [hk]; rfl
    ·rfl
   rw [hE]
   refine (del_none hg (by omega) (by omega) hTr hbe hwN hb hk).mono ?_
   rintro e w' ⟨rfl, M, h1, h2, h3, h4, h5⟩
   exact ⟨rfl, ⟨M, h1, h2, h3⟩, h4, h5.mono (by omega)⟩
 | true =>
   rw [if_pos rfl]
   rcases way_good key ht with ⟨he, hw⟩ | ⟨pE, cE, x, d, hw, hmid, hi, h1, hp⟩
   ·have hdE : dE = cr := by rw [hw] at hwE; simp at hwE; exact hwE.2.symm
    subst hdE
    cases hk
   ·rw [hw] at hwE
    simp only [Prod.mk.injEq, T.leaf.injEq] at hwE
    obtain ⟨hcc, _, hdE⟩ := hwE
    subst hcc
    subst hdE
    obtain ⟨⟨h, hcx, hr, hh⟩, ho, hl⟩ := hmid
    obtain ⟨uE, cE, rfl⟩ := hcx.two
    obtain ⟨p, c1, rfl, hpe, hc1⟩ := erC_cons hc
    obtain ⟨u, c, rfl, hue, hcc⟩ := erC_cons hc1
    have hpd : p.d = pE.d := congrArg Larch.Fr.d hpe
    have hps : p.s = pE.s := congrArg Larch.Fr.s hpe
    have hpsib : p.sib.er = pE.sib := congrArg Larch.Fr.sib hpe
    have hud : u.d = uE.d := congrArg Larch.Fr.d hue
    have hE : delT key N.er = if pE.d.i = 1 then plug (uE :: cE) (.leaf () cr) else clean key (N.er.size + 5) (plug (uE :: cE) (setW (topW uE.d (pE.d.w + pE.sib.it.w)) pE.sib)) := by
     simp only [delT, hw, hk, if_true]
    rw [hE]
    have hce : erC (u :: c) = uE :: cE := hc1
    obtain ⟨fx, fd, ps, sib⟩ := p
    simp only at hpd hps hpsib
    rcases hcx.inf with hpi | hpi
    ·rw [if_neg (by omega)]
     obtain ⟨pv, psr, pw, p01, hc2⟩ := hcx.tail hpi
     obtain ⟨e2E, c2E, rfl⟩ := hc2.two
     obtain ⟨e2, c2, rfl, he2, hcc2⟩ := erC_cons hcc
     have hml := mid_left (p := pE) (g := uE) (c := e2E :: c2E) (x := x) (d := d) (key := key) ⟨⟨h, hcx, hr, hh⟩, ho, hl⟩ h1 hpi
     rw [← hce, ← hud, ← hpd, ← hpsib, er_it] at hml
     have hb1 : 0 ≤ fd.w ∧ fd.w ≤ 1000 := by rw [hpd]; rcases p01 with h | h <;> omega
     have hb2 : 0 ≤ sib.it.w ∧ sib.it.w ≤ 1000 := by rw [← er_it, hpsib]; rcases pw with h | h <;> omega
     have hv : sib.isLeaf = false → sib.it.v = 0 := RBk.v0 ((RBk_er sib h).1 (by rw [hpsib]; exact psr))
     have hEE : clean key (N.er.size + 5) (plug (uE :: e2E :: c2E) (setW (topW uE.d (pE.d.w + pE.sib.it.w)) pE.sib)) = clean key (N.er.size + 5) (plug (erC (u :: e2 :: c2)) (setW (topW u.d (fd.w + sib.it.w)) sib.er)) := by
      rw [hce, hud, hpd, ← hpsib, er_it]
     rw [hEE]
     have hlen : (e2 :: c2).length < N.er.size + 5 := by
      have := size_plug (⟨fx, fd, ps, sib⟩ :: u :: e2 :: c2) (.leaf x0 d)
      rw [hb] at this
      rw [er_size]; simp only [List.length_cons] at this ⊢; omega
     cases ps with
     | false =>
       have hb' : plug (u :: e2 :: c2) (.node fx fd (.leaf x0 d) sib) = N := hb
       subst hb'
       refine (del_new_f (k := ((plug (u :: e2 :: c2) (.node fx fd (.leaf x0 d) sib)).er).size + 5) hg (by omega) hsz hTr hbe hwN hk (by rw [hpd]; exact hpi) hv hb1 hb2 (by have := root_ne hTr; rw [hbe] at this; exact this) hml rfl hlen).mono ?_
       rintro e w' ⟨rfl, M, h1, h2, h3, h4, h5⟩
       exact ⟨rfl, ⟨M, h1, h2, h3⟩, h4, h5.mono (by omega)⟩
     | true =>
       have hb' : plug (u :: e2 :: c2) (.node fx fd sib (.leaf x0 d)) = N := hb
       subst hb'
       refine (del_new_t (k := ((plug (u :: e2 :: c2) (.node fx fd sib (.leaf x0 d))).er).size + 5) hg (by omega) hsz hTr hbe hwN hk (by rw [hpd]; exact hpi) hv hb1 hb2 (by have := root_ne hTr; rw [hbe] at this; exact this) hml rfl hlen).mono ?_
       rintro e w' ⟨rfl, M, h1, h2, h3, h4, h5⟩
       exact ⟨rfl, ⟨M, h1, h2, h3⟩, h4, h5.mono (by omega)⟩
    ·rw [if_pos hpi]
     cases hcx with
     | cons f e c h hi' => omega
     | crown x1 x0' s1 s0 h =>
       obtain rfl : c = [] := by cases c with | nil => rfl | cons => simp [erC] at hcc
       subst hps
       have hb' : plug [u] (.node fx fd (.leaf x0 d) sib) = N := hb
       subst hb'
       rw [← hce]
       refine (del_crown hg (by omega) hsz hTr hbe hwN hk (by rw [hpd]; rfl) ?_).mono ?_
       ·intro M hME
        have := viol_er key (plug [u] M) []
        rw [er_plug, hME, hce, show erC [] = [] from rfl] at this
        have hn : viol key [] (plug [⟨(), cr, false, .leaf () cr⟩] (.leaf () cr)) = none := by simp [plug, mk, viol, below, cr, bad, T.it]
        rw [hn] at this
        cases hq : viol key [] (plug [u] M) with
        | none => rfl
        | some z => rw [hq] at this; cases this
       ·rintro e w' ⟨rfl, M, h1, h2, h3, h4, h5⟩
        exact ⟨rfl, ⟨M, h1, h2, h3⟩, h4, h5.mono (by omega)⟩
end Go.Proofs.YtdmobhndbibhoaaGreat
