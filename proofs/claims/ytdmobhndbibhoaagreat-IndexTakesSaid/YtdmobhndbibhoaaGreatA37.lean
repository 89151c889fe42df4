/- step as one law. -/
import Derived.Test.YtdmobhndbibhoaaGreatA35
namespace Go.Proofs.YtdmobhndbibhoaaGreat
set_option linter.unusedVariables false
set_option linter.unusedSimpArgs false
open Go.RowKit Larch
set_option maxRecDepth 100000
def FixQ (g : Gt) (m be : Nat) (z : List HFr × HTree) (w w' : World) : Prop :=
 ∃ (u : HFr) (c : List HFr) (N : HTree), Tree g w' (plug (u :: c) N) ∧ fix (erC z.1, z.2.er) = (erC (u :: c), N.er) ∧ (plug (u :: c) N).ann.1 = be ∧ TF g w w' ∧ GOk g m w'
theorem fixq_of {g : Gt} {m m' be : Nat} {z : List HFr × HTree} {u : HFr} {c : List HFr} {E : T Unit} {w w1 w' : World} {e : Ending} {X : HTree} (h : StepR g m u c E w1 e w') (hf : Fr g No w w1) (hfix : fix (erC z.1, z.2.er) = (erC (u :: c), E))
 (hb : (plug (u :: c) X).ann.1 = be) (hm : m ≤ m') : DoneR (FixQ g m' be z w) e w' := by
 obtain ⟨he, N, h1, h2, h3, h4⟩ := h
 exact ⟨he, u, c, N, h1, by rw [h2]; exact hfix, by rw [plug_ann u c N X]; exact hb, (TF.of hf).trans h3, h4.mono hm⟩
theorem step_any {g : Gt} {m b cap be : Nat} {key : Int} {f : HFr} {c : List HFr} {v : HTree} {w : World} (hg : GOk g m w) (hm : m + 300 < LIM) (hp : PathAt g w (f :: c) v b cap) (hlen : (f :: c).length < 900000)
 (hTr : Tree g w (plug (f :: c) v)) (he : IsRec w be) (hbe : (plug (f :: c) v).ann.1 = be) (hmid : Mid key (erC (f :: c)) v.er) (hb : bad f.d v.it = true) :
 Calls Tryz.prog 191 #[gval g, ptr be, .slice (some ⟨b, 0, none⟩) ((f :: c).length + 1) cap] w (DoneR (FixQ g (m + 210) be (f :: c, v) w)) := by
 obtain ⟨e0, c0, t0, hfix, hmid', hpr, hl, h0, h1⟩ := fix_mid (f := erF f) (c := erC c) (v := v.er) hmid (by rw [er_it]; exact hb)
 obtain ⟨hh, hc, hrb, hw⟩ := hmid.1
 have hHT := ((HT_plug _ _ _ _).1 hTr.1)
 by_cases hv0 : v.it.w = 0
 ·obtain ⟨e1, hce, hfi, hfw, hei, hew, hvn, hsw, hsf⟩ := h0 (by rw [er_it]; exact hv0)
  obtain ⟨e, c1, rfl, rfl, hc1⟩ := erC_cons hce
  obtain ⟨u, c2, rfl, rfl, rfl⟩ := erC_cons hc1
  have hct : CtxOk (erF f :: erF e :: erF u :: erC c2) hh := hc
  obtain ⟨fv, hs, hsw2, _, hct1⟩ := hct.tail hfi
  obtain ⟨ev, hes, hesw, _, hct2⟩ := hct1.tail hei
  obtain ⟨q, c3, hq⟩ := hct2.two
  obtain ⟨u2, c4, rfl, rfl, rfl⟩ := erC_cons hq
  have hne : u.x.1 ≠ be := by
   have hTr2 : Tree g w (plug (u :: u2 :: c4) (mk e.x e.d e.s (mk f.x f.d f.s v f.sib) e.sib)) := hTr
   rw [← hbe]; exact root_ne hTr2
  have hTd : Tree g w.drew (plug (u :: u2 :: c4) (mk e.x e.d e.s (mk f.x f.d f.s v f.sib) e.sib)) := Tree.fr0 hTr (Fr.drew g No w)
  refine step_red hp hlen hHT.2 hv0 _ ((red_all (h := hh + f.d.w) (h' := hh) hg.drew (by omega) hTd he hne hew hei hfw fv hv0 ?_ ?_ ((RBk_er e.sib _).1 hes) ?_ ((RBk_er v _).1 hrb)).mono fun e' w' h => ?_)
  ·rw [← er_isLeaf]; exact hvn
  ·rw [← er_it]; exact hsf
  ·rcases hsw with h | h
   ·exact .inl (by rw [← er_it]; exact h)
   ·exact .inr ⟨by rw [← er_it]; exact h.1, by rw [← er_isLeaf]; exact h.2⟩
  ·refine fixq_of (X := mk e.x e.d e.s (mk f.x f.d f.s v f.sib) e.sib) h (Fr.drew g No w) ?_ hbe (by omega)
   show fix (erF f :: erF e :: erF u :: erC (u2 :: c4), v.er) = _
   simp only [fix, er_it, hv0, if_true]
   rfl
 ·obtain ⟨hce, hfi, hv2, hsw, hfs⟩ := h1 (by rw [er_it]; exact hv0)
  obtain ⟨e, c1, rfl, rfl, rfl⟩ := erC_cons hce
  have hct : CtxOk (erF f :: erF e :: erC c1) hh := hc
  obtain ⟨fv, hs, hsw2, _, hct1⟩ := hct.tail hfi
  obtain ⟨q, c3, hq⟩ := hct1.two
  obtain ⟨u2, c4, rfl, rfl, rfl⟩ := erC_cons hq
  have hne : e.x.1 ≠ be := by
   have hTr2 : Tree g w (plug (e :: u2 :: c4) (mk f.x f.d f.s v f.sib)) := hTr
   rw [← hbe]; exact root_ne hTr2
  have hv2' : v.it.w = 2 := by rw [← er_it]; exact hv2
  have hsw' : W01 f.sib := by
   rcases hsw with h | h
   ·exact .inl (by rw [← er_it]; exact h)
   ·exact .inr ⟨by rw [← er_it]; exact h.1, by rw [← er_isLeaf]; exact h.2⟩
  have hfs' : f.d.w = 1 ∨ f.d.w = 0 ∧ f.sib.it.w = 1 := by
   rcases hfs with h | h
   ·exact .inl h
   ·exact .inr ⟨h.1, by rw [← er_it]; exact h.2⟩
  have hX : HT g w (mk f.x f.d f.s v f.sib) := ((HT_plug g w (e :: u2 :: c4) _).1 hTr.1).2
  have hsib := (RBk_er f.sib _).1 hs
  have hvb := (RBk_er v _).1 hrb
  have hav : v.ann.1 ≠ f.sib.ann.1 := fun h => by
   have k := hTr.2 v.ann.1
   have k1 := cnt_ann v
   have k2 := cnt_ann f.sib
   rw [← h] at k2
   rw [cnt_plug] at k
   simp only [cntC] at k
   omega
  have hR : ∀ w', Fr g No w w' → GOk g (m + 3) w' → Calls Tryz.prog 236 #[gval g, ptr be, ptr e.x.1, ptr f.x.1, ptr v.ann.1] w' (DoneR (FixQ g (m + 210) be (f :: e :: u2 :: c4, v) w)) := fun w' hf hg' => by
   have hTd : Tree g w' (plug (e :: u2 :: c4) (mk f.x f.d f.s v f.sib)) := Tree.fr0 hTr hf
   refine (over_all (h := hh) hg' (by omega) hTd (hf.isRec _ he) hne hfs' hfi hv2' hsib hsw' hvb).mono fun e' w2 h => ?_
   refine fixq_of (X := mk f.x f.d f.s v f.sib) h hf ?_ hbe (by omega)
   show fix (erF f :: erF e :: erC (u2 :: c4), v.er) = _
   simp only [fix, er_it, if_neg hv0]
   rfl
  clear h0 h1 hfix hmid' hpr hl
  obtain ⟨fx, fd, fs, sib⟩ := f
  by_cases hs1 : sib.it.w = 1
  ·cases fs with
   | false => exact step_over_f_1 hg hm hp hlen hX hav hv2' hs1 _ hR
   | true => exact step_over_t_1 hg hm hp hlen hX hav hv2' hs1 _ hR
  ·cases sib with
   | leaf x d =>
     exfalso
     rcases hsw' with h | h
     ·exact hs1 h
     ·have := h.2; simp [T.isLeaf] at this
   | node rx rd A B =>
     have hr0 : rd.w = 0 := by rcases hsw' with h | h; exact absurd h hs1; exact h.1
     have hf1 : fd.w = 1 := by rcases hfs' with h | h; exact h; exact absurd h.2 hs1
     have hk := (kid_one hsib hr0).resolve_right (by simp [T.isLeaf])
     cases fs with
     | false => exact step_over_f_0 hg hm hp hlen hX hav hv2' hr0 hf1 hk.1 _ hR
     | true => exact step_over_t_0 hg hm hp hlen hX hav hv2' hr0 hf1 hk.2 _ hR
end Go.Proofs.YtdmobhndbibhoaaGreat
namespace Go.Proofs.YtdmobhndbibhoaaGreat
set_option linter.unusedVariables false
set_option linter.unusedSimpArgs false
open Go.RowKit Larch
set_option maxRecDepth 100000
attribute [local go_sem ↓] Go.wp_at_zero Go.wp_at_succ
theorem RBk_size {α : Type} (t : T α) : ∀ h, RBk t h → t.size + 1 = 2 * (pairs t).length := by
 induction t with
 | leaf x d => intro h hr; simp [RBk] at hr; simp [T.size, pairs, hr.1]
 | node x d l r ihl ihr =>
   intro h hr
   have h1 := ihl _ hr.2.2.1
   have h2 := ihr _ hr.2.2.2.1
   simp only [T.size, pairs, List.length_append]; omega
theorem size_mk {α : Type} (x : α) (d : It) (s : Bool) (a b : T α) : (mk x d s a b).size = a.size + b.size + 1 := by
 cases s <;> simp only [mk, T.size, if_true, if_false, Bool.false_eq_true] <;> omega
theorem pairs_mk_len {α : Type} (x : α) (d : It) (s : Bool) (a b : T α) : (pairs (mk x d s a b)).length = (pairs a).length + (pairs b).length := by
 rw [pairs_mk]; cases s <;> simp <;> omega
theorem CtxOk_size {α : Type} {c : List (Larch.Fr α)} {h : Int} (hc : CtxOk c h) : ∀ t : T α, t.size + 1 = 2 * (pairs t).length → (plug c t).size + 1 = 2 * ((pairs (plug c t)).length + 2) := by
 induction hc with
 | crown x1 x0 s1 s0 h =>
   intro t ht
   simp only [plug, size_mk, pairs_mk_len, T.size, pairs, cr]
   simp
   omega
 | cons f e c h hi hv hs hw h01 hc ih =>
   intro t ht
   rw [plug]
   refine ih _ ?_
   have := RBk_size _ _ hs
   rw [size_mk, pairs_mk_len]; omega
theorem Mid_size {key : Int} {f : Larch.Fr Unit} {c : List (Larch.Fr Unit)} {t : T Unit} (hm : Mid key (f :: c) t) : (plug (f :: c) t).size + 1 = 2 * ((pairs (plug (f :: c) t)).length + 2) := by
 obtain ⟨⟨h, hc, hr, _⟩, _⟩ := hm
 exact CtxOk_size hc t (RBk_size t _ hr)
theorem least_ex (P : Nat → Prop) (h : ∃ n, P n) : ∃ n, P n ∧ ∀ m, P m → n ≤ m := by
 obtain ⟨n, hn⟩ := h
 induction n using Nat.strongRecOn with
 | _ n ih =>
   by_cases hx : ∃ m, P m ∧ m < n
   ·obtain ⟨m, h1, h2⟩ := hx; exact ih m h2 h1
   ·exact ⟨n, hn, fun m hm => by by_cases h : n ≤ m; exact h; exact absurd ⟨m, hm, by omega⟩ hx⟩
open Classical in
noncomputable def least (P : Nat → Prop) : Nat := if h : ∃ n, P n ∧ ∀ m, P m → n ≤ m then Classical.choose h else 0
theorem least_spec {P : Nat → Prop} (h : ∃ n, P n) : P (least P) := by
 unfold least
 rw [dif_pos (least_ex P h)]
 exact (Classical.choose_spec (least_ex P h)).1
theorem least_le {P : Nat → Prop} {n : Nat} (h : P n) : least P ≤ n := by
 unfold least
 rw [dif_pos (least_ex P ⟨n, h⟩)]
 exact (Classical.choose_spec (least_ex P ⟨n, h⟩)).2 n h
def CSt (g : Gt) (key : Int) (m be S L0 : Nat) (E : T Unit) (w wr : World) (n : Nat) : Prop :=
 ∃ (f : HFr) (c : List HFr) (N : HTree) (k : Nat), Tree g wr (plug (f :: c) N) ∧ (plug (f :: c) N).ann.1 = be ∧ Mid key (erC (f :: c)) N.er ∧ clean key k (plug (erC (f :: c)) N.er) = E ∧ c.length < k ∧ TF g w wr ∧
   GOk g (m + (L0 - n) * (S + 300)) wr ∧ c.length = n ∧ n ≤ L0 ∧ (plug (f :: c) N).size = S
def CleanQ (g : Gt) (m be S : Nat) (E : T Unit) (w w' : World) : Prop :=
 ∃ N : HTree, Tree g w' N ∧ N.er = E ∧ N.ann.1 = be ∧ TF g w w' ∧ GOk g m w' ∧ N.size = S
set_option maxHeartbeats 4000000 in
theorem Clean_any {g : Gt} {key : Int} {m be S L0 : Nat} {E : T Unit} {w : World} (hst : CSt g key m be S L0 E w w L0) (hm : m + (L0 + 1) * (S + 300) + 300 < LIM) (hS : S < 900000) (hL : L0 < 800000) (he : IsRec w be) :
 Calls Tryz.prog 142 #[gval g, ptr be, .int .i64 key] w (DoneR (CleanQ g (m + (L0 + 1) * (S + 300)) be S E w)) := by
 unfold ptr
 go_enter Tryz.func142, Tryz.ntmps142
 go_wp2_with fail
 go_loopw [6, 7] (fun _ _ wr => ∃ n, CSt g key m be S L0 E w wr n) (fun _ _ wr => least (CSt g key m be S L0 E w wr))
 case atStart => exact ⟨L0, hst⟩
 case round =>
  have hsp := least_spec hrel
  obtain ⟨n, hn⟩ : ∃ n, least (CSt g key m be S L0 E w wr) = n := ⟨_, rfl⟩
  rw [hn] at hsp
  have HN := Lib.hid hn
  clear hn hrel
  obtain ⟨f, c, N, k, hTr, hroot, hmid, hE, hk, hTF, hG, hcn, hnL, hsz⟩ := hsp
  have hB : (L0 - n) * (S + 300) ≤ L0 * (S + 300) := Nat.mul_le_mul_right _ (by omega)
  have hB2 : (L0 + 1) * (S + 300) = L0 * (S + 300) + (S + 300) := Nat.succ_mul _ _
  have her := er_plug (f :: c) N
  have hvi : viol key [] (plug (erC (f :: c)) N.er) = if bad f.d N.it then some (erC (f :: c), N.er) else none := by
   have := hmid.1.viol (f := erF f) (c := erC c) hmid.2.2
   rw [er_it] at this
   exact this
  have hvm := viol_er key (plug (f :: c) N) []
  rw [show erC [] = [] from rfl, her, hvi] at hvm
  have heW : IsRec wr be := hTF.isRec _ he
  have hV := violation_any (g := g) (key := key) (t0 := plug (f :: c) N) hG (by rw [hsz]; omega) (by rw [hsz]; omega) hTr.1
  rw [hroot, hsz] at hV
  cases hb : bad f.d N.it with
  | false =>
    rw [hb] at hvm
    simp only [Bool.false_eq_true, if_false] at hvm
    have hz : viol key [] (plug (f :: c) N) = none := by
     cases hq : viol key [] (plug (f :: c) N) with
     | none => rfl
     | some z => rw [hq] at hvm; cases hvm
    rw [hz] at hV
    have HF : Hid (Tree g wr (plug (f :: c) N) ∧ (plug (f :: c) N).er = E ∧ TF g w wr) := ⟨hTr, by rw [her, ← hE, show erC (f :: c) = erF f :: erC c from rfl, clean_good key k (erF f) (erC c) hmid (by rw [er_it]; exact hb)], hTF⟩
    have HZ := Lib.hid (And.intro hroot (And.intro hsz (And.intro hB hB2)))
    clear hTr hroot hmid hE hTF hsz hvm hvi her hz hb hB hB2 hst
    go_wp2_with fail
    refine hV.mono ?_
    rintro e w1 ⟨⟨v1, rfl⟩, hf1, hg1⟩
    clear hV
    go_wp2_with fail
    go_end0
    obtain ⟨h1, h2, h3⟩ := HF.out
    obtain ⟨z1, z2, z3, z4⟩ := HZ.out
    exact ⟨rfl, _, h1.fr0 hf1, h2, z1, h3.trans (TF.of hf1), hg1.mono (by omega), z2⟩
  | true =>
    rw [hb] at hvm
    simp only [if_true] at hvm
    obtain ⟨zc, zv, hz, hzc, hzv⟩ : ∃ zc zv, viol key [] (plug (f :: c) N) = some (zc, zv) ∧ erC zc = erC (f :: c) ∧ zv.er = N.er := by
     cases hq : viol key [] (plug (f :: c) N) with
     | none => rw [hq] at hvm; cases hvm
     | some z =>
       rw [hq] at hvm
       simp only [Option.map_some, Option.some.injEq, Prod.mk.injEq] at hvm
       exact ⟨z.1, z.2, rfl, hvm.1.symm, hvm.2.symm⟩
    have hback : plug zc zv = plug (f :: c) N := viol_plug_back key (plug (f :: c) N) [] zc zv hz
    obtain ⟨f', c', rfl, hf', hc'⟩ := erC_cons hzc
    have hlen' : c'.length = c.length := by rw [← erC_len c', hc', ← erC_len c]; rfl
    rw [hz] at hV
    have hmid2 : Mid key (erC (f' :: c')) zv.er := by rw [hzc, hzv]; exact hmid
    have hb2 : bad f'.d zv.it = true := by
     have h1 : (erF f').d = (erF f).d := by rw [hf']
     have h1 : f'.d = f.d := h1
     rw [h1, ← er_it zv, hzv, er_it]; exact hb
    have hbe : bad (erF f').d zv.er.it = true := by rw [er_it]; exact hb2
    have HFM := Lib.hid (fix_mid (f := erF f') (c := erC c') (v := zv.er) hmid2 hbe)
    have HSZ := Lib.hid (Mid_size (f := erF f') (c := erC c') hmid2)
    have HEk : Hid (∀ k1, k = k1 + 1 → clean key k1 (plug (fix (erC (f' :: c'), zv.er)).1 (fix (erC (f' :: c'), zv.er)).2) = E) := fun k1 hk1 => by
     subst hk1
     rw [← hE]
     simp only [clean, hvi, hb, if_true]
     rw [hzc, hzv]
    have hszc : (plug (f' :: c') zv).size = S := by rw [hback]; exact hsz
    have hsl := size_plug (f' :: c') zv
    have hpos := T.size_pos zv
    have hTr' : Tree g wr (plug (f' :: c') zv) := by rw [hback]; exact hTr
    have hroot' : (plug (f' :: c') zv).ann.1 = be := by rw [hback]; exact hroot
    have hln : (f' :: c').length < 900000 := by simp only [List.length_cons] at hsl ⊢; omega
    have HK := Lib.hid (And.intro hk (And.intro hcn (And.intro hnL (And.intro hB (And.intro hB2 (And.intro hlen' hszc))))))
    clear hTr hroot hmid hE hvm hvi her hz hb hst hback hsz hzc hzv hf' hc' hsl hpos hk hcn hnL hlen' hszc
    go_wp2_with fail
    refine hV.mono ?_
    rintro e w1 ⟨⟨pb, pcap, rfl, hpa⟩, hf1, hg1⟩
    clear hV
    have hbd : m + (L0 - n) * (S + 300) + S + 300 < LIM := by obtain ⟨_, _, _, q1, q2, _⟩ := HK.out; omega
    have hS1 := step_any hg1 hbd hpa hln (hTr'.fr0 hf1) (hf1.isRec _ heW) hroot' hmid2 hb2
    clear hmid2 hb2 hbe hpa hTr' hroot' hB hB2 hbd
    go_wp2_with fail
    refine hS1.mono ?_
    rintro e w2 ⟨rfl, u, c2, N2, hT2, hfx, hr2, hTF2, hG2⟩
    clear hS1
    have hnew : ∃ n', n' < n ∧ CSt g key m be S L0 E w w2 n' := by
     obtain ⟨e0, c0, t0, q1, q2, q3, q4, _⟩ := HFM.out
     obtain ⟨k1, k2, k3, k4, k5, k6, k7⟩ := HK.out
     have hfx' : (e0 :: c0, t0) = (erC (u :: c2), N2.er) := by rw [← hfx]; exact q1.symm
     have e1 : e0 :: c0 = erC (u :: c2) := congrArg Prod.fst hfx'
     have e2 : t0 = N2.er := congrArg Prod.snd hfx'
     rw [e1, e2] at q2 q3
     have hl2 : c2.length < c'.length := by
      have h1 : (e0 :: c0).length = c2.length + 1 := by rw [e1, erC_len]; rfl
      have h2 : (erF f' :: erC c').length = c'.length + 1 := by rw [List.length_cons, erC_len]
      omega
     obtain ⟨k0, rfl⟩ : ∃ k0, k = k0 + 1 := ⟨k - 1, by omega⟩
     refine ⟨c2.length, by omega, u, c2, N2, k0, hT2, hr2, q2, ?_, by omega, hTF.trans ((TF.of hf1).trans hTF2), hG2.mono ?_, rfl, by omega, ?_⟩
     ·have := HEk.out k0 rfl
      rw [hfx] at this
      exact this
     ·have h1 : (L0 - n + 1) * (S + 300) ≤ (L0 - c2.length) * (S + 300) := Nat.mul_le_mul_right _ (by omega)
      have h2 : (L0 - n + 1) * (S + 300) = (L0 - n) * (S + 300) + (S + 300) := Nat.succ_mul _ _
      omega
     ·have h1 := Mid_size (f := erF u) (c := erC c2) q2
      have h2 := HSZ.out
      have h3 : (pairs (plug (erF u :: erC c2) N2.er)).length = (pairs (plug (erF f' :: erC c') zv.er)).length := congrArg List.length q3
      have h4 : (plug (u :: c2) N2).size = (plug (erF u :: erC c2) N2.er).size := by rw [← er_size, er_plug]; rfl
      have h5 : (plug (f' :: c') zv).size = (plug (erF f' :: erC c') zv.er).size := by rw [← er_size, er_plug]; rfl
      omega
    clear hT2 hfx hr2 hTF2 hG2 HFM HSZ HEk HK hf1 hg1 hTF hG
    go_wp2_with fail
    go_roundw
    case rel => obtain ⟨n', _, h⟩ := hnew; exact ⟨n', h⟩
    case measure =>
     obtain ⟨n', h1, h2⟩ := hnew
     have := least_le h2
     have := HN.out
     omega
end Go.Proofs.YtdmobhndbibhoaaGreat
