/- The tree in memory as one thing: each block stands at one place; what an SCX does to it. -/
import Derived.Test.YtdmobhndbibhoaaGreatA17
import Derived.Test.YtdmobhndbibhoaaGreatAX
namespace Go.Proofs.YtdmobhndbibhoaaGreat
set_option linter.unusedVariables false
set_option linter.unusedSimpArgs false
open Go.RowKit Larch
set_option maxRecDepth 100000
def Tb (g : Gt) (w : World) (b : Nat) : Prop := (∃ cs T fr, w.heap[b]? = some (.cells cs T fr) ∧ (T = 209 ∨ T = 269)) ∨ GBlk g w b
def TF (g : Gt) (w w' : World) : Prop := Fr g (Tb g w) w w'
theorem TF.of {g : Gt} {w w' : World} (h : Fr g No w w') : TF g w w' := h.mono (fun _ _ h => h.elim)
theorem TF.trans {g : Gt} {w w1 w2 : World} (h : TF g w w1) (k : TF g w1 w2) : TF g w w2 := by
 refine Fr.trans h k (fun _ _ h => h) (fun b hb hs => ?_)
 by_cases hg : GBlk g w b
 ·exact .inr hg
 ·rcases hs with ⟨cs, T, fr, h1, h2⟩ | hs
  ·by_cases hr : ∃ cs T fr, w.heap[b]? = some (.cells cs T fr) ∧ (T = 209 ∨ T = 269)
   ·exact .inl hr
   ·have := h.keep b hb hg (fun h => h.elim hr hg)
    exact .inl ⟨cs, T, fr, this ▸ h1, h2⟩
  ·exact (h.gate b hs).elim .inr (fun h => by omega)
theorem TF.at {g : Gt} {w w' : World} {b : Nat} {cs : Array Value} {T : TypeId} {fr : Nat × Nat} (h : TF g w w') (ha : At g w b (.cells cs T fr)) (hT : T ≠ 209 ∧ T ≠ 269) : At g w' b (.cells cs T fr) :=
 Fr.at h ha (fun hs => by
  rcases hs with ⟨cs', T', fr', h1, h2⟩ | hs
  ·rw [ha.1] at h1; cases h1; exact h2.elim hT.1 hT.2
  ·exact ha.2 hs)
def one (a b : Nat) : Nat := if a = b then 1 else 0
theorem one_self (a : Nat) : one a a = 1 := by simp [one]
theorem one_le (a b : Nat) : one a b ≤ 1 := by simp only [one]; split <;> omega
theorem one_ne {a b : Nat} (h : a ≠ b) : one a b = 0 := by simp [one, h]
theorem one_pos {a b : Nat} (h : 1 ≤ one a b) : a = b := by
 simp only [one] at h; split at h
 ·assumption
 ·omega
def cnt (a : Nat) : HTree → Nat
 | .leaf x _ => one a x.1 + one a x.2
 | .node x _ l r => one a x.1 + one a x.2 + cnt a l + cnt a r
def cntC (a : Nat) : List HFr → Nat
 | [] => 0
 | f :: c => one a f.x.1 + one a f.x.2 + cnt a f.sib + cntC a c
theorem cnt_mk (a : Nat) (x : Nat × Nat) (d : It) (s : Bool) (A B : HTree) : cnt a (mk x d s A B) = one a x.1 + one a x.2 + cnt a A + cnt a B := by
 cases s <;> simp only [mk, cnt, if_true, if_false, Bool.false_eq_true] <;> omega
theorem cnt_reW (a : Nat) (x : Nat × Nat) (wt : Int) (t : HTree) : cnt a (reW x wt t) + one a t.ann.1 + one a t.ann.2 = one a x.1 + one a x.2 + cnt a t := by
 cases t <;> simp only [reW, cnt, T.ann] <;> omega
theorem cnt_plug (a : Nat) (c : List HFr) : ∀ t : HTree, cnt a (plug c t) = cnt a t + cntC a c := by
 induction c with
 | nil => intro t; simp [plug, cntC]
 | cons f c ih => intro t; rw [plug, ih, cnt_mk, cntC]; omega
theorem cnt_ann (t : HTree) : 1 ≤ cnt t.ann.1 t := by
 cases t <;> simp only [cnt, T.ann, one_self] <;> omega
theorem cnt_ann2 (t : HTree) : 1 ≤ cnt t.ann.2 t := by
 cases t <;> simp only [cnt, T.ann, one_self] <;> omega
theorem HT.lt {g : Gt} {w : World} {t : HTree} (h : HT g w t) (a : Nat) (ha : 1 ≤ cnt a t) : a < w.heap.size := by
 induction t with
 | leaf x d =>
   obtain ⟨i, st, h1, h2, _⟩ := h
   simp only [cnt] at ha
   by_cases e : a = x.1
   ·subst e; exact h1.lt
   ·by_cases e' : a = x.2
    ·subst e'; exact h2.lt
    ·rw [one_ne e, one_ne e'] at ha; omega
 | node x d l r ihl ihr =>
   obtain ⟨⟨i, st, h1, h2, _⟩, hl, hr⟩ := h
   simp only [cnt] at ha
   by_cases e : a = x.1
   ·subst e; exact h1.lt
   ·by_cases e' : a = x.2
    ·subst e'; exact h2.lt
    ·rw [one_ne e, one_ne e'] at ha
     by_cases e2 : 1 ≤ cnt a l
     ·exact ihl hl e2
     ·exact ihr hr (by omega)
def Tree (g : Gt) (w : World) (t : HTree) : Prop := HT g w t ∧ ∀ a, cnt a t ≤ 1
theorem Tree.fr0 {g : Gt} {w w' : World} {t : HTree} (h : Tree g w t) (hf : Fr g No w w') : Tree g w' t := ⟨h.1.fr0 hf, h.2⟩
theorem NodeAt.keep {g : Gt} {S : Nat → Prop} {w w' : World} {b fb : Nat} {d : It} {lf : Bool} {kids : List Nat} (h : NodeAt g w b fb d lf kids) (hf : Fr g S w w') (h1 : ¬ S b) (h2 : ¬ S fb) (hS : ∀ s, IsScx w s → ¬ S s) :
 NodeAt g w' b fb d lf kids := by
 obtain ⟨i, st, k1, k2, k3, k4, k5⟩ := h
 exact ⟨i, st, hf.at k1 h1, hf.at k2 h2, k3.fr hf (hS i k3.is), k4, fun c hc => hf.isRec c (k5 c hc)⟩
theorem HT.keep {g : Gt} {S : Nat → Prop} {w w' : World} {t : HTree} (h : HT g w t) (hf : Fr g S w w') (hs : ∀ a, 1 ≤ cnt a t → ¬ S a) (hS : ∀ s, IsScx w s → ¬ S s) : HT g w' t := by
 induction t with
 | leaf x d => exact NodeAt.keep h hf (hs _ (cnt_ann (.leaf x d))) (hs _ (cnt_ann2 (.leaf x d))) hS
 | node x d l r ihl ihr =>
   refine ⟨h.1.keep hf (hs _ (cnt_ann (.node x d l r))) (hs _ (cnt_ann2 (.node x d l r))) hS, ihl h.2.1 (fun a ha => hs a ?_), ihr h.2.2 (fun a ha => hs a ?_)⟩ <;> simp only [cnt] <;> omega
theorem HC.keep {g : Gt} {S : Nat → Prop} {w w' : World} {c : List HFr} : ∀ {a : Nat}, HC g w c a → Fr g S w w' → (∀ a, 1 ≤ cntC a c → ¬ S a) → (∀ s, IsScx w s → ¬ S s) → HC g w' c a := by
 induction c with
 | nil => intros; trivial
 | cons f c ih =>
   intro a h hf hs hS
   refine ⟨h.1.keep hf (hs _ ?_) (hs _ ?_) hS, h.2.1.keep hf (fun a ha => hs a ?_) hS, ih h.2.2 hf (fun a ha => hs a ?_) hS⟩ <;> simp only [cntC, one_self] <;> omega
theorem not_scx {w : World} {b : Nat} {cs : Array Value} {T : TypeId} (h : w.heap[b]? = some (.cells cs T (0, 0))) (hT : T ≠ 278) : ¬ IsScx w b := fun ⟨_, h', _⟩ => by
 rw [h] at h'; cases h'; exact hT rfl
theorem swap_tree {g : Gt} {w w' : World} {u : HFr} {c : List HFr} {X N : HTree} {lo : Nat} {F R P : Nat → Nat} {L : List VRec} {r0 : VRec}
 (hT : Tree g w (plug (u :: c) X)) (hlo : ∀ a, 1 ≤ cnt a (plug (u :: c) X) → a < lo)
 (hN : HT g w N) (h1 : ∀ a, cnt a N = F a + P a) (h2 : ∀ a, cnt a X = R a + P a) (h3 : ∀ r ∈ L, 1 ≤ R r.b) (hF1 : ∀ a, F a ≤ 1) (hF2 : ∀ a, 1 ≤ F a → lo ≤ a)
 (hrec : ∀ r ∈ r0 :: L, VOk g w r) (e1 : r0.b = u.x.1) (e2 : r0.fb = u.x.2) (e3 : r0.d = u.d) (e4 : r0.lf = false)
 (hF : Fr g (fun c => c = r0.fb ∨ ∃ r ∈ r0 :: L, c = r.b) w w') (hnd : NodeAt g w' r0.b r0.fb r0.d r0.lf (if u.s then [u.sib.ann.1, N.ann.1] else [N.ann.1, u.sib.ann.1])) :
 Tree g w' (plug (u :: c) N) ∧ TF g w w' := by
 obtain ⟨hH, hU⟩ := hT
 have hU' := hU
 have hlo' := hlo
 simp only [cnt_plug, cntC] at hU' hlo'
 rw [HT_plug] at hH
 obtain ⟨⟨_, hs, hc⟩, hX⟩ := hH
 have hS : ∀ s, IsScx w s → ¬ (s = r0.fb ∨ ∃ r ∈ r0 :: L, s = r.b) := by
  rintro s hs (rfl | ⟨r, hr, rfl⟩)
  ·exact not_scx (hrec r0 (by simp)).2.2.1.1 (by decide) hs
  ·exact not_scx (hrec r hr).1.1 (by decide) hs
 have hu1 := hU' u.x.1
 have hu2 := hU' u.x.2
 rw [one_self] at hu1 hu2
 have key : ∀ a, (a = r0.fb ∨ ∃ r ∈ r0 :: L, a = r.b) → one a u.x.1 + one a u.x.2 ≥ 1 ∨ 1 ≤ R a := by
  rintro a (rfl | ⟨r, hr, rfl⟩)
  ·left; rw [e2, one_self]; omega
  ·rcases List.mem_cons.1 hr with rfl | hr
   ·left; rw [e1, one_self]; omega
   ·right; exact h3 r hr
 have kS : ∀ a, (a = r0.fb ∨ ∃ r ∈ r0 :: L, a = r.b) → cnt a u.sib = 0 ∧ cntC a c = 0 ∧ cnt a N = 0 := by
  intro a ha
  have k1 := hU' a
  have k2 := h2 a
  have k3 := h1 a
  have k4 := hlo' a
  have k5 := hF2 a
  rcases key a ha with h | h
  ·by_cases hf : 1 ≤ F a
   ·have := k5 hf; have := k4 (by omega); omega
   ·omega
  ·by_cases hf : 1 ≤ F a
   ·have := k5 hf; have := k4 (by omega); omega
   ·omega
 refine ⟨⟨?_, ?_⟩, ?_⟩
 ·rw [HT_plug]
  refine ⟨⟨?_, ?_, ?_⟩, ?_⟩
  ·rw [← e1, ← e2, ← e3, ← e4]; exact hnd
  ·exact hs.keep hF (fun a ha h => by have := kS a h; omega) hS
  ·exact hc.keep hF (fun a ha h => by have := kS a h; omega) hS
  ·exact hN.keep hF (fun a ha h => by have := kS a h; omega) hS
 ·intro a
  rw [cnt_plug]
  simp only [cntC]
  have k1 := hU' a
  have k2 := h2 a
  have k3 := h1 a
  have k4 := hlo' a
  have k5 := hF2 a
  have k6 := hF1 a
  by_cases hf : 1 ≤ F a
  ·have := k5 hf
   by_cases h : 1 ≤ cnt a X + (one a u.x.1 + one a u.x.2 + cnt a u.sib + cntC a c)
   ·have := k4 h; omega
   ·omega
  ·omega
 ·refine Fr.mono hF (fun b _ h => .inl ?_)
  rcases h with rfl | ⟨r, hr, rfl⟩
  ·exact ⟨_, _, _, (hrec r0 (by simp)).2.2.1.1, .inr rfl⟩
  ·exact ⟨_, _, _, (hrec r hr).1.1, .inl rfl⟩
def SB (g : Gt) (W : World) (tb : Nat) (w' : World) : Prop := ∀ b cs, Bx g W tb b cs 220 → Cl g w' b cs 220
theorem SB.start {g : Gt} {W : World} {tb : Nat} : SB g W tb W.drew := fun _ _ h => h.1.drew
theorem SB.fr {g : Gt} {W w1 w2 : World} {tb : Nat} (h : SB g W tb w1) (f : Fr g No w1 w2) : SB g W tb w2 := fun b cs hb => f.at (h b cs hb) id
theorem SB.tf {g : Gt} {W w1 w2 : World} {tb : Nat} (h : SB g W tb w1) (f : TF g w1 w2) : SB g W tb w2 := fun b cs hb => f.at (h b cs hb) (by decide)
end Go.Proofs.YtdmobhndbibhoaaGreat
namespace Go.Proofs.YtdmobhndbibhoaaGreat
set_option linter.unusedVariables false
set_option linter.unusedSimpArgs false
open Go.RowKit Larch
set_option maxRecDepth 100000
section
variable {g : Gt} {m tb : Nat} {w : World} {L : List VRec}
theorem HT.wt {t : HTree} {p : Nat} (h : HT g w t) (hp : t.ann.1 = p) : Calls Tryz.prog 232 #[.pointer (some ⟨p, 0, none⟩)] w fun e w' => e = .returned (.int .i64 t.it.w) ∧ w = w' := by
 subst hp; obtain ⟨i, h⟩ := h.nd.rec; exact weight_any h
theorem HT.of {t : HTree} {p : Nat} {i' n fc : Nat} {fa : Option Addr} (h : HT g w t) (hp : t.ann.1 = p) (hg : GOk g m w) :
 Calls Tryz.prog 278 #[.agg #[.pointer (some ⟨p, 0, none⟩), .pointer (some ⟨i', 0, none⟩), .slice fa n fc]] w fun e w' => e = .returned (.int .i64 t.it.w) ∧ Fr g No w w' ∧ GOk g m w' := by
 subst hp; obtain ⟨i, h⟩ := h.nd.rec; exact of_any hg h
abbrev vt (t : HTree) (info : Nat) (fin : Bool) (fv : Value) : VRec := ⟨t.ann.1, t.ann.2, t.it, t.isLeaf, kidsOf t, info, fin, fv⟩
theorem TrySt.row {r : VRec} (ht : TrySt g w tb L) (hr : r ∈ L) : Row g w 99 1 r.fv r.kids.length (r.kids.map ptr) := by
 obtain ⟨v, f, _, _, _, h⟩ := ht; exact (h r hr).2.2.2.2
theorem TrySt.vok {r : VRec} (ht : TrySt g w tb L) (hr : r ∈ L) : VOk g w r := by
 obtain ⟨v, f, _, _, _, h⟩ := ht; exact h r hr
theorem TrySt.okc (ht : TrySt g w tb L) : w.cell? ⟨tb, 3, none⟩ = some (.bool true) := by
 obtain ⟨v, f, h, _⟩ := ht; exact h.cell 3
theorem TrySt.start (hg : GOk g m w) : TrySt g (w.alloc (.cells #[gval g, .slice none 0 0, .slice none 0 0, .bool true] 218)) w.heap.size [] :=
 ⟨_, _, At.new hg _, ⟨rfl, .inl ⟨rfl, rfl⟩⟩, ⟨rfl, .inl ⟨rfl, rfl⟩⟩, by simp⟩
theorem link_tr {t : HTree} {p : Nat} (fin : Bool) (hg : GOk g m w) (hm : m + 7 < LIM) (hL : L.length < 900) (ht : TrySt g w tb L) (hT : HT g w t) (hp : t.ann.1 = p) :
 Calls Tryz.prog 138 #[.pointer (some ⟨tb, 0, none⟩), .pointer (some ⟨p, 0, none⟩), .bool fin] w fun e w' => ∃ info fa fc, e = .returned (.agg #[.pointer (some ⟨p, 0, none⟩), .pointer (some ⟨info, 0, none⟩), .slice fa (kidsOf t).length fc]) ∧
  FrT g tb w w' ∧ GOk g (m + 7) w' ∧ TrySt g w' tb (L ++ [vt t info fin (.slice fa (kidsOf t).length fc)]) := by
 subst hp
 refine (link_any hg hm hL ht (shape_kids t) hT.nd).mono ?_
 rintro e w' ⟨info, fv, he, h1, h2, h3⟩
 obtain ⟨fa, fc, rfl⟩ := lastSlice h3
 exact ⟨info, fa, fc, he, h1, h2, h3⟩
abbrev frT (u : HFr) (a : Nat) : List Nat := if u.s then [u.sib.ann.1, a] else [a, u.sib.ann.1]
theorem linkU_tr {u : HFr} {a p : Nat} (fin : Bool) (hg : GOk g m w) (hm : m + 7 < LIM) (hL : L.length < 900) (ht : TrySt g w tb L) (hT : NodeAt g w u.x.1 u.x.2 u.d false (frT u a)) (hp : u.x.1 = p) :
 Calls Tryz.prog 138 #[.pointer (some ⟨tb, 0, none⟩), .pointer (some ⟨p, 0, none⟩), .bool fin] w fun e w' => ∃ info fa fc, e = .returned (.agg #[.pointer (some ⟨p, 0, none⟩), .pointer (some ⟨info, 0, none⟩), .slice fa 2 fc]) ∧
  FrT g tb w w' ∧ GOk g (m + 7) w' ∧ TrySt g w' tb (L ++ [⟨u.x.1, u.x.2, u.d, false, frT u a, info, fin, .slice fa 2 fc⟩]) := by
 subst hp
 have hsh : Shape false (frT u a) := .inr ⟨rfl, by unfold frT; split <;> exact ⟨_, _, rfl⟩⟩
 have h2 : (frT u a).length = 2 := by unfold frT; split <;> rfl
 refine (link_any hg hm hL ht hsh hT).mono ?_
 rintro e w' ⟨info, fv, he, h1, h3, h4⟩
 obtain ⟨fa, fc, rfl⟩ := lastSlice h4
 rw [h2] at he h4
 exact ⟨info, fa, fc, he, h1, h3, h4⟩
theorem leadsU_tr {u : HFr} {a p q i fc info : Nat} {fin : Bool} {fa : Option Addr} (hg : GOk g m w) (ht : TrySt g w tb L) (hr : (⟨u.x.1, u.x.2, u.d, false, frT u a, info, fin, .slice fa 2 fc⟩ : VRec) ∈ L)
 (hne : u.sib.ann.1 ≠ a) (ha : IsRec w a) (hs : IsRec w u.sib.ann.1) (hp : u.x.1 = p) (hq : a = q) :
 Calls Tryz.prog 139 #[.pointer (some ⟨tb, 0, none⟩), .agg #[.pointer (some ⟨p, 0, none⟩), .pointer (some ⟨i, 0, none⟩), .slice fa 2 fc], .pointer (some ⟨q, 0, none⟩)] w fun e w' =>
  e = .returned (.int .i64 (if u.s then 1 else 0)) ∧ Fr g No w w' ∧ GOk g m w' := by
 subst hp hq
 have h := ht.row hr
 unfold frT at h
 cases hu : u.s with
 | false =>
   simp only [hu, Bool.false_eq_true, if_false] at h ⊢
   exact leads_any false hg ht h ha hs (Ne.symm hne)
 | true =>
   simp only [hu, if_true] at h ⊢
   exact leads_any true hg ht h hs ha hne
theorem leads_tr {x : Nat × Nat} {d : It} {l r : HTree} {p q i i0 fc : Nat} {fin : Bool} {fa : Option Addr} (s : Bool) (hg : GOk g m w) (ht : TrySt g w tb L) (hr : vt (.node x d l r) i0 fin (.slice fa 2 fc) ∈ L)
 (hl : HT g w l) (hrr : HT g w r) (hne : l.ann.1 ≠ r.ann.1) (hp : x.1 = p) (hq : (if s then r.ann.1 else l.ann.1) = q) :
 Calls Tryz.prog 139 #[.pointer (some ⟨tb, 0, none⟩), .agg #[.pointer (some ⟨p, 0, none⟩), .pointer (some ⟨i, 0, none⟩), .slice fa 2 fc], .pointer (some ⟨q, 0, none⟩)] w fun e w' =>
  e = .returned (.int .i64 (if s then 1 else 0)) ∧ Fr g No w w' ∧ GOk g m w' := by
 subst hp hq
 exact leads_any s hg ht (ht.row hr) hl.isRec hrr.isRec hne
theorem below_t {x : Nat × Nat} {d : It} {l r : HTree} {p q i i0 fc : Nat} {fin : Bool} {fa : Option Addr} {k : Int} (s : Bool) (hg : GOk g m w) (ht : TrySt g w tb L) (hr : vt (.node x d l r) i0 fin (.slice fa 2 fc) ∈ L)
 (hp : x.1 = p) (hk : (if s then 1 else 0) = k) (hq : (if s then r.ann.1 else l.ann.1) = q) :
 Calls Tryz.prog 192 #[.pointer (some ⟨tb, 0, none⟩), .agg #[.pointer (some ⟨p, 0, none⟩), .pointer (some ⟨i, 0, none⟩), .slice fa 2 fc], .int .i64 k] w fun e w' =>
  e = .returned (.pointer (some ⟨q, 0, none⟩)) ∧ Fr g No w w' ∧ GOk g m w' := by
 subst hp hq hk
 exact below_tr s hg ht (ht.row hr)
theorem both_t {x : Nat × Nat} {d : It} {l r : HTree} {p i i0 fc : Nat} {fin : Bool} {fa : Option Addr} {k : Int} (s : Bool) (hg : GOk g m w) (hm : m + 14 < LIM) (hL : L.length < 800) (ht : TrySt g w tb L)
 (hr : vt (.node x d l r) i0 fin (.slice fa 2 fc) ∈ L) (hl : HT g w l) (hrr : HT g w r) (hp : x.1 = p) (hk : (if s then 1 else 0) = k) :
 Calls Tryz.prog 275 #[.pointer (some ⟨tb, 0, none⟩), .agg #[.pointer (some ⟨p, 0, none⟩), .pointer (some ⟨i, 0, none⟩), .slice fa 2 fc], .int .i64 k] w fun e w' => ∃ i0 f0 c0 i1 f1 c1,
  e = .returned (.tuple (if s then #[.agg #[ptr r.ann.1, ptr i1, .slice f1 (kidsOf r).length c1], .agg #[ptr l.ann.1, ptr i0, .slice f0 (kidsOf l).length c0]]
    else #[.agg #[ptr l.ann.1, ptr i0, .slice f0 (kidsOf l).length c0], .agg #[ptr r.ann.1, ptr i1, .slice f1 (kidsOf r).length c1]])) ∧
  FrT g tb w w' ∧ GOk g (m + 14) w' ∧ TrySt g w' tb (L ++ [vt l i0 true (.slice f0 (kidsOf l).length c0)] ++ [vt r i1 true (.slice f1 (kidsOf r).length c1)]) := by
 subst hp hk
 refine (both_tr s hg hm hL ht (ht.row hr) (shape_kids l) hl.nd (shape_kids r) hrr.nd).mono ?_
 rintro e w' ⟨i0, i1, fv0, fv1, he, h1, h2, h3⟩
 obtain ⟨f1, c1, rfl⟩ := lastSlice h3
 have hv : ∃ a c, fv0 = .slice a (kidsOf l).length c := (h3.row (r := vt l i0 true fv0) (by simp)).slice
 obtain ⟨f0, c0, rfl⟩ := hv
 exact ⟨i0, f0, c0, i1, f1, c1, he, h1, h2, h3⟩
theorem as_t {t : HTree} {p i i0 fc : Nat} {fin : Bool} {fa : Option Addr} (wt : Int) (hg : GOk g m w) (ht : TrySt g w tb L) (hr : vt t i0 fin (.slice fa (kidsOf t).length fc) ∈ L) (hT : HT g w t) (hv : t.isLeaf = false → t.it.v = 0) (hp : t.ann.1 = p) :
 Calls Tryz.prog 193 #[.agg #[.pointer (some ⟨p, 0, none⟩), .pointer (some ⟨i, 0, none⟩), .slice fa (kidsOf t).length fc], .int .i64 wt] w (NewT g m (fun x => reW x wt t) w) := by
 subst hp; exact as_any t wt hg hT (ht.row hr) hv
theorem less_t {t : HTree} {p i i0 fc : Nat} {fin : Bool} {fa : Option Addr} (hg : GOk g m w) (ht : TrySt g w tb L) (hr : vt t i0 fin (.slice fa (kidsOf t).length fc) ∈ L) (hT : HT g w t) (hv : t.isLeaf = false → t.it.v = 0) (hb0 : 0 ≤ t.it.w) (hb1 : t.it.w ≤ 1000) (hp : t.ann.1 = p) :
 Calls Tryz.prog 280 #[.agg #[.pointer (some ⟨p, 0, none⟩), .pointer (some ⟨i, 0, none⟩), .slice fa (kidsOf t).length fc]] w (NewT g m (fun x => reW x (t.it.w - 1) t) w) := by
 subst hp; exact less_any t hg hT (ht.row hr) hv hb0 hb1
theorem reds_t {t : HTree} {p i i0 fc : Nat} {fin : Bool} {fa : Option Addr} (hg : GOk g m w) (ht : TrySt g w tb L) (hr : vt t i0 fin (.slice fa (kidsOf t).length fc) ∈ L) (hT : HT g w t) (hp : t.ann.1 = p) :
 Calls Tryz.prog 276 #[.agg #[.pointer (some ⟨p, 0, none⟩), .pointer (some ⟨i, 0, none⟩), .slice fa (kidsOf t).length fc]] w fun e w' => e = .returned (.bool (!t.isLeaf && ((t.ch false).it.w == 0 || (t.ch true).it.w == 0))) ∧ Fr g No w w' ∧ GOk g m w' := by
 subst hp; exact reds_any t hg hT (ht.row hr)
theorem inner_t {k : HTree} {p i n fc : Nat} {fa : Option Addr} {wt si : Int} (s : Bool) (A B : HTree) (pa pb : Nat) (hg : GOk g m w) (hk : HT g w k) (hA : HT g w A) (hB : HT g w B) (hp : k.ann.1 = p) (hs : (if s then 1 else 0) = si) (ea : A.ann.1 = pa) (eb : B.ann.1 = pb) :
 Calls Tryz.prog 277 #[.agg #[.pointer (some ⟨p, 0, none⟩), .pointer (some ⟨i, 0, none⟩), .slice fa n fc], .int .i64 wt, .int .i64 si, .pointer (some ⟨pa, 0, none⟩), .pointer (some ⟨pb, 0, none⟩)] w (NewT g m (fun x => mk x (nd k.it.k wt) s A B) w) := by
 subst hp hs
 obtain ⟨info, h⟩ := hk.nd.rec
 exact inner_any s wt A B pa pb ea eb hg h hA hB
theorem weightBelow_t {u : HFr} {a be p : Nat} (wt : Int) (hu : NodeAt g w u.x.1 u.x.2 u.d false (frT u a)) (he : IsRec w be) (hne : u.x.1 ≠ be) (hp : u.x.1 = p) :
 Calls Tryz.prog 189 #[.pointer (some ⟨be, 0, none⟩), .pointer (some ⟨p, 0, none⟩), .int .i64 wt] w fun e w' => e = .returned (.int .i64 (topW u.d wt)) ∧ w = w' := by
 subst hp
 obtain ⟨info, h⟩ := hu.rec
 refine (weightBelow_any wt he h).mono ?_
 rintro e w' ⟨h1, h2⟩
 refine ⟨?_, h2⟩
 rw [h1]
 unfold topW
 simp [hne]
theorem swap_t {u : HFr} {a p info fc : Nat} {fa : Option Addr} {L' : List VRec} (hg : GOk g m w) (hm : m + 2 * L.length + 3 < LIM) (hL : L.length < 900) (e : L = ⟨u.x.1, u.x.2, u.d, false, frT u a, info, false, .slice fa 2 fc⟩ :: L')
 (ht : TrySt g w tb L) (hnd : (L.map (·.b)).Nodup) (hp : IsRec w p) :
 Calls Tryz.prog 140 #[.pointer (some ⟨tb, 0, none⟩), .int .i64 (if u.s then 1 else 0), .pointer (some ⟨p, 0, none⟩)] w fun e w' => e = .returned (.bool true) ∧
  Fr g (fun c => c = u.x.2 ∨ ∃ r ∈ L, c = r.b) w w' ∧ GOk g (m + 2 * L.length + 3) w' ∧ NodeAt g w' u.x.1 u.x.2 u.d false (if u.s then [u.sib.ann.1, p] else [p, u.sib.ann.1]) := by
 subst e
 cases hu : u.s with
 | false =>
   have := swap_any (k0 := a) (k1 := u.sib.ann.1) false hg hm hL ht hnd (by simp [hu]) rfl hp
   simpa [hu] using this
 | true =>
   have := swap_any (k0 := u.sib.ann.1) (k1 := a) true hg hm hL ht hnd (by simp [hu]) rfl hp
   simpa [hu] using this
end
end Go.Proofs.YtdmobhndbibhoaaGreat
namespace Go.Proofs.YtdmobhndbibhoaaGreat
set_option linter.unusedVariables false
set_option linter.unusedSimpArgs false
open Go.RowKit Larch
set_option maxRecDepth 100000
theorem HTp.u {g : Gt} {w : World} {u : HFr} {c : List HFr} {X : HTree} (h : HT g w (plug (u :: c) X)) : NodeAt g w u.x.1 u.x.2 u.d false (frT u X.ann.1) := ((HT_plug _ _ _ _).1 h).1.1
theorem HTp.sib {g : Gt} {w : World} {u : HFr} {c : List HFr} {X : HTree} (h : HT g w (plug (u :: c) X)) : HT g w u.sib := ((HT_plug _ _ _ _).1 h).1.2.1
theorem HTp.X {g : Gt} {w : World} {u : HFr} {c : List HFr} {X : HTree} (h : HT g w (plug (u :: c) X)) : HT g w X := ((HT_plug _ _ _ _).1 h).2
theorem nd_count {bs : List Nat} (h : ∀ a, (bs.map (one a)).sum ≤ 1) : bs.Nodup := by
 rw [List.nodup_iff_count]
 intro a
 have : ∀ l : List Nat, l.count a = (l.map (one a)).sum := by
  intro l
  induction l with
  | nil => rfl
  | cons b l ih =>
    rw [List.count_cons, List.map_cons, List.sum_cons, ih]
    simp only [one, beq_iff_eq]
    by_cases e : b = a
    ·subst e; simp; omega
    ·rw [if_neg e, if_neg (fun h => e h.symm)]; omega
 rw [this]; exact h a
theorem cnt_ann_le (a : Nat) (t : HTree) : one a t.ann.1 + one a t.ann.2 ≤ cnt a t := by
 cases t <;> simp only [cnt, T.ann] <;> omega
def Fresh (lo hi : Nat) (F : Nat → Nat) : Prop := (∀ a, F a ≤ 1) ∧ ∀ a, 1 ≤ F a → lo ≤ a ∧ a < hi
theorem Fresh.start (lo : Nat) : Fresh lo lo fun _ => 0 := ⟨by simp, by simp⟩
theorem Fresh.add {lo hi hi' : Nat} {F : Nat → Nat} (h : Fresh lo hi F) (x : Nat × Nat) (h1 : hi ≤ x.1) (h2 : hi ≤ x.2) (h3 : x.1 ≠ x.2) (k1 : x.1 < hi') (k2 : x.2 < hi') (hl : lo ≤ hi) : Fresh lo hi' fun a => F a + (one a x.1 + one a x.2) := by
 constructor
 ·intro a
  show F a + (one a x.1 + one a x.2) ≤ 1
  have := h.1 a
  have h4 := h.2 a
  by_cases hF : 1 ≤ F a
  ·have := h4 hF
   rw [one_ne (by omega : a ≠ x.1), one_ne (by omega : a ≠ x.2)]; omega
  ·by_cases e : a = x.1
   ·rw [one_ne (a := a) (b := x.2) (by omega)]; have := one_le a x.1; omega
   ·rw [one_ne e]; have := one_le a x.2; omega
 ·intro a ha
  change 1 ≤ F a + (one a x.1 + one a x.2) at ha
  have h4 := h.2 a
  by_cases hF : 1 ≤ F a
  ·have := h4 hF; omega
  ·by_cases e : a = x.1
   ·omega
   ·rw [one_ne e] at ha
    have := one_pos (a := a) (b := x.2) (by omega)
    omega
theorem Fresh.new {g : Gt} {lo hi : Nat} {F : Nat → Nat} {w w' : World} {x : Nat × Nat} {N : HTree} (h : Fresh lo hi F) (hw : hi ≤ w.heap.size) (h1 : w.heap.size ≤ x.1) (h2 : w.heap.size ≤ x.2) (h3 : x.1 ≠ x.2)
 (hN : HT g w' N) (e : N.ann = x) (hl : lo ≤ hi) : Fresh lo w'.heap.size fun a => F a + (one a x.1 + one a x.2) :=
 h.add x (by omega) (by omega) h3 (by rw [← e]; exact hN.lt _ (cnt_ann N)) (by rw [← e]; exact hN.lt _ (cnt_ann2 N)) hl
theorem HT.wk {g : Gt} {w : World} {t : HTree} {p : Nat} {k : Int} (h : HT g w t) (hp : t.ann.1 = p) (hk : t.it.w = k) : Calls Tryz.prog 232 #[.pointer (some ⟨p, 0, none⟩)] w fun e w' => e = .returned (.int .i64 k) ∧ w = w' := by
 subst hk; exact h.wt hp
theorem gval_cells (g : Gt) : (gval g).cells = #[gval g] := by unfold gval; cases g.gt <;> rfl
theorem box_free {g : Gt} {m : Nat} {w : World} {cs : Array Value} {T : TypeId} (hg : GOk g m w) (i : Nat) : (w.alloc (.cells cs T)).frozen? ⟨w.heap.size, i, none⟩ = false := (At.new hg (.cells cs T)).free i
theorem bq {g : Gt} {m : Nat} {w : World} (hg : GOk g m w) : (w.alloc (.cells #[.pointer none, .pointer none, .slice none 0 0] 220)).frozen? ⟨w.heap.size, 0, none⟩ = false ∧
 (w.alloc (.cells #[.pointer none, .pointer none, .slice none 0 0] 220)).frozen? ⟨w.heap.size, 1, none⟩ = false ∧
 (w.alloc (.cells #[.pointer none, .pointer none, .slice none 0 0] 220)).frozen? ⟨w.heap.size, 2, none⟩ = false :=
 ⟨box_free hg 0, box_free hg 1, box_free hg 2⟩
theorem box_free2 {g : Gt} {m : Nat} {w : World} {cs ds : Array Value} {T U : TypeId} (hg : GOk g m w) (i : Nat) :
 ((w.alloc (.cells cs T)).alloc (.cells ds U)).frozen? ⟨w.heap.size, i, none⟩ = false ∧ ((w.alloc (.cells cs T)).alloc (.cells ds U)).frozen? ⟨w.heap.size + 1, i, none⟩ = false := by
 constructor
 ·exact ((Fr.alloc g No _ (.cells ds U) (hg.alloc (.cells cs T))).at (At.new hg (.cells cs T)) id).free i
 ·have := (At.new (hg.alloc (.cells cs T)) (.cells ds U)).free i
  simpa only [World.size_alloc] using this
theorem try_blk {g : Gt} {w : World} (b : Nat) (h : TBlk (w.alloc (.cells #[gval g, .slice none 0 0, .slice none 0 0, .bool true] 218)) w.heap.size b) : w.heap.size ≤ b := by
 rcases h with rfl | ⟨x, v, f, y, hh, hc⟩
 ·exact Nat.le_refl _
 ·rw [heap_alloc_new] at hh
  cases hh
  rcases hc with h | h <;> cases h
theorem er_mk (x : Nat × Nat) (d : It) (s : Bool) (a b : HTree) : (mk x d s a b).er = mk () d s a.er b.er := by cases s <;> rfl
def StepR (g : Gt) (m : Nat) (u : HFr) (c : List HFr) (E : T Unit) (w : World) (e : Ending) (w' : World) : Prop :=
 e = .returned (.tuple #[]) ∧ ∃ N : HTree, Tree g w' (plug (u :: c) N) ∧ N.er = E ∧ TF g w w' ∧ GOk g m w'
end Go.Proofs.YtdmobhndbibhoaaGreat
namespace Go.Proofs.YtdmobhndbibhoaaGreat
set_option linter.unusedVariables false
set_option linter.unusedSimpArgs false
open Go.RowKit Larch
set_option maxRecDepth 100000
attribute [local go_sem ↓] Go.wp_at_zero Go.wp_at_succ
set_option maxHeartbeats 400000 in
theorem top_any {g : Gt} {w : World} {u : HFr} {a be p b6 b7 : Nat} (wt : Int) (h6 : Cl g w b6 #[.pointer (some ⟨be, 0, none⟩)] 99) (h7 : Cl g w b7 #[.pointer (some ⟨p, 0, none⟩)] 99)
 (hu : NodeAt g w u.x.1 u.x.2 u.d false (frT u a)) (he : IsRec w be) (hne : u.x.1 ≠ be) (hp : u.x.1 = p) :
 Calls Tryz.prog 279 #[.int .i64 wt, .pointer (some ⟨b6, 0, none⟩), .pointer (some ⟨b7, 0, none⟩)] w fun e w' => e = .returned (.int .i64 (topW u.d wt)) ∧ w = w' := by
 have c6 := h6.cell 0
 have c7 := h7.cell 0
 have hw := weightBelow_t wt hu he hne hp
 clear hu he hne
 go_enter Tryz.func279, Tryz.ntmps279
 go_wp2_with (go_at_call 189; refine hw.mono ?_; rintro e w1 ⟨rfl, rfl⟩)
 go_ret
 exact ⟨rfl, rfl⟩
theorem it_node (x : Nat × Nat) (d : It) (l r : HTree) : (T.node x d l r).it = d := rfl
theorem kidsOf_node (x : Nat × Nat) (d : It) (l r : HTree) : kidsOf (.node x d l r) = [l.ann.1, r.ann.1] := rfl
theorem sum_ge {M : List VRec} {q : VRec} (h : q ∈ M) : 1 ≤ (M.map fun r => one q.b r.b).sum := by
 induction M with
 | nil => cases h
 | cons r M ih =>
   rw [List.map_cons, List.sum_cons]
   rcases List.mem_cons.1 h with rfl | h
   ·rw [one_self]; omega
   ·have := ih h; omega
def MakeR (g : Gt) (m tb lo : Nat) (L : List VRec) (x : Nat × Nat) (l r : HTree) (d : It) (E : T Unit) (w : World) (e : Ending) (w' : World) : Prop :=
 ∃ (N : HTree) (L' : List VRec) (F R P : Nat → Nat), e = .returned (ptr N.ann.1) ∧ FrT g tb w w' ∧ GOk g (m + 30) w' ∧ TrySt g w' tb (L ++ L') ∧ HT g w' N ∧ N.er = E ∧ Fresh lo w'.heap.size F ∧
   (∀ a, cnt a N = F a + P a) ∧ (∀ a, cnt a (.node x d l r) = R a + P a) ∧ (∀ a, one a x.1 + (one a l.ann.1 + (one a r.ann.1 + (L'.map fun q => one a q.b).sum)) ≤ R a) ∧ L'.length ≤ 2
end Go.Proofs.YtdmobhndbibhoaaGreat
