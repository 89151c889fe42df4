/- The plain tree of the index: weights, contexts, the rebalancing step, what the operations do to the pairs; no program here. -/
namespace Larch
set_option linter.unusedVariables false
set_option linter.unusedSimpArgs false
structure It where
 k : Int
 i : Int
 w : Int
 v : Int
deriving DecidableEq
inductive T (α : Type) where
 | leaf (x : α) (d : It)
 | node (x : α) (d : It) (l r : T α)
variable {α β : Type}
namespace T
def it : T α → It
 | leaf _ d => d
 | node _ d _ _ => d
def isLeaf : T α → Bool
 | leaf _ _ => true
 | node _ _ _ _ => false
def ann : T α → α
 | leaf x _ => x
 | node x _ _ _ => x
def ch (s : Bool) : T α → T α
 | leaf x d => leaf x d
 | node _ _ l r => if s then r else l
def size : T α → Nat
 | leaf _ _ => 1
 | node _ _ l r => l.size + r.size + 1
def map (g : α → β) : T α → T β
 | leaf x d => leaf (g x) d
 | node x d l r => node (g x) d (l.map g) (r.map g)
def er (t : T α) : T Unit := t.map fun _ => ()
end T
def mk (x : α) (d : It) (s : Bool) (near far : T α) : T α := if s then .node x d far near else .node x d near far
structure Fr (α : Type) where
 x : α
 d : It
 s : Bool
 sib : T α
def plug : List (Fr α) → T α → T α
 | [], t => t
 | f :: c, t => plug c (mk f.x f.d f.s t f.sib)
def cr : It := ⟨0, 1, 1, 0⟩
def below (key : Int) (d : It) : Bool := d.i == 1 || decide (key < d.k)
def bad (p d : It) : Bool := d.i != 1 && (decide (d.w > 1) || d.w == 0 && p.i == 0 && p.w == 0)
def way (key : Int) : List (Fr α) → T α → List (Fr α) × T α
 | c, .leaf x d => (c, .leaf x d)
 | c, .node x d l r => if below key d then way key (⟨x, d, false, r⟩ :: c) l else way key (⟨x, d, true, l⟩ :: c) r
def viol (key : Int) : List (Fr α) → T α → Option (List (Fr α) × T α)
 | _, .leaf _ _ => none
 | c, .node x d l r =>
   if below key d then (if bad d l.it then some (⟨x, d, false, r⟩ :: c, l) else viol key (⟨x, d, false, r⟩ :: c) l)
   else (if bad d r.it then some (⟨x, d, true, l⟩ :: c, r) else viol key (⟨x, d, true, l⟩ :: c) r)
def topW (u : It) (w : Int) : Int := if u.i = 1 then 1 else w
def nd (k w : Int) : It := ⟨k, 0, w, 0⟩
def setW (w : Int) : T Unit → T Unit
 | .leaf x d => .leaf x ⟨d.k, d.i, w, d.v⟩
 | .node x d l r => .node x ⟨d.k, d.i, w, d.v⟩ l r
def less (t : T Unit) : T Unit := setW (t.it.w - 1) t
def redN (u : It) (s : Bool) (x : T Unit) : T Unit :=
 let f := x.ch s; let sib := x.ch (!s); let d := x.it
 if sib.it.w = 0 then mk () (nd d.k (topW u (d.w - 1))) s (setW 1 f) (setW 1 sib)
 else if (f.ch s).it.w = 0 then mk () (nd f.it.k (topW u d.w)) s (f.ch s) (mk () (nd d.k 0) s (f.ch (!s)) sib)
 else
  let m := f.ch (!s)
  mk () (nd m.it.k (topW u d.w)) s (mk () (nd f.it.k 0) s (f.ch s) (m.ch s)) (mk () (nd d.k 0) s (m.ch (!s)) sib)
def overN (u : It) (s : Bool) (x : T Unit) : T Unit :=
 let v := x.ch s; let r := x.ch (!s); let d := x.it
 let rl := r.ch s; let rr := r.ch (!s)
 if r.it.w = 1 then
  if rr.it.w = 0 then mk () (nd r.it.k (topW u d.w)) s (mk () (nd d.k 1) s (less v) rl) (setW 1 rr)
  else if rl.it.w = 0 then mk () (nd rl.it.k (topW u d.w)) s (mk () (nd d.k 1) s (less v) (rl.ch s)) (mk () (nd r.it.k 1) s (rl.ch (!s)) rr)
  else mk () (nd d.k (topW u (d.w + 1))) s (less v) (setW 0 r)
 else
  let a := rl.ch s; let b := rl.ch (!s)
  if b.it.w = 0 then mk () (nd r.it.k (topW u d.w)) s (mk () (nd rl.it.k 0) s (mk () (nd d.k 1) s (less v) a) (setW 1 b)) rr
  else if a.it.w = 0 then mk () (nd r.it.k (topW u d.w)) s (mk () (nd a.it.k 0) s (mk () (nd d.k 1) s (less v) (a.ch s)) (mk () (nd rl.it.k 1) s (a.ch (!s)) b)) rr
  else mk () (nd r.it.k (topW u d.w)) s (mk () (nd d.k 1) s (less v) (setW 0 rl)) rr
def fix : List (Fr Unit) × T Unit → List (Fr Unit) × T Unit
 |(f :: e :: c, v) =>
  if v.it.w = 0 then
   match c with
   | u :: c => (u :: c, redN u.d e.s (mk () e.d e.s (mk () f.d f.s v f.sib) e.sib))
   | [] => (f :: e :: c, v)
  else (e :: c, overN e.d f.s (mk () f.d f.s v f.sib))
 |(c, v) => (c, v)
def clean (key : Int) : Nat → T Unit → T Unit
 | 0, t => t
 | n + 1, t => match viol key [] t with
   | none => t
   | some z => clean key n (plug (fix z).1 (fix z).2)
def RBk : T α → Int → Prop
 | .leaf _ d, h => d.i = 0 ∧ h = d.w
 | .node _ d l r, h => d.i = 0 ∧ d.v = 0 ∧ RBk l (h - d.w) ∧ RBk r (h - d.w) ∧
  (l.it.w = 1 ∨ l.it.w = 0 ∧ l.isLeaf = false ∧ d.w ≠ 0) ∧ (r.it.w = 1 ∨ r.it.w = 0 ∧ r.isLeaf = false ∧ d.w ≠ 0)
def W01 (t : T α) : Prop := t.it.w = 1 ∨ t.it.w = 0 ∧ t.isLeaf = false
inductive CtxOk : List (Fr α) → Int → Prop where
 | crown (x1 x0 s1 s0 : α) (h : Int) : CtxOk [⟨x1, cr, false, .leaf s1 cr⟩, ⟨x0, cr, false, .leaf s0 cr⟩] h
 | cons (f e : Fr α) (c : List (Fr α)) (h : Int) (hi : f.d.i = 0) (hv : f.d.v = 0) (hs : RBk f.sib h) (hw : W01 f.sib)
  (h01 : f.d.w = 1 ∨ f.d.w = 0 ∧ f.sib.it.w = 1 ∧ e.d.i = 0 ∧ e.d.w = 1) (hc : CtxOk (e :: c) (h + f.d.w)) : CtxOk (f :: e :: c) h
def HoleW (c : List (Fr α)) (t : T α) : Prop :=
 match c with
 | f :: _ => (f.d.i = 1 → t.it.w = 1) ∧ (t.it.w = 1 ∨ t.it.w = 2 ∨ t.it.w = 0 ∧ t.isLeaf = false)
 | [] => False
def Pend (c : List (Fr α)) (t : T α) : Prop := ∃ h, CtxOk c h ∧ RBk t h ∧ HoleW c t
end Larch
namespace Larch
variable {α β : Type}
@[simp] theorem mk_ch (x : α) (d : It) (s : Bool) (a b : T α) : (mk x d s a b).ch s = a := by cases s <;> simp [mk, T.ch]
@[simp] theorem mk_ch' (x : α) (d : It) (s : Bool) (a b : T α) : (mk x d s a b).ch (!s) = b := by cases s <;> simp [mk, T.ch]
@[simp] theorem mk_it (x : α) (d : It) (s : Bool) (a b : T α) : (mk x d s a b).it = d := by cases s <;> simp [mk, T.it]
@[simp] theorem mk_isLeaf (x : α) (d : It) (s : Bool) (a b : T α) : (mk x d s a b).isLeaf = false := by cases s <;> simp [mk, T.isLeaf]
def Kid (d : It) (t : T α) : Prop := t.it.w = 1 ∨ t.it.w = 0 ∧ t.isLeaf = false ∧ d.w ≠ 0
theorem RBk_mk (x : α) (d : It) (s : Bool) (a b : T α) (h : Int) :
 RBk (mk x d s a b) h ↔ d.i = 0 ∧ d.v = 0 ∧ RBk a (h - d.w) ∧ RBk b (h - d.w) ∧ Kid d a ∧ Kid d b := by
 cases s <;> simp only [mk, RBk, Kid, Bool.false_eq_true, if_false, if_true] <;> grind
theorem of_node (t : T α) (s : Bool) (h : t.isLeaf = false) : ∃ x d a b, t = mk x d s a b := by
 cases t with
 | leaf x d => simp [T.isLeaf] at h
 | node x d l r => cases s with
   | false => exact ⟨x, d, l, r, rfl⟩
   | true => exact ⟨x, d, r, l, rfl⟩
theorem RBk_pos (t : T α) : ∀ h, RBk t h → (t.it.w = 1 ∨ t.it.w = 0 ∧ t.isLeaf = false) → 1 ≤ h := by
 induction t with
 | leaf x d => intro h hr hw; simp [RBk, T.it, T.isLeaf] at *; omega
 | node x d l r ihl ihr =>
   intro h hr hw
   simp only [RBk] at hr
   obtain ⟨_, _, h1, _, h3, _⟩ := hr
   have := ihl _ h1 (by rcases h3 with h | h; exact .inl h; exact .inr ⟨h.1, h.2.1⟩)
   simp [T.it] at hw
   omega
@[simp] theorem setW_it (w : Int) (t : T Unit) : (setW w t).it = ⟨t.it.k, t.it.i, w, t.it.v⟩ := by cases t <;> rfl
@[simp] theorem setW_isLeaf (w : Int) (t : T Unit) : (setW w t).isLeaf = t.isLeaf := by cases t <;> rfl
theorem RBk_setW (w : Int) (t : T Unit) (h : Int) (hr : RBk t h) (hz : w = 0 → t.isLeaf = false ∧ ∀ s, (t.ch s).it.w = 1) (hc : t.it.w ≠ 0 ∨ w ≠ 0 ∨ True) :
 RBk (setW w t) (h - t.it.w + w) := by
 cases t with
 | leaf x d => simp [RBk, setW, T.it] at *; omega
 | node x d l r =>
   simp only [RBk, setW, T.it] at *
   obtain ⟨a, b, c, e, f, g⟩ := hr
   refine ⟨a, b, ?_, ?_, ?_, ?_⟩
   ·rw [show h - d.w + w - w = h - d.w from by omega]; exact c
   ·rw [show h - d.w + w - w = h - d.w from by omega]; exact e
   ·by_cases hw : w = 0
    ·have := (hz hw).2 false; simp [T.ch] at this; exact .inl this
    ·rcases f with f | f; exact .inl f; exact .inr ⟨f.1, f.2.1, hw⟩
   ·by_cases hw : w = 0
    ·have := (hz hw).2 true; simp [T.ch] at this; exact .inl this
    ·rcases g with f | f; exact .inl f; exact .inr ⟨f.1, f.2.1, hw⟩
end Larch
namespace Larch
variable {α β : Type}
theorem CtxOk.any {c : List (Fr α)} {u : Fr α} {h : Int} (hc : CtxOk (u :: c) h) (hu : u.d.i = 1) (h' : Int) : CtxOk (u :: c) h' := by
 cases hc with
 | crown => exact .crown _ _ _ _ _
 | cons f e c h hi => rw [hi] at hu; cases hu
theorem CtxOk.inf {c : List (Fr α)} {u : Fr α} {h : Int} (hc : CtxOk (u :: c) h) : u.d.i = 0 ∨ u.d.i = 1 := by
 cases hc with
 | crown => exact .inr rfl
 | cons f e c h hi => exact .inl hi
theorem Kid.top {k w : Int} {t : T α} (h : Kid (nd k w) t) (w' : Int) (hw : w' = w ∨ w' ≠ 0) : Kid (nd k w') t := by
 rcases h with h | h
 ·exact .inl h
 ·exact .inr ⟨h.1, h.2.1, by have := h.2.2; simp [nd] at *; omega⟩
theorem pend_mk {c : List (Fr Unit)} {u : Fr Unit} {H : Int} (hc : CtxOk (u :: c) H) (k w : Int) (s : Bool) (a b : T Unit)
 (ha : RBk a (H - w)) (hb : RBk b (H - w)) (ka : Kid (nd k w) a) (kb : Kid (nd k w) b) (hw : w = 0 ∨ w = 1 ∨ w = 2) :
 Pend (u :: c) (mk () (nd k (topW u.d w)) s a b) := by
 by_cases hu : u.d.i = 1
 ·refine ⟨H - w + 1, hc.any hu _, ?_, ?_⟩
  ·rw [RBk_mk]; simp only [topW, hu, if_true]
   refine ⟨rfl, rfl, ?_, ?_, ka.top 1 (by omega), kb.top 1 (by omega)⟩ <;> simpa [nd]
  ·simp [HoleW, topW, hu, nd]
 ·refine ⟨H, hc, ?_, ?_⟩
  ·rw [RBk_mk]; simp only [topW, hu, if_false]
   exact ⟨rfl, rfl, by simpa [nd], by simpa [nd], ka, kb⟩
  ·simp only [HoleW, mk_it, mk_isLeaf, topW, hu, if_false, nd]; simp; omega
theorem CtxOk.tail {c : List (Fr α)} {f e : Fr α} {h : Int} (hc : CtxOk (f :: e :: c) h) (hi : f.d.i = 0) :
 f.d.v = 0 ∧ RBk f.sib h ∧ W01 f.sib ∧ (f.d.w = 1 ∨ f.d.w = 0 ∧ f.sib.it.w = 1 ∧ e.d.i = 0 ∧ e.d.w = 1) ∧ CtxOk (e :: c) (h + f.d.w) := by
 cases hc with
 | crown => simp [cr] at hi
 | cons f e c h hi hv hs hw h01 hc => exact ⟨hv, hs, hw, h01, hc⟩
theorem CtxOk.two {c : List (Fr α)} {f : Fr α} {h : Int} (hc : CtxOk (f :: c) h) : ∃ e c', c = e :: c' := by
 cases hc with
 | crown => exact ⟨_, _, rfl⟩
 | cons f e c h hi hv hs hw h01 hc => exact ⟨_, _, rfl⟩
theorem setW_mk (w : Int) (x : Unit) (d : It) (s : Bool) (a b : T Unit) : setW w (mk x d s a b) = mk x ⟨d.k, d.i, w, d.v⟩ s a b := by
 cases s <;> rfl
theorem RBk_eq {t : T α} {h h' : Int} (hr : RBk t h) (e : h = h') : RBk t h' := e ▸ hr
theorem Kid1 {t : T α} (h : W01 t) (d : It) (hd : d.w ≠ 0) : Kid d t := by
 rcases h with h | h
 ·exact .inl h
 ·exact .inr ⟨h.1, h.2, hd⟩
theorem Kid.w01 {t : T α} {d : It} (h : Kid d t) : W01 t := by
 rcases h with h | h
 ·exact .inl h
 ·exact .inr ⟨h.1, h.2.1⟩
theorem Kid.one {t : T α} {d : It} (h : Kid d t) (hd : d.w = 0) : t.it.w = 1 := by
 rcases h with h | h
 ·exact h
 ·exact absurd hd h.2.2
theorem fix_red {c : List (Fr Unit)} {f e u : Fr Unit} {v : T Unit} {h : Int} (hc : CtxOk (f :: e :: u :: c) h) (hv : RBk v h) (h0 : v.it.w = 0)
 (hn : v.isLeaf = false) (hf : f.d.w = 0) (hfi : f.d.i = 0) :
 Pend (u :: c) (redN u.d e.s (mk () e.d e.s (mk () f.d f.s v f.sib) e.sib)) := by
 obtain ⟨fv, fs, fw, f01, hc1⟩ := hc.tail hfi
 rcases f01 with f01 | ⟨_, fs1, ei, ew⟩
 ·omega
 obtain ⟨ev, es, ew', e01, hc2⟩ := hc1.tail ei
 rw [hf] at hc2 es
 rw [ew] at hc2
 have kv : ∀ k, Kid (nd k 1) v := fun k => .inr ⟨h0, hn, by simp [nd]⟩
 simp only [redN, mk_ch, mk_ch', mk_it]
 split
 ·rename_i hs0
  have hl : e.sib.isLeaf = false := by rcases ew' with h | h; omega; exact h.2
  obtain ⟨y, dy, a, b, hy⟩ := of_node e.sib e.s hl
  rw [hy, RBk_mk] at es
  rw [hy] at hs0; simp at hs0
  rw [ew, hy, setW_mk, setW_mk]
  refine pend_mk hc2 _ _ _ _ _ ?_ ?_ (.inl (by simp)) (.inl (by simp)) (by simp)
  ·rw [RBk_mk]; exact ⟨hfi, fv, RBk_eq hv (by simp), RBk_eq fs (by simp), kv 0 |> fun k => .inr ⟨h0, hn, by simp⟩, .inl fs1⟩
  ·rw [RBk_mk]
   exact ⟨es.1, es.2.1, RBk_eq es.2.2.1 (by simp; omega), RBk_eq es.2.2.2.1 (by simp; omega), .inl (es.2.2.2.2.1.one hs0), .inl (es.2.2.2.2.2.one hs0)⟩
 ·rename_i hs0
  have es1 : e.sib.it.w = 1 := by rcases ew' with h | h; exact h; exact absurd h.1 hs0
  by_cases hfe : f.s = e.s
  ·rw [hfe, mk_ch, mk_ch', if_pos h0, ew]
   refine pend_mk hc2 _ _ _ _ _ (RBk_eq hv (by omega)) ?_ (kv _) (.inr ⟨by simp [nd], by simp, by simp [nd]⟩) (by simp)
   rw [RBk_mk]; exact ⟨rfl, rfl, RBk_eq fs (by simp [nd]), RBk_eq es (by simp [nd]), .inl fs1, .inl es1⟩
  ·have hfe' : f.s = !e.s := by cases h : f.s <;> cases h' : e.s <;> simp_all
   have hm : mk () f.d f.s v f.sib = mk () f.d e.s f.sib v := by rw [hfe']; cases e.s <;> simp [mk]
   obtain ⟨y, dy, a, b, hy⟩ := of_node v e.s hn
   rw [hm, mk_ch, mk_ch', if_neg (by omega), ew, hy, mk_ch, mk_ch', mk_it]
   rw [hy, RBk_mk] at hv
   rw [hy] at h0; simp at h0
   refine pend_mk hc2 _ _ _ _ _ ?_ ?_ (.inr ⟨by simp [nd], by simp, by simp [nd]⟩) (.inr ⟨by simp [nd], by simp, by simp [nd]⟩) (by simp)
   ·rw [RBk_mk]; exact ⟨rfl, rfl, RBk_eq fs (by simp [nd]), RBk_eq hv.2.2.1 (by simp [nd]; omega), .inl fs1, .inl (hv.2.2.2.2.1.one h0)⟩
   ·rw [RBk_mk]; exact ⟨rfl, rfl, RBk_eq hv.2.2.2.1 (by simp [nd]; omega), RBk_eq es (by simp [nd]), .inl (hv.2.2.2.2.2.one h0), .inl es1⟩
theorem RBk_less {v : T Unit} {h : Int} (hv : RBk v h) (hw : v.it.w = 2) : RBk (less v) (h - 1) ∧ (less v).it.w = 1 := by
 constructor
 ·cases v with
  | leaf x d => simp [RBk, less, setW, T.it] at *; omega
  | node x d l r =>
    simp only [RBk, less, setW, T.it] at *
    obtain ⟨a, b, c, e, f, g⟩ := hv
    refine ⟨a, b, RBk_eq c (by omega), RBk_eq e (by omega), ?_, ?_⟩
    ·rcases f with f | f; exact .inl f; exact .inr ⟨f.1, f.2.1, by omega⟩
    ·rcases g with f | f; exact .inl f; exact .inr ⟨f.1, f.2.1, by omega⟩
 ·simp [less]; omega
theorem RBk_two {v : T α} {h : Int} (hv : RBk v h) (hw : v.it.w = 2) : 2 ≤ h := by
 cases v with
 | leaf x d => simp [RBk, T.it] at *; omega
 | node x d l r =>
   simp only [RBk, T.it] at *
   obtain ⟨a, b, c, e, f, g⟩ := hv
   have := RBk_pos l _ c (by rcases f with h | h; exact .inl h; exact .inr ⟨h.1, h.2.1⟩)
   omega
theorem leaf_sum {t : T α} {h : Int} (ht : RBk t h) (hl : t.isLeaf = true) : h = t.it.w := by
 cases t with
 | leaf x d => simp [RBk, T.it] at *; exact ht.2
 | node x d l r => simp [T.isLeaf] at hl
theorem fix_over {c : List (Fr Unit)} {f e : Fr Unit} {v : T Unit} {h : Int} (hc : CtxOk (f :: e :: c) h) (hv : RBk v h) (h2 : v.it.w = 2)
 (hfi : f.d.i = 0) :
 Pend (e :: c) (overN e.d f.s (mk () f.d f.s v f.sib)) := by
 obtain ⟨fv, rs, rw_, f01, hc1⟩ := hc.tail hfi
 have hh := RBk_two hv h2
 obtain ⟨lv, lw⟩ := RBk_less hv h2
 have hfw : f.d.w = 0 ∨ f.d.w = 1 := by omega
 simp only [overN, mk_ch, mk_ch', mk_it]
 have rl : f.sib.isLeaf = false := by
  cases hl : f.sib.isLeaf with
  | false => rfl
  | true => have := leaf_sum rs hl; rcases rw_ with h | h <;> omega
 obtain ⟨y, dr, rl_, rr_, hy⟩ := of_node f.sib f.s rl
 rw [hy] at rs rw_ f01 ⊢
 simp only [mk_ch, mk_ch', mk_it] at rs rw_ f01 ⊢
 rw [RBk_mk] at rs
 obtain ⟨ri, rv, sl, sr, kl, kr⟩ := rs
 have N1 : ∀ k (t : T Unit), RBk t (h - 1) → W01 t → RBk (mk () (nd k 1) f.s (less v) t) h := fun k t ht hw => by
  rw [RBk_mk]; exact ⟨rfl, rfl, RBk_eq lv (by simp [nd]), RBk_eq ht (by simp [nd]), .inl lw, Kid1 hw _ (by simp [nd])⟩
 have S1 : ∀ t : T Unit, RBk t (h - 1) → t.it.w = 0 → t.isLeaf = false → RBk (setW 1 t) h := fun t ht h0 hn => by
  obtain ⟨y, dy, a, b, hy⟩ := of_node t f.s hn
  subst hy
  simp only [mk_it] at h0
  rw [RBk_mk] at ht
  rw [setW_mk, RBk_mk]
  exact ⟨ht.1, ht.2.1, RBk_eq ht.2.2.1 (by simp; omega), RBk_eq ht.2.2.2.1 (by simp; omega), .inl (ht.2.2.2.2.1.one h0), .inl (ht.2.2.2.2.2.one h0)⟩
 split
 ·rename_i r1
  rw [r1] at sl sr
  split
  ·rename_i rr0
   refine pend_mk hc1 _ _ _ _ _ (RBk_eq (N1 _ _ sl kl.w01) (by omega)) (RBk_eq (S1 _ sr rr0 ?_) (by omega)) (.inl (by simp [nd])) (.inl (by simp)) (by omega)
   rcases kr with h | h; omega; exact h.2.1
  ·split
   ·rename_i rr0 rl0
    have hn : rl_.isLeaf = false := by rcases kl with h | h; omega; exact h.2.1
    obtain ⟨z, dz, a, b, hz⟩ := of_node rl_ f.s hn
    subst hz
    simp only [mk_it, mk_ch, mk_ch'] at rl0 ⊢
    rw [RBk_mk] at sl
    obtain ⟨_, _, sa, sb, ka, kb⟩ := sl
    have rr1 : rr_.it.w = 1 := by rcases kr with h | h; exact h; exact absurd h.1 rr0
    refine pend_mk hc1 _ _ _ _ _ (RBk_eq (N1 _ _ (RBk_eq sa (by omega)) ka.w01) (by omega)) ?_ (.inl (by simp [nd])) (.inl (by simp [nd])) (by omega)
    rw [RBk_mk]; exact ⟨rfl, rfl, RBk_eq sb (by simp [nd]; omega), RBk_eq sr (by simp [nd]), Kid1 kb.w01 _ (by simp [nd]), .inl rr1⟩
   ·rename_i rr0 rl0
    have rr1 : rr_.it.w = 1 := by rcases kr with h | h; exact h; exact absurd h.1 rr0
    have rl1 : rl_.it.w = 1 := by rcases kl with h | h; exact h; exact absurd h.1 rl0
    rw [setW_mk]
    refine pend_mk hc1 _ _ _ _ _ (RBk_eq lv (by omega)) ?_ (.inl lw) ?_ (by omega)
    ·rw [RBk_mk]; exact ⟨ri, rv, RBk_eq sl (by simp; omega), RBk_eq sr (by simp; omega), .inl rl1, .inl rr1⟩
    ·exact .inr ⟨by simp, by simp, by simp [nd]; omega⟩
 ·rename_i r1
  have r0 : dr.w = 0 := by rcases rw_ with h | h; simp at h; omega; simpa using h.1
  have f1 : f.d.w = 1 := by rcases f01 with h | h; exact h; omega
  rw [r0] at sl sr
  have rr1 := kr.one r0
  have rl1 := kl.one r0
  have hn : rl_.isLeaf = false := by
   cases hl : rl_.isLeaf with
   | false => rfl
   | true => have := leaf_sum sl hl; omega
  obtain ⟨z, dz, a, b, hz⟩ := of_node rl_ f.s hn
  subst hz
  simp only [mk_it, mk_ch, mk_ch'] at rl1 ⊢
  rw [RBk_mk] at sl
  obtain ⟨di, dv, sa, sb, ka, kb⟩ := sl
  rw [rl1] at sa sb
  have sa := RBk_eq sa (show h - 0 - 1 = h - 1 by omega)
  have sb := RBk_eq sb (show h - 0 - 1 = h - 1 by omega)
  have sr := RBk_eq sr (show h - 0 = h by omega)
  rw [f1] at hc1 ⊢
  split
  ·rename_i b0
   have bn : b.isLeaf = false := by rcases kb with h | h; omega; exact h.2.1
   refine pend_mk hc1 _ _ _ _ _ ?_ (RBk_eq sr (by omega)) (.inr ⟨by simp [nd], by simp, by simp [nd]⟩) (.inl rr1) (by omega)
   rw [RBk_mk]; exact ⟨rfl, rfl, RBk_eq (N1 _ _ sa ka.w01) (by simp [nd]), RBk_eq (S1 _ sb b0 bn) (by simp [nd]), .inl (by simp [nd]), .inl (by simp)⟩
  ·have b1 : b.it.w = 1 := by rcases kb with h | h; exact h; exact absurd h.1 ‹_›
   split
   ·rename_i a0
    have an : a.isLeaf = false := by rcases ka with h | h; omega; exact h.2.1
    obtain ⟨y, da, p, q, hp⟩ := of_node a f.s an
    subst hp
    simp only [mk_it, mk_ch, mk_ch'] at a0 ⊢
    rw [RBk_mk, a0] at sa
    obtain ⟨_, _, sp, sq, kp, kq⟩ := sa
    refine pend_mk hc1 _ _ _ _ _ ?_ (RBk_eq sr (by omega)) (.inr ⟨by simp [nd], by simp, by simp [nd]⟩) (.inl rr1) (by omega)
    rw [RBk_mk]
    refine ⟨rfl, rfl, RBk_eq (N1 _ _ (RBk_eq sp (by omega)) kp.w01) (by simp [nd]), ?_, .inl (by simp [nd]), .inl (by simp [nd])⟩
    rw [RBk_mk]; exact ⟨rfl, rfl, RBk_eq sq (by simp [nd]), RBk_eq sb (by simp [nd]), Kid1 kq.w01 _ (by simp [nd]), .inl b1⟩
   ·have a1 : a.it.w = 1 := by rcases ka with h | h; exact h; exact absurd h.1 ‹_›
    rw [setW_mk]
    refine pend_mk hc1 _ _ _ _ _ (RBk_eq (N1 _ _ ?_ ?_) (by omega)) (RBk_eq sr (by omega)) (.inl (by simp [nd])) (.inl rr1) (by omega)
    ·rw [RBk_mk]; exact ⟨di, dv, RBk_eq sa (by simp), RBk_eq sb (by simp), .inl a1, .inl b1⟩
    ·exact .inr ⟨by simp, by simp⟩
end Larch
namespace Larch
variable {α β : Type}
def NB : List (Fr α) → Prop
 | f :: e :: c => bad e.d f.d = false ∧ NB (e :: c)
 | _ => True
def Leads (key : Int) (c : List (Fr α)) : Prop := ∀ f ∈ c, f.s = !below key f.d
theorem CtxOk.nb {c : List (Fr α)} {h : Int} (hc : CtxOk c h) : NB c := by
 induction hc with
 | crown => simp [NB, bad, cr]
 | cons f e c h hi hv hs hw h01 hc ih =>
   refine ⟨?_, ih⟩
   rcases h01 with h | ⟨h, _, _, h'⟩ <;> simp [bad, *]
theorem bad_kid {d : It} {t : T α} (h : Kid d t) : bad d t.it = false := by
 rcases h with h | h <;> simp [bad, h]
theorem viol_none {t : T α} (key : Int) : ∀ (h : Int) (c : List (Fr α)), RBk t h → viol key c t = none := by
 induction t with
 | leaf x d => intros; rfl
 | node x d l r ihl ihr =>
   intro h c hr
   simp only [RBk] at hr
   obtain ⟨_, _, h1, h2, k1, k2⟩ := hr
   have b1 : bad d l.it = false := bad_kid k1
   have b2 : bad d r.it = false := bad_kid k2
   simp only [viol, b1, b2]
   split
   ·simpa using ihl _ _ h1
   ·simpa using ihr _ _ h2
theorem viol_mk (key : Int) (c : List (Fr α)) (f : Fr α) (t : T α) (hf : f.s = !below key f.d) :
 viol key c (mk f.x f.d f.s t f.sib) = if bad f.d t.it then some (f :: c, t) else viol key (f :: c) t := by
 obtain ⟨x, d, s, sib⟩ := f
 simp only at hf
 subst hf
 cases hb : below key d <;> simp [mk, viol, hb]
theorem viol_plug (key : Int) (f : Fr α) (c : List (Fr α)) : ∀ (t : T α), NB (f :: c) → Leads key (f :: c) →
 viol key [] (plug (f :: c) t) = if bad f.d t.it then some (f :: c, t) else viol key (f :: c) t := by
 induction c generalizing f with
 | nil => intro t _ hl; simp only [plug]; exact viol_mk key [] f t (hl f (by simp))
 | cons e c ih =>
   intro t hn hl
   rw [plug, ih e _ hn.2 (fun x hx => hl x (by simp [hx])), mk_it, hn.1]
   simpa using viol_mk key (e :: c) f t (hl f (by simp))
theorem Pend.viol {f : Fr α} {c : List (Fr α)} {t : T α} {key : Int} (hp : Pend (f :: c) t) (hl : Leads key (f :: c)) :
 viol key [] (plug (f :: c) t) = if bad f.d t.it then some (f :: c, t) else none := by
 obtain ⟨h, hc, hr, _⟩ := hp
 rw [viol_plug key f c t hc.nb hl, viol_none key h _ hr]
def pairs : T α → List (Int × Int)
 | .leaf _ d => if d.i = 0 then [(d.k, d.v)] else []
 | .node _ _ l r => pairs l ++ pairs r
def geo : Option Int → Int → Prop
 | none, _ => True
 | some l, k => l ≤ k
def lto : Option Int → Int → Prop
 | none, _ => True
 | some l, k => k < l
def Bst : Option Int → Option Int → T α → Prop
 | lo, hi, .leaf _ d => d.i = 0 ∧ geo lo d.k ∧ lto hi d.k
 | lo, hi, .node _ d l r => d.i = 0 ∧ Bst lo (some d.k) l ∧ Bst (some d.k) hi r
def pre : List (Fr α) → List (Int × Int)
 | [] => []
 | f :: c => pre c ++ if f.s then pairs f.sib else []
def post : List (Fr α) → List (Int × Int)
 | [] => []
 | f :: c => (if f.s then [] else pairs f.sib) ++ post c
theorem pairs_mk (x : α) (d : It) (s : Bool) (a b : T α) : pairs (mk x d s a b) = if s then pairs b ++ pairs a else pairs a ++ pairs b := by
 cases s <;> simp [mk, pairs]
theorem pairs_plug (c : List (Fr α)) : ∀ t : T α, pairs (plug c t) = pre c ++ pairs t ++ post c := by
 induction c with
 | nil => intro t; simp [plug, pre, post]
 | cons f c ih =>
   intro t
   rw [plug, ih, pairs_mk]
   cases hs : f.s <;> simp [pre, post, hs]
def bnd : List (Fr α) → Option Int × Option Int
 | [] => (none, none)
 | f :: c => if f.d.i = 1 then bnd c else if f.s then (some f.d.k, (bnd c).2) else ((bnd c).1, some f.d.k)
def CBst : List (Fr α) → Prop
 | [] => True
 | f :: c => CBst c ∧ (f.d.i = 1 ∧ f.s = false ∧ pairs f.sib = [] ∨ f.d.i = 0 ∧ if f.s then Bst (bnd c).1 (some f.d.k) f.sib else Bst (some f.d.k) (bnd c).2 f.sib)
def Ord (c : List (Fr α)) (t : T α) : Prop := CBst c ∧ Bst (bnd c).1 (bnd c).2 t
theorem Bst_mk (x : α) (d : It) (s : Bool) (a b : T α) (lo hi : Option Int) :
 Bst lo hi (mk x d s a b) ↔ d.i = 0 ∧ if s then Bst lo (some d.k) b ∧ Bst (some d.k) hi a else Bst lo (some d.k) a ∧ Bst (some d.k) hi b := by
 cases s <;> simp [mk, Bst]
theorem Ord_cons {f : Fr α} {c : List (Fr α)} {t : T α} (hi : f.d.i = 0) : Ord (f :: c) t ↔ Ord c (mk f.x f.d f.s t f.sib) := by
 simp only [Ord, CBst, bnd, Bst_mk, hi]
 cases hs : f.s <;> simp <;> grind
theorem lead_bnd (key : Int) (c : List (Fr α)) (hl : Leads key c) (hc : CBst c) : geo (bnd c).1 key ∧ lto (bnd c).2 key := by
 induction c with
 | nil => simp [bnd, geo, lto]
 | cons f c ih =>
   have h1 := hl f (by simp)
   have ih := ih (fun x hx => hl x (by simp [hx])) hc.1
   simp only [bnd]
   split
   ·exact ih
   ·rename_i hi
    have hi' : (f.d.i == 1) = false := by simpa using hi
    split
    ·rename_i hs
     rw [hs] at h1
     simp only [below, hi', Bool.false_or] at h1
     refine ⟨?_, ih.2⟩
     simp only [geo]
     have := of_decide_eq_false (Bool.not_eq_true' _ |>.mp h1.symm)
     omega
    ·rename_i hs
     simp only [Bool.not_eq_true] at hs
     rw [hs] at h1
     simp only [below, hi', Bool.false_or] at h1
     refine ⟨ih.1, ?_⟩
     simp only [lto]
     exact of_decide_eq_true (by simpa using h1)
theorem Bst_setW (w : Int) (t : T Unit) (lo hi : Option Int) : Bst lo hi (setW w t) ↔ Bst lo hi t := by
 cases t <;> simp [setW, Bst]
theorem pairs_setW (w : Int) (t : T Unit) : pairs (setW w t) = pairs t := by
 cases t <;> simp [setW, pairs]
theorem redN_order (u : It) (s : Bool) (d fd : It) (fs : Bool) (v fb sib : T Unit) (lo hi : Option Int) (hn : v.isLeaf = false) (h0 : v.it.w = 0)
 (h1 : fs ≠ s → fb.it.w ≠ 0) (hb : Bst lo hi (mk () d s (mk () fd fs v fb) sib)) :
 Bst lo hi (redN u s (mk () d s (mk () fd fs v fb) sib)) ∧ pairs (redN u s (mk () d s (mk () fd fs v fb) sib)) = pairs (mk () d s (mk () fd fs v fb) sib) := by
 simp only [redN, mk_ch, mk_ch', mk_it]
 split
 ·rw [setW_mk]; cases s <;> cases fs <;> simp_all [mk, Bst, pairs, nd, Bst_setW, pairs_setW]
 ·by_cases e : fs = s
  ·subst e
   rw [mk_ch, if_pos h0, mk_ch']
   cases fs <;> simp_all [mk, Bst, pairs, nd]
  ·have hfe' : fs = !s := by cases fs <;> cases s <;> simp_all
   have h1 := h1 e
   subst hfe'
   obtain ⟨y, dy, a, b, hy⟩ := of_node v s hn
   subst hy
   cases s <;> simp_all [mk, Bst, pairs, nd, T.ch, T.it]
theorem overN_order (u : It) (s : Bool) (d : It) (v r : T Unit) (lo hi : Option Int) (hr : r.isLeaf = false)
 (h1 : r.it.w = 1 → ((r.ch s).it.w = 0 → (r.ch s).isLeaf = false))
 (h2 : r.it.w ≠ 1 → (r.ch s).isLeaf = false ∧ (((r.ch s).ch s).it.w = 0 → ((r.ch s).ch s).isLeaf = false))
 (hb : Bst lo hi (mk () d s v r)) :
 Bst lo hi (overN u s (mk () d s v r)) ∧ pairs (overN u s (mk () d s v r)) = pairs (mk () d s v r) := by
 obtain ⟨y, dr, rl, rr, hy⟩ := of_node r s hr
 subst hy
 simp only [mk_ch, mk_it] at h1 h2
 simp only [overN, mk_ch, mk_ch', mk_it]
 split
 ·rename_i w1
  have h1 := h1 w1
  split
  ·cases s <;> simp_all [mk, Bst, pairs, nd, less, Bst_setW, pairs_setW]
  ·split
   ·rename_i w0
    obtain ⟨y, dm, a, b, hy⟩ := of_node rl s (h1 w0)
    subst hy
    cases s <;> simp_all [mk, Bst, pairs, nd, less, Bst_setW, pairs_setW, T.ch, T.it]
   ·cases s <;> simp_all [mk, Bst, pairs, nd, less, Bst_setW, pairs_setW]
 ·rename_i w1
  obtain ⟨h2, h3⟩ := h2 w1
  obtain ⟨y, dm, a, b, hy⟩ := of_node rl s h2
  subst hy
  simp only [mk_ch, mk_ch', mk_it] at h3 ⊢
  split
  ·cases s <;> simp_all [mk, Bst, pairs, nd, less, Bst_setW, pairs_setW]
  ·split
   ·rename_i a0
    obtain ⟨y, da, p, q, hy⟩ := of_node a s (h3 a0)
    subst hy
    cases s <;> simp_all [mk, Bst, pairs, nd, less, Bst_setW, pairs_setW, T.ch, T.it]
   ·cases s <;> simp_all [mk, Bst, pairs, nd, less, Bst_setW, pairs_setW]
end Larch
namespace Larch
variable {α β : Type}
def Mid (key : Int) (c : List (Fr α)) (t : T α) : Prop := Pend c t ∧ Ord c t ∧ Leads key c
theorem Leads.tail {key : Int} {f : Fr α} {c : List (Fr α)} (h : Leads key (f :: c)) : Leads key c := fun x hx => h x (by simp [hx])
theorem fix_mid {key : Int} {f : Fr Unit} {c : List (Fr Unit)} {v : T Unit} (hm : Mid key (f :: c) v) (hb : bad f.d v.it = true) :
 ∃ e c' t', fix (f :: c, v) = (e :: c', t') ∧ Mid key (e :: c') t' ∧ pairs (plug (e :: c') t') = pairs (plug (f :: c) v) ∧ (e :: c').length < (f :: c).length ∧
   (v.it.w = 0 → ∃ e0, c = e0 :: e :: c' ∧ f.d.i = 0 ∧ f.d.w = 0 ∧ e0.d.i = 0 ∧ e0.d.w = 1 ∧ v.isLeaf = false ∧ W01 e0.sib ∧ f.sib.it.w = 1) ∧
   (v.it.w ≠ 0 → c = e :: c' ∧ f.d.i = 0 ∧ v.it.w = 2 ∧ W01 f.sib ∧ (f.d.w = 1 ∨ f.d.w = 0 ∧ f.sib.it.w = 1)) := by
 obtain ⟨⟨h, hc, hr, hw⟩, ho, hl⟩ := hm
 obtain ⟨e, c, rfl⟩ := hc.two
 simp only [HoleW] at hw
 obtain ⟨hw1, hw2⟩ := hw
 have hfi : f.d.i = 0 := by
  rcases hc.inf with h | h
  ·exact h
  ·simp [bad, h, hw1 h] at hb
 by_cases h0 : v.it.w = 0
 ·have hn : v.isLeaf = false := by rcases hw2 with h | h | h; omega; omega; exact h.2
  have hf : f.d.w = 0 := by simp [bad, h0] at hb; exact hb.2.2
  obtain ⟨fv, fs, fw, f01, hc1⟩ := hc.tail hfi
  rcases f01 with f01 | ⟨_, fs1, ei, ew⟩
  ·omega
  obtain ⟨u, c, rfl⟩ := hc1.two
  have hp := fix_red hc hr h0 hn hf hfi
  have ho2 := (Ord_cons (t := mk f.x f.d f.s v f.sib) ei).1 ((Ord_cons hfi).1 ho)
  have hr2 := redN_order u.d e.s e.d f.d f.s v f.sib e.sib (bnd (u :: c)).1 (bnd (u :: c)).2 hn h0 (fun _ => by omega) ho2.2
  refine ⟨u, c, _, by simp only [fix, h0, if_true], ⟨hp, ⟨ho2.1, hr2.1⟩, hl.tail.tail⟩, ?_, by simp, fun _ => ⟨e, rfl, hfi, hf, ei, ew, hn, (hc1.tail ei).2.2.1, fs1⟩, fun h => absurd h0 h⟩
  rw [show plug (f :: e :: u :: c) v = plug (u :: c) (mk e.x e.d e.s (mk f.x f.d f.s v f.sib) e.sib) from rfl, pairs_plug, pairs_plug, hr2.2]
 ·have h2 : v.it.w = 2 := by
   rcases hw2 with h | h | h
   ·simp [bad, h] at hb
   ·exact h
   ·omega
  obtain ⟨fv, fs, fw, f01, hc1⟩ := hc.tail hfi
  have hp := fix_over hc hr h2 hfi
  have ho2 := (Ord_cons hfi).1 ho
  have hh := RBk_two hr h2
  have rl : f.sib.isLeaf = false := by
   cases hl : f.sib.isLeaf with
   | false => rfl
   | true => have := leaf_sum fs hl; rcases fw with h | h <;> omega
  have key2 : (f.sib.it.w = 1 → ((f.sib.ch f.s).it.w = 0 → (f.sib.ch f.s).isLeaf = false)) ∧
   (f.sib.it.w ≠ 1 → (f.sib.ch f.s).isLeaf = false ∧ (((f.sib.ch f.s).ch f.s).it.w = 0 → ((f.sib.ch f.s).ch f.s).isLeaf = false)) := by
   obtain ⟨y, dr, rl_, rr_, hy⟩ := of_node f.sib f.s rl
   rw [hy] at fs fw ⊢
   rw [RBk_mk] at fs
   obtain ⟨_, _, sl, sr, kl, kr⟩ := fs
   simp only [mk_it, mk_ch]
   refine ⟨fun _ h => by rcases kl with k | k; omega; exact k.2.1, fun hne => ?_⟩
   have d0 : dr.w = 0 := by rcases fw with h | h; simp at h; omega; simpa using h.1
   have l1 := kl.one d0
   have ln : rl_.isLeaf = false := by
    cases hl : rl_.isLeaf with
    | false => rfl
    | true => have := leaf_sum sl hl; omega
   refine ⟨ln, ?_⟩
   obtain ⟨y, dr, a, b, hy⟩ := of_node rl_ f.s ln
   rw [hy] at sl ⊢
   rw [RBk_mk] at sl
   rw [mk_ch]
   exact fun h => by rcases sl.2.2.2.2.1 with k | k; omega; exact k.2.1
  have hr2 := overN_order e.d f.s f.d v f.sib (bnd (e :: c)).1 (bnd (e :: c)).2 rl key2.1 key2.2 ho2.2
  refine ⟨e, c, _, by simp only [fix, h0, if_false], ⟨hp, ⟨ho2.1, hr2.1⟩, hl.tail⟩, ?_, by simp, fun h => absurd h h0, fun _ => ⟨rfl, hfi, h2, fw, ?_⟩⟩
  ·rw [show plug (f :: e :: c) v = plug (e :: c) (mk f.x f.d f.s v f.sib) from rfl, pairs_plug, pairs_plug, hr2.2]
  ·rcases f01 with h | h; exact .inl h; exact .inr ⟨h.1, h.2.1⟩
def emptyT : T Unit := .node () cr (.leaf () cr) (.leaf () cr)
def crown (r : T Unit) : T Unit := .node () cr (.node () cr r (.leaf () cr)) (.leaf () cr)
def Good (t : T Unit) : Prop := t = emptyT ∨ ∃ r h, t = crown r ∧ RBk r h ∧ r.it.w = 1 ∧ Bst none none r
theorem pend_up {f e : Fr Unit} {c : List (Fr Unit)} {t : T Unit} (hi : f.d.i = 0) (hp : Pend (f :: e :: c) t) (hb : bad f.d t.it = false) :
 Pend (e :: c) (mk f.x f.d f.s t f.sib) ∧ bad e.d f.d = false := by
 obtain ⟨h, hc, hr, hw⟩ := hp
 have hn := hc.nb
 obtain ⟨fv, fs, fw, f01, hc1⟩ := hc.tail hi
 refine ⟨⟨_, hc1, ?_, ?_⟩, hn.1⟩
 ·rw [RBk_mk]
  refine ⟨hi, fv, RBk_eq hr (by omega), RBk_eq fs (by omega), ?_, ?_⟩
  ·rcases hw.2 with h | h | h
   ·exact .inl h
   ·exfalso
    simp [bad, h] at hb
    have : t.it.i = 0 := by cases t <;> simp_all [RBk, T.it]
    omega
   ·refine .inr ⟨h.1, h.2, fun h0 => ?_⟩
    have : t.it.i = 0 := by cases t <;> simp_all [RBk, T.it]
    simp [bad, h.1, hi, h0, this] at hb
  ·rcases fw with h | h
   ·exact .inl h
   ·exact .inr ⟨h.1, h.2, by rcases f01 with h' | h' <;> omega⟩
 ·simp only [HoleW, mk_it, mk_isLeaf]
  refine ⟨fun h => ?_, ?_⟩
  ·rcases f01 with h' | h' <;> omega
  ·rcases f01 with h' | h'
   ·exact .inl h'
   ·exact .inr (.inr ⟨h'.1, trivial⟩)
theorem good_of {c : List (Fr Unit)} : ∀ {f : Fr Unit} {t : T Unit}, Pend (f :: c) t → Ord (f :: c) t → bad f.d t.it = false → Good (plug (f :: c) t) := by
 induction c with
 | nil => intro f t hp; obtain ⟨h, hc, _⟩ := hp; obtain ⟨_, _, h⟩ := hc.two; cases h
 | cons e c ih =>
   intro f t hp ho hb
   rcases (show f.d.i = 0 ∨ f.d.i = 1 from by obtain ⟨h, hc, _⟩ := hp; exact hc.inf) with hi | hi
   ·obtain ⟨h1, h2⟩ := pend_up hi hp hb
    rw [plug]
    exact ih h1 ((Ord_cons hi).1 ho) (by rw [mk_it]; exact h2)
   ·obtain ⟨h, hc, hr, hw⟩ := hp
    cases hc with
    | crown => exact .inr ⟨t, h, rfl, hr, hw.1 rfl, by simpa [bnd, cr] using ho.2⟩
    | cons f e c h hi' => omega
theorem clean_mid (key : Int) : ∀ (n : Nat) (f : Fr Unit) (c : List (Fr Unit)) (t : T Unit), Mid key (f :: c) t → c.length < n →
 Good (clean key n (plug (f :: c) t)) ∧ pairs (clean key n (plug (f :: c) t)) = pairs (plug (f :: c) t) := by
 intro n
 induction n with
 | zero => intro f c t _ h; omega
 | succ n ih =>
   intro f c t hm hn
   cases hb : bad f.d t.it with
   | false =>
     have hv : viol key [] (plug (f :: c) t) = none := by rw [hm.1.viol hm.2.2, hb]; rfl
     simp only [clean, hv]
     exact ⟨good_of hm.1 hm.2.1 hb, trivial⟩
   | true =>
     have hv : viol key [] (plug (f :: c) t) = some (f :: c, t) := by rw [hm.1.viol hm.2.2, hb]; rfl
     obtain ⟨e, c', t', hf, hm', hp, hl, _⟩ := fix_mid hm hb
     simp only [clean, hv, hf]
     have := ih e c' t' hm' (by simp at hl; omega)
     exact ⟨this.1, this.2.trans hp⟩
theorem clean_good (key : Int) (n : Nat) {t : T Unit} (f : Fr Unit) (c : List (Fr Unit)) (hm : Mid key (f :: c) t) (hb : bad f.d t.it = false) :
 clean key n (plug (f :: c) t) = plug (f :: c) t := by
 cases n with
 | zero => rfl
 | succ n =>
   have hv : viol key [] (plug (f :: c) t) = none := by rw [hm.1.viol hm.2.2, hb]; rfl
   simp only [clean, hv]
theorem pend_down {f : Fr Unit} {c : List (Fr Unit)} {g : Fr Unit} {t : T Unit} (hp : Pend (f :: c) (mk g.x g.d g.s t g.sib)) (hb : bad f.d g.d = false) :
 Pend (g :: f :: c) t ∧ bad g.d t.it = false ∧ g.d.i = 0 := by
 obtain ⟨h, hc, hr, hw⟩ := hp
 rw [RBk_mk] at hr
 obtain ⟨di, dv, sa, sb, ka, kb⟩ := hr
 simp only [HoleW, mk_it, mk_isLeaf] at hw
 refine ⟨⟨_, .cons g f c _ di dv sb kb.w01 ?_ (by rw [show h - g.d.w + g.d.w = h by omega]; exact hc), sa, ?_⟩, bad_kid ka, di⟩
 ·rcases hw.2 with h1 | h1 | h1
  ·exact .inl h1
  ·simp [bad, h1, di] at hb
  ·refine .inr ⟨h1.1, kb.one h1.1, ?_⟩
   have fi : f.d.i = 0 := by rcases hc.inf with h | h; exact h; have := hw.1 h; omega
   have : f.d.w ≠ 0 := by simp [bad, h1.1, di, fi] at hb; exact hb
   refine ⟨fi, ?_⟩
   rcases (show f.d.w = 0 ∨ f.d.w = 1 from by
    obtain ⟨e, c', rfl⟩ := hc.two
    have := (hc.tail fi).2.2.2.1; omega) with h | h <;> omega
 ·simp only [HoleW, di]
  refine ⟨by simp, ?_⟩
  rcases ka with h | h
  ·exact .inl h
  ·exact .inr (.inr ⟨h.1, h.2.1⟩)
def crownC : List (Fr Unit) := [⟨(), cr, false, .leaf () cr⟩, ⟨(), cr, false, .leaf () cr⟩]
theorem way_down (key : Int) (t : T Unit) : ∀ (f : Fr Unit) (c : List (Fr Unit)), Mid key (f :: c) t → bad f.d t.it = false →
 ∃ g c' x d, way key (f :: c) t = (g :: c', .leaf x d) ∧ Mid key (g :: c') (.leaf x d) ∧ bad g.d d = false ∧ plug (g :: c') (.leaf x d) = plug (f :: c) t := by
 induction t with
 | leaf x d => intro f c hm hb; exact ⟨f, c, x, d, rfl, hm, hb, rfl⟩
 | node x d l r ihl ihr =>
   intro f c hm hb
   obtain ⟨hp, ho, hl⟩ := hm
   simp only [way]
   cases hk : below key d with
   | true =>
     have h := pend_down (g := ⟨x, d, false, r⟩) (t := l) hp hb
     have ho' := (Ord_cons (f := ⟨x, d, false, r⟩) (t := l) h.2.2).2 ho
     exact ihl ⟨x, d, false, r⟩ (f :: c) ⟨h.1, ho', fun y hy => by rcases List.mem_cons.1 hy with rfl | h; simp [hk]; exact hl y h⟩ h.2.1
   | false =>
     have h := pend_down (g := ⟨x, d, true, l⟩) (t := r) hp hb
     have ho' := (Ord_cons (f := ⟨x, d, true, l⟩) (t := r) h.2.2).2 ho
     exact ihr ⟨x, d, true, l⟩ (f :: c) ⟨h.1, ho', fun y hy => by rcases List.mem_cons.1 hy with rfl | h; simp [hk]; exact hl y h⟩ h.2.1
theorem mid_crown (key : Int) {r : T Unit} {h : Int} (hr : RBk r h) (h1 : r.it.w = 1) (hb : Bst none none r) : Mid key crownC r :=
 ⟨⟨h, .crown _ _ _ _ _, hr, fun _ => h1, .inl h1⟩, ⟨by simp [CBst, crownC, cr, pairs], by simpa [crownC, bnd, cr] using hb⟩, by simp [Leads, crownC, below, cr]⟩
theorem way_good (key : Int) {t : T Unit} (ht : Good t) :
 (t = emptyT ∧ way key [] t = ([⟨(), cr, false, .leaf () cr⟩], .leaf () cr)) ∨
 ∃ g c x d, way key [] t = (g :: c, .leaf x d) ∧ Mid key (g :: c) (.leaf x d) ∧ d.i = 0 ∧ d.w = 1 ∧ plug (g :: c) (.leaf x d) = t := by
 rcases ht with rfl | ⟨r, h, rfl, hr, h1, hb⟩
 ·exact .inl ⟨rfl, rfl⟩
 ·right
  obtain ⟨g, c, x, d, hw, hm, hbd, hp⟩ := way_down key r _ _ (mid_crown key hr h1 hb) (by simp [bad, h1])
  refine ⟨g, c, x, d, by rw [← hw]; simp [crown, way, below, cr], hm, ?_, ?_, by rw [hp]; rfl⟩
  ·obtain ⟨⟨h, _, hr, _⟩, _⟩ := hm; exact hr.1
  ·obtain ⟨⟨h, _, hr, hw⟩, _⟩ := hm
   rcases hw.2 with h | h | h
   ·exact h
   ·simp only [T.it] at h; simp [bad, h, show d.i = 0 from hr.1] at hbd
   ·cases h.2
end Larch
namespace Larch
variable {α β : Type}
def Srt (m : List (Int × Int)) : Prop := m.Pairwise fun p q => p.1 < q.1
def insL (k v : Int) (m : List (Int × Int)) : List (Int × Int) := m.filter (fun p => decide (p.1 < k)) ++ (k, v) :: m.filter (fun p => decide (k < p.1))
def delL (k : Int) (m : List (Int × Int)) : List (Int × Int) := m.filter (fun p => decide (p.1 ≠ k))
def getL (k : Int) (m : List (Int × Int)) : Option Int := (m.find? fun p => decide (p.1 = k)).map (·.2)
theorem Bst.nonempty {t : T α} : ∀ {lo hi : Option Int}, Bst lo hi t → ∃ p ∈ pairs t, geo lo p.1 ∧ lto hi p.1 := by
 induction t with
 | leaf x d => intro lo hi h; exact ⟨(d.k, d.v), by simp [pairs, h.1], h.2⟩
 | node x d l r ihl ihr =>
   intro lo hi h
   obtain ⟨p, hp, h1, h2⟩ := ihl h.2.1
   obtain ⟨q, hq, h3, h4⟩ := ihr h.2.2
   refine ⟨p, by simp [pairs, hp], h1, ?_⟩
   cases hi with
   | none => trivial
   | some hi => simp [geo, lto] at *; omega
theorem Bst.within {t : T α} : ∀ {lo hi : Option Int}, Bst lo hi t → ∀ p ∈ pairs t, geo lo p.1 ∧ lto hi p.1 := by
 induction t with
 | leaf x d => intro lo hi h p hp; simp [pairs, h.1] at hp; subst hp; exact h.2
 | node x d l r ihl ihr =>
   intro lo hi h p hp
   obtain ⟨a, ha, ha1, ha2⟩ := h.2.1.nonempty
   obtain ⟨b, hb, hb1, hb2⟩ := h.2.2.nonempty
   simp only [pairs, List.mem_append] at hp
   rcases hp with hp | hp
   ·have := ihl h.2.1 p hp
    refine ⟨this.1, ?_⟩
    cases hi with
    | none => trivial
    | some hi => simp [geo, lto] at *; omega
   ·have := ihr h.2.2 p hp
    refine ⟨?_, this.2⟩
    cases lo with
    | none => trivial
    | some lo => simp [geo, lto] at *; omega
theorem Bst_mono {t : T α} : ∀ {lo hi lo' hi' : Option Int}, (∀ k, geo lo k → geo lo' k) → (∀ k, lto hi k → lto hi' k) → Bst lo hi t → Bst lo' hi' t := by
 induction t with
 | leaf x d => intro lo hi lo' hi' h1 h2 h; exact ⟨h.1, h1 _ h.2.1, h2 _ h.2.2⟩
 | node x d l r ihl ihr => intro lo hi lo' hi' h1 h2 h; exact ⟨h.1, ihl h1 (fun _ h => h) h.2.1, ihr (fun _ h => h) h2 h.2.2⟩
theorem geo_le {lo : Option Int} {a b : Int} (h : geo lo a) (hab : a ≤ b) : geo lo b := by
 cases lo <;> simp [geo] at *; omega
theorem lto_le {hi : Option Int} {a b : Int} (h : lto hi b) (hab : a ≤ b) : lto hi a := by
 cases hi <;> simp [lto] at *; omega
theorem pre_lt {c : List (Fr α)} (hc : CBst c) : ∀ p ∈ pre c, ∀ k, geo (bnd c).1 k → p.1 < k := by
 induction c with
 | nil => intro p hp; simp [pre] at hp
 | cons f c ih =>
   intro p hp k hk
   obtain ⟨hc, hf⟩ := hc
   rcases hf with ⟨hi, hs, _⟩ | ⟨hi, hf⟩
   ·simp [pre, hs] at hp; simp [bnd, hi] at hk; exact ih hc p hp k hk
   ·cases hs : f.s with
    | false => simp [pre, hs] at hp; simp [bnd, hi, hs] at hk; exact ih hc p hp k hk
    | true =>
      simp [hs] at hf
      simp [bnd, hi, hs, geo] at hk
      simp only [pre, hs, if_true, List.mem_append] at hp
      rcases hp with hp | hp
      ·obtain ⟨q, hq, h1, h2⟩ := hf.nonempty
       have := ih hc p hp q.1 h1
       simp [lto] at h2; omega
      ·have := (hf.within p hp).2
       simp [lto] at this; omega
theorem post_gt {c : List (Fr α)} (hc : CBst c) : ∀ p ∈ post c, ∀ k, lto (bnd c).2 k → k < p.1 := by
 induction c with
 | nil => intro p hp; simp [post] at hp
 | cons f c ih =>
   intro p hp k hk
   obtain ⟨hc, hf⟩ := hc
   rcases hf with ⟨hi, hs, hz⟩ | ⟨hi, hf⟩
   ·simp [post, hs, hz] at hp; simp [bnd, hi] at hk; exact ih hc p hp k hk
   ·cases hs : f.s with
    | true => simp [post, hs] at hp; simp [bnd, hi, hs] at hk; exact ih hc p hp k hk
    | false =>
      simp [hs] at hf
      simp [bnd, hi, hs, lto] at hk
      simp [post, hs] at hp
      rcases hp with hp | hp
      ·have := (hf.within p hp).1
       simp [geo] at this; omega
      ·obtain ⟨q, hq, h1, h2⟩ := hf.nonempty
       have := ih hc p hp q.1 h2
       simp [geo] at h1; omega
theorem at_leaf {key : Int} {c : List (Fr α)} {t : T α} (hm : Mid key c t) : (∀ p ∈ pre c, p.1 < key) ∧ (∀ p ∈ post c, key < p.1) := by
 obtain ⟨_, ho, hl⟩ := hm
 have := lead_bnd key c hl ho.1
 exact ⟨fun p hp => pre_lt ho.1 p hp key this.1, fun p hp => post_gt ho.1 p hp key this.2⟩
theorem filter_all {l : List (Int × Int)} {q : Int × Int → Bool} (h : ∀ p ∈ l, q p = true) : l.filter q = l := List.filter_eq_self.2 h
theorem filter_none {l : List (Int × Int)} {q : Int × Int → Bool} (h : ∀ p ∈ l, q p = false) : l.filter q = [] := List.filter_eq_nil_iff.2 (by simpa using h)
theorem insL_mid {a b : List (Int × Int)} {k v : Int} (d : Int × Int) (ha : ∀ p ∈ a, p.1 < k) (hb : ∀ p ∈ b, k < p.1) :
 insL k v (a ++ [d] ++ b) = a ++ (if k < d.1 then [(k, v), d] else if d.1 < k then [d, (k, v)] else [(k, v)]) ++ b := by
 simp only [insL, List.filter_append]
 rw [filter_all (l := a) (by simpa using ha), filter_none (l := b) (by intro p hp; have := hb p hp; simp; omega), filter_none (l := a) (by intro p hp; have := ha p hp; simp; omega),
  filter_all (l := b) (by simpa using hb)]
 by_cases h1 : k < d.1
 ·simp [h1, show ¬ d.1 < k by omega]
 ·by_cases h2 : d.1 < k <;> simp [h1, h2]
theorem delL_mid {a b : List (Int × Int)} {k : Int} (d : Int × Int) (ha : ∀ p ∈ a, p.1 < k) (hb : ∀ p ∈ b, k < p.1) :
 delL k (a ++ [d] ++ b) = if d.1 = k then a ++ b else a ++ [d] ++ b := by
 simp only [delL, List.filter_append]
 rw [filter_all (l := a) (by intro p hp; have := ha p hp; simp; omega), filter_all (l := b) (by intro p hp; have := hb p hp; simp; omega)]
 by_cases h1 : d.1 = k <;> simp [h1]
theorem getL_mid {a b : List (Int × Int)} {k : Int} (d : Int × Int) (ha : ∀ p ∈ a, p.1 < k) (hb : ∀ p ∈ b, k < p.1) :
 getL k (a ++ [d] ++ b) = if d.1 = k then some d.2 else none := by
 have h1 : a.find? (fun p => decide (p.1 = k)) = none := List.find?_eq_none.2 (by intro p hp; have := ha p hp; simp; omega)
 have h2 : b.find? (fun p => decide (p.1 = k)) = none := List.find?_eq_none.2 (by intro p hp; have := hb p hp; simp; omega)
 simp only [getL, List.find?_append, h1, h2]
 by_cases h : d.1 = k <;> simp [h]
def grown (u d : It) (key val : Int) : T Unit :=
 if d.i = 1 then .node () cr (.leaf () ⟨key, 0, 1, val⟩) (.leaf () cr)
 else if key < d.k then .node () (nd d.k (topW u (d.w - 1))) (.leaf () ⟨key, 0, 1, val⟩) (.leaf () ⟨d.k, 0, 1, d.v⟩)
 else .node () (nd key (topW u (d.w - 1))) (.leaf () ⟨d.k, 0, 1, d.v⟩) (.leaf () ⟨key, 0, 1, val⟩)
def hasK (d : It) (key : Int) : Bool := d.i == 0 && d.k == key
def putT (key val : Int) (abs : Bool) (t : T Unit) : T Unit :=
 match way key [] t with
 |(u :: c, .leaf _ d) =>
  if hasK d key then (if abs then t else plug (u :: c) (.leaf () ⟨key, 0, d.w, val⟩))
  else clean key (t.size + 5) (plug (u :: c) (grown u.d d key val))
 | _ => t
def delT (key : Int) (t : T Unit) : T Unit :=
 match way key [] t with
 |(p :: g :: c, .leaf _ d) =>
  if hasK d key then
   if p.d.i = 1 then plug (g :: c) (.leaf () cr)
   else clean key (t.size + 5) (plug (g :: c) (setW (topW g.d (p.d.w + p.sib.it.w)) p.sib))
  else t
 | _ => t
theorem size_plug (c : List (Fr α)) : ∀ t : T α, c.length + t.size ≤ (plug c t).size := by
 induction c with
 | nil => intro t; simp [plug]
 | cons f c ih =>
   intro t
   have := ih (mk f.x f.d f.s t f.sib)
   rw [plug]
   have h : t.size + 1 ≤ (mk f.x f.d f.s t f.sib).size := by cases hs : f.s <;> simp [mk, T.size] <;> omega
   simp only [List.length_cons]; omega
theorem mid_grown {key val : Int} {u : Fr Unit} {c : List (Fr Unit)} {x : Unit} {d : It} (hm : Mid key (u :: c) (.leaf x d)) (hi : d.i = 0) (hw : d.w = 1) (hk : d.k ≠ key) :
 Mid key (u :: c) (grown u.d d key val) ∧ pairs (grown u.d d key val) = (if key < d.k then [(key, val), (d.k, d.v)] else [(d.k, d.v), (key, val)]) := by
 obtain ⟨⟨h, hc, hr, hh⟩, ho, hl⟩ := hm
 have hb := lead_bnd key (u :: c) hl ho.1
 have hd := ho.2
 simp only [Bst] at hd
 have hh1 : h = 1 := by simp [RBk] at hr; omega
 subst hh1
 have hpd : ∀ k k1 v1 k2 v2, Pend (u :: c) (.node () (nd k (topW u.d (d.w - 1))) (.leaf () ⟨k1, 0, 1, v1⟩) (.leaf () ⟨k2, 0, 1, v2⟩)) := fun k k1 v1 k2 v2 => by
  rw [hw]
  exact pend_mk hc k (1 - 1) false (.leaf () ⟨k1, 0, 1, v1⟩) (.leaf () ⟨k2, 0, 1, v2⟩) (by simp [RBk]) (by simp [RBk]) (.inl rfl) (.inl rfl) (.inl rfl)
 simp only [grown, hi]
 rw [if_neg (by omega)]
 by_cases hlt : key < d.k
 ·rw [if_pos hlt, if_pos hlt]
  exact ⟨⟨hpd _ _ _ _ _, ⟨ho.1, by simp only [Bst, nd, geo, lto]; exact ⟨trivial, ⟨trivial, hb.1, hlt⟩, trivial, Int.le_refl _, hd.2.2⟩⟩, hl⟩, by simp [pairs]⟩
 ·rw [if_neg hlt, if_neg hlt]
  exact ⟨⟨hpd _ _ _ _ _, ⟨ho.1, by simp only [Bst, nd, geo, lto]; exact ⟨trivial, ⟨trivial, hd.2.1, by omega⟩, trivial, Int.le_refl _, hb.2⟩⟩, hl⟩, by simp [pairs]⟩
theorem put_good {key val : Int} {t : T Unit} (ht : Good t) (abs : Bool) : Good (putT key val abs t) ∧
 pairs (putT key val abs t) = (if abs = true ∧ getL key (pairs t) ≠ none then pairs t else insL key val (pairs t)) := by
 rcases way_good key ht with ⟨rfl, hw⟩ | ⟨g, c, x, d, hw, hm, hi, h1, hp⟩
 ·have e : putT key val abs emptyT = crown (.leaf () ⟨key, 0, 1, val⟩) := by
   simp only [putT, hw]
   have : clean key (emptyT.size + 5) (plug [⟨(), cr, false, .leaf () cr⟩] (grown cr cr key val)) = plug [⟨(), cr, false, .leaf () cr⟩] (grown cr cr key val) :=
    clean_good key (emptyT.size + 5) (t := .leaf () ⟨key, 0, 1, val⟩) ⟨(), cr, false, .leaf () cr⟩ [⟨(), cr, false, .leaf () cr⟩] (mid_crown key (r := .leaf () ⟨key, 0, 1, val⟩) (h := 1) (by simp [RBk]) rfl (by simp [Bst, geo, lto])) (by simp [bad, T.it])
   rw [this]; rfl
  rw [e]
  refine ⟨.inr ⟨.leaf () ⟨key, 0, 1, val⟩, 1, rfl, by simp [RBk], rfl, by simp [Bst, geo, lto]⟩, ?_⟩
  simp [crown, emptyT, pairs, cr, insL, getL]
 ·obtain ⟨ha, hb⟩ := at_leaf hm
  have hpt : pairs t = pre (g :: c) ++ [(d.k, d.v)] ++ post (g :: c) := by rw [← hp, pairs_plug]; simp [pairs, hi]
  simp only [putT, hw, hasK, hi]
  by_cases hk : d.k = key
  ·have hg : getL key (pairs t) = some d.v := by rw [hpt, getL_mid _ ha hb]; simp [hk]
   cases abs with
   | true => simp [hk, hg, ht]
   | false =>
     simp only [hk, beq_self_eq_true, Bool.and_self, if_true, Bool.false_eq_true, if_false, false_and]
     obtain ⟨⟨h, hc, hr, hh⟩, ho, hl⟩ := hm
     refine ⟨good_of (f := g) (c := c) ⟨h, hc, ?_, ?_⟩ ⟨ho.1, ?_⟩ ?_, ?_⟩
     ·simp [RBk] at hr ⊢; exact hr.2
     ·simpa [HoleW, T.it, T.isLeaf] using hh
     ·have := ho.2; simp only [Bst] at this ⊢; rw [← hk]; exact ⟨trivial, this.2⟩
     ·simp [bad, T.it, h1]
     ·rw [pairs_plug, hpt, insL_mid _ ha hb]
      simp [pairs, hk]
  ·have hg : getL key (pairs t) = none := by rw [hpt, getL_mid _ ha hb]; simp [hk]
   have hk' : (d.k == key) = false := by simpa using hk
   simp only [hk', Bool.and_false, Bool.false_eq_true, if_false, hg, ne_eq, not_true, and_false]
   obtain ⟨hm', hpp⟩ := mid_grown (val := val) hm hi h1 hk
   have := clean_mid key (t.size + 5) g c _ hm' (by have := size_plug (g :: c) (.leaf x d); rw [hp] at this; simp at this; omega)
   refine ⟨this.1, this.2.trans ?_⟩
   rw [pairs_plug, hpt, insL_mid _ ha hb, hpp]
   by_cases hlt : key < d.k
   ·simp [hlt]
   ·simp [hlt, show d.k < key by omega]
theorem mid_left {key : Int} {p g : Fr Unit} {c : List (Fr Unit)} {x : Unit} {d : It} (hm : Mid key (p :: g :: c) (.leaf x d)) (hw : d.w = 1) (hpi : p.d.i = 0) :
 Mid key (g :: c) (setW (topW g.d (p.d.w + p.sib.it.w)) p.sib) := by
 obtain ⟨⟨h, hc, hr, hh⟩, ho, hl⟩ := hm
 have hh1 : h = 1 := by simp [RBk] at hr; omega
 subst hh1
 obtain ⟨pv, ps, pw, p01, hc1⟩ := hc.tail hpi
 have ho2 := (Ord_cons hpi).1 ho
 refine ⟨?_, ⟨ho2.1, ?_⟩, hl.tail⟩
 ·have hs : ∀ w, w ≠ 0 → RBk (setW w p.sib) (1 - p.sib.it.w + w) := fun w h => RBk_setW w p.sib 1 ps (fun h' => absurd h' h) (.inr (.inr trivial))
  have hne : p.d.w + p.sib.it.w ≠ 0 := by rcases p01 with h | h <;> rcases pw with h' | h' <;> omega
  by_cases hu : g.d.i = 1
  ·have h1 := hs 1 (by omega)
   refine ⟨1 - p.sib.it.w + 1, hc1.any hu _, by simpa [topW, hu] using h1, ?_⟩
   simp [HoleW, topW, hu]
  ·have h1 := RBk_eq (hs _ hne) (show 1 - p.sib.it.w + (p.d.w + p.sib.it.w) = 1 + p.d.w by omega)
   refine ⟨_, hc1, by simpa [topW, hu] using h1, ?_⟩
   simp only [HoleW, topW, hu, if_false, setW_it, setW_isLeaf]
   refine ⟨by simp, ?_⟩
   rcases p01 with h | h <;> rcases pw with h' | h' <;> omega
 ·rw [Bst_setW]
  have h2 := ho2.2
  have hd := ho.2
  have hbb := lead_bnd key _ hl.tail ho2.1
  rw [Bst_mk] at h2
  have := h2.2
  cases hs : p.s with
  | false =>
    simp only [hs, Bool.false_eq_true, if_false] at this
    obtain ⟨q, hq, h3, h4⟩ := this.1.nonempty
    obtain ⟨hq1, hq2⟩ := this
    exact Bst_mono (fun k hk => by simp only [lto, geo] at *; exact geo_le h3 (by omega)) (fun _ h => h) hq2
  | true =>
    simp only [hs, if_true] at this
    obtain ⟨q, hq, h3, h4⟩ := this.2.nonempty
    exact Bst_mono (fun _ h => h) (fun k hk => by simp only [lto, geo] at *; exact lto_le h4 (by omega)) this.1
theorem del_good {key : Int} {t : T Unit} (ht : Good t) : Good (delT key t) ∧ pairs (delT key t) = delL key (pairs t) := by
 rcases way_good key ht with ⟨rfl, hw⟩ | ⟨p, c, x, d, hw, hm, hi, h1, hp⟩
 ·have e : delT key emptyT = emptyT := by simp only [delT, hw]
  rw [e]
  exact ⟨ht, by simp [emptyT, pairs, cr, delL]⟩
 ·obtain ⟨ha, hb⟩ := at_leaf hm
  have hpt : pairs t = pre (p :: c) ++ [(d.k, d.v)] ++ post (p :: c) := by rw [← hp, pairs_plug]; simp [pairs, hi]
  obtain ⟨g, c, rfl⟩ := (show ∃ g c', c = g :: c' from by obtain ⟨⟨h, hc, _⟩, _⟩ := hm; exact hc.two)
  rw [hpt, delL_mid _ ha hb]
  simp only [delT, hw, hasK, hi]
  by_cases hk : d.k = key
  ·simp only [hk, beq_self_eq_true, Bool.and_self, if_true]
   by_cases hpi : p.d.i = 1
   ·rw [if_pos hpi]
    obtain ⟨⟨h, hc, hr, hh⟩, ho, hl⟩ := hm
    cases hc with
    | crown => exact ⟨.inl rfl, by simp [plug, pairs, pre, post, cr, mk]⟩
    | cons f e c h hi' => omega
   ·rw [if_neg hpi]
    have hpi : p.d.i = 0 := by
     obtain ⟨⟨h, hc, _⟩, _⟩ := hm
     rcases hc.inf with h | h
     ·exact h
     ·exact absurd h hpi
    have hm' := mid_left hm h1 hpi
    have := clean_mid key (t.size + 5) g c _ hm' (by have := size_plug (p :: g :: c) (.leaf x d); rw [hp] at this; simp at this; omega)
    refine ⟨this.1, this.2.trans ?_⟩
    rw [pairs_plug, pairs_setW]
    cases hs : p.s <;> simp [pre, post, hs]
  ·have hk' : (d.k == key) = false := by simpa using hk
   simp only [hk', Bool.and_false, Bool.false_eq_true, if_false]
   exact ⟨ht, by rw [if_neg hk, hpt]⟩
theorem get_good {key : Int} {t : T Unit} (ht : Good t) :
 ∃ c x d, way key [] t = (c, .leaf x d) ∧ getL key (pairs t) = if hasK d key then some d.v else none := by
 rcases way_good key ht with ⟨rfl, hw⟩ | ⟨p, c, x, d, hw, hm, hi, h1, hp⟩
 ·exact ⟨_, _, _, hw, by simp [emptyT, pairs, cr, getL, hasK]⟩
 ·obtain ⟨ha, hb⟩ := at_leaf hm
  have hpt : pairs t = pre (p :: c) ++ [(d.k, d.v)] ++ post (p :: c) := by rw [← hp, pairs_plug]; simp [pairs, hi]
  refine ⟨_, _, _, hw, ?_⟩
  rw [hpt, getL_mid _ ha hb]
  simp [hasK, hi]
end Larch
