/- A range over a function: what an iterator of the index owes, and the statement's law for loops whose rounds go on or break. -/
import Derived.Test.YtdmobhndbibhoaaGreatE1
import Derived.Test.YtdmobhndbibhoaaGreatD2
import Derived.RangeFuncNested
import Derived.RangeFuncCalls
import Derived.RangeFuncLeaves
import Derived.Shelf.Abstract
import Derived.Shelf.RegionOpen
import Derived.OwnWalkIn
import Derived.TacticsInMore
import Derived.LoopNIn
import Derived.LoopIn
import Derived.Test.YtdmobhndbibhoaaGreatT5
import Derived.Deep.DeepCutAuto
import Derived.Deep.CutBlock
namespace Go.Proofs.YtdmobhndbibhoaaGreat
open Go.RowKit Larch
set_option maxRecDepth 100000
set_option linter.unusedVariables false
set_option linter.unusedSimpArgs false
abbrev Pr := Int × Int
structure FrO (g : Gt) (O : World → Nat → Prop) (W W' : World) : Prop where
 size : W.heap.size ≤ W'.heap.size
 keep : ∀ b, b < W.heap.size → ¬ O W b → ¬ Tb g W b → W'.heap[b]? = W.heap[b]?
 own : ∀ b, O W' b → O W b ∨ W.heap.size ≤ b
 gate : ∀ b, GBlk g W' b → GBlk g W b ∨ W.heap.size ≤ b
def ItS (g : Gt) (O : World → Nat → Prop) (B : Nat) (W : World) (c : Nat) : Prop := Tb g W c ∨ (B ≤ c ∧ ¬ O W c ∧ ∃ cs fr, W.heap[c]? = some (.cells cs 49 fr))
def SeqC (g : Gt) (be : Nat) (M : List Pr → T Unit) (c : Nat → Nat) (E : List Pr → Pr → Prop) (End : List Pr → Prop) (gf : Nat) (lb : Array Value) (N : Nat) (Pre : World → Prop) (own : Nat → Prop) : Prop :=
 ∀ (l B : Nat) (J K Jx : List Pr → World → Prop) (O : World → Nat → Prop),
   (∀ pre W, J pre W → St g (c pre.length) be (M pre) W W) →
   (∀ pre W, K pre W → St g (c (pre.length + 1)) be (M pre) W W) →
   (∀ pre W W', J pre W → Fr g (ItS g O B W) W W' → St g (c (pre.length + 1)) be (M pre) W' W' → K pre W' ∧ ∀ b, O W' b → O W b) →
   (∀ pre W W', K pre W → Fr g (ItS g O B W) W W' → St g (c (pre.length + 1)) be (M pre) W' W' → K pre W' ∧ ∀ b, O W' b → O W b) →
   (∀ pre W b, J pre W ∨ K pre W → O W b → (∃ cs T fr, W.heap[b]? = some (.cells cs T fr)) ∧ ¬ own b) →
   (∀ pre x W, K pre W → E pre x → pre.length < N) →
   (∀ pre x W, K pre W → E pre x → YieldAt Fence.wide 0 Tryz.prog l #[.int .i64 x.1, .int .i64 x.2] W fun e W' =>
     (e = .returned (.bool true) ∧ J (pre ++ [x]) W' ∧ FrO g O W W') ∨ (e = .returned (.bool false) ∧ Jx (pre ++ [x]) W')) →
   ∀ W, B ≤ W.heap.size → J [] W → Pre W →
   Calls Tryz.prog gf (#[.func (.yield l) #[] #[]] ++ lb) W fun e W' => (∃ v, e = .returned v) ∧ ((∃ xs, End xs ∧ K xs W') ∨ ∃ xs, Jx xs W')
def rPost (g : Gt) (O : World → Nat → Prop) (id : Nat) (I Ix : List Pr → World → Prop) (xs : List Pr) (W : World) : Exit → Act → World → Prop
 | .normal, _, W' => I xs W' ∧ FrO g O W W'
 | .exit i, _, W' => i = id ∧ Ix xs W' ∧ FrO g O W W'
 | _, _, _ => False
def NonC (o : Obj) : Prop := ∀ cs T fr, o ≠ .cells cs T fr
theorem nonC_loop (r : Loop) : NonC (.loop r) := fun _ _ _ h => by cases h
theorem nonC_def (r : Option (List Deferred)) : NonC (.deferred r) := fun _ _ _ h => by cases h
theorem not_tb {g : Gt} {W : World} {b : Nat} {o : Obj} (h : At g W b o) (hn : NonC o) : ¬ Tb g W b := fun k => by
 rcases k with ⟨cs, T, fr, h1, _⟩ | k
 ·rw [h.1] at h1; exact hn _ _ _ (Option.some.inj h1)
 ·exact h.2 k
theorem not_its {g : Gt} {O : World → Nat → Prop} {B : Nat} {W : World} {b : Nat} {o : Obj} (h : At g W b o) (hn : NonC o) : ¬ ItS g O B W b := fun k => by
 rcases k with k | ⟨_, _, cs, fr, h1⟩
 ·exact not_tb h hn k
 ·rw [h.1] at h1; exact hn _ _ _ (Option.some.inj h1)
theorem TF.atN {g : Gt} {W W' : World} {b : Nat} {o : Obj} (h : TF g W W') (ha : At g W b o) (hn : NonC o) : At g W' b o := Fr.at h ha (not_tb ha hn)
theorem FrO.atN {g : Gt} {O : World → Nat → Prop} {W W' : World} {b : Nat} {o : Obj} (h : FrO g O W W') (ha : At g W b o) (hn : NonC o) (hO : ¬ O W b) : At g W' b o :=
 ⟨(h.keep b ha.lt hO (not_tb ha hn)).trans ha.1, fun hg => (h.gate b hg).elim ha.2 (fun h' => by have := ha.lt; omega)⟩
section
variable {g : Gt} {be : Nat} {M : List Pr → T Unit} {c : Nat → Nat} {E : List Pr → Pr → Prop} {End : List Pr → Prop} {gf : Nat} {lb : Array Value} {N : Nat} {Pre : World → Prop} {own : Nat → Prop}
theorem put_other {g : Gt} {W : World} {l b : Nat} {o o' o2 : Obj} (h : At g W b o) (hl : At g W l o2) (hne : b ≠ l) : At g (W.putObj l o') b o :=
 ⟨(wPut_other hne).trans h.1, fun k => h.2 ((GBlk_same (fun c hc => wPut_other (by rintro rfl; exact hl.2 hc)) b).1 k)⟩
theorem put_same {g : Gt} {W : World} {l : Nat} {o o' : Obj} (hl : At g W l o) : At g (W.putObj l o') l o' := At.wPut hl
def Recs (g : Gt) (l D : Nat) (r : Obj) (W : World) : Prop := At g W l r ∧ At g W D (.deferred (some []))
theorem Recs.its {g : Gt} {O : World → Nat → Prop} {B : Nat} {l D : Nat} {r : Obj} {W W' : World} (h : Recs g l D r W) (f : Fr g (ItS g O B W) W W') (hr : NonC r) : Recs g l D r W' := ⟨f.at h.1 (not_its h.1 hr), f.at h.2 (not_its h.2 (nonC_def _))⟩
theorem Recs.frO {g : Gt} {l D : Nat} {r : Obj} {O : World → Nat → Prop} {W W' : World} (h : Recs g l D r W) (f : FrO g O W W') (hr : NonC r) (hO : ∀ b, O W b → ∃ cs T fr, W.heap[b]? = some (.cells cs T fr)) : Recs g l D r W' :=
 ⟨f.atN h.1 hr (fun k => by obtain ⟨cs, T, fr, h1⟩ := hO _ k; rw [h.1.1] at h1; exact hr _ _ _ (Option.some.inj h1)), f.atN h.2 (nonC_def _) (fun k => by obtain ⟨cs, T, fr, h1⟩ := hO _ k; rw [h.2.1] at h1; exact nonC_def _ _ _ _ (Option.some.inj h1))⟩
theorem Recs.put {g : Gt} {l D : Nat} {r r' : Obj} {W : World} (h : Recs g l D r W) (hne : D ≠ l) : Recs g l D r' (W.putObj l r') := ⟨put_same h.1, put_other h.2 h.1 hne⟩
theorem wp_range {m : Nat} {gop : Operand} {ps : Array Tmp} {assign body : Code} {Q : Exit → Act → World → Prop} {a : Act} {w : World} {id : Nat}
 (hg : a.eval gop = .func (.func gf) #[] lb) (eg : ∀ args w, (callFunc gf args).run Tryz.prog w = .ok (.enter gf args) w) (hps : ps.size = 2)
 (hseq : SeqC g be M c E End gf lb N Pre own) (hG : GOk g m w)
 (I K Ix : List Pr → World → Prop) (O : World → Nat → Prop)
 (hI : ∀ pre W, I pre W → St g (c pre.length) be (M pre) W W)
 (hK : ∀ pre W, K pre W → St g (c (pre.length + 1)) be (M pre) W W)
 (hIs : ∀ pre W W', I pre W → Fr g (ItS g O w.heap.size W) W W' → St g (c (pre.length + 1)) be (M pre) W' W' → K pre W' ∧ ∀ b, O W' b → O W b)
 (hKs : ∀ pre W W', K pre W → Fr g (ItS g O w.heap.size W) W W' → St g (c (pre.length + 1)) be (M pre) W' W' → K pre W' ∧ ∀ b, O W' b → O W b)
 (hO : ∀ pre W b, I pre W ∨ K pre W → O W b → (∃ cs T fr, W.heap[b]? = some (.cells cs T fr)) ∧ ¬ own b)
 (hN : ∀ pre x W, K pre W → E pre x → pre.length < N)
 (hIp : ∀ pre W l o o', I pre W → w.heap.size ≤ l → At g W l o → NonC o → NonC o' → I pre (W.putObj l o') ∧ ∀ b, O (W.putObj l o') b → O W b)
 (hKp : ∀ pre W l o o', K pre W → w.heap.size ≤ l → At g W l o → NonC o → NonC o' → K pre (W.putObj l o') ∧ ∀ b, (O (W.putObj l o') b → O W b) ∧ (O W b → O (W.putObj l o') b))
 (hXp : ∀ pre W l o o', Ix pre W → w.heap.size ≤ l → At g W l o → NonC o → NonC o' → Ix pre (W.putObj l o'))
 (a₁ : Pr → Act)
 (hassign : ∀ (l : Nat) (x : Pr) (W : World) (Kc : Act → World → Prop), Kc (a₁ x) W →
   assign.wpIn (Fence.wide.inRound l) 0 Tryz.prog (Exit.then Kc (fun _ _ _ => False)) { tmps := (ps.zip #[.int .i64 x.1, .int .i64 x.2]).foldl (fun t (p, v) => t.setIfInBounds p v) a.tmps, defers := [] } W)
 (hbody : ∀ (l : Nat) (pre : List Pr) (x : Pr) (W : World), K pre W → E pre x → body.wpIn (Fence.wide.inRound l) 0 Tryz.prog (rPost g O id I Ix (pre ++ [x]) W) (a₁ x) W)
 (h0 : ∀ o1 o2, NonC o1 → NonC o2 → I [] ((w.alloc o1).alloc o2) ∧ Pre ((w.alloc o1).alloc o2))
 (hdone : ∀ (D : Nat) (xs : List Pr) (W : World), K xs W → End xs → w.heap.size ≤ D → At g W D (.deferred (some [])) → Q .normal { a with defers := { target := .collected D, args := #[] } :: a.defers } W)
 (hstop : ∀ (D : Nat) (xs : List Pr) (W : World), Ix xs W → w.heap.size ≤ D → At g W D (.deferred (some [])) → Code.wp Tryz.prog (.exit id) Q { a with defers := { target := .collected D, args := #[] } :: a.defers } W) :
 Code.wp Tryz.prog (Code.rangeFunc gop ps assign body) Q a w := by
 refine (wpIn_wide (n := 2)).1 (wpIn_rangeFunc ?_)
 intro fn hfn
 obtain ⟨rec, hrec⟩ : ∃ rec : LoopState → Option Code → Loop, rec = fun st pe => { state := st, pending := pe, fn, tmps := a.tmps, params := ps, assign, body, defers := w.heap.size } := ⟨_, rfl⟩
 obtain ⟨W1, hW1⟩ : ∃ W1, (w.alloc (.deferred (some []))).alloc (.loop (rec .ready none)) = W1 := ⟨_, rfl⟩
 have hne : w.heap.size ≠ w.heap.size + 1 := by omega
 have hR1 : Recs g (w.heap.size + 1) w.heap.size (.loop (rec .ready none)) W1 := by
  rw [← hW1]
  have h1 := At.new (hG.alloc (.deferred (some []))) (.loop (rec .ready none))
  rw [World.size_alloc] at h1
  exact ⟨h1, (At.new hG (.deferred (some []))).alloc (hG.alloc _) _⟩
 have hI1 := h0 (.deferred (some [])) (.loop (rec .ready none)) (nonC_def _) (nonC_loop _)
 rw [hW1] at hI1
 refine ⟨w.heap.size + 1, [{ target := .collected w.heap.size, args := #[] }], W1, { target := .fn (.func gf) lb, args := #[.func (.yield (w.heap.size + 1)) #[] #[]] }, W1, gf,
  #[.func (.yield (w.heap.size + 1)) #[] #[]] ++ lb, W1, ?_, ?_, fun _ _ => trivial, ?_, fun h => by simp [Fence.wide] at h, ?_⟩
 ·rw [← hW1, hrec]; exact run_enterLoop_outer _ _ _ _ _
 ·simp only [resolve, hg]
  simp [go_sem]
 ·simp [invoke, go_sem, eg]
 ·refine callsIn_wide.2 ((hseq (w.heap.size + 1) w.heap.size
   (fun pre W => I pre W ∧ Recs g (w.heap.size + 1) w.heap.size (.loop (rec .ready none)) W)
   (fun pre W => K pre W ∧ Recs g (w.heap.size + 1) w.heap.size (.loop (rec .ready none)) W)
   (fun pre W => Ix pre W ∧ Recs g (w.heap.size + 1) w.heap.size (.loop (rec .done (some (.exit id)))) W) O
   (fun pre W h => hI pre W h.1) (fun pre W h => hK pre W h.1)
   (fun pre W W' h hf hs => ⟨⟨(hIs pre W W' h.1 hf hs).1, h.2.its hf (nonC_loop _)⟩, (hIs pre W W' h.1 hf hs).2⟩)
   (fun pre W W' h hf hs => ⟨⟨(hKs pre W W' h.1 hf hs).1, h.2.its hf (nonC_loop _)⟩, (hKs pre W W' h.1 hf hs).2⟩)
   (fun pre W b h ho => hO pre W b (h.imp (·.1) (·.1)) ho)
   (fun pre x W h he => hN pre x W h.1 he) ?_ W1 (by rw [← hW1]; simp; omega) ⟨hI1.1, hR1⟩ hI1.2).mono ?_)
  ·rintro pre x W ⟨hk, hr⟩ he
   have hy := run_yield (P := Tryz.prog) (args := #[.int .i64 x.1, .int .i64 x.2]) hr.1.1 (by rw [hrec]; exact hps.symm)
   rw [hrec] at hy
   refine ⟨fn, _, assign, body, hy, roundIn_of_wpIn hfn (hassign _ x W _ ⟨_, run_beginRound hr.1.1 (by rw [hrec]), ?_⟩)⟩
   obtain ⟨W2, hW2⟩ : ∃ W2, W.putObj (w.heap.size + 1) (.loop { rec .ready none with state := .busy }) = W2 := ⟨_, rfl⟩
   rw [hW2]
   have hk2 := hKp pre W (w.heap.size + 1) _ (.loop { rec .ready none with state := .busy }) hk (by omega) hr.1 (nonC_loop _) (nonC_loop _)
   have hr2 : Recs g (w.heap.size + 1) w.heap.size (.loop { rec .ready none with state := .busy }) (W.putObj (w.heap.size + 1) (.loop { rec .ready none with state := .busy })) := hr.put hne
   rw [hW2] at hk2 hr2
   have hOc : ∀ b, O W2 b → ∃ cs T fr, W2.heap[b]? = some (.cells cs T fr) := fun b hb => (hO pre W2 b (.inr hk2.1) hb).1
   have fin : ∀ (jump : Option Code) (W3 : World), Recs g (w.heap.size + 1) w.heap.size (.loop { rec .ready none with state := .busy }) W3 →
    (Instr.endRound (w.heap.size + 1) jump).run Tryz.prog W3 = .ok (.bool jump.isNone) (W3.putObj (w.heap.size + 1) (.loop (rec (if jump.isNone then .ready else .done) jump))) := fun jump W3 h3 => by
    have := run_endRound (P := Tryz.prog) jump h3.1.1
    rw [hrec] at this ⊢
    exact this
   refine wpIn_mono (hbody _ pre x W2 hk2.1 he) ?_
   rintro e a3 W3 hp
   cases e with
   | normal =>
     obtain ⟨hi3, hf3⟩ := hp
     have hr3 := hr2.frO hf3 (nonC_loop _) hOc
     obtain ⟨hi4, ho4⟩ := hIp _ _ _ _ (.loop (rec .ready none)) hi3 (by omega) hr3.1 (nonC_loop _) (nonC_loop _)
     refine ⟨_, _, fin none W3 hr3, .inl ⟨rfl, ⟨hi4, hr3.put hne⟩, ?_⟩⟩
     have sz : W2.heap.size = W.heap.size := by rw [← hW2]; simp
     have gk : ∀ b, GBlk g W2 b ↔ GBlk g W b := fun b => by rw [← hW2]; exact GBlk_same (fun c hc => wPut_other (by rintro rfl; exact hr.1.2 hc)) b
     have gk4 : ∀ b, GBlk g (W3.putObj (w.heap.size + 1) (.loop (rec .ready none))) b ↔ GBlk g W3 b := fun b => GBlk_same (fun c hc => wPut_other (by rintro rfl; exact hr3.1.2 hc)) b
     refine ⟨by have := hf3.size; simp; omega, fun b hb hob htb => ?_, fun b hb => ?_, fun b hb => ?_⟩
     ·by_cases e : b = w.heap.size + 1
      ·rw [e, hr.1.1]; exact (hr3.put (r' := .loop (rec .ready none)) hne).1.1
      ·refine (wPut_other e).trans ((hf3.keep b (by omega) (fun k => hob ((hk2.2 b).1 k)) (fun k => htb ?_)).trans ?_)
       ·rcases k with ⟨cs, T, fr, h1, h2⟩ | k
        ·exact .inl ⟨cs, T, fr, by rw [← hW2] at h1; exact (wPut_other e).symm.trans h1, h2⟩
        ·exact .inr ((gk b).1 k)
       ·rw [← hW2]; exact wPut_other e
     ·rcases hf3.own b (ho4 b hb) with h | h
      ·exact .inl ((hk2.2 b).1 h)
      ·exact .inr (by omega)
     ·rcases hf3.gate b ((gk4 b).1 hb) with h | h
      ·exact .inl ((gk b).1 h)
      ·exact .inr (by omega)
   | exit i =>
     obtain ⟨rfl, hi3, hf3⟩ := hp
     have hr3 := hr2.frO hf3 (nonC_loop _) hOc
     have hi4 := hXp _ _ _ _ (.loop (rec .done (some (.exit i)))) hi3 (by omega) hr3.1 (nonC_loop _) (nonC_loop _)
     exact ⟨_, _, fin (some (.exit i)) W3 hr3, .inr ⟨rfl, hi4, hr3.put hne⟩⟩
   | ret => exact hp.elim
   | goto t => exact hp.elim
   | panic ch => exact hp.elim
   | outgrown => exact hp.elim
  ·rintro e W2 ⟨⟨v, rfl⟩, (⟨xs, hE, hi, hr⟩ | ⟨pre, hi, hr⟩)⟩
   ·have h4 := (hKp xs W2 _ _ (.loop { rec .ready none with state := .exhausted }) hi (by omega) hr.1 (nonC_loop _) (nonC_loop _)).1
    have h5 := (hr.put (r' := .loop { rec .ready none with state := .exhausted }) hne).2
    exact ⟨none, W2.putObj (w.heap.size + 1) (.loop { rec .ready none with state := .exhausted }), by have := run_endLoop (P := Tryz.prog) hr.1.1 (by rw [hrec]; simp); rw [hrec] at this ⊢; exact this, hdone _ xs _ h4 hE (Nat.le_refl _) h5⟩
   ·have h4 := hXp pre W2 _ _ (.loop { rec .done (some (.exit id)) with state := .exhausted }) hi (by omega) hr.1 (nonC_loop _) (nonC_loop _)
    have h5 := (hr.put (r' := .loop { rec .done (some (.exit id)) with state := .exhausted }) hne).2
    exact ⟨some (.exit id), W2.putObj (w.heap.size + 1) (.loop { rec .done (some (.exit id)) with state := .exhausted }), by have := run_endLoop (P := Tryz.prog) hr.1.1 (by rw [hrec]; simp); rw [hrec] at this ⊢; exact this, wpIn_wide.2 (hstop _ pre _ h4 (Nat.le_refl _) h5)⟩
end
end Go.Proofs.YtdmobhndbibhoaaGreat
namespace Go.Proofs.YtdmobhndbibhoaaGreat
open Go.RowKit Larch
set_option maxRecDepth 100000
set_option linter.unusedVariables false
set_option linter.unusedSimpArgs false
attribute [local go_sem ↓] Go.wp_at_zero Go.wp_at_succ
theorem FrO.at {g : Gt} {O : World → Nat → Prop} {W W' : World} {b : Nat} {cs : Array Value} {T : TypeId} (h : FrO g O W W') (ha : Cl g W b cs T) (hT : T ≠ 209 ∧ T ≠ 269) (hO : ¬ O W b) : Cl g W' b cs T :=
 ⟨(h.keep b ha.lt hO (tb_not ha hT)).trans ha.1, fun hg => (h.gate b hg).elim ha.2 (fun h' => by have := ha.lt; omega)⟩
theorem FrO.row {g : Gt} {O : World → Nat → Prop} {W W' : World} {e size n : Nat} {v : Value} {xs : List Value} (h : FrO g O W W') (hr : Row g W e size v n xs) (hT : e ≠ 209 ∧ e ≠ 269) (hO : ∀ b, v.ownBlock = some b → ¬ O W b) : Row g W' e size v n xs := by
 refine ⟨hr.1, ?_⟩
 rcases hr.2 with h' | ⟨b, cap, cur, rfl, h2, h3, h4, h5⟩
 ·exact .inl h'
 ·exact .inr ⟨b, cap, cur, rfl, h2, h3, h.at h4 hT (hO b rfl), h5⟩
theorem St.here {g : Gt} {m be : Nat} {t : T Unit} {w0 w : World} (h : St g m be t w0 w) : St g m be t w w := ⟨h.map, h.good, h.gate, Fr.refl _ _ _⟩
theorem its_tf {g : Gt} {O : World → Nat → Prop} {B : Nat} {W W' : World} (h : TF g W W') : Fr g (ItS g O B W) W W' := Fr.mono (show Fr g (Tb g W) W W' from h) (fun _ _ k => .inl k)
def I64 (k : Int) : Prop := -9223372036854775808 ≤ k ∧ k ≤ 9223372036854775807
theorem rng_whole {m : List (Int × Int)} (h : ∀ p ∈ m, I64 p.1) : rngL (-9223372036854775808) 9223372036854775807 m = m :=
 filter_all fun p hp => by have := h p hp; simp only [I64] at this; simp; omega
def PreAll (g : Gt) (be hb xb : Nat) (W : World) : Prop := Cl g W xb #[ptr hb] 37 ∧ Cl g W hb #[ptr be, gval g] 106
set_option maxHeartbeats 8000000 in
theorem seq_all {g : Gt} {be hb xb N : Nat} {M : List Pr → T Unit} {c : Nat → Nat} {L : List Pr} (hL : pairs (M []) = L) (h64 : ∀ p ∈ L, I64 p.1) (hc : ∀ n, c n ≤ c (n + 1)) (hcost : c 0 + cost (M []).size ≤ c 1) (hlim : c 1 < LIM) (hsz : (M []).size < 300000) (hLn : L.length ≤ 100000) :
 SeqC g be M c (fun pre x => L[pre.length]? = some x) (fun xs => xs.length = L.length) 70 #[.pointer (some ⟨xb, 0, none⟩)] N (PreAll g be hb xb) (fun b => b = xb ∨ b = hb) := by
 intro l B J K Jx O hJ hK hJs hKs hO hN hY W hBW hJ0 hP
 have hS := hJ [] W hJ0
 have hR := hRange_any (lo := -9223372036854775808) (hi := 9223372036854775807) hS hP.2 (by simp only [List.length_nil]; omega) hsz
 rw [hL, rng_whole h64] at hR
 have x0 := hP.1.cell 0
 unfold ptr at hR x0
 have HJ0 := Lib.hid hJ0
 clear hJ0 hS
 rw [show #[Value.func (Fn.yield l) #[] #[]] ++ #[.pointer (some ⟨xb, 0, none⟩)] = #[Value.func (Fn.yield l) #[] #[], .pointer (some ⟨xb, 0, none⟩)] from rfl]
 go_enter Tryz.func70, Tryz.ntmps70
 go_wp2_with fail
 refine hR.mono ?_
 rintro e w1 ⟨v, rfl, hS1, hPV⟩
 simp only [List.length_nil, Nat.zero_add] at hS1
 obtain ⟨hK0, hO0⟩ := hJs [] W w1 HJ0.out (its_tf hS1.tf) (hS1.here.mono hcost)
 obtain ⟨a6, c6, rfl⟩ := hPV.1.slice
 have hnO : ∀ b, (Value.slice a6 L.length c6).ownBlock = some b → ¬ O w1 b := fun b hb h => by
  have h1 := hPV.2 b hb
  obtain ⟨⟨cs, T, fr, h2⟩, _⟩ := hO [] W b (.inl HJ0.out) (hO0 b h)
  have := lt_of_heap h2
  omega
 clear hR x0 HJ0 hO0 hS1 hP
 obtain ⟨n, hn⟩ : ∃ n, L.length = n := ⟨_, rfl⟩
 have hPV := hPV.1
 rw [hn] at hPV hnO hLn
 have HN := Lib.hid hn
 go_wp2_with fail
 go_loopg [8] n (fun gk v8 wr => ∃ pre : List Pr, gk + pre.length = n ∧ v8 = .int .i64 (pre.length : Int) ∧ K pre wr ∧ Row g wr 49 2 (.slice a6 n c6) n (pV L) ∧ ∀ b, (Value.slice a6 n c6).ownBlock = some b → ¬ O wr b)
 case atStart => exact ⟨[], by simp, rfl, hK0, hPV, hnO⟩
 case round =>
  obtain ⟨pre, hp, rfl, hKp, hRow, hno⟩ := hrel
  clear hK0 hPV hnO
  obtain ⟨k, hk⟩ : ∃ k, pre.length = k := ⟨_, rfl⟩
  rw [hk] at hp ⊢
  by_cases hlt : k < n
  ·obtain ⟨x, hx⟩ : ∃ x, L[k]? = some x := ⟨_, List.getElem?_eq_getElem (by have := HN.out; omega)⟩
   obtain ⟨b, off, rfl, c0, c1⟩ := hRow.sl.pair hx
   obtain ⟨x1, x2⟩ := x
   have hSp := hK pre wr hKp
   obtain ⟨hK2, hO2⟩ := hKs pre wr (wr.alloc (.cells #[.int .i64 x1, .int .i64 x2] 49)) hKp (its_tf (TF.of (Fr.alloc g No _ _ hSp.gate))) (hSp.alloc _).here
   have hyy := hY pre (x1, x2) _ hK2 (by rw [hk]; exact hx)
   obtain ⟨fn, tmps, assign, body, hy, hRd⟩ := hyy
   simp only at hy
   have hRow2 := hRow.fr (Fr.alloc g No wr (.cells #[.int .i64 x1, .int .i64 x2] 49) hSp.gate) (fun _ _ h => h)
   have hno2 : ∀ b', (Value.slice (some ⟨b, off, none⟩) n c6).ownBlock = some b' → ¬ O (wr.alloc (.cells #[.int .i64 x1, .int .i64 x2] 49)) b' := fun b' hb' h => hno b' hb' (hO2 b' h)
   have hB := At.new hSp.gate (.cells #[.int .i64 x1, .int .i64 x2] 49)
   have hk0 : (0 : Int) ≤ (k : Int) := by omega
   have hki : (k : Int) < (n : Int) := by omega
   have HX := Lib.hid (And.intro hk (And.intro hRow2 hno2))
   clear hk hRow2 hno2 hx hK2 hO2 hKp hRow hno hSp
   go_upto_region 3 with (fail)
   refine (wpIn_wide (n := 1)).1 ?_
   gi_wp2_with fail
   refine hRd.mono ?_
   rintro e W3 (⟨rfl, hJ3, hF3⟩ | ⟨rfl, hX3⟩)
   ·obtain ⟨hk, hRow2, hno2⟩ := HX.out
    have hS3 := hJ _ W3 hJ3
    obtain ⟨hK3, hO3⟩ := hJs _ W3 W3 hJ3 (Fr.refl _ _ _) (hS3.mono (hc _))
    have hRow3 := hF3.row hRow2 (by decide) hno2
    have hno3 : ∀ b', (Value.slice (some ⟨b, off, none⟩) n c6).ownBlock = some b' → ¬ O W3 b' := fun b' hb' h => by
     rcases hF3.own b' h with h | h
     ·exact hno2 b' hb' h
     ·have := hRow2.lt hb'; omega
    have hl : (pre ++ [(x1, x2)]).length = k + 1 := by rw [List.length_append, hk]; rfl
    have HY := Lib.hid (And.intro hl (And.intro hK3 (And.intro hRow3 hno3)))
    clear hk hRow2 hno2 hS3 hK3 hO3 hRow3 hno3 hl hJ3 hF3 hRd hy hB c0 c1
    gi_wp2_with fail
    go_wp2_with fail
    go_roundg (n - (k + 1))
    case measure => omega
    case rel =>
     obtain ⟨hl, hK3, hRow3, hno3⟩ := HY.out
     exact ⟨_, by rw [hl]; omega, by rw [hl]; simp, hK3, hRow3, hno3⟩
   ·clear hRd hy hB c0 c1
    gi_wp2_with fail
    go_wp2_with fail
    (try simp only [Exit.inBlock, Exit.then])
    refine bodyPost_ret (results_none rfl _ _ _) rfl ?_
    exact ⟨⟨_, rfl⟩, .inr ⟨_, hX3⟩⟩
  ·have hl : pre.length = L.length := by have := HN.out; omega
   have HX := Lib.hid (And.intro hl hKp)
   clear hl hKp hk
   go_wp2_with fail
   (try simp only [Exit.inBlock, Exit.then])
   first
   | refine bodyPost_ret (results_none rfl _ _ _) rfl ?_
   | go_end0
   exact ⟨⟨_, rfl⟩, .inl ⟨pre, HX.out⟩⟩
end Go.Proofs.YtdmobhndbibhoaaGreat
