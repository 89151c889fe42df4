/- chroma's try: leads, below, child, both, swap; as, less, of, inner, weightBelow. -/
import Derived.Test.YtdmobhndbibhoaaGreatA12
namespace Go.Proofs.YtdmobhndbibhoaaGreat
set_option linter.unusedVariables false
set_option linter.unusedSimpArgs false
open Go.RowKit Larch
set_option maxRecDepth 100000
attribute [local go_sem ↓] Go.wp_at_zero Go.wp_at_succ
theorem Row.cells2 {g : Gt} {w : World} {fa : Option Addr} {fc c0 c1 : Nat} (h : Row g w 99 1 (.slice fa 2 fc) 2 [ptr c0, ptr c1]) :
 ∃ b, fa = some ⟨b, 0, none⟩ ∧ w.cell? ⟨b, 0, none⟩ = some (ptr c0) ∧ w.cell? ⟨b, 1, none⟩ = some (ptr c1) := by
 obtain ⟨b, cap, hv⟩ := h.pos (by omega)
 injection hv with h1 h2 h3
 subst h1; subst h3
 exact ⟨b, rfl, h.cell 0 (by omega), h.cell 1 (by omega)⟩
theorem eql_rec {a b : Nat} {w : World} (ha : IsRec w a) (hb : IsRec w b) : (binOp .eql 99 (.pointer (some ⟨a, 0, none⟩)) (.pointer (some ⟨b, 0, none⟩))).run Tryz.prog w = .ok (.bool (decide (a = b))) w :=
 eql_ptr Tryz.underlying99 z209 (samePointer_rec ha hb)
theorem neq_rec {a b : Nat} {w : World} (ha : IsRec w a) (hb : IsRec w b) : (binOp .neq 99 (.pointer (some ⟨a, 0, none⟩)) (.pointer (some ⟨b, 0, none⟩))).run Tryz.prog w = .ok (.bool (!decide (a = b))) w :=
 neq_ptr Tryz.underlying99 z209 (samePointer_rec ha hb)
set_option maxHeartbeats 1000000 in
theorem Index_any {b fc c0 c1 : Nat} {w : World} (s : Bool) (h0 : w.cell? ⟨b, 0, none⟩ = some (.pointer (some ⟨c0, 0, none⟩))) (h1 : w.cell? ⟨b, 1, none⟩ = some (.pointer (some ⟨c1, 0, none⟩)))
 (k0 : IsRec w c0) (k1 : IsRec w c1) (hne : c0 ≠ c1) :
 Calls Tryz.prog 187 #[.slice (some ⟨b, 0, none⟩) 2 fc, .pointer (some ⟨if s then c1 else c0, 0, none⟩)] w fun e w' => e = .returned (.int .i64 (if s then 1 else 0)) ∧ w = w' := by
 have e0 := eql_rec k0 k0
 have e1 := eql_rec k1 k1
 have e2 := eql_rec k1 k0
 simp only [decide_true] at e0 e1
 rw [show decide (c1 = c0) = false from by simp; omega] at e2
 have HN := Lib.hid hne
 clear hne
 cases s with
 | false =>
   simp only [Bool.false_eq_true, if_false]
   go_enter Tryz.func187, Tryz.ntmps187
   go_wp2_with fail
   refine wp_loop_rounds 1 ?_
   rw [rounds_succ]
   go_wp2_with fail
   go_ret
   exact ⟨rfl, rfl⟩
 | true =>
   simp only [if_true]
   go_enter Tryz.func187, Tryz.ntmps187
   go_wp2_with fail
   refine wp_loop_rounds 2 ?_
   rw [rounds_succ]
   go_wp2_with fail
   rw [rounds_succ]
   go_wp2_with fail
   go_ret
   exact ⟨rfl, rfl⟩
set_option maxHeartbeats 1000000 in
theorem leads_any {g : Gt} {m tb fc c0 c1 rb info : Nat} {fa : Option Addr} {L : List VRec} {w : World} (s : Bool) (hg : GOk g m w) (ht : TrySt g w tb L)
 (hr : Row g w 99 1 (.slice fa 2 fc) 2 [ptr c0, ptr c1]) (k0 : IsRec w c0) (k1 : IsRec w c1) (hne : c0 ≠ c1) :
 Calls Tryz.prog 139 #[.pointer (some ⟨tb, 0, none⟩), .agg #[ptr rb, ptr info, .slice fa 2 fc], ptr (if s then c1 else c0)] w fun e w' => e = .returned (.int .i64 (if s then 1 else 0)) ∧ Fr g No w w' ∧ GOk g m w' := by
 obtain ⟨v, f, htb, _⟩ := ht
 obtain ⟨b, rfl, h0, h1⟩ := hr.cells2
 have hF := Fr.alloc g No w (.cells #[.pointer (some ⟨rb, 0, none⟩), .pointer (some ⟨info, 0, none⟩), .slice (some ⟨b, 0, none⟩) 2 fc] 220) hg
 have hG := hg.alloc (.cells #[.pointer (some ⟨rb, 0, none⟩), .pointer (some ⟨info, 0, none⟩), .slice (some ⟨b, 0, none⟩) 2 fc] 220)
 have hc3 := (hF.at htb id).cell 3
 have hr2 := hr.fr hF (fun _ _ h => h)
 have g0 := hr2.cell 0 (by omega)
 have g1 := hr2.cell 1 (by omega)
 have l0 := hF.isRec _ k0
 have l1 := hF.isRec _ k1
 unfold ptr
 clear htb h0 h1 hr hr2
 cases s with
 | false =>
   have hI := fun W h0 h1 k0 k1 => Index_any (b := b) (fc := fc) (c0 := c0) (c1 := c1) (w := W) false h0 h1 k0 k1 hne
   simp only [Bool.false_eq_true, if_false] at hI ⊢
   go_enter Tryz.func139, Tryz.ntmps139
   go_wp2_with (go_at_call 187; refine (hI _ g0 g1 l0 l1).mono ?_; rintro e w1 ⟨rfl, rfl⟩)
   go_ret
   exact ⟨rfl, hF, hG⟩
 | true =>
   have hI := fun W h0 h1 k0 k1 => Index_any (b := b) (fc := fc) (c0 := c0) (c1 := c1) (w := W) true h0 h1 k0 k1 hne
   simp only [if_true] at hI ⊢
   go_enter Tryz.func139, Tryz.ntmps139
   go_wp2_with (go_at_call 187; refine (hI _ g0 g1 l0 l1).mono ?_; rintro e w1 ⟨rfl, rfl⟩)
   go_ret
   exact ⟨rfl, hF, hG⟩
set_option maxHeartbeats 1000000 in
theorem below_tr {g : Gt} {m tb fc c0 c1 rb info : Nat} {fa : Option Addr} {L : List VRec} {w : World} (s : Bool) (hg : GOk g m w) (ht : TrySt g w tb L)
 (hr : Row g w 99 1 (.slice fa 2 fc) 2 [ptr c0, ptr c1]) :
 Calls Tryz.prog 192 #[.pointer (some ⟨tb, 0, none⟩), .agg #[ptr rb, ptr info, .slice fa 2 fc], .int .i64 (if s then 1 else 0)] w fun e w' => e = .returned (ptr (if s then c1 else c0)) ∧ Fr g No w w' ∧ GOk g m w' := by
 obtain ⟨v, f, htb, _⟩ := ht
 obtain ⟨b, rfl, h0, h1⟩ := hr.cells2
 have hF := Fr.alloc g No w (.cells #[.pointer (some ⟨rb, 0, none⟩), .pointer (some ⟨info, 0, none⟩), .slice (some ⟨b, 0, none⟩) 2 fc] 220) hg
 have hG := hg.alloc (.cells #[.pointer (some ⟨rb, 0, none⟩), .pointer (some ⟨info, 0, none⟩), .slice (some ⟨b, 0, none⟩) 2 fc] 220)
 have hc3 := (hF.at htb id).cell 3
 have hr2 := hr.fr hF (fun _ _ h => h)
 have g0 : World.cell? _ ⟨b, 0, none⟩ = some (.pointer (some ⟨c0, 0, none⟩)) := hr2.cell 0 (by omega)
 have g1 : World.cell? _ ⟨b, 1, none⟩ = some (.pointer (some ⟨c1, 0, none⟩)) := hr2.cell 1 (by omega)
 unfold ptr
 clear htb h0 h1 hr hr2
 cases s with
 | false =>
   simp only [Bool.false_eq_true, if_false]
   go_enter Tryz.func192, Tryz.ntmps192
   go_wp2
   go_ret
   exact ⟨rfl, hF, hG⟩
 | true =>
   simp only [if_true]
   go_enter Tryz.func192, Tryz.ntmps192
   go_wp2
   go_ret
   exact ⟨rfl, hF, hG⟩
theorem TrySt.fresh {g : Gt} {w w' : World} {tb b : Nat} {L : List VRec} (ht : TrySt g w tb L) (hF : Fr g No w w') (hb : w.heap.size ≤ b) : ¬ TBlk w' tb b := fun h => by
 obtain ⟨cs, ha⟩ := ht.at
 have := TBlk.lt ht ((TBlk.same (hF.keep tb ha.lt ha.2 id) b).1 h)
 omega
theorem FrT.box {g : Gt} {w w2 w3 : World} {tb rb : Nat} {L : List VRec} (h : FrT g tb w w2) (ht : TrySt g w2 tb L) (hf : Fr g (fun k => k = rb) w2 w3) (hn : rb ≠ tb) (hb : w.heap.size ≤ rb) : FrT g tb w w3 := by
 obtain ⟨cs, ha⟩ := ht.at
 exact ⟨h.fr.trans hf (fun _ _ h => h) (fun c hc h => by omega), fun c hc => h.own c ((TBlk.same (hf.keep tb ha.lt ha.2 (fun e => hn e.symm)) c).1 hc)⟩
theorem TrySt.box {g : Gt} {w2 w3 : World} {tb rb : Nat} {L : List VRec} {cs : Array Value} (ht : TrySt g w2 tb L) (hf : Fr g (fun k => k = rb) w2 w3) (hb : Bx g w2 tb rb cs 220) : TrySt g w3 tb L :=
 ht.fr hf (fun c h e => hb.2 (e ▸ h)) (fun c ds T hc hT e => by subst e; exact Cl.ne hb.1 hc (by rcases hT with rfl | rfl | rfl | rfl <;> decide) rfl)
theorem Bx.ne {g : Gt} {w : World} {tb rb : Nat} {cs : Array Value} {T : TypeId} (hb : Bx g w tb rb cs T) : rb ≠ tb := fun e => hb.2 (.inl e)
theorem TrySt.lastRow {g : Gt} {w : World} {tb : Nat} {L : List VRec} {r : VRec} (ht : TrySt g w tb (L ++ [r])) : VOk g w r := by
 obtain ⟨v, f, _, _, _, h⟩ := ht; exact h r (by simp)
theorem lastSlice {g : Gt} {w : World} {tb b fb info : Nat} {d : It} {lf fin : Bool} {kids : List Nat} {fv : Value} {L : List VRec} (ht : TrySt g w tb (L ++ [⟨b, fb, d, lf, kids, info, fin, fv⟩])) :
 ∃ a c, fv = .slice a kids.length c := ht.lastRow.2.2.2.2.slice
set_option maxHeartbeats 1000000 in
theorem child_tr {g : Gt} {m tb fc c0 c1 rb info fb : Nat} {fa : Option Addr} {L : List VRec} {d : It} {lf : Bool} {kids : List Nat} {fin : Bool} {w : World} (s : Bool)
 (hg : GOk g m w) (hm : m + 7 < LIM) (hL : L.length < 900) (ht : TrySt g w tb L) (hr : Row g w 99 1 (.slice fa 2 fc) 2 [ptr c0, ptr c1])
 (hsh : Shape lf kids) (hnd : NodeAt g w (if s then c1 else c0) fb d lf kids) :
 Calls Tryz.prog 143 #[.pointer (some ⟨tb, 0, none⟩), .agg #[ptr rb, ptr info, .slice fa 2 fc], .int .i64 (if s then 1 else 0), .bool fin] w (LinkR g m tb L (if s then c1 else c0) fb d lf kids fin w) := by
 generalize hc : (if s then c1 else c0) = c at *
 generalize hi : (if s then (1 : Int) else 0) = i at *
 have hB := fun W (h1 : GOk g m W) h2 h3 => below_tr (g := g) (m := m) (tb := tb) (fc := fc) (c0 := c0) (c1 := c1) (rb := rb) (info := info) (fa := fa) (L := L) (w := W) s h1 h2 h3
 rw [hc, hi] at hB
 have hF := (Fr.alloc g No w (.cells #[ptr rb, ptr info, .slice fa 2 fc] 220) hg).tr (Fr.alloc g No _ (.cells #[.pointer none, .pointer none, .slice none 0 0] 220) (hg.alloc _))
 have hG := (hg.alloc (.cells #[ptr rb, ptr info, .slice fa 2 fc] 220)).alloc (.cells #[.pointer none, .pointer none, .slice none 0 0] 220)
 have hR := At.new (hg.alloc (.cells #[ptr rb, ptr info, .slice fa 2 fc] 220)) (.cells #[.pointer none, .pointer none, .slice none 0 0] 220)
 simp only [World.size_alloc] at hR
 clear hc hi
 unfold ptr at *
 go_enter Tryz.func143, Tryz.ntmps143
 go_wp2_with fail
 generalize hW : World.alloc _ _ = W at *
 refine (hB W hG (ht.fr0 hF) (hr.fr hF (fun _ _ h => h))).mono ?_
 rintro e w1 ⟨rfl, hF1, hG1⟩
 have ht1 := (ht.fr0 hF).fr0 hF1
 have hnd1 := (hnd.fr0 hF).fr0 hF1
 have hR1 := hF1.at hR id
 have hFF := hF.tr hF1
 have hrb : w.heap.size < W.heap.size := by have := hR.lt; omega
 have hBx : Bx g w1 tb (w.heap.size + 1) _ 220 := ⟨hR1, ht.fresh hFF (by omega)⟩
 have hft := ht.frT hFF
 clear hB hW hR hF1 hG hF
 go_wp2_with fail
 refine (link_any hG1 hm hL ht1 hsh hnd1).mono ?_
 rintro e w2 ⟨info2, fv, rfl, hF2, hG2, ht2⟩
 obtain ⟨fa2, fc2, rfl⟩ := lastSlice ht2
 have hB2 := hBx.fr hF2
 have hft2 := hft.trans hF2
 have r0 := hB2.1.cell 0
 have r1 := hB2.1.cell 1
 have r2 := hB2.1.cell 2
 have q0 := hB2.1.free 0
 have q1 := hB2.1.free 1
 have q2 := hB2.1.free 2
 have HB2 := Lib.hid hB2
 clear hBx hft hF2 hFF ht1 hnd1 hR1 hB2
 unfold ptr
 go_wp2_with fail
 generalize hW6 : World.setCell _ _ _ = W6
 obtain ⟨F6, G6, R6⟩ := set3 hG2 HB2.out.1 hW6
 have hft6 := hft2.box ht2 F6 HB2.out.ne (by omega)
 have ht6 := ht2.box F6 HB2.out
 clear hW6
 refine bodyPost_ret (results_cell_row rfl _ _ (w.heap.size + 1) 220 _ (0, 0) _ rfl R6.1 Tryz.underlying220 rfl size220) rfl ?_
 exact ⟨info2, _, rfl, hft6, G6, ht6⟩
theorem results_cc {fn : Func} {p q : Tmp} {ty : TypeId} (h : fn.results = #[.cell p ty, .cell q ty]) (tmps : Array Value) {P : Program} {w : World} {b c : Nat} {t : TypeId} {cs ds : Array Value} {fr : Nat × Nat} {fs : Array Field}
 (hp : tmps.getD p undef = .pointer (some ⟨b, 0, none⟩)) (hq : tmps.getD q undef = .pointer (some ⟨c, 0, none⟩)) (hb : w.heap[b]? = some (.cells cs t fr)) (hc : w.heap[c]? = some (.cells ds t fr))
 (hu : P.underlying ty = some (.struct fs)) (hi : (P.info? ty).map (·.size) = some cs.size) (hi2 : (P.info? ty).map (·.size) = some ds.size) :
 (results fn tmps).run P w = .ok (.tuple #[.agg cs, .agg ds]) w := by
 have hp' : tmps[p]?.getD undef = .pointer (some ⟨b, 0, none⟩) := by simpa using hp
 have hq' : tmps[q]?.getD undef = .pointer (some ⟨c, 0, none⟩) := by simpa using hq
 simp [results, h, hp', hq', asAddr, Sem.run_bind, Result.andThen, run_loadVar_row w b t ty cs fr _ hb hu rfl hi, run_loadVar_row w c t ty ds fr _ hc hu rfl hi2]
def BothR (g : Gt) (m tb : Nat) (L : List VRec) (s : Bool) (b0 b1 fb0 fb1 : Nat) (d0 d1 : It) (lf0 lf1 : Bool) (kids0 kids1 : List Nat) (w : World) (e : Ending) (w' : World) : Prop :=
 ∃ i0 i1 fv0 fv1, e = .returned (.tuple (if s then #[.agg #[ptr b1, ptr i1, fv1], .agg #[ptr b0, ptr i0, fv0]] else #[.agg #[ptr b0, ptr i0, fv0], .agg #[ptr b1, ptr i1, fv1]])) ∧ FrT g tb w w' ∧ GOk g (m + 14) w' ∧
   TrySt g w' tb (L ++ [⟨b0, fb0, d0, lf0, kids0, i0, true, fv0⟩] ++ [⟨b1, fb1, d1, lf1, kids1, i1, true, fv1⟩])
theorem TrySt.notin {g : Gt} {w : World} {tb : Nat} {L : List VRec} (ht : TrySt g w tb L) : ∀ c cs T, Cl g w c cs T → T = 209 ∨ T = 278 ∨ T = 269 → ¬ TBlk w tb c :=
 fun c cs T hc hT => ht.out hc (by rcases hT with rfl | rfl | rfl <;> decide)
theorem NodeAt.frT {g : Gt} {w w' : World} {tb b fb : Nat} {L : List VRec} {d : It} {lf : Bool} {kids : List Nat} (h : NodeAt g w b fb d lf kids) (ht : TrySt g w tb L) (hf : FrT g tb w w') : NodeAt g w' b fb d lf kids :=
 h.fr hf.fr ht.notin
theorem HT.frT {g : Gt} {w w' : World} {tb : Nat} {L : List VRec} {t : HTree} (h : HT g w t) (ht : TrySt g w tb L) (hf : FrT g tb w w') : HT g w' t := h.fr hf.fr ht.notin
theorem Row.frT {g : Gt} {w w' : World} {tb size n : Nat} {L : List VRec} {v : Value} {xs : List Value} (h : Row g w 99 size v n xs) (ht : TrySt g w tb L) (hf : FrT g tb w w') : Row g w' 99 size v n xs :=
 h.fr hf.fr (fun c hc => by
  rcases h.2 with ⟨rfl, _⟩ | ⟨b, cap, cur, rfl, _, _, hb, _⟩
  ·simp [Value.ownBlock] at hc
  ·simp [Value.ownBlock] at hc; subst hc; exact ht.out hb (by decide))
theorem Bx.new {g : Gt} {w : World} {tb k : Nat} {L : List VRec} {cs : Array Value} {T : TypeId} (ht : TrySt g w tb L) (hg : GOk g k w) : Bx g (w.alloc (.cells cs T)) tb w.heap.size cs T :=
 ⟨At.new hg _, ht.fresh (Fr.alloc g No w _ hg) (Nat.le_refl _)⟩
theorem bn {g : Gt} {w : World} {tb k : Nat} {L : List VRec} (cs : Array Value) (ht : TrySt g w tb L) (hg : GOk g k w) :
 Bx g (w.alloc (.cells cs 220)) tb w.heap.size cs 220 ∧ GOk g k (w.alloc (.cells cs 220)) ∧ Fr g No w (w.alloc (.cells cs 220)) :=
 ⟨Bx.new ht hg, hg.alloc _, Fr.alloc g No _ _ hg⟩
theorem Bx.set3 {g : Gt} {w W : World} {tb rb n : Nat} {L : List VRec} {a b c x y z : Value} {T : TypeId} (ht : TrySt g w tb L) (hg : GOk g n w) (h : Bx g w tb rb #[a, b, c] T)
 (hW : ((w.setCell ⟨rb, 0, none⟩ x).setCell ⟨rb, 1, none⟩ y).setCell ⟨rb, 2, none⟩ z = W) : Fr g (fun k => k = rb) w W ∧ GOk g n W ∧ Bx g W tb rb #[x, y, z] T := by
 obtain ⟨h1, h2, h3⟩ := Go.Proofs.YtdmobhndbibhoaaGreat.set3 hg h.1 hW
 obtain ⟨cs, ha⟩ := ht.at
 exact ⟨h1, h2, h3, fun hb => h.2 ((TBlk.same (h1.keep tb ha.lt ha.2 (fun e => h.ne e.symm)) rb).1 hb)⟩
theorem Bx.keep {g : Gt} {w W : World} {tb rb c : Nat} {L : List VRec} {cs : Array Value} {T : TypeId} (ht : TrySt g w tb L) (hf : Fr g (fun k => k = rb) w W) (hn : rb ≠ tb) (h : Bx g w tb c cs T) (hc : c ≠ rb) : Bx g W tb c cs T := by
 obtain ⟨ds, ha⟩ := ht.at
 exact ⟨hf.at h.1 hc, fun hb => h.2 ((TBlk.same (hf.keep tb ha.lt ha.2 (fun e => hn e.symm)) c).1 hb)⟩
set_option maxHeartbeats 4000000 in
theorem both_tr {g : Gt} {m tb fc c0 c1 rb info fb0 fb1 : Nat} {fa : Option Addr} {L : List VRec} {d0 d1 : It} {lf0 lf1 : Bool} {kids0 kids1 : List Nat} {w : World} (s : Bool)
 (hg : GOk g m w) (hm : m + 14 < LIM) (hL : L.length < 800) (ht : TrySt g w tb L) (hr : Row g w 99 1 (.slice fa 2 fc) 2 [ptr c0, ptr c1])
 (hs0 : Shape lf0 kids0) (hn0 : NodeAt g w c0 fb0 d0 lf0 kids0) (hs1 : Shape lf1 kids1) (hn1 : NodeAt g w c1 fb1 d1 lf1 kids1) :
 Calls Tryz.prog 275 #[.pointer (some ⟨tb, 0, none⟩), .agg #[ptr rb, ptr info, .slice fa 2 fc], .int .i64 (if s then 1 else 0)] w (BothR g m tb L s c0 c1 fb0 fb1 d0 d1 lf0 lf1 kids0 kids1 w) := by
 generalize hi : (if s then (1 : Int) else 0) = i at *
 have HI := Lib.hid hi
 clear hi
 have hG0 := hg.alloc (.cells #[ptr rb, ptr info, .slice fa 2 fc] 220)
 have hF0 := Fr.alloc g No w (.cells #[ptr rb, ptr info, .slice fa 2 fc] 220) hg
 have hG1 := hG0.alloc (.cells #[.pointer none, .pointer none, .slice none 0 0] 220)
 have hF1 := Fr.alloc g No _ (.cells #[.pointer none, .pointer none, .slice none 0 0] 220) hG0
 have hG2 := hG1.alloc (.cells #[.pointer none, .pointer none, .slice none 0 0] 220)
 have hF2 := Fr.alloc g No _ (.cells #[.pointer none, .pointer none, .slice none 0 0] 220) hG1
 have hFF := (hF0.tr hF1).tr hF2
 have a0 := (hF1.tr hF2).at (At.new hg (.cells #[ptr rb, ptr info, .slice fa 2 fc] 220)) id
 have a1 := hF2.at (At.new hG0 (.cells #[.pointer none, .pointer none, .slice none 0 0] 220)) id
 have a2 := At.new hG1 (.cells #[.pointer none, .pointer none, .slice none 0 0] 220)
 simp only [World.size_alloc] at a0 a1 a2
 have hC0 := fun W (h1 : GOk g m W) h2 h3 h4 h5 => child_tr (g := g) (m := m) (tb := tb) (fc := fc) (c0 := c0) (c1 := c1) (rb := rb) (info := info) (fa := fa) (L := L) (fin := true) (w := W) (d := d0) (lf := lf0) (kids := kids0) (fb := fb0) false h1 (by omega) (by omega) h2 h3 h4 h5
 have hC1 := fun W L1 (hL1 : L1.length < 900) (h1 : GOk g (m + 7) W) h2 h3 h4 h5 => child_tr (g := g) (m := m + 7) (tb := tb) (fc := fc) (c0 := c0) (c1 := c1) (rb := rb) (info := info) (fa := fa) (L := L1) (fin := true) (w := W) (d := d1) (lf := lf1) (kids := kids1) (fb := fb1) true h1 (by omega) hL1 h2 h3 h4 h5
 simp only [Bool.false_eq_true, if_false, if_true] at hC0 hC1
 unfold ptr at *
 go_enter Tryz.func275, Tryz.ntmps275
 go_wp2_with fail
 generalize hW : World.alloc (World.alloc (World.alloc w _) _) _ = W at *
 have htW := ht.fr0 hFF
 have bx0 : Bx g W tb _ _ 220 := ⟨a0, ht.fresh hFF (Nat.le_refl _)⟩
 have bx1 : Bx g W tb _ _ 220 := ⟨a1, ht.fresh hFF (by omega)⟩
 have bx2 : Bx g W tb _ _ 220 := ⟨a2, ht.fresh hFF (by omega)⟩
 refine (hC0 W hG2 htW (hr.fr hFF (fun _ _ h => h)) hs0 (hn0.fr0 hFF)).mono ?_
 rintro e w1 ⟨i0, fv0, rfl, fT1, g1, t1⟩
 obtain ⟨fa0, fc0, rfl⟩ := lastSlice t1
 have hT1 := (ht.frT hFF).trans fT1
 have r1 := (hr.fr hFF (fun _ _ h => h)).frT htW fT1
 have n1 := (hn1.fr0 hFF).frT htW fT1
 have bx01 := bx0.fr fT1
 have bx11 := bx1.fr fT1
 have bx21 := bx2.fr fT1
 have LW : w.heap.size + 2 < w1.heap.size := bx21.1.lt
 clear hW hF0 hG0 hF1 hG1 hF2 hG2 a0 a1 a2 bx0 bx1 bx2 hFF htW fT1 hr hn0 hn1 ht
 have q0 := (Bx.new (cs := #[.pointer none, .pointer none, .slice none 0 0]) (T := 220) t1 g1).1.free 0
 have q1 := (Bx.new (cs := #[.pointer none, .pointer none, .slice none 0 0]) (T := 220) t1 g1).1.free 1
 have q2 := (Bx.new (cs := #[.pointer none, .pointer none, .slice none 0 0]) (T := 220) t1 g1).1.free 2
 have bn8 := Bx.new (cs := #[.pointer (some ⟨c0, 0, none⟩), .pointer (some ⟨i0, 0, none⟩), .slice fa0 kids0.length fc0]) (T := 220) t1 g1
 have gn8 := g1.alloc (.cells #[.pointer (some ⟨c0, 0, none⟩), .pointer (some ⟨i0, 0, none⟩), .slice fa0 kids0.length fc0] 220)
 have fn8 := Fr.alloc g No w1 (.cells #[.pointer (some ⟨c0, 0, none⟩), .pointer (some ⟨i0, 0, none⟩), .slice fa0 kids0.length fc0] 220) g1
 have e00 := (fn8.at bx01.1 id).cell 0
 have e01 := (fn8.at bx01.1 id).cell 1
 have e02 := (fn8.at bx01.1 id).cell 2
 unfold ptr
 go_wp2_with fail
 have t1' := t1.fr0 fn8
 have hT1' := hT1.trans (t1.frT fn8)
 have r1' := r1.fr fn8 (fun _ _ h => h)
 have n1' := n1.fr0 fn8
 have b0' : Bx g _ tb _ _ 220 := bx01.fr (t1.frT fn8)
 have b1' : Bx g _ tb _ _ 220 := bx11.fr (t1.frT fn8)
 have b2' : Bx g _ tb _ _ 220 := bx21.fr (t1.frT fn8)
 clear bx01 bx11 bx21 n1 r1 hT1 t1 fn8 q0 q1 q2 e00 e01 e02 g1
 generalize hW : World.alloc w1 _ = W at *
 refine (hC1 W _ (by simp; omega) gn8 t1' r1' hs1 n1').mono ?_
 rintro e w2 ⟨i1, fv1, rfl, fT2, g2, t2⟩
 obtain ⟨fa1, fc1, rfl⟩ := lastSlice t2
 clear hC0 hC1 hW
 have hT2 := hT1'.trans fT2
 have c0' := b0'.fr fT2
 have c1' := b1'.fr fT2
 have c2' := b2'.fr fT2
 have c8' := bn8.fr fT2
 have p0 := (Bx.new (cs := #[.pointer none, .pointer none, .slice none 0 0]) (T := 220) t2 g2).1.free 0
 have p1 := (Bx.new (cs := #[.pointer none, .pointer none, .slice none 0 0]) (T := 220) t2 g2).1.free 1
 have p2 := (Bx.new (cs := #[.pointer none, .pointer none, .slice none 0 0]) (T := 220) t2 g2).1.free 2
 have bn9 := Bx.new (cs := #[.pointer (some ⟨c1, 0, none⟩), .pointer (some ⟨i1, 0, none⟩), .slice fa1 kids1.length fc1]) (T := 220) t2 g2
 have gn9 := g2.alloc (.cells #[.pointer (some ⟨c1, 0, none⟩), .pointer (some ⟨i1, 0, none⟩), .slice fa1 kids1.length fc1] 220)
 have fn9 := Fr.alloc g No w2 (.cells #[.pointer (some ⟨c1, 0, none⟩), .pointer (some ⟨i1, 0, none⟩), .slice fa1 kids1.length fc1] 220) g2
 have LW2 : w1.heap.size < w2.heap.size := c8'.1.lt
 have z0 := bn9.1.cell 0
 have z1 := bn9.1.cell 1
 have z2 := bn9.1.cell 2
 have y0 := (fn9.at c8'.1 id).cell 0
 have y1 := (fn9.at c8'.1 id).cell 1
 have y2 := (fn9.at c8'.1 id).cell 2
 have x0 := (fn9.at c1'.1 id).free 0
 have x1 := (fn9.at c1'.1 id).free 1
 have x2 := (fn9.at c1'.1 id).free 2
 have v0 := (fn9.at c2'.1 id).free 0
 have v1 := (fn9.at c2'.1 id).free 1
 have v2 := (fn9.at c2'.1 id).free 2
 have xc0 := (fn9.at c1'.1 id).cell 0
 have vc0 := (fn9.at c2'.1 id).cell 0
 have xc1 := (fn9.at c1'.1 id).cell 1
 have vc1 := (fn9.at c2'.1 id).cell 1
 have xc2 := (fn9.at c1'.1 id).cell 2
 have vc2 := (fn9.at c2'.1 id).cell 2
 have hi := HI.out
 cases s with
 | false =>
   simp only [Bool.false_eq_true, if_false] at hi
   subst hi
   unfold ptr
   go_wp2_with fail
   go_region
   have t3 := t2.fr0 fn9
   have d1 := c1'.fr (t2.frT fn9)
   have d2 := c2'.fr (t2.frT fn9)
   have hT3 := hT2.trans (t2.frT fn9)
   clear p0 p1 p2
   generalize hA : World.alloc w2 _ = A at *
   generalize hB : World.setCell (World.setCell (World.setCell A _ _) _ _) _ _ = B
   obtain ⟨fB, gB, bB⟩ := Bx.set3 t3 gn9 d1 hB
   have t4 := t3.box fB d1
   have d2' := d2.keep t3 fB d1.ne (by omega)
   have hT4 := hT3.box t3 fB d1.ne (by omega)
   generalize hC : World.setCell (World.setCell (World.setCell B _ _) _ _) _ _ = C
   obtain ⟨fC, gC, bC⟩ := Bx.set3 t4 gB d2' hC
   have t5 := t4.box fC d2'
   have bB' := bB.keep t4 fC d2'.ne (by omega)
   have hT5 := hT4.box t4 fC d2'.ne (by omega)
   have fD := Fr.drew g No C
   clear hA hB hC
   go_wp2
   refine bodyPost_ret (results_cc rfl _ rfl rfl bB'.1.drew.1 bC.1.drew.1 Tryz.underlying220 size220 size220) rfl ?_
   exact ⟨i0, i1, _, _, rfl, hT5.trans (t5.frT fD), gC.drew, t5.fr0 fD⟩
 | true =>
   simp only [if_true] at hi
   subst hi
   unfold ptr
   go_wp2_with fail
   go_region
   have t3 := t2.fr0 fn9
   have d1 := c1'.fr (t2.frT fn9)
   have d2 := c2'.fr (t2.frT fn9)
   have hT3 := hT2.trans (t2.frT fn9)
   clear p0 p1 p2
   generalize hA : World.alloc w2 _ = A at *
   generalize hB : World.setCell (World.setCell (World.setCell A _ _) _ _) _ _ = B
   obtain ⟨fB, gB, bB⟩ := Bx.set3 t3 gn9 d1 hB
   have t4 := t3.box fB d1
   have d2' := d2.keep t3 fB d1.ne (by omega)
   have hT4 := hT3.box t3 fB d1.ne (by omega)
   generalize hC : World.setCell (World.setCell (World.setCell B _ _) _ _) _ _ = C
   obtain ⟨fC, gC, bC⟩ := Bx.set3 t4 gB d2' hC
   have t5 := t4.box fC d2'
   have bB' := bB.keep t4 fC d2'.ne (by omega)
   have hT5 := hT4.box t4 fC d2'.ne (by omega)
   have fD := Fr.drew g No C
   clear hA hB hC
   go_wp2
   refine bodyPost_ret (results_cc rfl _ rfl rfl bB'.1.drew.1 bC.1.drew.1 Tryz.underlying220 size220 size220) rfl ?_
   exact ⟨i0, i1, _, _, rfl, hT5.trans (t5.frT fD), gC.drew, t5.fr0 fD⟩
end Go.Proofs.YtdmobhndbibhoaaGreat
