/- Rows of the call's own, with the frame; LLX. -/
import Derived.Test.YtdmobhndbibhoaaGreatA5
namespace Go.Proofs.YtdmobhndbibhoaaGreat
set_option linter.unusedVariables false
set_option linter.unusedSimpArgs false
open Go.RowKit Larch
set_option maxRecDepth 100000
def Row (g : Gt) (w : World) (e size : Nat) (v : Value) (n : Nat) (xs : List Value) : Prop :=
 xs.length = n * size ∧ (v = .slice none 0 0 ∧ n = 0 ∨
  ∃ b cap cur, v = .slice (some ⟨b, 0, none⟩) n cap ∧ n ≤ cap ∧ cap ≤ maxLen ∧ Cl g w b cur e ∧ cur.size = cap * size ∧ cur.toList.take (n * size) = xs)
section
variable {g : Gt} {w : World} {e size n : Nat} {v : Value} {xs : List Value}
theorem Row.own (h : Row g w e size v n xs) : w.ownsRow 0 e size v n xs := by
 refine ⟨h.1, ?_⟩
 rcases h.2 with h | ⟨b, cap, cur, h1, h2, h3, h4, h5⟩
 ·exact .inl h
 ·exact .inr ⟨b, cap, cur, h1, Nat.zero_le _, h4.1, h2, h3, h5⟩
theorem Row.nil : Row g w e size (.slice none 0 0) 0 [] := ⟨by simp, .inl ⟨rfl, rfl⟩⟩
theorem Row.fr {S : Nat → Prop} {w' : World} (h : Row g w e size v n xs) (hf : Fr g S w w') (hs : ∀ b, v.ownBlock = some b → ¬ S b) : Row g w' e size v n xs := by
 refine ⟨h.1, ?_⟩
 rcases h.2 with h | ⟨b, cap, cur, rfl, h2, h3, h4, h5⟩
 ·exact .inl h
 ·exact .inr ⟨b, cap, cur, rfl, h2, h3, hf.at h4 (hs b rfl), h5⟩
theorem Row.lt {b : Nat} (h : Row g w e size v n xs) (hb : v.ownBlock = some b) : b < w.heap.size := (h.own.lt b hb).2
theorem Row.slice (h : Row g w e size v n xs) : ∃ a c, v = .slice a n c := by
 rcases h.2 with ⟨rfl, rfl⟩ | ⟨b, cap, cur, rfl, _⟩ <;> exact ⟨_, _, rfl⟩
theorem Row.cell {b cap : Nat} (h : Row g w e size (.slice (some ⟨b, 0, none⟩) n cap) n xs) (j : Nat) (hj : j < n * size) : w.cell? ⟨b, j, none⟩ = xs[j]? := h.own.cellAt j hj
theorem Row.free {b cap : Nat} (h : Row g w e size (.slice (some ⟨b, 0, none⟩) n cap) n xs) (j : Nat) : w.frozen? ⟨b, j, none⟩ = false := h.own.frozenAt j
theorem Row.pos (h : Row g w e size v n xs) (hn : 0 < n) : ∃ b cap, v = .slice (some ⟨b, 0, none⟩) n cap := by
 rcases h.2 with ⟨rfl, rfl⟩ | ⟨b, cap, cur, rfl, _⟩
 ·omega
 ·exact ⟨_, _, rfl⟩
end
def Appended (g : Gt) (k e size : Nat) (v : Value) (n : Nat) (xs : List Value) (w : World) (v' : Value) (w' : World) : Prop :=
 Row g w' e size v' n xs ∧ Fr g (fun b => v.ownBlock = some b) w w' ∧ GOk g k w' ∧ ∃ b cap, v' = .slice (some ⟨b, 0, none⟩) n cap ∧ (v.ownBlock = some b ∨ w.heap.size ≤ b)
theorem appended_of {g : Gt} {k e size n m b : Nat} {v v' : Value} {xs ys : List Value} {w w' : World} (he : e ≠ 209 ∧ e ≠ 278) (hg : GOk g k w) (hr : Row g w e size v n xs)
 (h1 : w'.ownsRow 0 e size v' m ys) (h2 : v'.ownBlock = some b) (h4 : w'.os = w.os) (h5 : w'.tape = w.tape) (h6 : w'.output = w.output) (h7 : w.heap.size ≤ w'.heap.size)
 (h8 : b = w.heap.size ∧ (∀ k, k < w.heap.size → w'.heap[k]? = w.heap[k]?) ∨ v.ownBlock = some b ∧ ∀ k, k ≠ b → w'.heap[k]? = w.heap[k]?) : Appended g k e size v m ys w v' w' := by
 have hown : ∀ c, v.ownBlock = some c → ¬ GBlk g w c ∧ ∃ cur, w.heap[c]? = some (.cells cur e (0, 0)) := by
  intro c hc
  rcases hr.2 with ⟨rfl, _⟩ | ⟨b, cap, cur, rfl, _, _, h, _⟩
  ·simp [Value.ownBlock] at hc
  ·simp [Value.ownBlock] at hc; subst hc; exact ⟨h.2, cur, h.1⟩
 have hold : ∀ c, c < w.heap.size → v.ownBlock ≠ some c → w'.heap[c]? = w.heap[c]? := by
  intro c hc hne
  rcases h8 with ⟨_, h⟩ | ⟨h, h'⟩
  ·exact h c hc
  ·exact h' c (by rintro rfl; exact hne h)
 have hgk : ∀ c, GBlk g w c → w'.heap[c]? = w.heap[c]? := fun c hc => hold c (hg.lt hc) (fun e => (hown c e).1 hc)
 have hgb : ∀ c, GBlk g w' c ↔ GBlk g w c := GBlk_same hgk
 refine ⟨⟨h1.1, ?_⟩, ⟨h4, h5, h6, h7, fun c hc _ hs => hold c hc hs, fun c hc => .inl ((hgb c).1 hc), ?_, ?_, fun c hc => hgk c (.inl hc)⟩, hg.same hgk h7, ?_⟩
 ·rcases h1.2 with h | ⟨b', cap, cur, rfl, _, hh, h9, h10, h11⟩
  ·exact .inl h
  ·simp [Value.ownBlock] at h2; subst h2
   refine .inr ⟨b', cap, cur, rfl, h9, h10, ⟨hh, fun hc => ?_⟩, h11⟩
   have := (hgb b').1 hc
   rcases h8 with ⟨h, _⟩ | ⟨h, _⟩
   ·have := hg.lt this; omega
   ·exact (hown b' h).1 this
 ·intro c cs hc hs
  by_cases hv : v.ownBlock = some c
  ·obtain ⟨_, cur, hcur⟩ := hown c hv; rw [hc] at hcur; simp at hcur; exact absurd hcur.2.symm he.1
  ·exact ⟨cs, (hold c (lt_of_heap hc) hv).trans hc, hs, rfl⟩
 ·rintro c ⟨cs, hc, hs⟩
  by_cases hv : v.ownBlock = some c
  ·obtain ⟨_, cur, hcur⟩ := hown c hv; rw [hc] at hcur; simp at hcur; exact absurd hcur.2.symm he.2
  ·exact ⟨cs, (hold c (lt_of_heap hc) hv).trans hc, hs⟩
 ·rcases h1.2 with ⟨rfl, _⟩ | ⟨b', cap, cur, rfl, _⟩
  ·simp [Value.ownBlock] at h2
  ·simp [Value.ownBlock] at h2; subst h2
   exact ⟨b', cap, rfl, h8.elim (fun h => .inr (by omega)) (fun h => .inl h.1)⟩
section
variable {P : Program} {g : Gt} {k : Nat} {w : World}
theorem wpList_append_fr {ops : Array Oper} {rest : List Oper} {o : Oper} {a : Act} {Q : Exit → Act → World → Prop} (hgd : o.guard = none) (s x : Operand) (t : TypeId)
 (ho : o.op = .call { callee := .builtin .append, args := #[s, x], argTypes := #[t, t] })
 (e : TypeId) (z : Value) (size bytes : Nat) (ht : P.underlying t = some (.slice e)) (hi : (P.info? e).map (fun i => (i.zero, i.size, i.bytes)) = some (some z, size, bytes))
 (hzs : z.cells.size = size) (hsz : 0 < size) (he : e ≠ 209 ∧ e ≠ 278)
 (hg : GOk g k w) (v : Value) (n : Nat) (xs : List Value) (hs : a.eval s = v) (hown : Row g w e size v n xs)
 (ad : Addr) (m c : Nat) (news : List Value) (hx : a.eval x = .slice (some ad) m c) (hl : news.length = m * size) (hnews : ∀ j u, news[j]? = some u → w.cell? (ad.add j) = some u) (h1 : ∀ u ∈ news, u.oneCell' = true)
 (h63 : n + m ≤ maxLen) (hbytes : (n + m) * bytes ≤ 140737488355328) (hm : 0 < m)
 (h : ∀ v' w', Appended g k e size v (n + m) (xs ++ news) w v' w' → wpList P ops Q rest (a.put o.dst v') w') : wpList P ops Q (o :: rest) a w := by
 obtain ⟨i, hi, hz0, hz1, hz2⟩ := info_parts hi
 exact wpList_append_raw w hgd s x t ho e i z size bytes ht hi hz0 hz1 hz2 hzs hsz v n xs hs hown.own ad m c news hx hl hnews h1 h63 hbytes hm
  fun v' w' b h2 h3 h4 h5 h6 h7 h8 => h v' w' (appended_of he hg hown h2 h3 h4 h5 h6 h7 h8)
end
def NodeAt (g : Gt) (w : World) (b fb : Nat) (d : It) (lf : Bool) (kids : List Nat) : Prop :=
 ∃ info st, Cl g w b (rc d lf (.slice (some ⟨fb, 0, none⟩) kids.length kids.length) info 0) 209 ∧
   Cl g w fb (kids.map fun c => Value.pointer (some ⟨c, 0, none⟩)).toArray 269 ∧ ScxSt g w info st ∧ (st = 1 ∨ st = 2) ∧ ∀ c ∈ kids, IsRec w c
def ptr (b : Nat) : Value := .pointer (some ⟨b, 0, none⟩)
theorem Tryz.info99 : (Tryz.prog.info? 99).map (fun i => (i.zero, i.size, i.bytes)) = some (some (.pointer none), 1, 8) := by kernel_rfl
def LinkedR (g : Gt) (n b fb : Nat) (d : It) (lf : Bool) (kids : List Nat) (w : World) (e : Ending) (w' : World) : Prop :=
 ∃ info st fv, e = .returned (.tuple #[.agg #[ptr b, ptr info, fv], .int .i64 1]) ∧ Fr g No w w' ∧ GOk g (n + 7) w' ∧
   Cl g w b (rc d lf (.slice (some ⟨fb, 0, none⟩) kids.length kids.length) info 0) 209 ∧ ScxSt g w info st ∧
   Row g w' 99 1 fv kids.length (kids.map ptr) ∧ (∀ c, fv.ownBlock = some c → w.heap.size ≤ c)
theorem equalIn_ptr (d t u : Nat) (p q : Option Addr) (w : World) (ht : Tryz.prog.underlying t = some (.pointer u)) (hz : (Tryz.prog.info? u).map (fun i => decide (i.size = 0)) = some false) :
 (Op.equalIn (d + 1) t (.pointer p) (.pointer q)).run Tryz.prog w = (samePointer p q).run Tryz.prog w := by
 obtain ⟨i, hi, hz0⟩ := Option.map_eq_some_iff.1 hz
 have hz : i.size ≠ 0 := by simpa using hz0
 cases p <;> cases q <;> simp [Op.equalIn, run_underlying ht, sizeOf, typeInfo, hi, hz, Result.andThen, samePointer]
theorem equal_ptr (t u : Nat) (p q : Option Addr) (w : World) (ht : Tryz.prog.underlying t = some (.pointer u)) (hz : (Tryz.prog.info? u).map (fun i => decide (i.size = 0)) = some false) :
 (Op.equal t (.pointer p) (.pointer q)).run Tryz.prog w = (samePointer p q).run Tryz.prog w := equalIn_ptr 9999 t u p q w ht hz
theorem samePointer_self (p : Option Addr) (w : World) : (samePointer p p).run Tryz.prog w = .ok true w := by
 cases p with
 | none => rfl
 | some p => simp [samePointer, sameAddr]
theorem IsRec.frozen {w : World} {b : Nat} (h : IsRec w b) (o : Nat) : w.frozen? ⟨b, o, none⟩ = false := by
 obtain ⟨cs, h, _⟩ := h; exact frozen_of_row w b o cs 209 h
theorem samePointer_rec {a b : Nat} {w : World} (ha : IsRec w a) (hb : IsRec w b) :
 (samePointer (some ⟨a, 0, none⟩) (some ⟨b, 0, none⟩)).run Tryz.prog w = .ok (decide (a = b)) w := by
 by_cases h : a = b
 ·subst h; rw [samePointer_self]; simp
 ·have h' : (a == b) = false := by simpa using h
  simp [samePointer, sameAddr, h', h, ha.frozen 0, noView, viewAt, ha.shape, hb.shape, mayBeOne, stringish, ha.frozen, hb.frozen, Result.andThen]
theorem eql_ptr {t u : Nat} {p q : Option Addr} {w : World} {r : Bool} (ht : Tryz.prog.underlying t = some (.pointer u)) (hz : (Tryz.prog.info? u).map (fun i => decide (i.size = 0)) = some false) (h : (samePointer p q).run Tryz.prog w = .ok r w) :
 (binOp .eql t (.pointer p) (.pointer q)).run Tryz.prog w = .ok (.bool r) w := by
 simp only [binOp]; simp [equal_ptr t u p q w ht hz, h, Result.andThen]
theorem neq_ptr {t u : Nat} {p q : Option Addr} {w : World} {r : Bool} (ht : Tryz.prog.underlying t = some (.pointer u)) (hz : (Tryz.prog.info? u).map (fun i => decide (i.size = 0)) = some false) (h : (samePointer p q).run Tryz.prog w = .ok r w) :
 (binOp .neq t (.pointer p) (.pointer q)).run Tryz.prog w = .ok (.bool (!r)) w := by
 simp only [binOp]; simp [equal_ptr t u p q w ht hz, h, Result.andThen]
theorem same_scx (s : Nat) (w : World) : (binOp .eql 194 (.pointer (some ⟨s, 0, none⟩)) (.pointer (some ⟨s, 0, none⟩))).run Tryz.prog w = .ok (.bool true) w :=
 eql_ptr Tryz.underlying194 z278 (samePointer_self _ w)
theorem results_ct {fn : Func} {p u : Tmp} {ty : TypeId} (h : fn.results = #[.cell p ty, .tmp u]) (tmps : Array Value) {P : Program} {w : World} {b : Nat} {t : TypeId} {cs : Array Value} {fr : Nat × Nat} {fs : Array Field}
 (hp : tmps.getD p undef = .pointer (some ⟨b, 0, none⟩)) (hb : w.heap[b]? = some (.cells cs t fr))
 (hu : P.underlying ty = some (.struct fs)) (hi : (P.info? ty).map (·.size) = some cs.size) :
 (results fn tmps).run P w = .ok (.tuple #[.agg cs, tmps.getD u undef]) w := by
 rw [results_cell_tmp h, hp]
 simp [asAddr, Result.andThen, run_loadVar_row w b t ty cs fr _ hb hu rfl hi]
theorem size220 : (Tryz.prog.info? 220).map (·.size) = some 3 := by kernel_rfl
theorem set3 {g : Gt} {n rb : Nat} {a b c x y z : Value} {T : TypeId} {w W : World} (hg : GOk g n w) (h : Cl g w rb #[a, b, c] T)
 (hW : ((w.setCell ⟨rb, 0, none⟩ x).setCell ⟨rb, 1, none⟩ y).setCell ⟨rb, 2, none⟩ z = W) : Fr g (fun k => k = rb) w W ∧ GOk g n W ∧ Cl g W rb #[x, y, z] T := by
 subst hW
 have h1 := h.setCell 0 x
 have h2 := h1.setCell 1 y
 have h3 := h2.setCell 2 z
 have g1 := hg.setCell h 0 x
 have g2 := g1.setCell h1 1 y
 exact ⟨((Fr.setCell (fun k => k = rb) h 0 x rfl (fun _ => by decide)).tr (Fr.setCell _ h1 1 y rfl (fun _ => by decide))).tr (Fr.setCell _ h2 2 z rfl (fun _ => by decide)), g2.setCell h2 2 z, h3⟩
set_option maxHeartbeats 1000000 in
theorem LLX_leaf {g : Gt} {n b fb : Nat} {d : It} {w : World} (hg : GOk g n w) (hn : n + 7 < LIM) (hnd : NodeAt g w b fb d true []) :
 Calls Tryz.prog 186 #[gval g, ptr b] w (LinkedR g n b fb d true [] w) := by
 obtain ⟨info, st, hb, hfb, hsc, hst, _⟩ := hnd
 unfold ptr
 go_enter Tryz.func186, Tryz.ntmps186
 go_wp2_with fail
 generalize hW : World.alloc _ _ = W
 have hF0 := Fr.alloc g No w (.cells #[.pointer none, .pointer none, .slice none 0 0] 220) hg
 have hG0 := hg.alloc (.cells #[.pointer none, .pointer none, .slice none 0 0] 220)
 have hR0 := At.new hg (.cells #[.pointer none, .pointer none, .slice none 0 0] 220)
 have hz : w.heap.size < W.heap.size := by rw [← hW]; simp
 rw [hW] at hF0 hG0 hR0
 have hb0 := hF0.at hb id
 have hsc0 := hsc.fr hF0 id
 clear hW
 generalize hrb : w.heap.size = rb at *
 refine (Rec_Marked hG0 (by omega) hb0).mono ?_
 rintro e w1 ⟨rfl, hf, hG1⟩
 have hF1 := hF0.tr hf
 have hb1 := hf.at hb0 id
 have hsc1 := hsc0.fr hf id
 have hR1 := hf.at hR0 id
 clear hf hG0 hF0 hb0 hsc0 hR0
 go_wp2_with fail
 refine (Rec_Info hG1 (by omega) hb1 hsc1.is).mono ?_
 rintro e w2 ⟨rfl, hf, hG2⟩
 have hF2 := hF1.tr hf
 have hb2 := hf.at hb1 id
 have hsc2 := hsc1.fr hf id
 have hR2 := hf.at hR1 id
 clear hf hG1 hF1 hb1 hsc1 hR1
 go_wp2_with fail
 obtain ⟨sc, hs2, hs9, hs7⟩ := hsc2
 refine (Scx_State hG2 (by omega) hs2 hs7).mono ?_
 rintro e w3 ⟨rfl, hf, hG3⟩
 have hF3 := hF2.tr hf
 have hb3 := hf.at hb2 id
 have hsc3 : ScxSt g w3 info st := ⟨sc, hf.at hs2 id, hs9, hs7⟩
 have hR3 := hf.at hR2 id
 clear hf hG2 hF2 hb2 hs2 hs9 hs7 hR2
 go_wp2_with fail
 refine (Rec_Marked hG3 (by omega) hb3).mono ?_
 rintro e w4 ⟨rfl, hf, hG4⟩
 have hF4 := hF3.tr hf
 have hb4 := hf.at hb3 id
 have hsc4 := hsc3.fr hf id
 have hR4 := hf.at hR3 id
 clear hf hG3 hF3 hb3 hsc3 hR3
 have hsame := same_scx info
 rcases hst with rfl | rfl
 all_goals
  go_wp2_with fail
  refine (Rec_Len hb4).mono ?_
  rintro e w5 ⟨rfl, rfl⟩
  go_wp2_with fail
  refine wp_loop_rounds 1 ?_
  rw [rounds_succ]
  go_wp2_with fail
  refine (Rec_Info hG4 (by omega) hb4 hsc4.is).mono ?_
  rintro e w6 ⟨rfl, hf, hG6⟩
  have hF6 := hF4.tr hf
  have hR6 := hf.at hR4 id
  clear hf
  have hc0 := hR6.cell 0
  have hc1 := hR6.cell 1
  have hc2 := hR6.cell 2
  have hz0 := hR6.free 0
  have hz1 := hR6.free 1
  have hz2 := hR6.free 2
  go_wp2_with fail
  generalize hW : World.setCell _ _ _ = W7
  obtain ⟨hf, hG7, hR7⟩ := set3 hG6 hR6 hW
  have hF7 := hF6.trans hf (T := No) (fun _ _ h => h) (fun b hb h => by omega)
  clear hW hf hF6
  refine bodyPost_ret (results_ct rfl _ rfl hR7.1 Tryz.underlying220 size220) rfl ?_
  exact ⟨info, _, .slice none 0 0, rfl, hF7, hG7.mono (by omega), hb, hsc, Row.nil, fun c hc => by simp [Value.ownBlock] at hc⟩
theorem app1 {g : Gt} {k e : Nat} {x : Value} {w w' : World} {v : Value} {o : Obj} (hg : GOk g k w) (h : Appended g k e 1 (.slice none 0 0) (0 + 1) ([] ++ [x]) (w.alloc o) v w') :
 Fr g No w w' ∧ GOk g k w' ∧ ∃ b cap, v = .slice (some ⟨b, 0, none⟩) 1 cap ∧ Row g w' e 1 (.slice (some ⟨b, 0, none⟩) 1 cap) 1 [x] ∧ w.heap.size ≤ b := by
 obtain ⟨hr, hf, hG, b, cap, rfl, hb⟩ := h
 have h0 := Fr.alloc g No w o hg
 refine ⟨h0.trans hf (fun _ _ h => h) (fun b _ h => by simp [Value.ownBlock] at h), hG, b, cap, rfl, hr, ?_⟩
 rcases hb with h | h
 ·simp [Value.ownBlock] at h
 ·simp at h; omega
theorem app_own {g : Gt} {k e n bb cap B : Nat} {x : Value} {xs : List Value} {w w' : World} {v : Value} {o : Obj} (hg : GOk g k w)
 (h : Appended g k e 1 (.slice (some ⟨bb, 0, none⟩) n cap) (n + 1) (xs ++ [x]) (w.alloc o) v w') (hB : B ≤ bb) (hB' : B ≤ w.heap.size) :
 Fr g (fun c => c = bb) w w' ∧ GOk g k w' ∧ ∃ b cap', v = .slice (some ⟨b, 0, none⟩) (n + 1) cap' ∧ Row g w' e 1 (.slice (some ⟨b, 0, none⟩) (n + 1) cap') (n + 1) (xs ++ [x]) ∧ B ≤ b := by
 obtain ⟨hr, hf, hG, b, cap', rfl, hb⟩ := h
 have h0 := Fr.alloc g (fun c => c = bb) w o hg
 refine ⟨h0.trans hf (fun _ _ h => h) (fun b _ h => by simpa [Value.ownBlock] using h.symm), hG, b, cap', rfl, hr, ?_⟩
 rcases hb with h | h
 ·simp [Value.ownBlock] at h; omega
 ·simp at h; omega
set_option maxHeartbeats 2000000 in
theorem LLX_inner {g : Gt} {n b fb c0 c1 : Nat} {d : It} {w : World} (hg : GOk g n w) (hn : n + 7 < LIM) (hnd : NodeAt g w b fb d false [c0, c1]) :
 Calls Tryz.prog 186 #[gval g, ptr b] w (LinkedR g n b fb d false [c0, c1] w) := by
 obtain ⟨info, st, hb, hfb, hsc, hst, hk⟩ := hnd
 have hb : Cl g w b (rc d false (.slice (some ⟨fb, 0, none⟩) 2 2) info 0) 209 := hb
 have hfb : Cl g w fb #[.pointer (some ⟨c0, 0, none⟩), .pointer (some ⟨c1, 0, none⟩)] 269 := hfb
 have hk0 := hk c0 (by simp)
 have hk1 := hk c1 (by simp)
 clear hk
 unfold ptr
 go_enter Tryz.func186, Tryz.ntmps186
 go_wp2_with fail
 generalize hW : World.alloc _ _ = W
 have hF0 := Fr.alloc g No w (.cells #[.pointer none, .pointer none, .slice none 0 0] 220) hg
 have hG0 := hg.alloc (.cells #[.pointer none, .pointer none, .slice none 0 0] 220)
 have hR0 := At.new hg (.cells #[.pointer none, .pointer none, .slice none 0 0] 220)
 have hz : w.heap.size < W.heap.size := by rw [← hW]; simp
 rw [hW] at hF0 hG0 hR0
 have hb0 := hF0.at hb id
 have hsc0 := hsc.fr hF0 id
 clear hW
 generalize hrb : w.heap.size = rb at *
 refine (Rec_Marked hG0 (by omega) hb0).mono ?_
 rintro e w1 ⟨rfl, hf, hG1⟩
 have hF1 := hF0.tr hf
 have hb1 := hf.at hb0 id
 have hsc1 := hsc0.fr hf id
 have hR1 := hf.at hR0 id
 clear hf hG0 hF0 hb0 hsc0 hR0
 go_wp2_with fail
 refine (Rec_Info hG1 (by omega) hb1 hsc1.is).mono ?_
 rintro e w2 ⟨rfl, hf, hG2⟩
 have hF2 := hF1.tr hf
 have hb2 := hf.at hb1 id
 have hsc2 := hsc1.fr hf id
 have hR2 := hf.at hR1 id
 clear hf hG1 hF1 hb1 hsc1 hR1
 go_wp2_with fail
 obtain ⟨sc, hs2, hs9, hs7⟩ := hsc2
 refine (Scx_State hG2 (by omega) hs2 hs7).mono ?_
 rintro e w3 ⟨rfl, hf, hG3⟩
 have hF3 := hF2.tr hf
 have hb3 := hf.at hb2 id
 have hsc3 : ScxSt g w3 info st := ⟨sc, hf.at hs2 id, hs9, hs7⟩
 have hR3 := hf.at hR2 id
 clear hf hG2 hF2 hb2 hs2 hs9 hs7 hR2
 go_wp2_with fail
 refine (Rec_Marked hG3 (by omega) hb3).mono ?_
 rintro e w4 ⟨rfl, hf, hG4⟩
 have hF4 := hF3.tr hf
 have hb4 := hf.at hb3 id
 have hsc4 := hsc3.fr hf id
 have hR4 := hf.at hR3 id
 clear hf hG3 hF3 hb3 hsc3 hR3
 have hsame := same_scx info
 have hF4b := hF4.at hfb id
 rcases hst with rfl | rfl
 all_goals
  go_wp2_with fail
  refine (Rec_Len hb4).mono ?_
  rintro e w5 ⟨rfl, rfl⟩
  go_wp2_with fail
  refine wp_loop_rounds 3 ?_
  rw [rounds_succ]
  go_wp2_with fail
  refine (Rec_Get (i := 0) hG4 (by omega) hb4 hF4b (by omega) rfl (.inr ⟨c0, rfl, hF4.isRec c0 hk0⟩)).mono ?_
  rintro e w5 ⟨rfl, hf, hG5⟩
  have hF5 := hF4.tr hf
  have hb5 := hf.at hb4 id
  have hsc5 := hsc4.fr hf id
  have hR5 := hf.at hR4 id
  have hfb5 := hf.at hF4b id
  clear hf hG4 hF4 hb4 hsc4 hR4 hF4b
  go_wp2_with (at_builtin; refine wpList_append_fr rfl _ _ 192 rfl 99 (.pointer none) 1 8 Tryz.underlying192 Tryz.info99 rfl (by decide) (by decide) (hG5.alloc _) (.slice none 0 0) 0 [] rfl Row.nil ⟨w5.heap.size, 0, none⟩ 1 1 [.pointer (some ⟨c0, 0, none⟩)] rfl rfl (cell_one_new _ _ _) (by simp [Value.oneCell']) (by decide) (by decide) (by decide) ?_; intro v1 w6 happ; have hA6 := app1 hG5 happ; clear happ; obtain ⟨hf, hG6, bb, cap, rfl, hrow, hbb⟩ := hA6; have hF6 := hF5.tr hf; have hb6 := hf.at hb5 id; have hsc6 := hsc5.fr hf id; have hR6 := hf.at hR5 id; have hfb6 := hf.at hfb5 id; have hrbb := hR5.lt; clear hf hG5 hb5 hsc5 hR5 hfb5)
  rw [rounds_succ]
  go_wp2_with fail
  refine (Rec_Get (i := 1) hG6 (by omega) hb6 hfb6 (by omega) rfl (.inr ⟨c1, rfl, hF6.isRec c1 hk1⟩)).mono ?_
  rintro e w7 ⟨rfl, hf, hG7⟩
  have hF7 := hF6.tr hf
  have hb7 := hf.at hb6 id
  have hsc7 := hsc6.fr hf id
  have hR7 := hf.at hR6 id
  have hrow7 := hrow.fr hf (fun _ _ h => h)
  have hbb7 := hF5.size
  clear hf hG6 hF6 hb6 hsc6 hR6 hfb6 hrow
  go_wp2_with (at_builtin; refine wpList_append_fr rfl _ _ 192 rfl 99 (.pointer none) 1 8 Tryz.underlying192 Tryz.info99 rfl (by decide) (by decide) (hG7.alloc _) (.slice (some ⟨bb, 0, none⟩) 1 cap) 1 [.pointer (some ⟨c0, 0, none⟩)] rfl (hrow7.fr (Fr.alloc g No w7 _ hG7) (fun _ _ h => h)) ⟨w7.heap.size, 0, none⟩ 1 1 [.pointer (some ⟨c1, 0, none⟩)] rfl rfl (cell_one_new _ _ _) (by simp [Value.oneCell']) (by decide) (by decide) (by decide) ?_; intro v1 w8 happ; have hA8 := app_own (B := rb) hG7 happ (by omega) (by have := hF7.size; omega); clear happ; obtain ⟨hf, hG8, b2, cap2, rfl, hrow8, hb2⟩ := hA8; have hF8 := hF7.trans hf (T := No) (fun _ _ h => h) (fun c hc h => by omega); have hb8 := hf.at hb7 (by have := hb.lt; omega); have hsc8 := hsc7.fr hf (by have := hsc.is.lt; omega); have hR8 := hf.at hR7 (by omega); clear hf hG7 hF7 hb7 hsc7 hR7 hrow7)
  rw [rounds_succ]
  go_wp2_with fail
  refine (Rec_Info hG8 (by omega) hb8 hsc8.is).mono ?_
  rintro e w9 ⟨rfl, hf, hG9⟩
  have hF9 := hF8.tr hf
  have hR9 := hf.at hR8 id
  have hrow9 := hrow8.fr hf (fun _ _ h => h)
  have hne : rb ≠ b2 := by rintro rfl; obtain ⟨_, h⟩ := hrow8; rcases h with ⟨h, _⟩ | ⟨_, _, _, h, _, _, hc, _⟩; cases h; injection h with h; injection h with h; injection h with h; subst h; have := hR8.1.symm.trans hc.1; simp at this
  clear hf hG8 hF8 hb8 hsc8 hR8 hrow8
  have hc0 := hR9.cell 0
  have hc1 := hR9.cell 1
  have hc2 := hR9.cell 2
  have hz0 := hR9.free 0
  have hz1 := hR9.free 1
  have hz2 := hR9.free 2
  go_wp2_with fail
  generalize hW : World.setCell _ _ _ = W10
  obtain ⟨hf, hG10, hR10⟩ := set3 hG9 hR9 hW
  have hF10 := hF9.trans hf (T := No) (fun _ _ h => h) (fun b hb h => by omega)
  have hrow10 := hrow9.fr hf (fun c hc h => by simp [Value.ownBlock] at hc; omega)
  clear hW hf hF9
  refine bodyPost_ret (results_ct rfl _ rfl hR10.1 Tryz.underlying220 size220) rfl ?_
  exact ⟨info, _, .slice (some ⟨b2, 0, none⟩) 2 cap2, rfl, hF10, hG10.mono (by omega), hb, hsc, hrow10, fun c hc => by simp [Value.ownBlock] at hc; omega⟩
end Go.Proofs.YtdmobhndbibhoaaGreat
