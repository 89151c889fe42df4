/- package chroma's try: what has been linked for an SCX. -/
import Derived.Test.YtdmobhndbibhoaaGreatAX
import Derived.Deep.DrawnRows
import Derived.Maps.RangeWalk
import Derived.Deep.AppendLies
namespace Go.Proofs.YtdmobhndbibhoaaGreat
set_option linter.unusedVariables false
set_option linter.unusedSimpArgs false
open Go.RowKit Larch
set_option maxRecDepth 100000
attribute [local go_sem ↓] Go.wp_at_zero Go.wp_at_succ
def TBlk (w : World) (tb c : Nat) : Prop :=
 c = tb ∨ ∃ x v f y, w.heap[tb]? = some (.cells #[x, v, f, y] 218 (0, 0)) ∧ (v.ownBlock = some c ∨ f.ownBlock = some c)
structure FrT (g : Gt) (tb : Nat) (w w' : World) : Prop where
 fr : Fr g (TBlk w tb) w w'
 own : ∀ c, TBlk w' tb c → TBlk w tb c ∨ w.heap.size ≤ c
theorem FrT.trans {g : Gt} {tb : Nat} {w w' w'' : World} (h : FrT g tb w w') (k : FrT g tb w' w'') : FrT g tb w w'' :=
 ⟨h.fr.trans k.fr (fun _ _ h => h) (fun c hc h' => (h.own c h').elim id (fun h'' => by omega)),
  fun c hc => (k.own c hc).elim (fun h' => h.own c h') (fun h' => .inr (Nat.le_trans h.fr.size h'))⟩
def VOk (g : Gt) (w : World) (r : VRec) : Prop :=
 Cl g w r.b (rc r.d r.lf r.fs r.info 0) 209 ∧ (∃ st, ScxSt g w r.info st ∧ (st = 1 ∨ st = 2)) ∧ Cl g w r.fb (r.kids.map ptr).toArray 269 ∧ (∀ c ∈ r.kids, IsRec w c) ∧
  Row g w 99 1 r.fv r.kids.length (r.kids.map ptr)
def TrySt (g : Gt) (w : World) (tb : Nat) (L : List VRec) : Prop :=
 ∃ v f, Cl g w tb #[gval g, v, f, .bool true] 218 ∧ Row g w 220 3 v L.length (vL L) ∧ Row g w 4 1 f L.length (vF L) ∧ ∀ r ∈ L, VOk g w r
theorem TBlk.same {w w' : World} {tb : Nat} (h : w'.heap[tb]? = w.heap[tb]?) (c : Nat) : TBlk w' tb c ↔ TBlk w tb c := by
 simp only [TBlk, h]
theorem TrySt.out {g : Gt} {w : World} {tb c : Nat} {L : List VRec} {cs : Array Value} {T : TypeId} (h : TrySt g w tb L) (hc : Cl g w c cs T) (hT : T ≠ 218 ∧ T ≠ 220 ∧ T ≠ 4) : ¬ TBlk w tb c := by
 obtain ⟨v, f, ht, hv, hf, _⟩ := h
 rintro (rfl | ⟨x, v', f', y, hh, hc'⟩)
 ·exact ht.ne hc hT.1.symm rfl
 ·rw [ht.1] at hh
  simp at hh
  obtain ⟨_, rfl, rfl, _⟩ := hh
  rcases hc' with hc' | hc'
  ·rcases hv.2 with ⟨rfl, _⟩ | ⟨b, cap, cur, rfl, _, _, hb, _⟩
   ·simp [Value.ownBlock] at hc'
   ·simp [Value.ownBlock] at hc'; subst hc'; exact hb.ne hc hT.2.1.symm rfl
  ·rcases hf.2 with ⟨rfl, _⟩ | ⟨b, cap, cur, rfl, _, _, hb, _⟩
   ·simp [Value.ownBlock] at hc'
   ·simp [Value.ownBlock] at hc'; subst hc'; exact hb.ne hc hT.2.2.symm rfl
theorem VOk.fr {g : Gt} {S : Nat → Prop} {w w' : World} {r : VRec} (h : VOk g w r) (hf : Fr g S w w') (hs : ∀ c cs T, Cl g w c cs T → T = 209 ∨ T = 278 ∨ T = 269 ∨ T = 99 → ¬ S c) : VOk g w' r := by
 obtain ⟨h1, ⟨st, ⟨sc, h2, h2'⟩, h3⟩, h4, h5, h6⟩ := h
 refine ⟨hf.at h1 (hs _ _ _ h1 (by simp)), ⟨st, ⟨sc, hf.at h2 (hs _ _ _ h2 (by simp)), h2'⟩, h3⟩, hf.at h4 (hs _ _ _ h4 (by simp)), fun c hc => hf.isRec c (h5 c hc), h6.fr hf ?_⟩
 intro c hc
 rcases h6.2 with ⟨h, _⟩ | ⟨b, cap, cur, h, _, _, hb, _⟩
 ·rw [h] at hc; simp [Value.ownBlock] at hc
 ·rw [h] at hc; simp [Value.ownBlock] at hc; subst hc; exact hs _ _ _ hb (by simp)
theorem TrySt.fr {g : Gt} {S : Nat → Prop} {w w' : World} {tb : Nat} {L : List VRec} (h : TrySt g w tb L) (hf : Fr g S w w') (hs : ∀ c, TBlk w tb c → ¬ S c)
 (hs' : ∀ c cs T, Cl g w c cs T → T = 209 ∨ T = 278 ∨ T = 269 ∨ T = 99 → ¬ S c) : TrySt g w' tb L := by
 obtain ⟨v, f, ht, hv, hf', hr⟩ := h
 exact ⟨v, f, hf.at ht (hs _ (.inl rfl)), hv.fr hf (fun c hc => hs c (.inr ⟨_, _, _, _, ht.1, .inl hc⟩)), hf'.fr hf (fun c hc => hs c (.inr ⟨_, _, _, _, ht.1, .inr hc⟩)), fun r hr' => (hr r hr').fr hf hs'⟩
theorem TrySt.fr0 {g : Gt} {w w' : World} {tb : Nat} {L : List VRec} (h : TrySt g w tb L) (hf : Fr g No w w') : TrySt g w' tb L := h.fr hf (fun _ _ h => h) (fun _ _ _ _ _ h => h)
theorem FrT.of {g : Gt} {w w' : World} {tb : Nat} {o : Obj} (ht : At g w tb o) (hf : Fr g No w w') : FrT g tb w w' :=
 ⟨hf.mono (fun _ _ h => h.elim), fun c hc => .inl ((TBlk.same (hf.keep tb ht.lt ht.2 id) c).1 hc)⟩
theorem TrySt.at {g : Gt} {w : World} {tb : Nat} {L : List VRec} (h : TrySt g w tb L) : ∃ cs, Cl g w tb cs 218 := by
 obtain ⟨v, f, ht, _⟩ := h; exact ⟨_, ht⟩
theorem TrySt.frT {g : Gt} {w w' : World} {tb : Nat} {L : List VRec} (h : TrySt g w tb L) (hf : Fr g No w w') : FrT g tb w w' := by
 obtain ⟨cs, h⟩ := h.at; exact FrT.of h hf
def Bx (g : Gt) (w : World) (tb c : Nat) (cs : Array Value) (T : TypeId) : Prop := Cl g w c cs T ∧ ¬ TBlk w tb c
theorem Bx.fr {g : Gt} {w w' : World} {tb c : Nat} {cs : Array Value} {T : TypeId} (h : Bx g w tb c cs T) (hf : FrT g tb w w') : Bx g w' tb c cs T :=
 ⟨hf.fr.at h.1 h.2, fun hc => (hf.own c hc).elim h.2 (fun h' => by have := h.1.lt; omega)⟩
theorem TBlk.lt {g : Gt} {w : World} {tb c : Nat} {L : List VRec} (h : TrySt g w tb L) (hc : TBlk w tb c) : c < w.heap.size := by
 obtain ⟨v, f, ht, hv, hf, _⟩ := h
 rcases hc with rfl | ⟨x, v', f', y, hh, hc'⟩
 ·exact ht.lt
 ·rw [ht.1] at hh; simp at hh; obtain ⟨_, rfl, rfl, _⟩ := hh
  rcases hc' with hc' | hc'
  ·exact hv.lt hc'
  ·exact hf.lt hc'
def LinkR (g : Gt) (m tb : Nat) (L : List VRec) (b fb : Nat) (d : It) (lf : Bool) (kids : List Nat) (fin : Bool) (w : World) (e : Ending) (w' : World) : Prop :=
 ∃ info fv, e = .returned (.agg #[ptr b, ptr info, fv]) ∧ FrT g tb w w' ∧ GOk g (m + 7) w' ∧ TrySt g w' tb (L ++ [⟨b, fb, d, lf, kids, info, fin, fv⟩])
section
variable {P : Program} {g : Gt} {k : Nat} {w : World}
theorem step_append_fr {ops : Array Oper} {o : Oper} {a : Act} {K : Act → World → Prop} {Q : Exit → Act → World → Prop} {E : Prop} (hgd : o.guard = none) (s x : Operand) (t : TypeId)
 (ho : o.op = .call { callee := .builtin .append, args := #[s, x], argTypes := #[t, t] })
 (e : TypeId) (z : Value) (size bytes : Nat) (ht : P.underlying t = some (.slice e)) (hi : (P.info? e).map (fun i => (i.zero, i.size, i.bytes)) = some (some z, size, bytes))
 (hzs : z.cells.size = size) (hsz : 0 < size) (he : e ≠ 209 ∧ e ≠ 278)
 (v : Value) (n : Nat) (xs : List Value) (hs : a.eval s = v) (hg : GOk g k w) (hown : Row g w e size v n xs)
 (ad : Addr) (m c : Nat) (news : List Value) (hx : a.eval x = .slice (some ad) m c) (hl : news.length = m * size) (hnews : ∀ j u, news[j]? = some u → w.cell? (ad.add j) = some u) (h1 : ∀ u ∈ news, u.oneCell' = true)
 (h63 : n + m ≤ maxLen) (hbytes : (n + m) * bytes ≤ 140737488355328) (hm : 0 < m)
 (h : ∀ v' w', Appended g k e size v (n + m) (xs ++ news) w v' w' → K (a.put o.dst v') w') : if Region.wanted o (yielded ops a.tmps) = true then Oper.wp P o a w K Q else E := by
 have hw : Region.wanted o (yielded ops a.tmps) = true := by simp [Region.wanted, hgd]
 rw [if_pos hw]
 obtain ⟨i, hi, hz0, hz1, hz2⟩ := info_parts hi
 obtain ⟨v', w', b, hr, h2, h3, h4, h5, h6, h7, h8⟩ := append_raw (P := P) w t o.type e i z size bytes ht hi hz0 hz1 hz2 hzs hsz v n xs hown.own ad m c news hl hnews h1 h63 hbytes hm
 unfold Oper.wp execOp
 simp only [ho, resolve, invoke, builtin, Sem.run_bind, Sem.run_pure, Result.andThen_ok, List.map_toArray, List.map_cons, List.map_nil, hs, hx, hr]
 exact h v' w' (appended_of he hg hown h2 h3 h4 h5 h6 h7 h8)
end
theorem Tryz.info220 : (Tryz.prog.info? 220).map (fun i => (i.zero, i.size, i.bytes)) = some (some (.agg #[.pointer none, .pointer none, .slice none 0 0]), 3, 40) := by kernel_rfl
def Shape (lf : Bool) (kids : List Nat) : Prop := lf = true ∧ kids = [] ∨ lf = false ∧ ∃ c0 c1, kids = [c0, c1]
theorem LLX_any {g : Gt} {n b fb : Nat} {d : It} {lf : Bool} {kids : List Nat} {w : World} (hg : GOk g n w) (hn : n + 7 < LIM) (hsh : Shape lf kids) (hnd : NodeAt g w b fb d lf kids) :
 Calls Tryz.prog 186 #[gval g, ptr b] w (LinkedR g n b fb d lf kids w) := by
 rcases hsh with ⟨rfl, rfl⟩ | ⟨rfl, c0, c1, rfl⟩
 ·exact LLX_leaf hg hn hnd
 ·exact LLX_inner hg hn hnd
theorem NodeAt.fr {g : Gt} {S : Nat → Prop} {w w' : World} {b fb : Nat} {d : It} {lf : Bool} {kids : List Nat} (h : NodeAt g w b fb d lf kids) (hf : Fr g S w w') (hs : ∀ c cs T, Cl g w c cs T → T = 209 ∨ T = 278 ∨ T = 269 → ¬ S c) :
 NodeAt g w' b fb d lf kids := by
 obtain ⟨info, st, h1, h2, ⟨sc, h3, h3'⟩, h4, h5⟩ := h
 exact ⟨info, st, hf.at h1 (hs _ _ _ h1 (by simp)), hf.at h2 (hs _ _ _ h2 (by simp)), ⟨sc, hf.at h3 (hs _ _ _ h3 (by simp)), h3'⟩, h4, fun c hc => hf.isRec c (h5 c hc)⟩
theorem NodeAt.fr0 {g : Gt} {w w' : World} {b fb : Nat} {d : It} {lf : Bool} {kids : List Nat} (h : NodeAt g w b fb d lf kids) (hf : Fr g No w w') : NodeAt g w' b fb d lf kids := h.fr hf (fun _ _ _ _ _ h => h)
theorem VOk.of_llx {g : Gt} {w w1 : World} {b fb info st : Nat} {st' : Int} {d : It} {lf fin : Bool} {kids : List Nat} {fv : Value} (_h : st = st) (hnd : NodeAt g w b fb d lf kids) (hf : Fr g No w w1)
 (h1 : Cl g w b (rc d lf (.slice (some ⟨fb, 0, none⟩) kids.length kids.length) info 0) 209) (_hsc : ScxSt g w info st') (hr : Row g w1 99 1 fv kids.length (kids.map ptr)) :
 VOk g w1 ⟨b, fb, d, lf, kids, info, fin, fv⟩ := by
 obtain ⟨info', st2, k1, k2, k3, k4, k5⟩ := hnd
 have e := h1.1.symm.trans k1.1
 have : info = info' := by simpa [rc] using e
 subst this
 exact ⟨hf.at h1 id, ⟨st2, k3.fr hf id, k4⟩, hf.at k2 id, fun c hc => hf.isRec c (k5 c hc), hr⟩
theorem app_of {g : Gt} {k e n size : Nat} {xs : List Value} {w w2 w' : World} {v v' : Value} (h : Appended g k e size v n xs w2 v' w') (h2 : Fr g No w w2) :
 Fr g (fun c => v.ownBlock = some c) w w' ∧ GOk g k w' ∧ Row g w' e size v' n xs ∧ (∃ b cap, v' = .slice (some ⟨b, 0, none⟩) n cap) ∧ (∀ b, v'.ownBlock = some b → v.ownBlock = some b ∨ w.heap.size ≤ b) := by
 obtain ⟨hr, hf, hG, b, cap', rfl, hb⟩ := h
 have hs := h2.size
 refine ⟨h2.trans hf (fun _ _ h => h.elim) (fun b _ h => h), hG, hr, ⟨b, cap', rfl⟩, fun c hc => ?_⟩
 simp [Value.ownBlock] at hc; subst hc
 exact hb.imp id (fun h => Nat.le_trans hs h)
theorem fr_d1 {g : Gt} {k : Nat} {w : World} (hg : GOk g k w) (o : Obj) : Fr g No w (w.alloc o).drew := (Fr.alloc g No w o hg).tr (Fr.drew _ _ _)
theorem fr_d2 {g : Gt} {k : Nat} {w : World} (hg : GOk g k w) (o o' : Obj) : Fr g No w ((w.alloc o).alloc o').drew := ((Fr.alloc g No w o hg).tr (Fr.alloc g No _ o' (hg.alloc o))).tr (Fr.drew _ _ _)
theorem news1 {w : World} {b : Nat} {cs : List Value} {T : TypeId} (h : w.heap[b]? = some (.cells cs.toArray T (0, 0))) : ∀ j u, cs[j]? = some u → w.cell? ((⟨b, 0, none⟩ : Addr).add j) = some u :=
 fun j u hu => World.news_of_block h j u (by simpa using hu)
theorem at_d2 {g : Gt} {k : Nat} {w : World} (hg : GOk g k w) (o o' : Obj) : At g ((w.alloc o).alloc o').drew w.heap.size o ∧ At g ((w.alloc o).alloc o').drew (w.heap.size + 1) o' := by
 have h := At.new (hg.alloc o) o'
 simp only [World.size_alloc] at h
 exact ⟨(At.alloc (hg.alloc o) (At.new hg o) o').drew, h.drew⟩
theorem Row.notin {g : Gt} {w : World} {e size n c : Nat} {v : Value} {xs : List Value} {cs : Array Value} {T : TypeId} (h : Row g w e size v n xs) (hc : Cl g w c cs T) (hne : e ≠ T) : v.ownBlock ≠ some c := by
 intro hc'
 rcases h.2 with ⟨rfl, _⟩ | ⟨b, cap, cur, rfl, _, _, hb, _⟩
 ·simp [Value.ownBlock] at hc'
 ·simp [Value.ownBlock] at hc'; subst hc'; exact hb.ne hc hne rfl
theorem keepS {g : Gt} {w : World} {tb lb b info l fc : Nat} {x v f y : Value} {fa : Option Addr} (h : Cl g w tb #[x, v, f, y] 218) (k : Cl g w lb #[.pointer (some ⟨b, 0, none⟩), .pointer (some ⟨info, 0, none⟩), .slice fa l fc] 220) :
 w.cell? ⟨tb, 1, none⟩ = some v ∧ w.cell? ⟨tb, 2, none⟩ = some f ∧ w.cell? ⟨lb, 0, none⟩ = some (.pointer (some ⟨b, 0, none⟩)) ∧ w.cell? ⟨lb, 1, none⟩ = some (.pointer (some ⟨info, 0, none⟩)) ∧ w.cell? ⟨lb, 2, none⟩ = some (.slice fa l fc) :=
 ⟨h.cell 1, h.cell 2, k.cell 0, k.cell 1, k.cell 2⟩
theorem link_end {g : Gt} {m tb rb lb b fb info b3 cap3 b4 cap4 fl fc : Nat} {d : It} {lf fin : Bool} {kids : List Nat} {fa : Option Addr} {L : List VRec} {v f : Value} {w w1 W2 w3 w4 W5 : World}
 (htl : tb < rb) (hrb : w.heap.size = rb) (hlb : w1.heap.size = lb) (hz2 : lb < W2.heap.size) (HT : TrySt g w tb L) (HF : Fr g No w w1) (HF2 : Fr g No w1 W2)
 (hV : VOk g w1 ⟨b, fb, d, lf, kids, info, fin, .slice fa fl fc⟩) (hr1 : ∀ r ∈ L, VOk g w1 r) (hR1 : Cl g w1 rb #[.pointer none, .pointer none, .slice none 0 0] 220) (_htbl : tb < lb)
 (HA : Fr g (fun c => v.ownBlock = some c) W2 w3 ∧ GOk g (m + 7) w3 ∧ Row g w3 220 3 (.slice (some ⟨b3, 0, none⟩) (L.length + 1) cap3) (L.length + 1) (vL L ++ [.pointer (some ⟨b, 0, none⟩), .pointer (some ⟨info, 0, none⟩), .slice fa fl fc]) ∧
   (∃ b cap, Value.slice (some ⟨b3, 0, none⟩) (L.length + 1) cap3 = .slice (some ⟨b, 0, none⟩) (L.length + 1) cap) ∧ (∀ b, (Value.slice (some ⟨b3, 0, none⟩) (L.length + 1) cap3).ownBlock = some b → v.ownBlock = some b ∨ W2.heap.size ≤ b))
 (HA2 : Fr g (fun c => f.ownBlock = some c) w3 w4 ∧ GOk g (m + 7) w4 ∧ Row g w4 4 1 (.slice (some ⟨b4, 0, none⟩) (L.length + 1) cap4) (L.length + 1) (vF L ++ [.bool fin]) ∧
   (∃ b cap, Value.slice (some ⟨b4, 0, none⟩) (L.length + 1) cap4 = .slice (some ⟨b, 0, none⟩) (L.length + 1) cap) ∧ (∀ b, (Value.slice (some ⟨b4, 0, none⟩) (L.length + 1) cap4).ownBlock = some b → f.ownBlock = some b ∨ w3.heap.size ≤ b))
 (hv2 : Row g W2 220 3 v L.length (vL L)) (hf2 : Row g W2 4 1 f L.length (vF L)) (ha4 : Cl g w4 tb #[gval g, v, f, .bool true] 218) (ha5 : Cl g w4 lb #[.pointer (some ⟨b, 0, none⟩), .pointer (some ⟨info, 0, none⟩), .slice fa fl fc] 220)
 (hW5 : (w4.setCell ⟨tb, 1, none⟩ (.slice (some ⟨b3, 0, none⟩) (L.length + 1) cap3)).setCell ⟨tb, 2, none⟩ (.slice (some ⟨b4, 0, none⟩) (L.length + 1) cap4) = W5) :
 Cl g W5 lb #[.pointer (some ⟨b, 0, none⟩), .pointer (some ⟨info, 0, none⟩), .slice fa fl fc] 220 ∧ Cl g W5 rb #[.pointer none, .pointer none, .slice none 0 0] 220 ∧
 ∀ W6, ((W5.setCell ⟨rb, 0, none⟩ (.pointer (some ⟨b, 0, none⟩))).setCell ⟨rb, 1, none⟩ (.pointer (some ⟨info, 0, none⟩))).setCell ⟨rb, 2, none⟩ (.slice fa fl fc) = W6 →
   W6.heap[rb]? = some (.cells #[.pointer (some ⟨b, 0, none⟩), .pointer (some ⟨info, 0, none⟩), .slice fa fl fc] 220 (0, 0)) ∧
   FrT g tb w W6 ∧ GOk g (m + 7) W6 ∧ TrySt g W6 tb (L ++ [⟨b, fb, d, lf, kids, info, fin, .slice fa fl fc⟩]) := by
 obtain ⟨A1, A2, A3, _, A5⟩ := HA
 obtain ⟨B1, B2, B3, _, B5⟩ := HA2
 obtain ⟨v0, f0, ht0, hv0, hf0, _⟩ := HT
 have hF12 := HF.tr HF2
 have hev : v0 = v ∧ f0 = f := by
  have h1 := hF12.at ht0 id
  have hvn : v.ownBlock ≠ some tb := hv2.notin h1 (by decide)
  have h2 := A1.at h1 hvn
  have h3 := B1.at h2 (hf2.notin h1 (by decide))
  have := h3.1.symm.trans ha4.1
  simpa using this
 obtain ⟨rfl, rfl⟩ := hev
 have vlt : ∀ c, v0.ownBlock = some c → c < rb := fun c h => by have := hv0.lt h; omega
 have flt : ∀ c, f0.ownBlock = some c → c < rb := fun c h => by have := hf0.lt h; omega
 have sz1 := A1.size
 have sz2 := B1.size
 have sz0 := HF.size
 have hR2 := HF2.at hR1 id
 have hR3 := A1.at hR2 (fun h => by have := vlt _ h; omega)
 have hR4 := B1.at hR3 (fun h => by have := flt _ h; omega)
 have k1 := ha4.setCell 1 (.slice (some ⟨b3, 0, none⟩) (L.length + 1) cap3)
 have k2 := k1.setCell 2 (.slice (some ⟨b4, 0, none⟩) (L.length + 1) cap4)
 have g1 := B2.setCell ha4 1 (.slice (some ⟨b3, 0, none⟩) (L.length + 1) cap3)
 have g2 := g1.setCell k1 2 (.slice (some ⟨b4, 0, none⟩) (L.length + 1) cap4)
 have F5 : Fr g (fun c => c = tb) w4 W5 := by rw [← hW5]; exact (Fr.setCell (fun c => c = tb) ha4 1 _ rfl (fun _ => by decide)).tr (Fr.setCell _ k1 2 _ rfl (fun _ => by decide))
 rw [hW5] at k2 g2
 have hB5 := F5.at ha5 (by omega)
 have hR5 := F5.at hR4 (by omega)
 refine ⟨hB5, hR5, fun W6 hW6 => ?_⟩
 obtain ⟨F6, G6, R6⟩ := set3 g2 hR5 hW6
 have b3r : b3 ≠ rb := by
  rcases A5 b3 rfl with h | h
  ·have := vlt _ h; omega
  ·omega
 have b4r : b4 ≠ rb := by
  rcases B5 b4 rfl with h | h
  ·have := flt _ h; omega
  ·omega
 have k6 := F6.at k2 (by omega)
 have r3 := ((A3.fr B1 (fun c h h' => by
  simp [Value.ownBlock] at h; subst h
  rcases A5 b3 rfl with h | h
  ·exact hv2.ne2 hf2 (by decide) _ h h'
  ·have := flt _ h'; omega)).frB F5 (A3.frB B1 (fun h' => by
    rcases A5 b3 rfl with h | h
    ·exact hv2.ne2 hf2 (by decide) _ h h'
    ·have := flt _ h'; omega) |>.ne ha4 (by decide))).frB F6 b3r
 have r4 := (B3.frB F5 (B3.ne ha4 (by decide))).frB F6 b4r
 have FA : Fr g (TBlk w tb) w W6 := by
  have ht : ∀ c, v0.ownBlock = some c ∨ f0.ownBlock = some c → TBlk w tb c := fun c h => .inr ⟨_, _, _, _, ht0.1, h⟩
  have t1 : Fr g (TBlk w tb) w w3 := hF12.trans A1 (fun _ _ h => h.elim) (fun c _ h => ht c (.inl h))
  have t2 : Fr g (TBlk w tb) w w4 := t1.trans B1 (fun _ _ h => h) (fun c _ h => ht c (.inr h))
  have t3 : Fr g (TBlk w tb) w W5 := t2.trans F5 (fun _ _ h => h) (fun c _ h => .inl h)
  exact t3.trans F6 (fun _ _ h => h) (fun c hc h => by omega)
 have hVs : ∀ r, VOk g w1 r → VOk g W6 r := fun r h => by
  have n1 : ∀ c cs T, Cl g W2 c cs T → T = 209 ∨ T = 278 ∨ T = 269 ∨ T = 99 → v0.ownBlock ≠ some c := fun c cs T hc hT => hv2.notin hc (by rcases hT with rfl | rfl | rfl | rfl <;> decide)
  have q1 := (h.fr HF2 (fun _ _ _ _ _ h => h)).fr A1 n1
  have q2 := q1.fr B1 (fun c cs T hc hT => (hf2.fr A1 (fun c h1 h2 => hv2.ne2 hf2 (by decide) c h2 h1)).notin hc (by rcases hT with rfl | rfl | rfl | rfl <;> decide))
  have q3 := q2.fr F5 (fun c cs T hc hT e => by subst e; exact ha4.ne hc (by rcases hT with rfl | rfl | rfl | rfl <;> decide) rfl)
  exact q3.fr F6 (fun c cs T hc hT e => by subst e; exact Cl.ne hR5 hc (by rcases hT with rfl | rfl | rfl | rfl <;> decide) rfl)
 refine ⟨R6.1, ⟨FA, ?_⟩, G6, _, _, k6, ?_, ?_, ?_⟩
 ·rintro c (rfl | ⟨x, v', f', y, hh, hc⟩)
  ·exact .inl (.inl rfl)
  ·have := k6.1.symm.trans hh
   simp at this
   obtain ⟨_, rfl, rfl, _⟩ := this
   rcases hc with hc | hc
   ·simp [Value.ownBlock] at hc; subst hc
    rcases A5 b3 rfl with h | h
    ·exact .inl (.inr ⟨_, _, _, _, ht0.1, .inl h⟩)
    ·right; omega
   ·simp [Value.ownBlock] at hc; subst hc
    rcases B5 b4 rfl with h | h
    ·exact .inl (.inr ⟨_, _, _, _, ht0.1, .inr h⟩)
    ·right; omega
 ·have e : vL (L ++ [⟨b, fb, d, lf, kids, info, fin, .slice fa fl fc⟩]) = vL L ++ [.pointer (some ⟨b, 0, none⟩), .pointer (some ⟨info, 0, none⟩), .slice fa fl fc] := by simp [vL]
  rw [e, List.length_append]; exact r3
 ·have e : vF (L ++ [⟨b, fb, d, lf, kids, info, fin, .slice fa fl fc⟩]) = vF L ++ [.bool fin] := by simp [vF]
  rw [e, List.length_append]; exact r4
 ·intro r hr
  rcases List.mem_append.1 hr with h | h
  ·exact hVs r (hr1 r h)
  ·simp at h; subst h; exact hVs _ hV
set_option maxHeartbeats 8000000 in
theorem link_any {g : Gt} {m tb b fb : Nat} {L : List VRec} {d : It} {lf : Bool} {kids : List Nat} {fin : Bool} {w : World} (hg : GOk g m w) (hm : m + 7 < LIM) (hL : L.length < 900)
 (ht : TrySt g w tb L) (hsh : Shape lf kids) (hnd : NodeAt g w b fb d lf kids) :
 Calls Tryz.prog 138 #[.pointer (some ⟨tb, 0, none⟩), ptr b, .bool fin] w (LinkR g m tb L b fb d lf kids fin w) := by
 have HT := Lib.hid ht
 obtain ⟨v, f, htb, hv, hf, hr⟩ := ht
 have htl := htb.lt
 have hc0 := htb.cell 0
 have hc3 := htb.cell 3
 unfold ptr
 go_enter Tryz.func138, Tryz.ntmps138
 go_wp2_with fail
 generalize hW : World.alloc _ _ = W
 have hF0 := Fr.alloc g No w (.cells #[.pointer none, .pointer none, .slice none 0 0] 220) hg
 have hG0 := hg.alloc (.cells #[.pointer none, .pointer none, .slice none 0 0] 220)
 have hR0 := At.new hg (.cells #[.pointer none, .pointer none, .slice none 0 0] 220)
 rw [hW] at hF0 hG0 hR0
 clear hW
 generalize hrb : w.heap.size = rb at *
 have hnd0 := hnd.fr0 hF0
 refine (LLX_any hG0 (by omega) hsh hnd0).mono ?_
 rintro e w1 ⟨info, st, fv, rfl, hF1, hG1, hb1, hsc1, hrow1, hfv1⟩
 obtain ⟨fa, fc, rfl⟩ := hrow1.slice
 have hV := Lib.hid (VOk.of_llx (st := 0) (fin := fin) rfl hnd0 hF1 hb1 hsc1 hrow1)
 have hF := hF0.tr hF1
 have hR1 := hF1.at hR0 id
 have htb1 := hF.at htb id
 have hv1 := hv.fr hF (fun _ _ h => h)
 have hf1 := hf.fr hF (fun _ _ h => h)
 have hr1 := Lib.hid (fun r h => (hr r h).fr hF (fun _ _ _ _ _ h => h))
 have HF := Lib.hid hF
 clear hb1 hsc1 hrow1 hfv1 hF0 hG0 hR0 hnd0 hF1 hF htb hv hf hr hc0 hc3
 unfold ptr
 have hc1 := htb1.cell 1
 have hc2 := htb1.cell 2
 have hc3 := htb1.cell 3
 have htbl := htb1.lt
 go_wp2_with fail
 generalize hW : World.alloc _ _ = W2
 have hF2 := Fr.alloc g No w1 (.cells #[.pointer (some ⟨b, 0, none⟩), .pointer (some ⟨info, 0, none⟩), .slice fa kids.length fc] 220) hG1
 have hG2 := hG1.alloc (.cells #[.pointer (some ⟨b, 0, none⟩), .pointer (some ⟨info, 0, none⟩), .slice fa kids.length fc] 220)
 have hB2 := At.new hG1 (.cells #[.pointer (some ⟨b, 0, none⟩), .pointer (some ⟨info, 0, none⟩), .slice fa kids.length fc] 220)
 rw [hW] at hF2 hG2 hB2
 have hz2 : w1.heap.size < W2.heap.size := by rw [← hW]; simp
 clear hW
 generalize hlb : w1.heap.size = lb at *
 have d1 : W2.cell? ⟨tb, 1, none⟩ = some v := (hF2.at htb1 id).cell 1
 have d2 : W2.cell? ⟨tb, 2, none⟩ = some f := (hF2.at htb1 id).cell 2
 have d3 : W2.cell? ⟨lb, 0, none⟩ = some (.pointer (some ⟨b, 0, none⟩)) := hB2.cell 0
 have d4 : W2.cell? ⟨lb, 1, none⟩ = some (.pointer (some ⟨info, 0, none⟩)) := hB2.cell 1
 have d5 : W2.cell? ⟨lb, 2, none⟩ = some (.slice fa kids.length fc) := hB2.cell 2
 have hv2 := Lib.hid (hv1.fr hF2 (fun _ _ h => h))
 have nvl : v.ownBlock ≠ some lb := fun h => by have := hv1.lt h; omega
 have hf2 := Lib.hid (hf1.fr hF2 (fun _ _ h => h))
 have HG2 := Lib.hid hG2
 clear hv1 hf1 hc1 hc2 hc3
 have nv1 : v.ownBlock ≠ some tb := hv2.out.notin (hF2.at htb1 id) (by decide)
 have nv2 : v.ownBlock ≠ some lb := fun h => nvl h
 have nf1 : f.ownBlock ≠ some tb := hf2.out.notin (hF2.at htb1 id) (by decide)
 have nf2 : f.ownBlock ≠ some lb := hf2.out.notin hB2 (by decide)
 have htb2 := Lib.hid (hF2.at htb1 id)
 have HB2 := Lib.hid hB2
 have HF2 := Lib.hid hF2
 have NV := Lib.hid (And.intro nv1 (And.intro nv2 (And.intro nf1 nf2)))
 clear nv1 nv2 nf1 nf2 hG2 hB2 hF2 nvl
 refine wp_region_X (S := (fun w' => w'.cell? ⟨tb, 1, none⟩ = some v ∧ w'.cell? ⟨tb, 2, none⟩ = some f ∧ w'.cell? ⟨lb, 0, none⟩ = some (.pointer (some ⟨b, 0, none⟩)) ∧ w'.cell? ⟨lb, 1, none⟩ = some (.pointer (some ⟨info, 0, none⟩)) ∧ w'.cell? ⟨lb, 2, none⟩ = some (.slice fa kids.length fc))) [18] (by kernel_rfl) ?_
 refine tY 0 _ rfl (by kernel_rfl) (fun _ _ _ => id) (keepS htb2.out.drew HB2.out.drew) (by rfl) (by intro wq _; go_simp <;> with_reducible rfl) ?_
 try go_frame
 refine tY 1 _ rfl (by kernel_rfl) (fun _ _ _ => id) (keepS htb2.out.drew HB2.out.drew) (by rfl) (by intro wq _; go_simp <;> with_reducible rfl) ?_
 try go_frame
 refine tY 2 _ rfl (by kernel_rfl) (fun _ _ _ => id) (keepS htb2.out.drew HB2.out.drew) (by rfl) (by intro wq _; go_simp <;> with_reducible rfl) ?_
 try go_frame
 refine tY 3 _ rfl (by kernel_rfl) (fun _ _ _ => id) (keepS htb2.out.drew HB2.out.drew) (by rfl) (by intro wq _; go_simp <;> with_reducible rfl) ?_
 try go_frame
 refine tY 4 _ rfl (by kernel_rfl) (fun _ _ _ => id) (keepS htb2.out.drew HB2.out.drew) (by rfl) (by intro wq _; go_simp <;> with_reducible rfl) ?_
 try go_frame
 refine tY 9 _ rfl (by kernel_rfl) (fun _ _ _ => id) (keepS htb2.out.drew HB2.out.drew) (by rfl) (by intro wq _; go_simp <;> with_reducible rfl) ?_
 try go_frame
 refine tY 10 _ rfl (by kernel_rfl) (fun _ _ _ => id) (keepS htb2.out.drew HB2.out.drew) (by rfl) (by intro wq _; go_simp <;> with_reducible rfl) ?_
 try go_frame
 refine tY 11 _ rfl (by kernel_rfl) (fun _ _ _ => id) (keepS htb2.out.drew HB2.out.drew) (by rfl) (by intro wq _; go_simp <;> with_reducible rfl) ?_
 try go_frame
 refine tY 13 _ rfl (by kernel_rfl) (fun _ _ _ => id) (keepS htb2.out.drew HB2.out.drew) (by rfl) (by intro wq _; go_simp <;> with_reducible rfl) ?_
 try go_frame
 refine tX 5 _ rfl (by kernel_rfl) (fun _ _ _ => id) (keepS htb2.out.drew HB2.out.drew) (by rfl) (by intro wq hSq; obtain ⟨s0, s1, s2, s3, s4⟩ := hSq; go_simp <;> with_reducible rfl) ?_
 try go_frame
 refine tX 6 _ rfl (by kernel_rfl) (fun _ _ _ => id) (keepS htb2.out.drew HB2.out.drew) (by rfl) (by intro wq hSq; obtain ⟨s0, s1, s2, s3, s4⟩ := hSq; go_simp <;> with_reducible rfl) ?_
 try go_frame
 refine tX 12 _ rfl (by kernel_rfl) (fun _ _ _ => id) (keepS htb2.out.drew HB2.out.drew) (by rfl) (by intro wq hSq; obtain ⟨s0, s1, s2, s3, s4⟩ := hSq; go_simp <;> with_reducible rfl) ?_
 try go_frame
 refine wpAnyX_ready (rs := [7, 14]) (by kernel_rfl) (by simp) ?_
 refine ReadyX.cons rfl (fun K hK => ?_) ?_
 ·go_simp
  refine hK.out _ _ (keepS (fr_d1 HG2.out _ |>.at htb2.out id) (fr_d1 HG2.out _ |>.at HB2.out id)) (fun hS1 => ?_)
  clear hK K
  try go_frame
  refine wpAnyX_ready (rs := [8, 14]) (by kernel_rfl) (by simp) ?_
  refine ReadyX.cons rfl (fun K hK => ?_) ?_
  ·refine step_append_fr (by rfl) _ _ 216 (by rfl) 220 (.agg #[.pointer none, .pointer none, .slice none 0 0]) 3 40 Tryz.underlying216 Tryz.info220 rfl (by decide) (by decide) v L.length (vL L) (by rfl) (HG2.out.alloc _).drew (hv2.out.fr (fr_d1 HG2.out _) (fun _ _ h => h)) ⟨W2.heap.size, 0, none⟩ 1 1 [.pointer (some ⟨b, 0, none⟩), .pointer (some ⟨info, 0, none⟩), .slice fa kids.length fc] (by rfl) (by rfl) (news1 (heap_alloc_new W2 _)) (by simp [Value.oneCell']) (by simp only [maxLen]; omega) (by omega) (by decide) ?_
   intro v3 w3 happ
   have hA := app_of happ (fr_d1 HG2.out _)
   have ha2 := hA.1.at htb2.out NV.out.1
   have ha3 := hA.1.at HB2.out NV.out.2.1
   obtain ⟨b3, cap3, rfl⟩ := hA.2.2.2.1
   have HA := Lib.hid hA
   clear hA happ
   refine hK.out _ _ (keepS ha2 ha3) (fun hS2 => ?_)
   clear hK K
   try go_frame
   refine wpAnyX_ready (rs := [14]) (by kernel_rfl) (by simp) ?_
   refine ReadyX.cons rfl (fun K hK => ?_) ?_
   ·go_simp
    refine hK.out _ _ (keepS ((Fr.alloc g No w3 _ HA.out.2.1).at ha2 id) ((Fr.alloc g No w3 _ HA.out.2.1).at ha3 id)) (fun hS3 => ?_)
    clear hK K
    try go_frame
    refine wpAnyX_ready (rs := [15]) (by kernel_rfl) (by simp) ?_
    refine ReadyX.cons rfl (fun K hK => ?_) ?_
    ·refine step_append_fr (by rfl) _ _ 168 (by rfl) 4 (.bool false) 1 1 Tryz.underlying168 Tryz.info4 rfl (by decide) (by decide) f L.length (vF L) (by rfl) (HA.out.2.1.alloc _) ((hf2.out.fr HA.out.1 (fun c h1 h2 => hv2.out.ne2 hf2.out (by decide) c h2 h1)).fr (Fr.alloc g No w3 _ HA.out.2.1) (fun _ _ h => h)) ⟨w3.heap.size, 0, none⟩ 1 1 [.bool fin] (by rfl) (by rfl) (news1 (heap_alloc_new w3 _)) (by simp [Value.oneCell']) (by simp only [maxLen]; omega) (by omega) (by decide) ?_
     intro v4 w4 happ2
     have hA2 := app_of happ2 (Fr.alloc g No w3 _ HA.out.2.1)
     have ha4 := hA2.1.at ha2 NV.out.2.2.1
     have ha5 := hA2.1.at ha3 NV.out.2.2.2
     obtain ⟨b4, cap4, rfl⟩ := hA2.2.2.2.1
     have hz1 := ha4.free 1
     have hz2' := ha4.free 2
     have hz3 := ha4.cell 1
     have hz4 := ha4.cell 2
     have HA2 := Lib.hid hA2
     clear hA2 happ2
     refine hK.out _ _ (keepS ha4 ha5) (fun hS4 => ?_)
     clear hK K
     try go_frame
     refine tY 16 _ rfl (by kernel_rfl) (fun _ _ _ => id) hS4 (by rfl) (by intro wq _; go_simp <;> with_reducible rfl) ?_
     try go_frame
     refine tY 17 _ rfl (by kernel_rfl) (fun _ _ _ => id) hS4 (by rfl) (by intro wq _; go_simp <;> with_reducible rfl) ?_
     try go_frame
     refine wpAnyX_ready (rs := [18]) (by kernel_rfl) (by simp) ?_
     refine ReadyX.last (x := 18) rfl (by kernel_rfl) (fun K hK => ?_) ?_
     ·go_simp
      refine hK.out _ _ ?_
      clear hK K
      try go_frame
      refine wpAnyX_takeG (i := 19) (x := 18) (v := ?_) rfl (by kernel_rfl) (by kernel_rfl) (fun _ _ _ h => h)  (Or.inl ⟨by rfl, ?_⟩) ?_
      rotate_left
      ·(intro wq _; go_simp <;> with_reducible rfl)
      try go_frame
      refine wpAnyX_takeG (i := 20) (x := 18) (v := ?_) rfl (by kernel_rfl) (by kernel_rfl) (fun _ _ _ h => h)  (Or.inl ⟨by rfl, ?_⟩) ?_
      rotate_left
      ·(intro wq _; go_simp <;> with_reducible rfl)
      try go_frame
      refine wpAnyX_ready (rs := [21]) (by kernel_rfl) (by simp) ?_
      refine ReadyX.last (x := 18) rfl (by kernel_rfl) (fun K hK => ?_) ?_
      ·go_simp
       refine hK.out _ _ ?_
       clear hK K
       try go_frame
       refine wpAnyX_done (by kernel_rfl) ?_ _
       generalize hW5 : World.setCell _ _ _ = W5
       have hE := link_end (m := m) htl hrb hlb hz2 HT.out HF.out HF2.out hV.out hr1.out hR1 htbl HA.out HA2.out hv2.out hf2.out ha4 ha5 hW5
       have hB5 := hE.1
       have hR5 := hE.2.1
       have HE := Lib.hid hE.2.2
       clear hE hW5
       have e0 := hB5.cell 0
       have e1 := hB5.cell 1
       have e2 := hB5.cell 2
       have r0 := hR5.cell 0
       have r1 := hR5.cell 1
       have r2 := hR5.cell 2
       have q0 := hR5.free 0
       have q1 := hR5.free 1
       have q2 := hR5.free 2
       clear hS1 hS2 hS3 hS4 d1 d2 d3 d4 d5 hz1 hz2' hz3 hz4 ha2 ha3 ha4 ha5
       go_wp2_with fail
       generalize hW6 : World.setCell _ _ _ = W6
       obtain ⟨hR6, hfin⟩ := HE.out W6 hW6
       clear hW6
       refine bodyPost_ret (results_cell_row rfl _ _ rb 220 _ (0, 0) _ rfl hR6 Tryz.underlying220 rfl size220) rfl ?_
       exact ⟨info, _, rfl, hfin⟩
      exact ReadyX.nil
     exact ReadyX.nil
    exact ReadyX.nil
   exact ReadyX.nil
  refine ReadyX.cons rfl (fun K hK => ?_) ?_
  ·go_simp
   refine hK.out _ _ (keepS (fr_d2 HG2.out _ _ |>.at htb2.out id) (fr_d2 HG2.out _ _ |>.at HB2.out id)) (fun hS2 => ?_)
   clear hK K
   try go_frame
   refine wpAnyX_ready (rs := [8]) (by kernel_rfl) (by simp) ?_
   refine ReadyX.cons rfl (fun K hK => ?_) ?_
   ·refine step_append_fr (by rfl) _ _ 216 (by rfl) 220 (.agg #[.pointer none, .pointer none, .slice none 0 0]) 3 40 Tryz.underlying216 Tryz.info220 rfl (by decide) (by decide) v L.length (vL L) (by rfl) ((HG2.out.alloc _).alloc _).drew (hv2.out.fr (fr_d2 HG2.out _ _) (fun _ _ h => h)) ⟨W2.heap.size, 0, none⟩ 1 1 [.pointer (some ⟨b, 0, none⟩), .pointer (some ⟨info, 0, none⟩), .slice fa kids.length fc] (by rfl) (by rfl) (news1 (at_d2 HG2.out _ _).1.1) (by simp [Value.oneCell']) (by simp only [maxLen]; omega) (by omega) (by decide) ?_
    intro v3 w3 happ
    have hA := app_of happ (fr_d2 HG2.out _ _)
    have ha2 := hA.1.at htb2.out NV.out.1
    have ha3 := hA.1.at HB2.out NV.out.2.1
    have hnb := (happ.2.1.at (at_d2 HG2.out _ _).2 (fun h => by have := hv2.out.lt h; omega)).1
    obtain ⟨b3, cap3, rfl⟩ := hA.2.2.2.1
    have HA := Lib.hid hA
    clear hA happ
    refine hK.out _ _ (keepS ha2 ha3) (fun hS3 => ?_)
    clear hK K
    try go_frame
    refine wpAnyX_ready (rs := [15]) (by kernel_rfl) (by simp) ?_
    refine ReadyX.cons rfl (fun K hK => ?_) ?_
    ·refine step_append_fr (by rfl) _ _ 168 (by rfl) 4 (.bool false) 1 1 Tryz.underlying168 Tryz.info4 rfl (by decide) (by decide) f L.length (vF L) (by rfl) HA.out.2.1 ((hf2.out.fr HA.out.1 (fun c h1 h2 => hv2.out.ne2 hf2.out (by decide) c h2 h1))) ⟨W2.heap.size + 1, 0, none⟩ 1 1 [.bool fin] (by rfl) (by rfl) (news1 hnb) (by simp [Value.oneCell']) (by simp only [maxLen]; omega) (by omega) (by decide) ?_
     intro v4 w4 happ2
     have hA2 := app_of happ2 (Fr.refl g No w3)
     have ha4 := hA2.1.at ha2 NV.out.2.2.1
     have ha5 := hA2.1.at ha3 NV.out.2.2.2
     obtain ⟨b4, cap4, rfl⟩ := hA2.2.2.2.1
     have hz1 := ha4.free 1
     have hz2' := ha4.free 2
     have hz3 := ha4.cell 1
     have hz4 := ha4.cell 2
     have HA2 := Lib.hid hA2
     clear hA2 happ2
     refine hK.out _ _ (keepS ha4 ha5) (fun hS4 => ?_)
     clear hK K
     try go_frame
     refine tY 16 _ rfl (by kernel_rfl) (fun _ _ _ => id) hS4 (by rfl) (by intro wq _; go_simp <;> with_reducible rfl) ?_
     try go_frame
     refine tY 17 _ rfl (by kernel_rfl) (fun _ _ _ => id) hS4 (by rfl) (by intro wq _; go_simp <;> with_reducible rfl) ?_
     try go_frame
     refine wpAnyX_ready (rs := [18]) (by kernel_rfl) (by simp) ?_
     refine ReadyX.last (x := 18) rfl (by kernel_rfl) (fun K hK => ?_) ?_
     ·go_simp
      refine hK.out _ _ ?_
      clear hK K
      try go_frame
      refine wpAnyX_takeG (i := 19) (x := 18) (v := ?_) rfl (by kernel_rfl) (by kernel_rfl) (fun _ _ _ h => h)  (Or.inl ⟨by rfl, ?_⟩) ?_
      rotate_left
      ·(intro wq _; go_simp <;> with_reducible rfl)
      try go_frame
      refine wpAnyX_takeG (i := 20) (x := 18) (v := ?_) rfl (by kernel_rfl) (by kernel_rfl) (fun _ _ _ h => h)  (Or.inl ⟨by rfl, ?_⟩) ?_
      rotate_left
      ·(intro wq _; go_simp <;> with_reducible rfl)
      try go_frame
      refine wpAnyX_ready (rs := [21]) (by kernel_rfl) (by simp) ?_
      refine ReadyX.last (x := 18) rfl (by kernel_rfl) (fun K hK => ?_) ?_
      ·go_simp
       refine hK.out _ _ ?_
       clear hK K
       try go_frame
       refine wpAnyX_done (by kernel_rfl) ?_ _
       generalize hW5 : World.setCell _ _ _ = W5
       have hE := link_end (m := m) htl hrb hlb hz2 HT.out HF.out HF2.out hV.out hr1.out hR1 htbl HA.out HA2.out hv2.out hf2.out ha4 ha5 hW5
       have hB5 := hE.1
       have hR5 := hE.2.1
       have HE := Lib.hid hE.2.2
       clear hE hW5
       have e0 := hB5.cell 0
       have e1 := hB5.cell 1
       have e2 := hB5.cell 2
       have r0 := hR5.cell 0
       have r1 := hR5.cell 1
       have r2 := hR5.cell 2
       have q0 := hR5.free 0
       have q1 := hR5.free 1
       have q2 := hR5.free 2
       clear hS1 hS2 hS3 hS4 d1 d2 d3 d4 d5 hz1 hz2' hz3 hz4 ha2 ha3 ha4 ha5
       go_wp2_with fail
       generalize hW6 : World.setCell _ _ _ = W6
       obtain ⟨hR6, hfin⟩ := HE.out W6 hW6
       clear hW6
       refine bodyPost_ret (results_cell_row rfl _ _ rb 220 _ (0, 0) _ rfl hR6 Tryz.underlying220 rfl size220) rfl ?_
       exact ⟨info, _, rfl, hfin⟩
      exact ReadyX.nil
     exact ReadyX.nil
    exact ReadyX.nil
   exact ReadyX.nil
  exact ReadyX.nil
 refine ReadyX.cons rfl (fun K hK => ?_) ?_
 ·go_simp
  refine hK.out _ _ (keepS (fr_d1 HG2.out _ |>.at htb2.out id) (fr_d1 HG2.out _ |>.at HB2.out id)) (fun hS1 => ?_)
  clear hK K
  try go_frame
  refine wpAnyX_ready (rs := [7]) (by kernel_rfl) (by simp) ?_
  refine ReadyX.cons rfl (fun K hK => ?_) ?_
  ·go_simp
   refine hK.out _ _ (keepS (fr_d2 HG2.out _ _ |>.at htb2.out id) (fr_d2 HG2.out _ _ |>.at HB2.out id)) (fun hS2 => ?_)
   clear hK K
   try go_frame
   refine wpAnyX_ready (rs := [8]) (by kernel_rfl) (by simp) ?_
   refine ReadyX.cons rfl (fun K hK => ?_) ?_
   ·refine step_append_fr (by rfl) _ _ 216 (by rfl) 220 (.agg #[.pointer none, .pointer none, .slice none 0 0]) 3 40 Tryz.underlying216 Tryz.info220 rfl (by decide) (by decide) v L.length (vL L) (by rfl) ((HG2.out.alloc _).alloc _).drew (hv2.out.fr (fr_d2 HG2.out _ _) (fun _ _ h => h)) ⟨W2.heap.size + 1, 0, none⟩ 1 1 [.pointer (some ⟨b, 0, none⟩), .pointer (some ⟨info, 0, none⟩), .slice fa kids.length fc] (by rfl) (by rfl) (news1 (at_d2 HG2.out _ _).2.1) (by simp [Value.oneCell']) (by simp only [maxLen]; omega) (by omega) (by decide) ?_
    intro v3 w3 happ
    have hA := app_of happ (fr_d2 HG2.out _ _)
    have ha2 := hA.1.at htb2.out NV.out.1
    have ha3 := hA.1.at HB2.out NV.out.2.1
    have hnb := (happ.2.1.at (at_d2 HG2.out _ _).1 (fun h => by have := hv2.out.lt h; omega)).1
    obtain ⟨b3, cap3, rfl⟩ := hA.2.2.2.1
    have HA := Lib.hid hA
    clear hA happ
    refine hK.out _ _ (keepS ha2 ha3) (fun hS3 => ?_)
    clear hK K
    try go_frame
    refine wpAnyX_ready (rs := [15]) (by kernel_rfl) (by simp) ?_
    refine ReadyX.cons rfl (fun K hK => ?_) ?_
    ·refine step_append_fr (by rfl) _ _ 168 (by rfl) 4 (.bool false) 1 1 Tryz.underlying168 Tryz.info4 rfl (by decide) (by decide) f L.length (vF L) (by rfl) HA.out.2.1 ((hf2.out.fr HA.out.1 (fun c h1 h2 => hv2.out.ne2 hf2.out (by decide) c h2 h1))) ⟨W2.heap.size, 0, none⟩ 1 1 [.bool fin] (by rfl) (by rfl) (news1 hnb) (by simp [Value.oneCell']) (by simp only [maxLen]; omega) (by omega) (by decide) ?_
     intro v4 w4 happ2
     have hA2 := app_of happ2 (Fr.refl g No w3)
     have ha4 := hA2.1.at ha2 NV.out.2.2.1
     have ha5 := hA2.1.at ha3 NV.out.2.2.2
     obtain ⟨b4, cap4, rfl⟩ := hA2.2.2.2.1
     have hz1 := ha4.free 1
     have hz2' := ha4.free 2
     have hz3 := ha4.cell 1
     have hz4 := ha4.cell 2
     have HA2 := Lib.hid hA2
     clear hA2 happ2
     refine hK.out _ _ (keepS ha4 ha5) (fun hS4 => ?_)
     clear hK K
     try go_frame
     refine tY 16 _ rfl (by kernel_rfl) (fun _ _ _ => id) hS4 (by rfl) (by intro wq _; go_simp <;> with_reducible rfl) ?_
     try go_frame
     refine tY 17 _ rfl (by kernel_rfl) (fun _ _ _ => id) hS4 (by rfl) (by intro wq _; go_simp <;> with_reducible rfl) ?_
     try go_frame
     refine wpAnyX_ready (rs := [18]) (by kernel_rfl) (by simp) ?_
     refine ReadyX.last (x := 18) rfl (by kernel_rfl) (fun K hK => ?_) ?_
     ·go_simp
      refine hK.out _ _ ?_
      clear hK K
      try go_frame
      refine wpAnyX_takeG (i := 19) (x := 18) (v := ?_) rfl (by kernel_rfl) (by kernel_rfl) (fun _ _ _ h => h)  (Or.inl ⟨by rfl, ?_⟩) ?_
      rotate_left
      ·(intro wq _; go_simp <;> with_reducible rfl)
      try go_frame
      refine wpAnyX_takeG (i := 20) (x := 18) (v := ?_) rfl (by kernel_rfl) (by kernel_rfl) (fun _ _ _ h => h)  (Or.inl ⟨by rfl, ?_⟩) ?_
      rotate_left
      ·(intro wq _; go_simp <;> with_reducible rfl)
      try go_frame
      refine wpAnyX_ready (rs := [21]) (by kernel_rfl) (by simp) ?_
      refine ReadyX.last (x := 18) rfl (by kernel_rfl) (fun K hK => ?_) ?_
      ·go_simp
       refine hK.out _ _ ?_
       clear hK K
       try go_frame
       refine wpAnyX_done (by kernel_rfl) ?_ _
       generalize hW5 : World.setCell _ _ _ = W5
       have hE := link_end (m := m) htl hrb hlb hz2 HT.out HF.out HF2.out hV.out hr1.out hR1 htbl HA.out HA2.out hv2.out hf2.out ha4 ha5 hW5
       have hB5 := hE.1
       have hR5 := hE.2.1
       have HE := Lib.hid hE.2.2
       clear hE hW5
       have e0 := hB5.cell 0
       have e1 := hB5.cell 1
       have e2 := hB5.cell 2
       have r0 := hR5.cell 0
       have r1 := hR5.cell 1
       have r2 := hR5.cell 2
       have q0 := hR5.free 0
       have q1 := hR5.free 1
       have q2 := hR5.free 2
       clear hS1 hS2 hS3 hS4 d1 d2 d3 d4 d5 hz1 hz2' hz3 hz4 ha2 ha3 ha4 ha5
       go_wp2_with fail
       generalize hW6 : World.setCell _ _ _ = W6
       obtain ⟨hR6, hfin⟩ := HE.out W6 hW6
       clear hW6
       refine bodyPost_ret (results_cell_row rfl _ _ rb 220 _ (0, 0) _ rfl hR6 Tryz.underlying220 rfl size220) rfl ?_
       exact ⟨info, _, rfl, hfin⟩
      exact ReadyX.nil
     exact ReadyX.nil
    exact ReadyX.nil
   exact ReadyX.nil
  exact ReadyX.nil
 exact ReadyX.nil
end Go.Proofs.YtdmobhndbibhoaaGreat
