/- package node's small functions; chroma's has, weight. -/
import Derived.Test.YtdmobhndbibhoaaGreatA6
namespace Go.Proofs.YtdmobhndbibhoaaGreat
set_option linter.unusedVariables false
set_option linter.unusedSimpArgs false
open Go.RowKit Larch
set_option maxRecDepth 100000
section
variable {g : Gt} {n b : Nat} {w : World} {d : It} {lf : Bool} {fs : Value} {info : Nat} {m : Int}
theorem rc0 (ha : Cl g w b (rc d lf fs info m) 209) : w.cell? ⟨b, 0, none⟩ = some (.int .i64 d.k) := (ha.cell 0).trans rfl
theorem rc1 (ha : Cl g w b (rc d lf fs info m) 209) : w.cell? ⟨b, 1, none⟩ = some (.int .i64 d.i) := (ha.cell 1).trans rfl
theorem rc2 (ha : Cl g w b (rc d lf fs info m) 209) : w.cell? ⟨b, 2, none⟩ = some (.int .i64 d.w) := (ha.cell 2).trans rfl
theorem rc3 (ha : Cl g w b (rc d lf fs info m) 209) : w.cell? ⟨b, 3, none⟩ = some (.int .i64 d.v) := (ha.cell 3).trans rfl
theorem rc4 (ha : Cl g w b (rc d lf fs info m) 209) : w.cell? ⟨b, 4, none⟩ = some (.bool lf) := (ha.cell 4).trans rfl
set_option maxHeartbeats 400000 in
theorem weight_any (ha : Cl g w b (rc d lf fs info m) 209) :
 Calls Tryz.prog 232 #[.pointer (some ⟨b, 0, none⟩)] w fun e w' => e = .returned (.int .i64 d.w) ∧ w = w' := by
 have h2 := rc2 ha
 go_enter Tryz.func232, Tryz.ntmps232
 go_wp2
 go_ret
 exact ⟨rfl, rfl⟩
set_option maxHeartbeats 400000 in
theorem Below_any (key : Int) (ha : Cl g w b (rc d lf fs info m) 209) :
 Calls Tryz.prog 136 #[.int .i64 key, .pointer (some ⟨b, 0, none⟩)] w fun e w' => e = .returned (.bool (below key d)) ∧ w = w' := by
 have h0 := rc0 ha
 have h1 := rc1 ha
 unfold below
 cases hi : (d.i == 1) with
 | true =>
   go_enter Tryz.func136, Tryz.ntmps136
   go_wp2
   go_ret
   simp
 | false =>
   go_enter Tryz.func136, Tryz.ntmps136
   go_wp2
   go_ret
   simp
set_option maxHeartbeats 400000 in
theorem has_any (key : Int) (ha : Cl g w b (rc d lf fs info m) 209) :
 Calls Tryz.prog 137 #[.pointer (some ⟨b, 0, none⟩), .int .i64 key] w fun e w' => e = .returned (.bool (hasK d key)) ∧ w = w' := by
 have h0 := rc0 ha
 have h1 := rc1 ha
 unfold hasK
 cases hi : (d.i == 0) with
 | true =>
   go_enter Tryz.func137, Tryz.ntmps137
   go_wp2
   go_ret
   simp
 | false =>
   go_enter Tryz.func137, Tryz.ntmps137
   go_wp2
   go_ret
   simp
set_option maxHeartbeats 400000 in
theorem got_any (key : Int) (ha : Cl g w b (rc d lf fs info m) 209) :
 Calls Tryz.prog 130 #[.pointer (some ⟨b, 0, none⟩), .int .i64 key] w fun e w' => e = .returned (.tuple #[.int .i64 (if hasK d key then d.v else 0), .bool (hasK d key)]) ∧ w = w' := by
 have h0 := rc0 ha
 have h1 := rc1 ha
 have h3 := rc3 ha
 unfold hasK
 cases hi : (d.i == 0) with
 | true =>
   cases hk : (d.k == key) with
   | true =>
     go_enter Tryz.func130, Tryz.ntmps130
     go_wp2
     go_ret2
     simp
   | false =>
     go_enter Tryz.func130, Tryz.ntmps130
     go_wp2
     go_ret2
     simp
 | false =>
   go_enter Tryz.func130, Tryz.ntmps130
   go_wp2
   go_ret2
   simp
end
section
variable {g : Gt} {n b fb c0 c1 : Nat} {w : World} {d : It}
theorem NodeAt.rec {lf : Bool} {kids : List Nat} (h : NodeAt g w b fb d lf kids) : ∃ info, Cl g w b (rc d lf (.slice (some ⟨fb, 0, none⟩) kids.length kids.length) info 0) 209 := by
 obtain ⟨info, st, h, _⟩ := h; exact ⟨info, h⟩
set_option maxHeartbeats 400000 in
theorem child_inner {i : Nat} {c : Nat} (hg : GOk g n w) (hn : n < LIM) (hnd : NodeAt g w b fb d false [c0, c1]) (hc : [c0, c1][i]? = some c) :
 Calls Tryz.prog 194 #[gval g, ptr b, .int .i64 i] w fun e w' => e = .returned (ptr c) ∧ Fr g No w w' ∧ GOk g (n + 1) w' := by
 obtain ⟨info, st, hr, hfb, _, _, hk⟩ := hnd
 have hr : Cl g w b (rc d false (.slice (some ⟨fb, 0, none⟩) 2 2) info 0) 209 := hr
 have h4 := rc4 hr
 have hi : i < 2 := by have := (List.getElem?_eq_some_iff.1 hc).1; simpa using this
 have hck := hk c (List.mem_of_getElem? hc)
 have hcc : ([c0, c1].map fun c => Value.pointer (some ⟨c, 0, none⟩)).toArray[i]? = some (.pointer (some ⟨c, 0, none⟩)) := by
  rw [List.getElem?_toArray, List.getElem?_map, hc]; rfl
 unfold ptr
 go_enter Tryz.func194, Tryz.ntmps194
 go_wp2_with (go_at_call 224; refine (Rec_Get hg hn hr hfb hi hcc (.inr ⟨c, rfl, hck⟩)).mono ?_; rintro e w1 ⟨rfl, hf1, hg1⟩)
 go_ret
 exact ⟨rfl, hf1, hg1⟩
set_option maxHeartbeats 400000 in
theorem Left_inner (hg : GOk g n w) (hn : n < LIM) (hnd : NodeAt g w b fb d false [c0, c1]) :
 Calls Tryz.prog 145 #[gval g, ptr b] w fun e w' => e = .returned (ptr c0) ∧ Fr g No w w' ∧ GOk g (n + 1) w' := by
 go_enter Tryz.func145, Tryz.ntmps145
 go_wp2_with (go_at_call 194; refine (child_inner (i := 0) (c := c0) hg hn hnd rfl).mono ?_; rintro e w1 ⟨rfl, hf1, hg1⟩)
 go_ret
 exact ⟨rfl, hf1, hg1⟩
set_option maxHeartbeats 400000 in
theorem Right_inner (hg : GOk g n w) (hn : n < LIM) (hnd : NodeAt g w b fb d false [c0, c1]) :
 Calls Tryz.prog 146 #[gval g, ptr b] w fun e w' => e = .returned (ptr c1) ∧ Fr g No w w' ∧ GOk g (n + 1) w' := by
 go_enter Tryz.func146, Tryz.ntmps146
 go_wp2_with (go_at_call 194; refine (child_inner (i := 1) (c := c1) hg hn hnd rfl).mono ?_; rintro e w1 ⟨rfl, hf1, hg1⟩)
 go_ret
 exact ⟨rfl, hf1, hg1⟩
end
end Go.Proofs.YtdmobhndbibhoaaGreat
namespace Go.Proofs.YtdmobhndbibhoaaGreat
set_option linter.unusedVariables false
set_option linter.unusedSimpArgs false
open Go.RowKit Larch
set_option maxRecDepth 100000
theorem Tryz.info194 : (Tryz.prog.info? 194).map (fun i => (i.zero, i.size, i.bytes)) = some (some (.pointer none), 1, 8) := by kernel_rfl
theorem Tryz.info4 : (Tryz.prog.info? 4).map (fun i => (i.zero, i.size, i.bytes)) = some (some (.bool false), 1, 1) := by kernel_rfl
def RowNew (g : Gt) (k e n : Nat) (xs : List Value) (w : World) (v : Value) (w' : World) : Prop :=
 Fr g No w w' ∧ GOk g k w' ∧ ∃ b cap, v = .slice (some ⟨b, 0, none⟩) n cap ∧ w.heap.size ≤ b ∧ Row g w' e 1 (.slice (some ⟨b, 0, none⟩) n cap) n xs
theorem rowNew_of {g : Gt} {k e n : Nat} {xs : List Value} {w w' : World} {v : Value} (hg : GOk g k w)
 (h : Appended g k e 1 (.slice (some ⟨w.heap.size, 0, none⟩) 0 0) (0 + n) ([] ++ xs) (w.alloc (.cells #[] e)) v w') : RowNew g k e n xs w v w' := by
 obtain ⟨hr, hf, hG, b, cap, rfl, hb⟩ := h
 simp only [Nat.zero_add, List.nil_append] at hr ⊢
 have h0 := Fr.alloc g No w (.cells #[] e) hg
 refine ⟨h0.trans hf (fun _ _ h => h) (fun c hc h => by simp [Value.ownBlock] at h; omega), hG, b, cap, rfl, ?_, hr⟩
 rcases hb with h | h
 ·simp [Value.ownBlock] at h; omega
 ·simp at h; omega
theorem row_empty {g : Gt} {k e : Nat} {w : World} (hg : GOk g k w) : Row g (w.alloc (.cells #[] e)) e 1 (.slice (some ⟨w.heap.size, 0, none⟩) 0 0) 0 [] :=
 ⟨rfl, .inr ⟨w.heap.size, 0, #[], rfl, Nat.le_refl _, by simp, At.new hg _, rfl, rfl⟩⟩
theorem row_cells {g : Gt} {e n b cap : Nat} {xs : List Value} {w : World} (h : Row g w e 1 (.slice (some ⟨b, 0, none⟩) n cap) n xs) :
 ∀ j u, xs[j]? = some u → w.cell? ((⟨b, 0, none⟩ : Addr).add j) = some u := h.own.cells rfl
set_option maxHeartbeats 400000 in
theorem Clone309 {g : Gt} {k n b cap : Nat} {xs : List Value} {w : World} (hg : GOk g k w) (hr : Row g w 99 1 (.slice (some ⟨b, 0, none⟩) n cap) n xs) (hn : 0 < n) (hn' : n < 1000)
 (h1 : ∀ u ∈ xs, u.oneCell' = true) :
 Calls Tryz.prog 309 #[.slice (some ⟨b, 0, none⟩) n cap] w fun e w' => ∃ v, e = .returned v ∧ RowNew g k 99 n xs w v w' := by
 have hnil := fun w => Lib.run_eql_slice_nil (P := Tryz.prog) w 192 99 (some ⟨b, 0, none⟩) n cap 0 0 Tryz.underlying192
 have hl := hr.1
 have H := Lib.hid hl
 clear hl
 go_enter Tryz.func309, Tryz.ntmps309
 go_wp2_with (at_builtin; refine wpList_append_fr rfl _ _ 192 rfl 99 (.pointer none) 1 8 Tryz.underlying192 Tryz.info99 rfl (by decide) (by decide) (hg.alloc (.cells #[] 99)) (.slice (some ⟨w.heap.size, 0, none⟩) 0 0) 0 [] rfl (row_empty hg) ⟨b, 0, none⟩ n cap xs rfl H.out (row_cells (hr.fr (Fr.alloc g No w _ hg) (fun _ _ h => h))) h1 (by simp only [maxLen]; omega) (by omega) hn ?_; intro v1 w1 happ; have hA := rowNew_of hg happ; clear happ)
 go_ret
 exact ⟨_, rfl, hA⟩
set_option maxHeartbeats 400000 in
theorem Clone310 {g : Gt} {k n b cap : Nat} {xs : List Value} {w : World} (hg : GOk g k w) (hr : Row g w 194 1 (.slice (some ⟨b, 0, none⟩) n cap) n xs) (hn : 0 < n) (hn' : n < 1000)
 (h1 : ∀ u ∈ xs, u.oneCell' = true) :
 Calls Tryz.prog 310 #[.slice (some ⟨b, 0, none⟩) n cap] w fun e w' => ∃ v, e = .returned v ∧ RowNew g k 194 n xs w v w' := by
 have hnil := fun w => Lib.run_eql_slice_nil (P := Tryz.prog) w 271 194 (some ⟨b, 0, none⟩) n cap 0 0 Tryz.underlying271
 have hl := hr.1
 have H := Lib.hid hl
 clear hl
 go_enter Tryz.func310, Tryz.ntmps310
 go_wp2_with (at_builtin; refine wpList_append_fr rfl _ _ 271 rfl 194 (.pointer none) 1 8 Tryz.underlying271 Tryz.info194 rfl (by decide) (by decide) (hg.alloc (.cells #[] 194)) (.slice (some ⟨w.heap.size, 0, none⟩) 0 0) 0 [] rfl (row_empty hg) ⟨b, 0, none⟩ n cap xs rfl H.out (row_cells (hr.fr (Fr.alloc g No w _ hg) (fun _ _ h => h))) h1 (by simp only [maxLen]; omega) (by omega) hn ?_; intro v1 w1 happ; have hA := rowNew_of hg happ; clear happ)
 go_ret
 exact ⟨_, rfl, hA⟩
set_option maxHeartbeats 400000 in
theorem Clone311 {g : Gt} {k n b cap : Nat} {xs : List Value} {w : World} (hg : GOk g k w) (hr : Row g w 4 1 (.slice (some ⟨b, 0, none⟩) n cap) n xs) (hn : 0 < n) (hn' : n < 1000)
 (h1 : ∀ u ∈ xs, u.oneCell' = true) :
 Calls Tryz.prog 311 #[.slice (some ⟨b, 0, none⟩) n cap] w fun e w' => ∃ v, e = .returned v ∧ RowNew g k 4 n xs w v w' := by
 have hnil := fun w => Lib.run_eql_slice_nil (P := Tryz.prog) w 168 4 (some ⟨b, 0, none⟩) n cap 0 0 Tryz.underlying168
 have hl := hr.1
 have H := Lib.hid hl
 clear hl
 go_enter Tryz.func311, Tryz.ntmps311
 go_wp2_with (at_builtin; refine wpList_append_fr rfl _ _ 168 rfl 4 (.bool false) 1 1 Tryz.underlying168 Tryz.info4 rfl (by decide) (by decide) (hg.alloc (.cells #[] 4)) (.slice (some ⟨w.heap.size, 0, none⟩) 0 0) 0 [] rfl (row_empty hg) ⟨b, 0, none⟩ n cap xs rfl H.out (row_cells (hr.fr (Fr.alloc g No w _ hg) (fun _ _ h => h))) h1 (by simp only [maxLen]; omega) (by omega) hn ?_; intro v1 w1 happ; have hA := rowNew_of hg happ; clear happ)
 go_ret
 exact ⟨_, rfl, hA⟩
def NewScxR (g : Gt) (k n : Nat) (vs is fs : List Value) (at_ fld : Int) (old new : Option Addr) (w : World) (e : Ending) (w' : World) : Prop :=
 Fr g No w w' ∧ GOk g k w' ∧ ∃ s bv cv bi ci bf cf, e = .returned (.pointer (some ⟨s, 0, none⟩)) ∧ w.heap.size ≤ s ∧ w.heap.size ≤ bv ∧ w.heap.size ≤ bi ∧ w.heap.size ≤ bf ∧
  Cl g w' s #[.slice (some ⟨bv, 0, none⟩) n cv, .slice (some ⟨bi, 0, none⟩) n ci, .slice (some ⟨bf, 0, none⟩) n cf, .int .i64 at_, .int .i64 fld, .pointer old, .pointer new, .int .i64 0, .int .u32 0] 278 ∧
  Row g w' 99 1 (.slice (some ⟨bv, 0, none⟩) n cv) n vs ∧ Row g w' 194 1 (.slice (some ⟨bi, 0, none⟩) n ci) n is ∧ Row g w' 4 1 (.slice (some ⟨bf, 0, none⟩) n cf) n fs
set_option maxHeartbeats 1000000 in
theorem NewScx_any {g : Gt} {k n bv cv bi ci bf cf : Nat} {vs is fs : List Value} {at_ fld : Int} {old new : Option Addr} {w : World} (hg : GOk g k w) (hn : 0 < n) (hn' : n < 1000)
 (hv : Row g w 99 1 (.slice (some ⟨bv, 0, none⟩) n cv) n vs) (hi : Row g w 194 1 (.slice (some ⟨bi, 0, none⟩) n ci) n is) (hf : Row g w 4 1 (.slice (some ⟨bf, 0, none⟩) n cf) n fs)
 (ov : ∀ u ∈ vs, u.oneCell' = true) (oi : ∀ u ∈ is, u.oneCell' = true) (of : ∀ u ∈ fs, u.oneCell' = true) :
 Calls Tryz.prog 274 #[.slice (some ⟨bv, 0, none⟩) n cv, .slice (some ⟨bi, 0, none⟩) n ci, .slice (some ⟨bf, 0, none⟩) n cf, .int .i64 at_, .int .i64 fld, .pointer old, .pointer new] w
  (NewScxR g k n vs is fs at_ fld old new w) := by
 go_enter Tryz.func274, Tryz.ntmps274
 go_wp2_with fail
 refine (Clone309 hg hv hn hn' ov).mono ?_
 rintro e w1 ⟨v1, rfl, f1, g1, b1, c1, rfl, n1, r1⟩
 go_wp2_with fail
 refine (Clone310 g1 (hi.fr f1 (fun _ _ h => h)) hn hn' oi).mono ?_
 rintro e w2 ⟨v2, rfl, f2, g2, b2, c2, rfl, n2, r2⟩
 go_wp2_with fail
 refine (Clone311 g2 (hf.fr (f1.tr f2) (fun _ _ h => h)) hn hn' of).mono ?_
 rintro e w3 ⟨v3, rfl, f3, g3, b3, c3, rfl, n3, r3⟩
 have s1 := f1.size
 have s2 := f2.size
 have s3 := f3.size
 have fall := (f1.tr f2).tr f3
 have r1' := r1.fr (f2.tr f3) (fun _ _ h => h)
 have r2' := r2.fr f3 (fun _ _ h => h)
 clear f1 f2 f3 r1 r2 hv hi hf
 go_wp2_with fail
 go_ret
 have fa := Fr.alloc g No w3 (.cells #[.slice (some ⟨b1, 0, none⟩) n c1, .slice (some ⟨b2, 0, none⟩) n c2, .slice (some ⟨b3, 0, none⟩) n c3, .int .i64 at_, .int .i64 fld, .pointer old, .pointer new, .int .i64 0, .int .u32 0] 278) g3
 exact ⟨fall.tr fa, g3.alloc _, w3.heap.size, b1, c1, b2, c2, b3, c3, rfl, by omega, by omega, by omega, by omega, At.new g3 _, r1'.fr fa (fun _ _ h => h), r2'.fr fa (fun _ _ h => h), r3.fr fa (fun _ _ h => h)⟩
end Go.Proofs.YtdmobhndbibhoaaGreat
namespace Go.Proofs.YtdmobhndbibhoaaGreat
set_option linter.unusedVariables false
set_option linter.unusedSimpArgs false
open Go.RowKit Larch
set_option maxRecDepth 100000
structure VRec where
 b : Nat
 fb : Nat
 d : It
 lf : Bool
 kids : List Nat
 info : Nat
 fin : Bool
 fv : Value
def VRec.fs (r : VRec) : Value := .slice (some ⟨r.fb, 0, none⟩) r.kids.length r.kids.length
def vB (L : List VRec) : List Value := L.map fun r => .pointer (some ⟨r.b, 0, none⟩)
def vI (L : List VRec) : List Value := L.map fun r => .pointer (some ⟨r.info, 0, none⟩)
def vF (L : List VRec) : List Value := L.map fun r => .bool r.fin
def Frozen (g : Gt) (w : World) (L : List VRec) (s k : Nat) : Prop :=
 ∀ i r, L[i]? = some r → Cl g w r.b (rc r.d r.lf r.fs (if i < k then s else r.info) 0) 209 ∧ (k ≤ i → IsScx w r.info)
theorem Frozen.step {g : Gt} {w w' : World} {L : List VRec} {s k : Nat} {r : VRec} (h : Frozen g w L s k) (hn : (L.map (·.b)).Nodup) (hr : L[k]? = some r)
 (hf : Fr g (fun c => c = r.b) w w') (hc : Cl g w' r.b (rc r.d r.lf r.fs s 0) 209) : Frozen g w' L s (k + 1) := by
 intro i q hq
 obtain ⟨h1, h2⟩ := h i q hq
 by_cases e : i = k
 ·subst e
  rw [hr] at hq
  obtain rfl := Option.some.inj hq
  exact ⟨by simpa using hc, fun h => by omega⟩
 ·have hne : q.b ≠ r.b := by
   intro heq
   have hi : (L.map (·.b))[i]? = some q.b := by simp [hq]
   have hk : (L.map (·.b))[k]? = some q.b := by simp [hr, heq]
   obtain ⟨hi1, hi2⟩ := List.getElem?_eq_some_iff.1 hi
   obtain ⟨hk1, hk2⟩ := List.getElem?_eq_some_iff.1 hk
   exact e ((List.getElem_inj hn).1 (hi2.trans hk2.symm))
  refine ⟨?_, fun h => hf.isScx _ (h2 (by omega))⟩
  have := hf.at h1 hne
  have e2 : (i < k + 1) ↔ (i < k) := by omega
  simpa [e2] using this
def HS (L : List VRec) (s fb : Nat) : Nat → Prop := fun c => c = s ∨ c = fb ∨ ∃ r ∈ L, c = r.b
theorem Cl.ne {g : Gt} {w : World} {b c : Nat} {cs ds : Array Value} {T U : TypeId} (h : Cl g w b cs T) (k : Cl g w c ds U) (hne : T ≠ U) : b ≠ c := by
 rintro rfl
 have := h.1.symm.trans k.1
 simp at this
 exact hne this.2
theorem Row.ne {g : Gt} {w : World} {e size n m b cap c : Nat} {xs : List Value} {ds : Array Value} {U : TypeId} (h : Row g w e size (.slice (some ⟨b, 0, none⟩) n cap) m xs) (k : Cl g w c ds U) (hne : e ≠ U) : b ≠ c := by
 rcases h.2 with ⟨h, _⟩ | ⟨b', cap', cur, h, _, _, hc, _⟩
 ·cases h
 ·injection h with h; injection h with h; injection h with h; subst h; exact hc.ne k hne
theorem Row.frB {g : Gt} {S : Nat → Prop} {w w' : World} {e size n m b cap : Nat} {xs : List Value} (h : Row g w e size (.slice (some ⟨b, 0, none⟩) n cap) m xs) (hf : Fr g S w w') (hs : ¬ S b) :
 Row g w' e size (.slice (some ⟨b, 0, none⟩) n cap) m xs := h.fr hf (fun c hc => by simp [Value.ownBlock] at hc; subst hc; exact hs)
theorem mem_of_get {L : List VRec} {k : Nat} {r : VRec} (h : L[k]? = some r) : r ∈ L := List.mem_of_getElem? h
def MarkedR (g : Gt) (w : World) (L : List VRec) (s k : Nat) : Prop :=
 ∀ i r, L[i]? = some r → (k ≤ i ∨ r.fin = false) → Cl g w r.b (rc r.d r.lf r.fs s 0) 209
theorem nodup_ne {L : List VRec} {i k : Nat} {q r : VRec} (hn : (L.map (·.b)).Nodup) (hq : L[i]? = some q) (hr : L[k]? = some r) (e : i ≠ k) : q.b ≠ r.b := by
 intro heq
 have hi : (L.map (·.b))[i]? = some q.b := by simp [hq]
 have hk : (L.map (·.b))[k]? = some q.b := by simp [hr, heq]
 obtain ⟨hi1, hi2⟩ := List.getElem?_eq_some_iff.1 hi
 obtain ⟨hk1, hk2⟩ := List.getElem?_eq_some_iff.1 hk
 exact e ((List.getElem_inj hn).1 (hi2.trans hk2.symm))
theorem MarkedR.step {g : Gt} {w w' : World} {L : List VRec} {s k : Nat} {r : VRec} (h : MarkedR g w L s k) (hn : (L.map (·.b)).Nodup) (hr : L[k]? = some r) (hfin : r.fin = true)
 (hf : Fr g (fun c => c = r.b) w w') : MarkedR g w' L s (k + 1) := by
 intro i q hq hc
 by_cases e : i = k
 ·subst e
  rw [hr] at hq
  obtain rfl := Option.some.inj hq
  rcases hc with hc | hc
  ·omega
  ·rw [hfin] at hc; cases hc
 ·exact hf.at (h i q hq (by rcases hc with h | h; exact .inl (by omega); exact .inr h)) (nodup_ne hn hq hr e)
theorem MarkedR.skip {g : Gt} {w : World} {L : List VRec} {s k : Nat} (h : MarkedR g w L s k) : MarkedR g w L s (k + 1) :=
 fun i q hq hc => h i q hq (by rcases hc with h | h; exact .inl (by omega); exact .inr h)
set_option maxHeartbeats 4000000 in
theorem Help_any {g : Gt} {m s fb bv cv bi ci bf cf f : Nat} {L : List VRec} {r0 : VRec} {fc : Array Value} {old new : Option Addr} {w : World}
 (hg : GOk g m w) (hm : m + 2 * L.length + 3 < LIM) (hL : 0 < L.length) (hL' : L.length < 1000) (h0 : L[0]? = some r0) (hnd : (L.map (·.b)).Nodup)
 (hs : Cl g w s #[.slice (some ⟨bv, 0, none⟩) L.length cv, .slice (some ⟨bi, 0, none⟩) L.length ci, .slice (some ⟨bf, 0, none⟩) L.length cf, .int .i64 0, .int .i64 f, .pointer old, .pointer new, .int .i64 0, .int .u32 0] 278)
 (hv : Row g w 99 1 (.slice (some ⟨bv, 0, none⟩) L.length cv) L.length (vB L)) (hi : Row g w 194 1 (.slice (some ⟨bi, 0, none⟩) L.length ci) L.length (vI L))
 (hf : Row g w 4 1 (.slice (some ⟨bf, 0, none⟩) L.length cf) L.length (vF L)) (hz : Frozen g w L s 0)
 (hfs : r0.fs = .slice (some ⟨fb, 0, none⟩) 2 2) (hfin : r0.fin = false) (hfb : Cl g w fb fc 269) (hf2 : f < 2) (hfc : fc[f]? = some (.pointer old)) (ho : RecP w old) (hq : RecP w new) :
 Calls Tryz.prog 230 #[gval g, .pointer (some ⟨s, 0, none⟩)] w fun e w' => e = .returned (.bool true) ∧ Fr g (HS L s fb) w w' ∧ GOk g (m + 2 * L.length + 3) w' ∧
  Cl g w' r0.b (rc r0.d r0.lf r0.fs s 0) 209 ∧ Cl g w' fb (fc.setIfInBounds f (.pointer new)) 269 ∧ ScxSt g w' s 1 := by
 have hs0 := hs.cell 0
 have HZ := Lib.hid hz
 clear hz
 go_enter Tryz.func230, Tryz.ntmps230
 go_wp2_with fail
 go_loopw [14] (fun i wr => ∃ k : Nat, k ≤ L.length ∧ i = .int .i64 k ∧ Fr g (HS L s fb) w wr ∧ GOk g (m + k) wr ∧ Frozen g wr L s k ∧
  Cl g wr s #[.slice (some ⟨bv, 0, none⟩) L.length cv, .slice (some ⟨bi, 0, none⟩) L.length ci, .slice (some ⟨bf, 0, none⟩) L.length cf, .int .i64 0, .int .i64 f, .pointer old, .pointer new, .int .i64 0, .int .u32 0] 278 ∧
  Row g wr 99 1 (.slice (some ⟨bv, 0, none⟩) L.length cv) L.length (vB L) ∧ Row g wr 194 1 (.slice (some ⟨bi, 0, none⟩) L.length ci) L.length (vI L) ∧
  Row g wr 4 1 (.slice (some ⟨bf, 0, none⟩) L.length cf) L.length (vF L) ∧ Cl g wr fb fc 269)
  (fun i _ => L.length - (intOf i).toNat)
 case atStart => exact ⟨0, Nat.zero_le _, rfl, Fr.refl _ _ _, hg, HZ.out, hs, hv, hi, hf, hfb⟩
 case round =>
  obtain ⟨k, hk, rfl, hFr, hGr, hZr, hsr, hvr, hir, hfr, hfbr⟩ := hrel
  have HZr := Lib.hid hZr
  clear hZr
  by_cases hlt : k < L.length
  ·have hr := List.getElem?_eq_getElem hlt
   generalize L[k] = r at hr
   have HR := Lib.hid hr
   have hc1 : wr.cell? ⟨bv, k, none⟩ = some (.pointer (some ⟨r.b, 0, none⟩)) := by rw [hvr.cell k (by omega)]; simp [vB, hr]
   have hc2 : wr.cell? ⟨bi, k, none⟩ = some (.pointer (some ⟨r.info, 0, none⟩)) := by rw [hir.cell k (by omega)]; simp [vI, hr]
   have hs1 := hsr.cell 1
   clear hr
   go_wp2_with fail
   obtain ⟨hcr, hir'⟩ := HZr.out k r HR.out
   rw [if_neg (by omega)] at hcr
   refine (Rec_Freeze hGr (by omega) hcr (hir' (by omega)) ⟨_, hsr.1, rfl⟩).mono ?_
   rintro e w1 ⟨rfl, hF, hC, hG⟩
   have hZ1 := HZr.out.step hnd HR.out hF hC
   have hF1 : Fr g (HS L s fb) w w1 := hFr.trans hF (fun _ _ h => h) (fun c _ h => .inr (.inr ⟨r, mem_of_get HR.out, h⟩))
   have hs1' := hF.at hsr (hsr.ne hcr (by decide))
   have hv1 := hvr.frB hF (hvr.ne hcr (by decide))
   have hi1 := hir.frB hF (hir.ne hcr (by decide))
   have hf1 := hfr.frB hF (hfr.ne hcr (by decide))
   have hfb1 := hF.at hfbr (hfbr.ne hcr (by decide))
   have HZ1 := Lib.hid hZ1
   clear hZ1 hF hFr hGr hsr hvr hir hfr hfbr hc1 hc2 hs1 hcr hir' hC
   go_wp2_with fail
   go_roundw
   case rel => exact ⟨k + 1, by omega, by go_num, hF1, hG.mono (by omega), HZ1.out, hs1', hv1, hi1, hf1, hfb1⟩
   case measure => simp [intOf]; omega
  ·have hkL : k = L.length := by omega
   subst hkL
   go_wp2_with fail
   refine (Scx_SetAllFrozen hGr (by omega) hsr rfl).mono ?_
   rintro e w1 ⟨rfl, hF, hs1, hG⟩
   have hF1 : Fr g (HS L s fb) w w1 := hFr.trans hF (fun _ _ h => h) (fun c _ h => .inl h)
   have hv1 := hvr.frB hF (hvr.ne hsr (by decide))
   have hi1 := hir.frB hF (hir.ne hsr (by decide))
   have hf1 := hfr.frB hF (hfr.ne hsr (by decide))
   have hfb1 := hF.at hfbr (hfbr.ne hsr (by decide))
   have hM1 : MarkedR g w1 L s 0 := fun i r hr _ => by
    obtain ⟨h1, _⟩ := HZr.out i r hr
    have hlt := (List.getElem?_eq_some_iff.1 hr).1
    rw [if_pos hlt] at h1
    exact hF.at h1 (h1.ne hsr (by decide))
   have hs1 : Cl g w1 s #[.slice (some ⟨bv, 0, none⟩) L.length cv, .slice (some ⟨bi, 0, none⟩) L.length ci, .slice (some ⟨bf, 0, none⟩) L.length cf, .int .i64 0, .int .i64 f, .pointer old, .pointer new, .int .i64 0, .int .u32 1] 278 := hs1
   have HM := Lib.hid hM1
   have hs10 := hs1.cell 0
   clear hM1 hF hFr hsr hvr hir hfr hfbr hGr HZr
   go_wp2_with fail
   go_loopw [52] (fun i wr => ∃ k : Nat, k ≤ L.length ∧ i = .int .i64 k ∧ Fr g (HS L s fb) w wr ∧ GOk g (m + L.length + 1 + k) wr ∧ MarkedR g wr L s k ∧
    Cl g wr s #[.slice (some ⟨bv, 0, none⟩) L.length cv, .slice (some ⟨bi, 0, none⟩) L.length ci, .slice (some ⟨bf, 0, none⟩) L.length cf, .int .i64 0, .int .i64 f, .pointer old, .pointer new, .int .i64 0, .int .u32 1] 278 ∧
    Row g wr 99 1 (.slice (some ⟨bv, 0, none⟩) L.length cv) L.length (vB L) ∧
    Row g wr 4 1 (.slice (some ⟨bf, 0, none⟩) L.length cf) L.length (vF L) ∧ Cl g wr fb fc 269)
    (fun i _ => L.length - (intOf i).toNat)
   case atStart => exact ⟨0, Nat.zero_le _, rfl, hF1, hG.mono (by omega), HM.out, hs1, hv1, hf1, hfb1⟩
   case round =>
    obtain ⟨k, hk, rfl, hFr, hGr, hMr, hsr, hvr, hfr, hfbr⟩ := hrel
    have HMr := Lib.hid hMr
    clear hMr hs1 hv1 hi1 hf1 hfb1 HM hs10 hF1 hG
    by_cases hlt : k < L.length
    ·have hr := List.getElem?_eq_getElem hlt
     generalize L[k] = r at hr
     have HR := Lib.hid hr
     have hc1 : wr.cell? ⟨bv, k, none⟩ = some (.pointer (some ⟨r.b, 0, none⟩)) := by rw [hvr.cell k (by omega)]; simp [vB, hr]
     have hs1 := hsr.cell 2
     cases hfn : r.fin with
     | false =>
       have hc2 : wr.cell? ⟨bf, k, none⟩ = some (.bool false) := by rw [hfr.cell k (by omega)]; simp [vF, hr, hfn]
       clear hr hfn
       have HMs := Lib.hid HMr.out.skip
       go_wp2_with fail
       go_roundw
       case rel => exact ⟨k + 1, by omega, by go_num, hFr, hGr.mono (by omega), HMs.out, hsr, hvr, hfr, hfbr⟩
       case measure => simp [intOf]; omega
     | true =>
       have hc2 : wr.cell? ⟨bf, k, none⟩ = some (.bool true) := by rw [hfr.cell k (by omega)]; simp [vF, hr, hfn]
       have HN := Lib.hid hfn
       clear hr hfn
       go_wp2_with fail
       have hcr := HMr.out k r HR.out (.inl (Nat.le_refl _))
       refine (Rec_Mark hGr (by omega) hcr).mono ?_
       rintro e w2 ⟨rfl, hF, hC, hG2⟩
       have hZ1 := HMr.out.step hnd HR.out HN.out hF
       have hF2 : Fr g (HS L s fb) w w2 := hFr.trans hF (fun _ _ h => h) (fun c _ h => .inr (.inr ⟨r, mem_of_get HR.out, h⟩))
       have hs2 := hF.at hsr (hsr.ne hcr (by decide))
       have hv2 := hvr.frB hF (hvr.ne hcr (by decide))
       have hf2' := hfr.frB hF (hfr.ne hcr (by decide))
       have hfb2 := hF.at hfbr (hfbr.ne hcr (by decide))
       have HZ1 := Lib.hid hZ1
       clear hZ1 hF hFr hGr hsr hvr hfr hfbr hc1 hc2 hs1 hcr hC
       go_wp2_with fail
       go_roundw
       case rel => exact ⟨k + 1, by omega, by go_num, hF2, hG2.mono (by omega), HZ1.out, hs2, hv2, hf2', hfb2⟩
       case measure => simp [intOf]; omega
    ·have hkL : k = L.length := by omega
     subst hkL
     have hc0 := hsr.cell 0
     have hc3 := hsr.cell 3
     have hc4 := hsr.cell 4
     have hc5 := hsr.cell 5
     have hc6 := hsr.cell 6
     have hcb : wr.cell? ⟨bv, 0, none⟩ = some (.pointer (some ⟨r0.b, 0, none⟩)) := by rw [hvr.cell 0 (by omega)]; simp [vB, h0]
     have hLi : (0 : Int) < (L.length : Int) := by omega
     go_wp2_with fail
     go_still_tail 23, (by kernel_rfl)
     go_wp2_with fail
     have hr0 := HMr.out 0 r0 h0 (.inr hfin)
     rw [hfs] at hr0
     refine (Rec_Swing (w := wr.drew) hGr.drew (by omega) hr0.drew hfbr.drew hf2 hfc (ho.fr (hFr.tr (Fr.drew _ _ _))) (hq.fr (hFr.tr (Fr.drew _ _ _)))).mono ?_
     rintro e w3 ⟨rfl, hF, hC, hG3⟩
     have hF3 : Fr g (HS L s fb) w w3 := (hFr.tr (Fr.drew _ _ _)).trans hF (fun _ _ h => h) (fun c _ h => .inr (.inl h))
     have hs3 := hF.at hsr.drew (fun h => hfbr.ne hsr (by decide) h.symm)
     have hr3 := hF.at hr0.drew (fun h => hfbr.ne hr0 (by decide) h.symm)
     clear hF hFr hsr hvr hfr hfbr hr0 hc0 hc3 hc4 hc5 hc6 hcb hGr
     go_wp2_with fail
     refine (Scx_Commit hG3 (by omega) hs3 rfl).mono ?_
     rintro e w4 ⟨rfl, hF, hs4, hG4⟩
     have hF4 : Fr g (HS L s fb) w w4 := hF3.trans hF (fun _ _ h => h) (fun c _ h => .inl h)
     have hr4 := hF.at hr3 (Cl.ne hr3 hs3 (by decide))
     have hC4 := hF.at hC (Cl.ne hC hs3 (by decide))
     rw [← hfs] at hr4
     have HE : Hid (Fr g (HS L s fb) w w4 ∧ GOk g (m + 2 * L.length + 3) w4 ∧ Cl g w4 r0.b (rc r0.d r0.lf r0.fs s 0) 209 ∧ Cl g w4 fb (fc.setIfInBounds f (.pointer new)) 269 ∧ ScxSt g w4 s 1) :=
      ⟨hF4, hG4.mono (by omega), hr4, hC4, _, hs4, rfl, rfl⟩
     clear hF hF3 hF4 hr3 hr4 hC hC4 hs3 hs4
     go_wp2_with fail
     go_ret
     exact ⟨rfl, HE.out⟩
end Go.Proofs.YtdmobhndbibhoaaGreat
