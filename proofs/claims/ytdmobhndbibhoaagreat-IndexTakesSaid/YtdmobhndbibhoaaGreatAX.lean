/- llx.want and SCX. -/
import Derived.Test.YtdmobhndbibhoaaGreatA8
import Derived.Deep.RegionHeld3
namespace Go.Proofs.YtdmobhndbibhoaaGreat
set_option linter.unusedVariables false
set_option linter.unusedSimpArgs false
open Go.RowKit Larch
set_option maxRecDepth 100000
def vL (L : List VRec) : List Value := L.flatMap fun r => [.pointer (some ⟨r.b, 0, none⟩), .pointer (some ⟨r.info, 0, none⟩), r.fv]
theorem vL_get (L : List VRec) : ∀ (k : Nat) (r : VRec), L[k]? = some r → (vL L)[k * 3]? = some (.pointer (some ⟨r.b, 0, none⟩)) ∧ (vL L)[k * 3 + 1]? = some (.pointer (some ⟨r.info, 0, none⟩)) ∧ (vL L)[k * 3 + 2]? = some r.fv := by
 induction L with
 | nil => intro k r h; simp at h
 | cons a L ih =>
   intro k r h
   have e : vL (a :: L) = .pointer (some ⟨a.b, 0, none⟩) :: .pointer (some ⟨a.info, 0, none⟩) :: a.fv :: vL L := rfl
   rw [e]
   cases k with
   | zero => simp at h; subst h; exact ⟨rfl, rfl, rfl⟩
   | succ k =>
     have := ih k r (by simpa using h)
     rw [show (k + 1) * 3 = k * 3 + 3 from by omega]
     simpa [List.getElem?_cons] using this
theorem app_gen {g : Gt} {k e n B : Nat} {x : Value} {xs : List Value} {w w2 w' : World} {v v' : Value}
 (h : Appended g k e 1 v (n + 1) (xs ++ [x]) w2 v' w') (h2 : Fr g No w w2) (hB : ∀ c, v.ownBlock = some c → B ≤ c) (hB' : B ≤ w.heap.size) :
 Fr g (fun c => v.ownBlock = some c) w w' ∧ GOk g k w' ∧ ∃ b cap', v' = .slice (some ⟨b, 0, none⟩) (n + 1) cap' ∧ Row g w' e 1 (.slice (some ⟨b, 0, none⟩) (n + 1) cap') (n + 1) (xs ++ [x]) ∧ B ≤ b ∧
  (v.ownBlock = some b ∨ w.heap.size ≤ b) := by
 obtain ⟨hr, hf, hG, b, cap', rfl, hb⟩ := h
 have hs := h2.size
 refine ⟨h2.trans hf (fun _ _ h => h.elim) (fun b _ h => h), hG, b, cap', rfl, hr, ?_, ?_⟩
 ·rcases hb with h | h
  ·exact hB b h
  ·omega
 ·rcases hb with h | h
  ·exact .inl h
  ·exact .inr (by omega)
theorem cell_one_at {w : World} {x : Value} {e b : Nat} (hb : b = w.heap.size) : ∀ j u, [x][j]? = some u → (w.alloc (.cells #[x] e)).cell? ((⟨b, 0, none⟩ : Addr).add j) = some u := by
 subst hb
 intro j u h
 cases j with
 | zero => simp at h; subst h; simp [Addr.add]
 | succ j => simp at h
theorem Row.ne2 {g : Gt} {w : World} {e e' n m k : Nat} {v v' : Value} {xs ys : List Value} {size : Nat} (h : Row g w e size v n xs) (h' : Row g w e' k v' m ys) (hne : e ≠ e') (c : Nat) (hc : v.ownBlock = some c) :
 v'.ownBlock ≠ some c := by
 intro hc'
 rcases h.2 with ⟨rfl, _⟩ | ⟨b, cap, cur, rfl, _, _, hb, _⟩
 ·simp [Value.ownBlock] at hc
 ·rcases h'.2 with ⟨rfl, _⟩ | ⟨b', cap', cur', rfl, _, _, hb', _⟩
  ·simp [Value.ownBlock] at hc'
  ·simp [Value.ownBlock] at hc hc'
   subst hc
   rw [hc'] at hb'
   exact hb.ne hb' hne rfl
theorem take_vB {L : List VRec} {k : Nat} {r : VRec} (h : L[k]? = some r) : vB (L.take (k + 1)) = vB (L.take k) ++ [.pointer (some ⟨r.b, 0, none⟩)] := by
 obtain ⟨hl, he⟩ := List.getElem?_eq_some_iff.1 h
 rw [List.take_succ_eq_append_getElem hl, he]; simp [vB]
theorem take_vI {L : List VRec} {k : Nat} {r : VRec} (h : L[k]? = some r) : vI (L.take (k + 1)) = vI (L.take k) ++ [.pointer (some ⟨r.info, 0, none⟩)] := by
 obtain ⟨hl, he⟩ := List.getElem?_eq_some_iff.1 h
 rw [List.take_succ_eq_append_getElem hl, he]; simp [vI]
set_option maxHeartbeats 2000000 in
theorem want_any {g : Gt} {m bv cv bf cf b0 c0 f : Nat} {L : List VRec} {r0 : VRec} {old p : Option Addr} {xs : List Value} {w : World}
 (hg : GOk g m w) (hL : 0 < L.length) (hL' : L.length < 1000) (h0 : L[0]? = some r0)
 (hv : Row g w 220 3 (.slice (some ⟨bv, 0, none⟩) L.length cv) L.length (vL L)) (hf : Row g w 4 1 (.slice (some ⟨bf, 0, none⟩) L.length cf) L.length (vF L))
 (hfv : r0.fv = .slice (some ⟨b0, 0, none⟩) 2 c0) (hx : Row g w 99 1 (.slice (some ⟨b0, 0, none⟩) 2 c0) 2 xs) (hf2 : f < 2) (hxf : xs[f]? = some (.pointer old)) (hsl : ∀ r ∈ L, ∃ a l c, r.fv = .slice a l c) :
 Calls Tryz.prog 231 #[.slice (some ⟨bv, 0, none⟩) L.length cv, .slice (some ⟨bf, 0, none⟩) L.length cf, .int .i64 0, .int .i64 f, .pointer p] w
  (NewScxR g m L.length (vB L) (vI L) (vF L) 0 f old p w) := by
 go_enter Tryz.func231, Tryz.ntmps231
 go_wp2_with fail
 go_loopw [11, 12, 17] (fun v11 v12 i wr => ∃ k : Nat, k ≤ L.length ∧ i = .int .i64 k ∧ Fr g No w wr ∧ GOk g m wr ∧
  Row g wr 99 1 v11 k (vB (L.take k)) ∧ Row g wr 194 1 v12 k (vI (L.take k)) ∧ (∀ c, v11.ownBlock = some c → w.heap.size ≤ c) ∧ (∀ c, v12.ownBlock = some c → w.heap.size ≤ c))
  (fun _ _ i _ => L.length - (intOf i).toNat)
 case atStart => exact ⟨0, Nat.zero_le _, rfl, Fr.refl _ _ _, hg, Row.nil, Row.nil, fun c h => by simp [Value.ownBlock] at h, fun c h => by simp [Value.ownBlock] at h⟩
 case round =>
  obtain ⟨k, hk, rfl, hFr, hGr, hr1, hr2, hn1, hn2⟩ := hrel
  by_cases hlt : k < L.length
  ·have hr := List.getElem?_eq_getElem hlt
   generalize L[k] = r at hr
   have HR := Lib.hid hr
   obtain ⟨q0, q1, q2⟩ := vL_get L k r hr
   have hvr := hv.fr hFr (fun _ _ h => h)
   have hc0 : wr.cell? ⟨bv, k * 3, none⟩ = some (.pointer (some ⟨r.b, 0, none⟩)) := by rw [hvr.cell (k * 3) (by omega), q0]
   have hc1 : wr.cell? ⟨bv, k * 3 + 1, none⟩ = some (.pointer (some ⟨r.info, 0, none⟩)) := by rw [hvr.cell (k * 3 + 1) (by omega), q1]
   have hc2 : wr.cell? ⟨bv, k * 3 + 2, none⟩ = some r.fv := by rw [hvr.cell (k * 3 + 2) (by omega), q2]
   obtain ⟨fa, fl, fcp, hfvr⟩ := hsl r (mem_of_get hr)
   rw [hfvr] at hc2
   clear hr q0 q1 q2 hfvr
   have H1 := Lib.hid hr1
   have H2 := Lib.hid hr2
   have HN := Lib.hid (And.intro hn1 hn2)
   obtain ⟨a1, l1, e1⟩ := hr1.slice
   obtain ⟨a2, l2, e2⟩ := hr2.slice
   subst e1 e2
   clear hr1 hr2 hn1 hn2
   have HFV := Lib.hid hfv
   clear hfv
   go_wp2_with (at_builtin; first
    |(refine wpList_append_fr rfl (.tmp 21) _ 192 rfl 99 (.pointer none) 1 8 Tryz.underlying192 Tryz.info99 rfl (by decide) (by decide) ((hGr.alloc _).alloc _) (.slice a1 k l1) k (vB (L.take k)) rfl ((H1.out.fr (Fr.alloc g No wr _ hGr) (fun _ _ h => h)).fr (Fr.alloc g No _ _ (hGr.alloc _)) (fun _ _ h => h)) ⟨wr.heap.size + 1, 0, none⟩ 1 1 [.pointer (some ⟨r.b, 0, none⟩)] rfl rfl (cell_one_at (by simp)) (by simp [Value.oneCell']) (by simp only [maxLen]; omega) (by omega) (by decide) ?_
      intro v1 w1 happ
      have hF0 := (Fr.alloc g No wr (.cells #[.pointer (some ⟨r.b, 0, none⟩), .pointer (some ⟨r.info, 0, none⟩), .slice fa fl fcp] 220) hGr).tr (Fr.alloc g No _ (.cells #[.pointer (some ⟨r.b, 0, none⟩)] 99) (hGr.alloc _))
      have hA1 := At.alloc (hGr.alloc _) (At.new hGr (.cells #[.pointer (some ⟨r.b, 0, none⟩), .pointer (some ⟨r.info, 0, none⟩), .slice fa fl fcp] 220)) (.cells #[.pointer (some ⟨r.b, 0, none⟩)] 99)
      have hA2 := happ.2.1.at hA1 (fun h => by have := H1.out.lt h; omega)
      have hc3 : w1.cell? ⟨wr.heap.size, 1, none⟩ = some (.pointer (some ⟨r.info, 0, none⟩)) := hA2.cell 1
      obtain ⟨hf1, hG1, bb, cap1, rfl, hr1, hb1, hb1'⟩ := app_gen happ hF0 HN.out.1 hFr.size
      clear happ hF0 hA1 hA2
      have HA := Lib.hid (And.intro hf1 (And.intro hr1 (And.intro hb1 hb1')))
      clear hf1 hr1 hb1 hb1')
    |(refine wpList_append_fr rfl (.tmp 26) _ 271 rfl 194 (.pointer none) 1 8 Tryz.underlying271 Tryz.info194 rfl (by decide) (by decide) (hG1.alloc _) (.slice a2 k l2) k (vI (L.take k)) rfl ((H2.out.fr HA.out.1 (fun c h1 h2 => H1.out.ne2 H2.out (by decide) c h2 h1)).fr (Fr.alloc g No _ _ hG1) (fun _ _ h => h)) ⟨w1.heap.size, 0, none⟩ 1 1 [.pointer (some ⟨r.info, 0, none⟩)] rfl rfl (cell_one_at rfl) (by simp [Value.oneCell']) (by simp only [maxLen]; omega) (by omega) (by decide) ?_
      intro v2 w2 happ2
      have happ2' := app_gen happ2 (Fr.alloc g No w1 _ hG1) HN.out.2 (Nat.le_trans hFr.size HA.out.1.size)
      clear happ2
      obtain ⟨hf2, hG2, b2, cap2, rfl, hr2, hb2, hb2'⟩ := happ2'
      have HB := Lib.hid (And.intro hf2 (And.intro hr2 (And.intro hb2 hb2')))
      clear hf2 hr2 hb2 hb2'))
   go_roundw
   case rel =>
    obtain ⟨f1, r1, n1, m1⟩ := HA.out
    obtain ⟨f2, r2, n2, m2⟩ := HB.out
    have hs1 := f1.size
    have hs0 := hFr.size
    refine ⟨k + 1, by omega, by go_num, ?_, hG2, ?_, ?_, fun c h => by simp [Value.ownBlock] at h; omega, fun c h => by simp [Value.ownBlock] at h; omega⟩
    ·exact (hFr.trans f1 (T := No) (fun _ _ h => h) (fun c hc h => by have := HN.out.1 c h; omega)).trans f2 (fun _ _ h => h) (fun c hc h => by have := HN.out.2 c h; omega)
    ·rw [take_vB HR.out]
     exact r1.fr f2 (fun c h h' => by
      simp [Value.ownBlock] at h; subst h
      rcases m1 with m1 | m1
      ·exact H1.out.ne2 H2.out (by decide) _ m1 h'
      ·have := H2.out.lt h'; omega)
    ·rw [take_vI HR.out]; exact r2
   case measure => simp [intOf]; omega
  ·have hkL : k = L.length := by omega
   subst hkL
   rw [List.take_length] at hr1 hr2
   have hvr := hv.fr hFr (fun _ _ h => h)
   have hxr := hx.fr hFr (fun _ _ h => h)
   have hfr := hf.fr hFr (fun _ _ h => h)
   obtain ⟨q0, q1, q2⟩ := vL_get L 0 r0 h0
   have hc2 : wr.cell? ⟨bv, 2, none⟩ = some (.slice (some ⟨b0, 0, none⟩) 2 c0) := by rw [hvr.cell 2 (by omega), ← hfv]; exact q2
   have hc3 : wr.cell? ⟨b0, f, none⟩ = some (.pointer old) := by rw [hxr.cell f (by omega), hxf]
   obtain ⟨b1, l1, rfl⟩ := hr1.pos hL
   obtain ⟨b2, l2, rfl⟩ := hr2.pos hL
   have hLi : (0 : Int) < (L.length : Int) := by omega
   have HFV := Lib.hid hfv
   clear hfv q0 q1 q2 hxf
   go_wp2_with fail
   have one1 : ∀ u ∈ vB L, u.oneCell' = true := fun u hu => by obtain ⟨r, _, rfl⟩ := List.mem_map.1 hu; rfl
   have one2 : ∀ u ∈ vI L, u.oneCell' = true := fun u hu => by obtain ⟨r, _, rfl⟩ := List.mem_map.1 hu; rfl
   have one3 : ∀ u ∈ vF L, u.oneCell' = true := fun u hu => by obtain ⟨r, _, rfl⟩ := List.mem_map.1 hu; rfl
   refine (NewScx_any hGr hL hL' hr1 hr2 hfr one1 one2 one3).mono ?_
   rintro e w' ⟨hF, hG, s, b3, c3, b4, c4, b5, c5, rfl, h1, h2, h3, h4, h5, h6, h7, h8⟩
   have hs := hFr.size
   have HE : Hid (NewScxR g m L.length (vB L) (vI L) (vF L) 0 f old p w (.returned (.pointer (some ⟨s, 0, none⟩))) w') := ⟨hFr.tr hF, hG, s, b3, c3, b4, c4, b5, c5, rfl, by omega, by omega, by omega, by omega, h5, h6, h7, h8⟩
   clear hF h5 h6 h7 h8
   go_wp2_with fail
   go_ret
   exact HE.out
def LinkedAll (g : Gt) (w : World) (L : List VRec) : Prop := ∀ r ∈ L, Cl g w r.b (rc r.d r.lf r.fs r.info 0) 209 ∧ IsScx w r.info
def SwapR (g : Gt) (m fb f : Nat) (L : List VRec) (r0 : VRec) (fc : Array Value) (p : Option Addr) (w : World) (e : Ending) (w' : World) : Prop :=
 e = .returned (.bool true) ∧ Fr g (fun c => c = fb ∨ ∃ r ∈ L, c = r.b) w w' ∧ GOk g (m + 2 * L.length + 3) w' ∧
   ∃ s, w.heap.size ≤ s ∧ Cl g w' r0.b (rc r0.d r0.lf r0.fs s 0) 209 ∧ Cl g w' fb (fc.setIfInBounds f (.pointer p)) 269 ∧ ScxSt g w' s 1
set_option maxHeartbeats 2000000 in
theorem SCX_any {g : Gt} {m bv cv bf cf b0 c0 f fb : Nat} {L : List VRec} {r0 : VRec} {fc : Array Value} {old p : Option Addr} {xs : List Value} {w : World}
 (hg : GOk g m w) (hm : m + 2 * L.length + 3 < LIM) (hL : 0 < L.length) (hL' : L.length < 1000) (h0 : L[0]? = some r0) (hnd : (L.map (·.b)).Nodup)
 (hv : Row g w 220 3 (.slice (some ⟨bv, 0, none⟩) L.length cv) L.length (vL L)) (hf : Row g w 4 1 (.slice (some ⟨bf, 0, none⟩) L.length cf) L.length (vF L))
 (hfv : r0.fv = .slice (some ⟨b0, 0, none⟩) 2 c0) (hx : Row g w 99 1 (.slice (some ⟨b0, 0, none⟩) 2 c0) 2 xs) (hf2 : f < 2) (hxf : xs[f]? = some (.pointer old)) (hsl : ∀ r ∈ L, ∃ a l c, r.fv = .slice a l c)
 (hlk : LinkedAll g w L) (hfs : r0.fs = .slice (some ⟨fb, 0, none⟩) 2 2) (hfin : r0.fin = false) (hfb : Cl g w fb fc 269) (hfc : fc[f]? = some (.pointer old)) (ho : RecP w old) (hq : RecP w p) :
 Calls Tryz.prog 188 #[gval g, .slice (some ⟨bv, 0, none⟩) L.length cv, .slice (some ⟨bf, 0, none⟩) L.length cf, .int .i64 0, .int .i64 f, .pointer p] w (SwapR g m fb f L r0 fc p w) := by
 go_enter Tryz.func188, Tryz.ntmps188
 go_wp2_with fail
 refine (want_any hg hL hL' h0 hv hf hfv hx hf2 hxf hsl).mono ?_
 rintro e w1 ⟨hF, hG, s, b3, c3, b4, c4, b5, c5, rfl, h1, h2, h3, h4, h5, h6, h7, h8⟩
 have hz : Frozen g w1 L s 0 := fun i r hr => by
  obtain ⟨k1, k2⟩ := hlk r (mem_of_get hr)
  exact ⟨by simpa using hF.at k1 id, fun _ => hF.isScx _ k2⟩
 have HZ := Lib.hid hz
 have hfb1 := hF.at hfb id
 clear hz hv hf hx hfb
 go_wp2_with fail
 refine (Help_any hG hm hL hL' h0 hnd h5 h6 h7 h8 HZ.out hfs hfin hfb1 hf2 hfc (ho.fr hF) (hq.fr hF)).mono ?_
 rintro e w2 ⟨rfl, hF2, hG2, hr2, hfb2, hst⟩
 have hFF : Fr g (fun c => c = fb ∨ ∃ r ∈ L, c = r.b) w w2 := hF.trans hF2 (fun _ _ h => h.elim) (fun c hc h => by
  rcases h with h | h | h
  ·omega
  ·exact .inl h
  ·exact .inr h)
 have HE : Hid (SwapR g m fb f L r0 fc p w (.returned (.bool true)) w2) := ⟨rfl, hFF, hG2, s, h1, hr2, hfb2, hst⟩
 clear hF hF2 hr2 hfb2 hst hFF h5 h6 h7 h8 hfb1
 go_wp2_with fail
 go_ret
 exact HE.out
end Go.Proofs.YtdmobhndbibhoaaGreat
namespace Go.Proofs.YtdmobhndbibhoaaGreat
set_option linter.unusedVariables false
set_option linter.unusedSimpArgs false
section
variable {P : Program} {ops : Array Oper} {Q : Exit → Act → World → Prop} {md : Region.Mode} {S : World → Prop} {X : List Nat}
def NoneOf (X : List Nat) (listed : Array Bool) : Prop := ∀ x ∈ X, listed.getD x true = false
def wpAnyX (P : Program) (md : Region.Mode) (ops : Array Oper) (Q : Exit → Act → World → Prop) (S : World → Prop) (X : List Nat) : Nat → Array Bool → Act → World → Prop
 | 0, listed, a, w => Region.ready md ops listed = [] ∧ Q .normal a w
 | fuel + 1, listed, a, w =>
   (Region.ready md ops listed = [] → Q .normal a w) ∧
   ∀ i ∈ Region.ready md ops listed, wpOp P ops Q i (fun a' w' => (NoneOf X (listed.setIfInBounds i true) → S w') ∧ wpAnyX P md ops Q S X fuel (listed.setIfInBounds i true) a' w') a w
theorem wpAny_of_X : ∀ (fuel : Nat) (listed : Array Bool) (a : Act) (w : World), wpAnyX P md ops Q S X fuel listed a w → wpAny P md ops Q fuel listed a w
 | 0, _, _, _, h => h
 | fuel + 1, _, _, _, h => ⟨h.1, fun i hi => wpOp_mono (fun a' w' h' => wpAny_of_X fuel _ a' w' h'.2) (h.2 i hi)⟩
theorem NoneOf.set {listed : Array Bool} {j : Nat} (h : NoneOf X listed) (hj : j ∉ X) : NoneOf X (listed.setIfInBounds j true) := fun x hx => by
 rw [getD_set_ne true (by rintro rfl; exact hj hx)]; exact h x hx
theorem wpAnyX_first {i : Nat} {oi : Oper} {v : Value} (hi : ops[i]? = some oi) (hsel : ∀ (j : Nat) (o : Oper) cs b, ops[j]? = some o → o.op ≠ .select cs b)
 (hQ : ∀ c a w, Q (.panic c) (a.put oi.dst v) w → Q (.panic c) a w) (hX : ∀ x ∈ X, x ≠ i ∧ ∀ ox, ops[x]? = some ox → ∃ e ∈ ox.after, Region.binds md e = true ∧ e.on = i) :
 ∀ (fuel : Nat) (listed : Array Bool) (a : Act) (w : World),
   (∀ j oj, ops[j]? = some oj → j ≠ i → listed.getD j true = false → (∀ e ∈ oj.after, Region.binds md e = true → e.on ≠ i) → oi.apart ops oj = true) →
   i ∈ Region.ready md ops listed → YieldsIf P ops S oi v a → S w → NoneOf X listed →
   wpAnyX P md ops Q S X fuel (listed.setIfInBounds i true) (a.put oi.dst v) w → wpAnyX P md ops Q S X (fuel + 1) listed a w := by
 have hXi : i ∉ X := fun h => (hX i h).1 rfl
 intro fuel
 induction fuel with
 | zero =>
   intro listed a w _ hr hy hS hN H
   refine ⟨fun h => (by rw [h] at hr; cases hr), fun j hj => ?_⟩
   by_cases hji : j = i
   ·subst hji; exact hy.wpOp hi hS ⟨fun _ => hS, H⟩
   ·have := ready_mono hj hji
    rw [H.1] at this
    cases this
 | succ fuel ih =>
   intro listed a w hfree hr hy hS hN H
   refine ⟨fun h => (by rw [h] at hr; cases hr), fun j hj => ?_⟩
   by_cases hji : j = i
   ·subst hji; exact hy.wpOp hi hS ⟨fun _ => hS, H⟩
   ·have h1 := H.2 j (ready_mono hj hji)
    obtain ⟨hjun, oj, hoj, hall⟩ := mem_ready.1 hj
    have hnot : ∀ e ∈ oj.after, Region.binds md e = true → e.on ≠ i := fun e he hb heq => by
     have h1 := hall e he hb
     have h0 := (mem_ready.1 hr).1
     rw [heq] at h1
     rcases Nat.lt_or_ge i listed.size with h' | h'
     ·simp [h'] at h0 h1; rw [h0] at h1; cases h1
     ·simp [Array.getElem?_eq_none h'] at h1
    have hjX : j ∉ X := fun h => by
     obtain ⟨e, he, hb, heq⟩ := (hX j h).2 oj hoj
     exact hnot e he hb heq
    have h2 := wpOp_putIf hoj (hfree j oj hoj hji hjun hnot) (fun cs b => hsel i oi cs b hi) (fun cs b => hsel j oj cs b hoj) hQ hy h1
    have hfree' : ∀ k ok, ops[k]? = some ok → k ≠ i → (listed.setIfInBounds j true).getD k true = false →
     (∀ e ∈ ok.after, Region.binds md e = true → e.on ≠ i) → oi.apart ops ok = true := fun k ok hk hki hun hno => by
     refine hfree k ok hk hki ?_ hno
     by_cases hjk : j = k
     ·subst hjk; exact hjun
     ·rw [getD_set_ne true hjk] at hun; exact hun
    have hN' := hN.set hjX
    refine wpOp_mono (fun a' w' h3 => ?_) h2
    have hS' := h3.2.1 ((hN.set hXi).set hjX)
    refine ⟨fun _ => hS', ih (listed.setIfInBounds j true) a' w' hfree' (ready_mono hr (Ne.symm hji)) h3.1 hS' hN' ?_⟩
    rw [Array.setIfInBounds_comm _ _ hji]
    exact h3.2.2
theorem wpAnyX_firstY {i : Nat} {oi : Oper} {v : Value} (hi : ops[i]? = some oi) (hsel : ∀ (j : Nat) (o : Oper) cs b, ops[j]? = some o → o.op ≠ .select cs b)
 (hQ : ∀ c a w, Q (.panic c) (a.put oi.dst v) w → Q (.panic c) a w) (hXi : i ∉ X) :
 ∀ (fuel : Nat) (listed : Array Bool) (a : Act) (w : World),
   (∀ j oj, ops[j]? = some oj → j ≠ i → listed.getD j true = false → (∀ e ∈ oj.after, Region.binds md e = true → e.on ≠ i) → oi.apart ops oj = true) →
   i ∈ Region.ready md ops listed → YieldsIf P ops (fun _ => True) oi v a → (NoneOf X listed → S w) →
   wpAnyX P md ops Q S X fuel (listed.setIfInBounds i true) (a.put oi.dst v) w → wpAnyX P md ops Q S X (fuel + 1) listed a w := by
 have hback : ∀ listed : Array Bool, NoneOf X (listed.setIfInBounds i true) → NoneOf X listed := fun listed h x hx => by
  have := h x hx
  rwa [getD_set_ne true (by rintro rfl; exact hXi hx)] at this
 intro fuel
 induction fuel with
 | zero =>
   intro listed a w _ hr hy hS H
   refine ⟨fun h => (by rw [h] at hr; cases hr), fun j hj => ?_⟩
   by_cases hji : j = i
   ·subst hji; exact hy.wpOp hi trivial ⟨fun h => hS (hback _ h), H⟩
   ·have := ready_mono hj hji
    rw [H.1] at this
    cases this
 | succ fuel ih =>
   intro listed a w hfree hr hy hS H
   refine ⟨fun h => (by rw [h] at hr; cases hr), fun j hj => ?_⟩
   by_cases hji : j = i
   ·subst hji; exact hy.wpOp hi trivial ⟨fun h => hS (hback _ h), H⟩
   ·have h1 := H.2 j (ready_mono hj hji)
    obtain ⟨hjun, oj, hoj, hall⟩ := mem_ready.1 hj
    have hnot : ∀ e ∈ oj.after, Region.binds md e = true → e.on ≠ i := fun e he hb heq => by
     have h1 := hall e he hb
     have h0 := (mem_ready.1 hr).1
     rw [heq] at h1
     rcases Nat.lt_or_ge i listed.size with h' | h'
     ·simp [h'] at h0 h1; rw [h0] at h1; cases h1
     ·simp [Array.getElem?_eq_none h'] at h1
    have h2 := wpOp_putIf hoj (hfree j oj hoj hji hjun hnot) (fun cs b => hsel i oi cs b hi) (fun cs b => hsel j oj cs b hoj) hQ hy h1
    have hfree' : ∀ k ok, ops[k]? = some ok → k ≠ i → (listed.setIfInBounds j true).getD k true = false →
     (∀ e ∈ ok.after, Region.binds md e = true → e.on ≠ i) → oi.apart ops ok = true := fun k ok hk hki hun hno => by
     refine hfree k ok hk hki ?_ hno
     by_cases hjk : j = k
     ·subst hjk; exact hjun
     ·rw [getD_set_ne true hjk] at hun; exact hun
    refine wpOp_mono (fun a' w' h3 => ?_) h2
    have hS' : NoneOf X (listed.setIfInBounds j true) → S w' := fun hN => h3.2.1 (by
     rw [Array.setIfInBounds_comm _ _ (Ne.symm hji)]
     exact hN.set hXi)
    refine ⟨hS', ih (listed.setIfInBounds j true) a' w' hfree' (ready_mono hr (Ne.symm hji)) h3.1 hS' ?_⟩
    rw [Array.setIfInBounds_comm _ _ hji]
    exact h3.2.2
theorem gone {S : World → Prop} {w : World} {listed : Array Bool} (x : Nat) (hx : (X.contains x && listed.getD x true) = true) : NoneOf X listed → S w := fun h => by
 simp only [Bool.and_eq_true, List.contains_eq_mem, decide_eq_true_eq] at hx
 have := h x hx.1
 rw [hx.2] at this
 cases this
theorem wpAnyX_takeY {i : Nat} {oi : Oper} {v : Value} {fuel : Nat} {listed : Array Bool} {a : Act} {w : World} (hi : ops[i]? = some oi)
 (hb : (Region.noSelect ops && Region.free md ops listed i && (Region.ready md ops listed).contains i && !X.contains i) = true)
 (hQ : ∀ c a w, Q (.panic c) (a.put oi.dst v) w → Q (.panic c) a w) (hS : NoneOf X listed → S w) (hy : YieldsIf P ops (fun _ => True) oi v a)
 (h : wpAnyX P md ops Q S X fuel (listed.setIfInBounds i true) (a.put oi.dst v) w) : wpAnyX P md ops Q S X (fuel + 1) listed a w := by
 simp only [Bool.and_eq_true, Bool.not_eq_true', List.contains_eq_mem, decide_eq_false_iff_not, decide_eq_true_eq] at hb
 obtain ⟨⟨⟨h1, h2⟩, h3⟩, h4⟩ := hb
 exact wpAnyX_firstY hi (Region.noSelect_spec h1) hQ h4 fuel listed a w (Region.free_spec hi h2) h3 hy hS h
theorem wpAnyX_takeG {i x : Nat} {oi : Oper} {v : Value} {fuel : Nat} {listed : Array Bool} {a : Act} {w : World} (hi : ops[i]? = some oi)
 (hb : (Region.noSelect ops && Region.free md ops listed i && (Region.ready md ops listed).contains i && !X.contains i) = true) (hx : (X.contains x && listed.getD x true) = true)
 (hQ : ∀ c a w, Q (.panic c) (a.put oi.dst v) w → Q (.panic c) a w) (hy : YieldsIf P ops (fun _ => True) oi v a)
 (h : wpAnyX P md ops Q S X fuel (listed.setIfInBounds i true) (a.put oi.dst v) w) : wpAnyX P md ops Q S X (fuel + 1) listed a w :=
 wpAnyX_takeY hi hb hQ (gone x hx) hy h
def waitsAll (md : Region.Mode) (ops : Array Oper) (X : List Nat) (i : Nat) : Bool :=
 X.all fun x => x != i && match ops[x]? with | some o => o.after.any (fun e => Region.binds md e && e.on == i) | none => true
theorem waitsAll_spec {i : Nat} (h : waitsAll md ops X i = true) : ∀ x ∈ X, x ≠ i ∧ ∀ ox, ops[x]? = some ox → ∃ e ∈ ox.after, Region.binds md e = true ∧ e.on = i := by
 intro x hx
 have h := List.all_eq_true.1 h x hx
 simp only [Bool.and_eq_true, bne_iff_ne] at h
 refine ⟨h.1, fun ox ho => ?_⟩
 have h2 := h.2
 rw [ho] at h2
 simp only [Array.any_eq_true] at h2
 obtain ⟨k, hk, h3⟩ := h2
 simp only [Bool.and_eq_true, beq_iff_eq] at h3
 exact ⟨ox.after[k], by simp, h3.1, h3.2⟩
def noneOfB (X : List Nat) (listed : Array Bool) : Bool := X.all fun x => listed.getD x true == false
theorem noneOfB_spec {listed : Array Bool} (h : noneOfB X listed = true) : NoneOf X listed := fun x hx => by
 have := List.all_eq_true.1 h x hx
 simpa using this
theorem wpAnyX_take {i : Nat} {oi : Oper} {v : Value} {fuel : Nat} {listed : Array Bool} {a : Act} {w : World} (hi : ops[i]? = some oi)
 (hb : (Region.noSelect ops && Region.free md ops listed i && (Region.ready md ops listed).contains i && waitsAll md ops X i && noneOfB X listed) = true)
 (hQ : ∀ c a w, Q (.panic c) (a.put oi.dst v) w → Q (.panic c) a w) (hS : S w) (hy : YieldsIf P ops S oi v a)
 (h : wpAnyX P md ops Q S X fuel (listed.setIfInBounds i true) (a.put oi.dst v) w) : wpAnyX P md ops Q S X (fuel + 1) listed a w := by
 simp only [Bool.and_eq_true] at hb
 obtain ⟨⟨⟨⟨h1, h2⟩, h3⟩, h4⟩, h5⟩ := hb
 exact wpAnyX_first hi (Region.noSelect_spec h1) hQ (waitsAll_spec h4) fuel listed a w (Region.free_spec hi h2) (by simpa using h3) hy hS (noneOfB_spec h5) h
theorem tX (i : Nat) {oi : Oper} (v : Value) {fuel : Nat} {listed : Array Bool} {a : Act} {w : World} (hi : ops[i]? = some oi)
 (hb : (Region.noSelect ops && Region.free md ops listed i && (Region.ready md ops listed).contains i && waitsAll md ops X i && noneOfB X listed) = true)
 (hQ : ∀ c a w, Q (.panic c) (a.put oi.dst v) w → Q (.panic c) a w) (hS : S w) (hp : Region.wanted oi (yielded ops a.tmps) = true)
 (hy : ∀ w, S w → (execOp a.eval oi).run P w = .ok (.value v) w)
 (h : wpAnyX P md ops Q S X fuel (listed.setIfInBounds i true) (a.put oi.dst v) w) : wpAnyX P md ops Q S X (fuel + 1) listed a w :=
 wpAnyX_take hi hb hQ hS (Or.inl ⟨hp, hy⟩) h
theorem tY (i : Nat) {oi : Oper} (v : Value) {fuel : Nat} {listed : Array Bool} {a : Act} {w : World} (hi : ops[i]? = some oi)
 (hb : (Region.noSelect ops && Region.free md ops listed i && (Region.ready md ops listed).contains i && !X.contains i) = true)
 (hQ : ∀ c a w, Q (.panic c) (a.put oi.dst v) w → Q (.panic c) a w) (hS : S w) (hp : Region.wanted oi (yielded ops a.tmps) = true)
 (hy : ∀ w, True → (execOp a.eval oi).run P w = .ok (.value v) w)
 (h : wpAnyX P md ops Q S X fuel (listed.setIfInBounds i true) (a.put oi.dst v) w) : wpAnyX P md ops Q S X (fuel + 1) listed a w :=
 wpAnyX_takeY hi hb hQ (fun _ => hS) (Or.inl ⟨hp, hy⟩) h
def ReadyX (P : Program) (md : Region.Mode) (ops : Array Oper) (Q : Exit → Act → World → Prop) (S : World → Prop) (X : List Nat) (fuel : Nat) (listed : Array Bool) (a : Act) (w : World) (rs : List Nat) : Prop :=
 ∀ i ∈ rs, wpOp P ops Q i (fun a' w' => (NoneOf X (listed.setIfInBounds i true) → S w') ∧ wpAnyX P md ops Q S X fuel (listed.setIfInBounds i true) a' w') a w
theorem ReadyX.nil {fuel : Nat} {listed : Array Bool} {a : Act} {w : World} : ReadyX P md ops Q S X fuel listed a w [] := fun _ h => by cases h
theorem ReadyX.cons {fuel : Nat} {listed : Array Bool} {a : Act} {w : World} {i : Nat} {o : Oper} {rs : List Nat} (ho : ops[i]? = some o)
 (h : ∀ K' : Act → World → Prop, Shut (∀ a w, S w → (S w → wpAnyX P md ops Q S X fuel (listed.setIfInBounds i true) a w) → K' a w) → if Region.wanted o (yielded ops a.tmps) = true then Oper.wp P o a w K' Q else K' (a.put o.dst undef) w)
 (hs : ReadyX P md ops Q S X fuel listed a w rs) : ReadyX P md ops Q S X fuel listed a w (i :: rs) := fun j hj => by
 rcases List.mem_cons.1 hj with rfl | hj
 ·exact wpOp_step ho (fun K' hK => h K' (fun a w hS hW => hK a w ⟨fun _ => hS, hW hS⟩))
 ·exact hs j hj
theorem ReadyX.last {fuel : Nat} {listed : Array Bool} {a : Act} {w : World} {i x : Nat} {o : Oper} {rs : List Nat} (ho : ops[i]? = some o) (hx : (X.contains x && (listed.setIfInBounds i true).getD x true) = true)
 (h : ∀ K' : Act → World → Prop, Shut (∀ a w, wpAnyX P md ops Q S X fuel (listed.setIfInBounds i true) a w → K' a w) → if Region.wanted o (yielded ops a.tmps) = true then Oper.wp P o a w K' Q else K' (a.put o.dst undef) w)
 (hs : ReadyX P md ops Q S X fuel listed a w rs) : ReadyX P md ops Q S X fuel listed a w (i :: rs) := fun j hj => by
 rcases List.mem_cons.1 hj with rfl | hj
 ·refine wpOp_step ho (fun K' hK => h K' (fun a w hW => hK a w ⟨fun hN => ?_, hW⟩))
  simp only [Bool.and_eq_true, List.contains_iff_mem] at hx
  have := hN x hx.1
  rw [hx.2] at this
  cases this
 ·exact hs j hj
theorem wpAnyX_ready {rs : List Nat} {fuel : Nat} {listed : Array Bool} {a : Act} {w : World} (hr : Region.ready md ops listed = rs) (hne : rs ≠ [])
 (h : ReadyX P md ops Q S X fuel listed a w rs) : wpAnyX P md ops Q S X (fuel + 1) listed a w := ⟨fun h0 => absurd (hr ▸ h0) hne, hr ▸ h⟩
theorem wpAnyX_done {listed : Array Bool} {a : Act} {w : World} (hr : Region.ready md ops listed = []) (h : Q .normal a w) : ∀ fuel, wpAnyX P md ops Q S X fuel listed a w
 | 0 => ⟨hr, h⟩
 | _ + 1 => ⟨fun _ => h, by rw [hr]; simp⟩
theorem wp_region_X {id : Nat} {a : Act} {w : World} (X : List Nat) (hm : P.follows .mixedOrders = true)
 (h : wpAnyX P .any ops Q S X ops.size (Array.replicate ops.size false) a w.drew) : (Code.region id ops true).wp P Q a w :=
 wp_region_any hm (wpAny_of_X _ _ _ _ h)
end
end Go.Proofs.YtdmobhndbibhoaaGreat
