/- index.Alone. -/
import Derived.Test.YtdmobhndbibhoaaGreatT2
namespace Go.Proofs.YtdmobhndbibhoaaGreat
open Go.RowKit Larch
set_option maxRecDepth 100000
set_option linter.unusedVariables false
set_option linter.unusedSimpArgs false
attribute [local go_sem ↓] Go.wp_at_zero Go.wp_at_succ
theorem wpR {g : Gt} {m n hb : Nat} {W : World} {v pv : Value} {r : RetM} {xs : List (RetM × Value)} {ops : Array Oper} {rest : List Oper} {o : Oper} {a : Act} {Q : Exit → Act → World → Prop} (hgd : o.guard = none) (s x : Operand)
 (ho : o.op = .call { callee := .builtin .append, args := #[s, x], argTypes := #[29, 29] })
 (hG : GOk g m W) (hR : Row g W 34 4 v n (rVs xs)) (hn : n ≤ 1000000000) (hs : a.eval s = v) (hx : a.eval x = .slice (some ⟨hb, 0, none⟩) 1 1) (hH : W.heap.size = hb) (hpv : pv.oneCell' = true)
 (h : ∀ b cap w', Fr g (fun c => v.ownBlock = some c) W w' → GOk g m w' → Row g w' 34 4 (.slice (some ⟨b, 0, none⟩) (n + 1) cap) (n + 1) (rVs (xs ++ [(r, pv)])) → (v.ownBlock = some b ∨ W.heap.size ≤ b) →
   wpList Tryz.prog ops Q rest (a.put o.dst (.slice (some ⟨b, 0, none⟩) (n + 1) cap)) w') :
 wpList Tryz.prog ops Q (o :: rest) a (W.alloc (.cells #[.bool r.ok, .int .i64 r.k, .int .i64 r.v, pv] 34)) := by
 refine wpList_append_fr hgd s x 29 ho 34 (.agg #[.bool false, .int .i64 0, .int .i64 0, .slice none 0 0]) 4 48 Tryz.underlying29 Tryz.info34 rfl (by decide) (by decide) (hG.alloc _) v n (rVs xs) hs (hR.fr (Fr.alloc g No W _ hG) (fun _ _ h => h)) ⟨W.heap.size, 0, none⟩ 1 1 [.bool r.ok, .int .i64 r.k, .int .i64 r.v, pv] (by rw [hx, hH]) rfl
  (news1 (heap_alloc_new W _)) (by intro u hu; simp only [List.mem_cons, List.not_mem_nil, or_false] at hu; rcases hu with rfl | rfl | rfl | rfl <;> first | rfl | exact hpv) (by simp only [maxLen]; omega) (by omega) (by decide) ?_
 intro v' w' happ
 obtain ⟨A1, A2, A3, ⟨b, cap, rfl⟩, A5⟩ := app_of happ (Fr.alloc g No W _ hG)
 exact h b cap w' A1 A2 (by rw [← rVs_snoc]; exact A3) (A5 b rfl)
def opsT (os : List OpM) (t : T Unit) : T Unit := os.foldl (fun t o => opT o.kind o.key o.val t) t
def opsL (os : List OpM) (m : List (Int × Int)) : List (Int × Int) := os.foldl (fun m o => opL o.kind o.key o.val m) m
def opsR : List OpM → List (Int × Int) → List RetM
 | [], _ => []
 | o :: os, m => opR o.kind o.key o.hi m :: opsR os (opL o.kind o.key o.val m)
theorem opsT_good (os : List OpM) : ∀ {t : T Unit}, Larch.Good t → Larch.Good (opsT os t) ∧ pairs (opsT os t) = opsL os (pairs t) := by
 induction os with
 | nil => exact fun h => ⟨h, rfl⟩
 | cons o os ih =>
   intro t h
   obtain ⟨h1, h2⟩ := opT_good (kind := o.kind) (key := o.key) (val := o.val) h
   obtain ⟨h3, h4⟩ := ih h1
   exact ⟨h3, by rw [show opsT (o :: os) t = opsT os (opT o.kind o.key o.val t) from rfl, h4, h2]; rfl⟩
theorem opsL_len (os : List OpM) : ∀ m, (opsL os m).length ≤ m.length + os.length := by
 induction os with
 | nil => intro m; simp [opsL]
 | cons o os ih =>
   intro m
   have h1 := ih (opL o.kind o.key o.val m)
   have h2 := opL_len o.kind o.key o.val m
   rw [show opsL (o :: os) m = opsL os (opL o.kind o.key o.val m) from rfl]
   simp only [List.length_cons]
   omega
theorem opsT_take {os : List OpM} {k : Nat} {o : OpM} (h : os[k]? = some o) (t : T Unit) : opsT (os.take (k + 1)) t = opT o.kind o.key o.val (opsT (os.take k) t) := by
 rw [List.take_add_one, h]
 simp [opsT, List.foldl_append]
theorem opsR_snoc (os : List OpM) (o : OpM) : ∀ m, opsR (os ++ [o]) m = opsR os m ++ [opR o.kind o.key o.hi (opsL os m)] := by
 induction os with
 | nil => intro m; rfl
 | cons p os ih => intro m; rw [List.cons_append, opsR, ih]; rfl
theorem opsR_take {os : List OpM} {k : Nat} {o : OpM} (h : os[k]? = some o) (m : List (Int × Int)) : opsR (os.take (k + 1)) m = opsR (os.take k) m ++ [opR o.kind o.key o.hi (opsL (os.take k) m)] := by
 rw [List.take_add_one, h]
 exact opsR_snoc _ _ _
theorem opsR_len (os : List OpM) : ∀ m, (opsR os m).length = os.length := by
 induction os with
 | nil => intro m; rfl
 | cons o os ih => intro m; simp [opsR, ih]
theorem opsT_size {os : List OpM} {t : T Unit} (h : Larch.Good t) : (opsT os t).size ≤ 2 * ((pairs t).length + os.length) + 3 := by
 obtain ⟨h1, h2⟩ := opsT_good os h
 have := good_size h1
 have h3 := opsL_len os (pairs t)
 rw [h2] at this
 omega
def AloneQ (g : Gt) (rs : List RetM) (t : T Unit) (w : World) (e : Ending) (w' : World) : Prop :=
 ∃ rv ov xs, e = .returned (.tuple #[rv, ov, .int .i64 0]) ∧ xs.map (·.1) = rs ∧ RetsV g w.heap.size w' xs rv ∧ Row g w' 88 6 ov (layT 0 t).length (nVs (layT 0 t)) ∧ (∀ b, ov.ownBlock = some b → w.heap.size ≤ b) ∧ TF g w w' ∧ GOk g 0 w'
def AlSt (g : Gt) (be mb hb : Nat) (a2 : Option Addr) (n2 c2 : Nat) (os : List OpM) (t : T Unit) (w : World) (k : Nat) (v10 : Value) (wr : World) : Prop :=
 ∃ xs, xs.map (·.1) = opsR (os.take k) (pairs t) ∧ RetsV g w.heap.size wr xs v10 ∧ St g 0 be (opsT (os.take k) t) w wr ∧ Cl g wr mb #[ptr be] 102 ∧ Cl g wr hb #[ptr be, .nilIface] 106 ∧ Arg g wr 4 (.slice a2 n2 c2) n2 (opVs os)
set_option maxHeartbeats 16000000 in
theorem Alone_any {g : Gt} {m n n2 : Nat} {pv ov : Value} {ps : List (Int × Int)} {os : List OpM} {w : World} (hgt : g.gt = none) (hg : GOk g m w) (hA : Arg g w 2 pv n (pV ps)) (hn : n ≤ 1000) (hO : Arg g w 4 ov n2 (opVs os)) (hn2 : n2 ≤ 1000) (hok : ∀ o ∈ os, okK o) :
 Calls Tryz.prog 45 #[pv, ov] w (AloneQ g (opsR os (pairs (ofT ps emptyT))) (opsT os (ofT ps emptyT)) w) := by
 obtain ⟨a, c, rfl⟩ := hA.slice
 obtain ⟨a2, c2, rfl⟩ := hO.slice
 have hF1 := Fr.alloc g No w (.cells #[.slice a2 n2 c2] 23) hg
 have hG1 := hg.alloc (.cells #[.slice a2 n2 c2] 23)
 have hB1 := At.new hg (.cells #[.slice a2 n2 c2] 23)
 have hO1 := hO.fr hF1
 have hA1 := hA.fr hF1
 have hRf := refused_any (sn := n) (sa := a) (sc := c) (by omega) hG1 hO1 hB1
 rw [show refE os n = 0 from by unfold refE; rw [if_pos hok, if_neg (by omega)]] at hRf
 have hlo := hO.1
 rw [opVs_len] at hlo
 replace hlo : os.length ≤ n2 ∧ n2 ≤ os.length := by omega
 have hlp := hA.1
 rw [pV_len2] at hlp
 have hn2' : ¬ (1000 : Int) < (n2 : Int) := by omega
 clear hB1
 go_enter Tryz.func45, Tryz.ntmps45
 go_wp2_with fail
 refine hRf.mono ?_
 rintro e w1 ⟨rfl, f1, g1⟩
 have hA2 := hA1.fr f1
 have hO2 := hO1.fr f1
 have hOf := Of_any hgt g1 hA2 (by omega)
 have hF2 := hF1.tr f1
 clear hRf hA1 hO1 hF1 hG1 f1
 go_wp2_with fail
 refine hOf.mono ?_
 rintro e w2 ⟨mb, be, rfl, hM, hS, hmb⟩
 have hHd := Handle_any (gv := .nilIface) (.inl rfl) hS.gate hM
 have hO3 := hO2.fr hS.tf
 clear hOf
 unfold ptr at hHd ⊢
 go_wp2_with fail
 refine hHd.mono ?_
 rintro e w3 ⟨hb, rfl, hH, f3, g3, hhb⟩
 have hM3 := f3.at hM id
 have hS3 := hS.fr f3 g3
 have hO4 := hO3.fr f3
 have hGd := (ofT_good ps good_empty).1
 have hsz0 := ofT_size ps
 obtain ⟨T0, hT0⟩ : ∃ t, ofT ps emptyT = t := ⟨_, rfl⟩
 rw [hT0] at hS3 hGd hsz0 ⊢
 have hS4 : St g 0 be T0 w w3 := ⟨hS3.map, hS3.good, hS3.gate, (TF.of hF2).trans hS3.tf⟩
 have hPL : Hid ((pairs T0).length ≤ 1000) := by
  have h1 := (ofT_good ps good_empty).2
  have h2 := ofL_len ps (pairs emptyT)
  rw [← h1, hT0] at h2
  have h3 : (pairs emptyT).length = 0 := by decide
  exact Lib.hid (by omega)
 have hst : AlSt g be mb hb a2 n2 c2 os T0 w 0 (.slice none 0 0) w3 := ⟨[], by simp [opsR], RetsV.nil, hS4, hM3, hH, hO4⟩
 clear hHd hS hM f3 g3 hM3 hS3 hO3 hO4 hO2 hA2 hS4 hH hF2 hg hA g1
 have HT0 := Lib.hid hT0
 clear hT0
 go_wp2_with fail
 go_loopg [10, 31] n2 (fun gk v10 v31 wr => ∃ k : Nat, gk + k = n2 ∧ v31 = .int .i64 k ∧ AlSt g be mb hb a2 n2 c2 os T0 w k v10 wr)
 case atStart => exact ⟨0, by omega, rfl, hst⟩
 case round =>
  obtain ⟨k, hk, rfl, xs, hxs, hRv, hS, hM, hH, hOr⟩ := hrel
  clear hst
  obtain ⟨a10, c10, rfl⟩ := hRv.1.slice
  have hxl : xs.length ≤ 1000 := by
   have := congrArg List.length hxs
   rw [List.length_map, opsR_len, List.length_take] at this
   omega
  by_cases hlt : k < n2
  ·obtain ⟨o, ho⟩ : ∃ o, os[k]? = some o := ⟨_, List.getElem?_eq_getElem (by omega)⟩
   obtain ⟨b, off, rfl, hnb, c0, c1, c2', c3⟩ := op_at hOr ho
   have hokk : okK o := hok o (List.mem_of_getElem? ho)
   have hsz := opsT_size (os := os.take k) hGd
   rw [List.length_take] at hsz
   have hpl : (pairs T0).length ≤ 1000 := hPL.out
   have hcs := cost_le (show (opsT (os.take k) T0).size ≤ 5000 by omega)
   have hcv : cost 5000 < LIM := by decide
   have hT := opsT_take ho T0
   have hR := opsR_take ho (pairs T0)
   have hpr := (opsT_good (os.take k) hGd).2
   obtain ⟨kd, ky, vl, hi⟩ := o
   have hB := At.new hS.gate (.cells #[.int .i64 kd, .int .i64 ky, .int .i64 vl, .int .i64 hi] 43)
   have b0 := hB.cell 0
   have b1 := hB.cell 1
   have b2 := hB.cell 2
   have b3 := hB.cell 3
   have hF := Fr.alloc g No wr (.cells #[.int .i64 kd, .int .i64 ky, .int .i64 vl, .int .i64 hi] 43) hS.gate
   have hD := do13_any (key := ky) (val := vl) (hi := hi) hokk (hS.alloc (.cells #[.int .i64 kd, .int .i64 ky, .int .i64 vl, .int .i64 hi] 43)) (by rw [gval_none hgt]; exact hF.at hH id) (by omega) (by omega)
   rw [hpr] at hD
   have HX := Lib.hid (And.intro hxs (And.intro hT hR))
   clear hxs hT hR hpr hsz hcs hcv hokk
   unfold ptr at hD
   unfold DoQ RV rO at hD
   simp only [Int.ofNat_lt] at *
   go_wp2_with fail
   refine hD.mono ?_
   rintro e w4 ⟨x, rfl, ⟨psv, rfl, hR1, hN1⟩, hS1⟩
   obtain ⟨sa, sc, rfl⟩ := hR1.slice
   obtain ⟨rr, hrr⟩ : ∃ r, opR kd ky hi (opsL (os.take k) (pairs T0)) = r := ⟨_, rfl⟩
   rw [hrr] at hR1 hN1 ⊢
   obtain ⟨sn, hsn⟩ : ∃ n, rr.ps.length = n := ⟨_, rfl⟩
   rw [hsn] at hR1 hN1 ⊢
   have hf5 := Fr.alloc g No w4 (.cells #[.bool rr.ok, .int .i64 rr.k, .int .i64 rr.v, .slice sa sn sc] 34) hS1.gate
   have hG5 := hS1.gate.alloc (.cells #[.bool rr.ok, .int .i64 rr.k, .int .i64 rr.v, .slice sa sn sc] 34)
   have hRv5 := ((hRv.fr hF (fun _ _ _ _ _ h => h)).tf hS1.tf).fr hf5 (fun _ _ _ _ _ h => h)
   have HZ := Lib.hid (And.intro hrr hsn)
   clear hrr hsn hD hB b0 b1 b2 b3 c0 c1 c2' c3
   go_wp2_with (at_builtin; refine wpR rfl _ _ rfl hG5 hRv5.1 (by omega) rfl rfl (by simp) rfl ?_; intro b5 cap5 w5 A1 A2 A3 A4)
   go_roundg (n2 - (k + 1))
   case measure => omega
   case rel =>
    obtain ⟨hxs, hT, hR⟩ := HX.out
    obtain ⟨hrr, hsn⟩ := HZ.out
    have hn34 : ∀ c cs T, Cl g (w4.alloc (.cells #[.bool rr.ok, .int .i64 rr.k, .int .i64 rr.v, .slice sa sn sc] 34)) c cs T → T ≠ 34 → ¬ (Value.slice a10 xs.length c10).ownBlock = some c := fun c cs T hc hT h => hRv5.1.notin hc (fun e => hT e.symm) h
    have hSq := ((((hS.alloc (.cells #[.int .i64 kd, .int .i64 ky, .int .i64 vl, .int .i64 hi] 43)).trans hS1).any (k := 0) hgt).alloc (.cells #[.bool rr.ok, .int .i64 rr.k, .int .i64 rr.v, .slice sa sn sc] 34))
    have hS5 : St g 0 be (opsT (os.take (k + 1)) T0) w w5 := by
     rw [hT]
     exact hSq.frS A1 (fun c cs T hc hT => hn34 c cs T hc (by rcases hT with rfl | rfl | rfl <;> decide)) (fun c hc => hRv5.2.1 c hc) (GOk.any A2 hgt)
    have hPs : Row g (w4.alloc (.cells #[.bool rr.ok, .int .i64 rr.k, .int .i64 rr.v, .slice sa sn sc] 34)) 49 2 (.slice sa sn sc) sn (pV rr.ps) := hR1.fr hf5 (fun _ _ h => h)
    have hwz : w.heap.size ≤ wr.heap.size := hS.tf.size
    refine ⟨k + 1, by omega, by simp, xs ++ [(rr, .slice sa sn sc)], ?_, ⟨by rw [List.length_append]; exact A3, ?_, ?_⟩, hS5, ?_, ?_, ?_⟩
    ·rw [List.map_append, hxs, hR, hrr]; rfl
    ·intro b hb
     obtain rfl : b5 = b := by simpa [Value.ownBlock] using hb
     rcases A4 with h | h
     ·exact hRv.2.1 _ h
     ·exact Nat.le_trans hSq.tf.size h
    ·intro x hx
     rcases List.mem_append.1 hx with h | h
     ·exact (hRv5.2.2 x h).fr A1 (fun b hb => by obtain ⟨cur, hc⟩ := (hRv5.2.2 x h).1.own_cl hb; exact hn34 b cur 49 hc (by decide))
     ·obtain rfl : x = (rr, .slice sa sn sc) := by simpa using h
      refine ⟨?_, fun b hb => Nat.le_trans (Nat.le_trans hwz (by simp)) (hN1 b hb)⟩
      have := hPs.fr A1 (fun b hb => by obtain ⟨cur, hc⟩ := hPs.own_cl hb; exact hn34 b cur 49 hc (by decide))
      rw [← hsn] at this ⊢
      exact this
    ·have h1 := hf5.at (hS1.tf.at (hF.at hM id) (by decide)) id
     exact A1.at h1 (hn34 _ _ _ h1 (by decide))
    ·have h1 := hf5.at (hS1.tf.at (hF.at hH id) (by decide)) id
     exact A1.at h1 (hn34 _ _ _ h1 (by decide))
    ·exact (((hOr.fr hF).fr hS1.tf).fr hf5).fr A1
  ·have hkn : os.take k = os := List.take_of_length_le (by omega)
   rw [hkn] at hxs hS
   have hpl : (pairs T0).length ≤ 1000 := hPL.out
   have hsz := opsT_size (os := os) hGd
   have hTab := Table_any (k := 0) hgt hS hM (by omega)
   have HX := Lib.hid (And.intro hxs (And.intro hRv hS))
   unfold ptr at hTab
   clear hxs hRv hM hH hOr hkn hpl hsz
   go_wp2_with fail
   refine hTab.mono ?_
   rintro e w5 ⟨ov, rfl, hRow, hN, hF5, hS5⟩
   obtain ⟨oa, oc, rfl⟩ := hRow.slice
   obtain ⟨hxs, hRv, hS0⟩ := HX.out
   have hsw := hS0.tf.size
   have HY : Hid (AloneQ g (opsR os (pairs T0)) (opsT os T0) w (.returned (.tuple #[.slice a10 xs.length c10, .slice oa (layT 0 (opsT os T0)).length oc, .int .i64 0])) w5) :=
    ⟨_, _, xs, rfl, hxs, hRv.fr hF5 (fun _ _ _ _ _ h => h), hRow, fun b hb => Nat.le_trans hsw (hN b hb), hS0.tf.trans (TF.of hF5), hS5.gate⟩
   clear hTab hRow hN hF5 hS5 hxs hRv hS0 hS
   go_wp2_with fail
   go_ret3
   rw [HT0.out]
   exact HY.out
end Go.Proofs.YtdmobhndbibhoaaGreat
namespace Go.Proofs.YtdmobhndbibhoaaGreat
open Go.RowKit Larch
set_option maxRecDepth 100000
set_option linter.unusedVariables false
set_option linter.unusedSimpArgs false
attribute [local go_sem ↓] Go.wp_at_zero Go.wp_at_succ
def gAll (w : World) : Gt := ⟨none, fun b => b < w.heap.size⟩
theorem gAll_ok {w : World} {m : Nat} : GOk (gAll w) m w := ⟨fun _ h => h, trivial⟩
theorem GOk.none {g : Gt} {m m' : Nat} {w w' : World} (hgt : g.gt = none) (hg : GOk g m w) (hs : w.heap.size ≤ w'.heap.size) : GOk g m' w' := by
 refine ⟨fun b hb => Nat.lt_of_lt_of_le (hg.1 b hb) hs, ?_⟩
 rw [hgt]; trivial
theorem gblk_none {g : Gt} (hgt : g.gt = none) (w : World) (b : Nat) : GBlk g w b ↔ g.no b := by unfold GBlk; rw [hgt]; simp
theorem Fr.ofAll {g : Gt} {S : Nat → Prop} {m : Nat} {w w' : World} (hgt : g.gt = none) (hg : GOk g m w) (h : Fr (gAll w) S w w') : Fr g No w w' := by
 have hk : ∀ b, b < w.heap.size → w'.heap[b]? = w.heap[b]? := fun b hb => h.old b hb
 refine ⟨h.os, h.tape, h.output, h.size, fun b hb _ _ => hk b hb, fun b hb => .inl ((gblk_none hgt _ b).2 ((gblk_none hgt _ b).1 hb)), fun b cs h1 h2 => ⟨cs, (hk b (lt_of_heap h1)).trans h1, h2, rfl⟩, fun b hb => ?_, fun b hb => hk b (hg.1 b hb)⟩
 obtain ⟨cs, h1, h2⟩ := hb
 exact ⟨cs, (hk b (lt_of_heap h1)).trans h1, h2⟩
theorem Sl.block {g : Gt} {w : World} {b size n : Nat} {cs : Array Value} {T : TypeId} (h : w.heap[b]? = some (.cells cs T (0, 0))) (hb : g.no b ∨ ¬ GBlk g w b) (hs : cs.size = n * size) : Sl g w size (.slice (some ⟨b, 0, none⟩) n n) n cs.toList := by
 refine ⟨by simpa using hs, _, _, rfl, Nat.le_refl _, fun hn => ⟨b, 0, rfl, hb, fun j hj => ?_⟩⟩
 rw [Nat.zero_add, cell_of_row w b j cs T (0, 0) h, Array.getElem?_toList]
theorem Arg.block {g : Gt} {w : World} {b size n : Nat} {cs : Array Value} {T : TypeId} (h : w.heap[b]? = some (.cells cs T (0, 0))) (hb : g.no b) (hs : cs.size = n * size) : Arg g w size (.slice (some ⟨b, 0, none⟩) n n) n cs.toList := by
 refine ⟨by simpa using hs, _, _, rfl, fun hn => ⟨b, 0, rfl, hb, fun j hj => ?_⟩⟩
 rw [Nat.zero_add, cell_of_row w b j cs T (0, 0) h, Array.getElem?_toList]
def awL : List (Int × Int) := [(5, 50), (2, 20)]
def awO : List OpM := [⟨9, 0, 0, 9⟩, ⟨4, 2, 0, 0⟩]
theorem aw_ok : ∀ o ∈ awO, okK o := by
 intro o ho
 simp only [awO, List.mem_cons, List.not_mem_nil, or_false] at ho
 rcases ho with rfl | rfl <;> (unfold okK; decide)
theorem aw_pairs : pairs (ofT awL emptyT) = [(2, 20), (5, 50)] := by
 rw [(ofT_good awL good_empty).2]; decide
theorem aw_rets : opsR awO (pairs (ofT awL emptyT)) = [⟨true, 0, 0, [(2, 20), (5, 50)]⟩, ⟨true, 0, 20, []⟩] := by
 rw [aw_pairs]; rfl
theorem aw_size : (layT 0 (opsT awO (ofT awL emptyT))).length = 5 := by
 rw [layT_len]; decide +kernel
set_option maxHeartbeats 4000000 in
theorem awake_any {g : Gt} {m : Nat} {w : World} (hgt : g.gt = none) (hg : GOk g m w) : Calls Tryz.prog 8 #[] w (TrueQ g m w) := by
 obtain ⟨W1, hW1⟩ : ∃ W, w.alloc (.cells #[.int .i64 5, .int .i64 50, .int .i64 2, .int .i64 20] 49) = W := ⟨_, rfl⟩
 obtain ⟨W, hW⟩ : ∃ V, W1.alloc (.cells #[.int .i64 9, .int .i64 0, .int .i64 0, .int .i64 9, .int .i64 4, .int .i64 2, .int .i64 0, .int .i64 0] 43) = V := ⟨_, rfl⟩
 have hF1 := Fr.alloc g No w (.cells #[.int .i64 5, .int .i64 50, .int .i64 2, .int .i64 20] 49) hg
 have hG1 := hg.alloc (.cells #[.int .i64 5, .int .i64 50, .int .i64 2, .int .i64 20] 49)
 have hB1 := (At.new hg (.cells #[.int .i64 5, .int .i64 50, .int .i64 2, .int .i64 20] 49)).1
 rw [hW1] at hF1 hG1 hB1
 have hF2 := Fr.alloc g No W1 (.cells #[.int .i64 9, .int .i64 0, .int .i64 0, .int .i64 9, .int .i64 4, .int .i64 2, .int .i64 0, .int .i64 0] 43) hG1
 have hG2 := hG1.alloc (.cells #[.int .i64 9, .int .i64 0, .int .i64 0, .int .i64 9, .int .i64 4, .int .i64 2, .int .i64 0, .int .i64 0] 43)
 have hB2 := (At.new hG1 (.cells #[.int .i64 9, .int .i64 0, .int .i64 0, .int .i64 9, .int .i64 4, .int .i64 2, .int .i64 0, .int .i64 0] 43)).1
 have hB3 := (show W.heap[w.heap.size]? = W1.heap[w.heap.size]? from by rw [← hW]; exact Below.heap_alloc W1 _ _ (lt_of_heap hB1)).trans hB1
 rw [hW] at hF2 hG2 hB2
 have hz : W1.heap.size = w.heap.size + 1 := by rw [← hW1]; simp
 rw [hz] at hB2
 have hA : Arg (gAll W) W 2 (.slice (some ⟨w.heap.size, 0, none⟩) 2 2) 2 (pV awL) := Arg.block hB3 (lt_of_heap hB3) rfl
 have hO : Arg (gAll W) W 4 (.slice (some ⟨w.heap.size + 1, 0, none⟩) 2 2) 2 (opVs awO) := Arg.block hB2 (lt_of_heap hB2) rfl
 have hAl := Alone_any (m := 0) rfl gAll_ok hA (by decide) hO (by decide) aw_ok
 rw [aw_rets] at hAl
 have hFW := hF1.tr hF2
 have HX := Lib.hid (And.intro hFW hG2)
 clear hA hO hFW hF1 hF2 hG1 hG2 hB1 hB2 hB3
 have hW2 : (w.alloc (.cells #[.int .i64 5, .int .i64 50, .int .i64 2, .int .i64 20] 49)).alloc (.cells #[.int .i64 9, .int .i64 0, .int .i64 0, .int .i64 9, .int .i64 4, .int .i64 2, .int .i64 0, .int .i64 0] 43) = W := by rw [hW1, hW]
 rw [← hW2] at hAl
 have HW := Lib.hid (And.intro hW2 hz)
 clear hW hW1 hz hW2
 go_enter Tryz.func8, Tryz.ntmps8
 go_wp2_with fail
 refine hAl.mono ?_
 rintro e w1 ⟨rv, ov, xs, rfl, hxs, hR, hRow, hN, hTF, hG⟩
 rw [HW.out.1] at hR hRow hN hTF hG
 obtain ⟨a1, c1, rfl⟩ := hR.1.slice
 obtain ⟨a2, c2, rfl⟩ := hRow.slice
 have hx2 : xs.length = 2 := by have := congrArg List.length hxs; simpa using this
 rw [hx2] at hR ⊢
 rw [aw_size] at hRow ⊢
 clear hAl hRow hN
 have hf2 := Fr.alloc (gAll W) No w1 (.cells #[.int .i64 2, .int .i64 20, .int .i64 5, .int .i64 50] 49) hG
 have hg2 := hG.alloc (.cells #[.int .i64 2, .int .i64 20, .int .i64 5, .int .i64 50] 49)
 have hb2 := At.new hG (.cells #[.int .i64 2, .int .i64 20, .int .i64 5, .int .i64 50] 49)
 have hf3 := Fr.alloc (gAll W) No _ (.cells #[.bool true, .int .i64 0, .int .i64 0, .slice (some ⟨w1.heap.size, 0, none⟩) 2 2, .bool true, .int .i64 0, .int .i64 20, .slice none 0 0] 34) hg2
 have hg3 := hg2.alloc (.cells #[.bool true, .int .i64 0, .int .i64 0, .slice (some ⟨w1.heap.size, 0, none⟩) 2 2, .bool true, .int .i64 0, .int .i64 20, .slice none 0 0] 34)
 have hb3 := At.new hg2 (.cells #[.bool true, .int .i64 0, .int .i64 0, .slice (some ⟨w1.heap.size, 0, none⟩) 2 2, .bool true, .int .i64 0, .int .i64 20, .slice none 0 0] 34)
 have hb2' := hf3.at hb2 id
 simp only [World.size_alloc] at hb3
 have hS1 : Sl (gAll W) _ 2 (.slice (some ⟨w1.heap.size, 0, none⟩) 2 2) 2 (pV [(2, 20), (5, 50)]) := Sl.block hb2'.1 (.inr hb2'.2) rfl
 have hS2 : Sl (gAll W) _ 4 (.slice (some ⟨w1.heap.size + 1, 0, none⟩) 2 2) 2 (rVs [(⟨true, 0, 0, [(2, 20), (5, 50)]⟩, .slice (some ⟨w1.heap.size, 0, none⟩) 2 2), (⟨true, 0, 20, []⟩, .slice none 0 0)]) := Sl.block hb3.1 (.inr hb3.2) rfl
 have hS3 : Sl (gAll W) ((w1.alloc (.cells #[.int .i64 2, .int .i64 20, .int .i64 5, .int .i64 50] 49)).alloc (.cells #[.bool true, .int .i64 0, .int .i64 0, .slice (some ⟨w1.heap.size, 0, none⟩) 2 2, .bool true, .int .i64 0, .int .i64 20, .slice none 0 0] 34)) 2 (.slice none 0 0) 0 (pV []) := Row.nil.sl (e := 49)
 have hRY : RdR (gAll W) _ [(⟨true, 0, 0, [(2, 20), (5, 50)]⟩, .slice (some ⟨w1.heap.size, 0, none⟩) 2 2), (⟨true, 0, 20, []⟩, .slice none 0 0)] (.slice (some ⟨w1.heap.size + 1, 0, none⟩) 2 2) := ⟨hS2, by
  intro x hx
  simp only [List.mem_cons, List.not_mem_nil, or_false] at hx
  rcases hx with rfl | rfl
  ·exact hS1
  ·exact hS3⟩
 have hRX := (hR.rd.fr0 hf2).fr0 hf3
 have hSR := SameRets_any hg3 hRX hRY (by rw [hxs]; rfl) (by omega) (fun x hx => by
  have : x.1 ∈ xs.map (·.1) := List.mem_map_of_mem hx
  rw [hxs] at this
  simp only [List.mem_cons, List.not_mem_nil, or_false] at this
  rcases this with h | h <;> rw [h] <;> decide)
 have hFA := hTF.trans (TF.of (hf2.tr hf3))
 have HF := Lib.hid hFA
 clear hS1 hS2 hS3 hRY hRX hf2 hf3 hb2 hb3 hb2' hR hTF hxs hFA hx2 hG hg2
 go_wp2_with fail
 refine hSR.mono ?_
 rintro e w4 ⟨rfl, hF4, hG4⟩
 have hFB := Fr.ofAll hgt HX.out.2 (HF.out.trans (TF.of hF4))
 have HE := Lib.hid (And.intro (HX.out.1.tr hFB) (HX.out.2.none (m' := m) hgt hFB.size))
 clear hSR hF4 hG4 hFB
 go_wp2_with fail
 go_ret
 exact ⟨rfl, HE.out.1, HE.out.2⟩
end Go.Proofs.YtdmobhndbibhoaaGreat
namespace Go.Proofs.YtdmobhndbibhoaaGreat
open Go.RowKit Larch
set_option maxRecDepth 100000
set_option linter.unusedVariables false
set_option linter.unusedSimpArgs false
attribute [local go_sem ↓] Go.wp_at_zero Go.wp_at_succ
theorem plain_any (a : Int) (w : World) : Calls Tryz.prog 14 #[.int .i64 a, .int .i64 a] w fun e w' => e = .returned (.bool true) ∧ w = w' := by
 go_enter Tryz.func14, Tryz.ntmps14
 go_wp2_with fail
 go_ret
 exact ⟨rfl, rfl⟩
def lessN (n : Nat) : Nat := if 60 < n ∧ n ≤ 1000 then 60 else n
theorem lessN_le (n : Nat) : lessN n ≤ n := by unfold lessN; split <;> omega
set_option maxHeartbeats 2000000 in
theorem cut60_any {a a2 : Option Addr} {n n2 c c2 : Nat} (hc : n ≤ c) (hc2 : n2 ≤ c2) (ha : 0 < n → ∃ b off, a = some ⟨b, off, none⟩) (ha2 : 0 < n2 → ∃ b off, a2 = some ⟨b, off, none⟩) (hn : n < 1000000000000000) (hn2 : n2 < 1000000000000000) (hcc : c < 1000000000000000) (hcc2 : c2 < 1000000000000000) (w : World) :
 Calls Tryz.prog 9 #[.slice a n c, .slice a2 n2 c2] w fun e w' => e = .returned (.tuple #[.slice a (lessN n) c, .slice a2 (lessN n2) c2]) ∧ w = w' := by
 by_cases g1 : 60 < n
 ·obtain ⟨b, off, rfl⟩ := ha (by omega)
  have i1 : (60 : Int) < (n : Int) := by omega
  have k1 : (60 : Int) ≤ (c : Int) := by omega
  by_cases h1 : n ≤ 1000
  ·have j1 : (n : Int) ≤ 1000 := by omega
   rw [show lessN n = 60 from by unfold lessN; rw [if_pos ⟨g1, h1⟩]]
   by_cases g2 : 60 < n2
   ·obtain ⟨b2, off2, rfl⟩ := ha2 (by omega)
    have i2 : (60 : Int) < (n2 : Int) := by omega
    have k2 : (60 : Int) ≤ (c2 : Int) := by omega
    by_cases h2 : n2 ≤ 1000
    ·have j2 : (n2 : Int) ≤ 1000 := by omega
     rw [show lessN n2 = 60 from by unfold lessN; rw [if_pos ⟨g2, h2⟩]]
     clear ha ha2
     go_enter Tryz.func9, Tryz.ntmps9
     go_wp2_with fail
     go_ret2
     exact ⟨rfl, rfl⟩
    ·have j2 : ¬ (n2 : Int) ≤ 1000 := by omega
     rw [show lessN n2 = n2 from by unfold lessN; rw [if_neg (by omega)]]
     clear ha ha2
     go_enter Tryz.func9, Tryz.ntmps9
     go_wp2_with fail
     go_ret2
     exact ⟨rfl, rfl⟩
   ·have i2 : ¬ (60 : Int) < (n2 : Int) := by omega
    rw [show lessN n2 = n2 from by unfold lessN; rw [if_neg (by omega)]]
    clear ha ha2
    go_enter Tryz.func9, Tryz.ntmps9
    go_wp2_with fail
    go_ret2
    exact ⟨rfl, rfl⟩
  ·have j1 : ¬ (n : Int) ≤ 1000 := by omega
   rw [show lessN n = n from by unfold lessN; rw [if_neg (by omega)]]
   by_cases g2 : 60 < n2
   ·obtain ⟨b2, off2, rfl⟩ := ha2 (by omega)
    have i2 : (60 : Int) < (n2 : Int) := by omega
    have k2 : (60 : Int) ≤ (c2 : Int) := by omega
    by_cases h2 : n2 ≤ 1000
    ·have j2 : (n2 : Int) ≤ 1000 := by omega
     rw [show lessN n2 = 60 from by unfold lessN; rw [if_pos ⟨g2, h2⟩]]
     clear ha ha2
     go_enter Tryz.func9, Tryz.ntmps9
     go_wp2_with fail
     go_ret2
     exact ⟨rfl, rfl⟩
    ·have j2 : ¬ (n2 : Int) ≤ 1000 := by omega
     rw [show lessN n2 = n2 from by unfold lessN; rw [if_neg (by omega)]]
     clear ha ha2
     go_enter Tryz.func9, Tryz.ntmps9
     go_wp2_with fail
     go_ret2
     exact ⟨rfl, rfl⟩
   ·have i2 : ¬ (60 : Int) < (n2 : Int) := by omega
    rw [show lessN n2 = n2 from by unfold lessN; rw [if_neg (by omega)]]
    clear ha ha2
    go_enter Tryz.func9, Tryz.ntmps9
    go_wp2_with fail
    go_ret2
    exact ⟨rfl, rfl⟩
 ·have i1 : ¬ (60 : Int) < (n : Int) := by omega
  rw [show lessN n = n from by unfold lessN; rw [if_neg (by omega)]]
  by_cases g2 : 60 < n2
  ·obtain ⟨b2, off2, rfl⟩ := ha2 (by omega)
   have i2 : (60 : Int) < (n2 : Int) := by omega
   have k2 : (60 : Int) ≤ (c2 : Int) := by omega
   by_cases h2 : n2 ≤ 1000
   ·have j2 : (n2 : Int) ≤ 1000 := by omega
    rw [show lessN n2 = 60 from by unfold lessN; rw [if_pos ⟨g2, h2⟩]]
    clear ha ha2
    go_enter Tryz.func9, Tryz.ntmps9
    go_wp2_with fail
    go_ret2
    exact ⟨rfl, rfl⟩
   ·have j2 : ¬ (n2 : Int) ≤ 1000 := by omega
    rw [show lessN n2 = n2 from by unfold lessN; rw [if_neg (by omega)]]
    clear ha ha2
    go_enter Tryz.func9, Tryz.ntmps9
    go_wp2_with fail
    go_ret2
    exact ⟨rfl, rfl⟩
  ·have i2 : ¬ (60 : Int) < (n2 : Int) := by omega
   rw [show lessN n2 = n2 from by unfold lessN; rw [if_neg (by omega)]]
   clear ha ha2
   go_enter Tryz.func9, Tryz.ntmps9
   go_wp2_with fail
   go_ret2
   exact ⟨rfl, rfl⟩
end Go.Proofs.YtdmobhndbibhoaaGreat
