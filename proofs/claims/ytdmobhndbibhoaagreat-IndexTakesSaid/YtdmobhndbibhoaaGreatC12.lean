/- scan.Do: every operation on the map. -/
import Derived.Test.YtdmobhndbibhoaaGreatC11
namespace Go.Proofs.YtdmobhndbibhoaaGreat
open Go.RowKit Larch
set_option maxRecDepth 100000
set_option linter.unusedVariables false
set_option linter.unusedSimpArgs false
attribute [local go_sem ↓] Go.wp_at_zero Go.wp_at_succ
theorem cost_ge (s : Nat) : 17 * s + 1000 ≤ cost s := by
 have : 302 * s ≤ (s + 2) * (s + 302) := by rw [Nat.mul_comm 302]; exact Nat.mul_le_mul (by omega) (by omega)
 unfold cost; omega
theorem good_node {t : T Unit} (h : Larch.Good t) : t.isLeaf = false := by
 rcases h with rfl | ⟨r, _, rfl, _⟩ <;> rfl
def PairS (g : Gt) (m be : Nat) (t : T Unit) (o : Option (Int × Int)) (w : World) (e : Ending) (w' : World) : Prop :=
 e = .returned (.tuple #[.agg (pO o), .bool o.isSome]) ∧ St g m be t w w'
section
variable {g : Gt} {m be : Nat} {t : T Unit} {w0 w : World}
theorem PairQ.st {M : Nat} {o o' : Option (Int × Int)} {e : Ending} {w' : World} (hS : St g m be t w0 w) (h : PairQ g M o w e w') (ho : o = o') (hM : M ≤ m + cost t.size) : PairS g (m + cost t.size) be t o' w e w' := by
 obtain ⟨h1, h2, h3⟩ := h
 subst ho
 exact ⟨h1, hS.map.fr0 h2, hS.good, h3.mono hM, TF.of h2⟩
theorem succ_st {key : Int} (hS : St g m be t w0 w) (hm : m + cost t.size < LIM) (hsz : t.size < 300000) :
 Calls Tryz.prog 96 #[gval g, ptr be, .int .i64 key] w (PairS g (m + cost t.size) be t (succL key (pairs t)) w) := by
 obtain ⟨N, hTr, he, hb⟩ := hS.map
 have hc := cost_ge t.size
 have hn : N.size = t.size := by rw [← he, er_size]
 refine (succ_any (key := key) hS.gate (by omega) (by omega) hTr.1 hb (by rw [← er_isLeaf, he]; exact good_node hS.good)).mono fun e w' h => h.st hS ?_ (by omega)
 rw [nx_tree true (he ▸ hS.good)]; rw [← he, pairs_er]; rfl
theorem pred_st {key : Int} (hS : St g m be t w0 w) (hm : m + cost t.size < LIM) (hsz : t.size < 300000) :
 Calls Tryz.prog 97 #[gval g, ptr be, .int .i64 key] w (PairS g (m + cost t.size) be t (predL key (pairs t)) w) := by
 obtain ⟨N, hTr, he, hb⟩ := hS.map
 have hc := cost_ge t.size
 have hn : N.size = t.size := by rw [← he, er_size]
 refine (pred_any (key := key) hS.gate (by omega) (by omega) hTr.1 hb (by rw [← er_isLeaf, he]; exact good_node hS.good)).mono fun e w' h => h.st hS ?_ (by omega)
 rw [nx_tree false (he ▸ hS.good)]; rw [← he, pairs_er]; rfl
theorem min_st (hS : St g m be t w0 w) (hm : m + cost t.size < LIM) (hsz : t.size < 300000) :
 Calls Tryz.prog 98 #[gval g, ptr be] w (PairS g (m + cost t.size) be t (pairs t).head? w) := by
 obtain ⟨N, hTr, he, hb⟩ := hS.map
 have hc := cost_ge t.size
 have hn : N.size = t.size := by rw [← he, er_size]
 refine (min_any hS.gate (by omega) (by omega) hTr.1 hb (by rw [← er_isLeaf, he]; exact good_node hS.good)).mono fun e w' h => h.st hS ?_ (by omega)
 rw [end_tree false (he ▸ hS.good)]; rw [← he, pairs_er]; rfl
theorem max_st (hS : St g m be t w0 w) (hm : m + cost t.size < LIM) (hsz : t.size < 300000) :
 Calls Tryz.prog 99 #[gval g, ptr be] w (PairS g (m + cost t.size) be t (pairs t).getLast? w) := by
 obtain ⟨N, hTr, he, hb⟩ := hS.map
 have hc := cost_ge t.size
 have hn : N.size = t.size := by rw [← he, er_size]
 refine (max_any hS.gate (by omega) (by omega) hTr.1 hb (by rw [← er_isLeaf, he]; exact good_node hS.good)).mono fun e w' h => h.st hS ?_ (by omega)
 rw [end_tree true (he ▸ hS.good)]; rw [← he, pairs_er]; rfl
def rngL (lo hi : Int) (m : List (Int × Int)) : List (Int × Int) := m.filter fun p => decide (lo ≤ p.1) && decide (p.1 ≤ hi)
def PV (g : Gt) (B : Nat) (w : World) (xs : List (Int × Int)) (v : Value) : Prop := Row g w 49 2 v xs.length (pV xs) ∧ ∀ b, v.ownBlock = some b → B ≤ b
theorem range_st {lo hi : Int} (hS : St g m be t w0 w) (hm : m + cost t.size < LIM) (hsz : t.size < 300000) :
 Calls Tryz.prog 100 #[gval g, ptr be, .int .i64 lo, .int .i64 hi] w fun e w' => ∃ v, e = .returned v ∧ St g (m + cost t.size) be t w w' ∧ PV g w.heap.size w' (rngL lo hi (pairs t)) v := by
 obtain ⟨N, hTr, he, hb⟩ := hS.map
 have hc := cost_ge t.size
 have hn : N.size = t.size := by rw [← he, er_size]
 refine (range_any (lo := lo) (hi := hi) hS.gate (by omega) (by omega) hTr.1 hb (by rw [← er_isLeaf, he]; exact good_node hS.good) ((Sc_er N).1 (by rw [he]; exact hS.good.sc))).mono ?_
 rintro e w' ⟨v, h1, h2, h3, h4⟩
 have : rng lo hi N = rngL lo hi (pairs t) := by rw [← he, pairs_er]; rfl
 unfold RngR at h4
 rw [this] at h4
 exact ⟨v, h1, ⟨hS.map.fr0 h2, hS.good, h3.mono (by omega), TF.of h2⟩, h4⟩
def opT (kind key val : Int) (t : T Unit) : T Unit := if kind = 2 then putT key val false t else if kind = 3 then putT key val true t else if kind = 4 then delT key t else t
def pairR (o : Option (Int × Int)) : RetM := ⟨o.isSome, (o.getD (0, 0)).1, (o.getD (0, 0)).2, []⟩
def opR (kind key hi : Int) (m : List (Int × Int)) : RetM :=
 if kind = 1 ∨ kind = 2 ∨ kind = 4 then ⟨(getL key m).isSome, 0, (getL key m).getD 0, []⟩
 else if kind = 3 then ⟨(getL key m).isNone, 0, (getL key m).getD 0, []⟩
 else if kind = 5 then pairR (succL key m) else if kind = 6 then pairR (predL key m) else if kind = 7 then pairR m.head? else if kind = 8 then pairR m.getLast?
 else ⟨true, 0, 0, rngL key hi m⟩
theorem pO_pair (o : Option (Int × Int)) : pO o = #[.int .i64 (pairR o).k, .int .i64 (pairR o).v] := by cases o <;> rfl
def DoQ (g : Gt) (m be : Nat) (E : T Unit) (r : RetM) (w : World) (e : Ending) (w' : World) : Prop :=
 ∃ x, e = .returned (.tuple #[x, .int .i64 0]) ∧ RV g w.heap.size w' r x ∧ St g m be E w w'
end
set_option maxHeartbeats 8000000 in
theorem do53_1 {g : Gt} {m be : Nat} {t : T Unit} {key val hi : Int} {w0 w : World} (hS : St g m be t w0 w) (hm : m + cost t.size < LIM) (hsz : t.size < 300000) :
 Calls Tryz.prog 53 #[gval g, ptr be, .agg #[.int .i64 1, .int .i64 key, .int .i64 val, .int .i64 hi]] w (DoQ g (m + cost t.size) be (opT 1 key val t) (opR 1 key hi (pairs t)) w) := by
 have hg := hS.gate
 have hS0 : St g m be t w w := ⟨hS.map, hS.good, hS.gate, Fr.refl _ _ _⟩
 have hG1 := hg.alloc (.cells #[.int .i64 1, .int .i64 key, .int .i64 val, .int .i64 hi] 43)
 have hB1 := At.new hg (.cells #[.int .i64 1, .int .i64 key, .int .i64 val, .int .i64 hi] 43)
 have hF2 := Fr.alloc g No _ (.cells #[.bool false, .int .i64 0, .int .i64 0, .slice none 0 0] 34) hG1
 have hB2b := At.new hG1 (.cells #[.bool false, .int .i64 0, .int .i64 0, .slice none 0 0] 34)
 have hB1b := hF2.at hB1 id
 have hSW := (hS0.alloc (.cells #[.int .i64 1, .int .i64 key, .int .i64 val, .int .i64 hi] 43)).alloc (.cells #[.bool false, .int .i64 0, .int .i64 0, .slice none 0 0] 34)
 simp only [World.size_alloc] at hB2b
 have k0 := hB1b.cell 0
 have k1 := hB1b.cell 1
 have k2 := hB1b.cell 2
 have k3 := hB1b.cell 3
 have hC := get_any (key := key) hSW hm (by omega)
 clear hG1 hB1 hF2 hS hg hS0
 unfold ptr at *
 go_enter Tryz.func53, Tryz.ntmps53
 go_wp2_with fail
 generalize hW : World.alloc (World.alloc w _) _ = W at *
 clear hW
 refine hC.mono ?_
 rintro e w1 ⟨rfl, hS1⟩
 have hS2 := hSW.trans hS1
 have hB2 := hS1.tf.at hB2b (by decide)
 have hsW := hSW.tf.size
 obtain ⟨v, hv⟩ : ∃ v, (getL key (pairs t)).getD 0 = v := ⟨_, rfl⟩
 obtain ⟨ok, hok⟩ : ∃ ok, (getL key (pairs t)).isSome = ok := ⟨_, rfl⟩
 rw [hv, hok]
 have HV := Lib.hid (And.intro hv hok)
 clear hv hok
 have q0 := hB2.free 0
 have q1 := hB2.free 1
 have q2 := hB2.free 2
 have q3 := hB2.free 3
 have r0 := hB2.cell 0
 have r1 := hB2.cell 1
 have r2 := hB2.cell 2
 have r3 := hB2.cell 3
 clear hC hB1b hB2b hS1 hSW k0 k1 k2 k3
 go_wp2_with fail
 obtain ⟨f4, g4, hR⟩ := set4 (x := .bool ok) (y := .int .i64 0) (z := .int .i64 v) (u := .slice none 0 0) hS2.gate hB2 (by decide) rfl
 have hS4 := hS2.own1 hB2 (by decide) (by omega) f4 g4
 refine bodyPost_ret (results_ct rfl _ rfl hR.1 Tryz.underlying34 size34) rfl ?_
 exact ⟨_, rfl, ⟨.slice none 0 0, by rw [← HV.out.1, ← HV.out.2]; rfl, Row.nil, by simp [Value.ownBlock]⟩, hS4⟩
set_option maxHeartbeats 8000000 in
theorem do53_2 {g : Gt} {m be : Nat} {t : T Unit} {key val hi : Int} {w0 w : World} (hS : St g m be t w0 w) (hm : m + cost t.size < LIM) (hsz : t.size < 300000) :
 Calls Tryz.prog 53 #[gval g, ptr be, .agg #[.int .i64 2, .int .i64 key, .int .i64 val, .int .i64 hi]] w (DoQ g (m + cost t.size) be (opT 2 key val t) (opR 2 key hi (pairs t)) w) := by
 have hg := hS.gate
 have hS0 : St g m be t w w := ⟨hS.map, hS.good, hS.gate, Fr.refl _ _ _⟩
 have hG1 := hg.alloc (.cells #[.int .i64 2, .int .i64 key, .int .i64 val, .int .i64 hi] 43)
 have hB1 := At.new hg (.cells #[.int .i64 2, .int .i64 key, .int .i64 val, .int .i64 hi] 43)
 have hF2 := Fr.alloc g No _ (.cells #[.bool false, .int .i64 0, .int .i64 0, .slice none 0 0] 34) hG1
 have hB2b := At.new hG1 (.cells #[.bool false, .int .i64 0, .int .i64 0, .slice none 0 0] 34)
 have hB1b := hF2.at hB1 id
 have hSW := (hS0.alloc (.cells #[.int .i64 2, .int .i64 key, .int .i64 val, .int .i64 hi] 43)).alloc (.cells #[.bool false, .int .i64 0, .int .i64 0, .slice none 0 0] 34)
 simp only [World.size_alloc] at hB2b
 have k0 := hB1b.cell 0
 have k1 := hB1b.cell 1
 have k2 := hB1b.cell 2
 have k3 := hB1b.cell 3
 have hC := do94_put (key := key) (val := val) (hi := hi) hSW hm (by omega)
 clear hG1 hB1 hF2 hS hg hS0
 unfold ptr at *
 go_enter Tryz.func53, Tryz.ntmps53
 go_wp2_with fail
 generalize hW : World.alloc (World.alloc w _) _ = W at *
 clear hW
 refine hC.mono ?_
 rintro e w1 ⟨rfl, hS1⟩
 have hS2 := hSW.trans hS1
 have hB2 := hS1.tf.at hB2b (by decide)
 have hsW := hSW.tf.size
 obtain ⟨v, hv⟩ : ∃ v, (getL key (pairs t)).getD 0 = v := ⟨_, rfl⟩
 obtain ⟨ok, hok⟩ : ∃ ok, (getL key (pairs t)).isSome = ok := ⟨_, rfl⟩
 rw [hv, hok]
 unfold rO
 have HV := Lib.hid (And.intro hv hok)
 clear hv hok
 have q0 := hB2.free 0
 have q1 := hB2.free 1
 have q2 := hB2.free 2
 have q3 := hB2.free 3
 have r0 := hB2.cell 0
 have r1 := hB2.cell 1
 have r2 := hB2.cell 2
 have r3 := hB2.cell 3
 clear hC hB1b hB2b hS1 hSW k0 k1 k2 k3
 go_wp2_with fail
 obtain ⟨f4, g4, hR⟩ := set4 (x := .bool ok) (y := .int .i64 0) (z := .int .i64 v) (u := .slice none 0 0) hS2.gate hB2 (by decide) rfl
 have hS4 := hS2.own1 hB2 (by decide) (by omega) f4 g4
 refine bodyPost_ret (results_ct rfl _ rfl hR.1 Tryz.underlying34 size34) rfl ?_
 exact ⟨_, rfl, ⟨.slice none 0 0, by rw [← HV.out.1, ← HV.out.2]; rfl, Row.nil, by simp [Value.ownBlock]⟩, hS4⟩
set_option maxHeartbeats 8000000 in
theorem do53_3 {g : Gt} {m be : Nat} {t : T Unit} {key val hi : Int} {w0 w : World} (hS : St g m be t w0 w) (hm : m + cost t.size < LIM) (hsz : t.size < 300000) :
 Calls Tryz.prog 53 #[gval g, ptr be, .agg #[.int .i64 3, .int .i64 key, .int .i64 val, .int .i64 hi]] w (DoQ g (m + cost t.size) be (opT 3 key val t) (opR 3 key hi (pairs t)) w) := by
 have hg := hS.gate
 have hS0 : St g m be t w w := ⟨hS.map, hS.good, hS.gate, Fr.refl _ _ _⟩
 have hG1 := hg.alloc (.cells #[.int .i64 3, .int .i64 key, .int .i64 val, .int .i64 hi] 43)
 have hB1 := At.new hg (.cells #[.int .i64 3, .int .i64 key, .int .i64 val, .int .i64 hi] 43)
 have hF2 := Fr.alloc g No _ (.cells #[.bool false, .int .i64 0, .int .i64 0, .slice none 0 0] 34) hG1
 have hB2b := At.new hG1 (.cells #[.bool false, .int .i64 0, .int .i64 0, .slice none 0 0] 34)
 have hB1b := hF2.at hB1 id
 have hSW := (hS0.alloc (.cells #[.int .i64 3, .int .i64 key, .int .i64 val, .int .i64 hi] 43)).alloc (.cells #[.bool false, .int .i64 0, .int .i64 0, .slice none 0 0] 34)
 simp only [World.size_alloc] at hB2b
 have k0 := hB1b.cell 0
 have k1 := hB1b.cell 1
 have k2 := hB1b.cell 2
 have k3 := hB1b.cell 3
 have hC := do94_pia (key := key) (val := val) (hi := hi) hSW hm (by omega)
 clear hG1 hB1 hF2 hS hg hS0
 unfold ptr at *
 go_enter Tryz.func53, Tryz.ntmps53
 go_wp2_with fail
 generalize hW : World.alloc (World.alloc w _) _ = W at *
 clear hW
 refine hC.mono ?_
 rintro e w1 ⟨rfl, hS1⟩
 have hS2 := hSW.trans hS1
 have hB2 := hS1.tf.at hB2b (by decide)
 have hsW := hSW.tf.size
 obtain ⟨v, hv⟩ : ∃ v, (getL key (pairs t)).getD 0 = v := ⟨_, rfl⟩
 obtain ⟨ok, hok⟩ : ∃ ok, (getL key (pairs t)).isNone = ok := ⟨_, rfl⟩
 rw [hv, hok]
 unfold rO
 have HV := Lib.hid (And.intro hv hok)
 clear hv hok
 have q0 := hB2.free 0
 have q1 := hB2.free 1
 have q2 := hB2.free 2
 have q3 := hB2.free 3
 have r0 := hB2.cell 0
 have r1 := hB2.cell 1
 have r2 := hB2.cell 2
 have r3 := hB2.cell 3
 clear hC hB1b hB2b hS1 hSW k0 k1 k2 k3
 go_wp2_with fail
 obtain ⟨f4, g4, hR⟩ := set4 (x := .bool ok) (y := .int .i64 0) (z := .int .i64 v) (u := .slice none 0 0) hS2.gate hB2 (by decide) rfl
 have hS4 := hS2.own1 hB2 (by decide) (by omega) f4 g4
 refine bodyPost_ret (results_ct rfl _ rfl hR.1 Tryz.underlying34 size34) rfl ?_
 exact ⟨_, rfl, ⟨.slice none 0 0, by rw [← HV.out.1, ← HV.out.2]; rfl, Row.nil, by simp [Value.ownBlock]⟩, hS4⟩
set_option maxHeartbeats 8000000 in
theorem do53_4 {g : Gt} {m be : Nat} {t : T Unit} {key val hi : Int} {w0 w : World} (hS : St g m be t w0 w) (hm : m + cost t.size < LIM) (hsz : t.size < 300000) :
 Calls Tryz.prog 53 #[gval g, ptr be, .agg #[.int .i64 4, .int .i64 key, .int .i64 val, .int .i64 hi]] w (DoQ g (m + cost t.size) be (opT 4 key val t) (opR 4 key hi (pairs t)) w) := by
 have hg := hS.gate
 have hS0 : St g m be t w w := ⟨hS.map, hS.good, hS.gate, Fr.refl _ _ _⟩
 have hG1 := hg.alloc (.cells #[.int .i64 4, .int .i64 key, .int .i64 val, .int .i64 hi] 43)
 have hB1 := At.new hg (.cells #[.int .i64 4, .int .i64 key, .int .i64 val, .int .i64 hi] 43)
 have hF2 := Fr.alloc g No _ (.cells #[.bool false, .int .i64 0, .int .i64 0, .slice none 0 0] 34) hG1
 have hB2b := At.new hG1 (.cells #[.bool false, .int .i64 0, .int .i64 0, .slice none 0 0] 34)
 have hB1b := hF2.at hB1 id
 have hSW := (hS0.alloc (.cells #[.int .i64 4, .int .i64 key, .int .i64 val, .int .i64 hi] 43)).alloc (.cells #[.bool false, .int .i64 0, .int .i64 0, .slice none 0 0] 34)
 simp only [World.size_alloc] at hB2b
 have k0 := hB1b.cell 0
 have k1 := hB1b.cell 1
 have k2 := hB1b.cell 2
 have k3 := hB1b.cell 3
 have hC := do94_del (key := key) (val := val) (hi := hi) hSW hm (by omega)
 clear hG1 hB1 hF2 hS hg hS0
 unfold ptr at *
 go_enter Tryz.func53, Tryz.ntmps53
 go_wp2_with fail
 generalize hW : World.alloc (World.alloc w _) _ = W at *
 clear hW
 refine hC.mono ?_
 rintro e w1 ⟨rfl, hS1⟩
 have hS2 := hSW.trans hS1
 have hB2 := hS1.tf.at hB2b (by decide)
 have hsW := hSW.tf.size
 obtain ⟨v, hv⟩ : ∃ v, (getL key (pairs t)).getD 0 = v := ⟨_, rfl⟩
 obtain ⟨ok, hok⟩ : ∃ ok, (getL key (pairs t)).isSome = ok := ⟨_, rfl⟩
 rw [hv, hok]
 unfold rO
 have HV := Lib.hid (And.intro hv hok)
 clear hv hok
 have q0 := hB2.free 0
 have q1 := hB2.free 1
 have q2 := hB2.free 2
 have q3 := hB2.free 3
 have r0 := hB2.cell 0
 have r1 := hB2.cell 1
 have r2 := hB2.cell 2
 have r3 := hB2.cell 3
 clear hC hB1b hB2b hS1 hSW k0 k1 k2 k3
 go_wp2_with fail
 obtain ⟨f4, g4, hR⟩ := set4 (x := .bool ok) (y := .int .i64 0) (z := .int .i64 v) (u := .slice none 0 0) hS2.gate hB2 (by decide) rfl
 have hS4 := hS2.own1 hB2 (by decide) (by omega) f4 g4
 refine bodyPost_ret (results_ct rfl _ rfl hR.1 Tryz.underlying34 size34) rfl ?_
 exact ⟨_, rfl, ⟨.slice none 0 0, by rw [← HV.out.1, ← HV.out.2]; rfl, Row.nil, by simp [Value.ownBlock]⟩, hS4⟩
set_option maxHeartbeats 8000000 in
theorem do53_5 {g : Gt} {m be : Nat} {t : T Unit} {key val hi : Int} {w0 w : World} (hS : St g m be t w0 w) (hm : m + cost t.size < LIM) (hsz : t.size < 300000) :
 Calls Tryz.prog 53 #[gval g, ptr be, .agg #[.int .i64 5, .int .i64 key, .int .i64 val, .int .i64 hi]] w (DoQ g (m + cost t.size) be (opT 5 key val t) (opR 5 key hi (pairs t)) w) := by
 have hg := hS.gate
 have hS0 : St g m be t w w := ⟨hS.map, hS.good, hS.gate, Fr.refl _ _ _⟩
 have hG1 := hg.alloc (.cells #[.int .i64 5, .int .i64 key, .int .i64 val, .int .i64 hi] 43)
 have hB1 := At.new hg (.cells #[.int .i64 5, .int .i64 key, .int .i64 val, .int .i64 hi] 43)
 have hF2 := Fr.alloc g No _ (.cells #[.bool false, .int .i64 0, .int .i64 0, .slice none 0 0] 34) hG1
 have hB2b := At.new hG1 (.cells #[.bool false, .int .i64 0, .int .i64 0, .slice none 0 0] 34)
 have hB1b := hF2.at hB1 id
 have hSW := (hS0.alloc (.cells #[.int .i64 5, .int .i64 key, .int .i64 val, .int .i64 hi] 43)).alloc (.cells #[.bool false, .int .i64 0, .int .i64 0, .slice none 0 0] 34)
 simp only [World.size_alloc] at hB2b
 have k0 := hB1b.cell 0
 have k1 := hB1b.cell 1
 have k2 := hB1b.cell 2
 have k3 := hB1b.cell 3
 have hC := succ_st (key := key) hSW hm hsz
 clear hG1 hB1 hF2 hS hg hS0
 unfold ptr at *
 go_enter Tryz.func53, Tryz.ntmps53
 go_wp2_with fail
 generalize hW : World.alloc (World.alloc w _) _ = W at *
 clear hW
 refine hC.mono ?_
 rintro e w1 ⟨rfl, hS1⟩
 have hS2 := hSW.trans hS1
 have hB2 := hS1.tf.at hB2b (by decide)
 have hsW := hSW.tf.size
 rw [pO_pair]
 obtain ⟨a, ha⟩ : ∃ a, (pairR (succL key (pairs t))).k = a := ⟨_, rfl⟩
 obtain ⟨b, hb⟩ : ∃ b, (pairR (succL key (pairs t))).v = b := ⟨_, rfl⟩
 obtain ⟨ok, hok⟩ : ∃ ok, (succL key (pairs t)).isSome = ok := ⟨_, rfl⟩
 rw [ha, hb, hok]
 have HV := Lib.hid (And.intro ha (And.intro hb hok))
 clear ha hb hok
 have hNr := near_any (a := a) (b := b) (ok := ok) hS2.gate
 clear hC hB1b hB2b hS1 hSW k0 k1 k2 k3
 go_wp2_with fail
 refine hNr.mono ?_
 rintro e w2 ⟨rfl, f2, hG2⟩
 replace hB2 := f2.at hB2 id
 replace hS2 := hS2.fr f2 hG2
 unfold rO
 clear hNr
 have q0 := hB2.free 0
 have q1 := hB2.free 1
 have q2 := hB2.free 2
 have q3 := hB2.free 3
 have r0 := hB2.cell 0
 have r1 := hB2.cell 1
 have r2 := hB2.cell 2
 have r3 := hB2.cell 3
 go_wp2_with fail
 obtain ⟨f4, g4, hR⟩ := set4 (x := .bool ok) (y := .int .i64 a) (z := .int .i64 b) (u := .slice none 0 0) hS2.gate hB2 (by decide) rfl
 have hS4 := hS2.own1 hB2 (by decide) (by omega) f4 g4
 refine bodyPost_ret (results_ct rfl _ rfl hR.1 Tryz.underlying34 size34) rfl ?_
 exact ⟨_, rfl, ⟨.slice none 0 0, by rw [← HV.out.1, ← HV.out.2.1, ← HV.out.2.2]; rfl, Row.nil, by simp [Value.ownBlock]⟩, hS4⟩
set_option maxHeartbeats 8000000 in
theorem do53_6 {g : Gt} {m be : Nat} {t : T Unit} {key val hi : Int} {w0 w : World} (hS : St g m be t w0 w) (hm : m + cost t.size < LIM) (hsz : t.size < 300000) :
 Calls Tryz.prog 53 #[gval g, ptr be, .agg #[.int .i64 6, .int .i64 key, .int .i64 val, .int .i64 hi]] w (DoQ g (m + cost t.size) be (opT 6 key val t) (opR 6 key hi (pairs t)) w) := by
 have hg := hS.gate
 have hS0 : St g m be t w w := ⟨hS.map, hS.good, hS.gate, Fr.refl _ _ _⟩
 have hG1 := hg.alloc (.cells #[.int .i64 6, .int .i64 key, .int .i64 val, .int .i64 hi] 43)
 have hB1 := At.new hg (.cells #[.int .i64 6, .int .i64 key, .int .i64 val, .int .i64 hi] 43)
 have hF2 := Fr.alloc g No _ (.cells #[.bool false, .int .i64 0, .int .i64 0, .slice none 0 0] 34) hG1
 have hB2b := At.new hG1 (.cells #[.bool false, .int .i64 0, .int .i64 0, .slice none 0 0] 34)
 have hB1b := hF2.at hB1 id
 have hSW := (hS0.alloc (.cells #[.int .i64 6, .int .i64 key, .int .i64 val, .int .i64 hi] 43)).alloc (.cells #[.bool false, .int .i64 0, .int .i64 0, .slice none 0 0] 34)
 simp only [World.size_alloc] at hB2b
 have k0 := hB1b.cell 0
 have k1 := hB1b.cell 1
 have k2 := hB1b.cell 2
 have k3 := hB1b.cell 3
 have hC := pred_st (key := key) hSW hm hsz
 clear hG1 hB1 hF2 hS hg hS0
 unfold ptr at *
 go_enter Tryz.func53, Tryz.ntmps53
 go_wp2_with fail
 generalize hW : World.alloc (World.alloc w _) _ = W at *
 clear hW
 refine hC.mono ?_
 rintro e w1 ⟨rfl, hS1⟩
 have hS2 := hSW.trans hS1
 have hB2 := hS1.tf.at hB2b (by decide)
 have hsW := hSW.tf.size
 rw [pO_pair]
 obtain ⟨a, ha⟩ : ∃ a, (pairR (predL key (pairs t))).k = a := ⟨_, rfl⟩
 obtain ⟨b, hb⟩ : ∃ b, (pairR (predL key (pairs t))).v = b := ⟨_, rfl⟩
 obtain ⟨ok, hok⟩ : ∃ ok, (predL key (pairs t)).isSome = ok := ⟨_, rfl⟩
 rw [ha, hb, hok]
 have HV := Lib.hid (And.intro ha (And.intro hb hok))
 clear ha hb hok
 have hNr := near_any (a := a) (b := b) (ok := ok) hS2.gate
 clear hC hB1b hB2b hS1 hSW k0 k1 k2 k3
 go_wp2_with fail
 refine hNr.mono ?_
 rintro e w2 ⟨rfl, f2, hG2⟩
 replace hB2 := f2.at hB2 id
 replace hS2 := hS2.fr f2 hG2
 unfold rO
 clear hNr
 have q0 := hB2.free 0
 have q1 := hB2.free 1
 have q2 := hB2.free 2
 have q3 := hB2.free 3
 have r0 := hB2.cell 0
 have r1 := hB2.cell 1
 have r2 := hB2.cell 2
 have r3 := hB2.cell 3
 go_wp2_with fail
 obtain ⟨f4, g4, hR⟩ := set4 (x := .bool ok) (y := .int .i64 a) (z := .int .i64 b) (u := .slice none 0 0) hS2.gate hB2 (by decide) rfl
 have hS4 := hS2.own1 hB2 (by decide) (by omega) f4 g4
 refine bodyPost_ret (results_ct rfl _ rfl hR.1 Tryz.underlying34 size34) rfl ?_
 exact ⟨_, rfl, ⟨.slice none 0 0, by rw [← HV.out.1, ← HV.out.2.1, ← HV.out.2.2]; rfl, Row.nil, by simp [Value.ownBlock]⟩, hS4⟩
set_option maxHeartbeats 8000000 in
theorem do53_7 {g : Gt} {m be : Nat} {t : T Unit} {key val hi : Int} {w0 w : World} (hS : St g m be t w0 w) (hm : m + cost t.size < LIM) (hsz : t.size < 300000) :
 Calls Tryz.prog 53 #[gval g, ptr be, .agg #[.int .i64 7, .int .i64 key, .int .i64 val, .int .i64 hi]] w (DoQ g (m + cost t.size) be (opT 7 key val t) (opR 7 key hi (pairs t)) w) := by
 have hg := hS.gate
 have hS0 : St g m be t w w := ⟨hS.map, hS.good, hS.gate, Fr.refl _ _ _⟩
 have hG1 := hg.alloc (.cells #[.int .i64 7, .int .i64 key, .int .i64 val, .int .i64 hi] 43)
 have hB1 := At.new hg (.cells #[.int .i64 7, .int .i64 key, .int .i64 val, .int .i64 hi] 43)
 have hF2 := Fr.alloc g No _ (.cells #[.bool false, .int .i64 0, .int .i64 0, .slice none 0 0] 34) hG1
 have hB2b := At.new hG1 (.cells #[.bool false, .int .i64 0, .int .i64 0, .slice none 0 0] 34)
 have hB1b := hF2.at hB1 id
 have hSW := (hS0.alloc (.cells #[.int .i64 7, .int .i64 key, .int .i64 val, .int .i64 hi] 43)).alloc (.cells #[.bool false, .int .i64 0, .int .i64 0, .slice none 0 0] 34)
 simp only [World.size_alloc] at hB2b
 have k0 := hB1b.cell 0
 have k1 := hB1b.cell 1
 have k2 := hB1b.cell 2
 have k3 := hB1b.cell 3
 have hC := min_st hSW hm hsz
 clear hG1 hB1 hF2 hS hg hS0
 unfold ptr at *
 go_enter Tryz.func53, Tryz.ntmps53
 go_wp2_with fail
 generalize hW : World.alloc (World.alloc w _) _ = W at *
 clear hW
 refine hC.mono ?_
 rintro e w1 ⟨rfl, hS1⟩
 have hS2 := hSW.trans hS1
 have hB2 := hS1.tf.at hB2b (by decide)
 have hsW := hSW.tf.size
 rw [pO_pair]
 obtain ⟨a, ha⟩ : ∃ a, (pairR ((pairs t).head?)).k = a := ⟨_, rfl⟩
 obtain ⟨b, hb⟩ : ∃ b, (pairR ((pairs t).head?)).v = b := ⟨_, rfl⟩
 obtain ⟨ok, hok⟩ : ∃ ok, ((pairs t).head?).isSome = ok := ⟨_, rfl⟩
 rw [ha, hb, hok]
 have HV := Lib.hid (And.intro ha (And.intro hb hok))
 clear ha hb hok
 have hNr := near_any (a := a) (b := b) (ok := ok) hS2.gate
 clear hC hB1b hB2b hS1 hSW k0 k1 k2 k3
 go_wp2_with fail
 refine hNr.mono ?_
 rintro e w2 ⟨rfl, f2, hG2⟩
 replace hB2 := f2.at hB2 id
 replace hS2 := hS2.fr f2 hG2
 unfold rO
 clear hNr
 have q0 := hB2.free 0
 have q1 := hB2.free 1
 have q2 := hB2.free 2
 have q3 := hB2.free 3
 have r0 := hB2.cell 0
 have r1 := hB2.cell 1
 have r2 := hB2.cell 2
 have r3 := hB2.cell 3
 go_wp2_with fail
 obtain ⟨f4, g4, hR⟩ := set4 (x := .bool ok) (y := .int .i64 a) (z := .int .i64 b) (u := .slice none 0 0) hS2.gate hB2 (by decide) rfl
 have hS4 := hS2.own1 hB2 (by decide) (by omega) f4 g4
 refine bodyPost_ret (results_ct rfl _ rfl hR.1 Tryz.underlying34 size34) rfl ?_
 exact ⟨_, rfl, ⟨.slice none 0 0, by rw [← HV.out.1, ← HV.out.2.1, ← HV.out.2.2]; rfl, Row.nil, by simp [Value.ownBlock]⟩, hS4⟩
set_option maxHeartbeats 8000000 in
theorem do53_8 {g : Gt} {m be : Nat} {t : T Unit} {key val hi : Int} {w0 w : World} (hS : St g m be t w0 w) (hm : m + cost t.size < LIM) (hsz : t.size < 300000) :
 Calls Tryz.prog 53 #[gval g, ptr be, .agg #[.int .i64 8, .int .i64 key, .int .i64 val, .int .i64 hi]] w (DoQ g (m + cost t.size) be (opT 8 key val t) (opR 8 key hi (pairs t)) w) := by
 have hg := hS.gate
 have hS0 : St g m be t w w := ⟨hS.map, hS.good, hS.gate, Fr.refl _ _ _⟩
 have hG1 := hg.alloc (.cells #[.int .i64 8, .int .i64 key, .int .i64 val, .int .i64 hi] 43)
 have hB1 := At.new hg (.cells #[.int .i64 8, .int .i64 key, .int .i64 val, .int .i64 hi] 43)
 have hF2 := Fr.alloc g No _ (.cells #[.bool false, .int .i64 0, .int .i64 0, .slice none 0 0] 34) hG1
 have hB2b := At.new hG1 (.cells #[.bool false, .int .i64 0, .int .i64 0, .slice none 0 0] 34)
 have hB1b := hF2.at hB1 id
 have hSW := (hS0.alloc (.cells #[.int .i64 8, .int .i64 key, .int .i64 val, .int .i64 hi] 43)).alloc (.cells #[.bool false, .int .i64 0, .int .i64 0, .slice none 0 0] 34)
 simp only [World.size_alloc] at hB2b
 have k0 := hB1b.cell 0
 have k1 := hB1b.cell 1
 have k2 := hB1b.cell 2
 have k3 := hB1b.cell 3
 have hC := max_st hSW hm hsz
 clear hG1 hB1 hF2 hS hg hS0
 unfold ptr at *
 go_enter Tryz.func53, Tryz.ntmps53
 go_wp2_with fail
 generalize hW : World.alloc (World.alloc w _) _ = W at *
 clear hW
 refine hC.mono ?_
 rintro e w1 ⟨rfl, hS1⟩
 have hS2 := hSW.trans hS1
 have hB2 := hS1.tf.at hB2b (by decide)
 have hsW := hSW.tf.size
 rw [pO_pair]
 obtain ⟨a, ha⟩ : ∃ a, (pairR ((pairs t).getLast?)).k = a := ⟨_, rfl⟩
 obtain ⟨b, hb⟩ : ∃ b, (pairR ((pairs t).getLast?)).v = b := ⟨_, rfl⟩
 obtain ⟨ok, hok⟩ : ∃ ok, ((pairs t).getLast?).isSome = ok := ⟨_, rfl⟩
 rw [ha, hb, hok]
 have HV := Lib.hid (And.intro ha (And.intro hb hok))
 clear ha hb hok
 have hNr := near_any (a := a) (b := b) (ok := ok) hS2.gate
 clear hC hB1b hB2b hS1 hSW k0 k1 k2 k3
 go_wp2_with fail
 refine hNr.mono ?_
 rintro e w2 ⟨rfl, f2, hG2⟩
 replace hB2 := f2.at hB2 id
 replace hS2 := hS2.fr f2 hG2
 unfold rO
 clear hNr
 have q0 := hB2.free 0
 have q1 := hB2.free 1
 have q2 := hB2.free 2
 have q3 := hB2.free 3
 have r0 := hB2.cell 0
 have r1 := hB2.cell 1
 have r2 := hB2.cell 2
 have r3 := hB2.cell 3
 go_wp2_with fail
 obtain ⟨f4, g4, hR⟩ := set4 (x := .bool ok) (y := .int .i64 a) (z := .int .i64 b) (u := .slice none 0 0) hS2.gate hB2 (by decide) rfl
 have hS4 := hS2.own1 hB2 (by decide) (by omega) f4 g4
 refine bodyPost_ret (results_ct rfl _ rfl hR.1 Tryz.underlying34 size34) rfl ?_
 exact ⟨_, rfl, ⟨.slice none 0 0, by rw [← HV.out.1, ← HV.out.2.1, ← HV.out.2.2]; rfl, Row.nil, by simp [Value.ownBlock]⟩, hS4⟩
set_option maxHeartbeats 8000000 in
theorem do53_9 {g : Gt} {m be : Nat} {t : T Unit} {key val hi : Int} {w0 w : World} (hS : St g m be t w0 w) (hm : m + cost t.size < LIM) (hsz : t.size < 300000) :
 Calls Tryz.prog 53 #[gval g, ptr be, .agg #[.int .i64 9, .int .i64 key, .int .i64 val, .int .i64 hi]] w (DoQ g (m + cost t.size) be (opT 9 key val t) (opR 9 key hi (pairs t)) w) := by
 have hg := hS.gate
 have hS0 : St g m be t w w := ⟨hS.map, hS.good, hS.gate, Fr.refl _ _ _⟩
 have hG1 := hg.alloc (.cells #[.int .i64 9, .int .i64 key, .int .i64 val, .int .i64 hi] 43)
 have hB1 := At.new hg (.cells #[.int .i64 9, .int .i64 key, .int .i64 val, .int .i64 hi] 43)
 have hF2 := Fr.alloc g No _ (.cells #[.bool false, .int .i64 0, .int .i64 0, .slice none 0 0] 34) hG1
 have hB2b := At.new hG1 (.cells #[.bool false, .int .i64 0, .int .i64 0, .slice none 0 0] 34)
 have hB1b := hF2.at hB1 id
 have hSW := (hS0.alloc (.cells #[.int .i64 9, .int .i64 key, .int .i64 val, .int .i64 hi] 43)).alloc (.cells #[.bool false, .int .i64 0, .int .i64 0, .slice none 0 0] 34)
 simp only [World.size_alloc] at hB2b
 have k0 := hB1b.cell 0
 have k1 := hB1b.cell 1
 have k2 := hB1b.cell 2
 have k3 := hB1b.cell 3
 have hC := range_st (lo := key) (hi := hi) hSW hm hsz
 clear hG1 hB1 hF2 hS hg hS0
 unfold ptr at *
 go_enter Tryz.func53, Tryz.ntmps53
 go_wp2_with fail
 generalize hW : World.alloc (World.alloc w _) _ = W at *
 clear hW
 refine hC.mono ?_
 rintro e w1 ⟨v, rfl, hS1, hR1, hN1⟩
 have hS2 := hSW.trans hS1
 have hB2 := hS1.tf.at hB2b (by decide)
 have hsW := hSW.tf.size
 obtain ⟨sa, sc, rfl⟩ := hR1.slice
 generalize hsn : (rngL key hi (pairs t)).length = sn at *
 have hR1' : Row g w1 49 2 (.slice sa sn sc) sn (pV (rngL key hi (pairs t))) := hR1
 have q0 := hB2.free 0
 have q1 := hB2.free 1
 have q2 := hB2.free 2
 have q3 := hB2.free 3
 have r0 := hB2.cell 0
 have r1 := hB2.cell 1
 have r2 := hB2.cell 2
 have r3 := hB2.cell 3
 clear hC hB1b hB2b hS1 hSW k0 k1 k2 k3 hR1
 go_wp2_with fail
 obtain ⟨f4, g4, hR⟩ := set4 (x := .bool true) (y := .int .i64 0) (z := .int .i64 0) (u := .slice sa sn sc) hS2.gate hB2 (by decide) rfl
 have hS4 := hS2.own1 hB2 (by decide) (by omega) f4 g4
 refine bodyPost_ret (results_ct rfl _ rfl hR.1 Tryz.underlying34 size34) rfl ?_
 exact ⟨_, rfl, ⟨.slice sa sn sc, rfl, by rw [show (opR 9 key hi (pairs t)).ps = rngL key hi (pairs t) from rfl, hsn]; exact hR1'.fr f4 (fun c h1 h2 => by subst h2; exact hR1'.notin hB2 (by decide) h1), fun c hc => Nat.le_trans hsW (hN1 c hc)⟩, hS4⟩
end Go.Proofs.YtdmobhndbibhoaaGreat
