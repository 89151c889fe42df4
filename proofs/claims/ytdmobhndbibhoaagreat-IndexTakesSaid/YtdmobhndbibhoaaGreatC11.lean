/- The scans: Range. -/
import Derived.Test.YtdmobhndbibhoaaGreatC9
namespace Go.Proofs.YtdmobhndbibhoaaGreat
open Go.RowKit Larch
set_option maxRecDepth 100000
set_option linter.unusedVariables false
set_option linter.unusedSimpArgs false
attribute [local go_sem ↓] Go.wp_at_zero Go.wp_at_succ
theorem rng_gt {lo hi : Int} {t : HTree} (h : hi < lo) : rng lo hi t = [] := filter_none fun p _ => by simp; omega
set_option maxHeartbeats 4000000 in
theorem range_any {g : Gt} {be m : Nat} {lo hi : Int} {t : HTree} {w : World} (hg : GOk g m w) (hm : m + 16 * t.size + 200 < LIM) (hsz : t.size < 300000) (hT : HT g w t) (hb : t.ann.1 = be) (hn : t.isLeaf = false) (hsc : Sc t) :
 Calls Tryz.prog 100 #[gval g, ptr be, .int .i64 lo, .int .i64 hi] w fun e w' => ∃ v, e = .returned v ∧ Fr g No w w' ∧ GOk g (m + 16 * t.size) w' ∧ RngR g lo hi t w v w' := by
 have hF1 := Fr.alloc g No w (.cells #[ptr be] 99) hg
 have hG1 := hg.alloc (.cells #[ptr be] 99)
 have hB1 := At.new hg (.cells #[ptr be] 99)
 have hF2 := Fr.alloc g No _ (.cells #[.int .i64 lo] 3) hG1
 have hG2 := hG1.alloc (.cells #[.int .i64 lo] 3)
 have hB2 := At.new hG1 (.cells #[.int .i64 lo] 3)
 have hF3 := Fr.alloc g No _ (.cells #[.int .i64 hi] 3) hG2
 have hG3 := hG2.alloc (.cells #[.int .i64 hi] 3)
 have hB3 := At.new hG2 (.cells #[.int .i64 hi] 3)
 have hB1' := hF3.at (hF2.at hB1 id) id
 have hB2' := hF3.at hB2 id
 have hF := (hF1.tr hF2).tr hF3
 simp only [World.size_alloc] at hB2' hB3
 have l0 := hB2'.cell 0
 have h0 := hB3.cell 0
 clear hF1 hG1 hB1 hF2 hG2 hB2 hF3
 unfold ptr at *
 by_cases hgt : hi < lo
 ·have HE : Hid (Fr g No w _ ∧ GOk g m _) := ⟨hF, hG3⟩
  go_enter Tryz.func100, Tryz.ntmps100
  go_wp2_with fail
  go_ret
  exact ⟨_, rfl, HE.out.1, HE.out.2.mono (by omega), by rw [RngR, rng_gt hgt]; exact ⟨Row.nil, by simp [Value.ownBlock]⟩⟩
 ·go_enter Tryz.func100, Tryz.ntmps100
  go_wp2_with fail
  generalize hW : World.alloc (World.alloc (World.alloc w _) _) _ = W at *
  clear hW
  have hWh := whole134 (eb := w.heap.size) (lb := w.heap.size + 1) (hb := w.heap.size + 1 + 1) (m := m) (M := m + 14 * t.size) (K := t.size) (R := fun v W' => RngR g lo hi t W v W') hG3 (by omega) (by omega) (fun W' vb f hG hV =>
   (see134 (lo := lo) (hi := hi) hG (by omega) (by omega) hV ((hT.fr0 hF).fr0 f) hn hsc (by rw [hb]; exact f.at hB1' id) (f.at hB2' id) (f.at hB3 id)).mono fun e w' ⟨v, L, h1, h2, h3, h4, h5, h6, h7, h8⟩ => ⟨v, L, h1, h2, h3, h4, h5, h6, h7, fun b hb => Nat.le_trans f.size (h8 b hb)⟩)
   (fun v W1 W2 f h => ⟨h.1.fr f (fun _ _ h => h), h.2⟩)
  refine hWh.mono ?_
  rintro e w1 ⟨v, rfl, f, hG4, hR⟩
  have HE : Hid (Fr g No w w1 ∧ GOk g (m + 16 * t.size) w1 ∧ RngR g lo hi t w v w1) := ⟨hF.tr f, hG4.mono (by omega), hR.1, fun b hb => Nat.le_trans hF.size (hR.2 b hb)⟩
  clear hWh hB1' hB2' hB3 hG3 f hG4 hR l0 h0
  go_wp2_with fail
  go_ret
  exact ⟨_, rfl, HE.out⟩
end Go.Proofs.YtdmobhndbibhoaaGreat
namespace Go.Proofs.YtdmobhndbibhoaaGreat
open Go.RowKit Larch
set_option maxRecDepth 100000
set_option linter.unusedVariables false
set_option linter.unusedSimpArgs false
attribute [local go_sem ↓] Go.wp_at_zero Go.wp_at_succ
structure RetM where
 ok : Bool
 k : Int
 v : Int
 ps : List (Int × Int)
def RV (g : Gt) (B : Nat) (w : World) (r : RetM) (x : Value) : Prop :=
 ∃ psv, x = .agg (rO r.ok r.k r.v psv) ∧ Row g w 49 2 psv r.ps.length (pV r.ps) ∧ ∀ b, psv.ownBlock = some b → B ≤ b
theorem set4 {g : Gt} {n rb : Nat} {a b c d x y z u : Value} {T : TypeId} {w W : World} (hg : GOk g n w) (h : Cl g w rb #[a, b, c, d] T) (hT : T ≠ 209)
 (hW : (((w.setCell ⟨rb, 0, none⟩ x).setCell ⟨rb, 1, none⟩ y).setCell ⟨rb, 2, none⟩ z).setCell ⟨rb, 3, none⟩ u = W) : Fr g (fun k => k = rb) w W ∧ GOk g n W ∧ Cl g W rb #[x, y, z, u] T := by
 subst hW
 have h1 := h.setCell 0 x
 have h2 := h1.setCell 1 y
 have h3 := h2.setCell 2 z
 have h4 := h3.setCell 3 u
 have g1 := hg.setCell h 0 x
 have g2 := g1.setCell h1 1 y
 have g3 := g2.setCell h2 2 z
 exact ⟨(((Fr.setCell (fun k => k = rb) h 0 x rfl (fun e => absurd e hT)).tr (Fr.setCell _ h1 1 y rfl (fun e => absurd e hT))).tr (Fr.setCell _ h2 2 z rfl (fun e => absurd e hT))).tr (Fr.setCell _ h3 3 u rfl (fun e => absurd e hT)), g3.setCell h3 3 u, h4⟩
theorem St.own1 {g : Gt} {m be b : Nat} {t : T Unit} {cs : Array Value} {T : TypeId} {w0 w w1 : World} (h : St g m be t w0 w) (hb : Cl g w b cs T) (hT : T ≠ 209 ∧ T ≠ 278 ∧ T ≠ 269) (hn : w0.heap.size ≤ b)
 (f : Go.Proofs.YtdmobhndbibhoaaGreat.Fr g (fun c => c = b) w w1) (hg : GOk g m w1) : St g m be t w0 w1 :=
 h.frS f (fun c cs' T' hc hT' e => by
  subst e
  have := hb.1.symm.trans hc.1
  simp only [Option.some.injEq, Obj.cells.injEq] at this
  obtain ⟨_, rfl, _⟩ := this
  rcases hT' with h | h | h
  ·exact hT.1 h
  ·exact hT.2.1 h
  ·exact hT.2.2 h) (fun c e => e ▸ hn) hg
set_option maxHeartbeats 8000000 in
theorem do94_put {g : Gt} {m be : Nat} {t : T Unit} {key val hi : Int} {w0 w : World} (hS : St g m be t w0 w) (hm : m + cost t.size < LIM) (hsz : t.size < 790000) :
 Calls Tryz.prog 94 #[gval g, ptr be, .agg #[.int .i64 2, .int .i64 key, .int .i64 val, .int .i64 hi]] w fun e w' => e = .returned (.tuple #[.agg (rO (getL key (pairs t)).isSome 0 ((getL key (pairs t)).getD 0) (.slice none 0 0)), .int .i64 0]) ∧ St g (m + cost t.size) be (putT key val false t) w w' := by
 have hg := hS.gate
 have hS0 : St g m be t w w := ⟨hS.map, hS.good, hS.gate, Fr.refl _ _ _⟩
 have hG1 := hg.alloc (.cells #[.int .i64 2, .int .i64 key, .int .i64 val, .int .i64 hi] 43)
 have hB1 := At.new hg (.cells #[.int .i64 2, .int .i64 key, .int .i64 val, .int .i64 hi] 43)
 have hF2 := Fr.alloc g No _ (.cells #[.bool false, .int .i64 0, .int .i64 0, .slice none 0 0] 34) hG1
 have hG2 := hG1.alloc (.cells #[.bool false, .int .i64 0, .int .i64 0, .slice none 0 0] 34)
 have hB2 := At.new hG1 (.cells #[.bool false, .int .i64 0, .int .i64 0, .slice none 0 0] 34)
 have hB1a := hF2.at hB1 id
 have hF3 := Fr.alloc g No _ (.cells #[.bool false, .int .i64 0, .int .i64 0, .slice none 0 0] 34) hG2
 have hG3 := hG2.alloc (.cells #[.bool false, .int .i64 0, .int .i64 0, .slice none 0 0] 34)
 have hB3 := At.new hG2 (.cells #[.bool false, .int .i64 0, .int .i64 0, .slice none 0 0] 34)
 have hB1b := hF3.at hB1a id
 have hB2b := hF3.at hB2 id
 have hSW := ((hS0.alloc (.cells #[.int .i64 2, .int .i64 key, .int .i64 val, .int .i64 hi] 43)).alloc (.cells #[.bool false, .int .i64 0, .int .i64 0, .slice none 0 0] 34)).alloc (.cells #[.bool false, .int .i64 0, .int .i64 0, .slice none 0 0] 34)
 simp only [World.size_alloc] at hB2b hB3
 have k0 := hB1b.cell 0
 have k1 := hB1b.cell 1
 have k2 := hB1b.cell 2
 have hC := put_any (key := key) (val := val) hSW hm hsz
 clear hG1 hB1 hF2 hG2 hB2 hB1a hF3 hG3 hS hg hS0
 unfold ptr at *
 go_enter Tryz.func94, Tryz.ntmps94
 go_wp2_with fail
 generalize hW : World.alloc (World.alloc (World.alloc w _) _) _ = W at *
 clear hW
 refine hC.mono ?_
 rintro e w1 ⟨rfl, hS1⟩
 have hB2 := hS1.tf.at hB2b (by decide)
 have hB3 := hS1.tf.at hB3 (by decide)
 have hS2 := hSW.trans hS1
 obtain ⟨v, hv⟩ : ∃ v, (getL key (pairs t)).getD 0 = v := ⟨_, rfl⟩
 obtain ⟨ok, hok⟩ : ∃ ok, (getL key (pairs t)).isSome = ok := ⟨_, rfl⟩
 rw [hv, hok]
 have HV := Lib.hid (And.intro hv hok)
 clear hv hok
 have h1 := hB3.setCell 2 (.int .i64 v)
 have h2 := h1.setCell 0 (.bool ok)
 have f1 := Fr.setCell (fun c => c = w.heap.size + 1 + 1) hB3 2 (.int .i64 v) rfl (fun _ => by decide)
 have f2 := Fr.setCell (fun c => c = w.heap.size + 1 + 1) h1 0 (.bool ok) rfl (fun _ => by decide)
 have hB2' := (f1.tr f2).at hB2 (by omega)
 have hS3 := (hS2.set (i := 2) (v := .int .i64 v) hB3 (by decide) (by omega)).set (i := 0) (v := .bool ok) h1 (by decide) (by omega)
 have c0 := h2.cell 0
 have c1 := h2.cell 1
 have c2 := h2.cell 2
 have c3 := h2.cell 3
 have a0 := hB3.cell 0
 have a2 := hB3.cell 2
 have b0 := h1.cell 0
 have p2 := hB3.free 2
 have p0 := h1.free 0
 have q0 := hB2'.free 0
 have q1 := hB2'.free 1
 have q2 := hB2'.free 2
 have q3 := hB2'.free 3
 have r0 := hB2'.cell 0
 have r1 := hB2'.cell 1
 have r2 := hB2'.cell 2
 have r3 := hB2'.cell 3
 clear hC hB1b hB2b hS1 hSW k0 k1 k2
 go_wp2_with fail
 obtain ⟨f4, g4, hR⟩ := set4 (x := .bool ok) (y := .int .i64 0) (z := .int .i64 v) (u := .slice none 0 0) hS3.gate hB2' (by decide) rfl
 have hS4 := hS3.own1 hB2' (by decide) (by omega) f4 g4
 refine bodyPost_ret (results_ct rfl _ rfl hR.1 Tryz.underlying34 size34) rfl ?_
 exact ⟨by rw [HV.out.1, HV.out.2]; rfl, hS4⟩
set_option maxHeartbeats 8000000 in
theorem do94_pia {g : Gt} {m be : Nat} {t : T Unit} {key val hi : Int} {w0 w : World} (hS : St g m be t w0 w) (hm : m + cost t.size < LIM) (hsz : t.size < 790000) :
 Calls Tryz.prog 94 #[gval g, ptr be, .agg #[.int .i64 3, .int .i64 key, .int .i64 val, .int .i64 hi]] w fun e w' => e = .returned (.tuple #[.agg (rO (getL key (pairs t)).isNone 0 ((getL key (pairs t)).getD 0) (.slice none 0 0)), .int .i64 0]) ∧ St g (m + cost t.size) be (putT key val true t) w w' := by
 have hg := hS.gate
 have hS0 : St g m be t w w := ⟨hS.map, hS.good, hS.gate, Fr.refl _ _ _⟩
 have hG1 := hg.alloc (.cells #[.int .i64 3, .int .i64 key, .int .i64 val, .int .i64 hi] 43)
 have hB1 := At.new hg (.cells #[.int .i64 3, .int .i64 key, .int .i64 val, .int .i64 hi] 43)
 have hF2 := Fr.alloc g No _ (.cells #[.bool false, .int .i64 0, .int .i64 0, .slice none 0 0] 34) hG1
 have hG2 := hG1.alloc (.cells #[.bool false, .int .i64 0, .int .i64 0, .slice none 0 0] 34)
 have hB2 := At.new hG1 (.cells #[.bool false, .int .i64 0, .int .i64 0, .slice none 0 0] 34)
 have hB1a := hF2.at hB1 id
 have hF3 := Fr.alloc g No _ (.cells #[.bool false, .int .i64 0, .int .i64 0, .slice none 0 0] 34) hG2
 have hG3 := hG2.alloc (.cells #[.bool false, .int .i64 0, .int .i64 0, .slice none 0 0] 34)
 have hB3 := At.new hG2 (.cells #[.bool false, .int .i64 0, .int .i64 0, .slice none 0 0] 34)
 have hB1b := hF3.at hB1a id
 have hB2b := hF3.at hB2 id
 have hSW := ((hS0.alloc (.cells #[.int .i64 3, .int .i64 key, .int .i64 val, .int .i64 hi] 43)).alloc (.cells #[.bool false, .int .i64 0, .int .i64 0, .slice none 0 0] 34)).alloc (.cells #[.bool false, .int .i64 0, .int .i64 0, .slice none 0 0] 34)
 simp only [World.size_alloc] at hB2b hB3
 have k0 := hB1b.cell 0
 have k1 := hB1b.cell 1
 have k2 := hB1b.cell 2
 have hC := pia_any (key := key) (val := val) hSW hm hsz
 clear hG1 hB1 hF2 hG2 hB2 hB1a hF3 hG3 hS hg hS0
 unfold ptr at *
 go_enter Tryz.func94, Tryz.ntmps94
 go_wp2_with fail
 generalize hW : World.alloc (World.alloc (World.alloc w _) _) _ = W at *
 clear hW
 refine hC.mono ?_
 rintro e w1 ⟨rfl, hS1⟩
 have hB2 := hS1.tf.at hB2b (by decide)
 have hB3 := hS1.tf.at hB3 (by decide)
 have hS2 := hSW.trans hS1
 obtain ⟨v, hv⟩ : ∃ v, (getL key (pairs t)).getD 0 = v := ⟨_, rfl⟩
 obtain ⟨ok, hok⟩ : ∃ ok, (getL key (pairs t)).isNone = ok := ⟨_, rfl⟩
 rw [hv, hok]
 have HV := Lib.hid (And.intro hv hok)
 clear hv hok
 have h1 := hB3.setCell 2 (.int .i64 v)
 have h2 := h1.setCell 0 (.bool ok)
 have f1 := Fr.setCell (fun c => c = w.heap.size + 1 + 1) hB3 2 (.int .i64 v) rfl (fun _ => by decide)
 have f2 := Fr.setCell (fun c => c = w.heap.size + 1 + 1) h1 0 (.bool ok) rfl (fun _ => by decide)
 have hB2' := (f1.tr f2).at hB2 (by omega)
 have hS3 := (hS2.set (i := 2) (v := .int .i64 v) hB3 (by decide) (by omega)).set (i := 0) (v := .bool ok) h1 (by decide) (by omega)
 have c0 := h2.cell 0
 have c1 := h2.cell 1
 have c2 := h2.cell 2
 have c3 := h2.cell 3
 have a0 := hB3.cell 0
 have a2 := hB3.cell 2
 have b0 := h1.cell 0
 have p2 := hB3.free 2
 have p0 := h1.free 0
 have q0 := hB2'.free 0
 have q1 := hB2'.free 1
 have q2 := hB2'.free 2
 have q3 := hB2'.free 3
 have r0 := hB2'.cell 0
 have r1 := hB2'.cell 1
 have r2 := hB2'.cell 2
 have r3 := hB2'.cell 3
 clear hC hB1b hB2b hS1 hSW k0 k1 k2
 go_wp2_with fail
 obtain ⟨f4, g4, hR⟩ := set4 (x := .bool ok) (y := .int .i64 0) (z := .int .i64 v) (u := .slice none 0 0) hS3.gate hB2' (by decide) rfl
 have hS4 := hS3.own1 hB2' (by decide) (by omega) f4 g4
 refine bodyPost_ret (results_ct rfl _ rfl hR.1 Tryz.underlying34 size34) rfl ?_
 exact ⟨by rw [HV.out.1, HV.out.2]; rfl, hS4⟩
set_option maxHeartbeats 8000000 in
theorem do94_del {g : Gt} {m be : Nat} {t : T Unit} {key val hi : Int} {w0 w : World} (hS : St g m be t w0 w) (hm : m + cost t.size < LIM) (hsz : t.size < 790000) :
 Calls Tryz.prog 94 #[gval g, ptr be, .agg #[.int .i64 4, .int .i64 key, .int .i64 val, .int .i64 hi]] w fun e w' => e = .returned (.tuple #[.agg (rO (getL key (pairs t)).isSome 0 ((getL key (pairs t)).getD 0) (.slice none 0 0)), .int .i64 0]) ∧ St g (m + cost t.size) be (delT key t) w w' := by
 have hg := hS.gate
 have hS0 : St g m be t w w := ⟨hS.map, hS.good, hS.gate, Fr.refl _ _ _⟩
 have hG1 := hg.alloc (.cells #[.int .i64 4, .int .i64 key, .int .i64 val, .int .i64 hi] 43)
 have hB1 := At.new hg (.cells #[.int .i64 4, .int .i64 key, .int .i64 val, .int .i64 hi] 43)
 have hF2 := Fr.alloc g No _ (.cells #[.bool false, .int .i64 0, .int .i64 0, .slice none 0 0] 34) hG1
 have hG2 := hG1.alloc (.cells #[.bool false, .int .i64 0, .int .i64 0, .slice none 0 0] 34)
 have hB2 := At.new hG1 (.cells #[.bool false, .int .i64 0, .int .i64 0, .slice none 0 0] 34)
 have hB1a := hF2.at hB1 id
 have hF3 := Fr.alloc g No _ (.cells #[.bool false, .int .i64 0, .int .i64 0, .slice none 0 0] 34) hG2
 have hG3 := hG2.alloc (.cells #[.bool false, .int .i64 0, .int .i64 0, .slice none 0 0] 34)
 have hB3 := At.new hG2 (.cells #[.bool false, .int .i64 0, .int .i64 0, .slice none 0 0] 34)
 have hB1b := hF3.at hB1a id
 have hB2b := hF3.at hB2 id
 have hSW := ((hS0.alloc (.cells #[.int .i64 4, .int .i64 key, .int .i64 val, .int .i64 hi] 43)).alloc (.cells #[.bool false, .int .i64 0, .int .i64 0, .slice none 0 0] 34)).alloc (.cells #[.bool false, .int .i64 0, .int .i64 0, .slice none 0 0] 34)
 simp only [World.size_alloc] at hB2b hB3
 have k0 := hB1b.cell 0
 have k1 := hB1b.cell 1
 have k2 := hB1b.cell 2
 have hC := delete_any (key := key)  hSW hm hsz
 clear hG1 hB1 hF2 hG2 hB2 hB1a hF3 hG3 hS hg hS0
 unfold ptr at *
 go_enter Tryz.func94, Tryz.ntmps94
 go_wp2_with fail
 generalize hW : World.alloc (World.alloc (World.alloc w _) _) _ = W at *
 clear hW
 refine hC.mono ?_
 rintro e w1 ⟨rfl, hS1⟩
 have hB2 := hS1.tf.at hB2b (by decide)
 have hB3 := hS1.tf.at hB3 (by decide)
 have hS2 := hSW.trans hS1
 obtain ⟨v, hv⟩ : ∃ v, (getL key (pairs t)).getD 0 = v := ⟨_, rfl⟩
 obtain ⟨ok, hok⟩ : ∃ ok, (getL key (pairs t)).isSome = ok := ⟨_, rfl⟩
 rw [hv, hok]
 have HV := Lib.hid (And.intro hv hok)
 clear hv hok
 have h1 := hB3.setCell 2 (.int .i64 v)
 have h2 := h1.setCell 0 (.bool ok)
 have f1 := Fr.setCell (fun c => c = w.heap.size + 1 + 1) hB3 2 (.int .i64 v) rfl (fun _ => by decide)
 have f2 := Fr.setCell (fun c => c = w.heap.size + 1 + 1) h1 0 (.bool ok) rfl (fun _ => by decide)
 have hB2' := (f1.tr f2).at hB2 (by omega)
 have hS3 := (hS2.set (i := 2) (v := .int .i64 v) hB3 (by decide) (by omega)).set (i := 0) (v := .bool ok) h1 (by decide) (by omega)
 have c0 := h2.cell 0
 have c1 := h2.cell 1
 have c2 := h2.cell 2
 have c3 := h2.cell 3
 have a0 := hB3.cell 0
 have a2 := hB3.cell 2
 have b0 := h1.cell 0
 have p2 := hB3.free 2
 have p0 := h1.free 0
 have q0 := hB2'.free 0
 have q1 := hB2'.free 1
 have q2 := hB2'.free 2
 have q3 := hB2'.free 3
 have r0 := hB2'.cell 0
 have r1 := hB2'.cell 1
 have r2 := hB2'.cell 2
 have r3 := hB2'.cell 3
 clear hC hB1b hB2b hS1 hSW k0 k1 k2
 go_wp2_with fail
 obtain ⟨f4, g4, hR⟩ := set4 (x := .bool ok) (y := .int .i64 0) (z := .int .i64 v) (u := .slice none 0 0) hS3.gate hB2' (by decide) rfl
 have hS4 := hS3.own1 hB2' (by decide) (by omega) f4 g4
 refine bodyPost_ret (results_ct rfl _ rfl hR.1 Tryz.underlying34 size34) rfl ?_
 exact ⟨by rw [HV.out.1, HV.out.2]; rfl, hS4⟩
end Go.Proofs.YtdmobhndbibhoaaGreat
