/- The scans: whole. -/
import Derived.Test.YtdmobhndbibhoaaGreatC4
namespace Go.Proofs.YtdmobhndbibhoaaGreat
open Go.RowKit Larch
set_option maxRecDepth 100000
set_option linter.unusedVariables false
set_option linter.unusedSimpArgs false
attribute [local go_sem ↓] Go.wp_at_zero Go.wp_at_succ
theorem VisSt.start {g : Gt} {m : Nat} {w : World} (hg : GOk g m w) : VisSt g (w.alloc (.cells #[gval g, .slice none 0 0] 291)) w.heap.size [] :=
 ⟨_, At.new hg _, ⟨rfl, .inl ⟨rfl, rfl⟩⟩, by simp⟩
theorem vis_blk {g : Gt} {m : Nat} {w : World} (hg : GOk g m w) (b : Nat) (h : VBlk (w.alloc (.cells #[gval g, .slice none 0 0] 291)) w.heap.size b) : w.heap.size ≤ b := by
 rcases h with h | ⟨x, v, h1, h2⟩
 ·omega
 ·rw [(At.new hg (.cells #[gval g, .slice none 0 0] 291)).1] at h1
  simp at h1
  obtain ⟨_, rfl⟩ := h1
  simp [Value.ownBlock] at h2
set_option maxHeartbeats 2000000 in
theorem whole184 {g : Gt} {eb rb m M K : Nat} {o : Option (Int × Int)} {w : World} (hg : GOk g m w) (hM : M + K < LIM) (hK : K < 900000)
 (hsee : ∀ W vb, Fr g No w W → GOk g m W → VisSt g W vb [] → Calls Tryz.prog 184 #[.pointer (some ⟨vb, 0, none⟩), .pointer (some ⟨eb, 0, none⟩), .pointer (some ⟨rb, 0, none⟩)] W (SeeQ g vb M K (.agg (cO o)) (fun _ => True) W)) :
 Calls Tryz.prog 180 #[gval g, .func (.func 184) #[] #[.pointer (some ⟨eb, 0, none⟩), .pointer (some ⟨rb, 0, none⟩)]] w fun e w' => e = .returned (.agg (cO o)) ∧ Fr g No w w' ∧ GOk g (M + K) w' := by
 have hF0 := Fr.alloc g No w (.cells #[.int .i64 0, .int .i64 0, .bool false] 284) hg
 have hG0 := hg.alloc (.cells #[.int .i64 0, .int .i64 0, .bool false] 284)
 have hB0 := At.new hg (.cells #[.int .i64 0, .int .i64 0, .bool false] 284)
 have hF1 := Fr.alloc g No _ (.cells #[gval g, .slice none 0 0] 291) hG0
 have hG1 := hG0.alloc (.cells #[gval g, .slice none 0 0] 291)
 have hV1 := VisSt.start hG0
 have hblk := vis_blk hG0
 have hB1 := hF1.at hB0 id
 have hS := hsee _ _ (hF0.tr hF1) hG1 hV1
 have hF01 := hF0.tr hF1
 simp only [World.size_alloc] at hV1 hS hblk
 have hgc := gval_cells g
 unfold Value.cells at hgc
 clear hsee hF0 hG0 hB0 hF1 hG1
 go_enter Tryz.func180, Tryz.ntmps180
 go_wp2_with fail
 refine wp_loop_rounds 1 ?_
 rw [rounds_succ]
 go_wp2_with fail
 generalize hW : World.alloc (World.alloc w _) _ = W at *
 clear hW hgc
 refine hS.mono ?_
 rintro e w1 ⟨L, rfl, f, hG2, hV2, hL0, hLK, _⟩
 have hB2 : Cl g w1 w.heap.size #[.int .i64 0, .int .i64 0, .bool false] 284 := f.fr.at hB1 (fun h => hV1.out hB1 (by decide) h)
 have hF2 : Fr g No w w1 := hF01.trans f.fr (fun _ _ h => h) (fun b hb h => by have := hblk b h; omega)
 obtain ⟨a, b, c, hc⟩ := cO_form o
 rw [hc]
 have q0 := box_free (cs := #[.int .i64 0, .int .i64 0, .bool false]) (T := 284) hG2 0
 have q1 := box_free (cs := #[.int .i64 0, .int .i64 0, .bool false]) (T := 284) hG2 1
 have q2 := box_free (cs := #[.int .i64 0, .int .i64 0, .bool false]) (T := 284) hG2 2
 have hF3 := Fr.alloc g No w1 (.cells #[.int .i64 a, .int .i64 b, .bool c] 284) hG2
 have hG3 := hG2.alloc (.cells #[.int .i64 a, .int .i64 b, .bool c] 284)
 have hX3 := At.new hG2 (.cells #[.int .i64 a, .int .i64 b, .bool c] 284)
 have hB3 := hF3.at hB2 id
 have hH := holds_any hG3 (by omega) hL0 (by omega) (hV2.fr0 hF3)
 have hsz := hF2.size
 clear hS f hG2 hV2 hB2 hV1 hB1 hblk
 go_wp2_with fail
 clear q0 q1 q2
 generalize hW3 : World.alloc w1 _ = W3 at *
 refine hH.mono ?_
 rintro e w4 ⟨rfl, f4, hG4⟩
 have hX4 := f4.at hX3 id
 have hB4 := f4.at hB3 id
 have x0 := hX4.cell 0
 have x1 := hX4.cell 1
 have x2 := hX4.cell 2
 have q0 := hB4.free 0
 have q1 := hB4.free 1
 have q2 := hB4.free 2
 have c0 := hB4.cell 0
 have c1 := hB4.cell 1
 have c2 := hB4.cell 2
 clear hH
 go_wp2_with fail
 generalize hW5 : World.setCell _ _ _ = W5
 obtain ⟨f5, hG5, hR⟩ := set3 hG4 hB4 hW5
 refine bodyPost_ret (results_cell_row rfl _ _ _ 284 _ (0, 0) _ rfl hR.1 Tryz.underlying284 rfl size284) rfl ?_
 exact ⟨by rw [hc], ((hF2.tr hF3).tr f4).trans f5 (fun _ _ h => h) (fun b hb h => by omega), hG5.mono (by omega)⟩
set_option maxHeartbeats 2000000 in
theorem whole181 {g : Gt} {eb kb ab m M K : Nat} {o : Option (Int × Int)} {w : World} (hg : GOk g m w) (hM : M + K < LIM) (hK : K < 900000)
 (hsee : ∀ W vb, Fr g No w W → GOk g m W → VisSt g W vb [] → Calls Tryz.prog 181 #[.pointer (some ⟨vb, 0, none⟩), .pointer (some ⟨eb, 0, none⟩), .pointer (some ⟨kb, 0, none⟩), .pointer (some ⟨ab, 0, none⟩)] W (SeeQ g vb M K (.agg (cO o)) (fun _ => True) W)) :
 Calls Tryz.prog 180 #[gval g, .func (.func 181) #[] #[.pointer (some ⟨eb, 0, none⟩), .pointer (some ⟨kb, 0, none⟩), .pointer (some ⟨ab, 0, none⟩)]] w fun e w' => e = .returned (.agg (cO o)) ∧ Fr g No w w' ∧ GOk g (M + K) w' := by
 have hF0 := Fr.alloc g No w (.cells #[.int .i64 0, .int .i64 0, .bool false] 284) hg
 have hG0 := hg.alloc (.cells #[.int .i64 0, .int .i64 0, .bool false] 284)
 have hB0 := At.new hg (.cells #[.int .i64 0, .int .i64 0, .bool false] 284)
 have hF1 := Fr.alloc g No _ (.cells #[gval g, .slice none 0 0] 291) hG0
 have hG1 := hG0.alloc (.cells #[gval g, .slice none 0 0] 291)
 have hV1 := VisSt.start hG0
 have hblk := vis_blk hG0
 have hB1 := hF1.at hB0 id
 have hS := hsee _ _ (hF0.tr hF1) hG1 hV1
 have hF01 := hF0.tr hF1
 simp only [World.size_alloc] at hV1 hS hblk
 have hgc := gval_cells g
 unfold Value.cells at hgc
 clear hsee hF0 hG0 hB0 hF1 hG1
 go_enter Tryz.func180, Tryz.ntmps180
 go_wp2_with fail
 refine wp_loop_rounds 1 ?_
 rw [rounds_succ]
 go_wp2_with fail
 generalize hW : World.alloc (World.alloc w _) _ = W at *
 clear hW hgc
 refine hS.mono ?_
 rintro e w1 ⟨L, rfl, f, hG2, hV2, hL0, hLK, _⟩
 have hB2 : Cl g w1 w.heap.size #[.int .i64 0, .int .i64 0, .bool false] 284 := f.fr.at hB1 (fun h => hV1.out hB1 (by decide) h)
 have hF2 : Fr g No w w1 := hF01.trans f.fr (fun _ _ h => h) (fun b hb h => by have := hblk b h; omega)
 obtain ⟨a, b, c, hc⟩ := cO_form o
 rw [hc]
 have q0 := box_free (cs := #[.int .i64 0, .int .i64 0, .bool false]) (T := 284) hG2 0
 have q1 := box_free (cs := #[.int .i64 0, .int .i64 0, .bool false]) (T := 284) hG2 1
 have q2 := box_free (cs := #[.int .i64 0, .int .i64 0, .bool false]) (T := 284) hG2 2
 have hF3 := Fr.alloc g No w1 (.cells #[.int .i64 a, .int .i64 b, .bool c] 284) hG2
 have hG3 := hG2.alloc (.cells #[.int .i64 a, .int .i64 b, .bool c] 284)
 have hX3 := At.new hG2 (.cells #[.int .i64 a, .int .i64 b, .bool c] 284)
 have hB3 := hF3.at hB2 id
 have hH := holds_any hG3 (by omega) hL0 (by omega) (hV2.fr0 hF3)
 have hsz := hF2.size
 clear hS f hG2 hV2 hB2 hV1 hB1 hblk
 go_wp2_with fail
 clear q0 q1 q2
 generalize hW3 : World.alloc w1 _ = W3 at *
 refine hH.mono ?_
 rintro e w4 ⟨rfl, f4, hG4⟩
 have hX4 := f4.at hX3 id
 have hB4 := f4.at hB3 id
 have x0 := hX4.cell 0
 have x1 := hX4.cell 1
 have x2 := hX4.cell 2
 have q0 := hB4.free 0
 have q1 := hB4.free 1
 have q2 := hB4.free 2
 have c0 := hB4.cell 0
 have c1 := hB4.cell 1
 have c2 := hB4.cell 2
 clear hH
 go_wp2_with fail
 generalize hW5 : World.setCell _ _ _ = W5
 obtain ⟨f5, hG5, hR⟩ := set3 hG4 hB4 hW5
 refine bodyPost_ret (results_cell_row rfl _ _ _ 284 _ (0, 0) _ rfl hR.1 Tryz.underlying284 rfl size284) rfl ?_
 exact ⟨by rw [hc], ((hF2.tr hF3).tr f4).trans f5 (fun _ _ h => h) (fun b hb h => by omega), hG5.mono (by omega)⟩
set_option maxHeartbeats 2000000 in
theorem whole134 {g : Gt} {eb lb hb m M K : Nat} {R : Value → World → Prop} {w : World} (hg : GOk g m w) (hM : M + K < LIM) (hK : K < 900000)
 (hsee : ∀ W vb, Fr g No w W → GOk g m W → VisSt g W vb [] → Calls Tryz.prog 134 #[.pointer (some ⟨vb, 0, none⟩), .pointer (some ⟨eb, 0, none⟩), .pointer (some ⟨lb, 0, none⟩), .pointer (some ⟨hb, 0, none⟩)] W fun e w' => ∃ v, SeeQ g vb M K v (R v) W e w')
 (hR : ∀ v W W', Fr g No W W' → R v W → R v W') :
 Calls Tryz.prog 133 #[gval g, .func (.func 134) #[] #[.pointer (some ⟨eb, 0, none⟩), .pointer (some ⟨lb, 0, none⟩), .pointer (some ⟨hb, 0, none⟩)]] w fun e w' => ∃ v, e = .returned v ∧ Fr g No w w' ∧ GOk g (M + K) w' ∧ R v w' := by
 have hF1 := Fr.alloc g No _ (.cells #[gval g, .slice none 0 0] 291) hg
 have hG1 := hg.alloc (.cells #[gval g, .slice none 0 0] 291)
 have hV1 := VisSt.start hg
 have hblk := vis_blk hg
 have hS := hsee _ _ hF1 hG1 hV1
 have hgc := gval_cells g
 unfold Value.cells at hgc
 clear hsee hG1
 go_enter Tryz.func133, Tryz.ntmps133
 go_wp2_with fail
 refine wp_loop_rounds 1 ?_
 rw [rounds_succ]
 go_wp2_with fail
 generalize hW : World.alloc w _ = W at *
 clear hW hgc
 refine hS.mono ?_
 rintro e w1 ⟨v, L, rfl, f, hG2, hV2, hL0, hLK, hRv⟩
 have hF2 : Fr g No w w1 := hF1.trans f.fr (fun _ _ h => h) (fun b hb h => by have := hblk b h; omega)
 have hH := holds_any hG2 (by omega) hL0 (by omega) hV2
 clear hS f hG2 hV2 hV1 hblk
 go_wp2_with fail
 refine hH.mono ?_
 rintro e w4 ⟨rfl, f4, hG4⟩
 have HE : Hid (Fr g No w w4 ∧ GOk g (M + K) w4 ∧ R v w4) := ⟨hF2.tr f4, hG4.mono (by omega), hR v _ _ f4 hRv⟩
 clear hH f4 hG4 hRv hF2 hF1
 go_wp2_with fail
 go_ret
 exact ⟨v, rfl, HE.out⟩
end Go.Proofs.YtdmobhndbibhoaaGreat
namespace Go.Proofs.YtdmobhndbibhoaaGreat
open Go.RowKit Larch
set_option maxRecDepth 100000
set_option linter.unusedVariables false
set_option linter.unusedSimpArgs false
attribute [local go_sem ↓] Go.wp_at_zero Go.wp_at_succ
def pO (o : Option (Int × Int)) : Array Value := match o with
 | none => #[.int .i64 0, .int .i64 0]
 | some p => #[.int .i64 p.1, .int .i64 p.2]
theorem pO_form (o : Option (Int × Int)) : ∃ a b, pO o = #[.int .i64 a, .int .i64 b] ∧ cO o = #[.int .i64 a, .int .i64 b, .bool o.isSome] := by cases o <;> exact ⟨_, _, rfl, rfl⟩
theorem set2 {g : Gt} {n rb : Nat} {a b x y : Value} {T : TypeId} {w W : World} (hg : GOk g n w) (h : Cl g w rb #[a, b] T)
 (hW : (w.setCell ⟨rb, 0, none⟩ x).setCell ⟨rb, 1, none⟩ y = W) : Fr g (fun k => k = rb) w W ∧ GOk g n W ∧ Cl g W rb #[x, y] T := by
 subst hW
 have h1 := h.setCell 0 x
 have h2 := h1.setCell 1 y
 have g1 := hg.setCell h 0 x
 exact ⟨(Fr.setCell (fun k => k = rb) h 0 x rfl (fun _ => by decide)).tr (Fr.setCell _ h1 1 y rfl (fun _ => by decide)), g1.setCell h1 1 y, h2⟩
def PairQ (g : Gt) (m : Nat) (o : Option (Int × Int)) (w : World) (e : Ending) (w' : World) : Prop :=
 e = .returned (.tuple #[.agg (pO o), .bool o.isSome]) ∧ Fr g No w w' ∧ GOk g m w'
set_option maxHeartbeats 4000000 in
theorem outer_any {g : Gt} {be m : Nat} {rm : Bool} {t : HTree} {w : World} (hg : GOk g m w) (hm : m + 8 * t.size + 200 < LIM) (hsz : t.size < 800000) (hT : HT g w t) (hb : t.ann.1 = be) (hn : t.isLeaf = false) :
 Calls Tryz.prog 132 #[gval g, ptr be, .bool rm] w (PairQ g (m + 8 * t.size) (ofIt (endT rm t)) w) := by
 have hF1 := Fr.alloc g No w (.cells #[ptr be] 99) hg
 have hG1 := hg.alloc (.cells #[ptr be] 99)
 have hB1 := At.new hg (.cells #[ptr be] 99)
 have hF2 := Fr.alloc g No _ (.cells #[.bool rm] 4) hG1
 have hG2 := hG1.alloc (.cells #[.bool rm] 4)
 have hB2 := At.new hG1 (.cells #[.bool rm] 4)
 have hB12 := hF2.at hB1 id
 have hF3 := Fr.alloc g No _ (.cells #[.int .i64 0, .int .i64 0] 49) hG2
 have hG3 := hG2.alloc (.cells #[.int .i64 0, .int .i64 0] 49)
 have hB3 := At.new hG2 (.cells #[.int .i64 0, .int .i64 0] 49)
 have hB13 := hF3.at hB12 id
 have hB23 := hF3.at hB2 id
 have hF := (hF1.tr hF2).tr hF3
 simp only [World.size_alloc] at hB2 hB3 hB23
 clear hF1 hG1 hB1 hF2 hG2 hB2 hB12 hF3
 unfold ptr at *
 go_enter Tryz.func132, Tryz.ntmps132
 go_wp2_with fail
 generalize hW : World.alloc (World.alloc (World.alloc w _) _) _ = W at *
 clear hW
 have hWh := whole184 (eb := w.heap.size) (rb := w.heap.size + 1) (m := m) (M := m + 7 * t.size) (K := t.size) (o := ofIt (endT rm t)) hG3 (by omega) (by omega) (fun W' vb f hG hV =>
  see184 (rm := rm) hG (by omega) (by omega) hV ((hT.fr0 hF).fr0 f) hn (by rw [hb]; exact f.at hB13 id) (f.at hB23 id))
 refine hWh.mono ?_
 rintro e w1 ⟨rfl, f, hG4⟩
 have hB4 := f.at hB3 id
 have hFw := hF.tr f
 clear hWh hB13 hB23 hB3 hG3 f
 obtain ⟨a, b, hp, hc⟩ := pO_form (ofIt (endT rm t))
 unfold PairQ
 rw [hc, hp]
 obtain ⟨ok, hok⟩ : ∃ ok, (ofIt (endT rm t)).isSome = ok := ⟨_, rfl⟩
 rw [hok]
 have q0 := box_free (cs := #[.int .i64 0, .int .i64 0, .bool false]) (T := 284) hG4 0
 have q1 := box_free (cs := #[.int .i64 0, .int .i64 0, .bool false]) (T := 284) hG4 1
 have q2 := box_free (cs := #[.int .i64 0, .int .i64 0, .bool false]) (T := 284) hG4 2
 have hF5 := Fr.alloc g No w1 (.cells #[.int .i64 a, .int .i64 b, .bool ok] 284) hG4
 have hG5 := hG4.alloc (.cells #[.int .i64 a, .int .i64 b, .bool ok] 284)
 have hX5 := At.new hG4 (.cells #[.int .i64 a, .int .i64 b, .bool ok] 284)
 have hB5 := hF5.at hB4 id
 have hsz1 := hFw.size
 have HO := Lib.hid (And.intro hp hok)
 clear hB4 hp hc hok
 go_wp2_with fail
 clear q0 q1 q2
 generalize hW5 : World.alloc w1 _ = W5 at *
 clear hW5
 have q0 := hB5.free 0
 have q1 := hB5.free 1
 have c0 := hB5.cell 0
 have c1 := hB5.cell 1
 have x0 := hX5.cell 0
 have x1 := hX5.cell 1
 have x2 := hX5.cell 2
 go_region
 go_wp2_with fail
 generalize hW6 : World.setCell _ _ _ = W6
 obtain ⟨f6, hG6, hR⟩ := set2 hG5 hB5 hW6
 refine bodyPost_ret (results_ct rfl _ rfl hR.drew.1 Tryz.underlying49 size49) rfl ?_
 exact ⟨by rw [HO.out.1, HO.out.2]; rfl, (((hFw.tr hF5).trans f6 (fun _ _ h => h) (fun b hb h => by omega)).tr (Fr.drew g No _)), (hG6.mono (by omega)).drew⟩
set_option maxHeartbeats 2000000 in
theorem min_any {g : Gt} {be m : Nat} {t : HTree} {w : World} (hg : GOk g m w) (hm : m + 8 * t.size + 200 < LIM) (hsz : t.size < 800000) (hT : HT g w t) (hb : t.ann.1 = be) (hn : t.isLeaf = false) :
 Calls Tryz.prog 98 #[gval g, ptr be] w (PairQ g (m + 8 * t.size) (ofIt (endT false t)) w) := by
 have hF := Fr.alloc g No w (.cells #[.int .i64 0, .int .i64 0] 49) hg
 have hG := hg.alloc (.cells #[.int .i64 0, .int .i64 0] 49)
 have hB := At.new hg (.cells #[.int .i64 0, .int .i64 0] 49)
 have hO := outer_any (rm := false) hG hm hsz (hT.fr0 hF) hb hn
 unfold ptr at *
 go_enter Tryz.func98, Tryz.ntmps98
 go_wp2_with fail
 generalize hW : World.alloc w _ = W at *
 clear hW
 refine hO.mono ?_
 rintro e w1 ⟨rfl, f, hG1⟩
 have hB1 := f.at hB id
 have hFw := hF.tr f
 obtain ⟨a, b, hp, _⟩ := pO_form (ofIt (endT false t))
 unfold PairQ
 have q0 := hB1.free 0
 have q1 := hB1.free 1
 have c0 := hB1.cell 0
 have c1 := hB1.cell 1
 rw [hp]
 obtain ⟨ok, hok⟩ : ∃ ok, (ofIt (endT false t)).isSome = ok := ⟨_, rfl⟩
 rw [hok]
 have HO := Lib.hid (And.intro hp hok)
 clear hp hok
 clear hO f hB hG
 go_wp2_with fail
 generalize hW6 : World.setCell _ _ _ = W6
 obtain ⟨f6, hG6, hR⟩ := set2 hG1 hB1 hW6
 refine bodyPost_ret (results_ct rfl _ rfl hR.1 Tryz.underlying49 size49) rfl ?_
 exact ⟨by rw [HO.out.1, HO.out.2]; rfl, hFw.trans f6 (fun _ _ h => h) (fun b hb h => by omega), hG6⟩
set_option maxHeartbeats 2000000 in
theorem max_any {g : Gt} {be m : Nat} {t : HTree} {w : World} (hg : GOk g m w) (hm : m + 8 * t.size + 200 < LIM) (hsz : t.size < 800000) (hT : HT g w t) (hb : t.ann.1 = be) (hn : t.isLeaf = false) :
 Calls Tryz.prog 99 #[gval g, ptr be] w (PairQ g (m + 8 * t.size) (ofIt (endT true t)) w) := by
 have hF := Fr.alloc g No w (.cells #[.int .i64 0, .int .i64 0] 49) hg
 have hG := hg.alloc (.cells #[.int .i64 0, .int .i64 0] 49)
 have hB := At.new hg (.cells #[.int .i64 0, .int .i64 0] 49)
 have hO := outer_any (rm := true) hG hm hsz (hT.fr0 hF) hb hn
 unfold ptr at *
 go_enter Tryz.func99, Tryz.ntmps99
 go_wp2_with fail
 generalize hW : World.alloc w _ = W at *
 clear hW
 refine hO.mono ?_
 rintro e w1 ⟨rfl, f, hG1⟩
 have hB1 := f.at hB id
 have hFw := hF.tr f
 obtain ⟨a, b, hp, _⟩ := pO_form (ofIt (endT true t))
 unfold PairQ
 have q0 := hB1.free 0
 have q1 := hB1.free 1
 have c0 := hB1.cell 0
 have c1 := hB1.cell 1
 rw [hp]
 obtain ⟨ok, hok⟩ : ∃ ok, (ofIt (endT true t)).isSome = ok := ⟨_, rfl⟩
 rw [hok]
 have HO := Lib.hid (And.intro hp hok)
 clear hp hok
 clear hO f hB hG
 go_wp2_with fail
 generalize hW6 : World.setCell _ _ _ = W6
 obtain ⟨f6, hG6, hR⟩ := set2 hG1 hB1 hW6
 refine bodyPost_ret (results_ct rfl _ rfl hR.1 Tryz.underlying49 size49) rfl ?_
 exact ⟨by rw [HO.out.1, HO.out.2]; rfl, hFw.trans f6 (fun _ _ h => h) (fun b hb h => by omega), hG6⟩
theorem size34 : (Tryz.prog.info? 34).map (·.size) = some 4 := by kernel_rfl
def rO (ok : Bool) (k v : Int) (ps : Value) : Array Value := #[.bool ok, .int .i64 k, .int .i64 v, ps]
set_option maxHeartbeats 2000000 in
theorem near_any {g : Gt} {m : Nat} {a b : Int} {ok : Bool} {w : World} (hg : GOk g m w) :
 Calls Tryz.prog 95 #[.agg #[.int .i64 a, .int .i64 b], .bool ok] w fun e w' => e = .returned (.agg (rO ok a b (.slice none 0 0))) ∧ Fr g No w w' ∧ GOk g m w' := by
 have hF1 := Fr.alloc g No w (.cells #[.int .i64 a, .int .i64 b] 49) hg
 have hG1 := hg.alloc (.cells #[.int .i64 a, .int .i64 b] 49)
 have hF2 := Fr.alloc g No _ (.cells (rO ok a b (.slice none 0 0)) 34) hG1
 have hG2 := hG1.alloc (.cells (rO ok a b (.slice none 0 0)) 34)
 have hN := heap_alloc_new (w.alloc (.cells #[.int .i64 a, .int .i64 b] 49)) (.cells (rO ok a b (.slice none 0 0)) 34)
 have hX := (Fr.alloc g No _ (.cells (rO false 0 0 (.slice none 0 0)) 34) hG1).at (At.new hg (.cells #[.int .i64 a, .int .i64 b] 49)) id
 have x0 := hX.cell 0
 have x1 := hX.cell 1
 have q0 := box_free (cs := rO false 0 0 (.slice none 0 0)) (T := 34) hG1 0
 have q1 := box_free (cs := rO false 0 0 (.slice none 0 0)) (T := 34) hG1 1
 have q2 := box_free (cs := rO false 0 0 (.slice none 0 0)) (T := 34) hG1 2
 have q3 := box_free (cs := rO false 0 0 (.slice none 0 0)) (T := 34) hG1 3
 simp only [World.size_alloc] at q0 q1 q2 q3 hN
 unfold rO at *
 go_enter Tryz.func95, Tryz.ntmps95
 go_wp2_with fail
 refine bodyPost_ret (results_cell_row rfl _ _ _ 34 _ (0, 0) _ rfl hN Tryz.underlying34 rfl size34) rfl ?_
 exact ⟨rfl, hF1.tr hF2, hG2⟩
end Go.Proofs.YtdmobhndbibhoaaGreat
