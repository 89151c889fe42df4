/- The scans: next. -/
import Derived.Test.YtdmobhndbibhoaaGreatC6
namespace Go.Proofs.YtdmobhndbibhoaaGreat
open Go.RowKit Larch
set_option maxRecDepth 100000
set_option linter.unusedVariables false
set_option linter.unusedSimpArgs false
attribute [local go_sem ↓] Go.wp_at_zero Go.wp_at_succ
def oV : Option HTree → Value
 | none => .pointer none
 | some s => .pointer (some ⟨s.ann.1, 0, none⟩)
def NxSt (g : Gt) (vb m : Nat) (key : Int) (ab : Bool) (t : HTree) (w : World) (q7 q8 : Value) (wr : World) (k : Nat) : Prop :=
 ∃ (o : Option HTree) (t' : HTree) (L' : List VRec), q7 = oV o ∧ q8 = .pointer (some ⟨t'.ann.1, 0, none⟩) ∧ nx key ab o t' = nx key ab none t ∧ HT g wr t' ∧ (∀ s, o = some s → HT g wr s ∧ s.size ≤ t.size) ∧ VisSt g wr vb L' ∧ FrV g vb w wr ∧
   GOk g (m + 7 * (t.size - t'.size)) wr ∧ t'.size = k ∧ t'.size ≤ t.size ∧ L'.length + t'.size ≤ t.size ∧ (t' = t ∨ 0 < L'.length)
set_option maxHeartbeats 8000000 in
theorem see181 {g : Gt} {vb eb kb bb m : Nat} {ab : Bool} {key : Int} {t : HTree} {w : World} (hg : GOk g m w) (hm : m + 14 * t.size + 100 < LIM) (hL : t.size < 300000) (hv : VisSt g w vb []) (hT : HT g w t) (hn : t.isLeaf = false)
 (he : Cl g w eb #[ptr t.ann.1] 99) (hk : Cl g w kb #[.int .i64 key] 3) (hb : Cl g w bb #[.bool ab] 4) :
 Calls Tryz.prog 181 #[.pointer (some ⟨vb, 0, none⟩), .pointer (some ⟨eb, 0, none⟩), .pointer (some ⟨kb, 0, none⟩), .pointer (some ⟨bb, 0, none⟩)] w (SeeQ g vb (m + 14 * t.size) (2 * t.size) (.agg (cO (nx key ab none t))) (fun _ => True) w) := by
 have hn0 := hn
 have hF := Fr.alloc g No w (.cells #[.int .i64 0, .int .i64 0, .bool false] 284) hg
 have hG := hg.alloc (.cells #[.int .i64 0, .int .i64 0, .bool false] 284)
 have hB := At.new hg (.cells #[.int .i64 0, .int .i64 0, .bool false] 284)
 have h1 := (hF.at he id).cell 0
 have hkW := hF.at hk id
 have hbW := hF.at hb id
 have hV0 := hv.frV hF
 have hst : NxSt g vb m key ab t (w.alloc (.cells #[.int .i64 0, .int .i64 0, .bool false] 284)) (.pointer none) (.pointer (some ⟨t.ann.1, 0, none⟩)) (w.alloc (.cells #[.int .i64 0, .int .i64 0, .bool false] 284)) t.size :=
  ⟨none, t, [], rfl, rfl, rfl, hT.fr0 hF, by simp, hv.fr0 hF, (hv.fr0 hF).frV (Fr.refl g No _), by rw [Nat.sub_self]; exact hG, rfl, Nat.le_refl _, by simp, .inl rfl⟩
 have hvA := hv.fr0 hF
 clear he hk hb hF hv hT hg
 unfold ptr at *
 go_enter Tryz.func181, Tryz.ntmps181
 go_wp2_with fail
 generalize hW : World.alloc w _ = W at *
 clear hW h1
 go_loopw [7, 8] (fun q7 q8 wr => ∃ k, NxSt g vb m key ab t W q7 q8 wr k) (fun q7 q8 wr => least (NxSt g vb m key ab t W q7 q8 wr))
 case atStart => exact ⟨_, hst⟩
 case round =>
  have hsp := least_spec hrel
  generalize hn : least _ = n at hsp
  obtain ⟨o, t', L', rfl, rfl, hx, hT, hO, hV, hF, hG, hs, hst, hL', hor⟩ := hsp
  have hkR : Cl g wr kb #[.int .i64 key] 3 := hF.fr.at hkW (fun h => hvA.out hkW (by decide) h)
  have hbR : Cl g wr bb #[.bool ab] 4 := hF.fr.at hbW (fun h => hvA.out hbW (by decide) h)
  obtain ⟨ix, rx⟩ := hT.nd.rec
  have c4 := rc4 rx
  cases t' with
  | leaf x d =>
    have hxx : (T.leaf x d : HTree).ann.1 = x.1 := rfl
    rw [hxx] at c4 rx hn ⊢
    rw [show (T.leaf x d : HTree).isLeaf = true from rfl] at c4
    have hL0 : 0 < L'.length := by
     rcases hor with h | h
     ·rw [← h] at hn0; cases hn0
     ·exact h
    have hOf := of_leaf hG rx
    rw [show (T.leaf x d : HTree).it = d from rfl] at hOf
    have hBr : Cl g wr w.heap.size #[.int .i64 0, .int .i64 0, .bool false] 284 := hF.fr.at hB (fun h => hvA.out hB (by decide) h)
    have hF0 := hV0.trans hF
    clear hn hrel hor hst hF rx hvA hkW hbW hB hV0
    unfold ptr at hOf
    go_wp2_with fail
    refine hOf.mono ?_
    rintro e w1 ⟨rfl, f1, hG1⟩
    have hB1 := f1.at hBr id
    have hk1 := f1.at hkR id
    have hb1 := f1.at hbR id
    have hF1 := hF0.trans (hV.frV f1)
    have hV1 := hV.fr0 f1
    clear hBr hkR hbR hF0 hV hG hT
    by_cases hi : d.i = 0
    ·rw [show cO (ofIt d) = #[.int .i64 d.k, .int .i64 d.v, .bool true] from by simp [ofIt, hi, cO]]
     have hB4 := (Fr.alloc g No w1 (.cells #[.int .i64 d.k, .int .i64 d.v, .bool true] 284) hG1).at hB1 id
     have hk4 := ((Fr.alloc g No w1 (.cells #[.int .i64 d.k, .int .i64 d.v, .bool true] 284) hG1).at hk1 id).cell 0
     have hb4 := ((Fr.alloc g No w1 (.cells #[.int .i64 d.k, .int .i64 d.v, .bool true] 284) hG1).at hb1 id).cell 0
     have hF4 : FrV g vb w (w1.alloc (.cells #[.int .i64 d.k, .int .i64 d.v, .bool true] 284)) := hF1.trans (hV1.frV (Fr.alloc g No w1 _ hG1))
     have hV4 := hV1.fr0 (Fr.alloc g No w1 (.cells #[.int .i64 d.k, .int .i64 d.v, .bool true] 284) hG1)
     have hG4 := hG1.alloc (.cells #[.int .i64 d.k, .int .i64 d.v, .bool true] 284)
     have hO4 : ∀ s, o = some s → HT g (w1.alloc (.cells #[.int .i64 d.k, .int .i64 d.v, .bool true] 284)) s ∧ s.size ≤ t.size := fun s hs => ⟨((hO s hs).1.fr0 f1).fr0 (Fr.alloc g No w1 _ hG1), (hO s hs).2⟩
     have q0 := hB4.free 0
     have q1 := hB4.free 1
     have q2 := hB4.free 2
     have c0 := hB4.cell 0
     have c1 := hB4.cell 1
     have c2 := hB4.cell 2
     have p0 := box_free (cs := #[.int .i64 0, .int .i64 0, .bool false]) (T := 284) hG1 0
     have p1 := box_free (cs := #[.int .i64 0, .int .i64 0, .bool false]) (T := 284) hG1 1
     have p2 := box_free (cs := #[.int .i64 0, .int .i64 0, .bool false]) (T := 284) hG1 2
     clear hB1 hk1 hb1 hF1 hV1 hG1 hO f1 hOf
     cases ab with
     | true =>
       by_cases hc : key < d.k
       ·go_wp2_with fail
        generalize hW5 : World.setCell _ _ _ = W5
        obtain ⟨f5, hG5, hR⟩ := set3 hG4 hB4 hW5
        obtain ⟨hF5, hV5⟩ := hF4.own1 hV4 hB4 (by decide) (Nat.le_refl _) f5
        refine bodyPost_ret (results_ct rfl _ rfl hR.1 Tryz.underlying284 size284) rfl ?_
        exact ⟨L', by rw [← hx]; simp [nx, hi, hc, cO], hF5, hG5.mono (by omega), hV5, hL0, by omega, trivial⟩
       ·cases o with
        | none =>
          try simp only [oV]
          go_wp2_with fail
          generalize hW5 : World.setCell _ _ _ = W5
          obtain ⟨f5, hG5, hR⟩ := set3 hG4 hB4 hW5
          obtain ⟨hF5, hV5⟩ := hF4.own1 hV4 hB4 (by decide) (Nat.le_refl _) f5
          refine bodyPost_ret (results_ct rfl _ rfl hR.1 Tryz.underlying284 size284) rfl ?_
          exact ⟨L', by rw [← hx]; simp [nx, hi, if_neg (show ¬ key < d.k by omega), cO], hF5, hG5.mono (by omega), hV5, hL0, by omega, trivial⟩
        | some s =>
          have h9 := True.intro
          try simp only [oV] at *
          go_wp2_with fail
          generalize hW4 : World.alloc w1 _ = W4 at *
          clear hW4 p0 p1 p2
          have hE := end_any (rm := !true) (L := L') hG4 (by have := (hO4 s rfl).2; omega) (by have := (hO4 s rfl).2; omega) hV4 (hO4 s rfl).1
          unfold ptr at hE
          try simp only [Bool.not_true, Bool.not_false] at hE
          refine hE.mono ?_
          rintro e w5 ⟨x5, L5, rfl, f5, hG5, hV5, hX5, hl5, hor5⟩
          obtain ⟨ix5, rx5⟩ := hX5.nd.rec
          have hOf := of_leaf hG5 rx5
          rw [show (T.leaf x5 (endT _ s) : HTree).it = endT _ s from rfl] at hOf
          have hB5 := f5.fr.at hB4 (fun h => hV4.out hB4 (by decide) h)
          have hF5 := hF4.trans f5
          have hss := (hO4 s rfl).2
          unfold ptr at hOf
          clear hE hV4 hB4 hF4 hO4 f5 rx5 hX5 q0 q1 q2 c0 c1 c2 hG4 hk4 hb4
          go_wp2_with fail
          refine hOf.mono ?_
          rintro e w6 ⟨rfl, f6, hG6⟩
          have hB4 := f6.at hB5 id
          have hF4 := hF5.trans (hV5.frV f6)
          have hV4 := hV5.fr0 f6
          have hG4 := hG6
          obtain ⟨a, b, ok, hcc⟩ := cO_form (ofIt (endT false s))
          rw [hcc]
          have q0 := hB4.free 0
          have q1 := hB4.free 1
          have q2 := hB4.free 2
          have c0 := hB4.cell 0
          have c1 := hB4.cell 1
          have c2 := hB4.cell 2
          clear hOf hB5 hF5 hV5 hG5 f6
          go_wp2_with fail
          generalize hW5 : World.setCell _ _ _ = W5
          obtain ⟨f5, hG5, hR⟩ := set3 hG4 hB4 hW5
          obtain ⟨hF5, hV5⟩ := hF4.own1 hV4 hB4 (by decide) (Nat.le_refl _) f5
          refine bodyPost_ret (results_ct rfl _ rfl hR.1 Tryz.underlying284 size284) rfl ?_
          exact ⟨L5, by rw [← hx, ← hcc]; simp [nx, hi, if_neg (show ¬ key < d.k by omega)], hF5, hG5.mono (by omega), hV5, by omega, by omega, trivial⟩
     | false =>
       by_cases hc : d.k < key
       ·go_wp2_with fail
        generalize hW5 : World.setCell _ _ _ = W5
        obtain ⟨f5, hG5, hR⟩ := set3 hG4 hB4 hW5
        obtain ⟨hF5, hV5⟩ := hF4.own1 hV4 hB4 (by decide) (Nat.le_refl _) f5
        refine bodyPost_ret (results_ct rfl _ rfl hR.1 Tryz.underlying284 size284) rfl ?_
        exact ⟨L', by rw [← hx]; simp [nx, hi, hc, cO], hF5, hG5.mono (by omega), hV5, hL0, by omega, trivial⟩
       ·cases o with
        | none =>
          try simp only [oV]
          go_wp2_with fail
          generalize hW5 : World.setCell _ _ _ = W5
          obtain ⟨f5, hG5, hR⟩ := set3 hG4 hB4 hW5
          obtain ⟨hF5, hV5⟩ := hF4.own1 hV4 hB4 (by decide) (Nat.le_refl _) f5
          refine bodyPost_ret (results_ct rfl _ rfl hR.1 Tryz.underlying284 size284) rfl ?_
          exact ⟨L', by rw [← hx]; simp [nx, hi, if_neg (show ¬ d.k < key by omega), cO], hF5, hG5.mono (by omega), hV5, hL0, by omega, trivial⟩
        | some s =>
          have h9 := True.intro
          try simp only [oV] at *
          go_wp2_with fail
          generalize hW4 : World.alloc w1 _ = W4 at *
          clear hW4 p0 p1 p2
          have hE := end_any (rm := !false) (L := L') hG4 (by have := (hO4 s rfl).2; omega) (by have := (hO4 s rfl).2; omega) hV4 (hO4 s rfl).1
          unfold ptr at hE
          try simp only [Bool.not_true, Bool.not_false] at hE
          refine hE.mono ?_
          rintro e w5 ⟨x5, L5, rfl, f5, hG5, hV5, hX5, hl5, hor5⟩
          obtain ⟨ix5, rx5⟩ := hX5.nd.rec
          have hOf := of_leaf hG5 rx5
          rw [show (T.leaf x5 (endT _ s) : HTree).it = endT _ s from rfl] at hOf
          have hB5 := f5.fr.at hB4 (fun h => hV4.out hB4 (by decide) h)
          have hF5 := hF4.trans f5
          have hss := (hO4 s rfl).2
          unfold ptr at hOf
          clear hE hV4 hB4 hF4 hO4 f5 rx5 hX5 q0 q1 q2 c0 c1 c2 hG4 hk4 hb4
          go_wp2_with fail
          refine hOf.mono ?_
          rintro e w6 ⟨rfl, f6, hG6⟩
          have hB4 := f6.at hB5 id
          have hF4 := hF5.trans (hV5.frV f6)
          have hV4 := hV5.fr0 f6
          have hG4 := hG6
          obtain ⟨a, b, ok, hcc⟩ := cO_form (ofIt (endT true s))
          rw [hcc]
          have q0 := hB4.free 0
          have q1 := hB4.free 1
          have q2 := hB4.free 2
          have c0 := hB4.cell 0
          have c1 := hB4.cell 1
          have c2 := hB4.cell 2
          clear hOf hB5 hF5 hV5 hG5 f6
          go_wp2_with fail
          generalize hW5 : World.setCell _ _ _ = W5
          obtain ⟨f5, hG5, hR⟩ := set3 hG4 hB4 hW5
          obtain ⟨hF5, hV5⟩ := hF4.own1 hV4 hB4 (by decide) (Nat.le_refl _) f5
          refine bodyPost_ret (results_ct rfl _ rfl hR.1 Tryz.underlying284 size284) rfl ?_
          exact ⟨L5, by rw [← hx, ← hcc]; simp [nx, hi, if_neg (show ¬ d.k < key by omega)], hF5, hG5.mono (by omega), hV5, by omega, by omega, trivial⟩
    ·rw [show cO (ofIt d) = #[.int .i64 0, .int .i64 0, .bool false] from by simp [ofIt, hi, cO]]
     have hB4 := (Fr.alloc g No w1 (.cells #[.int .i64 0, .int .i64 0, .bool false] 284) hG1).at hB1 id
     have hk4 := ((Fr.alloc g No w1 (.cells #[.int .i64 0, .int .i64 0, .bool false] 284) hG1).at hk1 id).cell 0
     have hb4 := ((Fr.alloc g No w1 (.cells #[.int .i64 0, .int .i64 0, .bool false] 284) hG1).at hb1 id).cell 0
     have hF4 : FrV g vb w (w1.alloc (.cells #[.int .i64 0, .int .i64 0, .bool false] 284)) := hF1.trans (hV1.frV (Fr.alloc g No w1 _ hG1))
     have hV4 := hV1.fr0 (Fr.alloc g No w1 (.cells #[.int .i64 0, .int .i64 0, .bool false] 284) hG1)
     have hG4 := hG1.alloc (.cells #[.int .i64 0, .int .i64 0, .bool false] 284)
     have hO4 : ∀ s, o = some s → HT g (w1.alloc (.cells #[.int .i64 0, .int .i64 0, .bool false] 284)) s ∧ s.size ≤ t.size := fun s hs => ⟨((hO s hs).1.fr0 f1).fr0 (Fr.alloc g No w1 _ hG1), (hO s hs).2⟩
     have q0 := hB4.free 0
     have q1 := hB4.free 1
     have q2 := hB4.free 2
     have c0 := hB4.cell 0
     have c1 := hB4.cell 1
     have c2 := hB4.cell 2
     have p0 := box_free (cs := #[.int .i64 0, .int .i64 0, .bool false]) (T := 284) hG1 0
     have p1 := box_free (cs := #[.int .i64 0, .int .i64 0, .bool false]) (T := 284) hG1 1
     have p2 := box_free (cs := #[.int .i64 0, .int .i64 0, .bool false]) (T := 284) hG1 2
     clear hB1 hk1 hb1 hF1 hV1 hG1 hO f1 hOf
     cases ab with
     | true =>
       cases o with
       | none =>
         try simp only [oV]
         go_wp2_with fail
         generalize hW5 : World.setCell _ _ _ = W5
         obtain ⟨f5, hG5, hR⟩ := set3 hG4 hB4 hW5
         obtain ⟨hF5, hV5⟩ := hF4.own1 hV4 hB4 (by decide) (Nat.le_refl _) f5
         refine bodyPost_ret (results_ct rfl _ rfl hR.1 Tryz.underlying284 size284) rfl ?_
         exact ⟨L', by rw [← hx]; simp [nx, hi, cO], hF5, hG5.mono (by omega), hV5, hL0, by omega, trivial⟩
       | some s =>
         have h9 := True.intro
         try simp only [oV] at *
         go_wp2_with fail
         generalize hW4 : World.alloc w1 _ = W4 at *
         clear hW4 p0 p1 p2
         have hE := end_any (rm := !true) (L := L') hG4 (by have := (hO4 s rfl).2; omega) (by have := (hO4 s rfl).2; omega) hV4 (hO4 s rfl).1
         unfold ptr at hE
         try simp only [Bool.not_true, Bool.not_false] at hE
         refine hE.mono ?_
         rintro e w5 ⟨x5, L5, rfl, f5, hG5, hV5, hX5, hl5, hor5⟩
         obtain ⟨ix5, rx5⟩ := hX5.nd.rec
         have hOf := of_leaf hG5 rx5
         rw [show (T.leaf x5 (endT _ s) : HTree).it = endT _ s from rfl] at hOf
         have hB5 := f5.fr.at hB4 (fun h => hV4.out hB4 (by decide) h)
         have hF5 := hF4.trans f5
         have hss := (hO4 s rfl).2
         unfold ptr at hOf
         clear hE hV4 hB4 hF4 hO4 f5 rx5 hX5 q0 q1 q2 c0 c1 c2 hG4 hk4 hb4
         go_wp2_with fail
         refine hOf.mono ?_
         rintro e w6 ⟨rfl, f6, hG6⟩
         have hB4 := f6.at hB5 id
         have hF4 := hF5.trans (hV5.frV f6)
         have hV4 := hV5.fr0 f6
         have hG4 := hG6
         obtain ⟨a, b, ok, hcc⟩ := cO_form (ofIt (endT false s))
         rw [hcc]
         have q0 := hB4.free 0
         have q1 := hB4.free 1
         have q2 := hB4.free 2
         have c0 := hB4.cell 0
         have c1 := hB4.cell 1
         have c2 := hB4.cell 2
         clear hOf hB5 hF5 hV5 hG5 f6
         go_wp2_with fail
         generalize hW5 : World.setCell _ _ _ = W5
         obtain ⟨f5, hG5, hR⟩ := set3 hG4 hB4 hW5
         obtain ⟨hF5, hV5⟩ := hF4.own1 hV4 hB4 (by decide) (Nat.le_refl _) f5
         refine bodyPost_ret (results_ct rfl _ rfl hR.1 Tryz.underlying284 size284) rfl ?_
         exact ⟨L5, by rw [← hx, ← hcc]; simp [nx, hi], hF5, hG5.mono (by omega), hV5, by omega, by omega, trivial⟩
     | false =>
       cases o with
       | none =>
         try simp only [oV]
         go_wp2_with fail
         generalize hW5 : World.setCell _ _ _ = W5
         obtain ⟨f5, hG5, hR⟩ := set3 hG4 hB4 hW5
         obtain ⟨hF5, hV5⟩ := hF4.own1 hV4 hB4 (by decide) (Nat.le_refl _) f5
         refine bodyPost_ret (results_ct rfl _ rfl hR.1 Tryz.underlying284 size284) rfl ?_
         exact ⟨L', by rw [← hx]; simp [nx, hi, cO], hF5, hG5.mono (by omega), hV5, hL0, by omega, trivial⟩
       | some s =>
         have h9 := True.intro
         try simp only [oV] at *
         go_wp2_with fail
         generalize hW4 : World.alloc w1 _ = W4 at *
         clear hW4 p0 p1 p2
         have hE := end_any (rm := !false) (L := L') hG4 (by have := (hO4 s rfl).2; omega) (by have := (hO4 s rfl).2; omega) hV4 (hO4 s rfl).1
         unfold ptr at hE
         try simp only [Bool.not_true, Bool.not_false] at hE
         refine hE.mono ?_
         rintro e w5 ⟨x5, L5, rfl, f5, hG5, hV5, hX5, hl5, hor5⟩
         obtain ⟨ix5, rx5⟩ := hX5.nd.rec
         have hOf := of_leaf hG5 rx5
         rw [show (T.leaf x5 (endT _ s) : HTree).it = endT _ s from rfl] at hOf
         have hB5 := f5.fr.at hB4 (fun h => hV4.out hB4 (by decide) h)
         have hF5 := hF4.trans f5
         have hss := (hO4 s rfl).2
         unfold ptr at hOf
         clear hE hV4 hB4 hF4 hO4 f5 rx5 hX5 q0 q1 q2 c0 c1 c2 hG4 hk4 hb4
         go_wp2_with fail
         refine hOf.mono ?_
         rintro e w6 ⟨rfl, f6, hG6⟩
         have hB4 := f6.at hB5 id
         have hF4 := hF5.trans (hV5.frV f6)
         have hV4 := hV5.fr0 f6
         have hG4 := hG6
         obtain ⟨a, b, ok, hcc⟩ := cO_form (ofIt (endT true s))
         rw [hcc]
         have q0 := hB4.free 0
         have q1 := hB4.free 1
         have q2 := hB4.free 2
         have c0 := hB4.cell 0
         have c1 := hB4.cell 1
         have c2 := hB4.cell 2
         clear hOf hB5 hF5 hV5 hG5 f6
         go_wp2_with fail
         generalize hW5 : World.setCell _ _ _ = W5
         obtain ⟨f5, hG5, hR⟩ := set3 hG4 hB4 hW5
         obtain ⟨hF5, hV5⟩ := hF4.own1 hV4 hB4 (by decide) (Nat.le_refl _) f5
         refine bodyPost_ret (results_ct rfl _ rfl hR.1 Tryz.underlying284 size284) rfl ?_
         exact ⟨L5, by rw [← hx, ← hcc]; simp [nx, hi], hF5, hG5.mono (by omega), hV5, by omega, by omega, trivial⟩
  | node x d l r =>
    have hxx : (T.node x d l r : HTree).ann.1 = x.1 := rfl
    rw [hxx] at c4 rx hn ⊢
    have HN := Lib.hid hn
    clear hn hrel
    rw [show (T.node x d l r : HTree).isLeaf = false from rfl] at c4
    have hsz : (T.node x d l r : HTree).size = l.size + r.size + 1 := rfl
    have hCh := children_any hG (by omega) (by omega) hV hT.1
    have HO := Lib.hid (And.intro hO hx)
    obtain ⟨q7, hq7⟩ : ∃ q, oV o = q := ⟨_, rfl⟩
    have HQ := Lib.hid hq7
    rw [hq7]
    clear hO hx hq7
    unfold ptr at *
    go_wp2_with fail
    refine hCh.mono ?_
    rintro e w1 ⟨rfl, f, hG1, r', hV1⟩
    have hT1 := hT.frV hV f
    obtain ⟨ix1, rx1⟩ := hT1.nd.rec
    have c1 := rc1 rx1
    have hBl := Below_any key rx1
    rw [hxx, show (T.node x d l r : HTree).it = d from rfl] at hBl
    rw [hxx, show (T.node x d l r : HTree).it.i = d.i from rfl] at c1
    have hk1 := (f.fr.at hkR (fun h => hV.out hkR (by decide) h)).cell 0
    have hb1 := (f.fr.at hbR (fun h => hV.out hbR (by decide) h)).cell 0
    have hl := l.size_pos
    have hr := r.size_pos
    have HL : Hid (∀ (o' : Option HTree) (t'' : HTree) (q q' : Value), q = oV o' → q' = .pointer (some ⟨t''.ann.1, 0, none⟩) → nx key ab o' t'' = nx key ab o (.node x d l r) → (t'' = l ∨ t'' = r) → (o' = o ∨ o' = some l ∨ o' = some r) → NxSt g vb m key ab t W q q' w1 t''.size) := fun o' t'' q q' h1 h2 h3 h4 h5 => by
     have hO1 : ∀ s, o = some s → HT g w1 s ∧ s.size ≤ t.size := fun s hs => ⟨(HO.out.1 s hs).1.frV hV f, (HO.out.1 s hs).2⟩
     refine ⟨o', t'', L' ++ [r'], h1, h2, h3.trans HO.out.2, ?_, ?_, hV1, hF.trans f, hG1.mono ?_, rfl, ?_, ?_, .inr (by simp)⟩
     ·rcases h4 with rfl | rfl; exact hT1.2.1; exact hT1.2.2
     ·intro s hs
      rcases h5 with rfl | rfl | rfl
      ·exact hO1 s hs
      ·cases hs; exact ⟨hT1.2.1, by omega⟩
      ·cases hs; exact ⟨hT1.2.2, by omega⟩
     ·rcases h4 with rfl | rfl <;> omega
     ·rcases h4 with rfl | rfl <;> omega
     ·rw [List.length_append]; simp only [List.length_cons, List.length_nil]; rcases h4 with rfl | rfl <;> omega
    clear hCh f rx rx1 c4 hT1 hV1 hG1 hT hV hF hG hor hkR hbR
    go_wp2_with fail
    refine hBl.mono ?_
    rintro e w2 ⟨rfl, rfl⟩
    clear hBl
    cases hbl : below key d with
    | true =>
      cases ab with
      | true =>
        by_cases hi : d.i = 0
        ·rw [hi] at c1
         go_wp2_with fail
         go_roundw
         case rel => exact ⟨_, HL.out (some r) l _ _ rfl rfl (by simp [nx, hbl, hi]) (.inl rfl) (.inr (.inr rfl))⟩
         case measure =>
          have h1 := least_le (HL.out (some r) l _ _ rfl rfl (by simp [nx, hbl, hi]) (.inl rfl) (.inr (.inr rfl)))
          have h2 := HN.out
          simp only [← HQ.out, oV] at h1 h2 ⊢
          omega
        ·go_wp2_with fail
         go_roundw
         case rel => exact ⟨_, HL.out o l _ _ HQ.out.symm rfl (by simp [nx, hbl, hi]) (.inl rfl) (.inl rfl)⟩
         case measure =>
          have h1 := least_le (HL.out o l _ _ HQ.out.symm rfl (by simp [nx, hbl, hi]) (.inl rfl) (.inl rfl))
          have h2 := HN.out
          rw [HQ.out] at h2
          omega
      | false =>
        go_wp2_with fail
        go_roundw
        case rel => exact ⟨_, HL.out o l _ _ HQ.out.symm rfl (by simp [nx, hbl]) (.inl rfl) (.inl rfl)⟩
        case measure =>
         have h1 := least_le (HL.out o l _ _ HQ.out.symm rfl (by simp [nx, hbl]) (.inl rfl) (.inl rfl))
         have h2 := HN.out
         rw [HQ.out] at h2
         omega
    | false =>
      cases ab with
      | true =>
        go_wp2_with fail
        go_roundw
        case rel => exact ⟨_, HL.out o r _ _ HQ.out.symm rfl (by simp [nx, hbl]) (.inr rfl) (.inl rfl)⟩
        case measure =>
         have h1 := least_le (HL.out o r _ _ HQ.out.symm rfl (by simp [nx, hbl]) (.inr rfl) (.inl rfl))
         have h2 := HN.out
         rw [HQ.out] at h2
         omega
      | false =>
        go_wp2_with fail
        go_roundw
        case rel => exact ⟨_, HL.out (some l) r _ _ rfl rfl (by simp [nx, hbl]) (.inr rfl) (.inr (.inl rfl))⟩
        case measure =>
         have h1 := least_le (HL.out (some l) r _ _ rfl rfl (by simp [nx, hbl]) (.inr rfl) (.inr (.inl rfl)))
         have h2 := HN.out
         rw [HQ.out] at h2
         simp only [oV] at h1
         omega
end Go.Proofs.YtdmobhndbibhoaaGreat
namespace Go.Proofs.YtdmobhndbibhoaaGreat
open Go.RowKit Larch
set_option maxRecDepth 100000
set_option linter.unusedVariables false
set_option linter.unusedSimpArgs false
attribute [local go_sem ↓] Go.wp_at_zero Go.wp_at_succ
set_option maxHeartbeats 4000000 in
theorem next_any {g : Gt} {be m : Nat} {ab : Bool} {key : Int} {t : HTree} {w : World} (hg : GOk g m w) (hm : m + 16 * t.size + 200 < LIM) (hsz : t.size < 300000) (hT : HT g w t) (hb : t.ann.1 = be) (hn : t.isLeaf = false) :
 Calls Tryz.prog 131 #[gval g, ptr be, .int .i64 key, .bool ab] w (PairQ g (m + 16 * t.size) (nx key ab none t) w) := by
 have hF1 := Fr.alloc g No w (.cells #[ptr be] 99) hg
 have hG1 := hg.alloc (.cells #[ptr be] 99)
 have hB1 := At.new hg (.cells #[ptr be] 99)
 have hF2 := Fr.alloc g No _ (.cells #[.int .i64 key] 3) hG1
 have hG2 := hG1.alloc (.cells #[.int .i64 key] 3)
 have hB2 := At.new hG1 (.cells #[.int .i64 key] 3)
 have hF3 := Fr.alloc g No _ (.cells #[.bool ab] 4) hG2
 have hG3 := hG2.alloc (.cells #[.bool ab] 4)
 have hB3 := At.new hG2 (.cells #[.bool ab] 4)
 have hF4 := Fr.alloc g No _ (.cells #[.int .i64 0, .int .i64 0] 49) hG3
 have hG4 := hG3.alloc (.cells #[.int .i64 0, .int .i64 0] 49)
 have hB4 := At.new hG3 (.cells #[.int .i64 0, .int .i64 0] 49)
 have hB1' := hF4.at (hF3.at (hF2.at hB1 id) id) id
 have hB2' := hF4.at (hF3.at hB2 id) id
 have hB3' := hF4.at hB3 id
 have hF := ((hF1.tr hF2).tr hF3).tr hF4
 simp only [World.size_alloc] at hB2' hB3' hB4
 clear hF1 hG1 hB1 hF2 hG2 hB2 hF3 hG3 hB3 hF4
 unfold ptr at *
 go_enter Tryz.func131, Tryz.ntmps131
 go_wp2_with fail
 generalize hW : World.alloc (World.alloc (World.alloc (World.alloc w _) _) _) _ = W at *
 clear hW
 have hWh := whole181 (eb := w.heap.size) (kb := w.heap.size + 1) (ab := w.heap.size + 1 + 1) (m := m) (M := m + 14 * t.size) (K := 2 * t.size) (o := nx key ab none t) hG4 (by omega) (by omega) (fun W' vb f hG hV =>
  see181 (ab := ab) (key := key) hG (by omega) (by omega) hV ((hT.fr0 hF).fr0 f) hn (by rw [hb]; exact f.at hB1' id) (f.at hB2' id) (f.at hB3' id))
 refine hWh.mono ?_
 rintro e w1 ⟨rfl, f, hG5⟩
 have hB5 := f.at hB4 id
 have hFw := hF.tr f
 clear hWh hB1' hB2' hB3' hB4 hG4 f
 obtain ⟨a, b, hp, hc⟩ := pO_form (nx key ab none t)
 unfold PairQ
 rw [hc, hp]
 obtain ⟨ok, hok⟩ : ∃ ok, (nx key ab none t).isSome = ok := ⟨_, rfl⟩
 rw [hok]
 have q0 := box_free (cs := #[.int .i64 0, .int .i64 0, .bool false]) (T := 284) hG5 0
 have q1 := box_free (cs := #[.int .i64 0, .int .i64 0, .bool false]) (T := 284) hG5 1
 have q2 := box_free (cs := #[.int .i64 0, .int .i64 0, .bool false]) (T := 284) hG5 2
 have hF6 := Fr.alloc g No w1 (.cells #[.int .i64 a, .int .i64 b, .bool ok] 284) hG5
 have hG6 := hG5.alloc (.cells #[.int .i64 a, .int .i64 b, .bool ok] 284)
 have hX6 := At.new hG5 (.cells #[.int .i64 a, .int .i64 b, .bool ok] 284)
 have hB6 := hF6.at hB5 id
 have hsz1 := hFw.size
 have HO := Lib.hid (And.intro hp hok)
 clear hB5 hp hc hok
 go_wp2_with fail
 clear q0 q1 q2
 generalize hW5 : World.alloc w1 _ = W5 at *
 clear hW5
 have q0 := hB6.free 0
 have q1 := hB6.free 1
 have c0 := hB6.cell 0
 have c1 := hB6.cell 1
 have x0 := hX6.cell 0
 have x1 := hX6.cell 1
 have x2 := hX6.cell 2
 go_region
 go_wp2_with fail
 generalize hW6 : World.setCell _ _ _ = W6
 obtain ⟨f6, hG7, hR⟩ := set2 hG6 hB6 hW6
 refine bodyPost_ret (results_ct rfl _ rfl hR.drew.1 Tryz.underlying49 size49) rfl ?_
 exact ⟨by rw [HO.out.1, HO.out.2]; rfl, (((hFw.tr hF6).trans f6 (fun _ _ h => h) (fun b hb h => by omega)).tr (Fr.drew g No _)), (hG7.mono (by omega)).drew⟩
set_option maxHeartbeats 2000000 in
theorem succ_any {g : Gt} {be m : Nat} {key : Int} {t : HTree} {w : World} (hg : GOk g m w) (hm : m + 16 * t.size + 200 < LIM) (hsz : t.size < 300000) (hT : HT g w t) (hb : t.ann.1 = be) (hn : t.isLeaf = false) :
 Calls Tryz.prog 96 #[gval g, ptr be, .int .i64 key] w (PairQ g (m + 16 * t.size) (nx key true none t) w) := by
 have hF := Fr.alloc g No w (.cells #[.int .i64 0, .int .i64 0] 49) hg
 have hG := hg.alloc (.cells #[.int .i64 0, .int .i64 0] 49)
 have hB := At.new hg (.cells #[.int .i64 0, .int .i64 0] 49)
 have hO := next_any (ab := true) (key := key) hG hm hsz (hT.fr0 hF) hb hn
 unfold ptr at *
 go_enter Tryz.func96, Tryz.ntmps96
 go_wp2_with fail
 generalize hW : World.alloc w _ = W at *
 clear hW
 refine hO.mono ?_
 rintro e w1 ⟨rfl, f, hG1⟩
 have hB1 := f.at hB id
 have hFw := hF.tr f
 obtain ⟨a, b, hp, _⟩ := pO_form (nx key true none t)
 unfold PairQ
 have q0 := hB1.free 0
 have q1 := hB1.free 1
 have c0 := hB1.cell 0
 have c1 := hB1.cell 1
 rw [hp]
 obtain ⟨ok, hok⟩ : ∃ ok, (nx key true none t).isSome = ok := ⟨_, rfl⟩
 rw [hok]
 have HO := Lib.hid (And.intro hp hok)
 clear hp hok
 clear hO f hB hG
 go_wp2_with fail
 generalize hW6 : World.setCell _ _ _ = W6
 obtain ⟨f6, hG6, hR⟩ := set2 hG1 hB1 hW6
 refine bodyPost_ret (results_ct rfl _ rfl hR.1 Tryz.underlying49 size49) rfl ?_
 exact ⟨by rw [HO.out.1, HO.out.2]; rfl, hFw.trans f6 (fun _ _ h => h) (fun b hb h => by omega), hG6⟩
set_option maxHeartbeats 2000000 in
theorem pred_any {g : Gt} {be m : Nat} {key : Int} {t : HTree} {w : World} (hg : GOk g m w) (hm : m + 16 * t.size + 200 < LIM) (hsz : t.size < 300000) (hT : HT g w t) (hb : t.ann.1 = be) (hn : t.isLeaf = false) :
 Calls Tryz.prog 97 #[gval g, ptr be, .int .i64 key] w (PairQ g (m + 16 * t.size) (nx key false none t) w) := by
 have hF := Fr.alloc g No w (.cells #[.int .i64 0, .int .i64 0] 49) hg
 have hG := hg.alloc (.cells #[.int .i64 0, .int .i64 0] 49)
 have hB := At.new hg (.cells #[.int .i64 0, .int .i64 0] 49)
 have hO := next_any (ab := false) (key := key) hG hm hsz (hT.fr0 hF) hb hn
 unfold ptr at *
 go_enter Tryz.func97, Tryz.ntmps97
 go_wp2_with fail
 generalize hW : World.alloc w _ = W at *
 clear hW
 refine hO.mono ?_
 rintro e w1 ⟨rfl, f, hG1⟩
 have hB1 := f.at hB id
 have hFw := hF.tr f
 obtain ⟨a, b, hp, _⟩ := pO_form (nx key false none t)
 unfold PairQ
 have q0 := hB1.free 0
 have q1 := hB1.free 1
 have c0 := hB1.cell 0
 have c1 := hB1.cell 1
 rw [hp]
 obtain ⟨ok, hok⟩ : ∃ ok, (nx key false none t).isSome = ok := ⟨_, rfl⟩
 rw [hok]
 have HO := Lib.hid (And.intro hp hok)
 clear hp hok
 clear hO f hB hG
 go_wp2_with fail
 generalize hW6 : World.setCell _ _ _ = W6
 obtain ⟨f6, hG6, hR⟩ := set2 hG1 hB1 hW6
 refine bodyPost_ret (results_ct rfl _ rfl hR.1 Tryz.underlying49 size49) rfl ?_
 exact ⟨by rw [HO.out.1, HO.out.2]; rfl, hFw.trans f6 (fun _ _ h => h) (fun b hb h => by omega), hG6⟩
end Go.Proofs.YtdmobhndbibhoaaGreat
