/- The iterator of Down. -/
import Derived.Test.YtdmobhndbibhoaaGreatT7
namespace Go.Proofs.YtdmobhndbibhoaaGreat
open Go.RowKit Larch
set_option maxRecDepth 100000
set_option linter.unusedVariables false
set_option linter.unusedSimpArgs false
attribute [local go_sem ↓] Go.wp_at_zero Go.wp_at_succ
theorem lpS_down_first (k : Int) (m : List Pr) : lpO (lpS 3 k []) m = nxtD k false m := rfl
theorem lpS_down_next (k : Int) (pre : List Pr) (x : Pr) (m : List Pr) : lpO (lpS 3 k (pre ++ [x])) m = predL x.1 m := by
 unfold lpS
 rw [List.getLast?_concat]
 exact nxtD_open _ _
set_option maxHeartbeats 16000000 in
theorem seq_down {g : Gt} {be hb kb lab eb nb sb N : Nat} {M : List Pr → T Unit} {c : Nat → Nat} {from_ : Int} (hf : I64 from_) (h64 : ∀ p ∈ pairs (M []), I64 p.1) (hN100 : N ≤ 100000) (hc : ∀ pre : List Pr, pre.length ≤ N → c pre.length + cost (M pre).size ≤ c (pre.length + 1) ∧ c (pre.length + 1) < LIM ∧ (M pre).size < 300000) :
 SeqC g be M c (fun pre x => lpO (lpS 3 from_ pre) (pairs (M pre)) = some x) (fun xs => lpO (lpS 3 from_ xs) (pairs (M xs)) = none) 107 #[.pointer (some ⟨kb, 0, none⟩), .pointer (some ⟨lab, 0, none⟩), .pointer (some ⟨eb, 0, none⟩), .pointer (some ⟨nb, 0, none⟩), .pointer (some ⟨sb, 0, none⟩)] N (PreFrom g be hb kb lab eb nb sb from_ (9223372036854775807) (-1) 62 60) (fun b => b = nb ∨ b = hb) := by
 intro l B J K Jx O hJ hK hJs hKs hO hN hY W hBW hJ0 hP
 obtain ⟨hP1, hP2, hP3, hP4, hP5, hP6⟩ := hP
 have hS := hJ [] W hJ0
 have hF1 := Fr.alloc g No W (.cells #[.int .i64 0, .int .i64 0] 49) hS.gate
 have hB1 := At.new hS.gate (.cells #[.int .i64 0, .int .i64 0] 49)
 have hH1 := hF1.at hP6 id
 have hN1 := hF1.at hP4 id
 have hS1 := hS.alloc (.cells #[.int .i64 0, .int .i64 0] 49)
 obtain ⟨hc1, hc2, hc3⟩ := hc [] (Nat.zero_le _)
 have k0 := hP1.cell 0
 have k1 := hP2.cell 0
 have k2 := hP3.cell 0
 have k3 := hP4.cell 0
 have k4 := hP5.cell 0
 have j0 := hP1.lt
 have j1 := hP2.lt
 have j2 := hP3.lt
 have j3 := hP4.lt
 have j4 := hP5.lt
 simp only [List.length_nil, Nat.zero_add] at hc1 hc2
 have HJ0 := Lib.hid (And.intro hJ0 hS)
 clear hJ0 hS
 rw [show #[Value.func (Fn.yield l) #[] #[]] ++ #[.pointer (some ⟨kb, 0, none⟩), .pointer (some ⟨lab, 0, none⟩), .pointer (some ⟨eb, 0, none⟩), .pointer (some ⟨nb, 0, none⟩), .pointer (some ⟨sb, 0, none⟩)] = #[Value.func (Fn.yield l) #[] #[], .pointer (some ⟨kb, 0, none⟩), .pointer (some ⟨lab, 0, none⟩), .pointer (some ⟨eb, 0, none⟩), .pointer (some ⟨nb, 0, none⟩), .pointer (some ⟨sb, 0, none⟩)] from rfl]
 have HST : Hid (∀ w2, St g (c 0 + cost (M []).size) be (M []) (W.alloc (.cells #[.int .i64 0, .int .i64 0] 49)) w2 → ∀ p q : Int, #[Value.int .i64 p, .int .i64 q] = pO (lpO (lpS 3 from_ []) (pairs (M []))) →
  FrSt g be hb nb W.heap.size O K (lpO (lpS 3 from_ []) (pairs (M []))) [] 60 ((w2.setCell ⟨W.heap.size, 0, none⟩ (.int .i64 p)).setCell ⟨W.heap.size, 1, none⟩ (.int .i64 q))) := Lib.hid (fun w2 hS2 p q hpq => by
  have hB2 := hS2.tf.at hB1 (by decide)
  obtain ⟨f3, g3, hB3⟩ := set2 (x := .int .i64 p) (y := .int .i64 q) hS2.gate hB2 rfl
  have hS3 : St g (c 0 + cost (M []).size) be (M []) W _ := (HJ0.out.2.alloc (.cells #[.int .i64 0, .int .i64 0] 49)).trans hS2 |>.own1 hB2 (by decide) (Nat.le_refl _) f3 g3
  obtain ⟨hK3, hO3⟩ := hJs [] W _ HJ0.out.1 (its_tf hS3.tf) (hS3.here.mono hc1)
  refine ⟨hK3, ⟨p, q, hB3, hpq⟩, fun h => ?_, hS3.tf.at hP4 (by decide), hS3.tf.at hP6 (by decide)⟩
  have h1 := hO3 _ h
  obtain ⟨⟨cs, T, fr, h2⟩, _⟩ := hO [] W _ (.inl HJ0.out.1) h1
  have := lt_of_heap h2
  omega)
 have q0 := box_free (cs := #[.int .i64 0, .int .i64 0]) (T := 49) HJ0.out.2.gate 0
 have q1 := box_free (cs := #[.int .i64 0, .int .i64 0]) (T := 49) HJ0.out.2.gate 1
 obtain ⟨o0, ho0⟩ : ∃ o, lpO (lpS 3 from_ []) (pairs (M [])) = o := ⟨_, rfl⟩
 rw [ho0] at HST
 obtain ⟨p0, r0, hp0, _⟩ := pO_form o0
 obtain ⟨ok0, hok0⟩ : ∃ b, o0.isSome = b := ⟨_, rfl⟩
 have HO := Lib.hid (And.intro ho0 (And.intro hp0 hok0))
 have hin : from_ = 9223372036854775807 ∨ ¬ from_ = 9223372036854775807 := Decidable.em _
 unfold I64 at hf
 rcases hin with he | he
 ·subst he
  have hE := hMax_any hS1 hH1 (by simp only [List.length_nil]; omega) hc3
  rw [← nxtD_max (key := 9223372036854775807) (fun p hp => (h64 p hp).2), ← lpS_down_first, ho0] at hE
  unfold PairS at hE
  rw [hp0, hok0] at hE
  unfold ptr at hE
  unfold ptr at k2 k3
  clear hP1 hP2 hP3 hP4 hP5 hP6 hF1 hN1 hH1 ho0 hp0 hok0
  go_enter Tryz.func107, Tryz.ntmps107
  go_wp2_with fail
  refine hE.mono ?_
  rintro e w2 ⟨rfl, hS2⟩
  have hB2 := hS2.tf.at hB1 (by decide)
  have a0 := hB2.free 0
  have a1 := hB2.free 1
  have b0 := hB2.cell 0
  have b1 := hB2.cell 1
  have hst := HST.out w2 hS2 p0 r0 HO.out.2.1.symm
  have HS := Lib.hid hst
  clear hst hE hS2 hB2 hB1 hS1 k0 k1 k2 k3 k4 q0 q1 HST
  go_wp2_with fail
  generalize World.setCell (World.setCell w2 _ _) _ _ = w3 at *
  clear j0 j1 j2 j4 hc1 hc2 hc3
  go_loopg [8] N (fun gk v8 wr => ∃ pre : List Pr, gk + pre.length = N ∧ v8 = .bool (lpO (lpS 3 (9223372036854775807) pre) (pairs (M pre))).isSome ∧ FrSt g be hb nb W.heap.size O K (lpO (lpS 3 (9223372036854775807) pre) (pairs (M pre))) pre 60 wr)
  case atStart => exact ⟨[], by simp, by rw [HO.out.1, HO.out.2.2], by rw [HO.out.1]; exact HS.out⟩
  case round =>
   obtain ⟨pre, hp, rfl, hKK, ⟨p, q, hB, hpq⟩, hno, hnb, hh⟩ := hrel
   cases ho : lpO (lpS 3 (9223372036854775807) pre) (pairs (M pre)) with
   | none =>
     have HX := Lib.hid (And.intro ho hKK)
     clear ho hKK hpq HS HO
     simp only [Option.isSome_none]
     go_wp2_with fail
     (try simp only [Exit.inBlock, Exit.then])
     first
     | refine bodyPost_ret (results_none rfl _ _ _) rfl ?_
     | go_end0
     exact ⟨⟨_, rfl⟩, .inl ⟨pre, HX.out⟩⟩
   | some x =>
     obtain ⟨x1, x2⟩ := x
     have hlt := hN pre (x1, x2) wr hKK ho
     have hyy := hY pre (x1, x2) wr hKK ho
     obtain ⟨fn, tmps, assign, body, hy, hRd⟩ := hyy
     simp only at hy
     rw [ho] at hpq
     have hpq' : p = x1 ∧ q = x2 := by simpa [pO] using hpq
     obtain ⟨rfl, rfl⟩ := hpq'
     have c0 := hB.cell 0
     have c1 := hB.cell 1
     have hob := hO pre wr
     have HX := Lib.hid (And.intro ho (And.intro hKK hob))
     clear ho hKK hpq hob HS HO
     simp only [Option.isSome_some]
     go_upto_region 5 with (fail)
     refine (wpIn_wide (n := 1)).1 ?_
     gi_wp2_with fail
     refine hRd.mono ?_
     rintro e W3 (⟨rfl, hJ3, hF3⟩ | ⟨rfl, hX3⟩)
     ·obtain ⟨ho, hKK, hob⟩ := HX.out
      have hlen : (pre ++ [(p, q)]).length = pre.length + 1 := by rw [List.length_append]; rfl
      have hS3 := hJ _ W3 hJ3
      obtain ⟨hc1, hc2, hc3⟩ := hc (pre ++ [(p, q)]) (by rw [hlen]; omega)
      have hB3 := hF3.at hB (by decide) hno
      have hnb3 := hF3.at hnb (by decide) (fun h => (hob _ (.inr hKK) h).2 (.inl rfl))
      have hh3 := hF3.at hh (by decide) (fun h => (hob _ (.inr hKK) h).2 (.inr rfl))
      have hno3 : ¬ O W3 W.heap.size := fun h => by
       rcases hF3.own _ h with h | h
       ·exact hno h
       ·have := hB.lt; omega
      have hE := hPred_any (key := p) hS3 hh3 (by omega) hc3
      rw [← lpS_down_next (9223372036854775807) pre (p, q)] at hE
      obtain ⟨o1, ho1⟩ : ∃ o, lpO (lpS 3 (9223372036854775807) (pre ++ [(p, q)])) (pairs (M (pre ++ [(p, q)]))) = o := ⟨_, rfl⟩
      obtain ⟨pa, pb, hpo, _⟩ := pO_form o1
      obtain ⟨ok1, hok1⟩ : ∃ b, o1.isSome = b := ⟨_, rfl⟩
      rw [ho1] at hE
      unfold PairS ptr at hE
      rw [hpo, hok1] at hE
      have d0 := hB3.cell 0
      have d1 := hB3.cell 1
      have k3 := hnb3.cell 0
      unfold ptr at k3
      have HY := Lib.hid (And.intro ho1 (And.intro hpo (And.intro hok1 (And.intro hlen (And.intro hJ3 hc1)))))
      clear ho hKK hob HX hlen hc1 hc2 hc3 ho1 hpo hok1 hJ3 hF3 hRd hy c0 c1 hB hno hnb hh
      gi_wp2_with fail
      go_wp2_with fail
      refine hE.mono ?_
      rintro e w4 ⟨rfl, hS4⟩
      have hB4 := hS4.tf.at hB3 (by decide)
      have a0 := hB4.free 0
      have a1 := hB4.free 1
      have b0 := hB4.cell 0
      have b1 := hB4.cell 1
      have HZ : Hid (FrSt g be hb nb W.heap.size O K o1 (pre ++ [(p, q)]) 60 ((w4.setCell ⟨W.heap.size, 0, none⟩ (.int .i64 pa)).setCell ⟨W.heap.size, 1, none⟩ (.int .i64 pb))) := Lib.hid (by
       obtain ⟨ho1, hpo, hok1, hlen, hJ3, hc1⟩ := HY.out
       obtain ⟨f5, g5, hB5⟩ := set2 (x := .int .i64 pa) (y := .int .i64 pb) hS4.gate hB4 rfl
       have f35 : Fr g (ItS g O B W3) W3 _ := (its_tf hS4.tf).trans f5 (fun _ _ h => h) (fun b hb h => by subst h; exact .inr ⟨hBW, hno3, _, _, hB3.1⟩)
       have hS5 : St g _ be (M (pre ++ [(p, q)])) _ _ := ⟨hS4.map.keep f5 (fun c cs T hc hT e => by subst e; exact (Cl.ne hc hB4 (by rcases hT with rfl | rfl | rfl <;> decide)) rfl), hS4.good, g5, Fr.refl _ _ _⟩
       obtain ⟨hK5, hO5⟩ := hJs _ W3 _ hJ3 f35 (hS5.here.mono hc1)
       exact ⟨hK5, ⟨pa, pb, hB5, hpo.symm⟩, fun h => hno3 (hO5 _ h), f5.at (hS4.tf.at hnb3 (by decide)) (fun e => (Cl.ne hnb3 hB3 (by decide)) e), f5.at (hS4.tf.at hh3 (by decide)) (fun e => (Cl.ne hh3 hB3 (by decide)) e)⟩)
      clear hE hS4 hB4 hB3 hnb3 hh3 hno3 hS3 d0 d1 k3
      go_wp2_with fail
      go_roundg (N - (pre.length + 1))
      case measure => omega
      case rel =>
       obtain ⟨ho1, hpo, hok1, hlen, hJ3, hc1⟩ := HY.out
       exact ⟨pre ++ [(p, q)], by rw [hlen]; omega, by rw [ho1, hok1], by rw [ho1]; exact HZ.out⟩
     ·clear hRd hy c0 c1 HX
      gi_wp2_with fail
      go_wp2_with fail
      (try simp only [Exit.inBlock, Exit.then])
      first
      | refine bodyPost_ret (results_none rfl _ _ _) rfl ?_
      | go_end0
      exact ⟨⟨_, rfl⟩, .inr ⟨_, hX3⟩⟩
 ·have hE := hPred_any (key := from_ + 1) hS1 hH1 (by simp only [List.length_nil]; omega) hc3
  rw [← nxtD_at, ← lpS_down_first, ho0] at hE
  unfold PairS at hE
  rw [hp0, hok0] at hE
  have hw1 : IntKind.i64.wrap (from_ - (-1)) = from_ + 1 := by rw [IntWalk.i64_in _ (by omega)]; omega
  unfold ptr at hE
  unfold ptr at k2 k3
  clear hP1 hP2 hP3 hP4 hP5 hP6 hF1 hN1 hH1 ho0 hp0 hok0
  go_enter Tryz.func107, Tryz.ntmps107
  go_wp2_with fail
  refine hE.mono ?_
  rintro e w2 ⟨rfl, hS2⟩
  have hB2 := hS2.tf.at hB1 (by decide)
  have a0 := hB2.free 0
  have a1 := hB2.free 1
  have b0 := hB2.cell 0
  have b1 := hB2.cell 1
  have hst := HST.out w2 hS2 p0 r0 HO.out.2.1.symm
  have HS := Lib.hid hst
  clear hst hE hS2 hB2 hB1 hS1 k0 k1 k2 k3 k4 q0 q1 HST
  go_wp2_with fail
  generalize World.setCell (World.setCell w2 _ _) _ _ = w3 at *
  clear j0 j1 j2 j4 hc1 hc2 hc3
  go_loopg [8] N (fun gk v8 wr => ∃ pre : List Pr, gk + pre.length = N ∧ v8 = .bool (lpO (lpS 3 from_ pre) (pairs (M pre))).isSome ∧ FrSt g be hb nb W.heap.size O K (lpO (lpS 3 from_ pre) (pairs (M pre))) pre 60 wr)
  case atStart => exact ⟨[], by simp, by rw [HO.out.1, HO.out.2.2], by rw [HO.out.1]; exact HS.out⟩
  case round =>
   obtain ⟨pre, hp, rfl, hKK, ⟨p, q, hB, hpq⟩, hno, hnb, hh⟩ := hrel
   cases ho : lpO (lpS 3 from_ pre) (pairs (M pre)) with
   | none =>
     have HX := Lib.hid (And.intro ho hKK)
     clear ho hKK hpq HS HO
     simp only [Option.isSome_none]
     go_wp2_with fail
     (try simp only [Exit.inBlock, Exit.then])
     first
     | refine bodyPost_ret (results_none rfl _ _ _) rfl ?_
     | go_end0
     exact ⟨⟨_, rfl⟩, .inl ⟨pre, HX.out⟩⟩
   | some x =>
     obtain ⟨x1, x2⟩ := x
     have hlt := hN pre (x1, x2) wr hKK ho
     have hyy := hY pre (x1, x2) wr hKK ho
     obtain ⟨fn, tmps, assign, body, hy, hRd⟩ := hyy
     simp only at hy
     rw [ho] at hpq
     have hpq' : p = x1 ∧ q = x2 := by simpa [pO] using hpq
     obtain ⟨rfl, rfl⟩ := hpq'
     have c0 := hB.cell 0
     have c1 := hB.cell 1
     have hob := hO pre wr
     have HX := Lib.hid (And.intro ho (And.intro hKK hob))
     clear ho hKK hpq hob HS HO
     simp only [Option.isSome_some]
     go_upto_region 5 with (fail)
     refine (wpIn_wide (n := 1)).1 ?_
     gi_wp2_with fail
     refine hRd.mono ?_
     rintro e W3 (⟨rfl, hJ3, hF3⟩ | ⟨rfl, hX3⟩)
     ·obtain ⟨ho, hKK, hob⟩ := HX.out
      have hlen : (pre ++ [(p, q)]).length = pre.length + 1 := by rw [List.length_append]; rfl
      have hS3 := hJ _ W3 hJ3
      obtain ⟨hc1, hc2, hc3⟩ := hc (pre ++ [(p, q)]) (by rw [hlen]; omega)
      have hB3 := hF3.at hB (by decide) hno
      have hnb3 := hF3.at hnb (by decide) (fun h => (hob _ (.inr hKK) h).2 (.inl rfl))
      have hh3 := hF3.at hh (by decide) (fun h => (hob _ (.inr hKK) h).2 (.inr rfl))
      have hno3 : ¬ O W3 W.heap.size := fun h => by
       rcases hF3.own _ h with h | h
       ·exact hno h
       ·have := hB.lt; omega
      have hE := hPred_any (key := p) hS3 hh3 (by omega) hc3
      rw [← lpS_down_next from_ pre (p, q)] at hE
      obtain ⟨o1, ho1⟩ : ∃ o, lpO (lpS 3 from_ (pre ++ [(p, q)])) (pairs (M (pre ++ [(p, q)]))) = o := ⟨_, rfl⟩
      obtain ⟨pa, pb, hpo, _⟩ := pO_form o1
      obtain ⟨ok1, hok1⟩ : ∃ b, o1.isSome = b := ⟨_, rfl⟩
      rw [ho1] at hE
      unfold PairS ptr at hE
      rw [hpo, hok1] at hE
      have d0 := hB3.cell 0
      have d1 := hB3.cell 1
      have k3 := hnb3.cell 0
      unfold ptr at k3
      have HY := Lib.hid (And.intro ho1 (And.intro hpo (And.intro hok1 (And.intro hlen (And.intro hJ3 hc1)))))
      clear ho hKK hob HX hlen hc1 hc2 hc3 ho1 hpo hok1 hJ3 hF3 hRd hy c0 c1 hB hno hnb hh
      gi_wp2_with fail
      go_wp2_with fail
      refine hE.mono ?_
      rintro e w4 ⟨rfl, hS4⟩
      have hB4 := hS4.tf.at hB3 (by decide)
      have a0 := hB4.free 0
      have a1 := hB4.free 1
      have b0 := hB4.cell 0
      have b1 := hB4.cell 1
      have HZ : Hid (FrSt g be hb nb W.heap.size O K o1 (pre ++ [(p, q)]) 60 ((w4.setCell ⟨W.heap.size, 0, none⟩ (.int .i64 pa)).setCell ⟨W.heap.size, 1, none⟩ (.int .i64 pb))) := Lib.hid (by
       obtain ⟨ho1, hpo, hok1, hlen, hJ3, hc1⟩ := HY.out
       obtain ⟨f5, g5, hB5⟩ := set2 (x := .int .i64 pa) (y := .int .i64 pb) hS4.gate hB4 rfl
       have f35 : Fr g (ItS g O B W3) W3 _ := (its_tf hS4.tf).trans f5 (fun _ _ h => h) (fun b hb h => by subst h; exact .inr ⟨hBW, hno3, _, _, hB3.1⟩)
       have hS5 : St g _ be (M (pre ++ [(p, q)])) _ _ := ⟨hS4.map.keep f5 (fun c cs T hc hT e => by subst e; exact (Cl.ne hc hB4 (by rcases hT with rfl | rfl | rfl <;> decide)) rfl), hS4.good, g5, Fr.refl _ _ _⟩
       obtain ⟨hK5, hO5⟩ := hJs _ W3 _ hJ3 f35 (hS5.here.mono hc1)
       exact ⟨hK5, ⟨pa, pb, hB5, hpo.symm⟩, fun h => hno3 (hO5 _ h), f5.at (hS4.tf.at hnb3 (by decide)) (fun e => (Cl.ne hnb3 hB3 (by decide)) e), f5.at (hS4.tf.at hh3 (by decide)) (fun e => (Cl.ne hh3 hB3 (by decide)) e)⟩)
      clear hE hS4 hB4 hB3 hnb3 hh3 hno3 hS3 d0 d1 k3
      go_wp2_with fail
      go_roundg (N - (pre.length + 1))
      case measure => omega
      case rel =>
       obtain ⟨ho1, hpo, hok1, hlen, hJ3, hc1⟩ := HY.out
       exact ⟨pre ++ [(p, q)], by rw [hlen]; omega, by rw [ho1, hok1], by rw [ho1]; exact HZ.out⟩
     ·clear hRd hy c0 c1 HX
      gi_wp2_with fail
      go_wp2_with fail
      (try simp only [Exit.inBlock, Exit.then])
      first
      | refine bodyPost_ret (results_none rfl _ _ _) rfl ?_
      | go_end0
      exact ⟨⟨_, rfl⟩, .inr ⟨_, hX3⟩⟩
end Go.Proofs.YtdmobhndbibhoaaGreat
