/- larchlaw24.IndexTakes answers true for every input, and its arguments read behind the call as they read before. -/
import Derived.Test.YtdmobhndbibhoaaGreatV0
namespace Go.Proofs.YtdmobhndbibhoaaGreat
open Go.ChangeShapes Go.WideShapes Go.ChangeAt Go.RowKit Larch
set_option maxRecDepth 100000
set_option linter.unusedVariables false
set_option linter.unusedSimpArgs false
theorem takes_lifted (os : Os) (started : os.Started) (H : Type) (enc : TypeId × Value → H) :
 ReturnsInHanded {} Tryz.checked os 5 .any (Rows.indexTakesSpec.pre6 enc Tryz.prog Tryz.f5 Rows.indexTakesRow.domain false) (Rows.indexTakesSpec.post enc Tryz.prog Tryz.f5 false true false false) := by
 refine returnsInHanded_of_change_sized (C := Tryz.checked) Tryz.own started (by kernel_rfl) Tryz.func5
  (ChangeSpec.witness6 (enc := enc) (C := Tryz.checked) false ⟨#[], #[.slice none 0 0, .agg #[.int .i64 0, .int .i64 0, .int .i64 0]], []⟩ 8 (by kernel_rfl) (by kernel_rfl) (by kernel_rfl) (by kernel_rfl)) ?_
 intro W base args ds gs before hval0 hW _ hsz0 _
 have hsz : (DataW.weightsEach Tryz.prog (Tryz.f5.params.toList ++ Rows.indexTakesSpec.plain.varTypes Tryz.prog) (ds ++ gs)).all (· ≤ reachBytes) = true := hsz0
 clear hsz0
 have hval : ∀ (j : Nat) t v, Tryz.f5.params[j]? = some t → args[j]? = some v → Value.okWide Tryz.prog W .any base t v := hval0
 have hW' := hW
 obtain ⟨p, q, hA0, hV, rfl, _, _⟩ := hW
 have hA : DataW.TrodAll enc Tryz.prog W 0 (fun _ => true) true Tryz.f5.params.toList args.toList ds p := hA0
 rw [Tryz.params5] at hA hval hsz
 obtain ⟨v0, v1, d0, d1, p0, p1, rfl, rfl, rfl, h0, h1⟩ := trodAll_two hA
 obtain ⟨rfl, rfl⟩ := trodVars_none hV
 obtain ⟨a0, len, cap, rfl⟩ := okWide_slice Tryz.underlying22 (hval 0 22 v0 rfl rfl)
 obtain ⟨⟨ps, hSl, h64⟩, hd⟩ := open_pairs h0
 have hlt0 : ∀ x ∈ p0, x.block < W.heap.size := fun x hx => by simpa using hW'.lt x (by simp [hx])
 have hlt1 : ∀ x ∈ p1, x.block < W.heap.size := fun x hx => by simpa using hW'.lt x (by simp [hx])
 have hargs : ∀ W' : World, Below W.heap.size W W' → DataW.TrodAll enc Tryz.prog W' 0 (fun b => decide (b < W.heap.size)) true [22, 25] [.slice a0 len cap, v1] [d0, d1] (p0 ++ p1) := fun W' hb =>
  trodAll_mk2 (Below.trod Tryz.laidOut (by kernel_rfl) (of_decide_eq_true (by kernel_rfl)) h0 hb hlt0) (Below.trod Tryz.laidOut (by kernel_rfl) (of_decide_eq_true (by kernel_rfl)) h1 hb hlt1)
 obtain ⟨u0, u1, u2, y0, y1, y2, k, rfl, rfl, rfl, e0, e1, e2⟩ := Go.Joins.open_agg3 Tryz.underlying25 (by kernel_rfl) (by kernel_rfl) (hval 1 25 v1 rfl rfl) h1
 obtain ⟨n0, f0, rfl, w0⟩ := DataW.trod_int Tryz.underlying3 e0
 obtain ⟨n1, f1, rfl, w1⟩ := DataW.trod_int Tryz.underlying3 e1
 obtain ⟨n2, f2, rfl, w2⟩ := DataW.trod_int Tryz.underlying3 e2
 simp only [List.cons.injEq, and_true] at f0 f1 f2
 subst f0 f1 f2
 have hcap : cap * 16 ≤ 140737488351232 ∧ len ≤ cap := by
  rcases hd with ⟨rfl, rfl⟩ | ⟨D1, D2, rfl, k1, k2, k3⟩
  ·exact ⟨by decide, Nat.le_refl _⟩
  ·have := sized_slice hsz (j := 0) (t := 22) (e := 49) rfl rfl Tryz.underlying22
   rw [Tryz.bytes49] at this
   simp only [reachBytes] at this
   omega
 refine (IndexTakes_any hSl (by omega) (by omega) (wf_i64 w1) h64).mono fun e W' ⟨he, hF⟩ => ?_
 subst he
 have hB := below_of hF
 exact ⟨_, rfl, _, _, _, [] ++ [], _, [], hW', trodAll_mk1 (shut_bool Tryz.underlying4 _), hargs W' hB, rfl, hB.frame _, fun h => by cases h⟩
theorem takes_holds : Rows.IndexTakesSaid :=
 OpenClaim.holds_of_wide 5 Tryz.f5 rfl rfl rfl rfl rfl rfl rfl ⟨rfl, rfl, rfl, rfl, rfl⟩ rfl rfl rfl rfl rfl (by kernel_rfl) Tryz.func5 (by kernel_rfl)
  (of_decide_eq_true (by kernel_rfl)) (by unfold Func.isWrapper; first | (rw [if_pos (by decide +kernel)]; kernel_rfl) | (rw [if_neg (by decide +kernel)]; exact ⟨rfl, rfl⟩))
  (fun os started H enc _ => takes_lifted os started H enc)
#print axioms takes_holds
end Go.Proofs.YtdmobhndbibhoaaGreat
