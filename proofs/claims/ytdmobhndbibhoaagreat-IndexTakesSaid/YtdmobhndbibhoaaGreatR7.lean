/- larchref24: next, downward. -/
import Derived.Test.YtdmobhndbibhoaaGreatR5
namespace Go.Proofs.YtdmobhndbibhoaaGreat
open Go.RowKit Larch
set_option maxRecDepth 100000
set_option linter.unusedVariables false
set_option linter.unusedSimpArgs false
attribute [local go_sem ↓] Go.wp_at_zero Go.wp_at_succ
set_option maxHeartbeats 16000000 in
theorem next_down {g : Gt} {m n lb : Nat} {key : Int} {op : Bool} {mv lv : Value} {xs : List (Int × Int)} {w : World} (hg : GOk g m w) (hL : Cl g w lb #[.int .i64 3, lv, .int .i64 key, .bool op] 158) (hS : Sl g w 2 lv 0 [] ∨ True) (hA : Sl g w 2 mv n (pV xs)) (hn : n ≤ 100000) (hb : mv.ownBlock ≠ some lb) :
 Calls Tryz.prog 69 #[.pointer (some ⟨lb, 0, none⟩), mv] w fun e w' => e = .returned (.tuple #[.agg (pO (goD key op none xs)), .bool (goD key op none xs).isSome]) ∧ Cl g w' lb #[.int .i64 3, lv, .int .i64 ((goD key op none xs).getD (0, 0)).1, .bool true] 158 ∧ Fr g (fun c => c = lb) w w' ∧ GOk g m w' := by
 obtain ⟨a, c, rfl, hc⟩ := hA.slice
 have hl := hA.len
 have hF1 := Fr.alloc g No w (.cells #[.int .i64 0, .int .i64 0] 49) hg
 have hG1 := hg.alloc (.cells #[.int .i64 0, .int .i64 0] 49)
 have hB1 := At.new hg (.cells #[.int .i64 0, .int .i64 0] 49)
 have hF2 := Fr.alloc g No _ (.cells #[.int .i64 0, .int .i64 0] 49) hG1
 have hG2 := hG1.alloc (.cells #[.int .i64 0, .int .i64 0] 49)
 have hB2 := At.new hG1 (.cells #[.int .i64 0, .int .i64 0] 49)
 have hF := hF1.tr hF2
 have hB1' := hF2.at hB1 id
 simp only [World.size_alloc] at hB2
 have hLt := hL.lt
 have hL2 := hF.at hL id
 have hA2 := hA.fr0 hF (by decide)
 have l0 := hL.cell 0
 clear hF1 hF2 hG1 hB1
 go_enter Tryz.func69, Tryz.ntmps69
 go_wp2_with fail
 generalize hW : World.alloc (World.alloc w _) _ = W at *
 have HW := Lib.hid hW
 clear hW
 have hst : NxL g m (w.heap.size + 1) (goD key op) (goD key op none xs) xs W 0 false W := ⟨0, 0, hB2, Fr.refl _ _ _, hG2, rfl, fun _ => ⟨rfl, rfl⟩⟩
 replace hl : xs.length ≤ n ∧ n ≤ xs.length := by omega
 clear l0 hB2
 go_loopg [8, 9, 10, 11, 12] n (fun gk v8 v9 v10 v11 v12 wr => ∃ (k : Nat) (ok : Bool), gk + k = n ∧ v8 = .bool ok ∧ v9 = .int .i64 k ∧ NxL g m (w.heap.size + 1) (goD key op) (goD key op none xs) xs W k ok wr)
 case atStart => exact ⟨0, false, by omega, rfl, rfl, hst⟩
 case round =>
  obtain ⟨k, ok, hk, rfl, rfl, p, q, hB, hFr, hG, hE, hz⟩ := hrel
  clear hst
  have hLr := hFr.at hL2 (by omega)
  by_cases hlt : k < n
  ·obtain ⟨x, hx⟩ : ∃ x, xs[k]? = some x := ⟨_, List.getElem?_eq_getElem (by omega)⟩
   have hAr := hA2.fr hFr (fun b hb' => by
    by_cases hno : g.no b
    ·exact .inl hno
    ·refine .inr (fun e => ?_)
     obtain ⟨b', off', h1, h2⟩ := hA.at (by omega)
     subst h1
     have hbb : b' = b := by simpa [Value.ownBlock] using hb'
     have h3 := h2 0 (by omega)
     rw [List.getElem?_eq_getElem (by rw [pV_len2]; omega)] at h3
     have := lt_of_cell h3
     omega) (by decide)
   obtain ⟨b, off, rfl, c0, c1⟩ := hAr.pair hx
   rw [drop_at hx] at hE
   obtain ⟨x1, x2⟩ := x
   have l0 := hLr.cell 0
   have l2 := hLr.cell 2
   have l3 := hLr.cell 3
   have t0 := hB.cell 0
   have t1 := hB.cell 1
   have f0 := hB.free 0
   have f1 := hB.free 1
   have hk0 : (0 : Int) ≤ (k : Int) := by omega
   have hki : (k : Int) < (n : Int) := by omega
   have HX := Lib.hid (And.intro hE (And.intro hz hx))
   clear hE hz hx hA2
   rcases Int.lt_trichotomy key x1 with h | h | h
   ·have h1 : (x1 < key) = False := eq_false (by omega)
    have h2 : (x1 = key) = False := eq_false (by omega)
    cases ok with
    | false =>
      go_wp2_with fail
      go_roundg (n - (k + 1))
      case measure => omega
      case rel =>
       exact ⟨k + 1, false, by omega, rfl, by simp, p, q, hB, hFr, hG, by rw [← HX.out.1]; simp [accO, goD, fitD, h, h1, h2], by intro h; first | exact HX.out.2.1 trivial | exact HX.out.2.1 h | cases h⟩
    | true =>
      go_wp2_with fail
      go_roundg (n - (k + 1))
      case measure => omega
      case rel =>
       exact ⟨k + 1, true, by omega, rfl, by simp, p, q, hB, hFr, hG, by rw [← HX.out.1]; simp [accO, goD, fitD, h, h1, h2], by intro h; first | exact HX.out.2.1 trivial | exact HX.out.2.1 h | cases h⟩
   ·obtain rfl : key = x1 := h
    cases op with
    | false =>
      cases ok with
      | false =>
        go_wp2_with fail
        go_roundg (n - (k + 1))
        case measure => omega
        case rel =>
         have hT := set2 (x := .int .i64 key) (y := .int .i64 x2) hG hB rfl
         exact ⟨k + 1, true, by omega, rfl, by simp, key, x2, hT.2.2, hFr.tr hT.1, hT.2.1, by rw [← HX.out.1]; simp [accO, goD, fitD, Int.lt_irrefl], by simp⟩
      | true =>
        go_wp2_with fail
        go_roundg (n - (k + 1))
        case measure => omega
        case rel =>
         have hT := set2 (x := .int .i64 key) (y := .int .i64 x2) hG hB rfl
         exact ⟨k + 1, true, by omega, rfl, by simp, key, x2, hT.2.2, hFr.tr hT.1, hT.2.1, by rw [← HX.out.1]; simp [accO, goD, fitD, Int.lt_irrefl], by simp⟩
    | true =>
      cases ok with
      | false =>
        go_wp2_with fail
        go_roundg (n - (k + 1))
        case measure => omega
        case rel =>
         exact ⟨k + 1, false, by omega, rfl, by simp, p, q, hB, hFr, hG, by rw [← HX.out.1]; simp [accO, goD, fitD, Int.lt_irrefl], by intro h; first | exact HX.out.2.1 trivial | exact HX.out.2.1 h | cases h⟩
      | true =>
        go_wp2_with fail
        go_roundg (n - (k + 1))
        case measure => omega
        case rel =>
         exact ⟨k + 1, true, by omega, rfl, by simp, p, q, hB, hFr, hG, by rw [← HX.out.1]; simp [accO, goD, fitD, Int.lt_irrefl], by intro h; first | exact HX.out.2.1 trivial | exact HX.out.2.1 h | cases h⟩
   ·have h1 : (key < x1) = False := eq_false (by omega)
    have h2 : (x1 = key) = False := eq_false (by omega)
    cases ok with
    | false =>
      go_wp2_with fail
      go_roundg (n - (k + 1))
      case measure => omega
      case rel =>
       have hT := set2 (x := .int .i64 x1) (y := .int .i64 x2) hG hB rfl
       exact ⟨k + 1, true, by omega, rfl, by simp, x1, x2, hT.2.2, hFr.tr hT.1, hT.2.1, by rw [← HX.out.1]; simp [accO, goD, fitD, h, h1, h2], by simp⟩
    | true =>
      go_wp2_with fail
      go_roundg (n - (k + 1))
      case measure => omega
      case rel =>
       have hT := set2 (x := .int .i64 x1) (y := .int .i64 x2) hG hB rfl
       exact ⟨k + 1, true, by omega, rfl, by simp, x1, x2, hT.2.2, hFr.tr hT.1, hT.2.1, by rw [← HX.out.1]; simp [accO, goD, fitD, h, h1, h2], by simp⟩
  ·have hdr : xs.drop k = [] := List.drop_eq_nil_iff.2 (by omega)
   rw [hdr] at hE
   have hE' : accO ok p q = goD key op none xs := hE
   have HX := Lib.hid (And.intro hE' hz)
   clear hE hE' hz hdr
   have l2 := hLr.cell 2
   have l3 := hLr.cell 3
   have z2 := hLr.free 2
   have z3 := hLr.free 3
   have t0 := hB.cell 0
   have t1 := hB.cell 1
   have hBr := hFr.at hB1' (by omega)
   have q0 := hBr.free 0
   have q1 := hBr.free 1
   have r0 := hBr.cell 0
   have r1 := hBr.cell 1
   have hL3 := hLr.setCell 2 (.int .i64 p)
   have hL4 := hL3.setCell 3 (.bool true)
   have g3 := hG.setCell hLr 2 (.int .i64 p)
   have g4 := g3.setCell hL3 3 (.bool true)
   have f3 := (Fr.setCell (fun c => c = lb) hLr 2 (.int .i64 p) rfl (fun _ => by decide)).tr (Fr.setCell _ hL3 3 (.bool true) rfl (fun e => absurd e (by decide)))
   have hB4 := f3.at hBr (by omega)
   have HY := Lib.hid (And.intro hL4 (And.intro g4 (And.intro f3 hB4)))
   clear hL3 hL4 g3 g4 f3 hB4
   cases ok with
   | true =>
     go_wp2_with fail
     obtain ⟨hL4, g4, f3, hB4⟩ := HY.out
     have hT := set2 (x := .int .i64 p) (y := .int .i64 q) g4 hB4 rfl
     refine bodyPost_ret (results_ct rfl _ rfl hT.2.2.1 Tryz.underlying49 size49) rfl ?_
     rw [← HX.out.1]
     refine ⟨rfl, hT.1.at hL4 (by omega), ?_, hT.2.1⟩
     have hFw : Fr g No w W := hF
     refine ((hFw.trans (T := fun c => c = lb) hFr (fun _ _ h => h.elim) (fun c hc h => by omega)).tr f3).trans hT.1 (fun _ _ h => h) (fun c hc h => by omega)
   | false =>
     obtain ⟨rfl, rfl⟩ := HX.out.2 rfl
     go_wp2_with fail
     obtain ⟨hL4, g4, f3, hB4⟩ := HY.out
     have hT := set2 (x := .int .i64 0) (y := .int .i64 0) g4 hB4 rfl
     refine bodyPost_ret (results_ct rfl _ rfl hT.2.2.1 Tryz.underlying49 size49) rfl ?_
     rw [← HX.out.1]
     refine ⟨rfl, hT.1.at hL4 (by omega), ?_, hT.2.1⟩
     have hFw : Fr g No w W := hF
     refine ((hFw.trans (T := fun c => c = lb) hFr (fun _ _ h => h.elim) (fun c hc h => by omega)).tr f3).trans hT.1 (fun _ _ h => h) (fun c hc h => by omega)
end Go.Proofs.YtdmobhndbibhoaaGreat
namespace Go.Proofs.YtdmobhndbibhoaaGreat
open Go.RowKit Larch
set_option maxRecDepth 100000
set_option linter.unusedVariables false
set_option linter.unusedSimpArgs false
attribute [local go_sem ↓] Go.wp_at_zero Go.wp_at_succ
set_option maxHeartbeats 4000000 in
theorem next_nil {g : Gt} {B m lb : Nat} {key : Int} {op : Bool} {mv lv : Value} {w : World} (hg : GOk g m w) (hL : Cl g w lb #[.int .i64 1, lv, .int .i64 key, .bool op] 158) (hS : Sl g w 2 lv 0 (pV [])) (hne : lv.ownBlock ≠ some lb) (hlB : ∀ b, lv.ownBlock = some b → b < B) :
 Calls Tryz.prog 69 #[.pointer (some ⟨lb, 0, none⟩), mv] w fun e w' => e = .returned (.tuple #[.agg (pO none), .bool false]) ∧ LpAt g B w' lb ⟨1, [], key, op⟩ ∧ Fr g No w w' ∧ GOk g m w' := by
 obtain ⟨a, c, rfl, hc⟩ := hS.slice
 have hF1 := Fr.alloc g No w (.cells #[.int .i64 0, .int .i64 0] 49) hg
 have hG1 := hg.alloc (.cells #[.int .i64 0, .int .i64 0] 49)
 have hB1 := At.new hg (.cells #[.int .i64 0, .int .i64 0] 49)
 have hL1 := hF1.at hL id
 have hS1 := hS.fr0 hF1 (by decide)
 have hLt := hL.lt
 have l0 := hL.cell 0
 have l1 := hL.cell 1
 have HX := Lib.hid (And.intro hL1 (And.intro hS1 (And.intro hF1 hG1)))
 clear hL1 hS1 hF1
 cases a with
 | none =>
   go_enter Tryz.func69, Tryz.ntmps69
   go_wp2_with fail
   obtain ⟨hL1, hS1, hF1, _⟩ := HX.out
   refine bodyPost_ret (results_ct rfl _ rfl hB1.1 Tryz.underlying49 size49) rfl ?_
   exact ⟨rfl, ⟨_, hL1, hS1, hne, hlB⟩, hF1, hG1⟩
 | some ad =>
   go_enter Tryz.func69, Tryz.ntmps69
   go_wp2_with fail
   obtain ⟨hL1, hS1, hF1, _⟩ := HX.out
   refine bodyPost_ret (results_ct rfl _ rfl hB1.1 Tryz.underlying49 size49) rfl ?_
   exact ⟨rfl, ⟨_, hL1, hS1, hne, hlB⟩, hF1, hG1⟩
theorem Sl.tail {g : Gt} {w : World} {b off n c : Nat} {p : Int × Int} {rest : List (Int × Int)} (h : Sl g w 2 (.slice (some ⟨b, off, none⟩) (n + 1) c) (n + 1) (pV (p :: rest))) :
 (n = 0 → Sl g w 2 (.slice (some ⟨b, off, none⟩) 0 0) 0 (pV rest)) ∧ Sl g w 2 (.slice (some ⟨b, off + 2, none⟩) n (c - 1)) n (pV rest) := by
 obtain ⟨h1, a, c', h2, h3, h4⟩ := h
 simp only [Value.slice.injEq] at h2
 obtain ⟨rfl, _, rfl⟩ := h2
 have hl : (pV rest).length = n * 2 := by
  have e : pV (p :: rest) = [.int .i64 p.1, .int .i64 p.2] ++ pV rest := rfl
  rw [e, List.length_append] at h1
  simp only [List.length_cons, List.length_nil] at h1
  omega
 obtain ⟨b', off', e1, e2, e3⟩ := h4 (Nat.succ_pos _)
 simp only [Option.some.injEq, Addr.mk.injEq, and_true] at e1
 obtain ⟨rfl, rfl⟩ := e1
 refine ⟨fun hn => ⟨by omega, _, _, rfl, Nat.le_refl _, fun h => by omega⟩, hl, _, _, rfl, by omega, fun hn => ⟨b, off + 2, rfl, e2, fun j hj => ?_⟩⟩
 rw [Nat.add_assoc, Nat.add_comm 2 j, e3 (j + 2) (by omega)]
 rfl
set_option maxHeartbeats 4000000 in
theorem next_cons {g : Gt} {B m lb : Nat} {key : Int} {op : Bool} {mv lv : Value} {p : Int × Int} {rest : List (Int × Int)} {w : World} (hg : GOk g m w) (hL : Cl g w lb #[.int .i64 1, lv, .int .i64 key, .bool op] 158) (hS : Sl g w 2 lv (rest.length + 1) (pV (p :: rest))) (hne : lv.ownBlock ≠ some lb) (hlB : ∀ b, lv.ownBlock = some b → b < B) (hn : rest.length ≤ 100000) :
 Calls Tryz.prog 69 #[.pointer (some ⟨lb, 0, none⟩), mv] w fun e w' => e = .returned (.tuple #[.agg (pO (some p)), .bool true]) ∧ LpAt g B w' lb ⟨1, rest, key, op⟩ ∧ Fr g (fun c => c = lb) w w' ∧ GOk g m w' := by
 obtain ⟨a, c, rfl, hc⟩ := hS.slice
 obtain ⟨b, off, rfl, c0, c1⟩ := hS.pair (k := 0) (p := p) rfl
 obtain ⟨p1, p2⟩ := p
 simp only [Nat.zero_mul, Nat.add_zero] at c0 c1
 obtain ⟨n, hn0⟩ : ∃ n, rest.length = n := ⟨_, rfl⟩
 rw [hn0] at hS hc hn hne hL
 have hF1 := Fr.alloc g No w (.cells #[.int .i64 0, .int .i64 0] 49) hg
 have hG1 := hg.alloc (.cells #[.int .i64 0, .int .i64 0] 49)
 have hB1 := At.new hg (.cells #[.int .i64 0, .int .i64 0] 49)
 have hF2 := Fr.alloc g No _ (.cells #[.int .i64 p1, .int .i64 p2] 49) hG1
 have hG2 := hG1.alloc (.cells #[.int .i64 p1, .int .i64 p2] 49)
 have hB2 := At.new hG1 (.cells #[.int .i64 p1, .int .i64 p2] 49)
 have hL2 := (hF1.tr hF2).at hL id
 have hS2 := hS.fr0 (hF1.tr hF2) (by decide)
 have hLt := hL.lt
 have l0 := hL.cell 0
 have l1 := hL.cell 1
 have hbLt := lt_of_cell c0
 have HN := Lib.hid hn0
 clear hn0
 have hTl := hS.tail
 have z1 := hL.free 1
 have hE : ∀ v : Value, ((((w.setCell ⟨lb, 1, none⟩ v).alloc (.cells #[.int .i64 p1, .int .i64 p2] 49)).alloc (.cells #[.int .i64 p1, .int .i64 p2] 49)).heap[w.heap.size]? = some (.cells #[.int .i64 p1, .int .i64 p2] 49 (0, 0))) ∧
  Cl g (((w.setCell ⟨lb, 1, none⟩ v).alloc (.cells #[.int .i64 p1, .int .i64 p2] 49)).alloc (.cells #[.int .i64 p1, .int .i64 p2] 49)) lb #[.int .i64 1, v, .int .i64 key, .bool op] 158 ∧
  Fr g (fun c => c = lb) w (((w.setCell ⟨lb, 1, none⟩ v).alloc (.cells #[.int .i64 p1, .int .i64 p2] 49)).alloc (.cells #[.int .i64 p1, .int .i64 p2] 49)) ∧ GOk g m (((w.setCell ⟨lb, 1, none⟩ v).alloc (.cells #[.int .i64 p1, .int .i64 p2] 49)).alloc (.cells #[.int .i64 p1, .int .i64 p2] 49)) := fun v => by
  have f1 := Fr.setCell (fun c => c = lb) hL 1 v rfl (fun e => absurd e (by decide))
  have g1 := hg.setCell hL 1 v
  have h1 := hL.setCell 1 v
  have hn := At.new g1 (.cells #[.int .i64 p1, .int .i64 p2] 49)
  have f2 := Fr.alloc g No _ (.cells #[.int .i64 p1, .int .i64 p2] 49) g1
  have g2 := g1.alloc (.cells #[.int .i64 p1, .int .i64 p2] 49)
  have f3 := Fr.alloc g No _ (.cells #[.int .i64 p1, .int .i64 p2] 49) g2
  have hs : (w.setCell ⟨lb, 1, none⟩ v).heap.size = w.heap.size := by simp
  rw [hs] at hn
  exact ⟨(f3.at hn id).1, f3.at (f2.at h1 id) id, f1.tr ((f2.tr f3).mono (fun _ _ h => h.elim)), g2.alloc _⟩
 clear hS hF1 hG1 hB1 hF2 hG2 hB2 hL2 hS2
 have HE := Lib.hid (And.intro hE hTl)
 clear hE hTl
 by_cases hc1 : c = 1
 ·subst hc1
  obtain rfl : n = 0 := by omega
  go_enter Tryz.func69, Tryz.ntmps69
  go_wp2_with fail
  obtain ⟨hE, hTl⟩ := HE.out
  refine bodyPost_ret (results_ct rfl _ rfl (hE (.slice (some ⟨b, off, none⟩) 0 0)).1 Tryz.underlying49 size49) rfl ?_
  exact ⟨rfl, ⟨(.slice (some ⟨b, off, none⟩) 0 0), (hE (.slice (some ⟨b, off, none⟩) 0 0)).2.1, by rw [HN.out]; exact (hTl.1 trivial).fr (hE (.slice (some ⟨b, off, none⟩) 0 0)).2.2.1 (fun b' hb => .inr (fun e => hne (by rw [← e, ← hb]; rfl))) (by decide), hne, fun b' hb => hlB b' hb⟩, (hE (.slice (some ⟨b, off, none⟩) 0 0)).2.2.1, (hE (.slice (some ⟨b, off, none⟩) 0 0)).2.2.2⟩
 ·have hc2 : ¬ (c : Int) = 1 := by omega
  go_enter Tryz.func69, Tryz.ntmps69
  go_wp2_with fail
  obtain ⟨hE, hTl⟩ := HE.out
  refine bodyPost_ret (results_ct rfl _ rfl (hE (.slice (some ⟨b, off + 2, none⟩) n (c - 1))).1 Tryz.underlying49 size49) rfl ?_
  exact ⟨rfl, ⟨(.slice (some ⟨b, off + 2, none⟩) n (c - 1)), (hE (.slice (some ⟨b, off + 2, none⟩) n (c - 1))).2.1, by rw [HN.out]; exact (hTl.2).fr (hE (.slice (some ⟨b, off + 2, none⟩) n (c - 1))).2.2.1 (fun b' hb => .inr (fun e => hne (by rw [← e, ← hb]; rfl))) (by decide), hne, fun b' hb => hlB b' hb⟩, (hE (.slice (some ⟨b, off + 2, none⟩) n (c - 1))).2.2.1, (hE (.slice (some ⟨b, off + 2, none⟩) n (c - 1))).2.2.2⟩
theorem next6_any {g : Gt} {B m n lb : Nat} {l : Lp} {mv : Value} {xs : List (Int × Int)} {w : World} (hg : GOk g m w) (hL : LpAt g B w lb l) (hw : l.way = 1 ∨ l.way = 2 ∨ l.way = 3) (hA : Sl g w 2 mv n (pV xs)) (hn : n ≤ 100000) (hb : mv.ownBlock ≠ some lb) (hll : l.list.length ≤ 100000) :
 Calls Tryz.prog 69 #[.pointer (some ⟨lb, 0, none⟩), mv] w (NextQ g B m lb l xs w) := by
 obtain ⟨way, list, key, op⟩ := l
 obtain ⟨lv, hC, hS, hne, hlB⟩ := hL
 have hSf : ∀ w', Fr g (fun c => c = lb) w w' → Sl g w' 2 lv list.length (pV list) := fun w' f => hS.fr f (fun b' h => .inr (fun e => hne (by rw [h, e]))) (by decide)
 simp only at hw hC hS hll
 rcases hw with rfl | rfl | rfl
 ·cases list with
  | nil =>
    refine (next_nil hg hC hS hne hlB).mono ?_
    rintro e w' ⟨h1, h2, h3, h4⟩
    exact ⟨h1, h2, h3.mono (fun _ _ h => h.elim), h4⟩
  | cons p rest => exact (next_cons hg hC hS hne hlB (by simp only [List.length_cons] at hll; omega)).mono fun e w' h => h
 ·refine (next_up hg hC (.inr trivial) hA hn hb).mono ?_
  rintro e w' ⟨h1, h2, h3, h4⟩
  rw [goU_none] at h1 h2
  exact ⟨h1, ⟨lv, h2, hSf _ h3, hne, hlB⟩, h3, h4⟩
 ·refine (next_down hg hC (.inr trivial) hA hn hb).mono ?_
  rintro e w' ⟨h1, h2, h3, h4⟩
  rw [goD_none] at h1 h2
  exact ⟨h1, ⟨lv, h2, hSf _ h3, hne, hlB⟩, h3, h4⟩
end Go.Proofs.YtdmobhndbibhoaaGreat
