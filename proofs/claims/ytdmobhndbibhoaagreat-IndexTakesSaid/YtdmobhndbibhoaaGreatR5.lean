/- larchref24.begin, next. -/
import Derived.Test.YtdmobhndbibhoaaGreatT2
namespace Go.Proofs.YtdmobhndbibhoaaGreat
open Go.RowKit Larch
set_option maxRecDepth 100000
set_option linter.unusedVariables false
set_option linter.unusedSimpArgs false
attribute [local go_sem ↓] Go.wp_at_zero Go.wp_at_succ
def LpAt (g : Gt) (B : Nat) (w : World) (lb : Nat) (l : Lp) : Prop :=
 ∃ lv, Cl g w lb #[.int .i64 l.way, lv, .int .i64 l.key, .bool l.op] 158 ∧ Sl g w 2 lv l.list.length (pV l.list) ∧ lv.ownBlock ≠ some lb ∧ ∀ b, lv.ownBlock = some b → b < B
theorem wpC {g : Gt} {m n cx eb : Nat} {ad : Option Addr} {W : World} {xs : List (Int × Int)} {ops : Array Oper} {rest : List Oper} {o : Oper} {a : Act} {Q : Exit → Act → World → Prop} (hgd : o.guard = none) (s x : Operand)
 (ho : o.op = .call { callee := .builtin .append, args := #[s, x], argTypes := #[22, 22] })
 (hG : GOk g m W) (hE : Cl g W eb #[] 49) (hA : Sl g W 2 (.slice ad n cx) n (pV xs)) (hn : n ≤ 1000000000) (hn0 : 0 < n) (hs : a.eval s = .slice (some ⟨eb, 0, none⟩) 0 0) (hx : a.eval x = .slice ad n cx)
 (h : ∀ b cap w', Fr g (fun c => c = eb) W w' → GOk g m w' → Row g w' 49 2 (.slice (some ⟨b, 0, none⟩) n cap) n (pV xs) → (b = eb ∨ W.heap.size ≤ b) →
   wpList Tryz.prog ops Q rest (a.put o.dst (.slice (some ⟨b, 0, none⟩) n cap)) w') :
 wpList Tryz.prog ops Q (o :: rest) a W := by
 obtain ⟨b, off, rfl, hc⟩ := hA.at hn0
 refine wpList_append_fr hgd s x 22 ho 49 (.agg #[.int .i64 0, .int .i64 0]) 2 16 Tryz.underlying22 Tryz.info49 rfl (by decide) (by decide) hG (.slice (some ⟨eb, 0, none⟩) 0 0) 0 [] hs ⟨by simp, .inr ⟨eb, 0, #[], rfl, Nat.le_refl _, by decide, hE, rfl, rfl⟩⟩ ⟨b, off, none⟩ n cx (pV xs) hx hA.1
  (fun j u hu => ?_) ?_ (by simp only [maxLen]; omega) (by omega) hn0 ?_
 ·have hj : j < n * 2 := by have := (List.getElem?_eq_some_iff.1 hu).1; have := hA.1; omega
  have := hc j hj
  rw [hu] at this
  unfold Addr.add
  split
  ·rename_i h0; subst h0; simpa using this
  ·exact this
 ·intro u hu
  simp only [pV, List.mem_flatMap] at hu
  obtain ⟨p, _, hp⟩ := hu
  simp only [List.mem_cons, List.not_mem_nil, or_false] at hp
  rcases hp with rfl | rfl <;> rfl
 ·intro v' w' happ
  obtain ⟨hR, hf, hG', b', cap, rfl, hb⟩ := happ
  rw [Nat.zero_add, List.nil_append] at hR
  rw [Nat.zero_add]
  refine h b' cap w' (hf.mono (fun c _ hc => by simpa [Value.ownBlock] using hc.symm)) hG' hR ?_
  rcases hb with h | h
  ·left; simpa [Value.ownBlock] using h.symm
  ·exact .inr h
theorem run_append_zero {P : Program} (w : World) (t ty e : TypeId) (i : TypeInfo) (ht : P.underlying t = some (.slice e)) (hi : P.info? e = some i) (eb cx : Nat) (ad : Option Addr) :
 (Builtin.append_ #[t, t] ty #[.slice (some ⟨eb, 0, none⟩) 0 0, .slice ad 0 cx]).run P w = .ok (.slice (some ⟨eb, 0, none⟩) 0 0) w := by
 cases ad <;> simp [Builtin.append_, run_underlying ht, sizeOf, typeInfo, hi, Builtin.lenOf, Builtin.firstCells, storeCells, loadCells, loadCellsFrom]
theorem wpC0 {cx eb : Nat} {ad : Option Addr} {W : World} {ops : Array Oper} {rest : List Oper} {o : Oper} {a : Act} {Q : Exit → Act → World → Prop} (hgd : o.guard = none) (s x : Operand)
 (ho : o.op = .call { callee := .builtin .append, args := #[s, x], argTypes := #[22, 22] })
 (hs : a.eval s = .slice (some ⟨eb, 0, none⟩) 0 0) (hx : a.eval x = .slice ad 0 cx)
 (h : wpList Tryz.prog ops Q rest (a.put o.dst (.slice (some ⟨eb, 0, none⟩) 0 0)) W) :
 wpList Tryz.prog ops Q (o :: rest) a W := by
 obtain ⟨i, hi, _⟩ := info_parts Tryz.info49
 refine wpList_plain hgd fun K hK' => ?_
 have hrun := run_append_zero (P := Tryz.prog) W 22 o.type 49 i Tryz.underlying22 hi eb cx ad
 unfold Oper.wp
 simp [execOp, ho, resolve, invoke, builtin, hs, hx, hrun, Result.andThen]
 exact hK' _ _ h
set_option maxHeartbeats 2000000 in
theorem begin_any {g : Gt} {m n : Nat} {mv : Value} {way key : Int} {xs : List (Int × Int)} {w : World} (hg : GOk g m w) (hA : Sl g w 2 mv n (pV xs)) (hn : n ≤ 100000) :
 Calls Tryz.prog 68 #[mv, .int .i64 way, .int .i64 key] w fun e w' => ∃ lb, e = .returned (.pointer (some ⟨lb, 0, none⟩)) ∧ LpAt g w'.heap.size w' lb ⟨way, xs, key, false⟩ ∧ w.heap.size ≤ lb ∧ Fr g No w w' ∧ GOk g m w' := by
 obtain ⟨a, c, rfl, hc⟩ := hA.slice
 have hl := hA.len
 have hF1 := Fr.alloc g No w (.cells #[] 49) hg
 have hG1 := hg.alloc (.cells #[] 49)
 have hE1 := At.new hg (.cells #[] 49)
 have hA1 := hA.fr0 hF1 (by decide)
 by_cases hn0 : 0 < n
 ·obtain ⟨b0, off0, rfl, hcl⟩ := hA.at hn0
  clear hcl
  have HN := Lib.hid hn0
  clear hn0
  go_enter Tryz.func68, Tryz.ntmps68
  go_wp2_with (at_builtin; refine wpC rfl _ _ rfl hG1 hE1 hA1 (by omega) HN.out rfl rfl ?_; intro b1 cap1 w1 A1 A2 A3 A4)
  go_ret
  have hF2 : Fr g No w w1 := hF1.trans A1 (fun _ _ h => h) (fun c hc h => by omega)
  have hR := A3.fr (Fr.alloc g No w1 (.cells #[.int .i64 way, .slice (some ⟨b1, 0, none⟩) n cap1, .int .i64 key, .bool false] 158) A2) (fun _ _ h => h)
  have hlt := A3.lt (b := b1) rfl
  refine ⟨_, rfl, ⟨_, At.new A2 _, ?_, ?_, ?_⟩, hF2.size, hF2.tr (Fr.alloc g No _ _ A2), A2.alloc _⟩
  ·rw [hl]; exact hR.sl
  ·simp only [Value.ownBlock, ne_eq, Option.some.injEq]; omega
  ·intro b hb; exact hR.lt hb
 ·obtain rfl : n = 0 := by omega
  have h0 := List.eq_nil_of_length_eq_zero hl
  subst h0
  clear hA hA1 hl hn hn0
  go_enter Tryz.func68, Tryz.ntmps68
  go_wp2_with (at_builtin; refine wpC0 rfl _ _ rfl rfl rfl ?_)
  go_ret
  have hR : Row g (w.alloc (.cells #[] 49)) 49 2 (.slice (some ⟨w.heap.size, 0, none⟩) 0 0) 0 (pV []) := ⟨rfl, .inr ⟨_, 0, #[], rfl, Nat.le_refl _, by decide, hE1, rfl, rfl⟩⟩
  have hR2 := hR.fr (Fr.alloc g No _ (.cells #[.int .i64 way, .slice (some ⟨w.heap.size, 0, none⟩) 0 0, .int .i64 key, .bool false] 158) hG1) (fun _ _ h => h)
  have hN := At.new hG1 (.cells #[.int .i64 way, .slice (some ⟨w.heap.size, 0, none⟩) 0 0, .int .i64 key, .bool false] 158)
  rw [World.size_alloc] at hN
  refine ⟨_, rfl, ⟨_, hN, hR2.sl, ?_, fun b hb => hR2.lt hb⟩, by simp, hF1.tr (Fr.alloc g No _ _ hG1), hG1.alloc _⟩
  simp [Value.ownBlock]
end Go.Proofs.YtdmobhndbibhoaaGreat
namespace Go.Proofs.YtdmobhndbibhoaaGreat
open Go.RowKit Larch
set_option maxRecDepth 100000
set_option linter.unusedVariables false
set_option linter.unusedSimpArgs false
attribute [local go_sem ↓] Go.wp_at_zero Go.wp_at_succ
def NextQ (g : Gt) (B m lb : Nat) (l : Lp) (xs : List (Int × Int)) (w : World) (e : Ending) (w' : World) : Prop :=
 e = .returned (.tuple #[.agg (pO (lpO l xs)), .bool (lpO l xs).isSome]) ∧ LpAt g B w' lb (lpN l xs) ∧ Fr g (fun c => c = lb) w w' ∧ GOk g m w'
def accO (ok : Bool) (p q : Int) : Option (Int × Int) := if ok then some (p, q) else none
def NxL (g : Gt) (m tb : Nat) (go : Option (Int × Int) → List (Int × Int) → Option (Int × Int)) (E : Option (Int × Int)) (xs : List (Int × Int)) (W : World) (k : Nat) (ok : Bool) (wr : World) : Prop :=
 ∃ p q, Cl g wr tb #[.int .i64 p, .int .i64 q] 49 ∧ Fr g (fun c => c = tb) W wr ∧ GOk g m wr ∧ go (accO ok p q) (xs.drop k) = E ∧ (ok = false → p = 0 ∧ q = 0)
set_option maxHeartbeats 16000000 in
theorem next_up {g : Gt} {m n lb : Nat} {key : Int} {op : Bool} {mv lv : Value} {xs : List (Int × Int)} {w : World} (hg : GOk g m w) (hL : Cl g w lb #[.int .i64 2, lv, .int .i64 key, .bool op] 158) (hS : Sl g w 2 lv 0 [] ∨ True) (hA : Sl g w 2 mv n (pV xs)) (hn : n ≤ 100000) (hb : mv.ownBlock ≠ some lb) :
 Calls Tryz.prog 69 #[.pointer (some ⟨lb, 0, none⟩), mv] w fun e w' => e = .returned (.tuple #[.agg (pO (goU key op none xs)), .bool (goU key op none xs).isSome]) ∧ Cl g w' lb #[.int .i64 2, lv, .int .i64 ((goU key op none xs).getD (0, 0)).1, .bool true] 158 ∧ Fr g (fun c => c = lb) w w' ∧ GOk g m w' := by
 obtain ⟨a, c, rfl, hc⟩ := hA.slice
 have hl := hA.len
 have hF1 := Fr.alloc g No w (.cells #[.int .i64 0, .int .i64 0] 49) hg
 have hG1 := hg.alloc (.cells #[.int .i64 0, .int .i64 0] 49)
 have hB1 := At.new hg (.cells #[.int .i64 0, .int .i64 0] 49)
 have hF2 := Fr.alloc g No _ (.cells #[.int .i64 0, .int .i64 0] 49) hG1
 have hG2 := hG1.alloc (.cells #[.int .i64 0, .int .i64 0] 49)
 have hB2 := At.new hG1 (.cells #[.int .i64 0, .int .i64 0] 49)
 have hF := hF1.tr hF2
 have hB1' := hF2.at hB1 id
 simp only [World.size_alloc] at hB2
 have hLt := hL.lt
 have hL2 := hF.at hL id
 have hA2 := hA.fr0 hF (by decide)
 have l0 := hL.cell 0
 clear hF1 hF2 hG1 hB1
 go_enter Tryz.func69, Tryz.ntmps69
 go_wp2_with fail
 generalize hW : World.alloc (World.alloc w _) _ = W at *
 have HW := Lib.hid hW
 clear hW
 have hst : NxL g m (w.heap.size + 1) (goU key op) (goU key op none xs) xs W 0 false W := ⟨0, 0, hB2, Fr.refl _ _ _, hG2, rfl, fun _ => ⟨rfl, rfl⟩⟩
 replace hl : xs.length ≤ n ∧ n ≤ xs.length := by omega
 clear l0 hB2
 go_loopg [8, 9, 10, 11, 12] n (fun gk v8 v9 v10 v11 v12 wr => ∃ (k : Nat) (ok : Bool), gk + k = n ∧ v8 = .bool ok ∧ v9 = .int .i64 k ∧ NxL g m (w.heap.size + 1) (goU key op) (goU key op none xs) xs W k ok wr)
 case atStart => exact ⟨0, false, by omega, rfl, rfl, hst⟩
 case round =>
  obtain ⟨k, ok, hk, rfl, rfl, p, q, hB, hFr, hG, hE, hz⟩ := hrel
  clear hst
  have hLr := hFr.at hL2 (by omega)
  by_cases hlt : k < n
  ·obtain ⟨x, hx⟩ : ∃ x, xs[k]? = some x := ⟨_, List.getElem?_eq_getElem (by omega)⟩
   have hAr := hA2.fr hFr (fun b hb' => by
    by_cases hno : g.no b
    ·exact .inl hno
    ·refine .inr (fun e => ?_)
     obtain ⟨b', off', h1, h2⟩ := hA.at (by omega)
     subst h1
     have hbb : b' = b := by simpa [Value.ownBlock] using hb'
     have h3 := h2 0 (by omega)
     rw [List.getElem?_eq_getElem (by rw [pV_len2]; omega)] at h3
     have := lt_of_cell h3
     omega) (by decide)
   obtain ⟨b, off, rfl, c0, c1⟩ := hAr.pair hx
   rw [drop_at hx] at hE
   obtain ⟨x1, x2⟩ := x
   have l0 := hLr.cell 0
   have l2 := hLr.cell 2
   have l3 := hLr.cell 3
   have t0 := hB.cell 0
   have t1 := hB.cell 1
   have f0 := hB.free 0
   have f1 := hB.free 1
   have hk0 : (0 : Int) ≤ (k : Int) := by omega
   have hki : (k : Int) < (n : Int) := by omega
   have HX := Lib.hid (And.intro hE (And.intro hz hx))
   clear hE hz hx hA2
   rcases Int.lt_trichotomy key x1 with h | h | h
   ·have h1 : (x1 < key) = False := eq_false (by omega)
    have h2 : (x1 = key) = False := eq_false (by omega)
    cases ok with
    | false =>
      go_wp2_with fail
      go_roundg (n - (k + 1))
      case measure => omega
      case rel =>
       have hT := set2 (x := .int .i64 x1) (y := .int .i64 x2) hG hB rfl
       exact ⟨k + 1, true, by omega, rfl, by simp, x1, x2, hT.2.2, hFr.tr hT.1, hT.2.1, by rw [← HX.out.1]; simp [accO, goU, fitU, h, h1, h2], by simp⟩
    | true =>
      go_wp2_with fail
      go_roundg (n - (k + 1))
      case measure => omega
      case rel =>
       exact ⟨k + 1, true, by omega, rfl, by simp, p, q, hB, hFr, hG, by rw [← HX.out.1]; simp [accO, goU, fitU, h, h1, h2], by intro h; first | exact HX.out.2.1 trivial | exact HX.out.2.1 h | cases h⟩
   ·obtain rfl : key = x1 := h
    cases op with
    | false =>
      cases ok with
      | false =>
        go_wp2_with fail
        go_roundg (n - (k + 1))
        case measure => omega
        case rel =>
         have hT := set2 (x := .int .i64 key) (y := .int .i64 x2) hG hB rfl
         exact ⟨k + 1, true, by omega, rfl, by simp, key, x2, hT.2.2, hFr.tr hT.1, hT.2.1, by rw [← HX.out.1]; simp [accO, goU, fitU, Int.lt_irrefl], by simp⟩
      | true =>
        go_wp2_with fail
        go_roundg (n - (k + 1))
        case measure => omega
        case rel =>
         exact ⟨k + 1, true, by omega, rfl, by simp, p, q, hB, hFr, hG, by rw [← HX.out.1]; simp [accO, goU, fitU, Int.lt_irrefl], by intro h; first | exact HX.out.2.1 trivial | exact HX.out.2.1 h | cases h⟩
    | true =>
      cases ok with
      | false =>
        go_wp2_with fail
        go_roundg (n - (k + 1))
        case measure => omega
        case rel =>
         exact ⟨k + 1, false, by omega, rfl, by simp, p, q, hB, hFr, hG, by rw [← HX.out.1]; simp [accO, goU, fitU, Int.lt_irrefl], by intro h; first | exact HX.out.2.1 trivial | exact HX.out.2.1 h | cases h⟩
      | true =>
        go_wp2_with fail
        go_roundg (n - (k + 1))
        case measure => omega
        case rel =>
         exact ⟨k + 1, true, by omega, rfl, by simp, p, q, hB, hFr, hG, by rw [← HX.out.1]; simp [accO, goU, fitU, Int.lt_irrefl], by intro h; first | exact HX.out.2.1 trivial | exact HX.out.2.1 h | cases h⟩
   ·have h1 : (key < x1) = False := eq_false (by omega)
    have h2 : (x1 = key) = False := eq_false (by omega)
    cases ok with
    | false =>
      go_wp2_with fail
      go_roundg (n - (k + 1))
      case measure => omega
      case rel =>
       exact ⟨k + 1, false, by omega, rfl, by simp, p, q, hB, hFr, hG, by rw [← HX.out.1]; simp [accO, goU, fitU, h, h1, h2], by intro h; first | exact HX.out.2.1 trivial | exact HX.out.2.1 h | cases h⟩
    | true =>
      go_wp2_with fail
      go_roundg (n - (k + 1))
      case measure => omega
      case rel =>
       exact ⟨k + 1, true, by omega, rfl, by simp, p, q, hB, hFr, hG, by rw [← HX.out.1]; simp [accO, goU, fitU, h, h1, h2], by intro h; first | exact HX.out.2.1 trivial | exact HX.out.2.1 h | cases h⟩
  ·have hdr : xs.drop k = [] := List.drop_eq_nil_iff.2 (by omega)
   rw [hdr] at hE
   have hE' : accO ok p q = goU key op none xs := hE
   have HX := Lib.hid (And.intro hE' hz)
   clear hE hE' hz hdr
   have l2 := hLr.cell 2
   have l3 := hLr.cell 3
   have z2 := hLr.free 2
   have z3 := hLr.free 3
   have t0 := hB.cell 0
   have t1 := hB.cell 1
   have hBr := hFr.at hB1' (by omega)
   have q0 := hBr.free 0
   have q1 := hBr.free 1
   have r0 := hBr.cell 0
   have r1 := hBr.cell 1
   have hL3 := hLr.setCell 2 (.int .i64 p)
   have hL4 := hL3.setCell 3 (.bool true)
   have g3 := hG.setCell hLr 2 (.int .i64 p)
   have g4 := g3.setCell hL3 3 (.bool true)
   have f3 := (Fr.setCell (fun c => c = lb) hLr 2 (.int .i64 p) rfl (fun _ => by decide)).tr (Fr.setCell _ hL3 3 (.bool true) rfl (fun e => absurd e (by decide)))
   have hB4 := f3.at hBr (by omega)
   have HY := Lib.hid (And.intro hL4 (And.intro g4 (And.intro f3 hB4)))
   clear hL3 hL4 g3 g4 f3 hB4
   cases ok with
   | true =>
     go_wp2_with fail
     obtain ⟨hL4, g4, f3, hB4⟩ := HY.out
     have hT := set2 (x := .int .i64 p) (y := .int .i64 q) g4 hB4 rfl
     refine bodyPost_ret (results_ct rfl _ rfl hT.2.2.1 Tryz.underlying49 size49) rfl ?_
     rw [← HX.out.1]
     refine ⟨rfl, hT.1.at hL4 (by omega), ?_, hT.2.1⟩
     have hFw : Fr g No w W := hF
     refine ((hFw.trans (T := fun c => c = lb) hFr (fun _ _ h => h.elim) (fun c hc h => by omega)).tr f3).trans hT.1 (fun _ _ h => h) (fun c hc h => by omega)
   | false =>
     obtain ⟨rfl, rfl⟩ := HX.out.2 rfl
     go_wp2_with fail
     obtain ⟨hL4, g4, f3, hB4⟩ := HY.out
     have hT := set2 (x := .int .i64 0) (y := .int .i64 0) g4 hB4 rfl
     refine bodyPost_ret (results_ct rfl _ rfl hT.2.2.1 Tryz.underlying49 size49) rfl ?_
     rw [← HX.out.1]
     refine ⟨rfl, hT.1.at hL4 (by omega), ?_, hT.2.1⟩
     have hFw : Fr g No w W := hF
     refine ((hFw.trans (T := fun c => c = lb) hFr (fun _ _ h => h.elim) (fun c hc h => by omega)).tr f3).trans hT.1 (fun _ _ h => h) (fun c hc h => by omega)
end Go.Proofs.YtdmobhndbibhoaaGreat
