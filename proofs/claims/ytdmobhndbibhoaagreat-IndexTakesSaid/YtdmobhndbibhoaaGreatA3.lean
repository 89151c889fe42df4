/- Appending to a slice of the call's own, said with the frame; a pass through the gate. -/
import Derived.Test.YtdmobhndbibhoaaGreatA1
namespace Go.Proofs.YtdmobhndbibhoaaGreat
set_option linter.unusedVariables false
set_option linter.unusedSimpArgs false
open Go.RowKit
set_option maxRecDepth 100000
section raw
variable {P : Program} (w : World)
theorem append_raw (t ty e : TypeId) (i : TypeInfo) (z : Value) (size bytes : Nat) (ht : P.underlying t = some (.slice e)) (hi : P.info? e = some i) (hz : i.zero = some z)
 (hsize : i.size = size) (hby : i.bytes = bytes) (hzs : z.cells.size = size) (_hsz : 0 < size)
 (v : Value) (n : Nat) (xs : List Value) (hown : w.ownsRow 0 e size v n xs)
 (a : Addr) (m c : Nat) (news : List Value) (hl : news.length = m * size) (hnews : ∀ j u, news[j]? = some u → w.cell? (a.add j) = some u) (h1 : ∀ u ∈ news, u.oneCell' = true)
 (h63 : n + m ≤ maxLen) (hbytes : (n + m) * bytes ≤ 140737488355328) (hm : 0 < m) :
 ∃ v' w' b, (Builtin.append_ #[t, t] ty #[v, .slice (some a) m c]).run P w = .ok v' w' ∧ w'.ownsRow 0 e size v' (n + m) (xs ++ news) ∧ v'.ownBlock = some b ∧
   w'.os = w.os ∧ w'.tape = w.tape ∧ w'.output = w.output ∧ w.heap.size ≤ w'.heap.size ∧
   (b = w.heap.size ∧ (∀ k, k < w.heap.size → w'.heap[k]? = w.heap[k]?) ∨ v.ownBlock = some b ∧ ∀ k, k ≠ b → w'.heap[k]? = w.heap[k]?) := by
 subst hsize
 subst hby
 have hsmall : n + m ≤ 9223372036854775807 := by simp only [maxLen] at h63; omega
 have hlen : (xs ++ news).length = (n + m) * i.size := by rw [List.length_append, hown.1, hl, Nat.add_mul]
 have grown : ∀ (old : Nat), old < n + m →
  (w.drew.alloc (.cells (xs.toArray ++ news.toArray ++ Builtin.zeroCells z.cells (grownCap w (n + m) old e - (n + m))) e)).ownsRow 0 e i.size
    (.slice (some ⟨w.heap.size, 0, none⟩) (n + m) (grownCap w (n + m) old e)) (n + m) (xs ++ news) := by
  intro old ho
  have hge := grownCap_ge w (n + m) old e
  have hcm : grownCap w (n + m) old e ≤ maxLen := grownCap_le_maxLen w (n + m) old e h63
  refine ⟨hlen, .inr ⟨w.heap.size, _, _, rfl, Nat.zero_le _, heap_alloc_new w.drew _, hge, hcm, ?_, ?_⟩⟩
  ·simp only [Array.size_append, List.size_toArray, size_zeroCells, hzs, hown.1, hl, ← Nat.add_mul]
   congr 1
   omega
  ·simp only [Array.toList_append, List.append_assoc]
   rw [← List.append_assoc, ← hlen]
   exact List.take_left
 rcases hown.2 with ⟨rfl, rfl⟩ | ⟨g, cap, cur, rfl, hbg, hg, hnc, hcm, hcs, htake⟩
 ·have hx : xs = [] := List.eq_nil_of_length_eq_zero (by simpa using hown.1)
  subst hx
  have hr := run_append_nil (P := P) w t ty e i z ht hi hz a m c news hl hnews (by omega) (by omega) (by have hb := hbytes; simp only [Nat.zero_add] at hb; omega)
  have hgr := grown 0 (by omega)
  simp only [Nat.zero_add, List.nil_append, Array.empty_append] at hgr ⊢
  exact ⟨_, _, _, hr, hgr, rfl, rfl, rfl, rfl, by simp, .inl ⟨rfl, fun k hk => Below.heap_alloc w.drew _ k hk⟩⟩
 ·by_cases hroom : n + m ≤ cap
  ·have hfit : n * i.size + news.length ≤ cur.size := by rw [hl, hcs, ← Nat.add_mul]; exact Nat.mul_le_mul_right _ hroom
   have hr := run_append_room (P := P) w t ty e i ht hi g n cap cur hg a m c news hl hnews h1 hroom hfit
   refine ⟨_, _, _, hr, ⟨hlen, .inr ⟨g, cap, _, rfl, hbg, setRow_heap w g cur _ e _ hg, hroom, hcm, ?_, ?_⟩⟩, rfl, rfl, rfl, rfl, by simp, .inr ⟨rfl, fun k hk => setRow_other w g k _ hk⟩⟩
   ·simp only [List.size_toArray, List.length_append, List.length_take, List.length_drop, Array.length_toList]
    omega
   ·rw [htake, ← hlen]
    exact List.take_left
  ·have holds : ∀ j u, xs[j]? = some u → w.cell? ((⟨g, 0, none⟩ : Addr).add j) = some u := hown.cells (g := g) rfl
   have hr := run_append_grow (P := P) w t ty e i z ht hi hz ⟨g, 0, none⟩ n cap xs hown.1 holds a m c news hl hnews (by omega) (by omega) (growslice_fits (by omega) hbytes)
   have hgr := grown cap (by omega)
   exact ⟨_, _, _, hr, hgr, rfl, rfl, rfl, rfl, by simp, .inl ⟨rfl, fun k hk => Below.heap_alloc w.drew _ k hk⟩⟩
theorem wpList_append_raw {ops : Array Oper} {rest : List Oper} {o : Oper} {a : Act} {Q : Exit → Act → World → Prop} (hgd : o.guard = none) (s x : Operand) (t : TypeId)
 (ho : o.op = .call { callee := .builtin .append, args := #[s, x], argTypes := #[t, t] })
 (e : TypeId) (i : TypeInfo) (z : Value) (size bytes : Nat) (ht : P.underlying t = some (.slice e)) (hi : P.info? e = some i) (hz : i.zero = some z)
 (hsize : i.size = size) (hby : i.bytes = bytes) (hzs : z.cells.size = size) (hsz : 0 < size)
 (v : Value) (n : Nat) (xs : List Value) (hs : a.eval s = v) (hown : w.ownsRow 0 e size v n xs)
 (ad : Addr) (m c : Nat) (news : List Value) (hx : a.eval x = .slice (some ad) m c) (hl : news.length = m * size) (hnews : ∀ j u, news[j]? = some u → w.cell? (ad.add j) = some u) (h1 : ∀ u ∈ news, u.oneCell' = true)
 (h63 : n + m ≤ maxLen) (hbytes : (n + m) * bytes ≤ 140737488355328) (hm : 0 < m)
 (h : ∀ v' w' b, w'.ownsRow 0 e size v' (n + m) (xs ++ news) → v'.ownBlock = some b → w'.os = w.os → w'.tape = w.tape → w'.output = w.output → w.heap.size ≤ w'.heap.size →
   (b = w.heap.size ∧ (∀ k, k < w.heap.size → w'.heap[k]? = w.heap[k]?) ∨ v.ownBlock = some b ∧ ∀ k, k ≠ b → w'.heap[k]? = w.heap[k]?) → wpList P ops Q rest (a.put o.dst v') w') : wpList P ops Q (o :: rest) a w := by
 refine wpList_plain hgd fun K hK => ?_
 obtain ⟨v', w', b, hr, h2, h3, h4, h5, h6, h7, h8⟩ := append_raw (P := P) w t o.type e i z size bytes ht hi hz hsize hby hzs hsz v n xs hown ad m c news hl hnews h1 h63 hbytes hm
 unfold Oper.wp execOp
 simp only [ho, resolve, invoke, builtin, Sem.run_bind, Sem.run_pure, Result.andThen_ok, List.map_toArray, List.map_cons, List.map_nil, hs, hx, hr]
 exact hK _ _ (h v' w' b h2 h3 h4 h5 h6 h7 h8)
end raw
theorem tape_end {no : Nat → Prop} {gb n m b : Nat} {v v' : Value} {xs ys : List Value} {w w1 : World} {o : Obj} (hv : w.heap[gb]? = some (.cells #[v] 109 (0, 0))) (hm : m ≤ n) (hlo : ¬ no gb) (hlo2 : ∀ b, v.ownBlock = some b → ¬ no b) (hlo3 : ∀ b, no b → b < w.heap.size)
 (_hown : w.ownsRow 0 3 1 v m xs) (hown' : w1.ownsRow 0 3 1 v' (m + 1) ys) (hb : v'.ownBlock = some b) (h4 : w1.os = (w.alloc o).os) (h5 : w1.tape = (w.alloc o).tape) (h6 : w1.output = (w.alloc o).output)
 (h7 : (w.alloc o).heap.size ≤ w1.heap.size)
 (h8 : b = (w.alloc o).heap.size ∧ (∀ k, k < (w.alloc o).heap.size → w1.heap[k]? = (w.alloc o).heap[k]?) ∨ v.ownBlock = some b ∧ ∀ k, k ≠ b → w1.heap[k]? = (w.alloc o).heap[k]?) :
 w1.heap[gb]? = some (.cells #[v] 109 (0, 0)) ∧
 (Fr ⟨some gb, no⟩ No w (w1.setCell ⟨gb, 0, none⟩ v') ∧ GOk ⟨some gb, no⟩ (n + 1) (w1.setCell ⟨gb, 0, none⟩ v')) := by
 have hgb := lt_of_heap hv
 have hbg : b ≠ gb := by
  rintro rfl
  rcases hown'.2 with ⟨rfl, _⟩ | ⟨g, cap, cur, rfl, _, hgg, _⟩
  ·simp [Value.ownBlock] at hb
  ·simp [Value.ownBlock] at hb; subst hb
   rcases h8 with ⟨h, _⟩ | ⟨h, _⟩
   ·simp at h; omega
   ·rcases _hown.2 with ⟨rfl, _⟩ | ⟨g', cap, cur, rfl, _, hgg', _⟩
    ·simp [Value.ownBlock] at h
    ·simp [Value.ownBlock] at h; subst h; rw [hv] at hgg'; simp at hgg'
 simp at h7
 have hold : ∀ k, k < w.heap.size → v.ownBlock ≠ some k → w1.heap[k]? = w.heap[k]? := fun k hk hne => by
  rcases h8 with ⟨_, h⟩ | ⟨h, h'⟩
  ·rw [h k (by simp; omega)]; exact Below.heap_alloc w o k hk
  ·rw [h' k (by rintro rfl; exact hne h)]; exact Below.heap_alloc w o k hk
 have hvb : v.ownBlock ≠ some gb := by
  intro h
  rcases _hown.2 with ⟨rfl, _⟩ | ⟨g', cap, cur, rfl, _, hgg', _⟩
  ·simp [Value.ownBlock] at h
  ·simp [Value.ownBlock] at h; subst h; rw [hv] at hgg'; simp at hgg'
 have hv1 : w1.heap[gb]? = some (.cells #[v] 109 (0, 0)) := (hold gb hgb hvb).trans hv
 have hv2 : (w1.setCell ⟨gb, 0, none⟩ v').heap[gb]? = some (.cells #[v'] 109 (0, 0)) := by rw [setCell_block hv1]; rfl
 have hne : ∀ k, k ≠ gb → (w1.setCell ⟨gb, 0, none⟩ v').heap[k]? = w1.heap[k]? := fun k hk => setCell_other hk
 have hty : ∀ k cs T f, v.ownBlock = some k → w.heap[k]? = some (.cells cs T f) → T = 3 := by
  intro k cs T f h hh
  rcases _hown.2 with ⟨rfl, _⟩ | ⟨g', cap, cur, rfl, _, hgg', _⟩
  ·simp [Value.ownBlock] at h
  ·simp [Value.ownBlock] at h; subst h; rw [hh] at hgg'; simp at hgg'; exact hgg'.2.1
 have hkeep' : ∀ k, k < w.heap.size → k ≠ gb → v.ownBlock ≠ some k → (w1.setCell ⟨gb, 0, none⟩ v').heap[k]? = w.heap[k]? := fun k hk h1 h2 => by rw [hne k h1, hold k hk h2]
 have hkeep : ∀ k, k < w.heap.size → ¬ GBlk ⟨some gb, no⟩ w k → (w1.setCell ⟨gb, 0, none⟩ v').heap[k]? = w.heap[k]? := fun k hk hg => by
  rw [hne k (fun e => hg (.inr (.inl e))), hold k hk (fun e => hg (.inr (.inr ⟨v, hv, e⟩)))]
 refine ⟨hv1, ⟨h4, h5, h6, by simp; omega, fun k hk hg _ => hkeep k hk hg, ?_, ?_, ?_, ?_⟩, ?_⟩
 ·rintro k (hlt | rfl | ⟨u, hu, hk⟩)
  ·exact .inl (.inl hlt)
  ·exact .inl (.inr (.inl rfl))
  ·rw [hv2] at hu
   have : v' = u := by simpa using hu
   subst this
   rw [hb] at hk
   cases hk
   rcases h8 with ⟨h, _⟩ | ⟨h, _⟩
   ·simp at h; right; omega
   ·exact .inl (.inr (.inr ⟨v, hv, h⟩))
 ·intro k cs hc hs
  exact ⟨cs, (hkeep' k (lt_of_heap hc) (by rintro rfl; rw [hv] at hc; simp at hc) (fun e => absurd (hty k _ _ _ e hc) (by decide))).trans hc, hs, rfl⟩
 ·rintro k ⟨cs, hc, hs⟩
  exact ⟨cs, (hkeep' k (lt_of_heap hc) (by rintro rfl; rw [hv] at hc; simp at hc) (fun e => absurd (hty k _ _ _ e hc) (by decide))).trans hc, hs⟩
 ·intro k hk
  have hk : no k := hk
  exact hkeep' k (hlo3 k hk) (by rintro rfl; exact hlo hk) (fun e => hlo2 k e hk)
 ·refine ⟨fun k hk => by simp; have := hlo3 k hk; omega, v', m + 1, ys, hv2, ⟨hown'.1, ?_⟩, by omega, hlo, fun c hc => ?_⟩
  ·rcases hown'.2 with h | ⟨g, cap, cur, rfl, h0, hgg, rest⟩
   ·exact .inl h
   ·simp [Value.ownBlock] at hb; subst hb
    exact .inr ⟨g, cap, cur, rfl, h0, (hne g hbg).trans hgg, rest⟩
  ·rw [hb] at hc
   cases hc
   rcases h8 with ⟨h, _⟩ | ⟨h, _⟩
   ·intro hk; have := hlo3 _ hk; simp at h; omega
   ·exact hlo2 _ h
theorem row_slice {w : World} {base e size n : Nat} {v : Value} {xs : List Value} (h : w.ownsRow base e size v n xs) : ∃ a l c, v = .slice a l c := by
 rcases h.2 with ⟨rfl, _⟩ | ⟨g, cap, cur, rfl, _⟩
 ·exact ⟨_, _, _, rfl⟩
 ·exact ⟨_, _, _, rfl⟩
set_option maxHeartbeats 400000 in
theorem TapePass_any (gb : Nat) (no : Nat → Prop) (n : Nat) (k : Int) (w : World) (hg : GOk ⟨some gb, no⟩ n w) (hn : n < LIM) :
 Calls Tryz.prog 343 #[.pointer (some ⟨gb, 0, none⟩), .int .i64 k] w fun e w' => e = .returned (.tuple #[]) ∧ Fr ⟨some gb, no⟩ No w w' ∧ GOk ⟨some gb, no⟩ (n + 1) w' := by
 obtain ⟨hlo0, v, m, xs, hv, hown, hm, hlo1, hlo2⟩ := hg
 have HLO := Lib.hid (And.intro hlo1 (And.intro hlo2 hlo0))
 clear hlo1 hlo2 hlo0
 have hgb := lt_of_heap hv
 have hc : w.cell? ⟨gb, 0, none⟩ = some v := by rw [cell_of_row w gb 0 _ 109 (0, 0) hv]; rfl
 obtain ⟨i, hi, hz0, hz1, hz2⟩ := info_parts Tryz.info3
 have hm' : m < LIM := by omega
 unfold LIM at hm'
 have H := Lib.hid hown
 clear hown
 have HV := Lib.hid hv
 clear hv
 go_enter Tryz.func343, Tryz.ntmps343
 go_wp2_with (at_builtin; refine wpList_append_raw _ rfl _ _ 96 rfl 3 i (.int .i64 0) 1 8 Tryz.underlying96 hi hz0 hz1 hz2 rfl (by decide) v m xs rfl (H.out.alloc _) ⟨w.heap.size, 0, none⟩ 1 1 [.int .i64 k] rfl rfl (cell_one_new _ _ _) (by simp [Value.oneCell']) (by simp only [maxLen]; omega) (by omega) (by decide) ?_; intro v' w1 b hown' hb h4 h5 h6 h7 h8; obtain ⟨a1, l1, c1, rfl⟩ := row_slice hown'; obtain ⟨hv1, hend⟩ := tape_end HV.out hm HLO.out.1 HLO.out.2.1 HLO.out.2.2 H.out hown' hb h4 h5 h6 h7 h8; have hc1 : w1.cell? ⟨gb, 0, none⟩ = some v := (by rw [cell_of_row w1 gb 0 _ 109 (0, 0) hv1]; rfl); have hf1 : w1.frozen? ⟨gb, 0, none⟩ = false := frozen_of_row w1 gb 0 _ 109 hv1; clear h4 h5 h6 h7 h8 hown' hb; have HE := Lib.hid hend; clear hend hv1)
 go_end0
 exact ⟨rfl, HE.out⟩
theorem tape_method (a : Addr) (w : World) : (method 548 46 (.pointer (some a)) "Pass").run Tryz.prog w = .ok (343, .pointer (some a)) w := by kernel_rfl
set_option maxHeartbeats 400000 in
theorem pass_any (g : Gt) (n : Nat) (k : Int) (w : World) (hg : GOk g n w) (hn : n < LIM) :
 Calls Tryz.prog 220 #[gval g, .int .i64 k] w fun e w' => e = .returned (.tuple #[]) ∧ Fr g No w w' ∧ GOk g (n + 1) w' := by
 obtain ⟨gt, no⟩ := g
 cases gt with
 | none =>
   have hg' : GOk ⟨none, no⟩ (n + 1) w := hg.mono (by omega)
   have HG := Lib.hid hg'
   simp only [gval]
   clear hg hg'
   go_enter Tryz.func220, Tryz.ntmps220
   go_wp2
   go_end0
   exact ⟨rfl, Fr.refl _ _ _, HG.out⟩
 | some gb =>
   simp only [gval]
   have hmt := tape_method ⟨gb, 0, none⟩ w
   go_enter Tryz.func220, Tryz.ntmps220
   go_wp2_with (go_at_call 343; refine (TapePass_any gb no n k w hg hn).mono ?_; rintro e w' ⟨rfl, h1, h2⟩)
   go_end0
   exact ⟨rfl, h1, h2⟩
end Go.Proofs.YtdmobhndbibhoaaGreat
namespace Go.Proofs.YtdmobhndbibhoaaGreat
set_option linter.unusedVariables false
set_option linter.unusedSimpArgs false
open Go.RowKit
set_option maxRecDepth 100000
theorem RecP.fr {g : Gt} {S : Nat → Prop} {w w' : World} {p : Option Addr} (h : RecP w p) (hf : Fr g S w w') : RecP w' p := by
 rcases h with rfl | ⟨b, rfl, h⟩
 ·exact .inl rfl
 ·exact .inr ⟨b, rfl, hf.isRec b h⟩
section
variable {g : Gt} {n b o : Nat} {cs : Array Value} {T : TypeId} {w : World}
set_option maxHeartbeats 400000 in
theorem CellP_Load {p : Option Addr} (hg : GOk g n w) (hn : n < LIM) (ha : At g w b (.cells cs T (0, 0))) (hc : cs[o]? = some (.pointer p)) (hp : RecP w p) :
 Calls Tryz.prog 263 #[.pointer (some ⟨b, o, none⟩), gval g] w fun e w' => e = .returned (.pointer p) ∧ Fr g No w w' ∧ GOk g (n + 1) w' := by
 go_enter Tryz.func263, Tryz.ntmps263
 go_wp2_with (first
  |(go_at_call 220; refine (pass_any g n 1 w hg hn).mono ?_; rintro e w1 ⟨rfl, hf1, hg1⟩)
  |(go_at_call 302; refine (LoadP_any (((hf1.at ha id).cell o).trans hc) (hp.fr hf1)).mono ?_; rintro e w2 ⟨rfl, rfl⟩))
 go_ret
 exact ⟨rfl, hf1, hg1⟩
set_option maxHeartbeats 400000 in
theorem CellS_Load {s : Nat} (hg : GOk g n w) (hn : n < LIM) (ha : At g w b (.cells cs T (0, 0))) (hc : cs[o]? = some (.pointer (some ⟨s, 0, none⟩))) (hp : IsScx w s) :
 Calls Tryz.prog 265 #[.pointer (some ⟨b, o, none⟩), gval g] w fun e w' => e = .returned (.pointer (some ⟨s, 0, none⟩)) ∧ Fr g No w w' ∧ GOk g (n + 1) w' := by
 go_enter Tryz.func265, Tryz.ntmps265
 go_wp2_with (first
  |(go_at_call 220; refine (pass_any g n 1 w hg hn).mono ?_; rintro e w1 ⟨rfl, hf1, hg1⟩)
  |(go_at_call 304; refine (LoadS_any (((hf1.at ha id).cell o).trans hc) (hf1.isScx s hp)).mono ?_; rintro e w2 ⟨rfl, rfl⟩))
 go_ret
 exact ⟨rfl, hf1, hg1⟩
set_option maxHeartbeats 400000 in
theorem Mark_Load (hg : GOk g n w) (hn : n < LIM) (ha : At g w b (.cells cs T (0, 0))) (hc : cs[o]? = some (.int .u32 0)) :
 Calls Tryz.prog 264 #[.pointer (some ⟨b, o, none⟩), gval g] w fun e w' => e = .returned (.bool false) ∧ Fr g No w w' ∧ GOk g (n + 1) w' := by
 go_enter Tryz.func264, Tryz.ntmps264
 go_wp2_with (first
  |(go_at_call 220; refine (pass_any g n 1 w hg hn).mono ?_; rintro e w1 ⟨rfl, hf1, hg1⟩)
  |(go_at_call 303; refine (LoadB_no (((hf1.at ha id).cell o).trans hc)).mono ?_; rintro e w2 ⟨rfl, rfl⟩))
 go_ret
 exact ⟨rfl, hf1, hg1⟩
set_option maxHeartbeats 400000 in
theorem Num_Load {k : Int} (hg : GOk g n w) (hn : n < LIM) (ha : At g w b (.cells cs T (0, 0))) (hc : cs[o]? = some (.int .i64 k)) :
 Calls Tryz.prog 266 #[.pointer (some ⟨b, o, none⟩), gval g] w fun e w' => e = .returned (.int .i64 k) ∧ Fr g No w w' ∧ GOk g (n + 1) w' := by
 go_enter Tryz.func266, Tryz.ntmps266
 go_wp2_with (first
  |(go_at_call 220; refine (pass_any g n 1 w hg hn).mono ?_; rintro e w1 ⟨rfl, hf1, hg1⟩)
  |(go_at_call 305; refine (LoadI_any (((hf1.at ha id).cell o).trans hc)).mono ?_; rintro e w2 ⟨rfl, rfl⟩))
 go_ret
 exact ⟨rfl, hf1, hg1⟩
def Put1 (g : Gt) (n b o : Nat) (cs : Array Value) (T : TypeId) (v : Value) (w w' : World) : Prop :=
 Fr g (fun c => c = b) w w' ∧ At g w' b (.cells (cs.setIfInBounds o v) T (0, 0)) ∧ GOk g (n + 1) w'
theorem put1_of {w1 w2 : World} {v : Value} (hf1 : Fr g No w w1) (hg1 : GOk g (n + 1) w1) (ha : At g w b (.cells cs T (0, 0))) (h3 : T = 209 → o ≠ 3) (hw : w2 = w1.setCell ⟨b, o, none⟩ v) :
 Put1 g n b o cs T v w w2 := by
 subst hw
 have ha1 := hf1.at ha id
 exact ⟨hf1.trans (Fr.setCell (fun c => c = b) ha1 o v rfl h3) (fun _ _ h => h.elim) (fun _ _ h => h), ha1.setCell o v, hg1.setCell ha1 o v⟩
theorem put1_of' {w1 w2 : World} {v : Value} (hf1 : Fr g No w w1) (hg1 : GOk g (n + 1) w1) (ha : At g w b (.cells cs T (0, 0))) (h3 : T = 209 → o ≠ 3) (hw : w2 = (w1.setCell ⟨b, o, none⟩ v).drew) :
 Put1 g n b o cs T v w w2 := by
 subst hw
 obtain ⟨h1, h2, h3⟩ := put1_of (o := o) (v := v) hf1 hg1 ha h3 rfl
 exact ⟨h1.tr (Fr.drew _ _ _), h2.drew, h3.drew⟩
theorem cell_some (ha : At g w b (.cells cs T (0, 0))) (ho : o < cs.size) : w.cell? ⟨b, o, none⟩ = some cs[o] := by
 rw [ha.cell o]; simp [ho]
set_option maxHeartbeats 400000 in
theorem CellP_Store {p : Option Addr} (hg : GOk g n w) (hn : n < LIM) (ha : At g w b (.cells cs T (0, 0))) (ho : o < cs.size) (hp : RecP w p) (h3 : T = 209 → o ≠ 3 := by first | decide | exact fun h => absurd h (by decide)) :
 Calls Tryz.prog 175 #[.pointer (some ⟨b, o, none⟩), gval g, .pointer p] w fun e w' => e = .returned (.tuple #[]) ∧ Put1 g n b o cs T (.pointer p) w w' := by
 go_enter Tryz.func175, Tryz.ntmps175
 go_wp2_with (first
  |(go_at_call 220; refine (pass_any g n 2 w hg hn).mono ?_; rintro e w1 ⟨rfl, hf1, hg1⟩)
  |(go_at_call 221; refine (StoreP_any (cell_some (hf1.at ha id) ho) ((hf1.at ha id).free o) (hp.fr hf1)).mono ?_; rintro e w2 ⟨rfl, hw2⟩; have hput := put1_of hf1 hg1 ha h3 hw2.symm; clear hw2))
 go_end0
 exact ⟨rfl, hput⟩
set_option maxHeartbeats 400000 in
theorem CellS_Store {s : Nat} (hg : GOk g n w) (hn : n < LIM) (ha : At g w b (.cells cs T (0, 0))) (ho : o < cs.size) (hp : IsScx w s) (h3 : T = 209 → o ≠ 3 := by first | decide | exact fun h => absurd h (by decide)) :
 Calls Tryz.prog 177 #[.pointer (some ⟨b, o, none⟩), gval g, .pointer (some ⟨s, 0, none⟩)] w fun e w' => e = .returned (.tuple #[]) ∧ Put1 g n b o cs T (.pointer (some ⟨s, 0, none⟩)) w w' := by
 go_enter Tryz.func177, Tryz.ntmps177
 go_wp2_with (first
  |(go_at_call 220; refine (pass_any g n 2 w hg hn).mono ?_; rintro e w1 ⟨rfl, hf1, hg1⟩)
  |(go_at_call 223; refine (StoreS_any (cell_some (hf1.at ha id) ho) ((hf1.at ha id).free o) (hf1.isScx s hp)).mono ?_; rintro e w2 ⟨rfl, hw2⟩; have hput := put1_of hf1 hg1 ha h3 hw2.symm; clear hw2))
 go_end0
 exact ⟨rfl, hput⟩
set_option maxHeartbeats 400000 in
theorem Num_Store {k : Int} (hg : GOk g n w) (hn : n < LIM) (ha : At g w b (.cells cs T (0, 0))) (ho : o < cs.size) (h3 : T = 209 → o ≠ 3 := by first | decide | exact fun h => absurd h (by decide)) :
 Calls Tryz.prog 176 #[.pointer (some ⟨b, o, none⟩), gval g, .int .i64 k] w fun e w' => e = .returned (.tuple #[]) ∧ Put1 g n b o cs T (.int .i64 k) w w' := by
 go_enter Tryz.func176, Tryz.ntmps176
 go_wp2_with (first
  |(go_at_call 220; refine (pass_any g n 2 w hg hn).mono ?_; rintro e w1 ⟨rfl, hf1, hg1⟩)
  |(go_at_call 222; refine (StoreI_any (cell_some (hf1.at ha id) ho) ((hf1.at ha id).free o)).mono ?_; rintro e w2 ⟨rfl, hw2⟩; have hput := put1_of hf1 hg1 ha h3 hw2.symm; clear hw2))
 go_end0
 exact ⟨rfl, hput⟩
set_option maxHeartbeats 400000 in
theorem Mark_Store (hg : GOk g n w) (hn : n < LIM) (ha : At g w b (.cells cs T (0, 0))) (ho : o < cs.size) (h3 : T = 209 → o ≠ 3 := by first | decide | exact fun h => absurd h (by decide)) :
 Calls Tryz.prog 307 #[.pointer (some ⟨b, o, none⟩), gval g, .bool true] w fun e w' => e = .returned (.tuple #[]) ∧ Put1 g n b o cs T (.int .u32 1) w w' := by
 go_enter Tryz.func307, Tryz.ntmps307
 go_wp2_with (first
  |(go_at_call 220; refine (pass_any g n 2 w hg hn).mono ?_; rintro e w1 ⟨rfl, hf1, hg1⟩)
  |(go_at_call 322; refine (StoreB_yes (cell_some (hf1.at ha id) ho) ((hf1.at ha id).free o)).mono ?_; rintro e w2 ⟨rfl, hw2⟩; have hput := put1_of' hf1 hg1 ha h3 hw2.symm; clear hw2))
 go_end0
 exact ⟨rfl, hput⟩
set_option maxHeartbeats 400000 in
theorem CellS_Cas {s s' : Nat} (hg : GOk g n w) (hn : n < LIM) (ha : At g w b (.cells cs T (0, 0))) (hc : cs[o]? = some (.pointer (some ⟨s, 0, none⟩))) (hp : IsScx w s) (hq : IsScx w s') (h3 : T = 209 → o ≠ 3 := by first | decide | exact fun h => absurd h (by decide)) :
 Calls Tryz.prog 306 #[.pointer (some ⟨b, o, none⟩), gval g, .pointer (some ⟨s, 0, none⟩), .pointer (some ⟨s', 0, none⟩)] w fun e w' => e = .returned (.bool true) ∧ Put1 g n b o cs T (.pointer (some ⟨s', 0, none⟩)) w w' := by
 go_enter Tryz.func306, Tryz.ntmps306
 go_wp2_with (first
  |(go_at_call 220; refine (pass_any g n 5 w hg hn).mono ?_; rintro e w1 ⟨rfl, hf1, hg1⟩)
  |(go_at_call 321; refine (CasS_any (((hf1.at ha id).cell o).trans hc) ((hf1.at ha id).free o) (hf1.isScx s hp) (hf1.isScx s' hq)).mono ?_; rintro e w2 ⟨rfl, hw2⟩; have hput := put1_of hf1 hg1 ha h3 hw2.symm; clear hw2))
 go_ret
 exact ⟨rfl, hput⟩
set_option maxHeartbeats 400000 in
theorem CellP_Cas {p q : Option Addr} (hg : GOk g n w) (hn : n < LIM) (ha : At g w b (.cells cs T (0, 0))) (hc : cs[o]? = some (.pointer p)) (hp : RecP w p) (hq : RecP w q) (h3 : T = 209 → o ≠ 3 := by first | decide | exact fun h => absurd h (by decide)) :
 Calls Tryz.prog 308 #[.pointer (some ⟨b, o, none⟩), gval g, .pointer p, .pointer q] w fun e w' => e = .returned (.bool true) ∧ Put1 g n b o cs T (.pointer q) w w' := by
 go_enter Tryz.func308, Tryz.ntmps308
 go_wp2_with (first
  |(go_at_call 220; refine (pass_any g n 5 w hg hn).mono ?_; rintro e w1 ⟨rfl, hf1, hg1⟩)
  |(go_at_call 323; refine (CasP_any (((hf1.at ha id).cell o).trans hc) ((hf1.at ha id).free o) (hp.fr hf1) (hq.fr hf1)).mono ?_; rintro e w2 ⟨rfl, hw2⟩; have hput := put1_of hf1 hg1 ha h3 hw2.symm; clear hw2))
 go_ret
 exact ⟨rfl, hput⟩
end
end Go.Proofs.YtdmobhndbibhoaaGreat
