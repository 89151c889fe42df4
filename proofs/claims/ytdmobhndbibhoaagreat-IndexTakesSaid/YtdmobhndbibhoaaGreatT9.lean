/- The iterators by their ways. -/
import Derived.Test.YtdmobhndbibhoaaGreatT8
namespace Go.Proofs.YtdmobhndbibhoaaGreat
open Go.RowKit Larch
set_option maxRecDepth 100000
set_option linter.unusedVariables false
set_option linter.unusedSimpArgs false
attribute [local go_sem ↓] Go.wp_at_zero Go.wp_at_succ
def lpAt (way key : Int) (L pre : List Pr) : Lp :=
 if way = 1 then ⟨1, L.drop pre.length, key, false⟩ else match pre.getLast? with
 | none => ⟨way, L, key, false⟩
 | some p => ⟨way, L, p.1, true⟩
theorem lpAt_start (way key : Int) (L : List Pr) : lpAt way key L [] = ⟨way, L, key, false⟩ := by
 unfold lpAt
 split
 ·rename_i h; subst h; rfl
 ·rfl
theorem lpAt_next {way key : Int} {L pre m : List Pr} {x : Pr} (h : lpO (lpAt way key L pre) m = some x) : lpN (lpAt way key L pre) m = lpAt way key L (pre ++ [x]) := by
 unfold lpAt at *
 by_cases hw : way = 1
 ·simp only [hw, if_true, List.length_append, List.length_cons, List.length_nil, Nat.zero_add] at *
  simp [lpN]
 ·have hw0 := hw
  simp only [hw, if_false, List.getLast?_concat] at h ⊢
  cases hp : pre.getLast? with
  | none => rw [hp] at h; simp only at h; simp [lpN, hw0, h]
  | some p => rw [hp] at h; simp only at h; simp [lpN, hw0, h]
theorem lpAt_one (key : Int) (L pre m : List Pr) : lpO (lpAt 1 key L pre) m = L[pre.length]? := by simp [lpAt, lpO]
theorem lpAt_two (key : Int) (L pre m : List Pr) : lpO (lpAt 2 key L pre) m = lpO (lpS 2 key pre) m := by unfold lpAt lpS; simp only [show ¬ (2 : Int) = 1 from by decide, if_false]; cases pre.getLast? <;> rfl
theorem lpAt_three (key : Int) (L pre m : List Pr) : lpO (lpAt 3 key L pre) m = lpO (lpS 3 key pre) m := by unfold lpAt lpS; simp only [show ¬ (3 : Int) = 1 from by decide, if_false]; cases pre.getLast? <;> rfl
theorem SeqC.to {g : Gt} {be : Nat} {M : List Pr → T Unit} {c : Nat → Nat} {E E' : List Pr → Pr → Prop} {End End' : List Pr → Prop} {gf : Nat} {lb : Array Value} {N N' : Nat} {Pre : World → Prop} {own : Nat → Prop}
 (h : SeqC g be M c E End gf lb N Pre own) (hE : ∀ pre x, E' pre x ↔ E pre x) (hEnd : ∀ xs, End xs → End' xs) (hN : N' ≤ N) : SeqC g be M c E' End' gf lb N' Pre own := by
 intro l B J K Jx O h1 h2 h3 h4 h5 h6 h7 W h8 h9 h10
 refine (h l B J K Jx O h1 h2 h3 h4 h5 (fun pre x W hk he => Nat.lt_of_lt_of_le (h6 pre x W hk ((hE pre x).2 he)) hN) (fun pre x W hk he => h7 pre x W hk ((hE pre x).2 he)) W h8 h9 h10).mono ?_
 rintro e w' ⟨k1, k2 | k2⟩
 ·obtain ⟨xs, k3, k4⟩ := k2
  exact ⟨k1, .inl ⟨xs, hEnd xs k3, k4⟩⟩
 ·exact ⟨k1, .inr k2⟩
def WayQ (g : Gt) (be hb m : Nat) (way key : Int) (w : World) (e : Ending) (w' : World) : Prop :=
 ∃ gf lb Pre own, e = .returned (.func (.func gf) #[] lb) ∧ (∀ args w, (callFunc gf args).run Tryz.prog w = .ok (.enter gf args) w) ∧ (∀ W, Fr g No w' W → Pre W) ∧ (∀ b, own b → b = hb ∨ w.heap.size ≤ b ∧ b < w'.heap.size) ∧ Fr g No w w' ∧ GOk g m w' ∧
   ∀ (M : List Pr → T Unit) (c : Nat → Nat) (N : Nat), (∀ p ∈ pairs (M []), I64 p.1) → N ≤ 100000 → (∀ pre : List Pr, pre.length ≤ N → c pre.length + cost (M pre).size ≤ c (pre.length + 1) ∧ c (pre.length + 1) < LIM ∧ (M pre).size < 300000) → (∀ n, c n ≤ c (n + 1)) → (way = 1 → (pairs (M [])).length ≤ 100000) →
     SeqC g be M c (fun pre x => lpO (lpAt way key (pairs (M [])) pre) (pairs (M pre)) = some x) (fun xs => lpO (lpAt way key (pairs (M [])) xs) (pairs (M xs)) = none) gf lb N Pre own
set_option maxHeartbeats 2000000 in
theorem All_any {g : Gt} {m be hb : Nat} {key : Int} {w : World} (hg : GOk g m w) (hH : Cl g w hb #[ptr be, gval g] 106) : Calls Tryz.prog 25 #[ptr hb] w (WayQ g be hb m 1 key w) := by
 have hF := Fr.alloc g No w (.cells #[ptr hb] 37) hg
 have hG := hg.alloc (.cells #[ptr hb] 37)
 have hB := At.new hg (.cells #[ptr hb] 37)
 have hH1 := hF.at hH id
 unfold ptr at hF hG hB ⊢
 go_enter Tryz.func25, Tryz.ntmps25
 go_wp2_with fail
 go_ret
 refine ⟨70, #[.pointer (some ⟨w.heap.size, 0, none⟩)], PreAll g be hb w.heap.size, fun b => b = w.heap.size ∨ b = hb, rfl, enters_of Tryz.func70 (by kernel_rfl) rfl, fun W f => ⟨f.at hB id, f.at hH1 id⟩, fun b hb => ?_, hF, hG, ?_⟩
 ·rcases hb with h | h
  ·exact .inr ⟨by omega, by rw [h]; simp⟩
  ·exact .inl h
 ·intro M c N h64 hN hc hcm hL
  obtain ⟨h1, h2, h3⟩ := hc [] (Nat.zero_le _)
  exact (seq_all (N := N) rfl h64 hcm h1 h2 h3 (hL rfl)).to (fun pre x => by rw [lpAt_one]) (fun xs h => by rw [lpAt_one, h]; exact List.getElem?_eq_none (Nat.le_refl _)) (Nat.le_refl _)
set_option maxHeartbeats 4000000 in
theorem from_Up {g : Gt} {m hb : Nat} {key : Int} {w : World} (hg : GOk g m w) : Calls Tryz.prog 71 #[.int .i64 key, .int .i64 (-9223372036854775808), .int .i64 (1), .func (.func 59) #[.pointer (some ⟨hb, 0, none⟩)] #[], .func (.func 61) #[.pointer (some ⟨hb, 0, none⟩)] #[]] w fun e w' =>
 e = .returned (.func (.func 107) #[] #[.pointer (some ⟨w.heap.size, 0, none⟩), .pointer (some ⟨w.heap.size + 1, 0, none⟩), .pointer (some ⟨w.heap.size + 1 + 1 + 1 + 1, 0, none⟩), .pointer (some ⟨w.heap.size + 1 + 1 + 1, 0, none⟩), .pointer (some ⟨w.heap.size + 1 + 1, 0, none⟩)]) ∧ Fr g No w w' ∧ GOk g m w' ∧ w'.heap.size = w.heap.size + 5 ∧
 Cl g w' w.heap.size #[.int .i64 key] 3 ∧ Cl g w' (w.heap.size + 1) #[.int .i64 (-9223372036854775808)] 3 ∧ Cl g w' (w.heap.size + 1 + 1) #[.int .i64 (1)] 3 ∧ Cl g w' (w.heap.size + 1 + 1 + 1) #[.func (.func 59) #[ptr hb] #[]] 114 ∧ Cl g w' (w.heap.size + 1 + 1 + 1 + 1) #[.func (.func 61) #[ptr hb] #[]] 115 := by
 have f1 := Fr.alloc g No w (.cells #[.int .i64 key] 3) hg
 have g1 := hg.alloc (.cells #[.int .i64 key] 3)
 have b1 := At.new hg (.cells #[.int .i64 key] 3)
 have f2 := Fr.alloc g No _ (.cells #[.int .i64 (-9223372036854775808)] 3) g1
 have g2 := g1.alloc (.cells #[.int .i64 (-9223372036854775808)] 3)
 have b2 := At.new g1 (.cells #[.int .i64 (-9223372036854775808)] 3)
 have f3 := Fr.alloc g No _ (.cells #[.int .i64 (1)] 3) g2
 have g3 := g2.alloc (.cells #[.int .i64 (1)] 3)
 have b3 := At.new g2 (.cells #[.int .i64 (1)] 3)
 have f4 := Fr.alloc g No _ (.cells #[.func (.func 59) #[.pointer (some ⟨hb, 0, none⟩)] #[]] 114) g3
 have g4 := g3.alloc (.cells #[.func (.func 59) #[.pointer (some ⟨hb, 0, none⟩)] #[]] 114)
 have b4 := At.new g3 (.cells #[.func (.func 59) #[.pointer (some ⟨hb, 0, none⟩)] #[]] 114)
 have f5 := Fr.alloc g No _ (.cells #[.func (.func 61) #[.pointer (some ⟨hb, 0, none⟩)] #[]] 115) g4
 have g5 := g4.alloc (.cells #[.func (.func 61) #[.pointer (some ⟨hb, 0, none⟩)] #[]] 115)
 have b5 := At.new g4 (.cells #[.func (.func 61) #[.pointer (some ⟨hb, 0, none⟩)] #[]] 115)
 simp only [World.size_alloc] at b2 b3 b4 b5
 have HX := Lib.hid (And.intro (((f1.tr f2).tr f3).tr (f4.tr f5)) (And.intro g5 (And.intro (f5.at (f4.at (f3.at (f2.at b1 id) id) id) id) (And.intro (f5.at (f4.at (f3.at b2 id) id) id) (And.intro (f5.at (f4.at b3 id) id) (And.intro (f5.at b4 id) b5))))))
 clear f1 g1 b1 f2 g2 b2 f3 g3 b3 f4 g4 b4 f5 g5 b5
 go_enter Tryz.func71, Tryz.ntmps71
 go_wp2_with fail
 go_ret
 obtain ⟨h1, h2, h3, h4, h5, h6, h7⟩ := HX.out
 exact ⟨rfl, h1, h2, by simp, h3, h4, h5, h6, h7⟩
set_option maxHeartbeats 2000000 in
theorem Up_any {g : Gt} {m be hb : Nat} {key : Int} {w : World} (hk : I64 key) (hg : GOk g m w) (hH : Cl g w hb #[ptr be, gval g] 106) : Calls Tryz.prog 26 #[ptr hb, .int .i64 key] w (WayQ g be hb m 2 key w) := by
 have hFr := from_Up (key := key) (hb := hb) hg
 unfold ptr at hFr ⊢
 go_enter Tryz.func26, Tryz.ntmps26
 go_wp2_with fail
 refine hFr.mono ?_
 rintro e w1 ⟨rfl, hF, hG, hs, h1, h2, h3, h4, h5⟩
 have HX := Lib.hid (And.intro hF (And.intro hG (And.intro hs (And.intro h1 (And.intro h2 (And.intro h3 (And.intro h4 (And.intro h5 (hF.at hH id)))))))))
 clear hF hG hs h1 h2 h3 h4 h5 hFr hH hg
 go_wp2_with fail
 go_ret
 obtain ⟨hF, hG, hs, h1, h2, h3, h4, h5, h6⟩ := HX.out
 refine ⟨107, _, PreFrom g be hb w.heap.size (w.heap.size + 1) (w.heap.size + 1 + 1 + 1 + 1) (w.heap.size + 1 + 1 + 1) (w.heap.size + 1 + 1) key (-9223372036854775808) (1) 61 59, fun b => b = w.heap.size + 1 + 1 + 1 ∨ b = hb, rfl, enters_of Tryz.func107 (by kernel_rfl) rfl, fun W f => ⟨f.at h1 id, f.at h2 id, f.at h5 id, f.at h4 id, f.at h3 id, f.at h6 id⟩, fun b hb => ?_, hF, hG, ?_⟩
 ·rcases hb with h | h
  ·exact .inr ⟨by omega, by omega⟩
  ·exact .inl h
 ·intro M c N h64 hN hc hcm hL
  exact (seq_up hk h64 hN hc).to (fun pre x => by rw [lpAt_two]) (fun xs h => by rw [lpAt_two]; exact h) (Nat.le_refl _)
set_option maxHeartbeats 4000000 in
theorem from_Down {g : Gt} {m hb : Nat} {key : Int} {w : World} (hg : GOk g m w) : Calls Tryz.prog 71 #[.int .i64 key, .int .i64 (9223372036854775807), .int .i64 (-1), .func (.func 60) #[.pointer (some ⟨hb, 0, none⟩)] #[], .func (.func 62) #[.pointer (some ⟨hb, 0, none⟩)] #[]] w fun e w' =>
 e = .returned (.func (.func 107) #[] #[.pointer (some ⟨w.heap.size, 0, none⟩), .pointer (some ⟨w.heap.size + 1, 0, none⟩), .pointer (some ⟨w.heap.size + 1 + 1 + 1 + 1, 0, none⟩), .pointer (some ⟨w.heap.size + 1 + 1 + 1, 0, none⟩), .pointer (some ⟨w.heap.size + 1 + 1, 0, none⟩)]) ∧ Fr g No w w' ∧ GOk g m w' ∧ w'.heap.size = w.heap.size + 5 ∧
 Cl g w' w.heap.size #[.int .i64 key] 3 ∧ Cl g w' (w.heap.size + 1) #[.int .i64 (9223372036854775807)] 3 ∧ Cl g w' (w.heap.size + 1 + 1) #[.int .i64 (-1)] 3 ∧ Cl g w' (w.heap.size + 1 + 1 + 1) #[.func (.func 60) #[ptr hb] #[]] 114 ∧ Cl g w' (w.heap.size + 1 + 1 + 1 + 1) #[.func (.func 62) #[ptr hb] #[]] 115 := by
 have f1 := Fr.alloc g No w (.cells #[.int .i64 key] 3) hg
 have g1 := hg.alloc (.cells #[.int .i64 key] 3)
 have b1 := At.new hg (.cells #[.int .i64 key] 3)
 have f2 := Fr.alloc g No _ (.cells #[.int .i64 (9223372036854775807)] 3) g1
 have g2 := g1.alloc (.cells #[.int .i64 (9223372036854775807)] 3)
 have b2 := At.new g1 (.cells #[.int .i64 (9223372036854775807)] 3)
 have f3 := Fr.alloc g No _ (.cells #[.int .i64 (-1)] 3) g2
 have g3 := g2.alloc (.cells #[.int .i64 (-1)] 3)
 have b3 := At.new g2 (.cells #[.int .i64 (-1)] 3)
 have f4 := Fr.alloc g No _ (.cells #[.func (.func 60) #[.pointer (some ⟨hb, 0, none⟩)] #[]] 114) g3
 have g4 := g3.alloc (.cells #[.func (.func 60) #[.pointer (some ⟨hb, 0, none⟩)] #[]] 114)
 have b4 := At.new g3 (.cells #[.func (.func 60) #[.pointer (some ⟨hb, 0, none⟩)] #[]] 114)
 have f5 := Fr.alloc g No _ (.cells #[.func (.func 62) #[.pointer (some ⟨hb, 0, none⟩)] #[]] 115) g4
 have g5 := g4.alloc (.cells #[.func (.func 62) #[.pointer (some ⟨hb, 0, none⟩)] #[]] 115)
 have b5 := At.new g4 (.cells #[.func (.func 62) #[.pointer (some ⟨hb, 0, none⟩)] #[]] 115)
 simp only [World.size_alloc] at b2 b3 b4 b5
 have HX := Lib.hid (And.intro (((f1.tr f2).tr f3).tr (f4.tr f5)) (And.intro g5 (And.intro (f5.at (f4.at (f3.at (f2.at b1 id) id) id) id) (And.intro (f5.at (f4.at (f3.at b2 id) id) id) (And.intro (f5.at (f4.at b3 id) id) (And.intro (f5.at b4 id) b5))))))
 clear f1 g1 b1 f2 g2 b2 f3 g3 b3 f4 g4 b4 f5 g5 b5
 go_enter Tryz.func71, Tryz.ntmps71
 go_wp2_with fail
 go_ret
 obtain ⟨h1, h2, h3, h4, h5, h6, h7⟩ := HX.out
 exact ⟨rfl, h1, h2, by simp, h3, h4, h5, h6, h7⟩
set_option maxHeartbeats 2000000 in
theorem Down_any {g : Gt} {m be hb : Nat} {key : Int} {w : World} (hk : I64 key) (hg : GOk g m w) (hH : Cl g w hb #[ptr be, gval g] 106) : Calls Tryz.prog 27 #[ptr hb, .int .i64 key] w (WayQ g be hb m 3 key w) := by
 have hFr := from_Down (key := key) (hb := hb) hg
 unfold ptr at hFr ⊢
 go_enter Tryz.func27, Tryz.ntmps27
 go_wp2_with fail
 refine hFr.mono ?_
 rintro e w1 ⟨rfl, hF, hG, hs, h1, h2, h3, h4, h5⟩
 have HX := Lib.hid (And.intro hF (And.intro hG (And.intro hs (And.intro h1 (And.intro h2 (And.intro h3 (And.intro h4 (And.intro h5 (hF.at hH id)))))))))
 clear hF hG hs h1 h2 h3 h4 h5 hFr hH hg
 go_wp2_with fail
 go_ret
 obtain ⟨hF, hG, hs, h1, h2, h3, h4, h5, h6⟩ := HX.out
 refine ⟨107, _, PreFrom g be hb w.heap.size (w.heap.size + 1) (w.heap.size + 1 + 1 + 1 + 1) (w.heap.size + 1 + 1 + 1) (w.heap.size + 1 + 1) key (9223372036854775807) (-1) 62 60, fun b => b = w.heap.size + 1 + 1 + 1 ∨ b = hb, rfl, enters_of Tryz.func107 (by kernel_rfl) rfl, fun W f => ⟨f.at h1 id, f.at h2 id, f.at h5 id, f.at h4 id, f.at h3 id, f.at h6 id⟩, fun b hb => ?_, hF, hG, ?_⟩
 ·rcases hb with h | h
  ·exact .inr ⟨by omega, by omega⟩
  ·exact .inl h
 ·intro M c N h64 hN hc hcm hL
  exact (seq_down hk h64 hN hc).to (fun pre x => by rw [lpAt_three]) (fun xs h => by rw [lpAt_three]; exact h) (Nat.le_refl _)
set_option maxHeartbeats 2000000 in
theorem way_any {g : Gt} {m be hb : Nat} {way key : Int} {w : World} (hw : way = 1 ∨ way = 2 ∨ way = 3) (hk : I64 key) (hg : GOk g m w) (hH : Cl g w hb #[ptr be, gval g] 106) : Calls Tryz.prog 80 #[ptr hb, .int .i64 way, .int .i64 key] w (WayQ g be hb m way key w) := by
 rcases hw with rfl | rfl | rfl
 ·have hC := All_any (key := key) hg hH
  unfold ptr at hC ⊢
  go_enter Tryz.func80, Tryz.ntmps80
  go_wp2_with fail
  refine hC.mono ?_
  intro e w1 h
  have HX := Lib.hid h
  obtain ⟨gf, lb, Pre, own, rfl, hX⟩ := h
  clear hX hC
  go_wp2_with fail
  go_ret
  exact HX.out
 ·have hC := Up_any hk hg hH
  unfold ptr at hC ⊢
  go_enter Tryz.func80, Tryz.ntmps80
  go_wp2_with fail
  refine hC.mono ?_
  intro e w1 h
  have HX := Lib.hid h
  obtain ⟨gf, lb, Pre, own, rfl, hX⟩ := h
  clear hX hC
  go_wp2_with fail
  go_ret
  exact HX.out
 ·have hC := Down_any hk hg hH
  unfold ptr at hC ⊢
  go_enter Tryz.func80, Tryz.ntmps80
  go_wp2_with fail
  refine hC.mono ?_
  intro e w1 h
  have HX := Lib.hid h
  obtain ⟨gf, lb, Pre, own, rfl, hX⟩ := h
  clear hX hC
  go_wp2_with fail
  go_ret
  exact HX.out
end Go.Proofs.YtdmobhndbibhoaaGreat
