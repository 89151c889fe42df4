/- chroma's up, side, violation. -/
import Derived.Test.YtdmobhndbibhoaaGreatA16
namespace Go.Proofs.YtdmobhndbibhoaaGreat
set_option linter.unusedVariables false
set_option linter.unusedSimpArgs false
open Go.RowKit Larch
set_option maxRecDepth 100000
attribute [local go_sem ↓] Go.wp_at_zero Go.wp_at_succ
set_option maxHeartbeats 400000 in
theorem up_some {pb cap n k : Nat} {p : Option Addr} {w : World} (hn : n < 1000000) (hk' : k < n) (hc : w.cell? ⟨pb, n - 1 - k, none⟩ = some (.pointer p)) :
 Calls Tryz.prog 233 #[.slice (some ⟨pb, 0, none⟩) n cap, .int .i64 k] w fun e w' => e = .returned (.pointer p) ∧ w = w' := by
 obtain ⟨j, hj⟩ : ∃ j, n - 1 - k = j := ⟨_, rfl⟩
 rw [hj] at hc
 have hjn : n = j + k + 1 := by omega
 subst hjn
 have h1 : ¬ ((k : Int) ≥ ((j + k + 1 : Nat) : Int)) := by omega
 go_enter Tryz.func233, Tryz.ntmps233
 go_wp2_with fail
 go_ret
 exact ⟨rfl, rfl⟩
set_option maxHeartbeats 400000 in
theorem up_none {n k cap : Nat} {a : Option Addr} {w : World} (hk' : n ≤ k) :
 Calls Tryz.prog 233 #[.slice a n cap, .int .i64 k] w fun e w' => e = .returned (.pointer none) ∧ w = w' := by
 have h1 : ((k : Int) ≥ (n : Int)) := by omega
 go_enter Tryz.func233, Tryz.ntmps233
 go_wp2_with fail
 go_ret
 exact ⟨rfl, rfl⟩
def PathAt (g : Gt) (w : World) (c : List HFr) (t : HTree) (b cap : Nat) : Prop :=
 Row g w 99 1 (.slice (some ⟨b, 0, none⟩) (c.length + 1) cap) (c.length + 1) ((wayB c ++ [t.ann.1]).map ptr)
theorem PathAt.fr0 {g : Gt} {w w' : World} {c : List HFr} {t : HTree} {b cap : Nat} (h : PathAt g w c t b cap) (hf : Fr g No w w') : PathAt g w' c t b cap := Row.fr h hf (fun _ _ h => h)
theorem PathAt.cell {g : Gt} {w : World} {c : List HFr} {t : HTree} {b cap : Nat} (h : PathAt g w c t b cap) (j : Nat) (hj : j ≤ c.length) : w.cell? ⟨b, c.length - j, none⟩ = some (.pointer (lastB c t j)) := by
 rw [Row.cell h (c.length - j) (by omega)]; exact wayB_get c t j hj
theorem lastB_none (c : List HFr) (t : HTree) (k : Nat) (hk : ¬ k ≤ c.length) : lastB c t k = none := by
 cases k with
 | zero => omega
 | succ k => simp only [lastB, List.getElem?_eq_none (show c.length ≤ k by omega)]; rfl
theorem up_any {g : Gt} {w : World} {c : List HFr} {t : HTree} {b cap : Nat} (k : Nat) (h : PathAt g w c t b cap) (hn : c.length < 900000) :
 Calls Tryz.prog 233 #[.slice (some ⟨b, 0, none⟩) (c.length + 1) cap, .int .i64 k] w fun e w' => e = .returned (.pointer (lastB c t k)) ∧ w = w' := by
 by_cases hk : k ≤ c.length
 ·exact up_some (by omega) (by omega) (by rw [show c.length + 1 - 1 - k = c.length - k from by omega]; exact h.cell k hk)
 ·rw [lastB_none c t k hk]
  exact up_none (by omega)
section
variable {g : Gt} {n b fb c0 c1 : Nat} {w : World} {d : It}
set_option maxHeartbeats 400000 in
theorem side_any (s : Bool) (hg : GOk g n w) (hn : n < LIM) (hnd : NodeAt g w b fb d false [c0, c1]) :
 Calls Tryz.prog 235 #[gval g, ptr b, .int .i64 (if s then 1 else 0)] w fun e w' => e = .returned (ptr (if s then c1 else c0)) ∧ Fr g No w w' ∧ GOk g (n + 1) w' := by
 cases s with
 | false =>
   simp only [Bool.false_eq_true, if_false]
   go_enter Tryz.func235, Tryz.ntmps235
   go_wp2_with (go_at_call 145; refine (Left_inner hg hn hnd).mono ?_; rintro e w1 ⟨rfl, hf1, hg1⟩)
   go_ret
   exact ⟨rfl, hf1, hg1⟩
 | true =>
   simp only [if_true]
   go_enter Tryz.func235, Tryz.ntmps235
   go_wp2_with (go_at_call 146; refine (Right_inner hg hn hnd).mono ?_; rintro e w1 ⟨rfl, hf1, hg1⟩)
   go_ret
   exact ⟨rfl, hf1, hg1⟩
end
def ViolR (g : Gt) (n : Nat) (z : Option (List HFr × HTree)) (w : World) (e : Ending) (w' : World) : Prop :=
 (match z with
 | none => ∃ v, e = .returned (.tuple #[v, .bool false])
 | some (c, t) => ∃ b cap, e = .returned (.tuple #[.slice (some ⟨b, 0, none⟩) (c.length + 1) cap, .bool true]) ∧ PathAt g w' c t b cap) ∧ Fr g No w w' ∧ GOk g n w'
set_option maxHeartbeats 4000000 in
theorem violation_any {g : Gt} {n : Nat} {key : Int} {t0 : HTree} {w : World} (hg : GOk g n w) (hn : n + t0.size < LIM) (hsz : t0.size < 1000000) (ht : HT g w t0) :
 Calls Tryz.prog 190 #[gval g, ptr t0.ann.1, .int .i64 key] w (ViolR g (n + t0.size) (viol key [] t0) w) := by
 have HT0 := Lib.hid ht
 have hrec : IsRec w t0.ann.1 := ht.isRec
 clear ht
 obtain ⟨root, hroot⟩ : ∃ r, t0.ann.1 = r := ⟨_, rfl⟩
 rw [hroot] at hrec ⊢
 have HR := Lib.hid hroot
 clear hroot
 unfold ptr
 go_enter Tryz.func190, Tryz.ntmps190
 go_wp2_with fail
 have hF0 := Fr.alloc g No w (.cells #[.pointer (some ⟨root, 0, none⟩)] 99) hg
 have hG0 := hg.alloc (.cells #[.pointer (some ⟨root, 0, none⟩)] 99)
 have hN0 := At.new hg (.cells #[.pointer (some ⟨root, 0, none⟩)] 99)
 go_loopw [8, 9] (fun v q wr => ∃ (c : List HFr) (t : HTree) (a : Nat), Hid (t.ann.1 = a) ∧ q = .pointer (some ⟨a, 0, none⟩) ∧ Hid (viol key c t = viol key [] t0) ∧ Hid (c.length + t.size ≤ t0.size) ∧ Hid (HT g wr t) ∧
  Fr g No w wr ∧ GOk g (n + c.length) wr ∧ Row g wr 99 1 v (c.length + 1) ((wayB c ++ [a]).map ptr) ∧ (∀ b, v.ownBlock = some b → w.heap.size ≤ b))
  (fun v _ _ => t0.size + 1 - lenOf v)
 case atStart =>
  refine ⟨[], t0, root, HR, rfl, rfl, by simp [Hid], HT0.out.fr0 hF0, hF0, hG0, ⟨rfl, .inr ⟨_, 1, _, rfl, by simp, by decide, hN0, rfl, rfl⟩⟩, fun b h => by simp [Value.ownBlock] at h; omega⟩
 case round =>
  obtain ⟨c, t, a, ha, rfl, hway, hlen, ht, hFr, hGr, hrow, hnew⟩ := hrel
  have HRow := Lib.hid hrow
  have HNew := Lib.hid hnew
  obtain ⟨pa, pc, rfl⟩ := hrow.slice
  clear hrow hnew
  cases t with
  | leaf x d =>
    obtain ⟨info, hr⟩ := NodeAt.rec ht.out
    rw [show x.1 = a from ha.out] at hr
    have h4 := rc4 hr
    go_wp2_with fail
    go_ret2
    have e := hway.out.symm
    simp only [viol] at e
    rw [e]
    have := hlen.out
    simp only [T.size] at this
    exact ⟨⟨_, rfl⟩, hFr, hGr.mono (by omega)⟩
  | node x d l r =>
    obtain ⟨info, hr⟩ := NodeAt.rec ht.out.1
    rw [show x.1 = a from ha.out] at hr
    have h4 := rc4 hr
    have p1 := rc1 hr
    have p2 := rc2 hr
    have hnd := ht.out.1
    rw [show x.1 = a from ha.out] at hnd
    obtain ⟨lb, hlb⟩ : ∃ q : Nat, l.ann.1 = q := ⟨_, rfl⟩
    obtain ⟨rb, hrb⟩ : ∃ q : Nat, r.ann.1 = q := ⟨_, rfl⟩
    rw [hlb, hrb] at hnd
    obtain ⟨il, ql⟩ := ht.out.2.1.nd.rec
    obtain ⟨ir, qr⟩ := ht.out.2.2.nd.rec
    rw [hlb] at ql
    rw [hrb] at qr
    have HL := Lib.hid hlb
    have HRb := Lib.hid hrb
    have hlen2 := hlen.out
    simp only [T.size] at hlen2
    have hls := T.size_pos l
    have hrs := T.size_pos r
    clear hlb hrb
    cases hb : below key d with
    | true =>
      have hw2 : (if bad d l.it then some (⟨x, d, false, r⟩ :: c, l) else viol key (⟨x, d, false, r⟩ :: c) l) = viol key [] t0 := by rw [← hway.out]; simp only [viol, hb, if_true]
      have HW2 := Lib.hid hw2
      clear hw2
      cases e1 : (l.it.i == 1) with
      | true =>
        have hbad : bad d l.it = false := by simp [bad] at e1 ⊢; simp [e1]
        have HW3 : viol key (⟨x, d, false, r⟩ :: c) l = viol key [] t0 := by rw [← HW2.out, if_neg]; rw [hbad]; simp
        have HW3 := Lib.hid HW3
        go_wp2_with (first
         |(go_at_call 136; refine (Below_any key hr).mono ?_; rintro e w1 ⟨rfl, rfl⟩; rw [hb])
         |(go_at_call 145; refine (Left_inner hGr (by omega) hnd).mono ?_; rintro e w1 ⟨rfl, hf1, hg1⟩; have hr1 := hf1.at hr id; unfold ptr)
         |(at_builtin
           refine wpList_append_fr rfl _ _ 192 rfl 99 (.pointer none) 1 8 Tryz.underlying192 Tryz.info99 rfl (by decide) (by decide) (hg1.alloc _) (.slice pa (c.length + 1) pc) (c.length + 1) ((wayB c ++ [a]).map ptr) rfl ((HRow.out.fr hf1 (fun _ _ h => h)).fr (Fr.alloc g No _ _ hg1) (fun _ _ h => h)) ⟨w1.heap.size, 0, none⟩ 1 1 [.pointer (some ⟨lb, 0, none⟩)] rfl rfl (cell_one_at rfl) (by simp [Value.oneCell']) (by simp only [maxLen]; omega) (by omega) (by decide) ?_
           intro v2 w2 happ
           have hsz1 := hf1.size
           have hA := app_gen happ (Fr.alloc g No w1 _ hg1) HNew.out (by have := hFr.size; omega)
           clear happ
           obtain ⟨hf2, hg2, b2, cap2, rfl, hr3, hb2, hb3⟩ := hA
           have hnot := HRow.out.fr hf1 (fun _ _ h => h)
           have k1 := hf2.at (hf1.at ql id) (fun h => hnot.notin (hf1.at ql id) (by decide) h)
           have k2 := hf2.at hr1 (fun h => hnot.notin hr1 (by decide) h)
           have c1 := rc1 k1
           have c2 := rc2 k1
           have c3 := rc1 k2
           have c4 := rc2 k2
           have HA := Lib.hid (And.intro hf2 (And.intro hr3 hb2))
           clear hf2 hr3 hb2 hb3 hnot)
         |(go_at_call 232; first | (refine (weight_any k1).mono ?_; rintro e w5 ⟨rfl, rfl⟩) | (refine (weight_any k2).mono ?_; rintro e w5 ⟨rfl, rfl⟩)))
        go_roundw
        case rel =>
         obtain ⟨hf2, hr3, hb2⟩ := HA.out
         refine ⟨⟨x, d, false, r⟩ :: c, l, lb, HL, rfl, HW3, by simp only [List.length_cons]; show _ ≤ _; omega, ?_, ?_, ?_, ?_, fun b h => by simp [Value.ownBlock] at h; omega⟩
         ·exact (ht.out.2.1.fr0 hf1).fr hf2 (fun q cs U hc hT h => by
           have := HRow.out.fr hf1 (fun _ _ h => h)
           exact this.notin hc (by rcases hT with rfl | rfl | rfl <;> decide) h)
         ·exact (hFr.tr hf1).trans hf2 (fun _ _ h => h) (fun q hq h => by have := HNew.out q h; omega)
         ·simp only [List.length_cons]; exact hg2.mono (by omega)
         ·rw [wayB_cons]
          simp only [List.length_cons, List.map_append, List.map_cons, List.map_nil] at hr3 ⊢
          rw [show x.1 = a from ha.out]
          exact hr3
        case measure => simp [lenOf]; omega
      | false =>
        by_cases e2 : l.it.w > 1
        ·have hbad : bad d l.it = true := by simp [bad] at e1 ⊢; simp [e1, e2]
         have HW3 : some (⟨x, d, false, r⟩ :: c, l) = viol key [] t0 := by rw [← HW2.out, if_pos hbad]
         have HW3 := Lib.hid HW3
         go_wp2_with (first
          |(go_at_call 136; refine (Below_any key hr).mono ?_; rintro e w1 ⟨rfl, rfl⟩; rw [hb])
          |(go_at_call 145; refine (Left_inner hGr (by omega) hnd).mono ?_; rintro e w1 ⟨rfl, hf1, hg1⟩; have hr1 := hf1.at hr id; unfold ptr)
          |(at_builtin
            refine wpList_append_fr rfl _ _ 192 rfl 99 (.pointer none) 1 8 Tryz.underlying192 Tryz.info99 rfl (by decide) (by decide) (hg1.alloc _) (.slice pa (c.length + 1) pc) (c.length + 1) ((wayB c ++ [a]).map ptr) rfl ((HRow.out.fr hf1 (fun _ _ h => h)).fr (Fr.alloc g No _ _ hg1) (fun _ _ h => h)) ⟨w1.heap.size, 0, none⟩ 1 1 [.pointer (some ⟨lb, 0, none⟩)] rfl rfl (cell_one_at rfl) (by simp [Value.oneCell']) (by simp only [maxLen]; omega) (by omega) (by decide) ?_
            intro v2 w2 happ
            have hsz1 := hf1.size
            have hA := app_gen happ (Fr.alloc g No w1 _ hg1) HNew.out (by have := hFr.size; omega)
            clear happ
            obtain ⟨hf2, hg2, b2, cap2, rfl, hr3, hb2, hb3⟩ := hA
            have hnot := HRow.out.fr hf1 (fun _ _ h => h)
            have k1 := hf2.at (hf1.at ql id) (fun h => hnot.notin (hf1.at ql id) (by decide) h)
            have k2 := hf2.at hr1 (fun h => hnot.notin hr1 (by decide) h)
            have c1 := rc1 k1
            have c2 := rc2 k1
            have c3 := rc1 k2
            have c4 := rc2 k2
            have HA := Lib.hid (And.intro hf2 (And.intro hr3 hb2))
            clear hf2 hr3 hb2 hb3 hnot)
          |(go_at_call 232; first | (refine (weight_any k1).mono ?_; rintro e w5 ⟨rfl, rfl⟩) | (refine (weight_any k2).mono ?_; rintro e w5 ⟨rfl, rfl⟩)))
         go_ret2
         obtain ⟨hf2, hr3, hb2⟩ := HA.out
         rw [← HW3.out]
         refine ⟨⟨b2, cap2, rfl, ?_⟩, (hFr.tr hf1).trans hf2 (fun _ _ h => h) (fun q hq h => by have := HNew.out q h; omega), hg2.mono (by omega)⟩
         simp only [PathAt, wayB_cons, List.length_cons, List.map_append, List.map_cons, List.map_nil] at hr3 ⊢
         rw [show x.1 = a from ha.out, show l.ann.1 = lb from HL.out]
         exact hr3
        ·cases e3 : (l.it.w == 0) with
         | false =>
           have hbad : bad d l.it = false := by simp [bad] at e1 e3 ⊢; intro _; exact ⟨by omega, fun h => absurd h e3⟩
           have HW3 : viol key (⟨x, d, false, r⟩ :: c) l = viol key [] t0 := by rw [← HW2.out, if_neg]; rw [hbad]; simp
           have HW3 := Lib.hid HW3
           go_wp2_with (first
            |(go_at_call 136; refine (Below_any key hr).mono ?_; rintro e w1 ⟨rfl, rfl⟩; rw [hb])
            |(go_at_call 145; refine (Left_inner hGr (by omega) hnd).mono ?_; rintro e w1 ⟨rfl, hf1, hg1⟩; have hr1 := hf1.at hr id; unfold ptr)
            |(at_builtin
              refine wpList_append_fr rfl _ _ 192 rfl 99 (.pointer none) 1 8 Tryz.underlying192 Tryz.info99 rfl (by decide) (by decide) (hg1.alloc _) (.slice pa (c.length + 1) pc) (c.length + 1) ((wayB c ++ [a]).map ptr) rfl ((HRow.out.fr hf1 (fun _ _ h => h)).fr (Fr.alloc g No _ _ hg1) (fun _ _ h => h)) ⟨w1.heap.size, 0, none⟩ 1 1 [.pointer (some ⟨lb, 0, none⟩)] rfl rfl (cell_one_at rfl) (by simp [Value.oneCell']) (by simp only [maxLen]; omega) (by omega) (by decide) ?_
              intro v2 w2 happ
              have hsz1 := hf1.size
              have hA := app_gen happ (Fr.alloc g No w1 _ hg1) HNew.out (by have := hFr.size; omega)
              clear happ
              obtain ⟨hf2, hg2, b2, cap2, rfl, hr3, hb2, hb3⟩ := hA
              have hnot := HRow.out.fr hf1 (fun _ _ h => h)
              have k1 := hf2.at (hf1.at ql id) (fun h => hnot.notin (hf1.at ql id) (by decide) h)
              have k2 := hf2.at hr1 (fun h => hnot.notin hr1 (by decide) h)
              have c1 := rc1 k1
              have c2 := rc2 k1
              have c3 := rc1 k2
              have c4 := rc2 k2
              have HA := Lib.hid (And.intro hf2 (And.intro hr3 hb2))
              clear hf2 hr3 hb2 hb3 hnot)
            |(go_at_call 232; first | (refine (weight_any k1).mono ?_; rintro e w5 ⟨rfl, rfl⟩) | (refine (weight_any k2).mono ?_; rintro e w5 ⟨rfl, rfl⟩)))
           go_roundw
           case rel =>
            obtain ⟨hf2, hr3, hb2⟩ := HA.out
            refine ⟨⟨x, d, false, r⟩ :: c, l, lb, HL, rfl, HW3, by simp only [List.length_cons]; show _ ≤ _; omega, ?_, ?_, ?_, ?_, fun b h => by simp [Value.ownBlock] at h; omega⟩
            ·exact (ht.out.2.1.fr0 hf1).fr hf2 (fun q cs U hc hT h => by
              have := HRow.out.fr hf1 (fun _ _ h => h)
              exact this.notin hc (by rcases hT with rfl | rfl | rfl <;> decide) h)
            ·exact (hFr.tr hf1).trans hf2 (fun _ _ h => h) (fun q hq h => by have := HNew.out q h; omega)
            ·simp only [List.length_cons]; exact hg2.mono (by omega)
            ·rw [wayB_cons]
             simp only [List.length_cons, List.map_append, List.map_cons, List.map_nil] at hr3 ⊢
             rw [show x.1 = a from ha.out]
             exact hr3
           case measure => simp [lenOf]; omega
         | true =>
           cases e4 : (d.i == 0) with
           | false =>
             have hbad : bad d l.it = false := by simp [bad] at e1 e3 e4 ⊢; intro _; exact ⟨by omega, fun _ h => absurd h e4⟩
             have HW3 : viol key (⟨x, d, false, r⟩ :: c) l = viol key [] t0 := by rw [← HW2.out, if_neg]; rw [hbad]; simp
             have HW3 := Lib.hid HW3
             go_wp2_with (first
              |(go_at_call 136; refine (Below_any key hr).mono ?_; rintro e w1 ⟨rfl, rfl⟩; rw [hb])
              |(go_at_call 145; refine (Left_inner hGr (by omega) hnd).mono ?_; rintro e w1 ⟨rfl, hf1, hg1⟩; have hr1 := hf1.at hr id; unfold ptr)
              |(at_builtin
                refine wpList_append_fr rfl _ _ 192 rfl 99 (.pointer none) 1 8 Tryz.underlying192 Tryz.info99 rfl (by decide) (by decide) (hg1.alloc _) (.slice pa (c.length + 1) pc) (c.length + 1) ((wayB c ++ [a]).map ptr) rfl ((HRow.out.fr hf1 (fun _ _ h => h)).fr (Fr.alloc g No _ _ hg1) (fun _ _ h => h)) ⟨w1.heap.size, 0, none⟩ 1 1 [.pointer (some ⟨lb, 0, none⟩)] rfl rfl (cell_one_at rfl) (by simp [Value.oneCell']) (by simp only [maxLen]; omega) (by omega) (by decide) ?_
                intro v2 w2 happ
                have hsz1 := hf1.size
                have hA := app_gen happ (Fr.alloc g No w1 _ hg1) HNew.out (by have := hFr.size; omega)
                clear happ
                obtain ⟨hf2, hg2, b2, cap2, rfl, hr3, hb2, hb3⟩ := hA
                have hnot := HRow.out.fr hf1 (fun _ _ h => h)
                have k1 := hf2.at (hf1.at ql id) (fun h => hnot.notin (hf1.at ql id) (by decide) h)
                have k2 := hf2.at hr1 (fun h => hnot.notin hr1 (by decide) h)
                have c1 := rc1 k1
                have c2 := rc2 k1
                have c3 := rc1 k2
                have c4 := rc2 k2
                have HA := Lib.hid (And.intro hf2 (And.intro hr3 hb2))
                clear hf2 hr3 hb2 hb3 hnot)
              |(go_at_call 232; first | (refine (weight_any k1).mono ?_; rintro e w5 ⟨rfl, rfl⟩) | (refine (weight_any k2).mono ?_; rintro e w5 ⟨rfl, rfl⟩)))
             go_roundw
             case rel =>
              obtain ⟨hf2, hr3, hb2⟩ := HA.out
              refine ⟨⟨x, d, false, r⟩ :: c, l, lb, HL, rfl, HW3, by simp only [List.length_cons]; show _ ≤ _; omega, ?_, ?_, ?_, ?_, fun b h => by simp [Value.ownBlock] at h; omega⟩
              ·exact (ht.out.2.1.fr0 hf1).fr hf2 (fun q cs U hc hT h => by
                have := HRow.out.fr hf1 (fun _ _ h => h)
                exact this.notin hc (by rcases hT with rfl | rfl | rfl <;> decide) h)
              ·exact (hFr.tr hf1).trans hf2 (fun _ _ h => h) (fun q hq h => by have := HNew.out q h; omega)
              ·simp only [List.length_cons]; exact hg2.mono (by omega)
              ·rw [wayB_cons]
               simp only [List.length_cons, List.map_append, List.map_cons, List.map_nil] at hr3 ⊢
               rw [show x.1 = a from ha.out]
               exact hr3
             case measure => simp [lenOf]; omega
           | true =>
             cases e5 : (d.w == 0) with
             | false =>
               have hbad : bad d l.it = false := by simp [bad] at e1 e3 e4 e5 ⊢; intro _; exact ⟨by omega, fun _ _ => e5⟩
               have HW3 : viol key (⟨x, d, false, r⟩ :: c) l = viol key [] t0 := by rw [← HW2.out, if_neg]; rw [hbad]; simp
               have HW3 := Lib.hid HW3
               go_wp2_with (first
                |(go_at_call 136; refine (Below_any key hr).mono ?_; rintro e w1 ⟨rfl, rfl⟩; rw [hb])
                |(go_at_call 145; refine (Left_inner hGr (by omega) hnd).mono ?_; rintro e w1 ⟨rfl, hf1, hg1⟩; have hr1 := hf1.at hr id; unfold ptr)
                |(at_builtin
                  refine wpList_append_fr rfl _ _ 192 rfl 99 (.pointer none) 1 8 Tryz.underlying192 Tryz.info99 rfl (by decide) (by decide) (hg1.alloc _) (.slice pa (c.length + 1) pc) (c.length + 1) ((wayB c ++ [a]).map ptr) rfl ((HRow.out.fr hf1 (fun _ _ h => h)).fr (Fr.alloc g No _ _ hg1) (fun _ _ h => h)) ⟨w1.heap.size, 0, none⟩ 1 1 [.pointer (some ⟨lb, 0, none⟩)] rfl rfl (cell_one_at rfl) (by simp [Value.oneCell']) (by simp only [maxLen]; omega) (by omega) (by decide) ?_
                  intro v2 w2 happ
                  have hsz1 := hf1.size
                  have hA := app_gen happ (Fr.alloc g No w1 _ hg1) HNew.out (by have := hFr.size; omega)
                  clear happ
                  obtain ⟨hf2, hg2, b2, cap2, rfl, hr3, hb2, hb3⟩ := hA
                  have hnot := HRow.out.fr hf1 (fun _ _ h => h)
                  have k1 := hf2.at (hf1.at ql id) (fun h => hnot.notin (hf1.at ql id) (by decide) h)
                  have k2 := hf2.at hr1 (fun h => hnot.notin hr1 (by decide) h)
                  have c1 := rc1 k1
                  have c2 := rc2 k1
                  have c3 := rc1 k2
                  have c4 := rc2 k2
                  have HA := Lib.hid (And.intro hf2 (And.intro hr3 hb2))
                  clear hf2 hr3 hb2 hb3 hnot)
                |(go_at_call 232; first | (refine (weight_any k1).mono ?_; rintro e w5 ⟨rfl, rfl⟩) | (refine (weight_any k2).mono ?_; rintro e w5 ⟨rfl, rfl⟩)))
               go_roundw
               case rel =>
                obtain ⟨hf2, hr3, hb2⟩ := HA.out
                refine ⟨⟨x, d, false, r⟩ :: c, l, lb, HL, rfl, HW3, by simp only [List.length_cons]; show _ ≤ _; omega, ?_, ?_, ?_, ?_, fun b h => by simp [Value.ownBlock] at h; omega⟩
                ·exact (ht.out.2.1.fr0 hf1).fr hf2 (fun q cs U hc hT h => by
                  have := HRow.out.fr hf1 (fun _ _ h => h)
                  exact this.notin hc (by rcases hT with rfl | rfl | rfl <;> decide) h)
                ·exact (hFr.tr hf1).trans hf2 (fun _ _ h => h) (fun q hq h => by have := HNew.out q h; omega)
                ·simp only [List.length_cons]; exact hg2.mono (by omega)
                ·rw [wayB_cons]
                 simp only [List.length_cons, List.map_append, List.map_cons, List.map_nil] at hr3 ⊢
                 rw [show x.1 = a from ha.out]
                 exact hr3
               case measure => simp [lenOf]; omega
             | true =>
               have hbad : bad d l.it = true := by simp [bad] at e1 e3 e4 e5 ⊢; exact ⟨e1, .inr ⟨⟨e3, e4⟩, e5⟩⟩
               have HW3 : some (⟨x, d, false, r⟩ :: c, l) = viol key [] t0 := by rw [← HW2.out, if_pos hbad]
               have HW3 := Lib.hid HW3
               go_wp2_with (first
                |(go_at_call 136; refine (Below_any key hr).mono ?_; rintro e w1 ⟨rfl, rfl⟩; rw [hb])
                |(go_at_call 145; refine (Left_inner hGr (by omega) hnd).mono ?_; rintro e w1 ⟨rfl, hf1, hg1⟩; have hr1 := hf1.at hr id; unfold ptr)
                |(at_builtin
                  refine wpList_append_fr rfl _ _ 192 rfl 99 (.pointer none) 1 8 Tryz.underlying192 Tryz.info99 rfl (by decide) (by decide) (hg1.alloc _) (.slice pa (c.length + 1) pc) (c.length + 1) ((wayB c ++ [a]).map ptr) rfl ((HRow.out.fr hf1 (fun _ _ h => h)).fr (Fr.alloc g No _ _ hg1) (fun _ _ h => h)) ⟨w1.heap.size, 0, none⟩ 1 1 [.pointer (some ⟨lb, 0, none⟩)] rfl rfl (cell_one_at rfl) (by simp [Value.oneCell']) (by simp only [maxLen]; omega) (by omega) (by decide) ?_
                  intro v2 w2 happ
                  have hsz1 := hf1.size
                  have hA := app_gen happ (Fr.alloc g No w1 _ hg1) HNew.out (by have := hFr.size; omega)
                  clear happ
                  obtain ⟨hf2, hg2, b2, cap2, rfl, hr3, hb2, hb3⟩ := hA
                  have hnot := HRow.out.fr hf1 (fun _ _ h => h)
                  have k1 := hf2.at (hf1.at ql id) (fun h => hnot.notin (hf1.at ql id) (by decide) h)
                  have k2 := hf2.at hr1 (fun h => hnot.notin hr1 (by decide) h)
                  have c1 := rc1 k1
                  have c2 := rc2 k1
                  have c3 := rc1 k2
                  have c4 := rc2 k2
                  have HA := Lib.hid (And.intro hf2 (And.intro hr3 hb2))
                  clear hf2 hr3 hb2 hb3 hnot)
                |(go_at_call 232; first | (refine (weight_any k1).mono ?_; rintro e w5 ⟨rfl, rfl⟩) | (refine (weight_any k2).mono ?_; rintro e w5 ⟨rfl, rfl⟩)))
               go_ret2
               obtain ⟨hf2, hr3, hb2⟩ := HA.out
               rw [← HW3.out]
               refine ⟨⟨b2, cap2, rfl, ?_⟩, (hFr.tr hf1).trans hf2 (fun _ _ h => h) (fun q hq h => by have := HNew.out q h; omega), hg2.mono (by omega)⟩
               simp only [PathAt, wayB_cons, List.length_cons, List.map_append, List.map_cons, List.map_nil] at hr3 ⊢
               rw [show x.1 = a from ha.out, show l.ann.1 = lb from HL.out]
               exact hr3
    | false =>
      have hw2 : (if bad d r.it then some (⟨x, d, true, l⟩ :: c, r) else viol key (⟨x, d, true, l⟩ :: c) r) = viol key [] t0 := by rw [← hway.out]; simp only [viol, hb, Bool.false_eq_true, if_false]
      have HW2 := Lib.hid hw2
      clear hw2
      cases e1 : (r.it.i == 1) with
      | true =>
        have hbad : bad d r.it = false := by simp [bad] at e1 ⊢; simp [e1]
        have HW3 : viol key (⟨x, d, true, l⟩ :: c) r = viol key [] t0 := by rw [← HW2.out, if_neg]; rw [hbad]; simp
        have HW3 := Lib.hid HW3
        go_wp2_with (first
         |(go_at_call 136; refine (Below_any key hr).mono ?_; rintro e w1 ⟨rfl, rfl⟩; rw [hb])
         |(go_at_call 146; refine (Right_inner hGr (by omega) hnd).mono ?_; rintro e w1 ⟨rfl, hf1, hg1⟩; have hr1 := hf1.at hr id; unfold ptr)
         |(at_builtin
           refine wpList_append_fr rfl _ _ 192 rfl 99 (.pointer none) 1 8 Tryz.underlying192 Tryz.info99 rfl (by decide) (by decide) (hg1.alloc _) (.slice pa (c.length + 1) pc) (c.length + 1) ((wayB c ++ [a]).map ptr) rfl ((HRow.out.fr hf1 (fun _ _ h => h)).fr (Fr.alloc g No _ _ hg1) (fun _ _ h => h)) ⟨w1.heap.size, 0, none⟩ 1 1 [.pointer (some ⟨rb, 0, none⟩)] rfl rfl (cell_one_at rfl) (by simp [Value.oneCell']) (by simp only [maxLen]; omega) (by omega) (by decide) ?_
           intro v2 w2 happ
           have hsz1 := hf1.size
           have hA := app_gen happ (Fr.alloc g No w1 _ hg1) HNew.out (by have := hFr.size; omega)
           clear happ
           obtain ⟨hf2, hg2, b2, cap2, rfl, hr3, hb2, hb3⟩ := hA
           have hnot := HRow.out.fr hf1 (fun _ _ h => h)
           have k1 := hf2.at (hf1.at qr id) (fun h => hnot.notin (hf1.at qr id) (by decide) h)
           have k2 := hf2.at hr1 (fun h => hnot.notin hr1 (by decide) h)
           have c1 := rc1 k1
           have c2 := rc2 k1
           have c3 := rc1 k2
           have c4 := rc2 k2
           have HA := Lib.hid (And.intro hf2 (And.intro hr3 hb2))
           clear hf2 hr3 hb2 hb3 hnot)
         |(go_at_call 232; first | (refine (weight_any k1).mono ?_; rintro e w5 ⟨rfl, rfl⟩) | (refine (weight_any k2).mono ?_; rintro e w5 ⟨rfl, rfl⟩)))
        go_roundw
        case rel =>
         obtain ⟨hf2, hr3, hb2⟩ := HA.out
         refine ⟨⟨x, d, true, l⟩ :: c, r, rb, HRb, rfl, HW3, by simp only [List.length_cons]; show _ ≤ _; omega, ?_, ?_, ?_, ?_, fun b h => by simp [Value.ownBlock] at h; omega⟩
         ·exact (ht.out.2.2.fr0 hf1).fr hf2 (fun q cs U hc hT h => by
           have := HRow.out.fr hf1 (fun _ _ h => h)
           exact this.notin hc (by rcases hT with rfl | rfl | rfl <;> decide) h)
         ·exact (hFr.tr hf1).trans hf2 (fun _ _ h => h) (fun q hq h => by have := HNew.out q h; omega)
         ·simp only [List.length_cons]; exact hg2.mono (by omega)
         ·rw [wayB_cons]
          simp only [List.length_cons, List.map_append, List.map_cons, List.map_nil] at hr3 ⊢
          rw [show x.1 = a from ha.out]
          exact hr3
        case measure => simp [lenOf]; omega
      | false =>
        by_cases e2 : r.it.w > 1
        ·have hbad : bad d r.it = true := by simp [bad] at e1 ⊢; simp [e1, e2]
         have HW3 : some (⟨x, d, true, l⟩ :: c, r) = viol key [] t0 := by rw [← HW2.out, if_pos hbad]
         have HW3 := Lib.hid HW3
         go_wp2_with (first
          |(go_at_call 136; refine (Below_any key hr).mono ?_; rintro e w1 ⟨rfl, rfl⟩; rw [hb])
          |(go_at_call 146; refine (Right_inner hGr (by omega) hnd).mono ?_; rintro e w1 ⟨rfl, hf1, hg1⟩; have hr1 := hf1.at hr id; unfold ptr)
          |(at_builtin
            refine wpList_append_fr rfl _ _ 192 rfl 99 (.pointer none) 1 8 Tryz.underlying192 Tryz.info99 rfl (by decide) (by decide) (hg1.alloc _) (.slice pa (c.length + 1) pc) (c.length + 1) ((wayB c ++ [a]).map ptr) rfl ((HRow.out.fr hf1 (fun _ _ h => h)).fr (Fr.alloc g No _ _ hg1) (fun _ _ h => h)) ⟨w1.heap.size, 0, none⟩ 1 1 [.pointer (some ⟨rb, 0, none⟩)] rfl rfl (cell_one_at rfl) (by simp [Value.oneCell']) (by simp only [maxLen]; omega) (by omega) (by decide) ?_
            intro v2 w2 happ
            have hsz1 := hf1.size
            have hA := app_gen happ (Fr.alloc g No w1 _ hg1) HNew.out (by have := hFr.size; omega)
            clear happ
            obtain ⟨hf2, hg2, b2, cap2, rfl, hr3, hb2, hb3⟩ := hA
            have hnot := HRow.out.fr hf1 (fun _ _ h => h)
            have k1 := hf2.at (hf1.at qr id) (fun h => hnot.notin (hf1.at qr id) (by decide) h)
            have k2 := hf2.at hr1 (fun h => hnot.notin hr1 (by decide) h)
            have c1 := rc1 k1
            have c2 := rc2 k1
            have c3 := rc1 k2
            have c4 := rc2 k2
            have HA := Lib.hid (And.intro hf2 (And.intro hr3 hb2))
            clear hf2 hr3 hb2 hb3 hnot)
          |(go_at_call 232; first | (refine (weight_any k1).mono ?_; rintro e w5 ⟨rfl, rfl⟩) | (refine (weight_any k2).mono ?_; rintro e w5 ⟨rfl, rfl⟩)))
         go_ret2
         obtain ⟨hf2, hr3, hb2⟩ := HA.out
         rw [← HW3.out]
         refine ⟨⟨b2, cap2, rfl, ?_⟩, (hFr.tr hf1).trans hf2 (fun _ _ h => h) (fun q hq h => by have := HNew.out q h; omega), hg2.mono (by omega)⟩
         simp only [PathAt, wayB_cons, List.length_cons, List.map_append, List.map_cons, List.map_nil] at hr3 ⊢
         rw [show x.1 = a from ha.out, show r.ann.1 = rb from HRb.out]
         exact hr3
        ·cases e3 : (r.it.w == 0) with
         | false =>
           have hbad : bad d r.it = false := by simp [bad] at e1 e3 ⊢; intro _; exact ⟨by omega, fun h => absurd h e3⟩
           have HW3 : viol key (⟨x, d, true, l⟩ :: c) r = viol key [] t0 := by rw [← HW2.out, if_neg]; rw [hbad]; simp
           have HW3 := Lib.hid HW3
           go_wp2_with (first
            |(go_at_call 136; refine (Below_any key hr).mono ?_; rintro e w1 ⟨rfl, rfl⟩; rw [hb])
            |(go_at_call 146; refine (Right_inner hGr (by omega) hnd).mono ?_; rintro e w1 ⟨rfl, hf1, hg1⟩; have hr1 := hf1.at hr id; unfold ptr)
            |(at_builtin
              refine wpList_append_fr rfl _ _ 192 rfl 99 (.pointer none) 1 8 Tryz.underlying192 Tryz.info99 rfl (by decide) (by decide) (hg1.alloc _) (.slice pa (c.length + 1) pc) (c.length + 1) ((wayB c ++ [a]).map ptr) rfl ((HRow.out.fr hf1 (fun _ _ h => h)).fr (Fr.alloc g No _ _ hg1) (fun _ _ h => h)) ⟨w1.heap.size, 0, none⟩ 1 1 [.pointer (some ⟨rb, 0, none⟩)] rfl rfl (cell_one_at rfl) (by simp [Value.oneCell']) (by simp only [maxLen]; omega) (by omega) (by decide) ?_
              intro v2 w2 happ
              have hsz1 := hf1.size
              have hA := app_gen happ (Fr.alloc g No w1 _ hg1) HNew.out (by have := hFr.size; omega)
              clear happ
              obtain ⟨hf2, hg2, b2, cap2, rfl, hr3, hb2, hb3⟩ := hA
              have hnot := HRow.out.fr hf1 (fun _ _ h => h)
              have k1 := hf2.at (hf1.at qr id) (fun h => hnot.notin (hf1.at qr id) (by decide) h)
              have k2 := hf2.at hr1 (fun h => hnot.notin hr1 (by decide) h)
              have c1 := rc1 k1
              have c2 := rc2 k1
              have c3 := rc1 k2
              have c4 := rc2 k2
              have HA := Lib.hid (And.intro hf2 (And.intro hr3 hb2))
              clear hf2 hr3 hb2 hb3 hnot)
            |(go_at_call 232; first | (refine (weight_any k1).mono ?_; rintro e w5 ⟨rfl, rfl⟩) | (refine (weight_any k2).mono ?_; rintro e w5 ⟨rfl, rfl⟩)))
           go_roundw
           case rel =>
            obtain ⟨hf2, hr3, hb2⟩ := HA.out
            refine ⟨⟨x, d, true, l⟩ :: c, r, rb, HRb, rfl, HW3, by simp only [List.length_cons]; show _ ≤ _; omega, ?_, ?_, ?_, ?_, fun b h => by simp [Value.ownBlock] at h; omega⟩
            ·exact (ht.out.2.2.fr0 hf1).fr hf2 (fun q cs U hc hT h => by
              have := HRow.out.fr hf1 (fun _ _ h => h)
              exact this.notin hc (by rcases hT with rfl | rfl | rfl <;> decide) h)
            ·exact (hFr.tr hf1).trans hf2 (fun _ _ h => h) (fun q hq h => by have := HNew.out q h; omega)
            ·simp only [List.length_cons]; exact hg2.mono (by omega)
            ·rw [wayB_cons]
             simp only [List.length_cons, List.map_append, List.map_cons, List.map_nil] at hr3 ⊢
             rw [show x.1 = a from ha.out]
             exact hr3
           case measure => simp [lenOf]; omega
         | true =>
           cases e4 : (d.i == 0) with
           | false =>
             have hbad : bad d r.it = false := by simp [bad] at e1 e3 e4 ⊢; intro _; exact ⟨by omega, fun _ h => absurd h e4⟩
             have HW3 : viol key (⟨x, d, true, l⟩ :: c) r = viol key [] t0 := by rw [← HW2.out, if_neg]; rw [hbad]; simp
             have HW3 := Lib.hid HW3
             go_wp2_with (first
              |(go_at_call 136; refine (Below_any key hr).mono ?_; rintro e w1 ⟨rfl, rfl⟩; rw [hb])
              |(go_at_call 146; refine (Right_inner hGr (by omega) hnd).mono ?_; rintro e w1 ⟨rfl, hf1, hg1⟩; have hr1 := hf1.at hr id; unfold ptr)
              |(at_builtin
                refine wpList_append_fr rfl _ _ 192 rfl 99 (.pointer none) 1 8 Tryz.underlying192 Tryz.info99 rfl (by decide) (by decide) (hg1.alloc _) (.slice pa (c.length + 1) pc) (c.length + 1) ((wayB c ++ [a]).map ptr) rfl ((HRow.out.fr hf1 (fun _ _ h => h)).fr (Fr.alloc g No _ _ hg1) (fun _ _ h => h)) ⟨w1.heap.size, 0, none⟩ 1 1 [.pointer (some ⟨rb, 0, none⟩)] rfl rfl (cell_one_at rfl) (by simp [Value.oneCell']) (by simp only [maxLen]; omega) (by omega) (by decide) ?_
                intro v2 w2 happ
                have hsz1 := hf1.size
                have hA := app_gen happ (Fr.alloc g No w1 _ hg1) HNew.out (by have := hFr.size; omega)
                clear happ
                obtain ⟨hf2, hg2, b2, cap2, rfl, hr3, hb2, hb3⟩ := hA
                have hnot := HRow.out.fr hf1 (fun _ _ h => h)
                have k1 := hf2.at (hf1.at qr id) (fun h => hnot.notin (hf1.at qr id) (by decide) h)
                have k2 := hf2.at hr1 (fun h => hnot.notin hr1 (by decide) h)
                have c1 := rc1 k1
                have c2 := rc2 k1
                have c3 := rc1 k2
                have c4 := rc2 k2
                have HA := Lib.hid (And.intro hf2 (And.intro hr3 hb2))
                clear hf2 hr3 hb2 hb3 hnot)
              |(go_at_call 232; first | (refine (weight_any k1).mono ?_; rintro e w5 ⟨rfl, rfl⟩) | (refine (weight_any k2).mono ?_; rintro e w5 ⟨rfl, rfl⟩)))
             go_roundw
             case rel =>
              obtain ⟨hf2, hr3, hb2⟩ := HA.out
              refine ⟨⟨x, d, true, l⟩ :: c, r, rb, HRb, rfl, HW3, by simp only [List.length_cons]; show _ ≤ _; omega, ?_, ?_, ?_, ?_, fun b h => by simp [Value.ownBlock] at h; omega⟩
              ·exact (ht.out.2.2.fr0 hf1).fr hf2 (fun q cs U hc hT h => by
                have := HRow.out.fr hf1 (fun _ _ h => h)
                exact this.notin hc (by rcases hT with rfl | rfl | rfl <;> decide) h)
              ·exact (hFr.tr hf1).trans hf2 (fun _ _ h => h) (fun q hq h => by have := HNew.out q h; omega)
              ·simp only [List.length_cons]; exact hg2.mono (by omega)
              ·rw [wayB_cons]
               simp only [List.length_cons, List.map_append, List.map_cons, List.map_nil] at hr3 ⊢
               rw [show x.1 = a from ha.out]
               exact hr3
             case measure => simp [lenOf]; omega
           | true =>
             cases e5 : (d.w == 0) with
             | false =>
               have hbad : bad d r.it = false := by simp [bad] at e1 e3 e4 e5 ⊢; intro _; exact ⟨by omega, fun _ _ => e5⟩
               have HW3 : viol key (⟨x, d, true, l⟩ :: c) r = viol key [] t0 := by rw [← HW2.out, if_neg]; rw [hbad]; simp
               have HW3 := Lib.hid HW3
               go_wp2_with (first
                |(go_at_call 136; refine (Below_any key hr).mono ?_; rintro e w1 ⟨rfl, rfl⟩; rw [hb])
                |(go_at_call 146; refine (Right_inner hGr (by omega) hnd).mono ?_; rintro e w1 ⟨rfl, hf1, hg1⟩; have hr1 := hf1.at hr id; unfold ptr)
                |(at_builtin
                  refine wpList_append_fr rfl _ _ 192 rfl 99 (.pointer none) 1 8 Tryz.underlying192 Tryz.info99 rfl (by decide) (by decide) (hg1.alloc _) (.slice pa (c.length + 1) pc) (c.length + 1) ((wayB c ++ [a]).map ptr) rfl ((HRow.out.fr hf1 (fun _ _ h => h)).fr (Fr.alloc g No _ _ hg1) (fun _ _ h => h)) ⟨w1.heap.size, 0, none⟩ 1 1 [.pointer (some ⟨rb, 0, none⟩)] rfl rfl (cell_one_at rfl) (by simp [Value.oneCell']) (by simp only [maxLen]; omega) (by omega) (by decide) ?_
                  intro v2 w2 happ
                  have hsz1 := hf1.size
                  have hA := app_gen happ (Fr.alloc g No w1 _ hg1) HNew.out (by have := hFr.size; omega)
                  clear happ
                  obtain ⟨hf2, hg2, b2, cap2, rfl, hr3, hb2, hb3⟩ := hA
                  have hnot := HRow.out.fr hf1 (fun _ _ h => h)
                  have k1 := hf2.at (hf1.at qr id) (fun h => hnot.notin (hf1.at qr id) (by decide) h)
                  have k2 := hf2.at hr1 (fun h => hnot.notin hr1 (by decide) h)
                  have c1 := rc1 k1
                  have c2 := rc2 k1
                  have c3 := rc1 k2
                  have c4 := rc2 k2
                  have HA := Lib.hid (And.intro hf2 (And.intro hr3 hb2))
                  clear hf2 hr3 hb2 hb3 hnot)
                |(go_at_call 232; first | (refine (weight_any k1).mono ?_; rintro e w5 ⟨rfl, rfl⟩) | (refine (weight_any k2).mono ?_; rintro e w5 ⟨rfl, rfl⟩)))
               go_roundw
               case rel =>
                obtain ⟨hf2, hr3, hb2⟩ := HA.out
                refine ⟨⟨x, d, true, l⟩ :: c, r, rb, HRb, rfl, HW3, by simp only [List.length_cons]; show _ ≤ _; omega, ?_, ?_, ?_, ?_, fun b h => by simp [Value.ownBlock] at h; omega⟩
                ·exact (ht.out.2.2.fr0 hf1).fr hf2 (fun q cs U hc hT h => by
                  have := HRow.out.fr hf1 (fun _ _ h => h)
                  exact this.notin hc (by rcases hT with rfl | rfl | rfl <;> decide) h)
                ·exact (hFr.tr hf1).trans hf2 (fun _ _ h => h) (fun q hq h => by have := HNew.out q h; omega)
                ·simp only [List.length_cons]; exact hg2.mono (by omega)
                ·rw [wayB_cons]
                 simp only [List.length_cons, List.map_append, List.map_cons, List.map_nil] at hr3 ⊢
                 rw [show x.1 = a from ha.out]
                 exact hr3
               case measure => simp [lenOf]; omega
             | true =>
               have hbad : bad d r.it = true := by simp [bad] at e1 e3 e4 e5 ⊢; exact ⟨e1, .inr ⟨⟨e3, e4⟩, e5⟩⟩
               have HW3 : some (⟨x, d, true, l⟩ :: c, r) = viol key [] t0 := by rw [← HW2.out, if_pos hbad]
               have HW3 := Lib.hid HW3
               go_wp2_with (first
                |(go_at_call 136; refine (Below_any key hr).mono ?_; rintro e w1 ⟨rfl, rfl⟩; rw [hb])
                |(go_at_call 146; refine (Right_inner hGr (by omega) hnd).mono ?_; rintro e w1 ⟨rfl, hf1, hg1⟩; have hr1 := hf1.at hr id; unfold ptr)
                |(at_builtin
                  refine wpList_append_fr rfl _ _ 192 rfl 99 (.pointer none) 1 8 Tryz.underlying192 Tryz.info99 rfl (by decide) (by decide) (hg1.alloc _) (.slice pa (c.length + 1) pc) (c.length + 1) ((wayB c ++ [a]).map ptr) rfl ((HRow.out.fr hf1 (fun _ _ h => h)).fr (Fr.alloc g No _ _ hg1) (fun _ _ h => h)) ⟨w1.heap.size, 0, none⟩ 1 1 [.pointer (some ⟨rb, 0, none⟩)] rfl rfl (cell_one_at rfl) (by simp [Value.oneCell']) (by simp only [maxLen]; omega) (by omega) (by decide) ?_
                  intro v2 w2 happ
                  have hsz1 := hf1.size
                  have hA := app_gen happ (Fr.alloc g No w1 _ hg1) HNew.out (by have := hFr.size; omega)
                  clear happ
                  obtain ⟨hf2, hg2, b2, cap2, rfl, hr3, hb2, hb3⟩ := hA
                  have hnot := HRow.out.fr hf1 (fun _ _ h => h)
                  have k1 := hf2.at (hf1.at qr id) (fun h => hnot.notin (hf1.at qr id) (by decide) h)
                  have k2 := hf2.at hr1 (fun h => hnot.notin hr1 (by decide) h)
                  have c1 := rc1 k1
                  have c2 := rc2 k1
                  have c3 := rc1 k2
                  have c4 := rc2 k2
                  have HA := Lib.hid (And.intro hf2 (And.intro hr3 hb2))
                  clear hf2 hr3 hb2 hb3 hnot)
                |(go_at_call 232; first | (refine (weight_any k1).mono ?_; rintro e w5 ⟨rfl, rfl⟩) | (refine (weight_any k2).mono ?_; rintro e w5 ⟨rfl, rfl⟩)))
               go_ret2
               obtain ⟨hf2, hr3, hb2⟩ := HA.out
               rw [← HW3.out]
               refine ⟨⟨b2, cap2, rfl, ?_⟩, (hFr.tr hf1).trans hf2 (fun _ _ h => h) (fun q hq h => by have := HNew.out q h; omega), hg2.mono (by omega)⟩
               simp only [PathAt, wayB_cons, List.length_cons, List.map_append, List.map_cons, List.map_nil] at hr3 ⊢
               rw [show x.1 = a from ha.out, show r.ann.1 = rb from HRb.out]
               exact hr3
end Go.Proofs.YtdmobhndbibhoaaGreat
