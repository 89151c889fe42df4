/- The tree in memory; Path and Find. -/
import Derived.Test.YtdmobhndbibhoaaGreatA8
import Derived.Test.YtdmobhndbibhoaaGreatA10
namespace Go.Proofs.YtdmobhndbibhoaaGreat
set_option linter.unusedVariables false
set_option linter.unusedSimpArgs false
open Go.RowKit Larch
set_option maxRecDepth 100000
abbrev HTree := T (Nat × Nat)
abbrev HFr := Larch.Fr (Nat × Nat)
def HT (g : Gt) (w : World) : HTree → Prop
 | .leaf x d => NodeAt g w x.1 x.2 d true []
 | .node x d l r => NodeAt g w x.1 x.2 d false [l.ann.1, r.ann.1] ∧ HT g w l ∧ HT g w r
def HC (g : Gt) (w : World) : List HFr → Nat → Prop
 | [], _ => True
 | f :: c, a => NodeAt g w f.x.1 f.x.2 f.d false (if f.s then [f.sib.ann.1, a] else [a, f.sib.ann.1]) ∧ HT g w f.sib ∧ HC g w c f.x.1
theorem mk_ann (x : Nat × Nat) (d : It) (s : Bool) (a b : HTree) : (mk x d s a b).ann = x := by cases s <;> simp [mk, T.ann]
theorem HT_mk (g : Gt) (w : World) (x : Nat × Nat) (d : It) (s : Bool) (a b : HTree) :
 HT g w (mk x d s a b) ↔ NodeAt g w x.1 x.2 d false (if s then [b.ann.1, a.ann.1] else [a.ann.1, b.ann.1]) ∧ HT g w a ∧ HT g w b := by
 cases s <;> simp [mk, HT]
 intro _
 exact And.comm
theorem HT_plug (g : Gt) (w : World) (c : List HFr) : ∀ t : HTree, HT g w (plug c t) ↔ HC g w c t.ann.1 ∧ HT g w t := by
 induction c with
 | nil => intro t; simp [plug, HC]
 | cons f c ih =>
   intro t
   rw [plug, ih, mk_ann, HT_mk, HC]
   constructor
   ·rintro ⟨h1, h2, h3, h4⟩; exact ⟨⟨h2, h4, h1⟩, h3⟩
   ·rintro ⟨⟨h1, h2, h3⟩, h4⟩; exact ⟨h3, h1, h4, h2⟩
theorem HT.fr {g : Gt} {S : Nat → Prop} {w w' : World} {t : HTree} (h : HT g w t) (hf : Fr g S w w') (hs : ∀ c cs T, Cl g w c cs T → T = 209 ∨ T = 278 ∨ T = 269 → ¬ S c) : HT g w' t := by
 induction t with
 | leaf x d => exact NodeAt.fr h hf hs
 | node x d l r ihl ihr => exact ⟨h.1.fr hf hs, ihl h.2.1, ihr h.2.2⟩
theorem HT.fr0 {g : Gt} {w w' : World} {t : HTree} (h : HT g w t) (hf : Fr g No w w') : HT g w' t := h.fr hf (fun _ _ _ _ _ h => h)
theorem _root_.Larch.T.size_pos {α : Type} (t : T α) : 0 < t.size := by cases t <;> simp [T.size]
def lenOf : Value → Nat | .slice _ n _ => n | _ => 0
def wayB (c : List HFr) : List Nat := c.reverse.map (·.x.1)
theorem wayB_cons (f : HFr) (c : List HFr) : wayB (f :: c) = wayB c ++ [f.x.1] := by simp [wayB]
theorem wayB_length (c : List HFr) : (wayB c).length = c.length := by simp [wayB]
theorem HT.node {g : Gt} {w : World} {t : HTree} (h : HT g w t) : ∃ kids, NodeAt g w t.ann.1 t.ann.2 t.it t.isLeaf kids ∧ Shape t.isLeaf kids := by
 cases t with
 | leaf x d => exact ⟨[], h, .inl ⟨rfl, rfl⟩⟩
 | node x d l r => exact ⟨_, h.1, .inr ⟨rfl, _, _, rfl⟩⟩
def PathR (g : Gt) (n : Nat) (c : List HFr) (t : HTree) (w : World) (e : Ending) (w' : World) : Prop :=
 ∃ b cap, e = .returned (.slice (some ⟨b, 0, none⟩) (c.length + 1) cap) ∧ Row g w' 99 1 (.slice (some ⟨b, 0, none⟩) (c.length + 1) cap) (c.length + 1) ((wayB c ++ [t.ann.1]).map ptr) ∧
   w.heap.size ≤ b ∧ Fr g No w w' ∧ GOk g (n + c.length) w'
set_option maxHeartbeats 2000000 in
theorem Path_any {g : Gt} {n : Nat} {key : Int} {t0 : HTree} {w : World} (hg : GOk g n w) (hn : n + t0.size < LIM) (hsz : t0.size < 1000000) (ht : HT g w t0) :
 Calls Tryz.prog 178 #[gval g, ptr t0.ann.1, .int .i64 key] w (PathR g n (way key [] t0).1 (way key [] t0).2 w) := by
 have HT0 := Lib.hid ht
 have hrec : IsRec w t0.ann.1 := by obtain ⟨k, ⟨_, _, h, _⟩, _⟩ := ht.node; exact ⟨_, h.1, rfl⟩
 clear ht
 obtain ⟨root, hroot⟩ : ∃ r, t0.ann.1 = r := ⟨_, rfl⟩
 rw [hroot] at hrec ⊢
 have HR := Lib.hid hroot
 clear hroot
 unfold ptr
 go_enter Tryz.func178, Tryz.ntmps178
 go_wp2_with fail
 have hF0 := Fr.alloc g No w (.cells #[.pointer (some ⟨root, 0, none⟩)] 99) hg
 have hG0 := hg.alloc (.cells #[.pointer (some ⟨root, 0, none⟩)] 99)
 have hN0 := At.new hg (.cells #[.pointer (some ⟨root, 0, none⟩)] 99)
 go_loopw [7, 8] (fun v q wr => ∃ (c : List HFr) (t : HTree) (a : Nat), Hid (t.ann.1 = a) ∧ q = .pointer (some ⟨a, 0, none⟩) ∧ Hid (way key c t = way key [] t0) ∧ Hid (c.length + t.size ≤ t0.size) ∧ Hid (HT g wr t) ∧
  Fr g No w wr ∧ GOk g (n + c.length) wr ∧ Row g wr 99 1 v (c.length + 1) ((wayB c ++ [a]).map ptr) ∧ (∀ b, v.ownBlock = some b → w.heap.size ≤ b))
  (fun v _ _ => t0.size + 1 - lenOf v)
 case atStart =>
  refine ⟨[], t0, root, HR, rfl, rfl, by simp [Hid], HT0.out.fr0 hF0, hF0, hG0, ⟨rfl, .inr ⟨_, 1, _, rfl, by simp, by decide, hN0, rfl, rfl⟩⟩, fun b h => by simp [Value.ownBlock] at h; omega⟩
 case round =>
  obtain ⟨c, t, a, ha, rfl, hway, hlen, ht, hFr, hGr, hrow, hnew⟩ := hrel
  have HRow := Lib.hid hrow
  have HNew := Lib.hid hnew
  obtain ⟨pa, pc, rfl⟩ := hrow.slice
  clear hrow hnew
  cases t with
  | leaf x d =>
    obtain ⟨info, hr⟩ := NodeAt.rec ht.out
    rw [show x.1 = a from ha.out] at hr
    have h4 := rc4 hr
    go_wp2_with fail
    go_ret
    obtain ⟨b, cap, hv⟩ := HRow.out.pos (by omega)
    rw [hv] at HRow HNew ⊢
    have e := hway.out.symm
    simp only [way] at e
    rw [e]
    refine ⟨b, cap, rfl, ?_, HNew.out b rfl, hFr, hGr⟩
    rw [show (T.leaf x d).ann.1 = a from ha.out]
    exact HRow.out
  | node x d l r =>
    obtain ⟨info, hr⟩ := NodeAt.rec ht.out.1
    rw [show x.1 = a from ha.out] at hr
    have h4 := rc4 hr
    have hnd := ht.out.1
    rw [show x.1 = a from ha.out] at hnd
    obtain ⟨info2, st, hr2, hfb, hsc, hst, hk⟩ := hnd
    obtain ⟨lb, hlb⟩ : ∃ q : Nat, l.ann.1 = q := ⟨_, rfl⟩
    obtain ⟨rb, hrb⟩ : ∃ q : Nat, r.ann.1 = q := ⟨_, rfl⟩
    rw [hlb, hrb] at hr2 hfb hk
    have hr2 : Cl g wr a (rc d false (.slice (some ⟨x.2, 0, none⟩) 2 2) info2 0) 209 := hr2
    have hfb : Cl g wr x.2 #[.pointer (some ⟨lb, 0, none⟩), .pointer (some ⟨rb, 0, none⟩)] 269 := hfb
    have kl := hk lb (by simp)
    have kr := hk rb (by simp)
    have HL := Lib.hid hlb
    have HRb := Lib.hid hrb
    have hlen2 := hlen.out
    simp only [T.size] at hlen2
    have hls := T.size_pos l
    have hrs := T.size_pos r
    clear hlb hrb hk hsc hst
    cases hb : below key d with
    | true =>
      have hw2 : way key (⟨x, d, false, r⟩ :: c) l = way key [] t0 := by rw [← hway.out]; simp only [way, hb, if_true]
      have HW2 := Lib.hid hw2
      clear hw2
      go_wp2_with (first
       |(go_at_call 136; refine (Below_any key hr).mono ?_; rintro e w1 ⟨rfl, rfl⟩; rw [hb])
       |(go_at_call 224; refine (Rec_Get (i := 0) hGr (by omega) hr2 hfb (by omega) rfl (.inr ⟨lb, rfl, kl⟩)).mono ?_; rintro e w1 ⟨rfl, hf1, hg1⟩)
       |(at_builtin
         refine wpList_append_fr rfl _ _ 192 rfl 99 (.pointer none) 1 8 Tryz.underlying192 Tryz.info99 rfl (by decide) (by decide) (hg1.alloc _) (.slice pa (c.length + 1) pc) (c.length + 1) ((wayB c ++ [a]).map ptr) rfl ((HRow.out.fr hf1 (fun _ _ h => h)).fr (Fr.alloc g No _ _ hg1) (fun _ _ h => h)) ⟨w1.heap.size, 0, none⟩ 1 1 [.pointer (some ⟨lb, 0, none⟩)] rfl rfl (cell_one_at rfl) (by simp [Value.oneCell']) (by simp only [maxLen]; omega) (by omega) (by decide) ?_
         intro v2 w2 happ
         have hsz1 := hf1.size
         have hA := app_gen happ (Fr.alloc g No w1 _ hg1) HNew.out (by have := hFr.size; omega)
         clear happ
         obtain ⟨hf2, hg2, b2, cap2, rfl, hr3, hb2, hb3⟩ := hA
         have HA := Lib.hid (And.intro hf2 (And.intro hr3 hb2))
         clear hf2 hr3 hb2 hb3))
      go_roundw
      case rel =>
       obtain ⟨hf2, hr3, hb2⟩ := HA.out
       refine ⟨⟨x, d, false, r⟩ :: c, l, lb, HL, rfl, HW2, by simp only [List.length_cons]; show _ ≤ _; omega, ?_, ?_, ?_, ?_, fun b h => by simp [Value.ownBlock] at h; omega⟩
       ·exact (ht.out.2.1.fr0 hf1).fr hf2 (fun q cs U hc hT h => by
         have := HRow.out.fr hf1 (fun _ _ h => h)
         exact this.notin hc (by rcases hT with rfl | rfl | rfl <;> decide) h)
       ·exact (hFr.tr hf1).trans hf2 (fun _ _ h => h) (fun q hq h => by have := HNew.out q h; omega)
       ·simp only [List.length_cons]; exact hg2.mono (by omega)
       ·rw [wayB_cons]
        simp only [List.length_cons, List.map_append, List.map_cons, List.map_nil] at hr3 ⊢
        rw [show x.1 = a from ha.out]
        exact hr3
      case measure => simp [lenOf]; omega
    | false =>
      have hw2 : way key (⟨x, d, true, l⟩ :: c) r = way key [] t0 := by rw [← hway.out]; simp only [way, hb, Bool.false_eq_true, if_false]
      have HW2 := Lib.hid hw2
      clear hw2
      go_wp2_with (first
       |(go_at_call 136; refine (Below_any key hr).mono ?_; rintro e w1 ⟨rfl, rfl⟩; rw [hb])
       |(go_at_call 224; refine (Rec_Get (i := 1) hGr (by omega) hr2 hfb (by omega) rfl (.inr ⟨rb, rfl, kr⟩)).mono ?_; rintro e w1 ⟨rfl, hf1, hg1⟩)
       |(at_builtin
         refine wpList_append_fr rfl _ _ 192 rfl 99 (.pointer none) 1 8 Tryz.underlying192 Tryz.info99 rfl (by decide) (by decide) (hg1.alloc _) (.slice pa (c.length + 1) pc) (c.length + 1) ((wayB c ++ [a]).map ptr) rfl ((HRow.out.fr hf1 (fun _ _ h => h)).fr (Fr.alloc g No _ _ hg1) (fun _ _ h => h)) ⟨w1.heap.size, 0, none⟩ 1 1 [.pointer (some ⟨rb, 0, none⟩)] rfl rfl (cell_one_at rfl) (by simp [Value.oneCell']) (by simp only [maxLen]; omega) (by omega) (by decide) ?_
         intro v2 w2 happ
         have hsz1 := hf1.size
         have hA := app_gen happ (Fr.alloc g No w1 _ hg1) HNew.out (by have := hFr.size; omega)
         clear happ
         obtain ⟨hf2, hg2, b2, cap2, rfl, hr3, hb2, hb3⟩ := hA
         have HA := Lib.hid (And.intro hf2 (And.intro hr3 hb2))
         clear hf2 hr3 hb2 hb3))
      go_roundw
      case rel =>
       obtain ⟨hf2, hr3, hb2⟩ := HA.out
       refine ⟨⟨x, d, true, l⟩ :: c, r, rb, HRb, rfl, HW2, by simp only [List.length_cons]; show _ ≤ _; omega, ?_, ?_, ?_, ?_, fun b h => by simp [Value.ownBlock] at h; omega⟩
       ·exact (ht.out.2.2.fr0 hf1).fr hf2 (fun q cs U hc hT h => by
         have := HRow.out.fr hf1 (fun _ _ h => h)
         exact this.notin hc (by rcases hT with rfl | rfl | rfl <;> decide) h)
       ·exact (hFr.tr hf1).trans hf2 (fun _ _ h => h) (fun q hq h => by have := HNew.out q h; omega)
       ·simp only [List.length_cons]; exact hg2.mono (by omega)
       ·rw [wayB_cons]
        simp only [List.length_cons, List.map_append, List.map_cons, List.map_nil] at hr3 ⊢
        rw [show x.1 = a from ha.out]
        exact hr3
      case measure => simp [lenOf]; omega
def lastB (c : List HFr) (t : HTree) : Nat → Option Addr
 | 0 => some ⟨t.ann.1, 0, none⟩
 | k + 1 => (c[k]?).map fun f => ⟨f.x.1, 0, none⟩
theorem wayB_get (c : List HFr) (t : HTree) (k : Nat) (hk : k ≤ c.length) : (((wayB c ++ [t.ann.1]).map ptr))[c.length - k]? = some (.pointer (lastB c t k)) := by
 cases k with
 | zero =>
   simp only [List.map_append, List.map_cons, List.map_nil, Nat.sub_zero, lastB]
   rw [List.getElem?_append_right (by simp [wayB_length])]
   simp [wayB_length, ptr]
 | succ k =>
   simp only [List.map_append, lastB]
   rw [List.getElem?_append_left (by simp [wayB_length]; omega)]
   have h1 : c.length - (k + 1) < c.length := by omega
   simp only [wayB, List.getElem?_map, List.getElem?_reverse h1]
   rw [show c.length - 1 - (c.length - (k + 1)) = k from by omega, List.getElem?_eq_getElem (by omega)]
   rfl
set_option maxHeartbeats 400000 in
theorem last_some {b pb cap n k : Nat} {p : Option Addr} {w : World} (hb : w.cell? ⟨b, 0, none⟩ = some (.slice (some ⟨pb, 0, none⟩) n cap)) (hn : n < 1000000) (hk : 0 < k) (hk' : k ≤ n) (hc : w.cell? ⟨pb, n - k, none⟩ = some (.pointer p)) :
 Calls Tryz.prog 179 #[.int .i64 k, .pointer (some ⟨b, 0, none⟩)] w fun e w' => e = .returned (.pointer p) ∧ w = w' := by
 obtain ⟨j, hj⟩ : ∃ j, n - k = j := ⟨_, rfl⟩
 rw [hj] at hc
 have hjn : n = j + k := by omega
 subst hjn
 have h1 : ¬ ((k : Int) > ((j + k : Nat) : Int)) := by omega
 go_enter Tryz.func179, Tryz.ntmps179
 go_wp2_with fail
 go_ret
 exact ⟨rfl, rfl⟩
set_option maxHeartbeats 400000 in
theorem last_none {b n k cap : Nat} {a : Option Addr} {w : World} (hb : w.cell? ⟨b, 0, none⟩ = some (.slice a n cap)) (hk' : n < k) :
 Calls Tryz.prog 179 #[.int .i64 k, .pointer (some ⟨b, 0, none⟩)] w fun e w' => e = .returned (.pointer none) ∧ w = w' := by
 have h1 : ((k : Int) > (n : Int)) := by omega
 go_enter Tryz.func179, Tryz.ntmps179
 go_wp2_with fail
 go_ret
 exact ⟨rfl, rfl⟩
theorem last_any {b pb cap k : Nat} {c : List HFr} {t : HTree} {w : World} (hb : w.cell? ⟨b, 0, none⟩ = some (.slice (some ⟨pb, 0, none⟩) (c.length + 1) cap)) (hn : c.length < 900000)
 (hc : ∀ j, j ≤ c.length → w.cell? ⟨pb, c.length - j, none⟩ = some (.pointer (lastB c t j))) :
 Calls Tryz.prog 179 #[.int .i64 (k + 1 : Nat), .pointer (some ⟨b, 0, none⟩)] w fun e w' => e = .returned (.pointer (lastB c t k)) ∧ w = w' := by
 by_cases hk : k ≤ c.length
 ·exact last_some hb (by omega) (by omega) (by omega) (by rw [show c.length + 1 - (k + 1) = c.length - k from by omega]; exact hc k hk)
 ·have e : lastB c t k = none := by
   cases k with
   | zero => omega
   | succ k => simp only [lastB, List.getElem?_eq_none (show c.length ≤ k by omega)]; rfl
  rw [e]
  exact last_none hb (by omega)
def FindR (g : Gt) (n : Nat) (c : List HFr) (t : HTree) (w : World) (e : Ending) (w' : World) : Prop :=
 e = .returned (.tuple #[.pointer (lastB c t 0), .pointer (lastB c t 1), .pointer (lastB c t 2)]) ∧ Fr g No w w' ∧ GOk g (n + c.length) w'
theorem way_size (key : Int) (t : HTree) : ∀ c : List HFr, (way key c t).1.length + 1 ≤ c.length + t.size := by
 induction t with
 | leaf x d => intro c; simp [way, T.size]
 | node x d l r ihl ihr =>
   intro c
   simp only [way, T.size]
   split
   ·have := ihl (⟨x, d, false, r⟩ :: c); simp only [List.length_cons] at this; omega
   ·have := ihr (⟨x, d, true, l⟩ :: c); simp only [List.length_cons] at this; omega
set_option maxHeartbeats 1000000 in
theorem Find_any {g : Gt} {n : Nat} {key : Int} {t0 : HTree} {w : World} (hg : GOk g n w) (hn : n + t0.size < LIM) (hsz : t0.size < 900000) (ht : HT g w t0) :
 Calls Tryz.prog 129 #[gval g, ptr t0.ann.1, .int .i64 key] w (FindR g n (way key [] t0).1 (way key [] t0).2 w) := by
 have hws := way_size key t0 []
 simp only [List.length_nil, Nat.zero_add] at hws
 have hP := Path_any (key := key) hg hn (by omega) ht
 generalize way key [] t0 = ct at hP hws ⊢
 obtain ⟨c, t⟩ := ct
 obtain ⟨root, hroot⟩ : ∃ q : Nat, t0.ann.1 = q := ⟨_, rfl⟩
 rw [hroot] at hP ⊢
 simp only at hP hws ⊢
 clear hroot ht
 go_enter Tryz.func129, Tryz.ntmps129
 go_wp2_with fail
 refine hP.mono ?_
 rintro e w1 ⟨pb, cap, rfl, hrow, hnew, hF, hG⟩
 clear hP
 have HRow := Lib.hid hrow
 have hA := At.new hG (.cells #[.slice (some ⟨pb, 0, none⟩) (c.length + 1) cap] 192)
 have hFa := Fr.alloc g No w1 (.cells #[.slice (some ⟨pb, 0, none⟩) (c.length + 1) cap] 192) hG
 have hGa := hG.alloc (.cells #[.slice (some ⟨pb, 0, none⟩) (c.length + 1) cap] 192)
 have hcells : ∀ j, j ≤ c.length → (w1.alloc (.cells #[.slice (some ⟨pb, 0, none⟩) (c.length + 1) cap] 192)).cell? ⟨pb, c.length - j, none⟩ = some (.pointer (lastB c t j)) := fun j hj => by
  rw [(hrow.fr hFa (fun _ _ h => h)).cell (c.length - j) (by omega)]; exact wayB_get c t j hj
 have HC := Lib.hid hcells
 have hb := hA.cell 0
 clear hcells hrow
 go_wp2_with fail
 generalize hW : World.alloc _ _ = W at *
 have hb : W.cell? ⟨w1.heap.size, 0, none⟩ = some (.slice (some ⟨pb, 0, none⟩) (c.length + 1) cap) := hb
 refine (last_any (k := 0) hb (by omega) HC.out).mono ?_
 rintro e w2 ⟨rfl, rfl⟩
 go_wp2_with fail
 refine (last_any (k := 1) hb (by omega) HC.out).mono ?_
 rintro e w2 ⟨rfl, rfl⟩
 go_wp2_with fail
 refine (last_any (k := 2) hb (by omega) HC.out).mono ?_
 rintro e w2 ⟨rfl, rfl⟩
 have HE : Hid (Fr g No w W ∧ GOk g (n + c.length) W) := ⟨hF.tr hFa, hGa⟩
 clear hF hG hA hFa hGa hb HC hW
 go_wp2_with fail
 go_ret3
 exact ⟨rfl, HE.out⟩
end Go.Proofs.YtdmobhndbibhoaaGreat
