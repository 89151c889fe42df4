/- The scans: the closure of Range. -/
import Derived.Test.YtdmobhndbibhoaaGreatC8
namespace Go.Proofs.YtdmobhndbibhoaaGreat
open Go.RowKit Larch
set_option maxRecDepth 100000
set_option linter.unusedVariables false
set_option linter.unusedSimpArgs false
attribute [local go_sem ↓] Go.wp_at_zero Go.wp_at_succ
def kP (st : List HTree) : List Value := st.map fun t => .pointer (some ⟨t.ann.1, 0, none⟩)
def sumS (st : List HTree) : Nat := (st.map T.size).sum
def pV (xs : List (Int × Int)) : List Value := xs.flatMap fun p => [.int .i64 p.1, .int .i64 p.2]
theorem sumS_app (a b : List HTree) : sumS (a ++ b) = sumS a + sumS b := by simp [sumS]
theorem sumS_0 : sumS [] = 0 := rfl
theorem sumS_1 (a : HTree) : sumS [a] = a.size := by simp [sumS]
theorem sumS_2 (a b : HTree) : sumS [a, b] = a.size + b.size := by simp [sumS]
theorem kP_app (a b : List HTree) : kP (a ++ b) = kP a ++ kP b := by simp [kP]
theorem kP_len (a : List HTree) : (kP a).length = a.length := by simp [kP]
theorem pV_app (a b : List (Int × Int)) : pV (a ++ b) = pV a ++ pV b := by simp [pV]
theorem sumS_len (a : List HTree) : a.length ≤ sumS a := by
 induction a with
 | nil => simp [sumS]
 | cons t a ih => have := t.size_pos; simp only [sumS, List.map_cons, List.sum_cons, List.length_cons] at ih ⊢; omega
theorem Tryz.info49 : (Tryz.prog.info? 49).map (fun i => (i.zero, i.size, i.bytes)) = some (some (.agg #[.int .i64 0, .int .i64 0]), 2, 16) := by kernel_rfl
section
variable {g : Gt} {w w' w1 w2 : World} {vb e size n : Nat} {v : Value} {xs : List Value} {L : List VRec}
theorem Row.frV (h : Row g w e size v n xs) (hv : VisSt g w vb L) (f : FrV g vb w w') (he : e ≠ 291 ∧ e ≠ 220) : Row g w' e size v n xs :=
 h.fr f.fr (fun b hb hk => by
  rcases h.2 with ⟨rfl, _⟩ | ⟨b', cap, cur, rfl, _, _, hc, _⟩
  ·simp [Value.ownBlock] at hb
  ·simp [Value.ownBlock] at hb; subst hb; exact hv.out hc he hk)
theorem Row.pop {b cap : Nat} {x : Value} (h : Row g w e 1 (.slice (some ⟨b, 0, none⟩) (n + 1) cap) (n + 1) (xs ++ [x])) : Row g w e 1 (.slice (some ⟨b, 0, none⟩) n cap) n xs := by
 obtain ⟨h1, h2⟩ := h
 have hl : xs.length = n := by simpa using h1
 refine ⟨by omega, .inr ?_⟩
 rcases h2 with ⟨h, _⟩ | ⟨b', cap', cur, he, h2, h3, h4, h5, h6⟩
 ·cases h
 ·simp only [Value.slice.injEq, Option.some.injEq, Addr.mk.injEq, true_and, and_true] at he
  obtain ⟨rfl, rfl⟩ := he
  refine ⟨b, cap, cur, rfl, by omega, h3, h4, h5, ?_⟩
  have := congrArg (List.take n) h6
  rw [List.take_take] at this
  rw [show min n ((n + 1) * 1) = n from by omega] at this
  rw [Nat.mul_one, this, ← hl, List.take_left']
  rfl
theorem FrV.ownS {S : Nat → Prop} (h : FrV g vb w w1) (hv : VisSt g w1 vb L) (f : Fr g S w1 w2) (hn : ∀ c, S c → w.heap.size ≤ c) (hs : ∀ c cs T, Cl g w1 c cs T → T = 209 ∨ T = 291 ∨ T = 220 → ¬ S c) : FrV g vb w w2 ∧ VisSt g w2 vb L := by
 refine ⟨⟨h.fr.trans f (fun _ _ k => k) (fun c hc e => by have := hn c e; omega), ?_⟩, hv.keep f hs⟩
 obtain ⟨u, h1, _⟩ := hv
 intro c hc
 have h2 := f.at h1 (hs _ _ _ h1 (by simp))
 exact h.own c ((VBlk.same (h2.1.trans h1.1.symm) c).1 hc)
end
theorem Fr.drewN (g : Gt) (w : World) (n : Nat) : Fr g No w (w.drewN n) := ⟨rfl, rfl, rfl, Nat.le_refl _, fun _ _ _ _ => rfl, fun _ h => .inl h, fun _ cs h k => ⟨cs, h, k, rfl⟩, fun _ h => h, fun _ _ => rfl⟩
theorem GOk.drewN {g : Gt} {m : Nat} {w : World} (h : GOk g m w) (n : Nat) : GOk g m (w.drewN n) := h.same (fun _ _ => rfl) (Nat.le_refl _)
theorem rc03 {g : Gt} {w : World} {b info mk : Nat} {d : It} {lf : Bool} {fs : Value} (h : Cl g w b (rc d lf fs info mk) 209) : w.cell? ⟨b, 0, none⟩ = some (.int .i64 d.k) ∧ w.cell? ⟨b, 3, none⟩ = some (.int .i64 d.v) := ⟨rc0 h, rc3 h⟩
def RgSt (g : Gt) (vb m : Nat) (lo hi : Int) (t : HTree) (w : World) (v7 v8 : Value) (wr : World) (k : Nat) : Prop :=
 ∃ (st : List HTree) (xs : List (Int × Int)) (L' : List VRec), Row g wr 49 2 v7 xs.length (pV xs) ∧ Row g wr 99 1 v8 st.length (kP st) ∧ (∀ b, v7.ownBlock = some b → w.heap.size ≤ b) ∧ (∀ b, v8.ownBlock = some b → w.heap.size ≤ b) ∧
   xs ++ st.reverse.flatMap (rng lo hi) = rng lo hi t ∧ (∀ s ∈ st, HT g wr s ∧ Sc s) ∧ VisSt g wr vb L' ∧ FrV g vb w wr ∧ GOk g (m + 7 * (t.size - sumS st)) wr ∧ sumS st = k ∧ sumS st ≤ t.size ∧
   L'.length + sumS st ≤ t.size ∧ xs.length + sumS st ≤ t.size ∧ (st = [t] ∨ 0 < L'.length)
def RngR (g : Gt) (lo hi : Int) (t : HTree) (w : World) (v : Value) (w' : World) : Prop :=
 Row g w' 49 2 v (rng lo hi t).length (pV (rng lo hi t)) ∧ ∀ b, v.ownBlock = some b → w.heap.size ≤ b
set_option maxHeartbeats 8000000 in
theorem see134 {g : Gt} {vb eb lb hb m : Nat} {lo hi : Int} {t : HTree} {w : World} (hg : GOk g m w) (hm : m + 14 * t.size + 100 < LIM) (hL : t.size < 300000) (hv : VisSt g w vb []) (hT : HT g w t) (hn0 : t.isLeaf = false) (hsc : Sc t)
 (he : Cl g w eb #[ptr t.ann.1] 99) (hlo : Cl g w lb #[.int .i64 lo] 3) (hhi : Cl g w hb #[.int .i64 hi] 3) :
 Calls Tryz.prog 134 #[.pointer (some ⟨vb, 0, none⟩), .pointer (some ⟨eb, 0, none⟩), .pointer (some ⟨lb, 0, none⟩), .pointer (some ⟨hb, 0, none⟩)] w fun e w' => ∃ v, SeeQ g vb (m + 14 * t.size) t.size v (RngR g lo hi t w v) w e w' := by
 have h1 := he.cell 0
 have hF := Fr.alloc g No w (.cells #[.pointer (some ⟨t.ann.1, 0, none⟩)] 99) hg
 have hG := hg.alloc (.cells #[.pointer (some ⟨t.ann.1, 0, none⟩)] 99)
 have hB := At.new hg (.cells #[.pointer (some ⟨t.ann.1, 0, none⟩)] 99)
 have hst : RgSt g vb m lo hi t w (.slice none 0 0) (.slice (some ⟨w.heap.size, 0, none⟩) 1 1) (w.alloc (.cells #[.pointer (some ⟨t.ann.1, 0, none⟩)] 99)) t.size :=
  ⟨[t], [], [], Row.nil, ⟨rfl, .inr ⟨_, 1, _, rfl, Nat.le_refl _, by decide, hB, rfl, rfl⟩⟩, by simp [Value.ownBlock], by simp [Value.ownBlock], by simp, by simp only [List.mem_singleton]; rintro s rfl; exact ⟨hT.fr0 hF, hsc⟩,
   hv.fr0 hF, hv.frV hF, by simp only [sumS, List.map_cons, List.map_nil, List.sum_cons, List.sum_nil, Nat.add_zero, Nat.sub_self, Nat.mul_zero]; exact hG, by simp [sumS], by simp [sumS], by simp [sumS], by simp [sumS], .inl rfl⟩
 have hnew := heap_alloc_new w (.cells #[.pointer (some ⟨t.ann.1, 0, none⟩)] 99)
 clear hF hG hB hT he hg
 unfold ptr at *
 go_enter Tryz.func134, Tryz.ntmps134
 go_wp2_with fail
 go_loopw [7, 8] (fun v7 v8 wr => ∃ k, RgSt g vb m lo hi t w v7 v8 wr k) (fun v7 v8 wr => least (RgSt g vb m lo hi t w v7 v8 wr))
 case atStart => exact ⟨_, hst⟩
 case round =>
  have hsp := least_spec hrel
  generalize hn : least _ = n at hsp
  obtain ⟨st, xs, L', hr7, hr8, hn7, hn8, hx, hH, hV, hF, hG, hs, hle, hL', hxl, hor⟩ := hsp
  have hlR : Cl g wr lb #[.int .i64 lo] 3 := hF.fr.at hlo (fun h => hv.out hlo (by decide) h)
  have hhR : Cl g wr hb #[.int .i64 hi] 3 := hF.fr.at hhi (fun h => hv.out hhi (by decide) h)
  rcases List.eq_nil_or_concat st with rfl | ⟨st', s, rfl⟩
  ·have hL0 : 0 < L'.length := by
    rcases hor with h | h
    ·cases h
    ·exact h
   simp only [List.reverse_nil, List.flatMap_nil, List.append_nil] at hx
   obtain ⟨a8, c8, rfl⟩ := hr8.slice
   obtain ⟨a7, c7, rfl⟩ := hr7.slice
   have HE : Hid (SeeQ g vb (m + 14 * t.size) t.size (.slice a7 xs.length c7) (RngR g lo hi t w (.slice a7 xs.length c7)) w (.returned (.tuple #[.slice a7 xs.length c7, .bool true])) wr) :=
    ⟨L', rfl, hF, hG.mono (by omega), hV, hL0, by omega, by rw [← hx]; exact hr7, hn7⟩
   clear hr7 hr8 hV hF hG hH hor hlR hhR hst hrel hn
   simp only [List.length_nil]
   go_wp2_with fail
   go_ret2
   exact ⟨_, HE.out⟩
  ·simp only [List.concat_eq_append] at *
   rw [List.length_append] at hr8
   simp only [List.length_cons, List.length_nil, Nat.zero_add] at hr8
   rw [kP_app] at hr8
   rw [sumS_app] at hs hle hL' hxl hG
   have hs1 : sumS [s] = s.size := by simp [sumS]
   rw [hs1] at hs hle hL' hxl hG
   obtain ⟨b8, c8, rfl⟩ := hr8.pos (Nat.succ_pos _)
   have hsp := s.size_pos
   have hpop := Row.pop hr8
   have hHs := hH s (by simp)
   have hHr : ∀ q ∈ st', HT g wr q ∧ Sc q := fun q hq => hH q (by simp [hq])
   have hcell : wr.cell? ⟨b8, st'.length, none⟩ = some (.pointer (some ⟨s.ann.1, 0, none⟩)) := by rw [hr8.cell st'.length (by omega), List.getElem?_append_right (by rw [kP_len]; exact Nat.le_refl _), kP_len, Nat.sub_self]; rfl
   have hx' : xs ++ (rng lo hi s ++ st'.reverse.flatMap (rng lo hi)) = rng lo hi t := by rw [← hx]; simp
   have hsl := sumS_len st'
   obtain ⟨a7, c7, rfl⟩ := hr7.slice
   have HN : Hid (least (RgSt g vb m lo hi t w (.slice a7 xs.length c7) (.slice (some ⟨b8, 0, none⟩) (st'.length + 1) c8) wr) = n ∧ sumS st' + s.size = n) := ⟨hn, hs⟩
   obtain ⟨ix, rx⟩ := hHs.1.nd.rec
   have c4 := rc4 rx
   have hw1 : IntKind.i64.wrap ((st'.length : Int) + 1 - 1) = (st'.length : Int) := by rw [IntWalk.i64_in _ (by omega)]; omega
   have hpos : (0 : Int) < (st'.length : Int) + 1 := by omega
   clear hr8 hH hx hn hs hst hrel
   cases s with
   | leaf x d =>
     have hxx : (T.leaf x d : HTree).ann.1 = x.1 := rfl
     rw [hxx] at c4 rx hcell
     rw [show (T.leaf x d : HTree).isLeaf = true from rfl] at c4
     rw [show (T.leaf x d : HTree).it = d from rfl] at rx
     rw [show (T.leaf x d : HTree).size = 1 from rfl] at hle hL' hxl hG HN
     have e0 := rc0 rx
     have e1 := rc1 rx
     have e3 := rc3 rx
     have l0 := hlR.cell 0
     have h0 := hhR.cell 0
     have hw8 : (0 : Int) ≤ (st'.length : Int) := by omega
     have hcp : st'.length ≤ c8 := by
      rcases hpop.2 with ⟨h, _⟩ | ⟨_, _, _, h, h2, _⟩
      ·cases h
      ·simp at h; omega
     have hL0 : 0 < L'.length := by
      rcases hor with h | h
      ·have : st' ++ [T.leaf x d] = [] ++ [t] := h
       have := (List.append_inj' this rfl).2
       simp only [List.cons.injEq, and_true] at this
       rw [← this] at hn0; cases hn0
      ·exact h
     have HR : Hid (∀ W m', Fr g No wr W → GOk g m' W → m' ≤ m + 7 * (t.size - (sumS st' + 1)) → rng lo hi (.leaf x d : HTree) = [] → RgSt g vb m lo hi t w (.slice a7 xs.length c7) (.slice (some ⟨b8, 0, none⟩) st'.length c8) W (sumS st')) := fun W m' f hG' hm' hr =>
      ⟨st', xs, L', hr7.fr f (fun _ _ h => h), hpop.fr f (fun _ _ h => h), hn7, hn8, by rw [← hx', hr]; simp, fun q hq => ⟨(hHr q hq).1.fr0 f, (hHr q hq).2⟩, hV.fr0 f, hF.trans (hV.frV f), hG'.mono (by omega), rfl, by omega, by omega, by omega, .inr hL0⟩
     have HG := Lib.hid hG
     go_wp2_with fail
     by_cases hi0 : d.i = 0
     ·rw [hi0] at e1
      by_cases hlk : lo ≤ d.k
      ·by_cases hkh : d.k ≤ hi
       ·go_quiet (fail)
        have fD := Fr.drewN g wr nq
        have gD := hG.drewN nq
        go_wp2_with fail
        generalize hWD : wr.drewN nq = WD at *
        have rxD := fD.at rx id
        have HX := Lib.hid rxD
        have hr7D := hr7.fr fD (fun _ _ h => h)
        have hrn : rng lo hi (.leaf x d : HTree) = [(d.k, d.v)] := by simp [rng, pairs, hi0, hlk, hkh]
        clear hWD e0 e1 e3 l0 h0 hcell c4 HR
        have hS := rc03 rxD.drew
        refine wp_region_X (S := fun w' => w'.cell? ⟨x.1, 0, none⟩ = some (.int .i64 d.k) ∧ w'.cell? ⟨x.1, 3, none⟩ = some (.int .i64 d.v)) [] (by kernel_rfl) ?_
        refine tY 0 _ rfl (by kernel_rfl) (fun _ _ _ => id) hS (by rfl) (by intro wq _; go_simp <;> with_reducible rfl) ?_
        try go_frame
        refine tY 1 _ rfl (by kernel_rfl) (fun _ _ _ => id) hS (by rfl) (by intro wq _; go_simp <;> with_reducible rfl) ?_
        try go_frame
        refine tY 2 _ rfl (by kernel_rfl) (fun _ _ _ => id) hS (by rfl) (by intro wq _; go_simp <;> with_reducible rfl) ?_
        try go_frame
        refine tY 3 _ rfl (by kernel_rfl) (fun _ _ _ => id) hS (by rfl) (by intro wq _; go_simp <;> with_reducible rfl) ?_
        try go_frame
        refine tY 4 _ rfl (by kernel_rfl) (fun _ _ _ => id) hS (by rfl) (by intro wq _; go_simp <;> with_reducible rfl) ?_
        try go_frame
        refine tY 6 _ rfl (by kernel_rfl) (fun _ _ _ => id) hS (by rfl) (by intro wq _; go_simp <;> with_reducible rfl) ?_
        try go_frame
        refine tY 7 _ rfl (by kernel_rfl) (fun _ _ _ => id) hS (by rfl) (by intro wq _; go_simp <;> with_reducible rfl) ?_
        try go_frame
        refine tY 8 _ rfl (by kernel_rfl) (fun _ _ _ => id) hS (by rfl) (by intro wq _; go_simp <;> with_reducible rfl) ?_
        try go_frame
        refine tY 9 _ rfl (by kernel_rfl) (fun _ _ _ => id) hS (by rfl) (by intro wq _; go_simp <;> with_reducible rfl) ?_
        try go_frame
        refine tX 5 _ rfl (by kernel_rfl) (fun _ _ _ => id) hS (by rfl) (by intro wq hSq; have z0 := hSq.1; have z1 := hSq.2; go_simp <;> with_reducible rfl) ?_
        try go_frame
        refine tX 10 _ rfl (by kernel_rfl) (fun _ _ _ => id) hS (by rfl) (by intro wq hSq; have z0 := hSq.1; have z1 := hSq.2; go_simp <;> with_reducible rfl) ?_
        try go_frame
        refine tY 11 _ rfl (by kernel_rfl) (fun _ _ _ => id) hS (by rfl) (by intro wq _; go_simp <;> with_reducible rfl) ?_
        try go_frame
        refine wpAnyX_ready (rs := [12]) (by kernel_rfl) (by simp) ?_
        refine ReadyX.cons rfl (fun K hK => ?_) ReadyX.nil
        go_simp
        have hSn := rc03 ((fr_d1 gD (.cells #[.int .i64 d.k, .int .i64 d.v] 49)).at rxD id)
        refine hK.out _ _ hSn (fun hSx => ?_)
        clear hK K hS
        have hS := hSx
        clear hSx hSn
        try go_frame
        refine wpAnyX_ready (rs := [13]) (by kernel_rfl) (by simp) ?_
        refine ReadyX.cons rfl (fun K hK => ?_) ReadyX.nil
        refine step_append_fr (by rfl) _ _ 22 (by rfl) 49 (.agg #[.int .i64 0, .int .i64 0]) 2 16 Tryz.underlying22 Tryz.info49 rfl (by decide) (by decide) (.slice a7 xs.length c7) xs.length (pV xs) (by rfl) (gD.alloc _).drew (hr7D.fr (fr_d1 gD _) (fun _ _ h => h)) ⟨WD.heap.size, 0, none⟩ 1 1 [.int .i64 d.k, .int .i64 d.v] (by rfl) (by rfl) (news1 (heap_alloc_new WD _)) (by simp [Value.oneCell']) (by simp only [maxLen]; omega) (by omega) (by decide) ?_
        intro v3 w3 happ
        have hA := app_of happ (fr_d1 gD _)
        have hSn := rc03 (hA.1.at rxD (hr7D.notin rxD (by decide)))
        obtain ⟨b3, cap3, rfl⟩ := hA.2.2.2.1
        refine hK.out _ _ hSn (fun hSx => ?_)
        clear hK K hS
        have hS := hSx
        clear hSx hSn
        try go_frame
        refine tY 14 _ rfl (by kernel_rfl) (fun _ _ _ => id) hS (by rfl) (by intro wq _; go_simp <;> with_reducible rfl) ?_
        try go_frame
        refine wpAnyX_done (by kernel_rfl) ?_ _
        simp only [List.getElem_toArray, List.getElem_cons_succ, List.getElem_cons_zero, List.setIfInBounds_toArray, List.set_cons_succ, List.set_cons_zero]
        obtain ⟨A1, A2, A3, _, A5⟩ := hA
        have hpD := hpop.fr fD (fun _ _ h => h)
        have hVD := hV.fr0 fD
        obtain ⟨F5, V5⟩ := (hF.trans (hV.frV fD)).ownS hVD A1 (fun c hc => hn7 c hc) (fun c cs T hc hT => hr7D.notin hc (by rcases hT with rfl | rfl | rfl <;> decide))
        have hlen : (xs ++ [(d.k, d.v)]).length = xs.length + 1 := by simp
        have hres : RgSt g vb m lo hi t w (.slice (some ⟨b3, 0, none⟩) (xs.length + 1) cap3) (.slice (some ⟨b8, 0, none⟩) st'.length c8) w3 (sumS st') :=
         ⟨st', xs ++ [(d.k, d.v)], L', by rw [hlen, pV_app]; exact A3, hpD.fr A1 (fun c h1 h2 => hpD.ne2 hr7D (by decide) c h1 h2), fun c hc => by
          rcases A5 c hc with h | h
          ·exact hn7 c h
          ·have := hF.fr.size; have := fD.size; omega, hn8, by rw [← hx', hrn]; simp, fun q hq => ⟨((hHr q hq).1.fr0 fD).fr A1 (fun c cs T hc hT => hr7D.notin hc (by rcases hT with rfl | rfl | rfl <;> decide)), (hHr q hq).2⟩,
          V5, F5, A2.mono (by omega), rfl, by omega, by omega, by rw [hlen]; omega, .inr hL0⟩
        have HRES := Lib.hid hres
        clear hres A1 A2 A3 A5 F5 V5 hpD hVD hS happ
        go_wp2_with fail
        go_roundw
        case rel => exact ⟨_, HRES.out⟩
        case measure =>
         have h1 := least_le HRES.out
         have h2 := HN.out
         omega
       ·have hrn : rng lo hi (.leaf x d : HTree) = [] := by simp [rng, pairs, hi0, hlk, hkh]
        go_quiet (fail)
        have hres := HR.out (wr.drewN nq) _ (Fr.drewN g wr nq) (hG.drewN nq) (Nat.le_refl _) hrn
        have HRES := Lib.hid hres
        clear hres
        go_wp2_with fail
        go_roundw
        case rel => exact ⟨_, HRES.out⟩
        case measure =>
         have h1 := least_le HRES.out
         have h2 := HN.out
         omega
      ·have hrn : rng lo hi (.leaf x d : HTree) = [] := by simp [rng, pairs, hi0, hlk]
       go_quiet (fail)
       have hres := HR.out (wr.drewN nq) _ (Fr.drewN g wr nq) (hG.drewN nq) (Nat.le_refl _) hrn
       have HRES := Lib.hid hres
       clear hres
       go_wp2_with fail
       go_roundw
       case rel => exact ⟨_, HRES.out⟩
       case measure =>
        have h1 := least_le HRES.out
        have h2 := HN.out
        omega
     ·have hrn : rng lo hi (.leaf x d : HTree) = [] := by simp [rng, pairs, hi0]
      go_quiet (fail)
      have hres := HR.out (wr.drewN nq) _ (Fr.drewN g wr nq) (hG.drewN nq) (Nat.le_refl _) hrn
      have HRES := Lib.hid hres
      clear hres
      go_wp2_with fail
      go_roundw
      case rel => exact ⟨_, HRES.out⟩
      case measure =>
       have h1 := least_le HRES.out
       have h2 := HN.out
       omega
   | node x d l r =>
     have hxx : (T.node x d l r : HTree).ann.1 = x.1 := rfl
     rw [hxx] at c4 rx hcell
     rw [show (T.node x d l r : HTree).isLeaf = false from rfl] at c4
     rw [show (T.node x d l r : HTree).size = l.size + r.size + 1 from rfl] at hle hL' hxl hG HN
     have hw8 : (0 : Int) ≤ (st'.length : Int) := by omega
     have hcp : st'.length ≤ c8 := by
      rcases hpop.2 with ⟨h, _⟩ | ⟨_, _, _, h, h2, _⟩
      ·cases h
      ·simp at h; omega
     have hCh := children_any hG (by omega) (by omega) hV hHs.1.1
     have hsl1 := l.size_pos
     have hsr1 := r.size_pos
     unfold ptr at hCh
     go_wp2_with fail
     refine hCh.mono ?_
     rintro e w1 ⟨rfl, f, hG1, rr, hV1⟩
     have hT1 := hHs.1.frV hV f
     have hr71 := hr7.frV hV f (by decide)
     have hp1 := hpop.frV hV f (by decide)
     have hH1 : ∀ q ∈ st', HT g w1 q ∧ Sc q := fun q hq => ⟨(hHr q hq).1.frV hV f, (hHr q hq).2⟩
     have hF1 := hF.trans f
     have hl1 := (f.fr.at hlR (fun h => hV.out hlR (by decide) h))
     have hh1 := (f.fr.at hhR (fun h => hV.out hhR (by decide) h))
     obtain ⟨ix1, rx1⟩ := hT1.nd.rec
     have rx1 : Cl g w1 x.1 _ 209 := rx1
     have hB1 := Below_any hi rx1
     rw [show (T.node x d l r : HTree).it = d from rfl] at hB1
     have h0 := hh1.cell 0
     have l0 := hl1.cell 0
     have hrg := rng_node (lo := lo) (hi := hi) hHs.2
     have hkid := hHs.2.kids (hi := hi)
     clear hCh f hV hF hr7 hpop hHr hG hlR hhR rx c4 hcell hHs
     have HX : Hid (xs ++ (rng lo hi (T.node x d l r) ++ st'.reverse.flatMap (rng lo hi)) = rng lo hi t ∧ _ ∧ _) := ⟨hx', hrg, hkid⟩
     clear hx' hrg hkid
     go_wp2_with fail
     refine hB1.mono ?_
     rintro e w2 ⟨rfl, rfl⟩
     clear hB1
     have hNN : Hid (∀ (st2 : List HTree) v8' W, Row g W 99 1 v8' (st' ++ st2).length (kP (st' ++ st2)) → (∀ b, v8'.ownBlock = some b → w.heap.size ≤ b) → Row g W 49 2 (.slice a7 xs.length c7) xs.length (pV xs) → st2.reverse.flatMap (rng lo hi) = rng lo hi (T.node x d l r) → (∀ s ∈ st2, HT g W s ∧ Sc s) → (∀ q ∈ st', HT g W q ∧ Sc q) → VisSt g W vb (L' ++ [rr]) → FrV g vb w W → GOk g (m + 7 * (t.size - (sumS st' + (l.size + r.size + 1))) + 7) W → sumS st2 ≤ l.size + r.size → RgSt g vb m lo hi t w (.slice a7 xs.length c7) v8' W (sumS (st' ++ st2))) := fun st2 v8' W h1 h2 h3 h4 h5 h6 h7 h8 h9 h10 =>
      ⟨st' ++ st2, xs, L' ++ [rr], h3, h1, hn7, h2, by rw [← HX.out.1, ← h4]; simp, fun s hs => (List.mem_append.1 hs).elim (h6 s) (h5 s), h7, h8, h9.mono (by rw [sumS_app]; omega), rfl, by rw [sumS_app]; omega, by rw [sumS_app, List.length_append]; simp only [List.length_cons, List.length_nil]; omega, by rw [sumS_app]; omega, .inr (by simp)⟩
     have sz1 := hF1.fr.size
     cases hbh : below hi d with
     | true =>
       cases hbl : below lo d with
       | true =>
         go_wp2_with fail
         refine (Below_any lo rx1).mono ?_
         rintro e w2 ⟨rfl, rfl⟩
         rw [show (T.node x d l r : HTree).it = d from rfl, hbl]
         go_wp2_with (at_builtin
                      refine wpList_append_fr rfl _ _ 192 rfl 99 (.pointer none) 1 8 Tryz.underlying192 Tryz.info99 rfl (by decide) (by decide) (hG1.alloc _) (.slice (some ⟨b8, 0, none⟩) st'.length c8) st'.length (kP st') rfl (hp1.fr (Fr.alloc g No _ _ hG1) (fun _ _ h => h)) ⟨w1.heap.size, 0, none⟩ 1 1 [.pointer (some ⟨l.ann.1, 0, none⟩)] rfl rfl (cell_one_at rfl) (by simp [Value.oneCell']) (by simp only [maxLen]; omega) (by omega) (by decide) ?_
                      intro v2 w2 happ
                      have hA := app_gen happ (Fr.alloc g No w1 _ hG1) hn8 (by omega)
                      clear happ
                      obtain ⟨hf2, hg2, b2, cap2, rfl, hr3, hb2, hb3⟩ := hA)
         obtain ⟨F5, V5⟩ := hF1.ownS hV1 hf2 (fun c hc => hn8 c hc) (fun c cs T hc hT => hp1.notin hc (by rcases hT with rfl | rfl | rfl <;> decide))
         have hres := hNN.out [l] _ _ (by rw [List.length_append, kP_app]; exact hr3) (fun c h => by simp [Value.ownBlock] at h; subst h; exact hb2) (hr71.fr hf2 (fun c h1 h2 => hr71.ne2 hp1 (by decide) c h1 h2)) (by rw [HX.out.2.1, hbl, hbh]; simp) (by simp only [List.mem_singleton]; rintro s rfl; exact ⟨hT1.2.1.fr hf2 (fun c cs T hc hT => hp1.notin hc (by rcases hT with rfl | rfl | rfl <;> decide)), HX.out.2.2.1⟩) (fun q hq => ⟨(hH1 q hq).1.fr hf2 (fun c cs T hc hT => hp1.notin hc (by rcases hT with rfl | rfl | rfl <;> decide)), (hH1 q hq).2⟩) V5 F5 hg2 (by rw [sumS_1]; omega)
         have HRES := Lib.hid hres
         clear hres
         go_roundw
         case rel => exact ⟨_, HRES.out⟩
         case measure =>
          have h1 := least_le HRES.out
          have h2 := HN.out
          simp only [sumS_app, sumS_0, sumS_1, sumS_2] at h1
          omega
       | false =>
         go_wp2_with fail
         refine (Below_any lo rx1).mono ?_
         rintro e w2 ⟨rfl, rfl⟩
         rw [show (T.node x d l r : HTree).it = d from rfl, hbl]
         have hres := hNN.out [] (.slice (some ⟨b8, 0, none⟩) st'.length c8) _ (by simpa using hp1) (fun c h => hn8 c h) hr71 (by rw [HX.out.2.1, hbl, hbh]; simp) (by simp) hH1 hV1 hF1 hG1 (by simp [sumS])
         have HRES := Lib.hid hres
         clear hres
         go_wp2_with fail
         go_roundw
         case rel => exact ⟨_, HRES.out⟩
         case measure =>
          have h1 := least_le HRES.out
          have h2 := HN.out
          simp only [sumS_app, sumS_0, sumS_1, sumS_2] at h1
          omega
     | false =>
       cases hbl : below lo d with
       | true =>
         go_wp2_with (at_builtin
                      refine wpList_append_fr rfl _ _ 192 rfl 99 (.pointer none) 1 8 Tryz.underlying192 Tryz.info99 rfl (by decide) (by decide) (hG1.alloc _) (.slice (some ⟨b8, 0, none⟩) st'.length c8) st'.length (kP st') rfl (hp1.fr (Fr.alloc g No _ _ hG1) (fun _ _ h => h)) ⟨w1.heap.size, 0, none⟩ 1 1 [.pointer (some ⟨r.ann.1, 0, none⟩)] rfl rfl (cell_one_at rfl) (by simp [Value.oneCell']) (by simp only [maxLen]; omega) (by omega) (by decide) ?_
                      intro v2 w2 happ
                      have hA := app_gen happ (Fr.alloc g No w1 _ hG1) hn8 (by omega)
                      clear happ
                      obtain ⟨hf2, hg2, b2, cap2, rfl, hr3, hb2, hb3⟩ := hA
                      have l2 := (hf2.at hl1 (hp1.notin hl1 (by decide))).cell 0)
         obtain ⟨F5, V5⟩ := hF1.ownS hV1 hf2 (fun c hc => hn8 c hc) (fun c cs T hc hT => hp1.notin hc (by rcases hT with rfl | rfl | rfl <;> decide))
         have hT2 := hT1.fr hf2 (fun c cs T hc hT => hp1.notin hc (by rcases hT with rfl | rfl | rfl <;> decide))
         have rx2 := hf2.at rx1 (hp1.notin rx1 (by decide))
         have sz2 := F5.fr.size
         refine (Below_any lo rx2).mono ?_
         rintro e w3 ⟨rfl, rfl⟩
         rw [show (T.node x d l r : HTree).it = d from rfl, hbl]
         go_wp2_with (at_builtin
                      refine wpList_append_fr rfl _ _ 192 rfl 99 (.pointer none) 1 8 Tryz.underlying192 Tryz.info99 rfl (by decide) (by decide) (hg2.alloc _) (.slice (some ⟨b2, 0, none⟩) (st'.length + 1) cap2) (st'.length + 1) (kP st' ++ [.pointer (some ⟨r.ann.1, 0, none⟩)]) rfl (hr3.fr (Fr.alloc g No _ _ hg2) (fun _ _ h => h)) ⟨w2.heap.size, 0, none⟩ 1 1 [.pointer (some ⟨l.ann.1, 0, none⟩)] rfl rfl (cell_one_at rfl) (by simp [Value.oneCell']) (by simp only [maxLen]; omega) (by omega) (by decide) ?_
                      intro v4 w4 happ4
                      have hA := app_gen happ4 (Fr.alloc g No w2 _ hg2) (fun c h => by simp [Value.ownBlock] at h; subst h; exact hb2) (by omega)
                      clear happ4
                      obtain ⟨hf4, hg4, b4, cap4, rfl, hr5, hb4, hb5⟩ := hA)
         obtain ⟨F6, V6⟩ := F5.ownS V5 hf4 (fun c h => by simp [Value.ownBlock] at h; subst h; exact hb2) (fun c cs T hc hT => hr3.notin hc (by rcases hT with rfl | rfl | rfl <;> decide))
         have hres := hNN.out [r, l] _ _ (by rw [show st' ++ [r, l] = (st' ++ [r]) ++ [l] from by simp, List.length_append, List.length_append, kP_app, kP_app]; exact hr5) (fun c h => by simp [Value.ownBlock] at h; subst h; exact hb4) ((hr71.fr hf2 (fun c h1 h2 => hr71.ne2 hp1 (by decide) c h1 h2)).fr hf4 (fun c h1 h2 => (hr71.fr hf2 (fun c h1 h2 => hr71.ne2 hp1 (by decide) c h1 h2)).ne2 hr3 (by decide) c h1 h2)) (by rw [HX.out.2.1, hbl, hbh]; simp) (by
          simp only [List.mem_cons, List.not_mem_nil, or_false]
          rintro s (rfl | rfl)
          ·exact ⟨hT2.2.2.fr hf4 (fun c cs T hc hT => hr3.notin hc (by rcases hT with rfl | rfl | rfl <;> decide)), HX.out.2.2.2 hbh⟩
          ·exact ⟨hT2.2.1.fr hf4 (fun c cs T hc hT => hr3.notin hc (by rcases hT with rfl | rfl | rfl <;> decide)), HX.out.2.2.1⟩) (fun q hq => ⟨((hH1 q hq).1.fr hf2 (fun c cs T hc hT => hp1.notin hc (by rcases hT with rfl | rfl | rfl <;> decide))).fr hf4 (fun c cs T hc hT => hr3.notin hc (by rcases hT with rfl | rfl | rfl <;> decide)), (hH1 q hq).2⟩) V6 F6 hg4 (by rw [sumS_2]; omega)
         have HRES := Lib.hid hres
         clear hres
         go_roundw
         case rel => exact ⟨_, HRES.out⟩
         case measure =>
          have h1 := least_le HRES.out
          have h2 := HN.out
          simp only [sumS_app, sumS_0, sumS_1, sumS_2] at h1
          omega
       | false =>
         go_wp2_with (at_builtin
                      refine wpList_append_fr rfl _ _ 192 rfl 99 (.pointer none) 1 8 Tryz.underlying192 Tryz.info99 rfl (by decide) (by decide) (hG1.alloc _) (.slice (some ⟨b8, 0, none⟩) st'.length c8) st'.length (kP st') rfl (hp1.fr (Fr.alloc g No _ _ hG1) (fun _ _ h => h)) ⟨w1.heap.size, 0, none⟩ 1 1 [.pointer (some ⟨r.ann.1, 0, none⟩)] rfl rfl (cell_one_at rfl) (by simp [Value.oneCell']) (by simp only [maxLen]; omega) (by omega) (by decide) ?_
                      intro v2 w2 happ
                      have hA := app_gen happ (Fr.alloc g No w1 _ hG1) hn8 (by omega)
                      clear happ
                      obtain ⟨hf2, hg2, b2, cap2, rfl, hr3, hb2, hb3⟩ := hA
                      have l2 := (hf2.at hl1 (hp1.notin hl1 (by decide))).cell 0)
         obtain ⟨F5, V5⟩ := hF1.ownS hV1 hf2 (fun c hc => hn8 c hc) (fun c cs T hc hT => hp1.notin hc (by rcases hT with rfl | rfl | rfl <;> decide))
         have hT2 := hT1.fr hf2 (fun c cs T hc hT => hp1.notin hc (by rcases hT with rfl | rfl | rfl <;> decide))
         have rx2 := hf2.at rx1 (hp1.notin rx1 (by decide))
         have sz2 := F5.fr.size
         refine (Below_any lo rx2).mono ?_
         rintro e w3 ⟨rfl, rfl⟩
         rw [show (T.node x d l r : HTree).it = d from rfl, hbl]
         have hres := hNN.out [r] _ _ (by rw [List.length_append, kP_app]; exact hr3) (fun c h => by simp [Value.ownBlock] at h; subst h; exact hb2) (hr71.fr hf2 (fun c h1 h2 => hr71.ne2 hp1 (by decide) c h1 h2)) (by rw [HX.out.2.1, hbl, hbh]; simp) (by simp only [List.mem_singleton]; rintro s rfl; exact ⟨hT2.2.2, HX.out.2.2.2 hbh⟩) (fun q hq => ⟨(hH1 q hq).1.fr hf2 (fun c cs T hc hT => hp1.notin hc (by rcases hT with rfl | rfl | rfl <;> decide)), (hH1 q hq).2⟩) V5 F5 hg2 (by rw [sumS_1]; omega)
         have HRES := Lib.hid hres
         clear hres
         go_wp2_with fail
         go_roundw
         case rel => exact ⟨_, HRES.out⟩
         case measure =>
          have h1 := least_le HRES.out
          have h2 := HN.out
          simp only [sumS_app, sumS_0, sumS_1, sumS_2] at h1
          omega
end Go.Proofs.YtdmobhndbibhoaaGreat
