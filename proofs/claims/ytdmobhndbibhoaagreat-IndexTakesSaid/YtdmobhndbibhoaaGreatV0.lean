/- index.Take: the walk. -/
import Derived.Test.YtdmobhndbibhoaaGreatT10
import Derived.Test.YtdmobhndbibhoaaGreatRows
import Derived.ProofKit
import Derived.OpenShut
import Derived.SizedLaws
import Derived.Deep.Slices
import Derived.Deep.Fields
import Derived.ChangeSame
import Derived.Lib.SmallJoins
namespace Go.Proofs.YtdmobhndbibhoaaGreat
open Go.RowKit Larch
set_option maxRecDepth 100000
set_option linter.unusedVariables false
set_option linter.unusedSimpArgs false
attribute [local go_sem ↓] Go.wp_at_zero Go.wp_at_succ
attribute [local go_sem] Oper.semAt_some
theorem Sl.arg {g : Gt} {w : World} {size n : Nat} {v : Value} {xs : List Value} (h : Sl g w size v n xs) (hz : 0 < size) : Arg (gAll w) w size v n xs := by
 obtain ⟨h1, a, c, rfl, hc, h3⟩ := h
 refine ⟨h1, a, c, rfl, fun hn => ?_⟩
 obtain ⟨b, off, rfl, e2, e3⟩ := h3 hn
 have hp : 0 < n * size := Nat.mul_pos hn hz
 have := e3 0 hp
 rw [List.getElem?_eq_getElem (by omega)] at this
 exact ⟨b, off, rfl, lt_of_cell this, e3⟩
theorem At.ofAll {g : Gt} {m b : Nat} {w w' : World} {o : Obj} (hgt : g.gt = none) (hg : GOk g m w) (h : At (gAll w) w' b o) : At g w' b o :=
 ⟨h.1, fun k => h.2 (.inl (hg.1 b ((gblk_none hgt _ b).1 k)))⟩
theorem Row.ofAll {g : Gt} {m e size n : Nat} {w w' : World} {v : Value} {xs : List Value} (hgt : g.gt = none) (hg : GOk g m w) (h : Row (gAll w) w' e size v n xs) : Row g w' e size v n xs := by
 refine ⟨h.1, ?_⟩
 rcases h.2 with h' | ⟨b, cap, cur, rfl, h2, h3, h4, h5⟩
 ·exact .inl h'
 ·exact .inr ⟨b, cap, cur, rfl, h2, h3, At.ofAll hgt hg h4, h5⟩
theorem insL_keys {k v : Int} {m : List Pr} {P : Int → Prop} (hk : P k) (h : ∀ p ∈ m, P p.1) : ∀ p ∈ insL k v m, P p.1 := by
 intro p hp
 simp only [insL, List.mem_append, List.mem_cons] at hp
 rcases hp with hp | rfl | hp
 ·exact h p (List.mem_filter.1 hp).1
 ·exact hk
 ·exact h p (List.mem_filter.1 hp).1
theorem ofL_keys {P : Int → Prop} (ps : List Pr) : ∀ {m : List Pr}, (∀ p ∈ ps, P p.1) → (∀ p ∈ m, P p.1) → ∀ p ∈ ofL ps m, P p.1 := by
 induction ps with
 | nil => exact fun _ h => h
 | cons q ps ih => exact fun h h2 => ih (fun p hp => h p (by simp [hp])) (insL_keys (h q (by simp)) h2)
def TakeP (g : Gt) (m : Nat) (ps : List (Int × Int)) (er : Int) (w : World) (e : Ending) (w' : World) : Prop :=
 ∃ v, e = .returned (.tuple #[v, .int .i64 er]) ∧ PV g w.heap.size w' ps v ∧ Fr g (fun _ => True) w w' ∧ GOk g m w'
theorem tkC {n : Nat} (h : n ≤ 1000) : (n + 1) * cost 2005 < LIM := by
 have : (n + 1) * cost 2005 ≤ 1001 * cost 2005 := Nat.mul_le_mul_right _ (by omega)
 have h2 : 1001 * cost 2005 < LIM := by decide
 omega
set_option maxHeartbeats 16000000 in
theorem Take_in {g : Gt} {m n cn : Nat} {sv : Value} {way key : Int} {ps : List Pr} {w : World} (hgt : g.gt = none) (hg : GOk g m w) (hA : Arg g w 2 sv n (pV ps)) (hw : way = 1 ∨ way = 2 ∨ way = 3) (hk : I64 key) (hn : n ≤ 1000) (hc1 : 1 ≤ cn) (hc : cn ≤ 1000) (h64 : ∀ p ∈ ps, I64 p.1) :
 Calls Tryz.prog 42 #[sv, .int .i64 way, .int .i64 key, .int .i64 (cn : Int)] w (TakeP g m (takeN (ofL ps []) cn ⟨way, ofL ps [], key, false⟩) 0 w) := by
 obtain ⟨a, c, rfl⟩ := hA.slice
 have hF1 := Fr.alloc g No w (.cells #[.int .i64 (cn : Int)] 3) hg
 have hG1 := hg.alloc (.cells #[.int .i64 (cn : Int)] 3)
 have hB1 := At.new hg (.cells #[.int .i64 (cn : Int)] 3)
 have hF2 := Fr.alloc g No _ (.cells #[.slice none 0 0] 22) hG1
 have hG2 := hG1.alloc (.cells #[.slice none 0 0] 22)
 have hB2 := At.new hG1 (.cells #[.slice none 0 0] 22)
 have hB1' := hF2.at hB1 id
 simp only [World.size_alloc] at hB2
 have hF := hF1.tr hF2
 have hOf := Of_any hgt hG2 (hA.fr hF) hn
 have n0 := hB1.cell 0
 have h1 : 1 ≤ way := by omega
 have h2 : way ≤ 3 := by omega
 have hn' : ¬ (1000 : Int) < (n : Int) := by omega
 have hc' : ¬ (1000 : Int) < (cn : Int) := by omega
 have hc0 : ¬ (cn : Int) = 0 := by omega
 have hc2 : ((cn : Int) == 0) = false := by simp; omega
 have hlp := hA.1
 rw [pV_len2] at hlp
 have hlp' : ps.length = n := by omega
 have HW := Lib.hid (And.intro hw (And.intro hF (And.intro hB1' (And.intro hB2 hlp'))))
 clear hw hF1 hG1 hF2 hG2 hB1 hB2 hB1' hF hA hlp hlp'
 refine (callsIn_wide (n := 3)).1 (callsIn_of_wp_marks Tryz.func42 rfl trivial (wpIn_wide.2 ?_))
 simp only [Tryz.ntmps42, List.size_toArray, List.length_cons, List.length_nil, Nat.reduceAdd, Nat.reduceSub, Array.replicate_succ, Array.replicate_zero, List.push_toArray, List.append_toArray, List.nil_append, List.cons_append]
 go_wp2_with fail
 refine hOf.mono ?_
 rintro e w3 ⟨mb, be, rfl, hM, hS, hmb⟩
 have hHd := Handle_any (gv := .nilIface) (.inl rfl) hS.gate hM
 clear hOf
 unfold ptr at hHd ⊢
 go_wp2_with fail
 refine hHd.mono ?_
 rintro e w4 ⟨hb, rfl, hH, f4, g4, hhb⟩
 have hS4 := hS.fr f4 g4
 rw [← gval_none hgt] at hH
 have hWy := way_any HW.out.1 hk g4 hH
 have z3 := hS.tf.size
 simp only [World.size_alloc] at z3
 have HS := Lib.hid (And.intro hS4 (And.intro hhb (And.intro hH (And.intro z3 f4.size))))
 clear hHd hS hM f4 hS4 hhb hH hmb z3
 unfold ptr at hWy
 go_wp2_with fail
 refine hWy.mono ?_
 intro e w5 hq
 obtain ⟨gf, lb, Pre, own, rfl, heg, hPre, hown, f5, g5, hseq⟩ := hq
 clear hWy
 obtain ⟨T0, hT0⟩ : ∃ t, ofT ps emptyT = t := ⟨_, rfl⟩
 have hGd := (ofT_good ps good_empty).1
 have hPr := (ofT_good ps good_empty).2
 rw [show pairs emptyT = [] from by decide] at hPr
 have hTs := ofT_size ps
 rw [hT0] at hGd hPr hTs HS
 rw [HW.out.2.2.2.2] at hTs
 have hcc := cost_le (show T0.size ≤ 2005 by omega)
 have hLIM : LIM = 1099511627776 := rfl
 have h64' : ∀ p ∈ pairs T0, I64 p.1 := by rw [hPr]; exact ofL_keys (P := I64) ps h64 (by simp)
 have hlen : (pairs T0).length ≤ 100000 := by rw [hPr]; have := ofL_len0 ps; have := HW.out.2.2.2.2; omega
 have hsq := hseq (fun _ => T0) (fun n => n * cost 2005) cn h64' (by omega) (fun pre hp => ⟨by rw [Nat.succ_mul]; omega, tkC (by omega), by omega⟩) (fun n => by rw [Nat.succ_mul]; omega) (fun _ => hlen)
 obtain ⟨hS4, hhb, hH, z3, z4⟩ := HS.out
 have z5 := f5.size
 have z6 := hH.lt
 have hI0 : TkI g be w.heap.size (w.heap.size + 1) cn w5.heap.size T0 way key w [] w5 := by
  have hS5 := (hS4.fr f5 g5).here
  have f45 : TF g _ w5 := hS4.tf.trans (TF.of f5)
  have hb2 := f45.at HW.out.2.2.2.1 (by decide)
  exact ⟨hS5, f45.at HW.out.2.2.1 (by decide), ⟨_, hb2, Row.nil, by simp [Value.ownBlock]⟩, HW.out.2.1.trans (show Fr g (Tb g _) _ w5 from f45) (fun _ _ _ => trivial) (fun _ _ _ => trivial), Nat.le_refl _, by rw [lpAt_start]; simp⟩
 have HI := Lib.hid (And.intro hsq (And.intro hI0 (And.intro hPr g5)))
 clear hsq hI0 hS4 hH hPr h64' hlen hcc hTs hseq HS h64
 go_wp2_with fail
 refine wp_range (m := 0) (id := 1) rfl heg rfl HI.out.1 HI.out.2.2.2
  (fun pre W => TkI g be w.heap.size (w.heap.size + 1) cn w5.heap.size T0 way key w pre W ∧ pre.length < cn)
  (fun pre W => TkI g be w.heap.size (w.heap.size + 1) cn w5.heap.size T0 way key w pre W ∧ pre.length < cn)
  (fun pre W => TkI g be w.heap.size (w.heap.size + 1) cn w5.heap.size T0 way key w pre W ∧ pre.length = cn)
  (BoxO (w.heap.size + 1) 22)
  (fun pre W h => h.1.st.any hgt) (fun pre W h => h.1.st.any hgt)
  (fun pre W W' h hf hs => ⟨⟨(h.1.step hf (hs.any hgt)).1, h.2⟩, (h.1.step hf (hs.any hgt)).2⟩)
  (fun pre W W' h hf hs => ⟨⟨(h.1.step hf (hs.any hgt)).1, h.2⟩, (h.1.step hf (hs.any hgt)).2⟩)
  (fun pre W b h hb' => ?hO) (fun pre x W h _ => h.2)
  (fun pre W l o o' h hl hAt hn hn' => ⟨⟨(h.1.put hgt hAt hn hn').1, h.2⟩, fun b => ((h.1.put hgt hAt hn hn').2 b).1⟩)
  (fun pre W l o o' h hl hAt hn hn' => ⟨⟨(h.1.put hgt hAt hn hn').1, h.2⟩, fun b => ⟨((h.1.put hgt hAt hn hn').2 b).1, ((h.1.put hgt hAt hn hn').2 b).2⟩⟩)
  (fun pre W l o o' h hl hAt hn hn' => ⟨(h.1.put hgt hAt hn hn').1, h.2⟩)
  ?a1 ?assign ?body ?h0 ?done ?stop
 case assign =>
  intro l x W Kc hK
  gi_wp2
  exact hK
 case body =>
  intro l pre x W hI hx
  obtain ⟨h, hl⟩ := hI
  obtain ⟨x1, x2⟩ := x
  obtain ⟨v, b1, r1, o1, i1⟩ := h.oiff
  obtain ⟨sa, sc, rfl⟩ := r1.slice
  have c0 := b1.cell 0
  have e0 := b1.free 0
  have n1 := h.nbox.cell 0
  obtain ⟨q, hq⟩ : ∃ q, pre.length = q := ⟨_, rfl⟩
  have hG := h.st.gate
  have hBl := b1.lt
  have hNl := h.nbox.lt
  have HX := Lib.hid (And.intro h (And.intro hx (And.intro hq o1)))
  rw [hq] at r1 hl b1 c0
  have hNB := h.nbox
  clear h hx o1 i1 hq n0 h1 h2 hc0 hc2 hhb z3 z4 z5 HI hk
  rcases Nat.lt_or_ge (q + 1) cn with hlt | hge
  ·have d1 : ¬ ((q : Int) + 1 = (cn : Int)) := by omega
   have d2 : (((q : Int) + 1) == (cn : Int)) = false := by simp; omega
   gi_wp2_with (gi_at_builtin; refine wpAI rfl _ _ rfl hG r1 (by omega) rfl rfl rfl ?_; intro b3 cap3 w3 A1 A2 A3 A4; have b1' := A1.at b1 (r1.notin b1 (by decide)); have c0' := b1'.cell 0; have e0' := b1'.free 0; have n3 := (A1.at hNB (r1.notin hNB (by decide))).cell 0)
   obtain ⟨h, hx, hq, o1⟩ := HX.out
   subst hq
   obtain ⟨k1, k2⟩ := h.push hgt b1 r1 A1 A3 A4 hx hl
   exact ⟨⟨k1, by rw [List.length_append]; exact hlt⟩, k2⟩
  ·have d2 : (((q : Int) + 1) == (cn : Int)) = true := by simp; omega
   have HD : Hid (cn = q + 1) := Lib.hid (by omega)
   gi_wp2_with (gi_at_builtin; refine wpAI rfl _ _ rfl hG r1 (by omega) rfl rfl rfl ?_; intro b3 cap3 w3 A1 A2 A3 A4; have b1' := A1.at b1 (r1.notin b1 (by decide)); have c0' := b1'.cell 0; have e0' := b1'.free 0; have n3 := (A1.at hNB (r1.notin hNB (by decide))).cell 0)
   obtain ⟨h, hx, hq, o1⟩ := HX.out
   subst hq
   obtain ⟨k1, k2⟩ := h.push hgt b1 r1 A1 A3 A4 hx hl
   exact ⟨rfl, ⟨k1, by rw [List.length_append, HD.out]; rfl⟩, k2⟩
 case done =>
  intro D xs W hI hE hD hAt
  obtain ⟨h, hl⟩ := hI
  obtain ⟨v, b1, r1, o1, i1⟩ := h.oiff
  obtain ⟨sa, sc, rfl⟩ := r1.slice
  have c0 := b1.cell 0
  have hxs : xs = takeN (pairs T0) cn ⟨way, pairs T0, key, false⟩ := by rw [← h.chain, takeN_none hE]; simp
  have HX := Lib.hid (And.intro h (And.intro hxs b1))
  clear h hxs hE r1 b1 o1 i1 n0 h1 h2 hc0 hc2 hhb
  go_wp2_with fail
  (try simp only [Exit.inBlock, Exit.then])
  refine ⟨by simp, .inl ⟨_, _, rfl, run_takeDeferred hAt.1, ?_⟩⟩
  obtain ⟨h, hxs, b1⟩ := HX.out
  obtain ⟨k1, k2⟩ := h.fin (o' := .deferred none) hgt b1 (by omega) hAt (nonC_def _) (nonC_def _)
  refine ⟨_, results_tmp2 rfl _ _ _, _, rfl, ?_, k2, hg.none hgt k2.size⟩
  rw [← HI.out.2.2.1, ← hxs]
  exact k1
 case stop =>
  intro D xs W hI hD hAt
  obtain ⟨h, hl⟩ := hI
  obtain ⟨v, b1, r1, o1, i1⟩ := h.oiff
  obtain ⟨sa, sc, rfl⟩ := r1.slice
  have c0 := b1.cell 0
  have hxs : xs = takeN (pairs T0) cn ⟨way, pairs T0, key, false⟩ := by rw [← h.chain, hl, Nat.sub_self]; simp [takeN]
  have HX := Lib.hid (And.intro h (And.intro hxs b1))
  clear h hxs r1 b1 o1 i1 n0 h1 h2 hc0 hc2 hhb hl
  go_wp2_with fail
  (try simp only [Exit.inBlock, Exit.then])
  refine ⟨by simp, .inl ⟨_, _, rfl, run_takeDeferred hAt.1, ?_⟩⟩
  obtain ⟨h, hxs, b1⟩ := HX.out
  obtain ⟨k1, k2⟩ := h.fin (o' := .deferred none) hgt b1 (by omega) hAt (nonC_def _) (nonC_def _)
  refine ⟨_, results_tmp2 rfl _ _ _, _, rfl, ?_, k2, hg.none hgt k2.size⟩
  rw [← HI.out.2.2.1, ← hxs]
  exact k1
 case hO =>
  have hc := h.elim (fun k => k.1.cells hb') (fun k => k.1.cells hb')
  refine ⟨hc.1, fun k => ?_⟩
  rcases hown b k with k1 | k1 <;> rcases hc.2 with k2 | k2 <;> omega
 case h0 =>
  intro o1 o2 hn1 hn2
  have hI := HI.out.2.1
  have f1 := Fr.alloc g No w5 o1 hI.st.gate
  have s1 := (hI.st.alloc o1).here
  have f2 := Fr.alloc g No _ o2 s1.gate
  have s2 := (s1.alloc o2).here
  have hI1 := (hI.step (B := 0) (f1.mono (fun _ _ k => k.elim)) s1).1
  have hI2 := (hI1.step (B := 0) (f2.mono (fun _ _ k => k.elim)) s2).1
  exact ⟨⟨hI2, hc1⟩, hPre _ (f1.tr f2)⟩
theorem Take_ok {g : Gt} {m n cn : Nat} {sv : Value} {way key : Int} {ps : List Pr} {w : World} (hgt : g.gt = none) (hg : GOk g m w) (hA : Sl g w 2 sv n (pV ps)) (hw : way = 1 ∨ way = 2 ∨ way = 3) (hk : I64 key) (hn : n ≤ 1000) (hc1 : 1 ≤ cn) (hc : cn ≤ 1000) (h64 : ∀ p ∈ ps, I64 p.1) :
 Calls Tryz.prog 42 #[sv, .int .i64 way, .int .i64 key, .int .i64 (cn : Int)] w (TakeQ g m (takeN (ofL ps []) cn ⟨way, ofL ps [], key, false⟩) 0 w) := by
 refine (Take_in (g := gAll w) (m := 0) rfl gAll_ok (hA.arg (by decide)) hw hk hn hc1 hc h64).mono ?_
 rintro e w' ⟨v, h1, h2, h3, h4⟩
 exact ⟨v, h1, ⟨Row.ofAll hgt hg h2.1, h2.2⟩, Fr.ofAll hgt hg h3, hg.none hgt h3.size⟩
set_option maxHeartbeats 4000000 in
theorem Take_no {g : Gt} {m n : Nat} {a : Option Addr} {c : Nat} {way from_ cnt er : Int} {w : World} (hg : GOk g m w) (h : way < 1 ∧ er = 5 ∨ 3 < way ∧ er = 5 ∨ (1 ≤ way ∧ way ≤ 3) ∧ (cnt < 0 ∧ er = 1 ∨ 0 ≤ cnt ∧ (1000 < n ∧ er = 2 ∨ n ≤ 1000 ∧ (1000 < cnt ∧ er = 2 ∨ cnt = 0 ∧ er = 0)))) (hn : n < 1000000000000000) :
 Calls Tryz.prog 42 #[.slice a n c, .int .i64 way, .int .i64 from_, .int .i64 cnt] w (TakeQ g m [] er w) := by
 have hF := Fr.alloc g No w (.cells #[.int .i64 cnt] 3) hg
 have hG := hg.alloc (.cells #[.int .i64 cnt] 3)
 have hB := (At.new hg (.cells #[.int .i64 cnt] 3)).cell 0
 rcases h with ⟨h1, rfl⟩ | ⟨h1, rfl⟩ | ⟨⟨h1, h2⟩, ⟨h3, rfl⟩ | ⟨h3, ⟨h4, rfl⟩ | ⟨h4, ⟨h5, rfl⟩ | ⟨rfl, rfl⟩⟩⟩⟩
 ·go_enter Tryz.func42, Tryz.ntmps42
  go_wp2_with fail
  go_ret2
  exact ⟨_, rfl, pV_nil, hF, hG⟩
 ·have h2 : ¬ way < 1 := by omega
  go_enter Tryz.func42, Tryz.ntmps42
  go_wp2_with fail
  go_ret2
  exact ⟨_, rfl, pV_nil, hF, hG⟩
 ·go_enter Tryz.func42, Tryz.ntmps42
  go_wp2_with fail
  go_ret2
  exact ⟨_, rfl, pV_nil, hF, hG⟩
 ·have h5 : (1000 : Int) < (n : Int) := by omega
  go_enter Tryz.func42, Tryz.ntmps42
  go_wp2_with fail
  go_ret2
  exact ⟨_, rfl, pV_nil, hF, hG⟩
 ·have h6 : ¬ (1000 : Int) < (n : Int) := by omega
  go_enter Tryz.func42, Tryz.ntmps42
  go_wp2_with fail
  go_ret2
  exact ⟨_, rfl, pV_nil, hF, hG⟩
 ·have h6 : ¬ (1000 : Int) < (n : Int) := by omega
  go_enter Tryz.func42, Tryz.ntmps42
  go_wp2_with fail
  go_ret2
  exact ⟨_, rfl, pV_nil, hF, hG⟩
end Go.Proofs.YtdmobhndbibhoaaGreat
namespace Go.Proofs.YtdmobhndbibhoaaGreat
open Go.RowKit Larch
set_option maxRecDepth 100000
set_option linter.unusedVariables false
set_option linter.unusedSimpArgs false
attribute [local go_sem ↓] Go.wp_at_zero Go.wp_at_succ
def tkE (way cnt : Int) (n : Nat) : Int := if way < 1 ∨ 3 < way then 5 else if cnt < 0 then 1 else if 1000 < n ∨ 1000 < cnt then 2 else 0
def tkL (ps : List Pr) (way key cnt : Int) (n : Nat) : List Pr := if tkE way cnt n = 0 then takeN (ofL ps []) cnt.toNat ⟨way, ofL ps [], key, false⟩ else []
theorem tkE_no {way cnt : Int} {n : Nat} (h : tkE way cnt n ≠ 0) : way < 1 ∧ tkE way cnt n = 5 ∨ 3 < way ∧ tkE way cnt n = 5 ∨ (1 ≤ way ∧ way ≤ 3) ∧ (cnt < 0 ∧ tkE way cnt n = 1 ∨ 0 ≤ cnt ∧ (1000 < n ∧ tkE way cnt n = 2 ∨ n ≤ 1000 ∧ 1000 < cnt ∧ tkE way cnt n = 2)) := by
 unfold tkE at *
 split
 ·rename_i h1; rcases h1 with h1 | h1
  ·exact .inl ⟨h1, rfl⟩
  ·exact .inr (.inl ⟨h1, rfl⟩)
 ·rename_i h1
  split
  ·exact .inr (.inr ⟨by omega, .inl ⟨by assumption, rfl⟩⟩)
  ·split
   ·rename_i h2 h3
    refine .inr (.inr ⟨by omega, .inr ⟨by omega, ?_⟩⟩)
    by_cases h4 : 1000 < n
    ·exact .inl ⟨h4, rfl⟩
    ·exact .inr ⟨by omega, by omega, rfl⟩
   ·rename_i h2 h3
    rw [if_neg h1, if_neg h2, if_neg h3] at h
    exact absurd rfl h
theorem tkE_ok {way cnt : Int} {n : Nat} (h : tkE way cnt n = 0) : (way = 1 ∨ way = 2 ∨ way = 3) ∧ 0 ≤ cnt ∧ cnt ≤ 1000 ∧ n ≤ 1000 := by
 unfold tkE at h
 split at h
 ·cases h
 ·split at h
  ·cases h
  ·split at h
   ·cases h
   ·omega
theorem ref_take {g : Gt} {m n c : Nat} {a : Option Addr} {way key cnt : Int} {ps : List Pr} {w : World} (hg : GOk g m w) (hA : Sl g w 2 (.slice a n c) n (pV ps)) (hn : n < 1000000000000000) :
 Calls Tryz.prog 24 #[.slice a n c, .int .i64 way, .int .i64 key, .int .i64 cnt] w (TakeQ g m (tkL ps way key cnt n) (tkE way cnt n) w) := by
 by_cases h : tkE way cnt n = 0
 ·obtain ⟨h1, h2, h3, h4⟩ := tkE_ok h
  obtain ⟨k, rfl⟩ : ∃ k : Nat, cnt = (k : Int) := ⟨cnt.toNat, by omega⟩
  rw [show tkL ps way key k n = takeN (ofL ps []) k ⟨way, ofL ps [], key, false⟩ from by unfold tkL; rw [if_pos h]; simp, h]
  exact Take6_ok hg hA h1 h4 (by omega)
 ·rw [show tkL ps way key cnt n = [] from by unfold tkL; rw [if_neg h]]
  exact Take6_no hg (tkE_no h) hn
theorem prog_take {g : Gt} {m n c : Nat} {a : Option Addr} {way key cnt : Int} {ps : List Pr} {w : World} (hgt : g.gt = none) (hg : GOk g m w) (hA : Sl g w 2 (.slice a n c) n (pV ps)) (hn : n < 1000000000000000) (hk : I64 key) (h64 : ∀ p ∈ ps, I64 p.1) :
 Calls Tryz.prog 42 #[.slice a n c, .int .i64 way, .int .i64 key, .int .i64 cnt] w (TakeQ g m (tkL ps way key cnt n) (tkE way cnt n) w) := by
 by_cases h : tkE way cnt n = 0
 ·obtain ⟨h1, h2, h3, h4⟩ := tkE_ok h
  obtain ⟨k, rfl⟩ : ∃ k : Nat, cnt = (k : Int) := ⟨cnt.toNat, by omega⟩
  rw [show tkL ps way key k n = takeN (ofL ps []) k ⟨way, ofL ps [], key, false⟩ from by unfold tkL; rw [if_pos h]; simp, h]
  by_cases h0 : k = 0
  ·subst h0
   exact Take_no hg (.inr (.inr ⟨by omega, .inr ⟨by omega, .inr ⟨h4, .inr ⟨rfl, rfl⟩⟩⟩⟩)) hn
  ·exact Take_ok hgt hg hA h1 hk h4 (by omega) (by omega) h64
 ·rw [show tkL ps way key cnt n = [] from by unfold tkL; rw [if_neg h]]
  refine Take_no hg ?_ hn
  rcases tkE_no h with k | k | ⟨k, k1 | ⟨k1, k2 | ⟨k2, k3⟩⟩⟩
  ·exact .inl k
  ·exact .inr (.inl k)
  ·exact .inr (.inr ⟨k, .inl k1⟩)
  ·exact .inr (.inr ⟨k, .inr ⟨k1, .inl k2⟩⟩)
  ·exact .inr (.inr ⟨k, .inr ⟨k1, .inr ⟨k2, .inl k3⟩⟩⟩)
theorem Sl.take {g : Gt} {w : World} {size n k c : Nat} {a : Option Addr} {xs : List Value} (h : Sl g w size (.slice a n c) n xs) (hk : k ≤ n) : Sl g w size (.slice a k c) k (xs.take (k * size)) := by
 obtain ⟨h1, a', c1, h2, hc, h3⟩ := h
 simp only [Value.slice.injEq] at h2
 obtain ⟨rfl, _, rfl⟩ := h2
 have hm : k * size ≤ n * size := Nat.mul_le_mul_right _ hk
 refine ⟨by rw [List.length_take, h1]; omega, a, c, rfl, by omega, fun hn => ?_⟩
 obtain ⟨b, off, e1, e2, e3⟩ := h3 (by omega)
 exact ⟨b, off, e1, e2, fun j hj => by rw [e3 j (by omega), List.getElem?_take_of_lt hj]⟩
theorem Sl.takeP {g : Gt} {w : World} {n k c : Nat} {a : Option Addr} {ps : List Pr} (h : Sl g w 2 (.slice a n c) n (pV ps)) (hk : k ≤ n) : Sl g w 2 (.slice a k c) k (pV (ps.take k)) := by
 have := h.take hk
 rwa [pV_take ps k (by rw [h.len]; exact hk)] at this
theorem tkL_len (ps : List Pr) (way key cnt : Int) (n : Nat) : (tkL ps way key cnt n).length ≤ 1000 := by
 unfold tkL
 split
 ·rename_i h
  have := tkE_ok h
  have h2 := takeN_len (ofL ps []) cnt.toNat ⟨way, ofL ps [], key, false⟩
  omega
 ·simp
def LawQ (w : World) (e : Ending) (w' : World) : Prop := e = .returned (.bool true) ∧ Fr (gAll w) No w w'
set_option maxHeartbeats 8000000 in
theorem IndexTakes_any {n c : Nat} {a : Option Addr} {way key cnt : Int} {ps : List Pr} {w : World} (hA : Sl (gAll w) w 2 (.slice a n c) n (pV ps)) (hn : n < 1000000000000000) (hc : c < 1000000000000000) (hk : I64 key) (h64 : ∀ p ∈ ps, I64 p.1) :
 Calls Tryz.prog 5 #[.slice a n c, .agg #[.int .i64 way, .int .i64 key, .int .i64 cnt]] w (LawQ w) := by
 obtain ⟨g, hgg⟩ : ∃ g, gAll w = g := ⟨_, rfl⟩
 have hgt : g.gt = none := by rw [← hgg]; rfl
 have hg : GOk g 0 w := by rw [← hgg]; exact gAll_ok
 unfold LawQ
 rw [hgg] at hA ⊢
 have hnc : n ≤ c := by obtain ⟨a', c', h2, h3⟩ := hA.slice; simp only [Value.slice.injEq] at h2; omega
 have hF1 := Fr.alloc g No w (.cells #[.int .i64 way, .int .i64 key, .int .i64 cnt] 25) hg
 have hG1 := hg.alloc (.cells #[.int .i64 way, .int .i64 key, .int .i64 cnt] 25)
 have hB1 := At.new hg (.cells #[.int .i64 way, .int .i64 key, .int .i64 cnt] 25)
 have hAw := awake_any hgt hG1
 have hAd : 0 < n → ∃ b off, a = some ⟨b, off, none⟩ := fun h => by obtain ⟨b, off, h1, _⟩ := hA.at h; exact ⟨b, off, h1⟩
 have HX := Lib.hid (And.intro hA (And.intro h64 (And.intro hF1 hAd)))
 clear hA h64 hF1 hg hgg hAd
 go_enter Tryz.func5, Tryz.ntmps5
 go_wp2_with fail
 refine hAw.mono ?_
 rintro e w1 ⟨rfl, hF2, hG2⟩
 have hB2 := hF2.at hB1 id
 have b0 := hB2.cell 0
 have b1 := hB2.cell 1
 have b2 := hB2.cell 2
 have hLs := cut60_any (a2 := none) (n2 := 0) (c2 := 0) hnc (Nat.le_refl _) HX.out.2.2.2 (fun h => absurd h (Nat.lt_irrefl _)) hn (by decide) hc (by decide) w1
 rw [show lessN 0 = 0 from rfl] at hLs
 clear hAw hB1 hG1
 go_wp2_with fail
 refine hLs.mono ?_
 rintro e w1' ⟨rfl, rfl⟩
 obtain ⟨n', hn'⟩ : ∃ k, lessN n = k := ⟨_, rfl⟩
 rw [hn']
 have hnl := lessN_le n
 rw [hn'] at hnl
 have hF12 := HX.out.2.2.1.tr hF2
 have hA1 := (HX.out.1.fr0 hF12 (by decide)).takeP hnl
 have h64' : ∀ p ∈ ps.take n', I64 p.1 := fun p hp => HX.out.2.1 p (List.mem_of_mem_take hp)
 have hRf := ref_take (way := way) (key := key) (cnt := cnt) hG2 hA1 (by omega)
 obtain ⟨L, hL⟩ : ∃ l, tkL (ps.take n') way key cnt n' = l := ⟨_, rfl⟩
 obtain ⟨er, her⟩ : ∃ e, tkE way cnt n' = e := ⟨_, rfl⟩
 have hLl := tkL_len (ps.take n') way key cnt n'
 rw [hL] at hLl
 rw [hL, her] at hRf
 have HL := Lib.hid (And.intro hL (And.intro her (And.intro hF12 (And.intro hA1 (And.intro h64' hLl)))))
 clear hLs hL her hF12 hA1 h64' hLl hF2 hn'
 go_wp2_with fail
 refine hRf.mono ?_
 rintro e w2 ⟨v, rfl, hP, hF3, hG3⟩
 obtain ⟨va, vc, rfl⟩ := hP.1.slice
 have hB3 := hF3.at hB2 id
 have d0 := hB3.cell 0
 have d1 := hB3.cell 1
 have d2 := hB3.cell 2
 have hPr := prog_take (way := way) (key := key) (cnt := cnt) hgt hG3 (HL.out.2.2.2.1.fr0 hF3 (by decide)) (by omega) hk HL.out.2.2.2.2.1
 rw [HL.out.1, HL.out.2.1] at hPr
 clear hRf hB2 b0 b1 b2
 go_wp2_with fail
 refine hPr.mono ?_
 rintro e w3 ⟨u, rfl, hP4, hF4, hG4⟩
 obtain ⟨ua, uc, rfl⟩ := hP4.1.slice
 have hP3 := hP.fr hF4 (fun _ _ h => h)
 have hSm := Same_any hP4.1.sl hP3.1.sl (by have := HL.out.2.2.2.2.2; omega)
 have HE := Lib.hid ((HL.out.2.2.1.tr hF3).tr hF4)
 clear hPr hP hP3 hP4 hF3 hF4 hB3 d0 d1 d2
 have hPl := plain_any er w3
 go_wp2_with fail
 refine hPl.mono ?_
 rintro e w3' ⟨rfl, rfl⟩
 clear hPl
 go_wp2_with fail
 refine hSm.mono ?_
 rintro e w4 ⟨rfl, q, rfl⟩
 clear hSm
 go_wp2_with fail
 go_ret
 exact ⟨rfl, HE.out.tr (Fr.drewN g _ _)⟩
end Go.Proofs.YtdmobhndbibhoaaGreat
namespace Go.Proofs.YtdmobhndbibhoaaGreat
open Go.ChangeShapes Go.WideShapes Go.ChangeAt Go.RowKit Larch
set_option maxRecDepth 100000
set_option linter.unusedVariables false
set_option linter.unusedSimpArgs false
theorem Tryz.laidOut : laidOutB Tryz.prog = true := by kernel_rfl
theorem Tryz.own : ownKnob Tryz.prog.godebug = none := by kernel_rfl
theorem Tryz.cells49 : Tryz.prog.cellsOf 49 = 2 := by kernel_rfl
theorem Tryz.cells3 : Tryz.prog.cellsOf 3 = 1 := by kernel_rfl
theorem Tryz.bytes49 : Tryz.prog.bytesOf 49 = 16 := by kernel_rfl
theorem below_of {W W' : World} (h : Fr (gAll W) No W W') : Below W.heap.size W W' := ⟨h.os, h.tape, h.output, h.size, fun k hk => h.old k hk⟩
theorem wf_i64 {n : Int} (h : (Lit.int .i64 n).wf = true) : I64 n := by
 have h1 : IntKind.i64.min = -9223372036854775808 := rfl
 have h2 : IntKind.i64.max = 9223372036854775807 := rfl
 simp only [Lit.wf, Bool.and_eq_true, decide_eq_true_eq] at h
 unfold I64
 omega
theorem list_of {α : Type} {R : Nat → α → Prop} : ∀ n : Nat, (∀ i, i < n → ∃ q, R i q) → ∃ qs : List α, qs.length = n ∧ ∀ i q, qs[i]? = some q → R i q := by
 intro n
 induction n with
 | zero => exact fun _ => ⟨[], rfl, by simp⟩
 | succ n ih =>
   intro h
   obtain ⟨qs, h1, h2⟩ := ih (fun i hi => h i (by omega))
   obtain ⟨q, hq⟩ := h n (by omega)
   refine ⟨qs ++ [q], by simp [h1], fun i x hx => ?_⟩
   by_cases hi : i < n
   ·rw [List.getElem?_append_left (by omega)] at hx
    exact h2 i x hx
   ·have hl := (List.getElem?_eq_some_iff.1 hx).1
    simp only [List.length_append, List.length_cons, List.length_nil] at hl
    obtain rfl : i = n := by omega
    rw [List.getElem?_append_right (by omega), h1, Nat.sub_self] at hx
    obtain rfl : q = x := by simpa using hx
    exact hq
theorem open_pairs {H : Type} {enc : TypeId × Value → H} {W : World} {a : Option Addr} {len cap : Nat} {d : DataW H} {p : List MemPlace} (h : DataW.Trod enc Tryz.prog W 0 (fun _ => true) true 22 (.slice a len cap) d p) :
 (∃ ps : List Pr, Sl (gAll W) W 2 (.slice a len cap) len (pV ps) ∧ ∀ q ∈ ps, I64 q.1) ∧ (len = 0 ∧ cap = 0 ∨ ∃ D1 D2 : List (DataW H), d = .slice D1 D2 ∧ D1.length = len ∧ D2.length = cap - len ∧ len ≤ cap) := by
 obtain ⟨fuel, hf⟩ := h
 rcases Go.Deep.open_slice Tryz.underlying22 hf with ⟨hcs, hx⟩ | ⟨a', len', cap', m, n, D, Pl, hcs, hb, hl, hm, hmm, hx, hi⟩
 ·simp [Value.cells] at hcs
  obtain ⟨rfl, rfl, rfl⟩ := hcs
  exact ⟨⟨[], ⟨rfl, none, 0, rfl, Nat.le_refl _, fun h => absurd h (Nat.lt_irrefl _)⟩, by simp⟩, .inl ⟨rfl, rfl⟩⟩
 ·simp [Value.cells] at hcs
  obtain ⟨rfl, rfl, rfl⟩ := hcs
  simp only [if_true] at hmm
  subst hmm
  simp only [Prod.mk.injEq] at hx
  obtain ⟨rfl, rfl⟩ := hx
  refine ⟨?_, .inr ⟨_, _, rfl, by simp, by simp, hl⟩⟩
  obtain ⟨ps, h1, h2⟩ := list_of (R := fun i (q : Pr) => W.cell? (a'.add (i * 2)) = some (.int .i64 q.1) ∧ W.cell? (a'.add (i * 2 + 1)) = some (.int .i64 q.2) ∧ I64 q.1) len (fun i hil => by
   obtain ⟨cs', hc, ht⟩ := hi i (by omega)
   rw [Tryz.cells49] at hc
   obtain ⟨_, hcl, hat⟩ := World.cells?_some hc
   obtain ⟨y0, y1, k, _, _, h0, h1⟩ := trod_struct2 Tryz.underlying49 ht
   obtain ⟨c0, c1, rfl⟩ : ∃ x y, cs' = [x, y] := by
    match cs', hcl with
    | [x, y], _ => exact ⟨x, y, rfl⟩
   simp only [Tryz.cells3, List.drop_zero, List.take_succ_cons, List.take_zero, List.drop_succ_cons] at h0 h1
   obtain ⟨n0, e0, _, w0⟩ := DataW.trod_int Tryz.underlying3 h0
   obtain ⟨n1, e1, _, w1⟩ := DataW.trod_int Tryz.underlying3 h1
   simp only [List.cons.injEq, and_true] at e0 e1
   subst e0 e1
   have a0 := hat 0 (by decide)
   have a1 := hat 1 (by decide)
   rw [Go.Deep.add_add] at a0 a1
   exact ⟨(n0, n1), by simpa using a0, by simpa using a1, wf_i64 w0⟩)
  have hps : ∀ q ∈ ps, I64 q.1 := fun q hq => by
   obtain ⟨i, hi⟩ := List.getElem?_of_mem hq
   exact (h2 i q hi).2.2
  refine ⟨ps, ⟨by rw [pV_len2, h1], some a', _, rfl, hl, fun hn => ?_⟩, hps⟩
  obtain ⟨b, off, spot⟩ := a'
  obtain ⟨q0, hq0⟩ : ∃ q, ps[0]? = some q := ⟨_, List.getElem?_eq_getElem (by omega)⟩
  have hspot : spot = none := by simpa [Addr.add] using World.cell?_spot (h2 0 q0 hq0).1
  subst hspot
  have hadd : ∀ k, (⟨b, off, none⟩ : Addr).add k = ⟨b, off + k, none⟩ := fun k => by unfold Addr.add; split <;> simp_all
  have hlt : b < W.heap.size := by
   have := (h2 0 q0 hq0).1
   rw [hadd] at this
   exact lt_of_cell this
  refine ⟨b, off, rfl, .inl hlt, fun j hj => ?_⟩
  obtain ⟨q, hq⟩ : ∃ q, ps[j / 2]? = some q := ⟨_, List.getElem?_eq_getElem (by omega)⟩
  obtain ⟨k0, k1, _⟩ := h2 (j / 2) q hq
  rw [hadd] at k0 k1
  have g0 := pV_get0 hq
  have g1 := pV_get1 hq
  rcases Nat.mod_two_eq_zero_or_one j with hm | hm
  ·have e : j / 2 * 2 = j := by omega
   rw [e] at k0 g0
   rw [k0, g0]
  ·have e : j / 2 * 2 + 1 = j := by omega
   rw [e] at k1 g1
   rw [k1, g1]
end Go.Proofs.YtdmobhndbibhoaaGreat
