/- index.Of and index.refused. -/
import Derived.Test.YtdmobhndbibhoaaGreatE1
import Derived.Deep.LoopGhost
import Derived.Test.YtdmobhndbibhoaaGreatC1
import Derived.Test.YtdmobhndbibhoaaGreatC12
namespace Go.Proofs.YtdmobhndbibhoaaGreat
open Go.RowKit Larch
set_option maxRecDepth 100000
set_option linter.unusedVariables false
set_option linter.unusedSimpArgs false
attribute [local go_sem ↓] Go.wp_at_zero Go.wp_at_succ
theorem GOk.any {g : Gt} {m k : Nat} {w : World} (h : GOk g m w) (hn : g.gt = none) : GOk g k w := by
 obtain ⟨h0, h1⟩ := h
 refine ⟨h0, ?_⟩
 rw [hn]; trivial
theorem St.any {g : Gt} {m k be : Nat} {t : T Unit} {w0 w : World} (h : St g m be t w0 w) (hn : g.gt = none) : St g k be t w0 w := ⟨h.map, h.good, h.gate.any hn, h.tf⟩
theorem gval_none {g : Gt} (hn : g.gt = none) : gval g = .nilIface := by unfold gval; rw [hn]
theorem cost_le {a b : Nat} (h : a ≤ b) : cost a ≤ cost b := by
 unfold cost
 have := Nat.mul_le_mul (Nat.add_le_add_right h 2) (Nat.add_le_add_right h 302)
 omega
theorem pair_at {g : Gt} {w : World} {n k : Nat} {a : Option Addr} {c : Nat} {ps : List (Int × Int)} {p : Int × Int} (h : Arg g w 2 (.slice a n c) n (pV ps)) (hp : ps[k]? = some p) :
 ∃ b off, a = some ⟨b, off, none⟩ ∧ g.no b ∧ w.cell? ⟨b, off + k * 2, none⟩ = some (.int .i64 p.1) ∧ w.cell? ⟨b, off + k * 2 + 1, none⟩ = some (.int .i64 p.2) := by
 have hl := h.1
 rw [pV_len2] at hl
 have hk := (List.getElem?_eq_some_iff.1 hp).1
 obtain ⟨b, off, e1, e2, e3⟩ := h.at (by omega)
 refine ⟨b, off, e1, e2, ?_, ?_⟩
 ·rw [e3 (k * 2) (by omega), pV_get0 hp]
 ·rw [Nat.add_assoc, e3 (k * 2 + 1) (by omega), pV_get1 hp]
theorem op_at {g : Gt} {w : World} {n k : Nat} {a : Option Addr} {c : Nat} {ps : List OpM} {p : OpM} (h : Arg g w 4 (.slice a n c) n (opVs ps)) (hp : ps[k]? = some p) :
 ∃ b off, a = some ⟨b, off, none⟩ ∧ g.no b ∧ w.cell? ⟨b, off + k * 4, none⟩ = some (.int .i64 p.kind) ∧ w.cell? ⟨b, off + k * 4 + 1, none⟩ = some (.int .i64 p.key) ∧ w.cell? ⟨b, off + k * 4 + 2, none⟩ = some (.int .i64 p.val) ∧ w.cell? ⟨b, off + k * 4 + 3, none⟩ = some (.int .i64 p.hi) := by
 have hl := h.1
 rw [opVs_len] at hl
 have hk := (List.getElem?_eq_some_iff.1 hp).1
 obtain ⟨b, off, e1, e2, e3⟩ := h.at (by omega)
 refine ⟨b, off, e1, e2, ?_, ?_, ?_, ?_⟩
 ·have h0 := opVs_get hp 0 (by decide)
  rw [Nat.add_zero] at h0
  rw [e3 (k * 4) (by omega), h0]; rfl
 ·rw [Nat.add_assoc, e3 (k * 4 + 1) (by omega), opVs_get hp 1 (by decide)]; rfl
 ·rw [Nat.add_assoc, e3 (k * 4 + 2) (by omega), opVs_get hp 2 (by decide)]; rfl
 ·rw [Nat.add_assoc, e3 (k * 4 + 3) (by omega), opVs_get hp 3 (by decide)]; rfl
set_option maxHeartbeats 4000000 in
theorem Of_any {g : Gt} {m n : Nat} {pv : Value} {ps : List (Int × Int)} {w : World} (hgt : g.gt = none) (hg : GOk g m w) (hA : Arg g w 2 pv n (pV ps)) (hn : n ≤ 1000) :
 Calls Tryz.prog 15 #[pv] w fun e w' => ∃ mb be, e = .returned (ptr mb) ∧ Cl g w' mb #[ptr be] 102 ∧ St g 0 be (ofT ps emptyT) w w' ∧ w.heap.size ≤ mb := by
 have hN := New_any (hg.any (k := 0) hgt)
 obtain ⟨a, c, rfl⟩ := hA.slice
 have hl := hA.1
 rw [pV_len2] at hl
 replace hl : ps.length ≤ n ∧ n ≤ ps.length := by omega
 unfold ptr at hN ⊢
 go_enter Tryz.func15, Tryz.ntmps15
 go_wp2_with fail
 refine hN.mono ?_
 rintro e w1 ⟨mb, be, rfl, hM1, hS1, hmb⟩
 clear hN
 have hHd := Handle_any (gv := .nilIface) (.inl rfl) hS1.gate hM1
 unfold ptr at hHd
 go_wp2_with fail
 refine hHd.mono ?_
 rintro e w2 ⟨hb, rfl, hH2, f2, hg2, hhb⟩
 have hM2 := f2.at hM1 id
 have hS2 := hS1.fr f2 hg2
 have hA2 := (hA.fr hS1.tf).fr f2
 clear hHd hM1 hS1 f2 hg2
 go_wp2_with fail
 go_loopg [12] n (fun gk v12 wr => ∃ k : Nat, gk + k = n ∧ v12 = .int .i64 k ∧ St g 0 be (ofT (ps.take k) emptyT) w wr ∧ Cl g wr mb #[ptr be] 102 ∧ Cl g wr hb #[ptr be, .nilIface] 106 ∧ Arg g wr 2 (.slice a n c) n (pV ps))
 case atStart => exact ⟨0, by omega, rfl, hS2, hM2, hH2, hA2⟩
 case round =>
  obtain ⟨k, hk, rfl, hS, hM, hH, hAr⟩ := hrel
  clear hS2 hM2 hH2 hA2
  by_cases hlt : k < n
  ·obtain ⟨p, hp⟩ : ∃ p, ps[k]? = some p := ⟨_, List.getElem?_eq_getElem (by omega)⟩
   obtain ⟨b, off, rfl, hnb, hc0, hc1⟩ := pair_at hAr hp
   have hsz := ofT_size (ps.take k)
   have hlt2 : (ps.take k).length = k := by rw [List.length_take]; omega
   have hcs := cost_le (show (ofT (ps.take k) emptyT).size ≤ 2005 by omega)
   have hcv : cost 2005 < LIM := by decide
   obtain ⟨p1, p2⟩ := p
   have hB := At.new hS.gate (.cells #[.int .i64 p1, .int .i64 p2] 49)
   have b0 := hB.cell 0
   have b1 := hB.cell 1
   have hF := Fr.alloc g No wr (.cells #[.int .i64 p1, .int .i64 p2] 49) hS.gate
   have hC := hPut_any (key := p1) (val := p2) (hS.alloc (.cells #[.int .i64 p1, .int .i64 p2] 49)) (by rw [gval_none hgt]; exact hF.at hH id) (by omega) (by omega)
   have HT := ofT_take ps k (p1, p2) hp emptyT
   have HX := Lib.hid (And.intro HT hlt2)
   clear hsz hlt2 HT hp
   unfold ptr at hC
   simp only [Int.ofNat_lt] at *
   go_wp2_with fail
   refine hC.mono ?_
   rintro e w3 ⟨rfl, hS3⟩
   have hM3 := hS3.tf.at (hF.at hM id) (by decide)
   have hH3 := hS3.tf.at (hF.at hH id) (by decide)
   have hA3 := (hAr.fr hF).fr hS3.tf
   have hR := (hS.alloc (.cells #[.int .i64 p1, .int .i64 p2] 49)).trans (hS3.any (k := 0) hgt)
   rw [← HX.out.1] at hR
   have HR := Lib.hid (And.intro hR (And.intro hM3 (And.intro hH3 hA3)))
   clear hC hS hM hH hAr hB b0 b1 hF hc0 hc1 hS3 hM3 hH3 hA3 hR HX
   go_wp2_with fail
   go_roundg (n - (k + 1))
   case measure => omega
   case rel => exact ⟨k + 1, by omega, by simp, HR.out.1, HR.out.2.1, HR.out.2.2.1, HR.out.2.2.2⟩
  ·have HE := Lib.hid (And.intro hM hS)
   have hkn : k = ps.length := by omega
   clear hM hS hH hAr
   go_wp2_with fail
   go_ret
   exact ⟨mb, be, rfl, HE.out.1, by have := HE.out.2; rwa [hkn, List.take_length] at this, hmb⟩
def okK (o : OpM) : Prop := 1 ≤ o.kind ∧ o.kind ≤ 9
open Classical in
noncomputable def refE (os : List OpM) (n : Nat) : Int := if ∀ o ∈ os, okK o then (if n > 1000 then 2 else 0) else 5
set_option maxHeartbeats 4000000 in
theorem refused_any {g : Gt} {m n sn sb : Nat} {a sa : Option Addr} {c sc : Nat} {os : List OpM} {w : World} (hn : n < 1000000000000000) (hg : GOk g m w) (hA : Arg g w 4 (.slice a n c) n (opVs os)) (hS : Cl g w sb #[.slice a n c] 23) :
 Calls Tryz.prog 83 #[.slice sa sn sc, .slice (some ⟨sb, 0, none⟩) 1 1] w fun e w' => e = .returned (.int .i64 (refE os sn)) ∧ Fr g No w w' ∧ GOk g m w' := by
 have hl := hA.1
 rw [opVs_len] at hl
 replace hl : os.length ≤ n ∧ n ≤ os.length := by omega
 go_enter Tryz.func83, Tryz.ntmps83
 go_wp2_with fail
 go_loopg [11] 1 (fun gk v11 wr => ∃ k : Nat, gk + k = 1 ∧ v11 = .int .i64 k ∧ Fr g No w wr ∧ GOk g m wr ∧ (k = 1 → ∀ o ∈ os, okK o))
 case atStart => exact ⟨0, rfl, rfl, Fr.refl _ _ _, hg, by simp⟩
 case round =>
  obtain ⟨k, hk, rfl, hF, hG, hok⟩ := hrel
  have hk2 : k = 0 ∨ k = 1 := by omega
  rcases hk2 with rfl | rfl
  ·have h0 := (hF.at hS id).cell 0
   have hAr := hA.fr hF
   clear hok
   go_wp2_with fail
   go_loopg [17] n (fun gj v17 wr => ∃ j : Nat, gj + j = n ∧ v17 = .int .i64 j ∧ Fr g No w wr ∧ GOk g m wr ∧ (∀ o ∈ os.take j, okK o))
   case atStart => exact ⟨0, by omega, rfl, hF, hG, by simp⟩
   case round =>
    obtain ⟨j, hj, rfl, hFq, hGq, hok⟩ := hrel
    by_cases hlt : j < n
    ·obtain ⟨o, ho⟩ : ∃ o, os[j]? = some o := ⟨_, List.getElem?_eq_getElem (by omega)⟩
     obtain ⟨b, off, rfl, hnb, c0, c1, c2, c3⟩ := op_at (hA.fr hFq) ho
     obtain ⟨kd, ky, vl, hi⟩ := o
     have hB := At.new hGq (.cells #[.int .i64 kd, .int .i64 ky, .int .i64 vl, .int .i64 hi] 43)
     have b0 := hB.cell 0
     have hF3 := hFq.tr (Fr.alloc g No wr (.cells #[.int .i64 kd, .int .i64 ky, .int .i64 vl, .int .i64 hi] 43) hGq)
     have hG3 := hGq.alloc (.cells #[.int .i64 kd, .int .i64 ky, .int .i64 vl, .int .i64 hi] 43)
     have hmem : (⟨kd, ky, vl, hi⟩ : OpM) ∈ os := List.mem_of_getElem? ho
     have HX := Lib.hid (And.intro ho (And.intro hok hmem))
     clear ho hok hmem hF hG
     by_cases h1 : kd < 1
     ·go_wp2_with fail
      go_ret
      refine ⟨?_, hF3, hG3⟩
      have : ¬ ∀ o ∈ os, okK o := fun h => by have := (h _ HX.out.2.2).1; simp only at this; omega
      simp [refE, this]
     ·by_cases h9 : 9 < kd
      ·go_wp2_with fail
       go_ret
       refine ⟨?_, hF3, hG3⟩
       have : ¬ ∀ o ∈ os, okK o := fun h => by have := (h _ HX.out.2.2).2; simp only at this; omega
       simp [refE, this]
      ·go_wp2_with fail
       go_roundg (n - (j + 1))
       case measure => omega
       case rel =>
        refine ⟨j + 1, by omega, by simp, hF3, hG3, ?_⟩
        rw [List.take_add_one, HX.out.1]
        intro o ho
        rcases List.mem_append.1 ho with h | h
        ·exact HX.out.2.1 o h
        ·obtain rfl : o = ⟨kd, ky, vl, hi⟩ := by simpa using h
         exact ⟨by simp only; omega, by simp only; omega⟩
    ·have hjn : j = os.length := by omega
     have HX := Lib.hid hok
     clear hok
     go_wp2_with fail
     go_roundg 0
     case measure => omega
     case rel => exact ⟨1, rfl, rfl, hFq, hGq, fun _ => by have := HX.out; rwa [hjn, List.take_length] at this⟩
  ·have HX := Lib.hid (hok rfl)
   clear hok
   by_cases hs : sn > 1000
   ·have hs' : (1000 : Int) < (sn : Int) := by omega
    go_wp2_with fail
    go_ret
    exact ⟨by unfold refE; rw [if_pos HX.out, if_pos hs]; rfl, hF, hG⟩
   ·have hs' : ¬ (1000 : Int) < (sn : Int) := by omega
    go_wp2_with fail
    go_ret
    exact ⟨by unfold refE; rw [if_pos HX.out, if_neg hs]; rfl, hF, hG⟩
end Go.Proofs.YtdmobhndbibhoaaGreat
namespace Larch
set_option linter.unusedVariables false
set_option linter.unusedSimpArgs false
variable {α : Type}
structure Ro where
 d : It
 l : Int
 r : Int
deriving DecidableEq
def layT : Nat → T α → List Ro
 | _, .leaf _ d => [⟨d, -1, -1⟩]
 | at_, .node _ d l r => ⟨d, (at_ + 1 : Nat), (at_ + 1 + l.size : Nat)⟩ :: (layT (at_ + 1) l ++ layT (at_ + 1 + l.size) r)
theorem layT_len (t : T α) : ∀ n, (layT n t).length = t.size := by
 induction t with
 | leaf x d => intro n; rfl
 | node x d l r ihl ihr => intro n; simp [layT, T.size, ihl, ihr]
theorem layT_er (t : T α) : ∀ n, layT n t.er = layT n t := by
 induction t with
 | leaf x d => intro n; rfl
 | node x d l r ihl ihr =>
   intro n
   have ihl : ∀ n, layT n (l.map fun _ => ()) = layT n l := ihl
   have ihr : ∀ n, layT n (r.map fun _ => ()) = layT n r := ihr
   have hs : (l.map fun _ => ()).size = l.size := by
    have : ∀ t : T α, (t.map fun _ => ()).size = t.size := fun t => by
     induction t with
     | leaf x d => rfl
     | node x d l r h1 h2 => simp [T.map, T.size, h1, h2]
    exact this l
   simp only [T.er, T.map, layT, ihl, ihr, hs]
def setR (side : Int) (at_ : Nat) (x : Ro) : Ro := if side = 1 then ⟨x.d, at_, x.r⟩ else if side = 2 then ⟨x.d, x.l, at_⟩ else x
def setc (out : List Ro) (p : Nat) (side : Int) (at_ : Nat) : List Ro := out.modify p (setR side at_)
theorem setc_len (out : List Ro) (p : Nat) (side : Int) (n : Nat) : (setc out p side n).length = out.length := by simp [setc]
theorem setc_mid (a b : List Ro) (x : Ro) (side : Int) (n : Nat) : setc (a ++ x :: b) a.length side n = a ++ setR side n x :: b := by
 unfold setc
 induction a with
 | nil => rfl
 | cons y a ih => simpa using ih
structure Td (α : Type) where
 t : T α
 p : Nat
 s : Int
def fin : List Ro → List (Td α) → List Ro
 | out, [] => out
 | out, x :: st => fin (setc out x.p x.s out.length ++ layT out.length x.t) st
theorem fin_leaf (out : List Ro) (x : α) (d : It) (p : Nat) (s : Int) (st : List (Td α)) : fin out (⟨.leaf x d, p, s⟩ :: st) = fin (setc out p s out.length ++ [⟨d, -1, -1⟩]) st := rfl
theorem fin_node (out : List Ro) (x : α) (d : It) (l r : T α) (p : Nat) (s : Int) (st : List (Td α)) :
 fin out (⟨.node x d l r, p, s⟩ :: st) = fin (setc out p s out.length ++ [⟨d, -1, -1⟩]) (⟨l, out.length, 1⟩ :: ⟨r, out.length, 2⟩ :: st) := by
 simp only [fin, layT]
 congr 1
 generalize ho : setc out p s out.length = o
 have hl : o.length = out.length := by rw [← ho, setc_len]
 have h1 : setc (o ++ [(⟨d, -1, -1⟩ : Ro)]) out.length 1 (o ++ [(⟨d, -1, -1⟩ : Ro)]).length = o ++ [(⟨d, (out.length + 1 : Nat), -1⟩ : Ro)] := by
  rw [← hl, setc_mid]; simp [setR]
 have hlen : (o ++ [(⟨d, -1, -1⟩ : Ro)]).length = out.length + 1 := by simp [hl]
 rw [h1]
 simp only [hlen]
 have h2 : (o ++ [(⟨d, (out.length + 1 : Nat), -1⟩ : Ro)] ++ layT (out.length + 1) l).length = out.length + 1 + l.size := by
  simp [hl, layT_len]; omega
 rw [h2]
 have h3 : setc (o ++ [(⟨d, (out.length + 1 : Nat), -1⟩ : Ro)] ++ layT (out.length + 1) l) out.length 2 (out.length + 1 + l.size) = o ++ ⟨d, (out.length + 1 : Nat), (out.length + 1 + l.size : Nat)⟩ :: layT (out.length + 1) l := by
  rw [show o ++ [(⟨d, (out.length + 1 : Nat), -1⟩ : Ro)] ++ layT (out.length + 1) l = o ++ (⟨d, (out.length + 1 : Nat), -1⟩ : Ro) :: layT (out.length + 1) l from by simp]
  rw [← hl, setc_mid]; simp [setR]
 rw [h3]
 simp
theorem fin_start (t : T α) : fin [] [⟨t, 0, 0⟩] = layT 0 t := by simp [fin, setc]
end Larch
namespace Go.Proofs.YtdmobhndbibhoaaGreat
open Go.RowKit Larch
set_option maxRecDepth 100000
set_option linter.unusedVariables false
set_option linter.unusedSimpArgs false
theorem Tryz.under151 : Tryz.prog.underlying 151 = some (.map 99 4) := by kernel_rfl
def NewKey (w : World) (x : Nat) (es : Array MapEntry) : Prop := ∀ e ∈ es.toList, ∃ b, e.key = .pointer (some ⟨b, 0, none⟩) ∧ b ≠ x ∧ IsRec w b
theorem findAsking_new {w : World} {x : Nat} (hx : IsRec w x) : ∀ (es : List MapEntry) (i : Nat), (∀ e ∈ es, ∃ b, e.key = .pointer (some ⟨b, 0, none⟩) ∧ b ≠ x ∧ IsRec w b) →
 (Instr.findAsking 99 (.pointer (some ⟨x, 0, none⟩)) es i).run Tryz.prog w = .ok none w := by
 intro es
 induction es with
 | nil => intro i _; rfl
 | cons e es ih =>
   intro i h
   obtain ⟨b, hk, hne, hb⟩ := h e (by simp)
   have hs := samePointer_rec hx hb
   rw [show decide (x = b) = false from by simp; exact fun h => hne h.symm] at hs
   have he : (Op.equal 99 (.pointer (some ⟨x, 0, none⟩)) e.key).run Tryz.prog w = .ok false w := by
    rw [hk, equal_ptr 99 209 _ _ w Tryz.underlying99 z209]; exact hs
   have hr := ih (i + 1) (fun e he => h e (by simp [he]))
   unfold Instr.findAsking
   simp only [Sem.run_bind, he, Result.andThen]
   exact hr
theorem findKey_new {w : World} {x : Nat} {es : Array MapEntry} (hx : IsRec w x) (h : NewKey w x es) : (Instr.findKey 99 (.pointer (some ⟨x, 0, none⟩)) es.toList).run Tryz.prog w = .ok none w := by
 have hu : (underlying 99).run Tryz.prog w = .ok (.pointer 209) w := by simp [underlying, Tryz.underlying99]
 unfold Instr.findKey
 simp only [Sem.run_bind, hu, Result.andThen]
 cases hl : es.toList with
 | nil => rfl
 | cons e r =>
   obtain ⟨b, hk, _⟩ := h e (by rw [hl]; simp)
   have : Instr.findNow (.pointer 209) (.pointer (some ⟨x, 0, none⟩)) (e :: r) 0 = none := by simp [Instr.findNow, Instr.sameNow]
   rw [this]
   exact findAsking_new hx _ 0 (fun e he => h e (by rw [hl]; exact he))
theorem checkKey_ptr (b : Bool) (w : World) (x : Option Addr) : (Instr.checkKey b 10000 99 (.pointer x)).run Tryz.prog w = .ok () w := by
 have hu : (underlying 99).run Tryz.prog w = .ok (.pointer 209) w := by simp [underlying, Tryz.underlying99]
 unfold Instr.checkKey
 simp only [Sem.run_bind, hu, Result.andThen]
 rfl
def wPut (w : World) (r : Nat) (o : Obj) : World := { w with heap := w.heap.setIfInBounds r o }
theorem wPut_same {w : World} {r : Nat} {o : Obj} (h : r < w.heap.size) : (wPut w r o).heap[r]? = some o := by simp [wPut, h]
theorem wPut_other {w : World} {r k : Nat} {o : Obj} (h : k ≠ r) : (wPut w r o).heap[k]? = w.heap[k]? := by
 simp only [wPut]; rw [Array.getElem?_setIfInBounds_ne (fun e => h e.symm)]
theorem getObj_map {w : World} {mb clock : Nat} {es : Array MapEntry} (h : w.heap[mb]? = some (.map es clock)) : (getObj mb).run Tryz.prog w = .ok (.map es clock) w := by simp [getObj, Sem.run, h]
theorem setObj_map {w : World} {mb clock : Nat} {es : Array MapEntry} (o : Obj) (h : w.heap[mb]? = some (.map es clock)) : (setObj mb o).run Tryz.prog w = .ok () (wPut w mb o) := by simp [setObj, Sem.run, h, wPut]
theorem zero4 (w : World) : (zeroValue 4).run Tryz.prog w = .ok (.bool false) w := by
 obtain ⟨i, hi, hz0, _⟩ := info_parts Tryz.info4
 simp [zeroValue, typeInfo, hi, hz0, Result.andThen]
theorem lookup_new {w : World} {x mb clock : Nat} {es : Array MapEntry} (hm : w.heap[mb]? = some (.map es clock)) (hx : IsRec w x) (h : NewKey w x es) :
 (Instr.lookup 151 (.map (some mb)) (.pointer (some ⟨x, 0, none⟩)) false).run Tryz.prog w = .ok (.bool false) w := by
 have hu : (underlying 151).run Tryz.prog w = .ok (.map 99 4) w := by simp [underlying, Tryz.under151]
 have hk := findKey_new hx h
 unfold Instr.lookup
 simp only [Sem.run_bind, hu, getObj_map hm, Result.andThen, checkKey_ptr, Sem.run_pure, hk, zero4]
 rfl
theorem update_new {w : World} {x mb clock : Nat} {es : Array MapEntry} {v : Value} (hm : w.heap[mb]? = some (.map es clock)) (hx : IsRec w x) (h : NewKey w x es) :
 (Instr.mapUpdate 151 (.map (some mb)) (.pointer (some ⟨x, 0, none⟩)) v).run Tryz.prog w = .ok () (wPut w mb (.map (es.push { key := .pointer (some ⟨x, 0, none⟩), val := v, born := clock }) (clock + 1))) := by
 have hu : (underlying 151).run Tryz.prog w = .ok (.map 99 4) w := by simp [underlying, Tryz.under151]
 have hk := findKey_new hx h
 unfold Instr.mapUpdate
 simp only [Sem.run_bind, hu, getObj_map hm, Result.andThen, checkKey_ptr, hk]
 exact setObj_map _ hm
theorem Fr.wPut {g : Gt} {S : Nat → Prop} {w : World} {mb clock : Nat} {es : Array MapEntry} (h : At g w mb (.map es clock)) (o : Obj) (ho : ∀ cs T fr, o ≠ .cells cs T fr) (hs : S mb) : Fr g S w (wPut w mb o) := by
 have hold : ∀ c, c ≠ mb → (Go.Proofs.YtdmobhndbibhoaaGreat.wPut w mb o).heap[c]? = w.heap[c]? := fun c hc => wPut_other hc
 have hg : ∀ c, GBlk g w c → (Go.Proofs.YtdmobhndbibhoaaGreat.wPut w mb o).heap[c]? = w.heap[c]? := fun c hc => hold c (by rintro rfl; exact h.2 hc)
 have hne : ∀ (c : Nat) cs T fr, w.heap[c]? = some (.cells cs T fr) → c ≠ mb := fun c cs T fr hc e => by subst e; rw [h.1] at hc; cases hc
 refine ⟨rfl, rfl, rfl, by simp [Go.Proofs.YtdmobhndbibhoaaGreat.wPut], fun c hc _ hn => hold c (fun e => hn (e ▸ hs)), fun c hc => .inl ((GBlk_same hg c).1 hc), ?_, ?_, fun c hc => hold c (by rintro rfl; exact h.2 (.inl hc))⟩
 ·intro c ds hd hz
  exact ⟨ds, (hold c (hne c _ _ _ hd)).trans hd, hz, rfl⟩
 ·rintro c ⟨ds, hd, hz⟩
  exact ⟨ds, (hold c (hne c _ _ _ hd)).trans hd, hz⟩
theorem GOk.wPut {g : Gt} {m : Nat} {w : World} {mb : Nat} {o o' : Obj} (hg : GOk g m w) (h : At g w mb o') : GOk g m (wPut w mb o) :=
 hg.same (fun c hc => wPut_other (by rintro rfl; exact h.2 hc)) (by simp [Go.Proofs.YtdmobhndbibhoaaGreat.wPut])
theorem At.wPut {g : Gt} {w : World} {mb : Nat} {o o' : Obj} (h : At g w mb o') : At g (wPut w mb o) mb o :=
 ⟨wPut_same h.lt, fun hb => h.2 ((GBlk_same (fun c hc => wPut_other (by rintro rfl; exact h.2 hc)) mb).1 hb)⟩
end Go.Proofs.YtdmobhndbibhoaaGreat
namespace Go.Proofs.YtdmobhndbibhoaaGreat
open Go.RowKit Larch
set_option maxRecDepth 100000
set_option linter.unusedVariables false
set_option linter.unusedSimpArgs false
def nV (r : Ro) : List Value := [.int .i64 r.d.k, .int .i64 r.d.i, .int .i64 r.d.w, .int .i64 r.d.v, .int .i64 r.l, .int .i64 r.r]
def nVs (xs : List Ro) : List Value := xs.flatMap nV
abbrev HTd := Td (Nat × Nat)
def tdV (x : HTd) : List Value := [.pointer (some ⟨x.t.ann.1, 0, none⟩), .int .i64 (x.p : Int), .int .i64 x.s]
def tdVs (xs : List HTd) : List Value := xs.flatMap tdV
def sumT (st : List HTd) : Nat := (st.map fun x => x.t.size).sum
def cntS (a : Nat) (st : List HTd) : Nat := (st.map fun x => cnt a x.t).sum
theorem nVs_app (a b : List Ro) : nVs (a ++ b) = nVs a ++ nVs b := by simp [nVs]
theorem tdVs_app (a b : List HTd) : tdVs (a ++ b) = tdVs a ++ tdVs b := by simp [tdVs]
theorem nVs_len (a : List Ro) : (nVs a).length = a.length * 6 := by
 induction a with
 | nil => rfl
 | cons p a ih => simp only [nVs, List.flatMap_cons, List.length_append, List.length_cons] at ih ⊢; rw [ih]; simp [nV]; omega
theorem tdVs_len (a : List HTd) : (tdVs a).length = a.length * 3 := by
 induction a with
 | nil => rfl
 | cons p a ih => simp only [tdVs, List.flatMap_cons, List.length_append, List.length_cons] at ih ⊢; rw [ih]; simp [tdV]; omega
theorem sumT_app (a b : List HTd) : sumT (a ++ b) = sumT a + sumT b := by simp [sumT]
theorem cntS_app (x : Nat) (a b : List HTd) : cntS x (a ++ b) = cntS x a + cntS x b := by simp [cntS]
theorem sumT_len (a : List HTd) : a.length ≤ sumT a := by
 induction a with
 | nil => simp [sumT]
 | cons t a ih => have := t.t.size_pos; simp only [sumT, List.map_cons, List.sum_cons, List.length_cons] at ih ⊢; omega
theorem nVs_set4 (x : Int) : ∀ (out : List Ro) (p : Nat), p < out.length → (nVs out).set (p * 6 + 4) (.int .i64 x) = nVs (out.modify p fun r => ⟨r.d, x, r.r⟩) := by
 intro out
 induction out with
 | nil => intro p h; simp at h
 | cons r out ih =>
   intro p h
   have e : nVs (r :: out) = nV r ++ nVs out := rfl
   cases p with
   | zero => rfl
   | succ p =>
     rw [e, show (p + 1) * 6 + 4 = (nV r).length + (p * 6 + 4) from by simp [nV]; omega, List.set_append_right _ _ (by omega), Nat.add_sub_cancel_left, ih p (by simpa using h)]
     rfl
theorem nVs_set5 (x : Int) : ∀ (out : List Ro) (p : Nat), p < out.length → (nVs out).set (p * 6 + 5) (.int .i64 x) = nVs (out.modify p fun r => ⟨r.d, r.l, x⟩) := by
 intro out
 induction out with
 | nil => intro p h; simp at h
 | cons r out ih =>
   intro p h
   have e : nVs (r :: out) = nV r ++ nVs out := rfl
   cases p with
   | zero => rfl
   | succ p =>
     rw [e, show (p + 1) * 6 + 5 = (nV r).length + (p * 6 + 5) from by simp [nV]; omega, List.set_append_right _ _ (by omega), Nat.add_sub_cancel_left, ih p (by simpa using h)]
     rfl
section
variable {g : Gt} {w w' : World} {e size n : Nat} {v : Value} {xs : List Value}
theorem Row.popN {b cap : Nat} {ys : List Value} (h : Row g w e size (.slice (some ⟨b, 0, none⟩) (n + 1) cap) (n + 1) (xs ++ ys)) (hy : ys.length = size) : Row g w e size (.slice (some ⟨b, 0, none⟩) n cap) n xs := by
 obtain ⟨h1, h2⟩ := h
 have hmul : (n + 1) * size = n * size + size := Nat.succ_mul n size
 have hl : xs.length = n * size := by rw [List.length_append, hy, hmul] at h1; omega
 refine ⟨hl, .inr ?_⟩
 rcases h2 with ⟨h, _⟩ | ⟨b', cap', cur, he, h2, h3, h4, h5, h6⟩
 ·cases h
 ·simp only [Value.slice.injEq, Option.some.injEq, Addr.mk.injEq, true_and, and_true] at he
  obtain ⟨rfl, rfl⟩ := he
  refine ⟨b, cap, cur, rfl, by omega, h3, h4, h5, ?_⟩
  have := congrArg (List.take (n * size)) h6
  rw [List.take_take, show min (n * size) ((n + 1) * size) = n * size from by omega, ← hl, List.take_left'] at this
  ·rw [← hl]; exact this
  ·rfl
theorem Row.set {m b cap j : Nat} {x : Value} (h : Row g w e size (.slice (some ⟨b, 0, none⟩) n cap) n xs) (hg : GOk g m w) (he : e ≠ 209) (hj : j < n * size) :
 Row g (w.setCell ⟨b, j, none⟩ x) e size (.slice (some ⟨b, 0, none⟩) n cap) n (xs.set j x) ∧ Fr g (fun c => c = b) w (w.setCell ⟨b, j, none⟩ x) ∧ GOk g m (w.setCell ⟨b, j, none⟩ x) := by
 obtain ⟨h1, h2⟩ := h
 rcases h2 with ⟨h, _⟩ | ⟨b', cap', cur, hh, h2, h3, h4, h5, h6⟩
 ·cases h
 ·simp only [Value.slice.injEq, Option.some.injEq, Addr.mk.injEq, true_and, and_true] at hh
  obtain ⟨rfl, rfl⟩ := hh
  refine ⟨⟨by simpa using h1, .inr ⟨b, cap, cur.setIfInBounds j x, rfl, h2, h3, h4.setCell j x, by simpa using h5, ?_⟩⟩, Fr.setCell (fun c => c = b) h4 j x rfl (fun e' => absurd e' he), hg.setCell h4 j x⟩
  rw [Array.toList_setIfInBounds, List.take_set, h6]
end
end Go.Proofs.YtdmobhndbibhoaaGreat
