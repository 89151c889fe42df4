/- The map's operations that change it, and Get: Put, PutIfAbsent, Delete, Get, Entry. -/
import Derived.Test.YtdmobhndbibhoaaGreatA42
import Derived.Test.YtdmobhndbibhoaaGreatA16
namespace Go.Proofs.YtdmobhndbibhoaaGreat
open Go.RowKit Larch
set_option maxRecDepth 100000
set_option linter.unusedVariables false
set_option linter.unusedSimpArgs false
attribute [local go_sem ↓] Go.wp_at_zero Go.wp_at_succ
structure St (g : Gt) (m be : Nat) (t : T Unit) (w0 w : World) : Prop where
 map : MapAt g w be t
 good : Larch.Good t
 gate : GOk g m w
 tf : TF g w0 w
variable {g : Gt} {m m' be : Nat} {t : T Unit} {w0 w w1 : World}
theorem MapAt.keep {S : Nat → Prop} (h : MapAt g w be t) (f : Go.Proofs.YtdmobhndbibhoaaGreat.Fr g S w w1) (hs : ∀ c cs T, Cl g w c cs T → T = 209 ∨ T = 278 ∨ T = 269 → ¬ S c) : MapAt g w1 be t := by
 obtain ⟨N, h1, h2, h3⟩ := h; exact ⟨N, ⟨h1.1.fr f hs, h1.2⟩, h2, h3⟩
theorem St.fr (h : St g m be t w0 w) (f : Go.Proofs.YtdmobhndbibhoaaGreat.Fr g No w w1) (hg : GOk g m' w1) : St g m' be t w0 w1 := ⟨h.map.fr0 f, h.good, hg, h.tf.trans (TF.of f)⟩
theorem St.alloc (h : St g m be t w0 w) (o : Obj) : St g m be t w0 (w.alloc o) := h.fr (Fr.alloc g No w o h.gate) (h.gate.alloc o)
theorem St.drew (h : St g m be t w0 w) : St g m be t w0 w.drew := h.fr (Fr.drew g No w) h.gate.drew
theorem St.mono (h : St g m be t w0 w) (hm : m ≤ m') : St g m' be t w0 w := ⟨h.map, h.good, h.gate.mono hm, h.tf⟩
theorem St.frS {S : Nat → Prop} (h : St g m be t w0 w) (f : Go.Proofs.YtdmobhndbibhoaaGreat.Fr g S w w1) (hs : ∀ c cs T, Cl g w c cs T → T = 209 ∨ T = 278 ∨ T = 269 → ¬ S c) (hn : ∀ c, S c → w0.heap.size ≤ c) (hg : GOk g m' w1) : St g m' be t w0 w1 :=
 ⟨h.map.keep f hs, h.good, hg, Fr.trans (T := Tb g w0) (show Go.Proofs.YtdmobhndbibhoaaGreat.Fr g (Tb g w0) w0 w from h.tf) f (fun _ _ k => k) (fun c hc k => by have := hn c k; omega)⟩
theorem St.set {b i : Nat} {cs : Array Value} {T : TypeId} {v : Value} (h : St g m be t w0 w) (hb : Cl g w b cs T) (hT : T ≠ 209 ∧ T ≠ 278 ∧ T ≠ 269) (hn : w0.heap.size ≤ b) : St g m be t w0 (w.setCell ⟨b, i, none⟩ v) :=
 h.frS (Fr.setCell (fun c => c = b) hb i v rfl (fun e => absurd e hT.1)) (fun c cs' T' hc hT' e => by
  subst e
  have := hb.1.symm.trans hc.1
  simp only [Option.some.injEq, Obj.cells.injEq] at this
  obtain ⟨_, rfl, _⟩ := this
  rcases hT' with h | h | h
  ·exact hT.1 h
  ·exact hT.2.1 h
  ·exact hT.2.2 h) (fun c e => e ▸ hn) (h.gate.setCell hb i v)
theorem St.start (hg : GOk g m w) (hM : MapAt g w be t) (ht : Larch.Good t) : St g m be t w w := ⟨hM, ht, hg, Fr.refl _ _ _⟩
theorem St.isRec (h : St g m be t w0 w) : IsRec w be := by obtain ⟨N, h1, _, h3⟩ := h.map; exact h3 ▸ h1.1.isRec
theorem St.trans {t1 : T Unit} (h : St g m be t w0 w) (k : St g m' be t1 w w1) : St g m' be t1 w0 w1 := ⟨k.map, k.good, k.gate, h.tf.trans k.tf⟩
def OpQ (g : Gt) (m be : Nat) (E : T Unit) (o : Option Int) (b : Bool) (w : World) (e : Ending) (w' : World) : Prop :=
 e = .returned (.tuple #[.int .i64 (o.getD 0), .bool b]) ∧ St g m be E w w'
set_option maxHeartbeats 1000000 in
theorem put_any {key val : Int} (hS : St g m be t w0 w) (hm : m + cost t.size < LIM) (hsz : t.size < 790000) :
 Calls Tryz.prog 54 #[gval g, ptr be, .int .i64 key, .int .i64 val] w (OpQ g (m + cost t.size) be (putT key val false t) (getL key (pairs t)) (getL key (pairs t)).isSome w) := by
 have hB := bring_any (key := key) (val := val) (abs := false) hS.gate hm hsz hS.map hS.good
 have hG := (put_good (key := key) (val := val) hS.good false).1
 unfold ptr at *
 go_enter Tryz.func54, Tryz.ntmps54
 go_wp2_with fail
 refine hB.mono ?_
 rintro e w1 ⟨r, rfl, hr, h1, h2, h3⟩
 have HS : Hid (St g (m + cost t.size) be (putT key val false t) w w1) := ⟨h1, hG, h3, h2⟩
 clear hB h1 h2 h3 hG hS
 cases ho : getL key (pairs t) with
 | none =>
   rw [ho] at hr
   simp only [Option.isSome_none, Option.getD_none]
   go_wp2_with fail
   go_ret2
   exact ⟨by rw [ho]; rfl, HS.out⟩
 | some v =>
   rw [ho] at hr
   obtain rfl := hr v rfl
   simp only [Option.isSome_some, Option.getD_some]
   go_wp2_with fail
   go_ret2
   exact ⟨by rw [ho]; rfl, HS.out⟩
set_option maxHeartbeats 1000000 in
theorem pia_any {key val : Int} (hS : St g m be t w0 w) (hm : m + cost t.size < LIM) (hsz : t.size < 790000) :
 Calls Tryz.prog 102 #[gval g, ptr be, .int .i64 key, .int .i64 val] w (OpQ g (m + cost t.size) be (putT key val true t) (getL key (pairs t)) (getL key (pairs t)).isNone w) := by
 have hB := bring_any (key := key) (val := val) (abs := true) hS.gate hm hsz hS.map hS.good
 have hG := (put_good (key := key) (val := val) hS.good true).1
 unfold ptr at *
 go_enter Tryz.func102, Tryz.ntmps102
 go_wp2_with fail
 refine hB.mono ?_
 rintro e w1 ⟨r, rfl, hr, h1, h2, h3⟩
 have HS : Hid (St g (m + cost t.size) be (putT key val true t) w w1) := ⟨h1, hG, h3, h2⟩
 clear hB h1 h2 h3 hG hS
 cases ho : getL key (pairs t) with
 | none =>
   rw [ho] at hr
   simp only [Option.isSome_none, Option.getD_none]
   go_wp2_with fail
   go_ret2
   exact ⟨by rw [ho]; rfl, HS.out⟩
 | some v =>
   rw [ho] at hr
   obtain rfl := hr v rfl
   simp only [Option.isSome_some, Option.getD_some]
   go_wp2_with fail
   go_ret2
   exact ⟨by rw [ho]; rfl, HS.out⟩
theorem delete_any {key : Int} (hS : St g m be t w0 w) (hm : m + cost t.size < LIM) (hsz : t.size < 790000) :
 Calls Tryz.prog 103 #[gval g, ptr be, .int .i64 key] w (OpQ g (m + cost t.size) be (delT key t) (getL key (pairs t)) (getL key (pairs t)).isSome w) := by
 refine (del_any (key := key) hS.gate hm hsz hS.map hS.good).mono ?_
 rintro e w' ⟨h1, h2, h3, h4⟩
 exact ⟨h1, h2, (del_good (key := key) hS.good).1, h4, h3⟩
set_option maxHeartbeats 1000000 in
theorem get_any {key : Int} (hS : St g m be t w0 w) (hm : m + cost t.size < LIM) (hsz : t.size < 790000) :
 Calls Tryz.prog 93 #[gval g, ptr be, .int .i64 key] w (OpQ g (m + cost t.size) be t (getL key (pairs t)) (getL key (pairs t)).isSome w) := by
 obtain ⟨⟨N, hTr, rfl, rfl⟩, hgd, hg, _⟩ := hS
 unfold cost at *
 rw [er_size] at *
 obtain ⟨cE0, xE, d, hwE, hgE⟩ := get_good (key := key) hgd
 obtain ⟨c, x, hwN, hc, hb⟩ := way_heap hwE
 have hF := Find_any (g := g) (key := key) hg (by omega) (by omega) hTr.1
 have hl := way_size key N []
 rw [hwN] at hF hl
 simp only [List.length_nil] at hl
 have HG := Lib.hid hgE
 clear hgE
 unfold ptr at *
 go_enter Tryz.func93, Tryz.ntmps93
 go_wp2_with fail
 refine hF.mono ?_
 rintro e w1 ⟨rfl, f, hg'⟩
 have e0 : lastB c (.leaf x d) 0 = some ⟨x.1, 0, none⟩ := rfl
 obtain ⟨p1, hp1⟩ : ∃ q, lastB c (.leaf x d) 1 = q := ⟨_, rfl⟩
 obtain ⟨p2, hp2⟩ : ∃ q, lastB c (.leaf x d) 2 = q := ⟨_, rfl⟩
 rw [e0, hp1, hp2]
 have hT := hTr.fr0 f
 have hTX : HT g w1 (.leaf x d) := by have := hT.1; rw [← hb, HT_plug] at this; exact this.2
 obtain ⟨ix, rx⟩ := hTX.nd.rec
 have hgot := got_any key rx
 rw [show (T.leaf x d).it = d from rfl, show (T.leaf x d).ann.1 = x.1 from rfl] at hgot
 have HS : Hid (St g (m + (N.size + 1000 + (N.size + 2) * (N.size + 302))) N.ann.1 N.er w w1) := ⟨⟨N, hT, rfl, rfl⟩, hgd, hg'.mono (by omega), TF.of f⟩
 clear hF hT hTX rx hg' f e0 hp1 hp2
 obtain ⟨b, hb⟩ : ∃ b, hasK d key = b := ⟨_, rfl⟩
 obtain ⟨r, hr⟩ : ∃ r, (if b = true then d.v else 0) = r := ⟨_, rfl⟩
 rw [hb, hr] at hgot
 have HE := Lib.hid (And.intro hr hb)
 clear hr hb
 go_wp2_with fail
 refine hgot.mono ?_
 rintro e w2 ⟨rfl, rfl⟩
 go_wp2_with fail
 go_ret2
 refine ⟨?_, HS.out⟩
 rw [HG.out, HE.out.2, ← HE.out.1]
 cases b <;> rfl
theorem crown_new {w : World} (hg : GOk g m w) : Calls Tryz.prog 52 #[] w fun e w' => ∃ be, e = .returned (ptr be) ∧ St g m be emptyT w w' := by
 go_enter Tryz.func52, Tryz.ntmps52
 go_wp2_with fail
 refine (Leaf_tr 0 1 1 0 hg).mono ?_
 rintro e w1 hNew
 obtain ⟨y, rfl, n1, n2, n3, f, hg', hN⟩ := hNew
 have hFr := (Fresh.start w.heap.size).new (Nat.le_refl _) n1 n2 n3 hN rfl (Nat.le_refl _)
 have hlh := f.size
 have hF1 := f
 clear n1 n2 n3 f hg
 unfold ptr
 go_wp2_with fail
 refine (Leaf_tr 0 1 1 0 hg').mono ?_
 rintro e w2 hNew
 obtain ⟨y2, rfl, n1, n2, n3, f, hg2, hN2⟩ := hNew
 have hFr2 := hFr.new (Nat.le_refl _) n1 n2 n3 hN2 rfl hlh
 replace hlh := Nat.le_trans hlh f.size
 replace hN := hN.fr0 f
 have hF2 := hF1.tr f
 clear n1 n2 n3 f hF1 hg' hFr
 unfold ptr
 go_wp2_with fail
 refine (Inner_tr 0 1 1 _ _ hg2 hN hN2 rfl rfl).mono ?_
 rintro e w3 hNew
 obtain ⟨y3, rfl, n1, n2, n3, f, hg3, hN3⟩ := hNew
 have hFr3 := hFr2.new (Nat.le_refl _) n1 n2 n3 hN3 rfl hlh
 have HS : Hid (St g m y3.1 emptyT w w3) := ⟨⟨_, ⟨hN3, fun a => by have := hFr3.1 a; simp only [cnt] at this ⊢; omega⟩, rfl, rfl⟩, .inl rfl, hg3, TF.of (hF2.tr f)⟩
 clear n1 n2 n3 f hF2 hg2 hFr2 hFr3 hN hN2 hN3 hg3
 unfold ptr
 go_wp2_with fail
 go_ret
 exact ⟨_, rfl, HS.out⟩
end Go.Proofs.YtdmobhndbibhoaaGreat
namespace Go.Proofs.YtdmobhndbibhoaaGreat
open Go.RowKit Larch
set_option maxRecDepth 100000
set_option linter.unusedVariables false
set_option linter.unusedSimpArgs false
attribute [local go_sem ↓] Go.wp_at_zero Go.wp_at_succ
theorem HT.frV {g : Gt} {w w' : World} {vb : Nat} {L : List VRec} {t : HTree} (h : HT g w t) (hv : VisSt g w vb L) (f : FrV g vb w w') : HT g w' t :=
 h.fr f.fr (fun c cs T hc hT => hv.out hc (by rcases hT with rfl | rfl | rfl <;> decide))
def EndSt (g : Gt) (vb m : Nat) (rm : Bool) (L : List VRec) (t : HTree) (w : World) (q : Value) (wr : World) (k : Nat) : Prop :=
 ∃ (t' : HTree) (L' : List VRec), q = ptr t'.ann.1 ∧ endT rm t' = endT rm t ∧ HT g wr t' ∧ VisSt g wr vb L' ∧ FrV g vb w wr ∧ GOk g (m + 7 * (t.size - t'.size)) wr ∧ t'.size = k ∧ t'.size ≤ t.size ∧
   L'.length + t'.size ≤ L.length + t.size ∧ (t' = t ∧ L.length ≤ L'.length ∨ L.length < L'.length)
def EndQ (g : Gt) (vb m : Nat) (rm : Bool) (L : List VRec) (t : HTree) (w : World) (e : Ending) (w' : World) : Prop :=
 ∃ (x : Nat × Nat) (L' : List VRec), e = .returned (.tuple #[ptr x.1, .bool true]) ∧ FrV g vb w w' ∧ GOk g (m + 7 * t.size) w' ∧ VisSt g w' vb L' ∧ HT g w' (.leaf x (endT rm t)) ∧
   L'.length ≤ L.length + t.size ∧ (t.isLeaf = true ∧ L.length ≤ L'.length ∨ L.length < L'.length)
set_option maxHeartbeats 4000000 in
theorem end_any {g : Gt} {vb m : Nat} {rm : Bool} {L : List VRec} {t : HTree} {w : World} (hg : GOk g m w) (hm : m + 7 * t.size + 100 < LIM) (hL : L.length + t.size < 800000) (hv : VisSt g w vb L) (hT : HT g w t) :
 Calls Tryz.prog 183 #[.pointer (some ⟨vb, 0, none⟩), ptr t.ann.1, .bool rm] w (EndQ g vb m rm L t w) := by
 have hst : EndSt g vb m rm L t w (ptr t.ann.1) w t.size := ⟨t, L, rfl, rfl, hT, hv, hv.frV (Fr.refl g No w), by rw [Nat.sub_self]; exact hg, rfl, Nat.le_refl _, by omega, .inl ⟨rfl, Nat.le_refl _⟩⟩
 clear hT hv hg
 go_enter Tryz.func183, Tryz.ntmps183
 go_wp2_with fail
 go_loopw [1] (fun q wr => ∃ k, EndSt g vb m rm L t w q wr k) (fun q wr => least (EndSt g vb m rm L t w q wr))
 case atStart => exact ⟨_, hst⟩
 case round =>
  have hsp := least_spec hrel
  generalize hn : least _ = n at hsp
  have HN := Lib.hid hn
  clear hn hrel hst
  obtain ⟨t', L', rfl, he, hT, hV, hF, hG, hs, hst, hL', hor⟩ := hsp
  obtain ⟨ix, rx⟩ := hT.nd.rec
  have c4 := rc4 rx
  cases t' with
  | leaf x d =>
    have hx : (T.leaf x d : HTree).ann.1 = x.1 := rfl
    rw [hx] at c4 ⊢
    rw [show (T.leaf x d : HTree).isLeaf = true from rfl] at c4
    have HE : Hid (EndQ g vb m rm L t w (.returned (.tuple #[ptr x.1, .bool true])) wr) :=
     ⟨x, L', rfl, hF, hG.mono (by omega), hV, by rw [← he]; exact hT, by omega, by
      rcases hor with ⟨h1, h2⟩ | h
      ·exact .inl ⟨by rw [← h1]; rfl, h2⟩
      ·exact .inr h⟩
    clear hT hV hF hG hor he rx
    unfold ptr at *
    go_wp2_with fail
    go_ret2
    exact HE.out
  | node x d l r =>
    have hx : (T.node x d l r : HTree).ann.1 = x.1 := rfl
    rw [hx] at c4 rx ⊢
    rw [show (T.node x d l r : HTree).isLeaf = false from rfl] at c4
    have hsz : (T.node x d l r : HTree).size = l.size + r.size + 1 := rfl
    have hCh := children_any hG (by omega) (by omega) hV hT.1
    unfold ptr at *
    go_wp2_with fail
    refine hCh.mono ?_
    rintro e w1 ⟨rfl, f, hG1, r', hV1⟩
    have hT1 := hT.frV hV f
    obtain ⟨ix1, rx1⟩ := hT1.nd.rec
    have c1 := rc1 rx1
    rw [hx, show (T.node x d l r : HTree).it.i = d.i from rfl] at c1
    have hF1 := hF.trans f
    clear hCh hT hV hF hG f rx rx1 c4
    have HV := Lib.hid (And.intro hV1 (And.intro hF1 hT1))
    clear hV1 hF1 hT1
    have hl := l.size_pos
    have hr := r.size_pos
    have Hl : ∀ b : Bool, b = (rm && d.i == 0) → EndSt g vb m rm L t w (.pointer (some ⟨(if b then r else l).ann.1, 0, none⟩)) w1 (if b then r else l).size := fun b hb => by
     refine ⟨if b then r else l, L' ++ [r'], rfl, ?_, ?_, HV.out.1, HV.out.2.1, hG1.mono ?_, rfl, ?_, ?_, .inr ?_⟩
     ·rw [← he]; simp only [endT]; rw [← hb]; cases b <;> rfl
     ·cases b; exact HV.out.2.2.2.1; exact HV.out.2.2.2.2
     ·cases b <;> simp <;> omega
     ·cases b <;> simp <;> omega
     ·rw [List.length_append]; cases b <;> simp <;> omega
     ·rw [List.length_append]; simp only [List.length_cons, List.length_nil]; rcases hor with ⟨_, h⟩ | h <;> omega
    have HL := Lib.hid Hl
    clear Hl hor he
    cases rm with
    | false =>
      go_wp2_with fail
      go_roundw
      case rel => exact ⟨_, HL.out false rfl⟩
      case measure =>
       have h1 := least_le (HL.out false rfl)
       have h2 : least (EndSt g vb m _ L t w (.pointer (some ⟨x.1, 0, none⟩)) wr) = n := HN.out
       simp at h1
       omega
    | true =>
      by_cases hi : d.i = 0
      ·rw [hi] at c1
       go_wp2_with fail
       go_roundw
       case rel => exact ⟨_, HL.out true (by simp [hi])⟩
       case measure =>
        have h1 := least_le (HL.out true (by simp [hi]))
        have h2 : least (EndSt g vb m _ L t w (.pointer (some ⟨x.1, 0, none⟩)) wr) = n := HN.out
        simp at h1
        omega
      ·go_wp2_with fail
       go_roundw
       case rel => exact ⟨_, HL.out false (by simp [hi])⟩
       case measure =>
        have h1 := least_le (HL.out false (by simp [hi]))
        have h2 : least (EndSt g vb m _ L t w (.pointer (some ⟨x.1, 0, none⟩)) wr) = n := HN.out
        simp at h1
        omega
end Go.Proofs.YtdmobhndbibhoaaGreat
namespace Go.Proofs.YtdmobhndbibhoaaGreat
open Go.RowKit Larch
set_option maxRecDepth 100000
set_option linter.unusedVariables false
set_option linter.unusedSimpArgs false
attribute [local go_sem ↓] Go.wp_at_zero Go.wp_at_succ
def cO (o : Option (Int × Int)) : Array Value := match o with
 | none => #[.int .i64 0, .int .i64 0, .bool false]
 | some p => #[.int .i64 p.1, .int .i64 p.2, .bool true]
theorem cO_form (o : Option (Int × Int)) : ∃ a b c, cO o = #[.int .i64 a, .int .i64 b, .bool c] := by cases o <;> exact ⟨_, _, _, rfl⟩
theorem size284 : (Tryz.prog.info? 284).map (·.size) = some 3 := by kernel_rfl
theorem size49 : (Tryz.prog.info? 49).map (·.size) = some 2 := by kernel_rfl
set_option maxHeartbeats 1000000 in
theorem of_leaf {g : Gt} {m b info mk : Nat} {d : It} {lf : Bool} {fs : Value} {w : World} (hg : GOk g m w) (ha : Cl g w b (rc d lf fs info mk) 209) :
 Calls Tryz.prog 182 #[ptr b] w fun e w' => e = .returned (.agg (cO (ofIt d))) ∧ Fr g No w w' ∧ GOk g m w' := by
 have hA := (Fr.alloc g No w (.cells #[.int .i64 0, .int .i64 0, .bool false] 284) hg).at ha id
 have c0 := rc0 hA
 have c1 := rc1 hA
 have c3 := rc3 hA
 unfold ptr
 by_cases hi : d.i = 0
 ·rw [show ofIt d = some (d.k, d.v) from by simp [ofIt, hi]]
  rw [hi] at c1
  have hF := (Fr.alloc g No w (.cells #[.int .i64 d.k, .int .i64 d.v, .bool true] 284) hg)
  have hG := hg.alloc (.cells #[.int .i64 d.k, .int .i64 d.v, .bool true] 284)
  have hN := heap_alloc_new w (.cells #[.int .i64 d.k, .int .i64 d.v, .bool true] 284)
  have q0 := box_free (cs := #[.int .i64 0, .int .i64 0, .bool false]) (T := 284) hg 0
  have q1 := box_free (cs := #[.int .i64 0, .int .i64 0, .bool false]) (T := 284) hg 1
  have q2 := box_free (cs := #[.int .i64 0, .int .i64 0, .bool false]) (T := 284) hg 2
  go_enter Tryz.func182, Tryz.ntmps182
  go_wp2_with fail
  first | go_region | skip
  go_wp2_with fail
  refine bodyPost_ret (results_cell_row rfl _ _ _ 284 _ (0, 0) _ rfl hN Tryz.underlying284 rfl size284) rfl ?_
  exact ⟨rfl, hF.tr (Fr.drew g No _), hG.drew⟩
 ·rw [show ofIt d = none from by simp [ofIt, hi]]
  have hF := (Fr.alloc g No w (.cells #[.int .i64 0, .int .i64 0, .bool false] 284) hg)
  have hG := hg.alloc (.cells #[.int .i64 0, .int .i64 0, .bool false] 284)
  have hN := heap_alloc_new w (.cells #[.int .i64 0, .int .i64 0, .bool false] 284)
  have q0 := box_free (cs := #[.int .i64 0, .int .i64 0, .bool false]) (T := 284) hg 0
  have q1 := box_free (cs := #[.int .i64 0, .int .i64 0, .bool false]) (T := 284) hg 1
  have q2 := box_free (cs := #[.int .i64 0, .int .i64 0, .bool false]) (T := 284) hg 2
  go_enter Tryz.func182, Tryz.ntmps182
  go_wp2_with fail
  refine bodyPost_ret (results_cell_row rfl _ _ _ 284 _ (0, 0) _ rfl hN Tryz.underlying284 rfl size284) rfl ?_
  exact ⟨rfl, hF, hG⟩
theorem FrV.own1 {g : Gt} {vb b : Nat} {L : List VRec} {cs : Array Value} {T : TypeId} {w w1 w2 : World} (h : FrV g vb w w1) (hv : VisSt g w1 vb L) (hb : Cl g w1 b cs T) (hT : T ≠ 291 ∧ T ≠ 220 ∧ T ≠ 209) (hn : w.heap.size ≤ b)
 (f : Fr g (fun c => c = b) w1 w2) : FrV g vb w w2 ∧ VisSt g w2 vb L := by
 have hne : ∀ c cs' T', Cl g w1 c cs' T' → T' ≠ T → ¬ c = b := fun c cs' T' hc hT' e => by subst e; exact hc.ne hb hT' rfl
 refine ⟨⟨h.fr.trans f (fun _ _ k => k) (fun c hc e => by omega), ?_⟩, hv.keep f (fun c cs' T' hc hT' => hne c cs' T' hc (by rcases hT' with rfl | rfl | rfl; exact hT.2.2.symm; exact hT.1.symm; exact hT.2.1.symm))⟩
 obtain ⟨v, h1, _⟩ := hv
 intro c hc
 have h2 := f.at h1 (hne _ _ _ h1 hT.1.symm)
 exact h.own c ((VBlk.same (h2.1.trans h1.1.symm) c).1 hc)
def SeeQ (g : Gt) (vb M K : Nat) (out : Value) (R : World → Prop) (w : World) (e : Ending) (w' : World) : Prop :=
 ∃ L, e = .returned (.tuple #[out, .bool true]) ∧ FrV g vb w w' ∧ GOk g M w' ∧ VisSt g w' vb L ∧ 0 < L.length ∧ L.length ≤ K ∧ R w'
set_option maxHeartbeats 2000000 in
theorem see184 {g : Gt} {vb eb rb m : Nat} {rm : Bool} {t : HTree} {w : World} (hg : GOk g m w) (hm : m + 7 * t.size + 100 < LIM) (hL : t.size < 800000) (hv : VisSt g w vb []) (hT : HT g w t) (hn : t.isLeaf = false)
 (he : Cl g w eb #[ptr t.ann.1] 99) (hr : Cl g w rb #[.bool rm] 4) :
 Calls Tryz.prog 184 #[.pointer (some ⟨vb, 0, none⟩), .pointer (some ⟨eb, 0, none⟩), .pointer (some ⟨rb, 0, none⟩)] w (SeeQ g vb (m + 7 * t.size) t.size (.agg (cO (ofIt (endT rm t)))) (fun _ => True) w) := by
 have hF := Fr.alloc g No w (.cells #[.int .i64 0, .int .i64 0, .bool false] 284) hg
 have hG := hg.alloc (.cells #[.int .i64 0, .int .i64 0, .bool false] 284)
 have hB := At.new hg (.cells #[.int .i64 0, .int .i64 0, .bool false] 284)
 have h1 := (hF.at he id).cell 0
 have h2 := (hF.at hr id).cell 0
 have hE := end_any (rm := rm) hG hm (L := []) (by simp; omega) (hv.fr0 hF) (hT.fr0 hF)
 have hV0 := hv.frV hF
 clear he hr
 unfold ptr at *
 go_enter Tryz.func184, Tryz.ntmps184
 go_wp2_with fail
 generalize hW : World.alloc w _ = W at *
 refine hE.mono ?_
 rintro e w1 ⟨x, L', rfl, f, hG1, hV1, hX, hl, hor⟩
 obtain ⟨ix, rx⟩ := hX.nd.rec
 have hB1 : Cl g w1 w.heap.size #[.int .i64 0, .int .i64 0, .bool false] 284 := f.fr.at hB (fun h => (hv.fr0 hF).out hB (by decide) h)
 have hO := of_leaf hG1 rx
 have hF1 := hV0.trans f
 have HL := Lib.hid (And.intro hl hor)
 clear hE rx hX f hV0 hl hor h1 h2
 unfold ptr at *
 go_wp2_with fail
 refine hO.mono ?_
 rintro e w2 ⟨rfl, f2, hG2⟩
 have hB2 := f2.at hB1 id
 have hF2 := hF1.trans (hV1.frV f2)
 have hV2 := hV1.fr0 f2
 rw [show (T.leaf x (endT rm t)).it = endT rm t from rfl]
 obtain ⟨a, b, c, hc⟩ := cO_form (ofIt (endT rm t))
 rw [hc]
 have q0 := hB2.free 0
 have q1 := hB2.free 1
 have q2 := hB2.free 2
 have c0 := hB2.cell 0
 have c1 := hB2.cell 1
 have c2 := hB2.cell 2
 clear hO f2 hV1 hF1 hB1 hG1
 go_wp2_with fail
 generalize hW3 : World.setCell _ _ _ = W3
 obtain ⟨f3, hG3, hR⟩ := set3 hG2 hB2 hW3
 obtain ⟨hF3, hV3⟩ := hF2.own1 hV2 hB2 (by decide) (Nat.le_refl _) f3
 refine bodyPost_ret (results_ct rfl _ rfl hR.1 Tryz.underlying284 size284) rfl ?_
 exact ⟨L', by rw [hc]; rfl, hF3, hG3, hV3, by
  rcases HL.out.2 with ⟨h, _⟩ | h
  ·rw [hn] at h; cases h
  ·simpa using h, by have := HL.out.1; simpa using this, trivial⟩
end Go.Proofs.YtdmobhndbibhoaaGreat
