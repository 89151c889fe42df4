/- What the scans compute on the plain tree; no program here. -/
import Derived.Test.YtdmobhndbibhoaaGreatB0
import Derived.Test.YtdmobhndbibhoaaGreatA12
namespace Larch
set_option linter.unusedVariables false
set_option linter.unusedSimpArgs false
variable {α β : Type}
def Sc : T α → Prop
 | .leaf _ _ => True
 | .node x d l r => d.i = 1 ∧ Sc l ∧ pairs r = [] ∨ d.i = 0 ∧ ∃ lo hi, Bst lo hi (.node x d l r)
theorem Bst.sc {t : T α} {lo hi : Option Int} (h : Bst lo hi t) : Sc t := by
 cases t with
 | leaf x d => trivial
 | node x d l r => exact .inr ⟨h.1, lo, hi, h⟩
theorem Good.sc {t : T Unit} (h : Good t) : Sc t := by
 rcases h with rfl | ⟨r, h, rfl, hr, h1, hb⟩
 ·exact .inl ⟨rfl, trivial, rfl⟩
 ·exact .inl ⟨rfl, .inl ⟨rfl, hb.sc, rfl⟩, rfl⟩
def rng (lo hi : Int) (t : T α) : List (Int × Int) := (pairs t).filter fun p => decide (lo ≤ p.1) && decide (p.1 ≤ hi)
theorem rng_node {lo hi : Int} {x : α} {d : It} {l r : T α} (h : Sc (.node x d l r)) :
 rng lo hi (.node x d l r) = (if below lo d then rng lo hi l else []) ++ (if below hi d then [] else rng lo hi r) := by
 simp only [rng, pairs, List.filter_append]
 rcases h with ⟨hi1, _, hr⟩ | ⟨hi0, a, b, hb⟩
 ·simp [below, hi1, hr]
 ·have h1 : (d.i == 1) = false := by simp [hi0]
  simp only [below, h1, Bool.false_or, decide_eq_true_eq]
  congr 1
  ·split
   ·rfl
   ·refine filter_none fun p hp => ?_
    have := (hb.2.1.within p hp).2
    simp only [lto] at this
    simp; omega
  ·split
   ·refine filter_none fun p hp => ?_
    have := (hb.2.2.within p hp).1
    simp only [geo] at this
    simp; omega
   ·rfl
theorem Sc.kids {x : α} {d : It} {l r : T α} {hi : Int} (h : Sc (.node x d l r)) : Sc l ∧ (below hi d = false → Sc r) := by
 rcases h with ⟨hi1, hl, hr⟩ | ⟨hi0, a, b, hb⟩
 ·exact ⟨hl, by simp [below, hi1]⟩
 ·exact ⟨hb.2.1.sc, fun _ => hb.2.2.sc⟩
def endT (rm : Bool) : T α → It
 | .leaf _ d => d
 | .node _ d l r => if rm && d.i == 0 then endT rm r else endT rm l
def ofIt (d : It) : Option (Int × Int) := if d.i = 0 then some (d.k, d.v) else none
theorem Bst.ne {t : T α} {lo hi : Option Int} (h : Bst lo hi t) : pairs t ≠ [] := fun e => by
 obtain ⟨p, hp, _⟩ := h.nonempty
 rw [e] at hp; cases hp
theorem end_bst (rm : Bool) {t : T α} : ∀ {lo hi : Option Int}, Bst lo hi t → ofIt (endT rm t) = if rm then (pairs t).getLast? else (pairs t).head? := by
 induction t with
 | leaf x d => intro lo hi h; cases rm <;> simp [endT, ofIt, pairs, h.1]
 | node x d l r ihl ihr =>
   intro lo hi h
   have h0 : (d.i == 0) = true := by simp [h.1]
   cases rm with
   | false =>
     simp only [endT, Bool.false_and, Bool.false_eq_true, if_false, pairs]
     have := ihl h.2.1
     simp only [Bool.false_eq_true, if_false] at this
     rw [this, List.head?_append]
     have := h.2.1.ne
     cases hp : pairs l with
     | nil => exact absurd hp this
     | cons a b => rfl
   | true =>
     simp only [endT, h0, Bool.and_self, if_true, pairs]
     have := ihr h.2.2
     simp only [if_true] at this
     rw [this, List.getLast?_append]
     have := h.2.2.ne
     cases hp : (pairs r).getLast? with
     | none => exact absurd (List.getLast?_eq_none_iff.1 hp) this
     | some a => rfl
theorem end_good (rm : Bool) {t : T Unit} (h : Good t) : ofIt (endT rm t) = if rm then (pairs t).getLast? else (pairs t).head? := by
 rcases h with rfl | ⟨r, h, rfl, hr, h1, hb⟩
 ·cases rm <;> rfl
 ·have := end_bst rm hb
  have e1 : endT rm (crown r) = endT rm r := by cases rm <;> simp [crown, endT, cr]
  have e2 : pairs (crown r) = pairs r := by simp [crown, pairs, cr]
  rw [e1, e2, this]
def nx (key : Int) (ab : Bool) : Option (T α) → T α → Option (Int × Int)
 | o, .leaf _ d => if d.i = 0 ∧ (if ab then key < d.k else d.k < key) then some (d.k, d.v) else o.bind fun t => ofIt (endT (!ab) t)
 | o, .node _ d l r => if below key d then nx key ab (if ab && d.i == 0 then some r else o) l else nx key ab (if ab then o else some l) r
def OkO (key : Int) (ab : Bool) (o : Option (T α)) : Prop := ∀ t, o = some t → (∃ lo hi, Bst lo hi t) ∧ ∀ p ∈ pairs t, if ab then key < p.1 else p.1 < key
def oP (o : Option (T α)) : List (Int × Int) := o.elim [] pairs
theorem find_none {l : List (Int × Int)} {q : Int × Int → Bool} (h : ∀ p ∈ l, q p = false) : l.find? q = none := List.find?_eq_none.2 (by simpa using h)
theorem find_head {l : List (Int × Int)} {q : Int × Int → Bool} (h : ∀ p ∈ l, q p = true) : l.find? q = l.head? := by
 cases l with
 | nil => rfl
 | cons a l => simp [h a (by simp)]
theorem nx_above (key : Int) (t : T α) : ∀ o : Option (T α), Sc t → OkO key true o → nx key true o t = (pairs t ++ oP o).find? (fun p => decide (key < p.1)) := by
 induction t with
 | leaf x d =>
   intro o _ ho
   simp only [nx, pairs, if_true, Bool.not_true]
   have hO : (o.bind fun t => ofIt (endT false t)) = (oP o).find? (fun p => decide (key < p.1)) := by
    cases o with
    | none => rfl
    | some t =>
      obtain ⟨⟨lo, hi, hb⟩, hk⟩ := ho t rfl
      simp only [Option.bind_some, oP, Option.elim]
      rw [end_bst false hb, find_head (by simpa using hk)]
      rfl
   by_cases hi : d.i = 0
   ·by_cases hk : key < d.k
    ·simp [hi, hk]
    ·simp [hi, hk, hO]
   ·simp [hi, hO]
 | node x d l r ihl ihr =>
   intro o hs ho
   simp only [nx, pairs, Bool.true_and, if_true]
   rcases hs with ⟨h1, hl, hr⟩ | ⟨h0, lo, hi, hb⟩
   ·have hbl : below key d = true := by simp [below, h1]
    have : (d.i == 0) = false := by simp [h1]
    rw [if_pos hbl, this, ihl _ hl (by simpa using ho)]
    simp [hr]
   ·have e0 : (d.i == 0) = true := by simp [h0]
    have e1 : (d.i == 1) = false := by simp [h0]
    rw [e0, if_pos rfl]
    by_cases hk : key < d.k
    ·have hbl : below key d = true := by simp [below, hk]
     have hrk : ∀ p ∈ pairs r, key < p.1 := fun p hp => by have := (hb.2.2.within p hp).1; simp only [geo] at this; omega
     rw [if_pos hbl, ihl _ hb.2.1.sc (fun t ht => by cases ht; exact ⟨⟨_, _, hb.2.2⟩, by simpa using hrk⟩)]
     simp only [oP, Option.elim, List.find?_append]
     have hne := hb.2.2.ne
     have := find_head (l := pairs r) (q := fun p => decide (key < p.1)) (by simpa using hrk)
     cases hp : pairs r with
     | nil => exact absurd hp hne
     | cons a b => rw [hp] at this; rw [this]; simp
    ·have hbl : below key d = false := by simp [below, e1]; omega
     rw [hbl]
     simp only [Bool.false_eq_true, if_false]
     rw [ihr _ hb.2.2.sc ho]
     have : (pairs l).find? (fun p => decide (key < p.1)) = none := find_none fun p hp => by
      have := (hb.2.1.within p hp).2; simp only [lto] at this; simp; omega
     simp [List.find?_append, this]
theorem last_filter_append {a b : List (Int × Int)} {q : Int × Int → Bool} : ((a ++ b).filter q).getLast? = ((b.filter q).getLast?).or ((a.filter q).getLast?) := by
 rw [List.filter_append, List.getLast?_append]
theorem nx_below (key : Int) (t : T α) : ∀ o : Option (T α), Sc t → OkO key false o → nx key false o t = ((oP o ++ pairs t).filter (fun p => decide (p.1 < key))).getLast? := by
 induction t with
 | leaf x d =>
   intro o _ ho
   simp only [nx, pairs, Bool.false_eq_true, if_false, Bool.not_false]
   have hO : (o.bind fun t => ofIt (endT true t)) = ((oP o).filter (fun p => decide (p.1 < key))).getLast? := by
    cases o with
    | none => rfl
    | some t =>
      obtain ⟨⟨lo, hi, hb⟩, hk⟩ := ho t rfl
      simp only [Option.bind_some, oP, Option.elim]
      rw [end_bst true hb, filter_all (by simpa using hk)]
      rfl
   rw [last_filter_append]
   by_cases hi : d.i = 0
   ·by_cases hk : d.k < key
    ·simp [hi, hk]
    ·simp [hi, hk, hO]
   ·simp [hi, hO]
 | node x d l r ihl ihr =>
   intro o hs ho
   simp only [nx, pairs, Bool.false_and, Bool.false_eq_true, if_false]
   rcases hs with ⟨h1, hl, hr⟩ | ⟨h0, lo, hi, hb⟩
   ·have hbl : below key d = true := by simp [below, h1]
    rw [if_pos hbl, ihl _ hl ho]
    simp [hr]
   ·have e1 : (d.i == 1) = false := by simp [h0]
    by_cases hk : key < d.k
    ·have hbl : below key d = true := by simp [below, hk]
     rw [if_pos hbl, ihl _ hb.2.1.sc ho]
     have : (pairs r).filter (fun p => decide (p.1 < key)) = [] := filter_none fun p hp => by
      have := (hb.2.2.within p hp).1; simp only [geo] at this; simp; omega
     simp [List.filter_append, this]
    ·have hbl : below key d = false := by simp [below, e1]; omega
     have hlk : ∀ p ∈ pairs l, p.1 < key := fun p hp => by have := (hb.2.1.within p hp).2; simp only [lto] at this; omega
     rw [hbl]
     simp only [Bool.false_eq_true, if_false]
     rw [ihr _ hb.2.2.sc (fun t ht => by cases ht; exact ⟨⟨_, _, hb.2.1⟩, by simpa using hlk⟩)]
     have hne := hb.2.1.ne
     have eO : oP (some l) = pairs l := rfl
     rw [eO, last_filter_append, last_filter_append (a := oP o), last_filter_append (a := pairs l), filter_all (l := pairs l) (by simpa using hlk)]
     cases hp : (pairs l).getLast? with
     | none => exact absurd (List.getLast?_eq_none_iff.1 hp) hne
     | some a => cases ((pairs r).filter fun p => decide (p.1 < key)).getLast? <;> simp
def succL (key : Int) (m : List (Int × Int)) : Option (Int × Int) := m.find? fun p => decide (key < p.1)
def predL (key : Int) (m : List (Int × Int)) : Option (Int × Int) := (m.filter fun p => decide (p.1 < key)).getLast?
theorem nx_good {key : Int} (ab : Bool) {t : T Unit} (h : Good t) : nx key ab none t = if ab then succL key (pairs t) else predL key (pairs t) := by
 cases ab with
 | true => rw [nx_above key t none h.sc (fun t ht => by cases ht)]; simp [oP, succL]
 | false => rw [nx_below key t none h.sc (fun t ht => by cases ht)]; simp [oP, predL]
theorem pairs_er (t : T α) : pairs t.er = pairs t := by
 induction t with
 | leaf x d => rfl
 | node x d l r ihl ihr =>
   have ihl : pairs (l.map fun _ => ()) = pairs l := ihl
   have ihr : pairs (r.map fun _ => ()) = pairs r := ihr
   simp only [T.er, T.map, pairs, ihl, ihr]
theorem Bst_er (t : T α) : ∀ {lo hi : Option Int}, Bst lo hi t.er ↔ Bst lo hi t := by
 induction t with
 | leaf x d => exact Iff.rfl
 | node x d l r ihl ihr =>
   intro lo hi
   have ihl : ∀ {lo hi : Option Int}, Bst lo hi (l.map fun _ => ()) ↔ Bst lo hi l := ihl
   have ihr : ∀ {lo hi : Option Int}, Bst lo hi (r.map fun _ => ()) ↔ Bst lo hi r := ihr
   simp only [T.er, T.map, Bst, ihl, ihr]
theorem Sc_er (t : T α) : Sc t.er ↔ Sc t := by
 induction t with
 | leaf x d => exact Iff.rfl
 | node x d l r ihl ihr =>
   have ihl : Sc (l.map fun _ => ()) ↔ Sc l := ihl
   have h1 : (∃ lo hi, Bst lo hi ((T.node x d l r).er)) ↔ ∃ lo hi, Bst lo hi (T.node x d l r) := by
    constructor <;> (rintro ⟨lo, hi, h⟩; exact ⟨lo, hi, by first | exact (Bst_er _).1 h | exact (Bst_er _).2 h⟩)
   have h2 : pairs (r.map fun _ => ()) = pairs r := pairs_er r
   simp only [T.er, T.map] at h1
   simp only [T.er, T.map, Sc, ihl, h1, h2]
theorem endT_er (rm : Bool) (t : T α) : endT rm t.er = endT rm t := by
 induction t with
 | leaf x d => rfl
 | node x d l r ihl ihr =>
   have ihl : endT rm (l.map fun _ => ()) = endT rm l := ihl
   have ihr : endT rm (r.map fun _ => ()) = endT rm r := ihr
   simp only [T.er, T.map, endT, ihl, ihr]
theorem nx_er (key : Int) (ab : Bool) (t : T α) : ∀ o : Option (T α), nx key ab (o.map T.er) t.er = nx key ab o t := by
 induction t with
 | leaf x d =>
   intro o
   cases o with
   | none => rfl
   | some t => simp only [T.er, T.map, nx, Option.map_some, Option.bind_some]; rw [show endT (!ab) (T.map (fun _ => ()) t) = endT (!ab) t from endT_er _ _]
 | node x d l r ihl ihr =>
   intro o
   have ihl : ∀ o : Option (T α), nx key ab (o.map T.er) (l.map fun _ => ()) = nx key ab o l := ihl
   have ihr : ∀ o : Option (T α), nx key ab (o.map T.er) (r.map fun _ => ()) = nx key ab o r := ihr
   simp only [T.er, T.map, nx]
   split
   ·rw [← ihl]; congr 1; split <;> rfl
   ·rw [← ihr]; congr 1; split <;> rfl
theorem end_tree {γ : Type} (rm : Bool) {t : T γ} (h : Good t.er) : ofIt (endT rm t) = if rm then (pairs t).getLast? else (pairs t).head? := by
 rw [← endT_er, ← pairs_er]; exact end_good rm h
theorem nx_tree {key : Int} {γ : Type} (ab : Bool) {t : T γ} (h : Good t.er) : nx key ab none t = if ab then succL key (pairs t) else predL key (pairs t) := by
 rw [← pairs_er, ← nx_good ab h]; exact (nx_er key ab t none).symm
end Larch
namespace Go.Proofs.YtdmobhndbibhoaaGreat
open Go.RowKit Larch
set_option maxRecDepth 100000
set_option linter.unusedVariables false
set_option linter.unusedSimpArgs false
attribute [local go_sem ↓] Go.wp_at_zero Go.wp_at_succ
def VBlk (w : World) (vb c : Nat) : Prop := c = vb ∨ ∃ x v, w.heap[vb]? = some (.cells #[x, v] 291 (0, 0)) ∧ v.ownBlock = some c
def VI (g : Gt) (w : World) (r : VRec) : Prop := Cl g w r.b (rc r.d r.lf r.fs r.info 0) 209 ∧ IsScx w r.info ∧ ∃ a n c, r.fv = .slice a n c
theorem VI.fr {g : Gt} {S : Nat → Prop} {w w' : World} {r : VRec} (h : VI g w r) (hf : Fr g S w w') (hs : ∀ c cs T, Cl g w c cs T → T = 209 → ¬ S c) : VI g w' r :=
 ⟨hf.at h.1 (hs _ _ _ h.1 rfl), hf.isScx _ h.2.1, h.2.2⟩
theorem VOk.vi {g : Gt} {w : World} {r : VRec} (h : VOk g w r) : VI g w r := by
 obtain ⟨h1, ⟨st, ⟨sc, h2, h2', _⟩, _⟩, _, _, h5⟩ := h
 obtain ⟨a, c, hv⟩ := h5.slice
 exact ⟨h1, ⟨_, h2.1, h2'⟩, _, _, _, hv⟩
def VisSt (g : Gt) (w : World) (vb : Nat) (L : List VRec) : Prop :=
 ∃ v, Cl g w vb #[gval g, v] 291 ∧ Row g w 220 3 v L.length (vL L) ∧ ∀ r ∈ L, VI g w r
structure FrV (g : Gt) (vb : Nat) (w w' : World) : Prop where
 fr : Fr g (VBlk w vb) w w'
 own : ∀ c, VBlk w' vb c → VBlk w vb c ∨ w.heap.size ≤ c
theorem FrV.trans {g : Gt} {vb : Nat} {w w' w'' : World} (h : FrV g vb w w') (k : FrV g vb w' w'') : FrV g vb w w'' :=
 ⟨h.fr.trans k.fr (fun _ _ h => h) (fun c hc h' => (h.own c h').elim id (fun h'' => by omega)),
  fun c hc => (k.own c hc).elim (fun h' => h.own c h') (fun h' => .inr (Nat.le_trans h.fr.size h'))⟩
theorem VBlk.same {w w' : World} {vb : Nat} (h : w'.heap[vb]? = w.heap[vb]?) (c : Nat) : VBlk w' vb c ↔ VBlk w vb c := by
 simp only [VBlk, h]
theorem VisSt.out {g : Gt} {w : World} {vb c : Nat} {L : List VRec} {cs : Array Value} {T : TypeId} (h : VisSt g w vb L) (hc : Cl g w c cs T) (hT : T ≠ 291 ∧ T ≠ 220) : ¬ VBlk w vb c := by
 obtain ⟨v, ht, hv, _⟩ := h
 rintro (rfl | ⟨x, v', hh, hc'⟩)
 ·exact ht.ne hc hT.1.symm rfl
 ·rw [ht.1] at hh
  simp at hh
  obtain ⟨_, rfl⟩ := hh
  exact hv.notin hc hT.2.symm hc'
theorem VisSt.frV {g : Gt} {w w' : World} {vb : Nat} {L : List VRec} (h : VisSt g w vb L) (hf : Fr g No w w') : FrV g vb w w' := by
 obtain ⟨v, h1, _⟩ := h
 exact ⟨hf.mono (fun _ _ h => h.elim), fun c hc => .inl ((VBlk.same ((hf.at h1 id).1.trans h1.1.symm) c).1 hc)⟩
theorem VisSt.fr0 {g : Gt} {w w' : World} {vb : Nat} {L : List VRec} (h : VisSt g w vb L) (hf : Fr g No w w') : VisSt g w' vb L := by
 obtain ⟨v, h1, h2, h3⟩ := h
 exact ⟨v, hf.at h1 id, h2.fr hf (fun _ _ h => h), fun r hr => (h3 r hr).fr hf (fun _ _ _ _ _ h => h)⟩
theorem VisSt.keep {g : Gt} {S : Nat → Prop} {w w' : World} {vb : Nat} {L : List VRec} (h : VisSt g w vb L) (hf : Fr g S w w') (hs : ∀ c cs T, Cl g w c cs T → T = 209 ∨ T = 291 ∨ T = 220 → ¬ S c) : VisSt g w' vb L := by
 obtain ⟨v, h1, h2, h3⟩ := h
 refine ⟨v, hf.at h1 (hs _ _ _ h1 (by simp)), h2.fr hf (fun c hc => ?_), fun r hr => (h3 r hr).fr hf (fun c cs T k hT => hs c cs T k (.inl hT))⟩
 rcases h2.2 with ⟨rfl, _⟩ | ⟨b, cap, cur, rfl, _, _, hb, _⟩
 ·simp [Value.ownBlock] at hc
 ·simp [Value.ownBlock] at hc; subst hc; exact hs _ _ _ hb (by simp)
theorem vis_end {g : Gt} {m vb lb b3 cap3 : Nat} {r : VRec} {L : List VRec} {v : Value} {cs : Array Value} {w w1 W2 w3 W5 : World}
 (HT : VisSt g w vb L) (HF : Fr g No w w1) (HF2 : Fr g No w1 W2) (hV : VOk g w1 r) (hv2 : Row g W2 220 3 v L.length (vL L)) (hz2 : lb < W2.heap.size)
 (HA : Fr g (fun c => v.ownBlock = some c) W2 w3 ∧ GOk g m w3 ∧ Row g w3 220 3 (.slice (some ⟨b3, 0, none⟩) (L.length + 1) cap3) (L.length + 1) (vL L ++ [.pointer (some ⟨r.b, 0, none⟩), .pointer (some ⟨r.info, 0, none⟩), r.fv]) ∧
   (∃ b cap, Value.slice (some ⟨b3, 0, none⟩) (L.length + 1) cap3 = .slice (some ⟨b, 0, none⟩) (L.length + 1) cap) ∧ (∀ b, (Value.slice (some ⟨b3, 0, none⟩) (L.length + 1) cap3).ownBlock = some b → v.ownBlock = some b ∨ W2.heap.size ≤ b))
 (ha4 : Cl g w3 vb #[gval g, v] 291) (ha5 : Cl g w3 lb cs 220) (hvl : vb ≠ lb) (hW5 : w3.setCell ⟨vb, 1, none⟩ (.slice (some ⟨b3, 0, none⟩) (L.length + 1) cap3) = W5) :
 Cl g W5 lb cs 220 ∧ FrV g vb w W5 ∧ GOk g m W5 ∧ VisSt g W5 vb (L ++ [r]) ∧ VOk g W5 r := by
 obtain ⟨A1, A2, A3, _, A5⟩ := HA
 obtain ⟨v0, ht0, hv0, hr0⟩ := HT
 have hF12 := HF.tr HF2
 have hev : v0 = v := by
  have h1 := hF12.at ht0 id
  have h2 := A1.at h1 (hv2.notin h1 (by decide))
  have := h2.1.symm.trans ha4.1
  simpa using this
 subst hev
 have k2 := ha4.setCell 1 (.slice (some ⟨b3, 0, none⟩) (L.length + 1) cap3)
 have g2 := A2.setCell ha4 1 (.slice (some ⟨b3, 0, none⟩) (L.length + 1) cap3)
 have F5 : Fr g (fun c => c = vb) w3 W5 := by rw [← hW5]; exact Fr.setCell (fun c => c = vb) ha4 1 _ rfl (fun _ => by decide)
 rw [hW5] at k2 g2
 have sz1 := A1.size
 have sz0 := hF12.size
 have hVs : ∀ r, VOk g w1 r → VOk g W5 r := fun r h => by
  have q1 := (h.fr HF2 (fun _ _ _ _ _ h => h)).fr A1 (fun c cs T hc hT => hv2.notin hc (by rcases hT with rfl | rfl | rfl | rfl <;> decide))
  exact q1.fr F5 (fun c cs T hc hT e => by subst e; exact ha4.ne hc (by rcases hT with rfl | rfl | rfl | rfl <;> decide) rfl)
 have ht : ∀ c, v0.ownBlock = some c → VBlk w vb c := fun c h => .inr ⟨_, _, ht0.1, h⟩
 refine ⟨F5.at ha5 (fun h => hvl h.symm), ⟨?_, ?_⟩, g2, ⟨_, k2, ?_, ?_⟩, hVs r hV⟩
 ·have t1 : Fr g (VBlk w vb) w w3 := hF12.trans A1 (fun _ _ h => h.elim) (fun c _ h => ht c h)
  exact t1.trans F5 (fun _ _ h => h) (fun c _ h => .inl h)
 ·rintro c (rfl | ⟨x, v', hh, hc⟩)
  ·exact .inl (.inl rfl)
  ·have := k2.1.symm.trans hh
   simp at this
   obtain ⟨_, rfl⟩ := this
   simp [Value.ownBlock] at hc; subst hc
   rcases A5 b3 rfl with h | h
   ·exact .inl (ht _ h)
   ·right; omega
 ·have e : vL (L ++ [r]) = vL L ++ [.pointer (some ⟨r.b, 0, none⟩), .pointer (some ⟨r.info, 0, none⟩), r.fv] := by simp [vL]
  rw [e, List.length_append]
  exact A3.frB F5 (A3.ne ha4 (by decide))
 ·intro q hq
  rcases List.mem_append.1 hq with h | h
  ·have q0 := ((hr0 q h).fr hF12 (fun _ _ _ _ _ h => h)).fr A1 (fun c cs T hc hT => hv2.notin hc (by subst hT; decide))
   exact q0.fr F5 (fun c cs T hc hT e => by subst e; exact ha4.ne hc (by subst hT; decide) rfl)
  ·simp at h; subst h; exact (hVs _ hV).vi
theorem keepV {g : Gt} {w : World} {vb lb b info l fc : Nat} {x v : Value} {fa : Option Addr} (h : Cl g w vb #[x, v] 291) (k : Cl g w lb #[.pointer (some ⟨b, 0, none⟩), .pointer (some ⟨info, 0, none⟩), .slice fa l fc] 220) :
 w.cell? ⟨vb, 1, none⟩ = some v ∧ w.cell? ⟨lb, 0, none⟩ = some (.pointer (some ⟨b, 0, none⟩)) ∧ w.cell? ⟨lb, 1, none⟩ = some (.pointer (some ⟨info, 0, none⟩)) ∧ w.cell? ⟨lb, 2, none⟩ = some (.slice fa l fc) :=
 ⟨h.cell 1, k.cell 0, k.cell 1, k.cell 2⟩
set_option maxHeartbeats 8000000 in
theorem children_any {g : Gt} {m vb b fb c0 c1 : Nat} {L : List VRec} {d : It} {w : World} (hg : GOk g m w) (hm : m + 7 < LIM) (hL : L.length < 900000) (ht : VisSt g w vb L) (hnd : NodeAt g w b fb d false [c0, c1]) :
 Calls Tryz.prog 135 #[.pointer (some ⟨vb, 0, none⟩), ptr b] w fun e w' => e = .returned (.tuple #[ptr c0, ptr c1, .bool true]) ∧ FrV g vb w w' ∧ GOk g (m + 7) w' ∧ ∃ r, VisSt g w' vb (L ++ [r]) := by
 have HT := Lib.hid ht
 obtain ⟨v, hvb, hv, hr⟩ := ht
 have htl := hvb.lt
 have hc0 := hvb.cell 0
 unfold ptr
 go_enter Tryz.func135, Tryz.ntmps135
 go_wp2_with fail
 refine (LLX_any hg (by omega) (.inr ⟨rfl, c0, c1, rfl⟩) hnd).mono ?_
 rintro e w1 ⟨info, st, fv, rfl, hF1, hG1, hb1, hsc1, hrow1, hfv1⟩
 obtain ⟨fa, fc, rfl⟩ := hrow1.slice
 have hV := Lib.hid (VOk.of_llx (st := 0) (fin := true) rfl hnd hF1 hb1 hsc1 hrow1)
 have htb1 := hF1.at hvb id
 have hv1 := hv.fr hF1 (fun _ _ h => h)
 have HF := Lib.hid hF1
 clear hb1 hsc1 hrow1 hfv1 hF1 hvb hv hr hc0 hnd
 unfold ptr
 have htbl := htb1.lt
 go_wp2_with fail
 generalize hW : World.alloc _ _ = W2
 have hF2 := Fr.alloc g No w1 (.cells #[.pointer (some ⟨b, 0, none⟩), .pointer (some ⟨info, 0, none⟩), .slice fa 2 fc] 220) hG1
 have hG2 := hG1.alloc (.cells #[.pointer (some ⟨b, 0, none⟩), .pointer (some ⟨info, 0, none⟩), .slice fa 2 fc] 220)
 have hB2 := At.new hG1 (.cells #[.pointer (some ⟨b, 0, none⟩), .pointer (some ⟨info, 0, none⟩), .slice fa 2 fc] 220)
 try simp only [List.length_cons, List.length_nil, Nat.zero_add, Nat.reduceAdd] at hW
 rw [hW] at hF2 hG2 hB2
 have hz2 : w1.heap.size < W2.heap.size := by rw [← hW]; simp
 clear hW
 generalize hlb : w1.heap.size = lb at *
 have HG2 := Lib.hid hG2
 have HB2 := Lib.hid hB2
 have HF2 := Lib.hid hF2
 have hv2 := Lib.hid (hv1.fr hF2 (fun _ _ h => h))
 have htb2 := Lib.hid (hF2.at htb1 id)
 have nv1 : v.ownBlock ≠ some vb := hv2.out.notin htb2.out (by decide)
 have nv2 : v.ownBlock ≠ some lb := fun h => by have := hv1.lt h; omega
 have NV := Lib.hid (And.intro nv1 nv2)
 clear hv1 hF2 hG2 hB2 nv1 nv2
 refine wp_region_X (S := (fun w' => w'.cell? ⟨vb, 1, none⟩ = some v ∧ w'.cell? ⟨lb, 0, none⟩ = some (.pointer (some ⟨b, 0, none⟩)) ∧ w'.cell? ⟨lb, 1, none⟩ = some (.pointer (some ⟨info, 0, none⟩)) ∧ w'.cell? ⟨lb, 2, none⟩ = some (.slice fa 2 fc))) [10] (by kernel_rfl) ?_
 refine tY 0 _ rfl (by kernel_rfl) (fun _ _ _ => id) (keepV htb2.out.drew HB2.out.drew) (by rfl) (by intro wq _; go_simp <;> with_reducible rfl) ?_
 try go_frame
 refine tY 1 _ rfl (by kernel_rfl) (fun _ _ _ => id) (keepV htb2.out.drew HB2.out.drew) (by rfl) (by intro wq _; go_simp <;> with_reducible rfl) ?_
 try go_frame
 refine tY 2 _ rfl (by kernel_rfl) (fun _ _ _ => id) (keepV htb2.out.drew HB2.out.drew) (by rfl) (by intro wq _; go_simp <;> with_reducible rfl) ?_
 try go_frame
 refine tY 3 _ rfl (by kernel_rfl) (fun _ _ _ => id) (keepV htb2.out.drew HB2.out.drew) (by rfl) (by intro wq _; go_simp <;> with_reducible rfl) ?_
 try go_frame
 refine tX 4 _ rfl (by kernel_rfl) (fun _ _ _ => id) (keepV htb2.out.drew HB2.out.drew) (by rfl) (by intro wq hSq; obtain ⟨s0, s1, s2, s3⟩ := hSq; go_simp <;> with_reducible rfl) ?_
 try go_frame
 refine tX 5 _ rfl (by kernel_rfl) (fun _ _ _ => id) (keepV htb2.out.drew HB2.out.drew) (by rfl) (by intro wq hSq; obtain ⟨s0, s1, s2, s3⟩ := hSq; go_simp <;> with_reducible rfl) ?_
 try go_frame
 refine wpAnyX_ready (rs := [6]) (by kernel_rfl) (by simp) ?_
 refine ReadyX.cons rfl (fun K hK => ?_) ?_
 ·go_simp
  refine hK.out _ _ (keepV (fr_d1 HG2.out _ |>.at htb2.out id) (fr_d1 HG2.out _ |>.at HB2.out id)) (fun hS1 => ?_)
  clear hK K
  try go_frame
  refine wpAnyX_ready (rs := [7]) (by kernel_rfl) (by simp) ?_
  refine ReadyX.cons rfl (fun K hK => ?_) ?_
  ·refine step_append_fr (by rfl) _ _ 216 (by rfl) 220 (.agg #[.pointer none, .pointer none, .slice none 0 0]) 3 40 Tryz.underlying216 Tryz.info220 rfl (by decide) (by decide) v L.length (vL L) (by rfl) (HG2.out.alloc _).drew (hv2.out.fr (fr_d1 HG2.out _) (fun _ _ h => h)) ⟨W2.heap.size, 0, none⟩ 1 1 [.pointer (some ⟨b, 0, none⟩), .pointer (some ⟨info, 0, none⟩), .slice fa 2 fc] (by rfl) (by rfl) (news1 (heap_alloc_new W2 _)) (by simp [Value.oneCell']) (by simp only [maxLen]; omega) (by omega) (by decide) ?_
   intro v3 w3 happ
   have hA := app_of happ (fr_d1 HG2.out _)
   have ha2 := hA.1.at htb2.out NV.out.1
   have ha3 := hA.1.at HB2.out NV.out.2
   obtain ⟨b3, cap3, rfl⟩ := hA.2.2.2.1
   have hz1 := ha2.free 1
   have hz3 := ha2.cell 1
   have HA := Lib.hid hA
   clear hA happ
   refine hK.out _ _ (keepV ha2 ha3) (fun hS2 => ?_)
   clear hK K
   try go_frame
   refine tY 8 _ rfl (by kernel_rfl) (fun _ _ _ => id) hS2 (by rfl) (by intro wq _; go_simp <;> with_reducible rfl) ?_
   try go_frame
   refine tY 9 _ rfl (by kernel_rfl) (fun _ _ _ => id) hS2 (by rfl) (by intro wq _; go_simp <;> with_reducible rfl) ?_
   try go_frame
   refine wpAnyX_ready (rs := [10]) (by kernel_rfl) (by simp) ?_
   refine ReadyX.last (x := 10) rfl (by kernel_rfl) (fun K hK => ?_) ?_
   ·go_simp
    refine hK.out _ _ ?_
    clear hK K
    try go_frame
    refine wpAnyX_done (by kernel_rfl) ?_ _
    generalize hW5 : World.setCell _ _ _ = W5
    have hE := vis_end (m := m + 7) (r := ⟨b, fb, d, false, [c0, c1], info, true, .slice fa 2 fc⟩) HT.out HF.out HF2.out hV.out hv2.out hz2 HA.out ha2 ha3 (fun h => by omega) hW5
    have hB5 := hE.1
    have hrw := hE.2.2.2.2.2.2.2.2
    obtain ⟨b0, c00, hb0⟩ := hrw.pos (by simp)
    have hb0' := hb0
    simp only [Value.slice.injEq] at hb0'
    obtain ⟨rfl, _, rfl⟩ := hb0'
    have f0 : W5.cell? ⟨b0, 0, none⟩ = some (.pointer (some ⟨c0, 0, none⟩)) := by rw [hrw.cell 0 (by simp)]; rfl
    have f1 : W5.cell? ⟨b0, 1, none⟩ = some (.pointer (some ⟨c1, 0, none⟩)) := by rw [hrw.cell 1 (by simp)]; rfl
    have HE := Lib.hid (And.intro hE.2.1 (And.intro hE.2.2.1 hE.2.2.2.1))
    clear hE hW5 hrw hb0
    have e0 := hB5.cell 0
    have e1 := hB5.cell 1
    have e2 := hB5.cell 2
    clear hS1 hS2 hz1 hz3 ha2 ha3
    go_wp2_with fail
    first | go_region | skip
    go_wp2_with fail
    obtain ⟨h1, h2, h3⟩ := HE.out
    go_ret3
    exact ⟨rfl, h1.trans (h3.frV (Fr.drew g No _)), h2.drew, _, h3.fr0 (Fr.drew g No _)⟩
   exact ReadyX.nil
  exact ReadyX.nil
 exact ReadyX.nil
end Go.Proofs.YtdmobhndbibhoaaGreat
