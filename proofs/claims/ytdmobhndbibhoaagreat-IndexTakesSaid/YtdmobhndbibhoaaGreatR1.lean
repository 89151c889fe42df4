/- The document's answers for lists of pairs, and for iterators; no program here. -/
import Derived.Test.YtdmobhndbibhoaaGreatC1
import Derived.Test.YtdmobhndbibhoaaGreatD2
namespace Larch
set_option linter.unusedVariables false
set_option linter.unusedSimpArgs false
def wGo (k v : Int) : Bool → List (Int × Int) → List (Int × Int)
 | done, [] => if done then [] else [(k, v)]
 | done, p :: m => (if done = false ∧ k ≤ p.1 then [(k, v)] else []) ++ ((if p.1 = k then [] else [p]) ++ wGo k v (done || decide (k ≤ p.1)) m)
theorem wGo_true (k v : Int) : ∀ m, wGo k v true m = delL k m := by
 intro m
 induction m with
 | nil => rfl
 | cons p m ih =>
   have e : wGo k v true (p :: m) = (if p.1 = k then [] else [p]) ++ wGo k v true m := by simp [wGo]
   rw [e, ih]
   simp only [delL, List.filter_cons]
   by_cases h : p.1 = k <;> simp [h]
theorem wGo_false (k v : Int) : ∀ {m}, Srt m → wGo k v false m = insL k v m := by
 intro m
 induction m with
 | nil => intro _; rfl
 | cons p m ih =>
   intro hs
   have hs' := (List.pairwise_cons.1 hs).2
   have hp := (List.pairwise_cons.1 hs).1
   by_cases h : k ≤ p.1
   ·have e : wGo k v false (p :: m) = (k, v) :: ((if p.1 = k then [] else [p]) ++ wGo k v true m) := by simp [wGo, h]
    have e1 : m.filter (fun q => decide (q.1 < k)) = [] := filter_none (fun q hq => by have := hp q hq; simp; omega)
    have e2 : m.filter (fun q => decide (k < q.1)) = m := filter_all (fun q hq => by have := hp q hq; simp; omega)
    have e3 : delL k m = m := filter_all (fun q hq => by have := hp q hq; simp; omega)
    rw [e, wGo_true, e3]
    simp only [insL, List.filter_cons, e1, e2]
    have h1 : ¬ p.1 < k := by omega
    by_cases h2 : p.1 = k
    ·have : ¬ k < p.1 := by omega
     simp [h1, h2, this]
    ·have : k < p.1 := by omega
     simp [h1, h2, this]
   ·have h1 : p.1 < k := by omega
    have h2 : ¬ p.1 = k := by omega
    have h3 : ¬ k < p.1 := by omega
    have e : wGo k v false (p :: m) = p :: wGo k v false m := by simp [wGo, h, h2]
    rw [e, ih hs']
    simp [insL, List.filter_cons, h1, h3]
theorem insL_srt {k v : Int} {m : List (Int × Int)} (h : Srt m) : Srt (insL k v m) := by
 unfold Srt insL
 rw [List.pairwise_append]
 refine ⟨h.filter _, ?_, ?_⟩
 ·rw [List.pairwise_cons]
  exact ⟨fun q hq => by have := (List.mem_filter.1 hq).2; simpa using this, h.filter _⟩
 ·intro a ha b hb
  have h1 : a.1 < k := by have := (List.mem_filter.1 ha).2; simpa using this
  rcases List.mem_cons.1 hb with rfl | hb
  ·exact h1
  ·have h2 : k < b.1 := by have := (List.mem_filter.1 hb).2; simpa using this
   omega
def fitU (key : Int) (op : Bool) (p : Int × Int) : Bool := decide (key < p.1) || (decide (p.1 = key) && !op)
def fitD (key : Int) (op : Bool) (p : Int × Int) : Bool := decide (p.1 < key) || (decide (p.1 = key) && !op)
def nxtU (key : Int) (op : Bool) (m : List (Int × Int)) : Option (Int × Int) := m.find? (fitU key op)
def nxtD (key : Int) (op : Bool) (m : List (Int × Int)) : Option (Int × Int) := (m.filter (fitD key op)).getLast?
def goU (key : Int) (op : Bool) : Option (Int × Int) → List (Int × Int) → Option (Int × Int)
 | a, [] => a
 | a, p :: m => goU key op (if fitU key op p = true ∧ a = none then some p else a) m
def goD (key : Int) (op : Bool) : Option (Int × Int) → List (Int × Int) → Option (Int × Int)
 | a, [] => a
 | a, p :: m => goD key op (if fitD key op p = true then some p else a) m
theorem goU_some (key : Int) (op : Bool) (q : Int × Int) : ∀ m, goU key op (some q) m = some q := by
 intro m
 induction m with
 | nil => rfl
 | cons p m ih => simp [goU, ih]
theorem goU_none (key : Int) (op : Bool) : ∀ m, goU key op none m = nxtU key op m := by
 intro m
 induction m with
 | nil => rfl
 | cons p m ih =>
   simp only [goU, nxtU, List.find?_cons] at *
   cases h : fitU key op p
   ·simpa using ih
   ·simp [goU_some]
theorem goD_eq (key : Int) (op : Bool) : ∀ m a, goD key op a m = ((nxtD key op m).or a) := by
 intro m
 induction m with
 | nil => intro a; simp [goD, nxtD]
 | cons p m ih =>
   intro a
   simp only [goD, ih, nxtD, List.filter_cons]
   cases h : fitD key op p
   ·simp
   ·simp only [if_pos]
    cases hf : m.filter (fitD key op) with
    | nil => simp
    | cons q r =>
      obtain ⟨z, hz⟩ : ∃ z, (q :: r).getLast? = some z := ⟨_, List.getLast?_eq_some_getLast (by simp)⟩
      rw [List.getLast?_cons_cons, hz]; rfl
theorem goD_none (key : Int) (op : Bool) (m : List (Int × Int)) : goD key op none m = nxtD key op m := by rw [goD_eq]; simp
theorem nxtU_open (key : Int) (m : List (Int × Int)) : nxtU key true m = succL key m := by
 have : fitU key true = fun p => decide (key < p.1) := by funext p; simp [fitU]
 simp only [nxtU, succL, this]
theorem nxtD_open (key : Int) (m : List (Int × Int)) : nxtD key true m = predL key m := by
 have : fitD key true = fun p => decide (p.1 < key) := by funext p; simp [fitD]
 simp only [nxtD, predL, this]
theorem nxtU_at (key : Int) (m : List (Int × Int)) : nxtU key false m = succL (key - 1) m := by
 have : fitU key false = fun p => decide (key - 1 < p.1) := by funext p; simp only [fitU, Bool.not_false, Bool.and_true]; rw [Bool.eq_iff_iff]; simp; omega
 simp only [nxtU, succL, this]
theorem nxtD_at (key : Int) (m : List (Int × Int)) : nxtD key false m = predL (key + 1) m := by
 have : fitD key false = fun p => decide (p.1 < key + 1) := by funext p; simp only [fitD, Bool.not_false, Bool.and_true]; rw [Bool.eq_iff_iff]; simp; omega
 simp only [nxtD, predL, this]
theorem nxtU_min {key : Int} {m : List (Int × Int)} (h : ∀ p ∈ m, key ≤ p.1) : nxtU key false m = m.head? := by
 refine find_head (fun p hp => ?_)
 have := h p hp
 simp only [fitU, Bool.not_false, Bool.and_true, Bool.or_eq_true, decide_eq_true_eq]; omega
theorem nxtD_max {key : Int} {m : List (Int × Int)} (h : ∀ p ∈ m, p.1 ≤ key) : nxtD key false m = m.getLast? := by
 have : m.filter (fitD key false) = m := filter_all (fun p hp => by
  have := h p hp
  simp only [fitD, Bool.not_false, Bool.and_true, Bool.or_eq_true, decide_eq_true_eq]; omega)
 simp only [nxtD, this]
structure Lp where
 way : Int
 list : List (Int × Int)
 key : Int
 op : Bool
def lpO (l : Lp) (m : List (Int × Int)) : Option (Int × Int) :=
 if l.way = 1 then l.list.head? else if l.way = 3 then nxtD l.key l.op m else nxtU l.key l.op m
def lpN (l : Lp) (m : List (Int × Int)) : Lp :=
 if l.way = 1 then ⟨l.way, l.list.tail, l.key, l.op⟩ else ⟨l.way, l.list, ((lpO l m).getD (0, 0)).1, true⟩
def takeN (m : List (Int × Int)) : Nat → Lp → List (Int × Int)
 | 0, _ => []
 | n + 1, l => match lpO l m with
   | none => []
   | some p => p :: takeN m n (lpN l m)
theorem takeN_len (m : List (Int × Int)) : ∀ n l, (takeN m n l).length ≤ n := by
 intro n
 induction n with
 | zero => intro l; simp [takeN]
 | succ n ih =>
   intro l
   simp only [takeN]
   split
   ·simp
   ·simp only [List.length_cons]; have := ih (lpN l m); omega
end Larch
namespace Go.Proofs.YtdmobhndbibhoaaGreat
open Go.RowKit Larch
set_option maxRecDepth 100000
set_option linter.unusedVariables false
set_option linter.unusedSimpArgs false
attribute [local go_sem ↓] Go.wp_at_zero Go.wp_at_succ
def Sl (g : Gt) (w : World) (size : Nat) (v : Value) (n : Nat) (xs : List Value) : Prop :=
 xs.length = n * size ∧ ∃ a c, v = .slice a n c ∧ n ≤ c ∧ (0 < n → ∃ b off, a = some ⟨b, off, none⟩ ∧ (g.no b ∨ ¬ GBlk g w b) ∧ ∀ j, j < n * size → w.cell? ⟨b, off + j, none⟩ = xs[j]?)
section
variable {g : Gt} {w w' : World} {size n : Nat} {v : Value} {xs : List Value}
theorem lt_of_cell {b i : Nat} {u : Value} (h : w.cell? ⟨b, i, none⟩ = some u) : b < w.heap.size := by
 unfold World.cell? at h
 cases ho : w.heap[b]? with
 | none => simp [ho] at h
 | some o => exact lt_of_heap ho
theorem Sl.fr {S : Nat → Prop} (h : Sl g w size v n xs) (f : Fr g S w w') (hs : ∀ b, v.ownBlock = some b → g.no b ∨ ¬ S b) (hz : 0 < size) : Sl g w' size v n xs := by
 obtain ⟨h1, a, c, rfl, hc, h3⟩ := h
 refine ⟨h1, a, c, rfl, hc, fun hn => ?_⟩
 obtain ⟨b, off, rfl, e2, e3⟩ := h3 hn
 have hp : 0 < n * size := Nat.mul_pos hn hz
 have hlt : b < w.heap.size := by
  have := e3 0 hp
  rw [List.getElem?_eq_getElem (by omega)] at this
  exact lt_of_cell this
 have hk : w'.heap[b]? = w.heap[b]? := by
  by_cases hno : g.no b
  ·exact f.old b hno
  ·exact f.keep b hlt (e2.resolve_left hno) ((hs b rfl).resolve_left hno)
 refine ⟨b, off, rfl, ?_, fun j hj => (cell_heap hk).trans (e3 j hj)⟩
 rcases e2 with h | h
 ·exact .inl h
 ·exact .inr (fun k => (f.gate b k).elim h (fun h' => by omega))
theorem Sl.fr0 (h : Sl g w size v n xs) (f : Fr g No w w') (hz : 0 < size) : Sl g w' size v n xs := h.fr f (fun _ _ => .inr id) hz
theorem Row.sl {e : TypeId} (h : Row g w e size v n xs) : Sl g w size v n xs := by
 refine ⟨h.1, ?_⟩
 rcases h.2 with ⟨rfl, rfl⟩ | ⟨b, cap, cur, rfl, h2, h3, h4, h5, h6⟩
 ·exact ⟨_, _, rfl, Nat.le_refl _, fun h => by omega⟩
 ·exact ⟨_, _, rfl, h2, fun hn => ⟨b, 0, rfl, .inr h4.2, fun j hj => by rw [Nat.zero_add]; exact h.cell j hj⟩⟩
theorem Sl.slice (h : Sl g w size v n xs) : ∃ a c, v = .slice a n c ∧ n ≤ c := by
 obtain ⟨_, a, c, h2, h3, _⟩ := h; exact ⟨a, c, h2, h3⟩
theorem Sl.at {a : Option Addr} {c : Nat} (h : Sl g w size (.slice a n c) n xs) (hn : 0 < n) : ∃ b off, a = some ⟨b, off, none⟩ ∧ ∀ j, j < n * size → w.cell? ⟨b, off + j, none⟩ = xs[j]? := by
 obtain ⟨h1, a', c1, h2, _, h3⟩ := h
 simp only [Value.slice.injEq] at h2
 obtain ⟨rfl, _, rfl⟩ := h2
 obtain ⟨b, off, e1, _, e3⟩ := h3 hn
 exact ⟨b, off, e1, e3⟩
end
theorem Sl.pair {g : Gt} {w : World} {n k : Nat} {a : Option Addr} {c : Nat} {ps : List (Int × Int)} {p : Int × Int} (h : Sl g w 2 (.slice a n c) n (pV ps)) (hp : ps[k]? = some p) :
 ∃ b off, a = some ⟨b, off, none⟩ ∧ w.cell? ⟨b, off + k * 2, none⟩ = some (.int .i64 p.1) ∧ w.cell? ⟨b, off + k * 2 + 1, none⟩ = some (.int .i64 p.2) := by
 have hl := h.1
 rw [pV_len2] at hl
 have hk := (List.getElem?_eq_some_iff.1 hp).1
 obtain ⟨b, off, e1, e3⟩ := h.at (by omega)
 refine ⟨b, off, e1, ?_, ?_⟩
 ·rw [e3 (k * 2) (by omega), pV_get0 hp]
 ·rw [Nat.add_assoc, e3 (k * 2 + 1) (by omega), pV_get1 hp]
theorem Sl.len {g : Gt} {w : World} {n : Nat} {v : Value} {ps : List (Int × Int)} (h : Sl g w 2 v n (pV ps)) : ps.length = n := by
 have := h.1; rw [pV_len2] at this; omega
theorem pV_snoc (o : List (Int × Int)) (p : Int × Int) : pV o ++ [.int .i64 p.1, .int .i64 p.2] = pV (o ++ [p]) := by simp [pV]
theorem wpA {g : Gt} {m n : Nat} {W : World} {v : Value} {p q : Int} {ps : List (Int × Int)} {ops : Array Oper} {rest : List Oper} {o : Oper} {a : Act} {Q : Exit → Act → World → Prop} (hgd : o.guard = none) (s x : Operand)
 (ho : o.op = .call { callee := .builtin .append, args := #[s, x], argTypes := #[22, 22] })
 (hG : GOk g m W) (hR : Row g W 49 2 v n (pV ps)) (hn : n ≤ 1000000000) (hs : a.eval s = v) (hx : a.eval x = .slice (some ⟨W.heap.size, 0, none⟩) 1 1)
 (h : ∀ b cap w', Fr g (fun c => v.ownBlock = some c) W w' → GOk g m w' → Row g w' 49 2 (.slice (some ⟨b, 0, none⟩) (n + 1) cap) (n + 1) (pV (ps ++ [(p, q)])) → (v.ownBlock = some b ∨ W.heap.size ≤ b) →
   wpList Tryz.prog ops Q rest (a.put o.dst (.slice (some ⟨b, 0, none⟩) (n + 1) cap)) w') :
 wpList Tryz.prog ops Q (o :: rest) a (W.alloc (.cells #[.int .i64 p, .int .i64 q] 49)) := by
 refine wpList_append_fr hgd s x 22 ho 49 (.agg #[.int .i64 0, .int .i64 0]) 2 16 Tryz.underlying22 Tryz.info49 rfl (by decide) (by decide) (hG.alloc _) v n (pV ps) hs (hR.fr (Fr.alloc g No W _ hG) (fun _ _ h => h)) ⟨W.heap.size, 0, none⟩ 1 1 [.int .i64 p, .int .i64 q] hx rfl
  (news1 (heap_alloc_new W _)) (by simp [Value.oneCell']) (by simp only [maxLen]; omega) (by omega) (by decide) ?_
 intro v' w' happ
 obtain ⟨A1, A2, A3, ⟨b, cap, rfl⟩, A5⟩ := app_of happ (Fr.alloc g No W _ hG)
 exact h b cap w' A1 A2 (by rw [← pV_snoc]; exact A3) (A5 b rfl)
theorem wGo_len (k v : Int) : ∀ (m : List (Int × Int)) (d : Bool), (wGo k v d m).length ≤ 2 * m.length + 1 := by
 intro m
 induction m with
 | nil => intro d; cases d <;> simp [wGo]
 | cons p m ih =>
   intro d
   have := ih (d || decide (k ≤ p.1))
   simp only [wGo, List.length_append, List.length_cons]
   split <;> split <;> simp <;> omega
def WithSt (g : Gt) (m : Nat) (key val : Int) (drop : Bool) (xs : List (Int × Int)) (w : World) (k : Nat) (v9 : Value) (dn : Bool) (wr : World) : Prop :=
 ∃ o : List (Int × Int), Row g wr 49 2 v9 o.length (pV o) ∧ Fr g No w wr ∧ GOk g m wr ∧ (∀ b, v9.ownBlock = some b → w.heap.size ≤ b) ∧ o ++ wGo key val dn (xs.drop k) = wGo key val drop xs
theorem drop_at {α : Type} {xs : List α} {k : Nat} {p : α} (h : xs[k]? = some p) : xs.drop k = p :: xs.drop (k + 1) := by
 obtain ⟨hl, rfl⟩ := List.getElem?_eq_some_iff.1 h
 exact List.drop_eq_getElem_cons hl
theorem WithSt.put {g : Gt} {w wr w' : World} {v9 : Value} {o : List (Int × Int)} {b cap : Nat} (hF : Fr g No w wr) (hn : ∀ b, v9.ownBlock = some b → w.heap.size ≤ b)
 (A1 : Fr g (fun c => v9.ownBlock = some c) wr w') (A4 : v9.ownBlock = some b ∨ wr.heap.size ≤ b) : Fr g No w w' ∧ ∀ c, (Value.slice (some ⟨b, 0, none⟩) (o.length + 1) cap).ownBlock = some c → w.heap.size ≤ c := by
 refine ⟨hF.trans A1 (fun _ _ h => h) (fun c hc h => ?_), fun c hc => ?_⟩
 ·have := hn c h; omega
 ·obtain rfl : b = c := by simpa [Value.ownBlock] using hc
  rcases A4 with h | h
  ·exact hn _ h
  ·exact Nat.le_trans hF.size h
end Go.Proofs.YtdmobhndbibhoaaGreat
