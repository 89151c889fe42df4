/- The words in which the walks speak of memory: the gate, blocks that are the gate's, what a call leaves as it was. -/
import Derived.Test.YtdmobhndbibhoaaGreatProg
import Derived.WalkKit
import Derived.WalkSpells
import Derived.WalkLawsBesides
import Derived.Deep.RegionWith
import Derived.Deep.QuietTactic
import Derived.BigQuiet
import Derived.StillTailTactics
import Derived.Deep.RegionHeld3
import Derived.Lib.Hide
import Derived.Deep.DeepFit
import Derived.KernelRfl
import Derived.Laws.LoneSync
namespace Go.Proofs.YtdmobhndbibhoaaGreat
set_option linter.unusedVariables false
set_option linter.unusedSimpArgs false
open Go.RowKit
structure Gt where
 gt : Option Nat
 no : Nat → Prop
def gval (g : Gt) : Value :=
 match g.gt with
 | none => .nilIface
 | some gb => .iface 46 (.pointer (some ⟨gb, 0, none⟩))
def GBlk (g : Gt) (w : World) (b : Nat) : Prop :=
 g.no b ∨ match g.gt with
 | none => False
 | some gb => b = gb ∨ ∃ v, w.heap[gb]? = some (.cells #[v] 109 (0, 0)) ∧ v.ownBlock = some b
def LIM : Nat := 1099511627776
def GOk (g : Gt) (n : Nat) (w : World) : Prop :=
 (∀ b, g.no b → b < w.heap.size) ∧ match g.gt with
 | none => True
 | some gb => ∃ v k xs, w.heap[gb]? = some (.cells #[v] 109 (0, 0)) ∧ w.ownsRow 0 3 1 v k xs ∧ k ≤ n ∧ ¬ g.no gb ∧ ∀ b, v.ownBlock = some b → ¬ g.no b
def At (g : Gt) (w : World) (b : Nat) (o : Obj) : Prop := w.heap[b]? = some o ∧ ¬ GBlk g w b
def IsRec (w : World) (b : Nat) : Prop := ∃ cs, w.heap[b]? = some (.cells cs 209 (0, 0)) ∧ cs.size = 8
def IsScx (w : World) (b : Nat) : Prop := ∃ cs, w.heap[b]? = some (.cells cs 278 (0, 0)) ∧ cs.size = 9
def No : Nat → Prop := fun _ => False
structure Fr (g : Gt) (S : Nat → Prop) (w w' : World) : Prop where
 os : w'.os = w.os
 tape : w'.tape = w.tape
 output : w'.output = w.output
 size : w.heap.size ≤ w'.heap.size
 keep : ∀ b, b < w.heap.size → ¬ GBlk g w b → ¬ S b → w'.heap[b]? = w.heap[b]?
 gate : ∀ b, GBlk g w' b → GBlk g w b ∨ w.heap.size ≤ b
 data : ∀ (b : Nat) (cs : Array Value), w.heap[b]? = some (.cells cs 209 (0, 0)) → cs.size = 8 → ∃ cs' : Array Value, w'.heap[b]? = some (.cells cs' 209 (0, 0)) ∧ cs'.size = 8 ∧ cs'[3]? = cs[3]?
 isScx : ∀ b, IsScx w b → IsScx w' b
 old : ∀ b, g.no b → w'.heap[b]? = w.heap[b]?
theorem Fr.isRec {g : Gt} {S : Nat → Prop} {w w' : World} (h : Fr g S w w') (b : Nat) (hb : IsRec w b) : IsRec w' b := by
 obtain ⟨cs, h1, h2⟩ := hb; obtain ⟨cs', k1, k2, _⟩ := h.data b cs h1 h2; exact ⟨cs', k1, k2⟩
theorem lt_of_heap {w : World} {b : Nat} {o : Obj} (h : w.heap[b]? = some o) : b < w.heap.size := (Array.getElem?_eq_some_iff.1 h).1
theorem At.lt {g : Gt} {w : World} {b : Nat} {o : Obj} (h : At g w b o) : b < w.heap.size := lt_of_heap h.1
theorem Fr.refl (g : Gt) (S : Nat → Prop) (w : World) : Fr g S w w := ⟨rfl, rfl, rfl, Nat.le_refl _, fun _ _ _ _ => rfl, fun _ h => .inl h, fun _ cs h k => ⟨cs, h, k, rfl⟩, fun _ h => h, fun _ _ => rfl⟩
theorem Fr.at {g : Gt} {S : Nat → Prop} {w w' : World} {b : Nat} {o : Obj} (h : Fr g S w w') (ha : At g w b o) (hs : ¬ S b) : At g w' b o :=
 ⟨(h.keep b ha.lt ha.2 hs).trans ha.1, fun hg => (h.gate b hg).elim ha.2 (fun h' => by have := ha.lt; omega)⟩
theorem Fr.trans {g : Gt} {S S' T : Nat → Prop} {w w' w'' : World} (h : Fr g S w w') (k : Fr g S' w' w'')
 (hs : ∀ b, b < w.heap.size → S b → T b) (hs' : ∀ b, b < w.heap.size → S' b → T b) : Fr g T w w'' :=
 ⟨k.os.trans h.os, k.tape.trans h.tape, k.output.trans h.output, Nat.le_trans h.size k.size,
  fun b hb hg ht => (k.keep b (Nat.lt_of_lt_of_le hb h.size) (fun hg' => (h.gate b hg').elim hg (fun h' => by omega)) (fun h' => ht (hs' b hb h'))).trans (h.keep b hb hg (fun h' => ht (hs b hb h'))),
  fun b hb => (k.gate b hb).elim (fun h' => h.gate b h') (fun h' => .inr (Nat.le_trans h.size h')),
  fun b cs h1 h2 => by obtain ⟨cs1, a1, a2, a3⟩ := h.data b cs h1 h2; obtain ⟨cs2, b1, b2, b3⟩ := k.data b cs1 a1 a2; exact ⟨cs2, b1, b2, b3.trans a3⟩, fun b hb => k.isScx b (h.isScx b hb), fun b hb => (k.old b hb).trans (h.old b hb)⟩
theorem Fr.mono {g : Gt} {S T : Nat → Prop} {w w' : World} (h : Fr g S w w') (hs : ∀ b, b < w.heap.size → S b → T b) : Fr g T w w' :=
 h.trans (Fr.refl g T w') hs (fun _ _ h => h)
theorem Fr.tr {g : Gt} {S : Nat → Prop} {w w' w'' : World} (h : Fr g S w w') (k : Fr g S w' w'') : Fr g S w w'' :=
 h.trans k (fun _ _ h => h) (fun _ _ h => h)
theorem GOk.mono {g : Gt} {n m : Nat} {w : World} (h : GOk g n w) (hm : n ≤ m) : GOk g m w := by
 obtain ⟨h0, h⟩ := h
 refine ⟨h0, ?_⟩
 revert h
 cases g.gt with
 | none => exact fun h => h
 | some gb => rintro ⟨v, k, xs, h1, h2, h3, h4, h5⟩; exact ⟨v, k, xs, h1, h2, by omega, h4, h5⟩
theorem GOk.lt {g : Gt} {n : Nat} {w : World} (h : GOk g n w) {b : Nat} (hb : GBlk g w b) : b < w.heap.size := by
 obtain ⟨h0, h⟩ := h
 rcases hb with hb | hb
 ·exact h0 b hb
 ·revert h hb
  cases g.gt with
  | none => exact fun _ hb => hb.elim
  | some gb =>
    rintro ⟨v, k, xs, h1, h2, h3⟩ hb
    rcases hb with rfl | ⟨u, hu, hv⟩
    ·exact lt_of_heap h1
    ·rw [h1] at hu
     have : v = u := by simpa using hu
     subst this
     exact (h2.lt b hv).2
theorem GBlk_same {g : Gt} {w w' : World} (h : ∀ b, GBlk g w b → w'.heap[b]? = w.heap[b]?) (b : Nat) : GBlk g w' b ↔ GBlk g w b := by
 unfold GBlk at *
 revert h
 cases g.gt with
 | none => exact fun _ => Iff.rfl
 | some gb =>
   intro h
   have := h gb (.inr (.inl rfl))
   simp only [this]
theorem GOk.same {g : Gt} {n : Nat} {w w' : World} (hg : GOk g n w) (h : ∀ b, GBlk g w b → w'.heap[b]? = w.heap[b]?) (hs : w.heap.size ≤ w'.heap.size) : GOk g n w' := by
 obtain ⟨h0, hg⟩ := hg
 refine ⟨fun b hb => Nat.lt_of_lt_of_le (h0 b hb) hs, ?_⟩
 unfold GBlk at h
 revert hg h
 cases g.gt with
 | none => exact fun _ _ => trivial
 | some gb =>
   rintro h ⟨v, k, xs, h1, h2, h3⟩
   refine ⟨v, k, xs, (h gb (.inr (.inl rfl))).trans h1, ⟨h2.1, ?_⟩, h3⟩
   rcases h2.2 with hn | ⟨b, cap, cur, rfl, hb, hgg, rest⟩
   ·exact .inl hn
   ·exact .inr ⟨b, cap, cur, rfl, hb, (h b (.inr (.inr ⟨_, h1, rfl⟩))).trans hgg, rest⟩
theorem Fr.alloc (g : Gt) (S : Nat → Prop) (w : World) (o : Obj) {n : Nat} (hg : GOk g n w) : Fr g S w (w.alloc o) := by
 have hold : ∀ b, b < w.heap.size → (w.alloc o).heap[b]? = w.heap[b]? := fun b hb => Below.heap_alloc w o b hb
 refine ⟨rfl, rfl, rfl, by simp, fun b hb _ _ => hold b hb, fun b hb => .inl ((GBlk_same (fun b hb => hold b (hg.lt hb)) b).1 hb), ?_, ?_, fun b hb => hold b (hg.1 b hb)⟩
 ·intro b cs h hs; exact ⟨cs, (hold b (lt_of_heap h)).trans h, hs, rfl⟩
 ·rintro b ⟨cs, h, hs⟩; exact ⟨cs, (hold b (lt_of_heap h)).trans h, hs⟩
theorem GOk.alloc {g : Gt} {w : World} {n : Nat} (hg : GOk g n w) (o : Obj) : GOk g n (w.alloc o) :=
 hg.same (fun b hb => Below.heap_alloc w o b (hg.lt hb)) (by simp)
theorem At.new {g : Gt} {w : World} {n : Nat} (hg : GOk g n w) (o : Obj) : At g (w.alloc o) w.heap.size o :=
 ⟨heap_alloc_new w o, fun hb => by
  have := hg.lt ((GBlk_same (fun b hb => Below.heap_alloc w o b (hg.lt hb)) _).1 hb); omega⟩
theorem Fr.drew (g : Gt) (S : Nat → Prop) (w : World) : Fr g S w w.drew := ⟨rfl, rfl, rfl, Nat.le_refl _, fun _ _ _ _ => rfl, fun _ h => .inl h, fun _ cs h k => ⟨cs, h, k, rfl⟩, fun _ h => h, fun _ _ => rfl⟩
theorem GOk.drew {g : Gt} {w : World} {n : Nat} (hg : GOk g n w) : GOk g n w.drew := hg.same (fun _ _ => rfl) (Nat.le_refl _)
theorem At.drew {g : Gt} {w : World} {b : Nat} {o : Obj} (h : At g w b o) : At g w.drew b o := (Fr.drew g No w).at h id
abbrev g00 : Gt := ⟨none, fun _ => False⟩
theorem no00 {w : World} {b : Nat} : ¬ GBlk g00 w b := fun h => h.elim id id
theorem ok00 {w : World} {n : Nat} : GOk g00 n w := ⟨fun _ h => h.elim, trivial⟩
theorem At.alloc {g : Gt} {w : World} {n : Nat} (hg : GOk g n w) {b : Nat} {o : Obj} (h : At g w b o) (o' : Obj) : At g (w.alloc o') b o :=
 (Fr.alloc g No w o' hg).at h id
theorem setCell_block {w : World} {b : Nat} {cs : Array Value} {T : TypeId} (h : w.heap[b]? = some (.cells cs T (0, 0))) (i : Nat) (v : Value) :
 (w.setCell ⟨b, i, none⟩ v).heap[b]? = some (.cells (cs.setIfInBounds i v) T (0, 0)) := heap_setCell_same w b i cs T v h
theorem setCell_other {w : World} {b c i : Nat} {v : Value} (h : c ≠ b) : (w.setCell ⟨b, i, none⟩ v).heap[c]? = w.heap[c]? := heap_setCell_other w ⟨b, i, none⟩ c v h
section
variable {g : Gt} {w : World} {n b : Nat} {cs : Array Value} {T : TypeId}
theorem Fr.setCell (S : Nat → Prop) (h : At g w b (.cells cs T (0, 0))) (i : Nat) (v : Value) (hs : S b) (h3 : T = 209 → i ≠ 3) : Fr g S w (w.setCell ⟨b, i, none⟩ v) := by
 have hold : ∀ c, c ≠ b → (w.setCell ⟨b, i, none⟩ v).heap[c]? = w.heap[c]? := fun _ hc => setCell_other hc
 have hg : ∀ c, GBlk g w c → (w.setCell ⟨b, i, none⟩ v).heap[c]? = w.heap[c]? := fun c hc => hold c (by rintro rfl; exact h.2 hc)
 refine ⟨rfl, rfl, rfl, by simp, fun c hc _ hn => hold c (fun e => hn (e ▸ hs)), fun c hc => .inl ((GBlk_same hg c).1 hc), ?_, ?_, fun c hc => hold c (by rintro rfl; exact h.2 (.inl hc))⟩
 ·intro c ds hd hz
  by_cases e : c = b
  ·subst e; rw [h.1] at hd; cases hd; exact ⟨_, setCell_block h.1 i v, by simpa using hz, Array.getElem?_setIfInBounds_ne (h3 rfl)⟩
  ·exact ⟨ds, (hold c e).trans hd, hz, rfl⟩
 ·rintro c ⟨ds, hd, hz⟩
  by_cases e : c = b
  ·subst e; rw [h.1] at hd; cases hd; exact ⟨_, setCell_block h.1 i v, by simpa using hz⟩
  ·exact ⟨ds, (hold c e).trans hd, hz⟩
theorem GOk.setCell (hg : GOk g n w) (h : At g w b (.cells cs T (0, 0))) (i : Nat) (v : Value) : GOk g n (w.setCell ⟨b, i, none⟩ v) :=
 hg.same (fun c hc => setCell_other (by rintro rfl; exact h.2 hc)) (by simp)
theorem At.setCell (h : At g w b (.cells cs T (0, 0))) (i : Nat) (v : Value) : At g (w.setCell ⟨b, i, none⟩ v) b (.cells (cs.setIfInBounds i v) T (0, 0)) :=
 ⟨setCell_block h.1 i v, fun hb => h.2 ((GBlk_same (fun c hc => setCell_other (by rintro rfl; exact h.2 hc)) b).1 hb)⟩
theorem At.cell (h : At g w b (.cells cs T (0, 0))) (i : Nat) : w.cell? ⟨b, i, none⟩ = cs[i]? := cell_of_row w b i cs T (0, 0) h.1
theorem At.free (h : At g w b (.cells cs T (0, 0))) (i : Nat) : w.frozen? ⟨b, i, none⟩ = false := frozen_of_row w b i cs T h.1
end
theorem IsRec.lt {w : World} {b : Nat} (h : IsRec w b) : b < w.heap.size := by obtain ⟨cs, h, _⟩ := h; exact lt_of_heap h
theorem IsScx.lt {w : World} {b : Nat} (h : IsScx w b) : b < w.heap.size := by obtain ⟨cs, h, _⟩ := h; exact lt_of_heap h
theorem Tryz.info3 : (Tryz.prog.info? 3).map (fun i => (i.zero, i.size, i.bytes)) = some (some (.int .i64 0), 1, 8) := by kernel_rfl
end Go.Proofs.YtdmobhndbibhoaaGreat
namespace Go.Proofs.YtdmobhndbibhoaaGreat
set_option linter.unusedVariables false
set_option linter.unusedSimpArgs false
open Go.RowKit
section ext
theorem n318 : (Tryz.f318.name == "runtime.NumGoroutine") = false := by kernel_rfl
theorem x318 : Extern.findNext Tryz.f318 = none := by kernel_rfl
theorem e318 : Extern.find Tryz.f318 = some (Extern.Atomic.loadT .ptr) := by kernel_rfl
theorem n261 : (Tryz.f261.name == "runtime.NumGoroutine") = false := by kernel_rfl
theorem x261 : Extern.findNext Tryz.f261 = none := by kernel_rfl
theorem e261 : Extern.find Tryz.f261 = some Extern.Atomic.storeT := by kernel_rfl
theorem n262 : (Tryz.f262.name == "runtime.NumGoroutine") = false := by kernel_rfl
theorem x262 : Extern.findNext Tryz.f262 = none := by kernel_rfl
theorem e262 : Extern.find Tryz.f262 = some Extern.Atomic.storeT := by kernel_rfl
theorem n319 : (Tryz.f319.name == "runtime.NumGoroutine") = false := by kernel_rfl
theorem x319 : Extern.findNext Tryz.f319 = none := by kernel_rfl
theorem e319 : Extern.find Tryz.f319 = some (Extern.Atomic.loadT (.int .u32)) := by kernel_rfl
theorem n320 : (Tryz.f320.name == "runtime.NumGoroutine") = false := by kernel_rfl
theorem x320 : Extern.findNext Tryz.f320 = none := by kernel_rfl
theorem e320 : Extern.find Tryz.f320 = some (Extern.Atomic.loadT (.int .i64)) := by kernel_rfl
theorem n325 : (Tryz.f325.name == "runtime.NumGoroutine") = false := by kernel_rfl
theorem x325 : Extern.findNext Tryz.f325 = none := by kernel_rfl
theorem e325 : Extern.find Tryz.f325 = some (Extern.Atomic.casT .ptr) := by kernel_rfl
theorem n326 : (Tryz.f326.name == "runtime.NumGoroutine") = false := by kernel_rfl
theorem x326 : Extern.findNext Tryz.f326 = none := by kernel_rfl
theorem e326 : Extern.find Tryz.f326 = some Extern.Atomic.storeT := by kernel_rfl
end ext
set_option maxRecDepth 100000
theorem run318 {a : Addr} {v : Option Addr} {w : World} (hc : w.cell? a = some (.pointer v)) :
 (callFunc 318 #[.pointer (some a)]).run Tryz.prog w = .ok (.value (.pointer v)) w := by
 rw [run_callFunc_extern Tryz.func318 n318 rfl x318 e318]
 change (Sem.run Tryz.prog (do Extern.Atomic.read .ptr (← asAddr (.pointer (some a)))) w).andThen _ = _
 simp [Extern.Atomic.read, asAddr, hc, Result.andThen]
theorem run261 {a : Addr} {v : Option Addr} {u : Value} {w : World} (hc : w.cell? a = some u) (hz : w.frozen? a = false) :
 (callFunc 261 #[.pointer (some a), .pointer v]).run Tryz.prog w = .ok (.value (.tuple #[])) (w.setCell a (.pointer v)) := by
 rw [run_callFunc_extern Tryz.func261 n261 rfl x261 e261]
 change (Sem.run Tryz.prog (do
  store (← asAddr (.pointer (some a))) (.pointer v) .atomic
  pure Extern.Atomic.none_) w).andThen _ = _
 simp [asAddr, hc, hz, run_store Tryz.prog w a (.pointer v) .atomic rfl, Result.andThen, Extern.Atomic.none_]
theorem run262 {a : Addr} {y : Int} {u : Value} {w : World} (hc : w.cell? a = some u) (hz : w.frozen? a = false) :
 (callFunc 262 #[.pointer (some a), .int .i64 y]).run Tryz.prog w = .ok (.value (.tuple #[])) (w.setCell a (.int .i64 y)) :=
 run_call_store Tryz.func262 n262 rfl x262 e262 hc hz
theorem run326 {a : Addr} {y : Int} {u : Value} {w : World} (hc : w.cell? a = some u) (hz : w.frozen? a = false) :
 (callFunc 326 #[.pointer (some a), .int .u32 y]).run Tryz.prog w = .ok (.value (.tuple #[])) (w.setCell a (.int .u32 y)) :=
 run_call_store Tryz.func326 n326 rfl x326 e326 hc hz
theorem run319 {a : Addr} {x : Int} {w : World} (hc : w.cell? a = some (.int .u32 x)) :
 (callFunc 319 #[.pointer (some a)]).run Tryz.prog w = .ok (.value (.int .u32 x)) w :=
 run_call_load Tryz.func319 n319 rfl x319 .u32 e319 hc
theorem run320 {a : Addr} {x : Int} {w : World} (hc : w.cell? a = some (.int .i64 x)) :
 (callFunc 320 #[.pointer (some a)]).run Tryz.prog w = .ok (.value (.int .i64 x)) w :=
 run_call_load Tryz.func320 n320 rfl x320 .i64 e320 hc
theorem run325 {a : Addr} {p q : Option Addr} {w : World} (hc : w.cell? a = some (.pointer p)) (hz : w.frozen? a = false)  :
 (callFunc 325 #[.pointer (some a), .pointer p, .pointer q]).run Tryz.prog w = .ok (.value (.bool true)) (w.setCell a (.pointer q)) := by
 rw [run_callFunc_extern Tryz.func325 n325 rfl x325 e325]
 change (Sem.run Tryz.prog (do
  let a' ← asAddr (.pointer (some a))
  if ← Extern.Atomic.touchesFrozen a' then unsupported (.unsafePointer "a write to bytes that a string shares")
  let eq ← match Extern.Atomic.T.ptr, ← Extern.Atomic.read .ptr a', Value.pointer p with
   | _, .int _ x, .int _ y => pure (x == y)
   | .ptr, .pointer x, .pointer y => samePointer x y
   | .int _, .pointer (some _), .int _ 0 | .int _, .int _ 0, .pointer (some _) => pure false
   | .int _, .pointer (some _), _ | .int _, _, .pointer (some _) => unsupported .addressObserved
   | _, _, _ => stuck "atomic.CompareAndSwap: old is no T"
  if eq then store a' (.pointer q) .atomic
  pure (Value.bool eq)) w).andThen _ = _
 have hs : (samePointer p p).run Tryz.prog w = .ok true w := by
  cases p with
  | none => rfl
  | some p => simp [samePointer, sameAddr]
 simp [Extern.Atomic.touchesFrozen, Extern.Atomic.read, asAddr, viewAt, World.shape?_isSome_of_cell? hc, hc, hz, hs, run_store Tryz.prog w a (.pointer q) .atomic rfl, Result.andThen]
theorem to_unsafe_nil (w : World) (src : TypeId) (t : TypeId) (hs : Tryz.prog.underlying src = some (.pointer t)) :
 (convert src 198 (.pointer none)).run Tryz.prog w = .ok (.pointer none) w := by
 simp [convert, Conv.unsafePointer, run_underlying hs, run_underlying Tryz.underlying198]
theorem z209 : (Tryz.prog.info? 209).map (fun i => decide (i.size = 0)) = some false := by kernel_rfl
theorem z278 : (Tryz.prog.info? 278).map (fun i => decide (i.size = 0)) = some false := by kernel_rfl
theorem IsRec.cell0 {w : World} {b : Nat} (h : IsRec w b) : ∃ v, w.cell? ⟨b, 0, none⟩ = some v := by
 obtain ⟨cs, h, hs⟩ := h
 exact ⟨cs[0], by rw [cell_of_row w b 0 cs 209 (0, 0) h]; simp [hs]⟩
theorem IsScx.cell0 {w : World} {b : Nat} (h : IsScx w b) : ∃ v, w.cell? ⟨b, 0, none⟩ = some v := by
 obtain ⟨cs, h, hs⟩ := h
 exact ⟨cs[0], by rw [cell_of_row w b 0 cs 278 (0, 0) h]; simp [hs]⟩
theorem to_unsafe_rec {w : World} {b : Nat} (h : IsRec w b) : (convert 99 198 (.pointer (some ⟨b, 0, none⟩))).run Tryz.prog w = .ok (.pointer (some ⟨b, 0, none⟩)) w := by
 obtain ⟨v, hv⟩ := h.cell0
 exact run_convert_to_unsafe Tryz.underlying99 Tryz.underlying198 z209 hv
theorem to_unsafe_scx {w : World} {b : Nat} (h : IsScx w b) : (convert 194 198 (.pointer (some ⟨b, 0, none⟩))).run Tryz.prog w = .ok (.pointer (some ⟨b, 0, none⟩)) w := by
 obtain ⟨v, hv⟩ := h.cell0
 exact run_convert_to_unsafe Tryz.underlying194 Tryz.underlying198 z278 hv
theorem lies209 : liesAt Tryz.prog Tryz.prog.depth 209 (8 / Tryz.prog.cellsOf 209) 0 209 1 = true := by kernel_rfl
theorem lies278 : liesAt Tryz.prog Tryz.prog.depth 278 (9 / Tryz.prog.cellsOf 278) 0 278 1 = true := by kernel_rfl
theorem IsRec.shape {w : World} {b : Nat} (h : IsRec w b) : w.shape? b = some (209, 8) := by
 obtain ⟨cs, h, hs⟩ := h; simp [World.shape?, h, hs]
theorem IsScx.shape {w : World} {b : Nat} (h : IsScx w b) : w.shape? b = some (278, 9) := by
 obtain ⟨cs, h, hs⟩ := h; simp [World.shape?, h, hs]
theorem from_unsafe {w : World} {b : Nat} (t u n : Nat) (ht : Tryz.prog.underlying t = some (.pointer u)) (hsh : w.shape? b = some (u, n))
 (hl : liesAt Tryz.prog Tryz.prog.depth u (n / Tryz.prog.cellsOf u) 0 u 1 = true) (hz : (Tryz.prog.info? u).map (fun i => decide (i.size = 0)) = some false) :
 (convert 198 t (.pointer (some ⟨b, 0, none⟩))).run Tryz.prog w = .ok (.pointer (some ⟨b, 0, none⟩)) w := by
 obtain ⟨i, hi, hz0⟩ := Option.map_eq_some_iff.1 hz
 have hz : i.size ≠ 0 := by simpa using hz0
 simp [convert, Conv.unsafePointer, Conv.seenAt, viewAt, sizeOf, typeInfo, run_underlying ht, run_underlying Tryz.underlying198, hi, hz, hsh, variablesAt, hl, Result.andThen]
theorem from_unsafe_nil (w : World) (t u : TypeId) (ht : Tryz.prog.underlying t = some (.pointer u)) :
 (convert 198 t (.pointer none)).run Tryz.prog w = .ok (.pointer none) w := by
 simp [convert, Conv.unsafePointer, run_underlying ht, run_underlying Tryz.underlying198]
theorem from_unsafe_rec {w : World} {b : Nat} (h : IsRec w b) : (convert 198 99 (.pointer (some ⟨b, 0, none⟩))).run Tryz.prog w = .ok (.pointer (some ⟨b, 0, none⟩)) w :=
 from_unsafe 99 209 8 Tryz.underlying99 h.shape lies209 z209
theorem from_unsafe_scx {w : World} {b : Nat} (h : IsScx w b) : (convert 198 194 (.pointer (some ⟨b, 0, none⟩))).run Tryz.prog w = .ok (.pointer (some ⟨b, 0, none⟩)) w :=
 from_unsafe 194 278 9 Tryz.underlying194 h.shape lies278 z278
def RecP (w : World) (p : Option Addr) : Prop := p = none ∨ ∃ b, p = some ⟨b, 0, none⟩ ∧ IsRec w b
theorem to_unsafe_recp {w : World} {p : Option Addr} (h : RecP w p) : (convert 99 198 (.pointer p)).run Tryz.prog w = .ok (.pointer p) w := by
 rcases h with rfl | ⟨b, rfl, h⟩
 ·exact to_unsafe_nil w 99 209 Tryz.underlying99
 ·exact to_unsafe_rec h
theorem from_unsafe_recp {w : World} {p : Option Addr} (h : RecP w p) : (convert 198 99 (.pointer p)).run Tryz.prog w = .ok (.pointer p) w := by
 rcases h with rfl | ⟨b, rfl, h⟩
 ·exact from_unsafe_nil w 99 209 Tryz.underlying99
 ·exact from_unsafe_rec h
set_option maxHeartbeats 400000 in
theorem LoadP_any {b o : Nat} {p : Option Addr} {w : World} (h : w.cell? ⟨b, o, none⟩ = some (.pointer p)) (hp : RecP w p) :
 Calls Tryz.prog 302 #[.pointer (some ⟨b, o, none⟩)] w fun e w' => e = .returned (.pointer p) ∧ w = w' := by
 have h1 := run318 h
 have h2 := from_unsafe_recp hp
 go_enter Tryz.func302, Tryz.ntmps302
 go_wp2
 go_ret
 exact ⟨rfl, rfl⟩
set_option maxHeartbeats 400000 in
theorem LoadS_any {b o s : Nat} {w : World} (h : w.cell? ⟨b, o, none⟩ = some (.pointer (some ⟨s, 0, none⟩))) (hp : IsScx w s) :
 Calls Tryz.prog 304 #[.pointer (some ⟨b, o, none⟩)] w fun e w' => e = .returned (.pointer (some ⟨s, 0, none⟩)) ∧ w = w' := by
 have h1 := run318 h
 have h2 := from_unsafe_scx hp
 go_enter Tryz.func304, Tryz.ntmps304
 go_wp2
 go_ret
 exact ⟨rfl, rfl⟩
set_option maxHeartbeats 400000 in
theorem StoreP_any {b o : Nat} {u : Value} {p : Option Addr} {w : World} (h : w.cell? ⟨b, o, none⟩ = some u) (hz : w.frozen? ⟨b, o, none⟩ = false) (hp : RecP w p) :
 Calls Tryz.prog 221 #[.pointer (some ⟨b, o, none⟩), .pointer p] w fun e w' => e = .returned (.tuple #[]) ∧ w.setCell ⟨b, o, none⟩ (.pointer p) = w' := by
 have h1 := run261 (v := p) h hz
 have h2 := to_unsafe_recp hp
 go_enter Tryz.func221, Tryz.ntmps221
 go_wp2
 go_end0
 exact ⟨rfl, rfl⟩
set_option maxHeartbeats 400000 in
theorem StoreS_any {b o s : Nat} {u : Value} {w : World} (h : w.cell? ⟨b, o, none⟩ = some u) (hz : w.frozen? ⟨b, o, none⟩ = false) (hp : IsScx w s) :
 Calls Tryz.prog 223 #[.pointer (some ⟨b, o, none⟩), .pointer (some ⟨s, 0, none⟩)] w fun e w' => e = .returned (.tuple #[]) ∧ w.setCell ⟨b, o, none⟩ (.pointer (some ⟨s, 0, none⟩)) = w' := by
 have h1 := run261 (v := some ⟨s, 0, none⟩) h hz
 have h2 := to_unsafe_scx hp
 go_enter Tryz.func223, Tryz.ntmps223
 go_wp2
 go_end0
 exact ⟨rfl, rfl⟩
set_option maxHeartbeats 400000 in
theorem CasS_any {b o s s' : Nat} {w : World} (h : w.cell? ⟨b, o, none⟩ = some (.pointer (some ⟨s, 0, none⟩))) (hz : w.frozen? ⟨b, o, none⟩ = false) (hp : IsScx w s) (hq : IsScx w s') :
 Calls Tryz.prog 321 #[.pointer (some ⟨b, o, none⟩), .pointer (some ⟨s, 0, none⟩), .pointer (some ⟨s', 0, none⟩)] w fun e w' => e = .returned (.bool true) ∧ w.setCell ⟨b, o, none⟩ (.pointer (some ⟨s', 0, none⟩)) = w' := by
 have h1 := run325 (q := some ⟨s', 0, none⟩) h hz
 have h2 := to_unsafe_scx hp
 have h3 := to_unsafe_scx hq
 go_enter Tryz.func321, Tryz.ntmps321
 go_wp2
 go_ret
 exact ⟨rfl, rfl⟩
set_option maxHeartbeats 400000 in
theorem CasP_any {b o : Nat} {p q : Option Addr} {w : World} (h : w.cell? ⟨b, o, none⟩ = some (.pointer p)) (hz : w.frozen? ⟨b, o, none⟩ = false) (hp : RecP w p) (hq : RecP w q) :
 Calls Tryz.prog 323 #[.pointer (some ⟨b, o, none⟩), .pointer p, .pointer q] w fun e w' => e = .returned (.bool true) ∧ w.setCell ⟨b, o, none⟩ (.pointer q) = w' := by
 have h1 := run325 (q := q) h hz
 have h2 := to_unsafe_recp hp
 have h3 := to_unsafe_recp hq
 go_enter Tryz.func323, Tryz.ntmps323
 go_wp2
 go_ret
 exact ⟨rfl, rfl⟩
set_option maxHeartbeats 400000 in
theorem StoreI_any {b o : Nat} {u : Value} {k : Int} {w : World} (h : w.cell? ⟨b, o, none⟩ = some u) (hz : w.frozen? ⟨b, o, none⟩ = false) :
 Calls Tryz.prog 222 #[.pointer (some ⟨b, o, none⟩), .int .i64 k] w fun e w' => e = .returned (.tuple #[]) ∧ w.setCell ⟨b, o, none⟩ (.int .i64 k) = w' := by
 have h1 := run262 (y := k) h hz
 go_enter Tryz.func222, Tryz.ntmps222
 go_wp2
 go_end0
 exact ⟨rfl, rfl⟩
set_option maxHeartbeats 400000 in
theorem LoadI_any {b o : Nat} {k : Int} {w : World} (h : w.cell? ⟨b, o, none⟩ = some (.int .i64 k)) :
 Calls Tryz.prog 305 #[.pointer (some ⟨b, o, none⟩)] w fun e w' => e = .returned (.int .i64 k) ∧ w = w' := by
 have h1 := run320 h
 go_enter Tryz.func305, Tryz.ntmps305
 go_wp2
 go_ret
 exact ⟨rfl, rfl⟩
set_option maxHeartbeats 400000 in
theorem LoadB_no {b o : Nat} {w : World} (h : w.cell? ⟨b, o, none⟩ = some (.int .u32 0)) :
 Calls Tryz.prog 303 #[.pointer (some ⟨b, o, none⟩)] w fun e w' => e = .returned (.bool false) ∧ w = w' := by
 have h1 := run319 h
 go_enter Tryz.func303, Tryz.ntmps303
 go_wp2
 go_ret
 exact ⟨rfl, rfl⟩
set_option maxHeartbeats 400000 in
theorem b32_yes (w : World) : Calls Tryz.prog 327 #[.bool true] w fun e w' => e = .returned (.int .u32 1) ∧ w = w' := by
 go_enter Tryz.func327, Tryz.ntmps327
 go_wp2
 go_ret
 exact ⟨rfl, rfl⟩
set_option maxHeartbeats 400000 in
theorem StoreB_yes {b o : Nat} {u : Value} {w : World} (h : w.cell? ⟨b, o, none⟩ = some u) (hz : w.frozen? ⟨b, o, none⟩ = false) :
 Calls Tryz.prog 322 #[.pointer (some ⟨b, o, none⟩), .bool true] w fun e w' => e = .returned (.tuple #[]) ∧ (w.setCell ⟨b, o, none⟩ (.int .u32 1)).drew = w' := by
 have h1 := run326 (y := 1) (w := w.drew) h hz
 go_enter Tryz.func322, Tryz.ntmps322
 go_wp2
 go_region_with (go_at_call 327; refine (b32_yes _).mono ?_; rintro e w' ⟨rfl, rfl⟩)
 all_goals (go_end0; exact ⟨rfl, rfl⟩)
end Go.Proofs.YtdmobhndbibhoaaGreat
