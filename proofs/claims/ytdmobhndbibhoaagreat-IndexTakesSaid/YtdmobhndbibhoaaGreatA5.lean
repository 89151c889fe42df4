/- Package record: the records' own methods. -/
import Derived.Test.YtdmobhndbibhoaaGreatA3
import Derived.Test.YtdmobhndbibhoaaGreatB0
namespace Go.Proofs.YtdmobhndbibhoaaGreat
set_option linter.unusedVariables false
set_option linter.unusedSimpArgs false
open Go.RowKit Larch
set_option maxRecDepth 100000
def rc (d : It) (lf : Bool) (fs : Value) (info : Nat) (m : Int) : Array Value :=
 #[.int .i64 d.k, .int .i64 d.i, .int .i64 d.w, .int .i64 d.v, .bool lf, fs, .pointer (some ⟨info, 0, none⟩), .int .u32 m]
theorem rc_size (d : It) (lf : Bool) (fs : Value) (info : Nat) (m : Int) : (rc d lf fs info m).size = 8 := rfl
abbrev Cl (g : Gt) (w : World) (b : Nat) (cs : Array Value) (T : TypeId) : Prop := At g w b (.cells cs T (0, 0))
section
variable {g : Gt} {n b : Nat} {w : World} {d : It} {lf : Bool} {fs : Value} {info : Nat} {m : Int}
set_option maxHeartbeats 400000 in
theorem Rec_Len {a : Option Addr} {l c : Nat} (ha : Cl g w b (rc d lf (.slice a l c) info m) 209) :
 Calls Tryz.prog 229 #[.pointer (some ⟨b, 0, none⟩)] w fun e w' => e = .returned (.int .i64 l) ∧ w = w' := by
 have h5 : w.cell? ⟨b, 5, none⟩ = some (.slice a l c) := (ha.cell 5).trans rfl
 go_enter Tryz.func229, Tryz.ntmps229
 go_wp2
 go_ret
 exact ⟨rfl, rfl⟩
set_option maxHeartbeats 400000 in
theorem Rec_Get {fb L i : Nat} {fc : Array Value} {p : Option Addr} (hg : GOk g n w) (hn : n < LIM) (ha : Cl g w b (rc d lf (.slice (some ⟨fb, 0, none⟩) L L) info m) 209)
 (hf : Cl g w fb fc 269) (hi : i < L) (hc : fc[i]? = some (.pointer p)) (hp : RecP w p) :
 Calls Tryz.prog 224 #[.pointer (some ⟨b, 0, none⟩), gval g, .int .i64 i] w fun e w' => e = .returned (.pointer p) ∧ Fr g No w w' ∧ GOk g (n + 1) w' := by
 have h5 : w.cell? ⟨b, 5, none⟩ = some (.slice (some ⟨fb, 0, none⟩) L L) := (ha.cell 5).trans rfl
 go_enter Tryz.func224, Tryz.ntmps224
 go_wp2_with (go_at_call 263; refine (CellP_Load hg hn hf hc hp).mono ?_; rintro e w1 ⟨rfl, hf1, hg1⟩)
 go_ret
 exact ⟨rfl, hf1, hg1⟩
set_option maxHeartbeats 400000 in
theorem Rec_Marked (hg : GOk g n w) (hn : n < LIM) (ha : Cl g w b (rc d lf fs info 0) 209) :
 Calls Tryz.prog 226 #[.pointer (some ⟨b, 0, none⟩), gval g] w fun e w' => e = .returned (.bool false) ∧ Fr g No w w' ∧ GOk g (n + 1) w' := by
 go_enter Tryz.func226, Tryz.ntmps226
 go_wp2_with (go_at_call 264; refine (Mark_Load hg hn ha rfl).mono ?_; rintro e w1 ⟨rfl, hf1, hg1⟩)
 go_ret
 exact ⟨rfl, hf1, hg1⟩
set_option maxHeartbeats 400000 in
theorem Rec_Info (hg : GOk g n w) (hn : n < LIM) (ha : Cl g w b (rc d lf fs info m) 209) (hs : IsScx w info) :
 Calls Tryz.prog 227 #[.pointer (some ⟨b, 0, none⟩), gval g] w fun e w' => e = .returned (.pointer (some ⟨info, 0, none⟩)) ∧ Fr g No w w' ∧ GOk g (n + 1) w' := by
 go_enter Tryz.func227, Tryz.ntmps227
 go_wp2_with (go_at_call 265; refine (CellS_Load hg hn ha rfl hs).mono ?_; rintro e w1 ⟨rfl, hf1, hg1⟩)
 go_ret
 exact ⟨rfl, hf1, hg1⟩
set_option maxHeartbeats 400000 in
theorem Scx_State {sc : Array Value} {st : Int} (hg : GOk g n w) (hn : n < LIM) (ha : Cl g w b sc 278) (hc : sc[7]? = some (.int .i64 st)) :
 Calls Tryz.prog 228 #[.pointer (some ⟨b, 0, none⟩), gval g] w fun e w' => e = .returned (.int .i64 st) ∧ Fr g No w w' ∧ GOk g (n + 1) w' := by
 go_enter Tryz.func228, Tryz.ntmps228
 go_wp2_with (go_at_call 266; refine (Num_Load hg hn ha hc).mono ?_; rintro e w1 ⟨rfl, hf1, hg1⟩)
 go_ret
 exact ⟨rfl, hf1, hg1⟩
set_option maxHeartbeats 400000 in
theorem Rec_Freeze {s : Nat} (hg : GOk g n w) (hn : n < LIM) (ha : Cl g w b (rc d lf fs info m) 209) (hs : IsScx w info) (hs' : IsScx w s) :
 Calls Tryz.prog 267 #[.pointer (some ⟨b, 0, none⟩), gval g, .pointer (some ⟨info, 0, none⟩), .pointer (some ⟨s, 0, none⟩)] w fun e w' => e = .returned (.bool true) ∧
  Fr g (fun c => c = b) w w' ∧ Cl g w' b (rc d lf fs s m) 209 ∧ GOk g (n + 1) w' := by
 go_enter Tryz.func267, Tryz.ntmps267
 go_wp2_with (go_at_call 306; refine (CellS_Cas hg hn ha rfl hs hs').mono ?_; rintro e w1 ⟨rfl, hf1, ha1, hg1⟩)
 go_ret
 exact ⟨rfl, hf1, ha1, hg1⟩
set_option maxHeartbeats 400000 in
theorem Rec_Mark (hg : GOk g n w) (hn : n < LIM) (ha : Cl g w b (rc d lf fs info m) 209) :
 Calls Tryz.prog 271 #[.pointer (some ⟨b, 0, none⟩), gval g] w fun e w' => e = .returned (.tuple #[]) ∧
  Fr g (fun c => c = b) w w' ∧ Cl g w' b (rc d lf fs info 1) 209 ∧ GOk g (n + 1) w' := by
 go_enter Tryz.func271, Tryz.ntmps271
 go_wp2_with (go_at_call 307; refine (Mark_Store hg hn ha (by simp [rc_size])).mono ?_; rintro e w1 ⟨rfl, hf1, ha1, hg1⟩)
 go_end0
 exact ⟨rfl, hf1, ha1, hg1⟩
set_option maxHeartbeats 400000 in
theorem Scx_SetAllFrozen {sc : Array Value} (hg : GOk g n w) (hn : n < LIM) (ha : Cl g w b sc 278) (hs : sc.size = 9) :
 Calls Tryz.prog 270 #[.pointer (some ⟨b, 0, none⟩), gval g] w fun e w' => e = .returned (.tuple #[]) ∧ Put1 g n b 8 sc 278 (.int .u32 1) w w' := by
 go_enter Tryz.func270, Tryz.ntmps270
 go_wp2_with (go_at_call 307; refine (Mark_Store hg hn ha (by omega)).mono ?_; rintro e w1 ⟨rfl, hp⟩)
 go_end0
 exact ⟨rfl, hp⟩
set_option maxHeartbeats 400000 in
theorem Scx_Commit {sc : Array Value} (hg : GOk g n w) (hn : n < LIM) (ha : Cl g w b sc 278) (hs : sc.size = 9) :
 Calls Tryz.prog 273 #[.pointer (some ⟨b, 0, none⟩), gval g] w fun e w' => e = .returned (.tuple #[]) ∧ Put1 g n b 7 sc 278 (.int .i64 1) w w' := by
 go_enter Tryz.func273, Tryz.ntmps273
 go_wp2_with (go_at_call 176; refine (Num_Store hg hn ha (by omega)).mono ?_; rintro e w1 ⟨rfl, hp⟩)
 go_end0
 exact ⟨rfl, hp⟩
set_option maxHeartbeats 400000 in
theorem Rec_Swing {fb L i : Nat} {fc : Array Value} {p q : Option Addr} (hg : GOk g n w) (hn : n < LIM) (ha : Cl g w b (rc d lf (.slice (some ⟨fb, 0, none⟩) L L) info m) 209)
 (hf : Cl g w fb fc 269) (hi : i < L) (hc : fc[i]? = some (.pointer p)) (hp : RecP w p) (hq : RecP w q) :
 Calls Tryz.prog 272 #[.pointer (some ⟨b, 0, none⟩), gval g, .int .i64 i, .pointer p, .pointer q] w fun e w' => e = .returned (.bool true) ∧ Put1 g n fb i fc 269 (.pointer q) w w' := by
 have h5 : w.cell? ⟨b, 5, none⟩ = some (.slice (some ⟨fb, 0, none⟩) L L) := (ha.cell 5).trans rfl
 go_enter Tryz.func272, Tryz.ntmps272
 go_wp2_with (go_at_call 308; refine (CellP_Cas hg hn hf hc hp hq).mono ?_; rintro e w1 ⟨rfl, hp1⟩)
 go_ret
 exact ⟨rfl, hp1⟩
end
end Go.Proofs.YtdmobhndbibhoaaGreat
namespace Go.Proofs.YtdmobhndbibhoaaGreat
set_option linter.unusedVariables false
set_option linter.unusedSimpArgs false
open Go.RowKit Larch
set_option maxRecDepth 100000
def ScxSt (g : Gt) (w : World) (s : Nat) (st : Int) : Prop := ∃ sc, Cl g w s sc 278 ∧ sc.size = 9 ∧ sc[7]? = some (.int .i64 st)
theorem ScxSt.is {g : Gt} {w : World} {s : Nat} {st : Int} (h : ScxSt g w s st) : IsScx w s := by
 obtain ⟨sc, h, hs, _⟩ := h; exact ⟨sc, h.1, hs⟩
theorem ScxSt.fr {g : Gt} {S : Nat → Prop} {w w' : World} {s : Nat} {st : Int} (h : ScxSt g w s st) (hf : Fr g S w w') (hs : ¬ S s) : ScxSt g w' s st := by
 obtain ⟨sc, h, r⟩ := h; exact ⟨sc, hf.at h hs, r⟩
def NewRec (d : It) (lf : Bool) (fc : Array Value) (w : World) (e : Ending) (w' : World) : Prop :=
 ∃ b fb s, e = .returned (.pointer (some ⟨b, 0, none⟩)) ∧ w.heap.size ≤ b ∧ w.heap.size ≤ fb ∧ w.heap.size ≤ s ∧ b ≠ fb ∧ Fr g00 No w w' ∧
   Cl g00 w' b (rc d lf (.slice (some ⟨fb, 0, none⟩) fc.size fc.size) s 0) 209 ∧ Cl g00 w' fb fc 269 ∧ ScxSt g00 w' s 2
theorem allocs3 {w W : World} {o0 o1 o2 : Obj} (hW : (((w.alloc o0).alloc o1).alloc o2).drew = W) : Fr g00 No w W ∧
 At g00 W (w.heap.size + 1) o1 ∧ At g00 W (w.heap.size + 1 + 1) o2 := by
 subst hW
 have f0 := Fr.alloc g00 No w o0 (n := 0) ok00
 have f1 := Fr.alloc g00 No (w.alloc o0) o1 (n := 0) ok00
 have f2 := Fr.alloc g00 No ((w.alloc o0).alloc o1) o2 (n := 0) ok00
 have a1 := At.new (g := g00) (n := 0) (w := w.alloc o0) ok00 o1
 have a2 := At.new (g := g00) (n := 0) (w := (w.alloc o0).alloc o1) ok00 o2
 simp only [World.size_alloc] at a1 a2
 exact ⟨((f0.tr f1).tr f2).tr (Fr.drew _ _ _), (f2.at a1 id).drew, a2.drew⟩
theorem allocs4 {w W : World} {o0 o1 o2 o3 : Obj} (hW : ((((w.alloc o0).alloc o1).alloc o2).alloc o3).drew = W) : Fr g00 No w W ∧
 At g00 W (w.heap.size + 1) o1 ∧ At g00 W (w.heap.size + 1 + 1) o2 ∧ At g00 W (w.heap.size + 1 + 1 + 1) o3 := by
 subst hW
 have f0 := Fr.alloc g00 No w o0 (n := 0) ok00
 have f1 := Fr.alloc g00 No (w.alloc o0) o1 (n := 0) ok00
 have f2 := Fr.alloc g00 No ((w.alloc o0).alloc o1) o2 (n := 0) ok00
 have f3 := Fr.alloc g00 No (((w.alloc o0).alloc o1).alloc o2) o3 (n := 0) ok00
 have a1 := At.new (g := g00) (n := 0) (w := w.alloc o0) ok00 o1
 have a2 := At.new (g := g00) (n := 0) (w := (w.alloc o0).alloc o1) ok00 o2
 have a3 := At.new (g := g00) (n := 0) (w := ((w.alloc o0).alloc o1).alloc o2) ok00 o3
 simp only [World.size_alloc] at a1 a2 a3
 exact ⟨(((f0.tr f1).tr f2).tr f3).tr (Fr.drew _ _ _), ((f2.tr f3).at a1 id).drew, (f3.at a2 id).drew, a3.drew⟩
set_option maxHeartbeats 400000 in
theorem New_leaf (k i wt v : Int) (w : World) :
 Calls Tryz.prog 128 #[.agg #[.int .i64 k, .int .i64 i, .int .i64 wt, .int .i64 v, .bool true], .slice none 0 0] w (NewRec ⟨k, i, wt, v⟩ true #[] w) := by
 have hmk : ∀ w, (Instr.makeSlice 193 (.int .i64 0) (.int .i64 0)).run Tryz.prog w = .ok (.slice (some ⟨w.heap.size, 0, none⟩) 0 0) (w.alloc (.cells #[] 269)) := fun _ => by kernel_rfl
 go_enter Tryz.func128, Tryz.ntmps128
 go_wp2_with fail
 go_region
 go_wp2_with fail
 refine wp_loop_rounds 1 ?_
 rw [rounds_succ]
 go_wp2_with fail
 generalize hW : World.drew _ = W
 have hA := allocs4 hW
 clear hW
 refine (Num_Store (g := g00) (n := 0) (k := 2) ok00 (by decide) hA.2.2.2 (by decide)).mono ?_
 rintro e w1 ⟨rfl, hf1, ha1, hg1⟩
 have hr1 := hf1.at hA.2.2.1 (by simp)
 have hc1 := hf1.at hA.2.1 (by simp)
 have hF1 := hA.1.trans hf1 (T := No) (fun _ _ h => h) (fun b hb h => by omega)
 clear hA hf1
 go_wp2_with fail
 refine (CellS_Store (g := g00) (n := 0) (s := w.heap.size + 1 + 1 + 1) ok00 (by decide) hr1 (by simp) ⟨_, ha1.1, rfl⟩).mono ?_
 rintro e w2 ⟨rfl, hf2, ha2, hg2⟩
 have hF2 := hF1.trans hf2 (T := No) (fun _ _ h => h) (fun b hb h => by omega)
 have hc2 := hf2.at hc1 (by simp)
 have hs2 := hf2.at ha1 (by simp)
 clear hF1 hc1 ha1 hf2 hr1
 go_wp2_with fail
 go_ret
 exact ⟨w.heap.size + 1 + 1, w.heap.size + 1, w.heap.size + 1 + 1 + 1, rfl, by omega, by omega, by omega, by omega, hF2, ha2, hc2, _, hs2, rfl, rfl⟩
set_option maxHeartbeats 800000 in
theorem New_inner (k i wt v : Int) (sb : Nat) (l r : Option Addr) (w : World) (h0 : w.cell? ⟨sb, 0, none⟩ = some (.pointer l)) (h1 : w.cell? ⟨sb, 1, none⟩ = some (.pointer r)) (hl : RecP w l) (hr : RecP w r) :
 Calls Tryz.prog 128 #[.agg #[.int .i64 k, .int .i64 i, .int .i64 wt, .int .i64 v, .bool false], .slice (some ⟨sb, 0, none⟩) 2 2] w (NewRec ⟨k, i, wt, v⟩ false #[.pointer l, .pointer r] w) := by
 have hmk : ∀ w, (Instr.makeSlice 193 (.int .i64 2) (.int .i64 2)).run Tryz.prog w = .ok (.slice (some ⟨w.heap.size, 0, none⟩) 2 2) (w.alloc (.cells #[.pointer none, .pointer none] 269)) := fun _ => by kernel_rfl
 have hsb : sb < w.heap.size := block_lt_of_cell h0
 go_enter Tryz.func128, Tryz.ntmps128
 go_wp2_with fail
 go_region
 generalize hW : World.drew _ = W
 have hA := allocs3 hW
 have h0' : W.cell? ⟨sb, 0, none⟩ = some (.pointer l) := (World.cell?_of_block (hA.1.keep sb hsb no00 id)).trans h0
 have h1' : W.cell? ⟨sb, 1, none⟩ = some (.pointer r) := (World.cell?_of_block (hA.1.keep sb hsb no00 id)).trans h1
 have hr5 : W.cell? ⟨w.heap.size + 1 + 1, 5, none⟩ = some (.slice (some ⟨w.heap.size + 1, 0, none⟩) 2 2) := hA.2.2.cell 5
 clear hW h0 h1
 go_wp2_with fail
 refine wp_loop_rounds 3 ?_
 rw [rounds_succ]
 go_wp2_with fail
 refine (CellP_Store (g := g00) (n := 0) (p := l) ok00 (by decide) hA.2.1 (by simp) (hl.fr hA.1)).mono ?_
 rintro e w1 ⟨rfl, hf1, ha1, hg1⟩
 have hF1 := hA.1.trans hf1 (T := No) (fun _ _ h => h) (fun b hb h => by omega)
 have hc1 := hf1.at hA.2.2 (by simp)
 have h1'' : w1.cell? ⟨sb, 1, none⟩ = some (.pointer r) := (World.cell?_of_block (hf1.keep sb (by have := hA.1.size; omega) no00 (by omega))).trans h1'
 have hr5' : w1.cell? ⟨w.heap.size + 1 + 1, 5, none⟩ = some (.slice (some ⟨w.heap.size + 1, 0, none⟩) 2 2) := hc1.cell 5
 clear h0' h1' hr5 hA hf1
 go_wp2_with fail
 rw [rounds_succ]
 go_wp2_with fail
 refine (CellP_Store (g := g00) (n := 0) (p := r) ok00 (by decide) ha1 (by simp) (hr.fr hF1)).mono ?_
 rintro e w2 ⟨rfl, hf2, ha2, hg2⟩
 have hF2 := hF1.trans hf2 (T := No) (fun _ _ h => h) (fun b hb h => by omega)
 have hc2 := hf2.at hc1 (by simp)
 clear h1'' hr5' hc1 hf2 hF1 ha1
 go_wp2_with fail
 rw [rounds_succ]
 go_wp2_with fail
 have h2s : w.heap.size ≤ w2.heap.size := hF2.size
 have hb2 : w.heap.size + 1 + 1 < w2.heap.size := hc2.lt
 generalize hW : World.alloc _ _ = W3
 have hfa := Fr.alloc g00 No w2 (.cells #[.slice none 0 0, .slice none 0 0, .slice none 0 0, .int .i64 0, .int .i64 0, .pointer none, .pointer none, .int .i64 0, .int .u32 0] 278) (n := 0) ok00
 have hna := At.new (g := g00) (n := 0) (w := w2) ok00 (.cells #[.slice none 0 0, .slice none 0 0, .slice none 0 0, .int .i64 0, .int .i64 0, .pointer none, .pointer none, .int .i64 0, .int .u32 0] 278)
 rw [hW] at hfa hna
 have hc3 := hfa.at hc2 id
 have ha3 := hfa.at ha2 id
 have hF3 := hF2.tr hfa
 generalize hs : w2.heap.size = s at *
 clear hW hc2 ha2 hF2 hfa
 refine (Num_Store (g := g00) (n := 0) (k := 2) ok00 (by decide) hna (by decide)).mono ?_
 rintro e w4 ⟨rfl, hf4, hn4, hg4⟩
 have hF4 := hF3.trans hf4 (T := No) (fun _ _ h => h) (fun b hb h => by omega)
 have hc4 := hf4.at hc3 (by omega)
 have ha4 := hf4.at ha3 (by omega)
 clear hc3 ha3 hF3 hna hf4
 go_wp2_with fail
 refine (CellS_Store (g := g00) (n := 0) (s := s) ok00 (by decide) hc4 (by simp) ⟨_, hn4.1, rfl⟩).mono ?_
 rintro e w5 ⟨rfl, hf5, hc5, hg5⟩
 have hF5 := hF4.trans hf5 (T := No) (fun _ _ h => h) (fun b hb h => by omega)
 have ha5 := hf5.at ha4 (by omega)
 have hn5 := hf5.at hn4 (by omega)
 clear hF4 hc4 ha4 hn4 hf5
 go_wp2_with fail
 go_ret
 exact ⟨w.heap.size + 1 + 1, w.heap.size + 1, s, rfl, by omega, by omega, by omega, by omega, hF5, hc5, ha5, _, hn5, rfl, rfl⟩
theorem Fr.of_none {g : Gt} {n : Nat} {w w' : World} (h : Fr g00 No w w') (hg : GOk g n w) : Fr g No w w' ∧ GOk g n w' := by
 have hk : ∀ b, GBlk g w b → w'.heap[b]? = w.heap[b]? := fun b hb => h.keep b (hg.lt hb) no00 id
 exact ⟨⟨h.os, h.tape, h.output, h.size, fun b hb _ hn => h.keep b hb no00 hn, fun b hb => .inl ((GBlk_same hk b).1 hb), h.data, h.isScx, fun b hb => h.keep b (hg.1 b hb) no00 id⟩, hg.same hk h.size⟩
theorem At.of_none {g : Gt} {n b : Nat} {o : Obj} {w w' : World} (h : Fr g00 No w w') (hg : GOk g n w) (ha : At g00 w' b o) (hb : w.heap.size ≤ b) : At g w' b o :=
 ⟨ha.1, fun hk => by
  have := hg.lt ((GBlk_same (fun b hb => h.keep b (hg.lt hb) no00 id) b).1 hk)
  omega⟩
def NewRecG (g : Gt) (n : Nat) (d : It) (lf : Bool) (fc : Array Value) (w : World) (e : Ending) (w' : World) : Prop :=
 ∃ b fb s, e = .returned (.pointer (some ⟨b, 0, none⟩)) ∧ w.heap.size ≤ b ∧ w.heap.size ≤ fb ∧ w.heap.size ≤ s ∧ b ≠ fb ∧ Fr g No w w' ∧ GOk g n w' ∧
   Cl g w' b (rc d lf (.slice (some ⟨fb, 0, none⟩) fc.size fc.size) s 0) 209 ∧ Cl g w' fb fc 269 ∧ ScxSt g w' s 2
theorem NewRec.g {g : Gt} {n : Nat} {d : It} {lf : Bool} {fc : Array Value} {w w' : World} {e : Ending} (hg : GOk g n w) (h : NewRec d lf fc w e w') : NewRecG g n d lf fc w e w' := by
 obtain ⟨b, fb, s, he, h1, h2, h3, h4, h5, h6, h7, sc, h8, h9⟩ := h
 obtain ⟨k1, k2⟩ := h5.of_none hg
 exact ⟨b, fb, s, he, h1, h2, h3, h4, k1, k2, h6.of_none h5 hg h1, h7.of_none h5 hg h2, sc, h8.of_none h5 hg h3, h9⟩
set_option maxHeartbeats 400000 in
theorem Leaf_any {g : Gt} {n : Nat} (k i wt v : Int) (w : World) (hg : GOk g n w) :
 Calls Tryz.prog 92 #[.int .i64 k, .int .i64 i, .int .i64 wt, .int .i64 v] w (NewRecG g n ⟨k, i, wt, v⟩ true #[] w) := by
 go_enter Tryz.func92, Tryz.ntmps92
 go_wp2_with fail
 refine (New_leaf k i wt v w).mono ?_
 rintro e w' h
 have H := h.g hg
 obtain ⟨b, fb, s, rfl, h⟩ := h
 clear h
 go_wp2_with fail
 go_ret
 exact H
theorem IsRec.alloc {w : World} {b : Nat} (h : IsRec w b) (o : Obj) : IsRec (w.alloc o) b := (Fr.alloc g00 No w o (n := 0) ok00).isRec b h
theorem RecP.alloc {w : World} {p : Option Addr} (h : RecP w p) (o : Obj) : RecP (w.alloc o) p := h.fr (Fr.alloc g00 No w o (n := 0) ok00)
set_option maxHeartbeats 400000 in
theorem Inner_any {g : Gt} {n : Nat} (k i wt : Int) (l r : Option Addr) (w : World) (hg : GOk g n w) (hl : RecP w l) (hr : RecP w r) :
 Calls Tryz.prog 91 #[.int .i64 k, .int .i64 i, .int .i64 wt, .pointer l, .pointer r] w (NewRecG g n ⟨k, i, wt, 0⟩ false #[.pointer l, .pointer r] w) := by
 go_enter Tryz.func91, Tryz.ntmps91
 go_wp2_with fail
 have hna := At.new (g := g00) (n := 0) (w := w) ok00 (.cells #[.pointer l, .pointer r] 99)
 have hfa := Fr.alloc g No w (.cells #[.pointer l, .pointer r] 99) hg
 refine (New_inner k i wt 0 w.heap.size l r _ (hna.cell 0) (hna.cell 1) (hl.alloc _) (hr.alloc _)).mono ?_
 rintro e w' h
 have H := h.g (hg.alloc _)
 have H' : NewRecG g n ⟨k, i, wt, 0⟩ false #[.pointer l, .pointer r] w e w' := by
  obtain ⟨b, fb, s, he, h1, h2, h3, h4, h5, h6⟩ := H
  simp only [World.size_alloc] at h1 h2 h3
  exact ⟨b, fb, s, he, by omega, by omega, by omega, h4, hfa.tr h5, h6⟩
 clear H
 obtain ⟨b, fb, s, rfl, h⟩ := h
 clear h hna hfa
 go_wp2_with fail
 go_ret
 exact H'
end Go.Proofs.YtdmobhndbibhoaaGreat
