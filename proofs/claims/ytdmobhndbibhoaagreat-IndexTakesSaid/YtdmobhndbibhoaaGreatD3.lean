/- The reader of a tree: the second half of a round. -/
import Derived.Test.YtdmobhndbibhoaaGreatD2
import Derived.Deep.DeepCutAuto
import Derived.Deep.CutBlock
namespace Go.Proofs.YtdmobhndbibhoaaGreat
open Go.RowKit Larch
set_option maxRecDepth 100000
set_option linter.unusedVariables false
set_option linter.unusedSimpArgs false
attribute [local go_sem ↓] Go.wp_at_zero Go.wp_at_succ
def RdSt (g : Gt) (rb mb m : Nat) (t : HTree) (w : World) (v5 : Value) (wr : World) (k : Nat) : Prop :=
 ∃ (st : List HTd) (out : List Ro) (ov : Value) (es : Array MapEntry) (clock : Nat),
   Row g wr 228 3 v5 st.length (tdVs st) ∧ Cl g wr rb #[gval g, .map (some mb), ov] 153 ∧ Row g wr 88 6 ov out.length (nVs out) ∧ At g wr mb (.map es clock) ∧
   fin out st.reverse = layT 0 t ∧ (∀ x ∈ st, HT g wr x.t ∧ (x.s = 0 ∨ (x.s = 1 ∨ x.s = 2) ∧ x.p < out.length)) ∧
   (∀ e ∈ es.toList, ∃ b, e.key = .pointer (some ⟨b, 0, none⟩) ∧ IsRec wr b ∧ cntS b st = 0) ∧ (∀ a, cntS a st ≤ 1) ∧
   (∀ b, v5.ownBlock = some b → w.heap.size ≤ b) ∧ (∀ b, ov.ownBlock = some b → w.heap.size ≤ b) ∧ Fr g (fun c => c = rb ∨ c = mb) w wr ∧ GOk g (m + 2 * (t.size - sumT st)) wr ∧
   sumT st = k ∧ sumT st ≤ t.size ∧ out.length + sumT st = t.size
def RdQ (g : Gt) (rb mb m : Nat) (t : HTree) (w : World) (e : Ending) (w' : World) : Prop :=
 e = .returned (.int .i64 0) ∧ ∃ ov, Cl g w' rb #[gval g, .map (some mb), ov] 153 ∧ Row g w' 88 6 ov (layT 0 t).length (nVs (layT 0 t)) ∧ (∀ b, ov.ownBlock = some b → w.heap.size ≤ b) ∧ Fr g (fun c => c = rb ∨ c = mb) w w' ∧ GOk g (m + 2 * t.size) w'
theorem keep10 {g : Gt} {w : World} {rb tb sb info mk : Nat} {x y v p a b fs : Value} {d : It} {lf : Bool} (h : Cl g w rb #[x, y, v] 153) (k : Cl g w tb #[p, a, b] 228) (r : Cl g w sb (rc d lf fs info mk) 209) :
 w.cell? ⟨rb, 2, none⟩ = some v ∧ w.cell? ⟨tb, 0, none⟩ = some p ∧ w.cell? ⟨sb, 0, none⟩ = some (.int .i64 d.k) ∧ w.cell? ⟨sb, 1, none⟩ = some (.int .i64 d.i) ∧ w.cell? ⟨sb, 2, none⟩ = some (.int .i64 d.w) ∧ w.cell? ⟨sb, 3, none⟩ = some (.int .i64 d.v) ∧ w.cell? ⟨sb, 4, none⟩ = some (.bool lf) :=
 ⟨h.cell 2, k.cell 0, rc0 r, rc1 r, rc2 r, rc3 r, rc4 r⟩
theorem Tryz.info88 : (Tryz.prog.info? 88).map (fun i => (i.zero, i.size, i.bytes)) = some (some (.agg #[.int .i64 0, .int .i64 0, .int .i64 0, .int .i64 0, .int .i64 0, .int .i64 0]), 6, 48) := by kernel_rfl
theorem sumT_2 (r l : HTree) (p q : Nat) (a b : Int) : sumT [⟨r, p, a⟩, ⟨l, q, b⟩] = r.size + l.size := by simp [sumT]
theorem Tryz.info228 : (Tryz.prog.info? 228).map (fun i => (i.zero, i.size, i.bytes)) = some (some (.agg #[.pointer none, .int .i64 0, .int .i64 0]), 3, 24) := by kernel_rfl
theorem keep16 {g : Gt} {w : World} {rb eb : Nat} {x y v a b c d e : Value} (h : Cl g w rb #[x, y, v] 153) (k : Cl g w eb #[a, b, c, d, e] 184) :
 w.cell? ⟨rb, 2, none⟩ = some v ∧ w.cell? ⟨eb, 0, none⟩ = some a ∧ w.cell? ⟨eb, 1, none⟩ = some b ∧ w.cell? ⟨eb, 2, none⟩ = some c ∧ w.cell? ⟨eb, 3, none⟩ = some d :=
 ⟨h.cell 2, k.cell 0, k.cell 1, k.cell 2, k.cell 3⟩
theorem keep18 {g : Gt} {w : World} {rb tb : Nat} {x y v a b c : Value} (h : Cl g w rb #[x, y, v] 153) (k : Cl g w tb #[a, b, c] 228) : w.cell? ⟨rb, 0, none⟩ = some x ∧ w.cell? ⟨tb, 0, none⟩ = some a := ⟨h.cell 0, k.cell 0⟩
theorem Row.no {g : Gt} {w : World} {e size n c : Nat} {v : Value} {xs : List Value} {o : Obj} (h : Row g w e size v n xs) (hc : At g w c o) (hne : ∀ cs fr, o ≠ .cells cs e fr) : v.ownBlock ≠ some c := by
 intro hc'
 rcases h.2 with ⟨rfl, _⟩ | ⟨b, cap, cur, rfl, _, _, hb, _⟩
 ·simp [Value.ownBlock] at hc'
 ·simp [Value.ownBlock] at hc'; subst hc'; have := hb.1.symm.trans hc.1; simp at this; exact hne _ _ this.symm
def RdMid (g : Gt) (rb mb m : Nat) (t : HTree) (w wr : World) (st' : List HTd) (s : HTd) (out : List Ro) (sb sp : Nat) (ss : Int) (d : It) (lf : Bool) (on : Nat) (oa : Option Addr) (oc b5 c5 : Nat) (es : Array MapEntry) (clock tb eb : Nat) : Prop :=
 Row g wr 88 6 (.slice oa on oc) on (nVs (setc out sp ss on)) ∧ Cl g wr rb #[gval g, .map (some mb), .slice oa on oc] 153 ∧ Cl g wr tb #[.pointer (some ⟨sb, 0, none⟩), .int .i64 (sp : Int), .int .i64 ss] 228 ∧
 Cl g wr eb #[.int .i64 d.k, .int .i64 d.i, .int .i64 d.w, .int .i64 d.v, .bool lf] 184 ∧ Row g wr 228 3 (.slice (some ⟨b5, 0, none⟩) st'.length c5) st'.length (tdVs st') ∧
 At g wr mb (.map (es.push { key := .pointer (some ⟨sb, 0, none⟩), val := .bool true, born := clock }) (clock + 1)) ∧ HT g wr s.t ∧
 (∀ q ∈ st', HT g wr q.t ∧ (q.s = 0 ∨ (q.s = 1 ∨ q.s = 2) ∧ q.p < out.length)) ∧
 (∀ e ∈ (es.push { key := .pointer (some ⟨sb, 0, none⟩), val := .bool true, born := clock }).toList, ∃ b, e.key = .pointer (some ⟨b, 0, none⟩) ∧ IsRec wr b ∧ cntS b st' + cnt b s.t = (if b = sb then 1 else 0)) ∧
 Fr g (fun c => c = rb ∨ c = mb) w wr ∧ GOk g (m + 2 * (t.size - (sumT st' + s.t.size))) wr ∧ (∀ b, (Value.slice oa on oc).ownBlock = some b → w.heap.size ≤ b)
def tailAt (n : Nat) : Code → Option Code
 | .seq (.region k ops d) b => if k == n then some (.seq (.region k ops d) b) else tailAt n b
 | .seq a b => (tailAt n a).or (tailAt n b)
 | .block _ b => tailAt n b
 | .loop b => tailAt n b
 | .cond _ a b => (tailAt n a).or (tailAt n b)
 | _ => none
noncomputable def tail104 : Code := (Tryz.f104.body.bind (tailAt 16)).getD .skip
set_option maxHeartbeats 16000000 in
theorem read_tail {g : Gt} {rb mb m n : Nat} {t : HTree} {w wc : World} {st' : List HTd} {s : HTd} {out : List Ro} {sb sp : Nat} {ss : Int} {d : It} {lf : Bool} {on : Nat} {oa : Option Addr} {oc b5 c5 : Nat} {es : Array MapEntry} {clock tb eb : Nat} {Q' : Exit → Act → World → Prop}
 {x1 x11 x12 x13 x63 u4 u9 u10 u14 u15 u16 u17 u18 u19 u20 u21 u22 u23 u24 u25 u26 u27 u28 u29 u30 u31 u32 u33 u34 u35 u36 u37 u38 u39 u40 u41 u42 u43 u44 u45 u46 u47 u48 u49 u50 u51 u52 u53 u54 u55 u56 u57 u58 u59 u60 u61 u62 u64 u65 u66 u67 u68 u69 u70 u71 u72 u73 u74 u75 u76 u77 u78 u79 u80 u81 u82 u83 u84 u85 u86 u87 u88 u89 u90 u91 u92 u93 u94 u95 u96 u97 u98 u99 u100 u101 u102 u103 u104 u105 u106 u107 u108 u109 u110 u111 u112 u113 u114 u115 u116 u117 u118 u119 u120 u121 u122 u123 u124 u125 u126 u127 u128 u129 : Value}
 (hm : m + 2 * T.size t + 100 < LIM) (hsz : T.size t < 90000) (hlr : rb < w.heap.size) (hlm : mb < w.heap.size) (hrm : rb ≠ mb) (hcn : ∀ a : Nat, cntS a (st' ++ [s]) ≤ 1)
 (hle : sumT st' + s.t.size ≤ T.size t) (hsum : out.length + (sumT st' + s.t.size) = T.size t) (hn5 : ∀ b : Nat, (Value.slice (some ⟨b5, 0, none⟩) (st'.length + 1) c5).ownBlock = some b → w.heap.size ≤ b)
 (hsp : 0 < s.t.size) (hsl : st'.length ≤ sumT st') (hcp : st'.length ≤ c5) (hn : sumT st' + s.t.size = n) (hfin' : fin out (s :: st'.reverse) = layT 0 t) (hon : out.length = on)
 (hmax : ¬ (on : Int) = 100000) (HD : Hid (s.t.it = d ∧ s.t.isLeaf = lf ∧ s.t.ann.1 = sb ∧ s.p = sp ∧ s.s = ss)) (szE : w.heap.size ≤ eb) (szA : w.heap.size ≤ tb)
 (hcut : RdMid g rb mb m t w wc st' s out sb sp ss d lf on oa oc b5 c5 es clock tb eb)
 (hPa : ∀ c (a a' : Act) (w : World), a.defers = a'.defers → Q' (.panic c) a w → Q' (.panic c) a' w)
 (hQ : ∀ (u6 u7 u8 u9 u10 u63 u14 u15 u16 u17 u18 u19 u20 u21 u22 u23 u24 u25 u26 u27 u28 u29 u30 u31 u32 u33 u34 u35 u36 u37 u38 u39 u40 u41 u42 u43 u44 u45 u46 u47 u48 u49 u50 u51 u52 u53 u54 u55 u56 u57 u58 u59 u60 u61 u62 u64 u65 u66 u67 u68 u69 u70 u71 u72 u73 u74 u75 u76 u77 u78 u79 u80 u81 u82 u83 u84 u85 u86 u87 u88 u89 u90 u91 u92 u93 u94 u95 u96 u97 u98 u99 u100 u101 u102 u103 u104 u105 u106 u107 u108 u109 u110 u111 u112 u113 u114 u115 u116 u117 u118 u119 u120 u121 u122 u123 u124 u125 u126 u127 u128 u129 v5 : Value) (wq : World), (∃ k, k < n ∧ RdSt g rb mb m t w v5 wq k) → Q' .normal ⟨#[.pointer (some ⟨rb, 0, none⟩), x1, undef, undef, u4, v5, u6, u7, u8, u9, u10, x11, x12, x13, u14, u15, u16, u17, u18, u19, u20, u21, u22, u23, u24, u25, u26, u27, u28, u29, u30, u31, u32, u33, u34, u35, u36, u37, u38, u39, u40, u41, u42, u43, u44, u45, u46, u47, u48, u49, u50, u51, u52, u53, u54, u55, u56, u57, u58, u59, u60, u61, u62, u63, u64, u65, u66, u67, u68, u69, u70, u71, u72, u73, u74, u75, u76, u77, u78, u79, u80, u81, u82, u83, u84, u85, u86, u87, u88, u89, u90, u91, u92, u93, u94, u95, u96, u97, u98, u99, u100, u101, u102, u103, u104, u105, u106, u107, u108, u109, u110, u111, u112, u113, u114, u115, u116, u117, u118, u119, u120, u121, u122, u123, u124, u125, u126, u127, u128, u129], []⟩ wq) :
 Code.wp Tryz.prog tail104 (Exit.inBlock 1 Q') ⟨#[.pointer (some ⟨rb, 0, none⟩), x1, undef, undef, u4, .slice (some ⟨b5, 0, none⟩) st'.length c5, .pointer (some ⟨tb, 0, none⟩), .int .i64 on, .pointer (some ⟨eb, 0, none⟩), u9, u10, x11, x12, x13, u14, u15, u16, u17, u18, u19, u20, u21, u22, u23, u24, u25, u26, u27, u28, u29, u30, u31, u32, u33, u34, u35, u36, u37, u38, u39, u40, u41, u42, u43, u44, u45, u46, u47, u48, u49, u50, u51, u52, u53, u54, u55, u56, u57, u58, u59, u60, u61, u62, x63, u64, u65, u66, u67, u68, u69, u70, u71, u72, u73, u74, u75, u76, u77, u78, u79, u80, u81, u82, u83, u84, u85, u86, u87, u88, u89, u90, u91, u92, u93, u94, u95, u96, u97, u98, u99, u100, u101, u102, u103, u104, u105, u106, u107, u108, u109, u110, u111, u112, u113, u114, u115, u116, u117, u118, u119, u120, u121, u122, u123, u124, u125, u126, u127, u128, u129], []⟩ wc := by
 conv => arg 2; whnf
 have HQ := Lib.hid hQ
 clear hQ
 have hw8 : (0 : Int) ≤ (st'.length : Int) := by omega
 obtain ⟨hro4, hrd4, bA4, bE4, hpop4, hmp4, hT4, hHr4, hes4, hF4, gW4, hno4⟩ := hcut
 have htbl := bA4.lt
 have hebl := bE4.lt
 have hon2 := hon
 go_wp2_with fail
 refine wp_region_X (S := (fun w' => w'.cell? ⟨rb, 2, none⟩ = some (.slice oa on oc) ∧ w'.cell? ⟨eb, 0, none⟩ = some (.int .i64 d.k) ∧ w'.cell? ⟨eb, 1, none⟩ = some (.int .i64 d.i) ∧ w'.cell? ⟨eb, 2, none⟩ = some (.int .i64 d.w) ∧ w'.cell? ⟨eb, 3, none⟩ = some (.int .i64 d.v))) [18] (by kernel_rfl) ?_
 refine wpAnyX_takeY (i := 0) (v := ?_) rfl (by kernel_rfl) (fun _ _ _ h => hPa _ _ _ _ (by rfl) h) (fun _ => (keep16 hrd4 bE4)) (Or.inl ⟨by rfl, ?_⟩) ?_
 rotate_left
 ·(intro wq _; go_simp <;> with_reducible rfl)
 try go_frame
 refine wpAnyX_takeY (i := 1) (v := ?_) rfl (by kernel_rfl) (fun _ _ _ h => hPa _ _ _ _ (by rfl) h) (fun _ => (keep16 hrd4 bE4)) (Or.inl ⟨by rfl, ?_⟩) ?_
 rotate_left
 ·(intro wq _; go_simp <;> with_reducible rfl)
 try go_frame
 refine wpAnyX_takeY (i := 2) (v := ?_) rfl (by kernel_rfl) (fun _ _ _ h => hPa _ _ _ _ (by rfl) h) (fun _ => (keep16 hrd4 bE4)) (Or.inl ⟨by rfl, ?_⟩) ?_
 rotate_left
 ·(intro wq _; go_simp <;> with_reducible rfl)
 try go_frame
 refine wpAnyX_takeY (i := 3) (v := ?_) rfl (by kernel_rfl) (fun _ _ _ h => hPa _ _ _ _ (by rfl) h) (fun _ => (keep16 hrd4 bE4)) (Or.inl ⟨by rfl, ?_⟩) ?_
 rotate_left
 ·(intro wq _; go_simp <;> with_reducible rfl)
 try go_frame
 refine wpAnyX_takeY (i := 5) (v := ?_) rfl (by kernel_rfl) (fun _ _ _ h => hPa _ _ _ _ (by rfl) h) (fun _ => (keep16 hrd4 bE4)) (Or.inl ⟨by rfl, ?_⟩) ?_
 rotate_left
 ·(intro wq _; go_simp <;> with_reducible rfl)
 try go_frame
 refine wpAnyX_takeY (i := 7) (v := ?_) rfl (by kernel_rfl) (fun _ _ _ h => hPa _ _ _ _ (by rfl) h) (fun _ => (keep16 hrd4 bE4)) (Or.inl ⟨by rfl, ?_⟩) ?_
 rotate_left
 ·(intro wq _; go_simp <;> with_reducible rfl)
 try go_frame
 refine wpAnyX_takeY (i := 9) (v := ?_) rfl (by kernel_rfl) (fun _ _ _ h => hPa _ _ _ _ (by rfl) h) (fun _ => (keep16 hrd4 bE4)) (Or.inl ⟨by rfl, ?_⟩) ?_
 rotate_left
 ·(intro wq _; go_simp <;> with_reducible rfl)
 try go_frame
 refine wpAnyX_takeY (i := 11) (v := ?_) rfl (by kernel_rfl) (fun _ _ _ h => hPa _ _ _ _ (by rfl) h) (fun _ => (keep16 hrd4 bE4)) (Or.inl ⟨by rfl, ?_⟩) ?_
 rotate_left
 ·(intro wq _; go_simp <;> with_reducible rfl)
 try go_frame
 refine wpAnyX_take (i := 4) (v := ?_) rfl (by kernel_rfl) (fun _ _ _ h => hPa _ _ _ _ (by rfl) h) (keep16 hrd4 bE4) (Or.inl ⟨by rfl, ?_⟩) ?_
 rotate_left
 ·(intro wq hSq; obtain ⟨s0, s1, s2, s3, s4⟩ := hSq; go_simp <;> with_reducible rfl)
 try go_frame
 refine wpAnyX_take (i := 6) (v := ?_) rfl (by kernel_rfl) (fun _ _ _ h => hPa _ _ _ _ (by rfl) h) (keep16 hrd4 bE4) (Or.inl ⟨by rfl, ?_⟩) ?_
 rotate_left
 ·(intro wq hSq; obtain ⟨s0, s1, s2, s3, s4⟩ := hSq; go_simp <;> with_reducible rfl)
 try go_frame
 refine wpAnyX_take (i := 8) (v := ?_) rfl (by kernel_rfl) (fun _ _ _ h => hPa _ _ _ _ (by rfl) h) (keep16 hrd4 bE4) (Or.inl ⟨by rfl, ?_⟩) ?_
 rotate_left
 ·(intro wq hSq; obtain ⟨s0, s1, s2, s3, s4⟩ := hSq; go_simp <;> with_reducible rfl)
 try go_frame
 refine wpAnyX_take (i := 10) (v := ?_) rfl (by kernel_rfl) (fun _ _ _ h => hPa _ _ _ _ (by rfl) h) (keep16 hrd4 bE4) (Or.inl ⟨by rfl, ?_⟩) ?_
 rotate_left
 ·(intro wq hSq; obtain ⟨s0, s1, s2, s3, s4⟩ := hSq; go_simp <;> with_reducible rfl)
 try go_frame
 refine wpAnyX_take (i := 12) (v := ?_) rfl (by kernel_rfl) (fun _ _ _ h => hPa _ _ _ _ (by rfl) h) (keep16 hrd4 bE4) (Or.inl ⟨by rfl, ?_⟩) ?_
 rotate_left
 ·(intro wq hSq; obtain ⟨s0, s1, s2, s3, s4⟩ := hSq; go_simp <;> with_reducible rfl)
 try go_frame
 refine wpAnyX_takeY (i := 13) (v := ?_) rfl (by kernel_rfl) (fun _ _ _ h => hPa _ _ _ _ (by rfl) h) (fun _ => (keep16 hrd4 bE4)) (Or.inl ⟨by rfl, ?_⟩) ?_
 rotate_left
 ·(intro wq _; go_simp <;> with_reducible rfl)
 try go_frame
 refine wpAnyX_ready (rs := [14]) (by kernel_rfl) (by simp) ?_
 refine ReadyX.cons rfl (fun K hK => ?_) ReadyX.nil
 go_simp
 refine hK.out _ _ (keep16 ((fr_d1 gW4 _).at hrd4 id) ((fr_d1 gW4 _).at bE4 id)) (fun hS1 => ?_)
 clear hK K
 try go_frame
 refine wpAnyX_ready (rs := [15]) (by kernel_rfl) (by simp) ?_
 refine ReadyX.cons rfl (fun K hK => ?_) ReadyX.nil
 refine step_append_fr (by rfl) _ _ 30 (by rfl) 88 (.agg #[.int .i64 0, .int .i64 0, .int .i64 0, .int .i64 0, .int .i64 0, .int .i64 0]) 6 48 Tryz.underlying30 Tryz.info88 rfl (by decide) (by decide) (.slice oa on oc) on (nVs (setc out sp ss on)) (by rfl) (gW4.alloc _).drew (hro4.fr (fr_d1 gW4 _) (fun _ _ h => h)) ⟨wc.heap.size, 0, none⟩ 1 1 (nV ⟨d, -1, -1⟩) (by rfl) (by rfl) (news1 (heap_alloc_new wc _)) (by simp [Value.oneCell', nV]) (by simp only [maxLen]; omega) (by omega) (by decide) ?_
 intro v5 w5 happ
 have hA := app_of happ (fr_d1 gW4 _)
 obtain ⟨b6, cap6, rfl⟩ := hA.2.2.2.1
 have h66 := (hA.1.at hrd4 (hro4.notin hrd4 (by decide))).free 2
 have h67 := (hA.1.at hrd4 (hro4.notin hrd4 (by decide))).cell 2
 refine hK.out _ _ (keep16 (hA.1.at hrd4 (hro4.notin hrd4 (by decide))) (hA.1.at bE4 (hro4.notin bE4 (by decide)))) (fun hS2 => ?_)
 clear hK K
 try go_frame
 refine wpAnyX_takeY (i := 16) (v := ?_) rfl (by kernel_rfl) (fun _ _ _ h => hPa _ _ _ _ (by rfl) h) (fun _ => hS2) (Or.inl ⟨by rfl, ?_⟩) ?_
 rotate_left
 ·(intro wq _; go_simp <;> with_reducible rfl)
 try go_frame
 refine wpAnyX_takeY (i := 17) (v := ?_) rfl (by kernel_rfl) (fun _ _ _ h => hPa _ _ _ _ (by rfl) h) (fun _ => hS2) (Or.inl ⟨by rfl, ?_⟩) ?_
 rotate_left
 ·(intro wq _; go_simp <;> with_reducible rfl)
 try go_frame
 refine wpAnyX_ready (rs := [18]) (by kernel_rfl) (by simp) ?_
 refine ReadyX.last (x := 18) rfl (by kernel_rfl) (fun K hK => ?_) ReadyX.nil
 go_simp
 refine hK.out _ _ ?_
 clear hK K
 try go_frame
 refine wpAnyX_done (by kernel_rfl) ?_ _
 obtain ⟨A1, A2, A3, _, A5⟩ := hA
 have rd5 := A1.at hrd4 (hro4.notin hrd4 (by decide))
 have f5 : Fr g (fun c => c = rb) w5 _ := Fr.setCell (fun c => c = rb) rd5 2 (.slice (some ⟨b6, 0, none⟩) (on + 1) cap6) rfl (fun e => absurd e (by decide))
 have gW6 := A2.setCell rd5 2 (.slice (some ⟨b6, 0, none⟩) (on + 1) cap6)
 have hrd6 := rd5.setCell 2 (.slice (some ⟨b6, 0, none⟩) (on + 1) cap6)
 generalize World.setCell w5 _ _ = W6 at *
 have n88 : ∀ c cs T, Cl g wc c cs T → T ≠ 88 → (Value.slice oa on oc).ownBlock ≠ some c := fun c cs T hc hT => hro4.notin hc (fun h => hT h.symm)
 have f6 : Fr g (fun c => (Value.slice oa on oc).ownBlock = some c ∨ c = rb) wc W6 := Fr.trans A1 f5 (fun _ _ h => .inl h) (fun _ _ h => .inr h)
 have sz46 := f6.size
 have hb6 : w.heap.size ≤ b6 := by
  rcases A5 b6 rfl with h | h
  ·exact hno4 _ h
  ·have := hF4.size; omega
 have hlen6 : (setc out sp ss on ++ [(⟨d, -1, -1⟩ : Ro)]).length = on + 1 := by rw [List.length_append, setc_len, hon]; rfl
 have hro6 : Row g W6 88 6 (.slice (some ⟨b6, 0, none⟩) (on + 1) cap6) (setc out sp ss on ++ [(⟨d, -1, -1⟩ : Ro)]).length (nVs (setc out sp ss on ++ [(⟨d, -1, -1⟩ : Ro)])) := by
  rw [hlen6, nVs_app]
  exact A3.frB f5 (A3.ne rd5 (by decide))
 have hpop6 := hpop4.fr f6 (fun b hb h => by
  rcases h with h | h
  ·exact hpop4.ne2 hro4 (by decide) b hb h
  ·subst h; exact hpop4.notin hrd4 (by decide) hb)
 have hmp6 := f6.at hmp4 (fun h => by
  rcases h with h | h
  ·exact hro4.no hmp4 (by simp) h
  ·exact hrm h.symm)
 have hne6 : ∀ c cs T, Cl g wc c cs T → T ≠ 88 → T ≠ 153 → ¬ ((Value.slice oa on oc).ownBlock = some c ∨ c = rb) := fun c cs T hc h1 h2 h => by
  rcases h with h | h
  ·exact n88 c cs T hc h1 h
  ·subst h; exact hc.ne hrd4 h2 rfl
 have bA6 := f6.at bA4 (hne6 _ _ _ bA4 (by decide) (by decide))
 have bE6 := f6.at bE4 (hne6 _ _ _ bE4 (by decide) (by decide))
 have hT6 := hT4.fr f6 (fun c cs T hc hT => hne6 c cs T hc (by rcases hT with rfl | rfl | rfl <;> decide) (by rcases hT with rfl | rfl | rfl <;> decide))
 have hHr6 : ∀ q ∈ st', HT g W6 q.t ∧ (q.s = 0 ∨ (q.s = 1 ∨ q.s = 2) ∧ q.p < out.length) := fun q hq => ⟨(hHr4 q hq).1.fr f6 (fun c cs T hc hT => hne6 c cs T hc (by rcases hT with rfl | rfl | rfl <;> decide) (by rcases hT with rfl | rfl | rfl <;> decide)), (hHr4 q hq).2⟩
 have hes6 : ∀ e ∈ (es.push { key := .pointer (some ⟨sb, 0, none⟩), val := .bool true, born := clock }).toList, ∃ b, e.key = .pointer (some ⟨b, 0, none⟩) ∧ IsRec W6 b ∧ cntS b st' + cnt b s.t = (if b = sb then 1 else 0) := fun e he => by
  obtain ⟨b, h1, h2, h3⟩ := hes4 e he; exact ⟨b, h1, f6.isRec _ h2, h3⟩
 have hF6 : Fr g (fun c => c = rb ∨ c = mb) w W6 := Fr.trans hF4 f6 (fun _ _ h => h) (fun c hc h => by
  rcases h with h | h
  ·have := hno4 c h; omega
  ·exact .inl h)
 have HH6 := Lib.hid (And.intro hHr6 hes6)
 clear hro4 hrd4 bA4 bE4 hpop4 hmp4 hT4 hHr4 hes4 hF4 gW4 hno4 A1 A2 A3 A5 rd5 f5 f6 n88 hne6 hHr6 hes6 happ h66 h67
 have e4 := bE6.cell 4
 cases hst : s.t with
 | leaf x d' =>
   have HDo := HD.out
   rw [hst] at HDo
   obtain ⟨rfl, rfl, rfl, hp, hss'⟩ := HDo
   have hs1' : s.t.size = 1 := by rw [hst]; rfl
   have hlen7 : (setc out sp ss on ++ [(⟨d', -1, -1⟩ : Ro)]).length = on + 1 := hlen6
   have hseq : s = ⟨.leaf x d', sp, ss⟩ := by cases s; simp only at hst hp hss'; subst hst hp hss'; rfl
   have hres : RdSt g rb mb m t w (.slice (some ⟨b5, 0, none⟩) st'.length c5) W6 (sumT st') :=
    ⟨st', setc out sp ss on ++ [⟨d', -1, -1⟩], _, _, _, hpop6, hrd6, hro6, hmp6, by rw [← hfin', hseq, fin_leaf, hon], fun q hq => ⟨(HH6.out.1 q hq).1, (HH6.out.1 q hq).2.imp id (fun h => ⟨h.1, by rw [hlen7]; omega⟩)⟩,
     fun e he => by
      obtain ⟨b, h1, h2, h3⟩ := HH6.out.2 e he
      refine ⟨b, h1, h2, ?_⟩
      rw [hst] at h3
      simp only [cnt] at h3
      split at h3
      ·rename_i hb; rw [hb] at h3 ⊢; have := one_self x.1; simp only [T.ann] at h3 ⊢; omega
      ·omega,
     fun a => by have := hcn a; rw [cntS_app] at this; omega, fun b hb => hn5 b hb, fun b hb => by simp [Value.ownBlock] at hb; subst hb; exact hb6, hF6, gW6.mono (by omega), rfl, by omega, by rw [hlen7]; omega⟩
   have HRES := Lib.hid hres
   clear hres hpop6 hrd6 hro6 hmp6 hT6 hF6 gW6 bA6
   rw [show (T.leaf x d' : HTree).isLeaf = true from rfl] at e4
   go_wp2_with fail
   exact HQ.out _ _ _ _ _ _ _ _ _ _ _ _ _ _ _ _ _ _ _ _ _ _ _ _ _ _ _ _ _ _ _ _ _ _ _ _ _ _ _ _ _ _ _ _ _ _ _ _ _ _ _ _ _ _ _ _ _ _ _ _ _ _ _ _ _ _ _ _ _ _ _ _ _ _ _ _ _ _ _ _ _ _ _ _ _ _ _ _ _ _ _ _ _ _ _ _ _ _ _ _ _ _ _ _ _ _ _ _ _ _ _ _ _ _ _ _ _ _ _ _ _ _ _ ⟨_, by omega, HRES.out⟩
 | node x d' l r =>
   have HDo := HD.out
   rw [hst] at HDo
   obtain ⟨rfl, rfl, rfl, hp, hss'⟩ := HDo
   rw [hst] at hT6
   have hs1' : s.t.size = l.size + r.size + 1 := by rw [hst]; rfl
   have hseq : s = ⟨.node x d' l r, sp, ss⟩ := by cases s; simp only at hst hp hss'; subst hst hp hss'; rfl
   rw [show (T.node x d' l r : HTree).isLeaf = false from rfl] at e4
   have hLf := Left_inner gW6.drew (by omega) (hT6.1.fr0 (Fr.drew g No W6))
   unfold ptr at hLf
   go_wp2_with fail
   have hS := keep18 hrd6.drew bA6.drew
   refine wp_region_X (S := fun w' => w'.cell? ⟨rb, 0, none⟩ = some (gval g) ∧ w'.cell? ⟨tb, 0, none⟩ = some (.pointer (some ⟨x.1, 0, none⟩))) [] (by kernel_rfl) ?_
   refine wpAnyX_takeY (i := 0) (v := ?_) rfl (by kernel_rfl) (fun _ _ _ h => hPa _ _ _ _ (by rfl) h) (fun _ => hS) (Or.inl ⟨by rfl, ?_⟩) ?_
   rotate_left
   ·(intro wq _; go_simp <;> with_reducible rfl)
   try go_frame
   refine wpAnyX_takeY (i := 1) (v := ?_) rfl (by kernel_rfl) (fun _ _ _ h => hPa _ _ _ _ (by rfl) h) (fun _ => hS) (Or.inl ⟨by rfl, ?_⟩) ?_
   rotate_left
   ·(intro wq _; go_simp <;> with_reducible rfl)
   try go_frame
   refine wpAnyX_takeY (i := 2) (v := ?_) rfl (by kernel_rfl) (fun _ _ _ h => hPa _ _ _ _ (by rfl) h) (fun _ => hS) (Or.inl ⟨by rfl, ?_⟩) ?_
   rotate_left
   ·(intro wq _; go_simp <;> with_reducible rfl)
   try go_frame
   refine wpAnyX_takeY (i := 4) (v := ?_) rfl (by kernel_rfl) (fun _ _ _ h => hPa _ _ _ _ (by rfl) h) (fun _ => hS) (Or.inl ⟨by rfl, ?_⟩) ?_
   rotate_left
   ·(intro wq _; go_simp <;> with_reducible rfl)
   try go_frame
   refine wpAnyX_takeY (i := 7) (v := ?_) rfl (by kernel_rfl) (fun _ _ _ h => hPa _ _ _ _ (by rfl) h) (fun _ => hS) (Or.inl ⟨by rfl, ?_⟩) ?_
   rotate_left
   ·(intro wq _; go_simp <;> with_reducible rfl)
   try go_frame
   refine wpAnyX_takeY (i := 8) (v := ?_) rfl (by kernel_rfl) (fun _ _ _ h => hPa _ _ _ _ (by rfl) h) (fun _ => hS) (Or.inl ⟨by rfl, ?_⟩) ?_
   rotate_left
   ·(intro wq _; go_simp <;> with_reducible rfl)
   try go_frame
   refine wpAnyX_takeY (i := 9) (v := ?_) rfl (by kernel_rfl) (fun _ _ _ h => hPa _ _ _ _ (by rfl) h) (fun _ => hS) (Or.inl ⟨by rfl, ?_⟩) ?_
   rotate_left
   ·(intro wq _; go_simp <;> with_reducible rfl)
   try go_frame
   refine wpAnyX_takeY (i := 11) (v := ?_) rfl (by kernel_rfl) (fun _ _ _ h => hPa _ _ _ _ (by rfl) h) (fun _ => hS) (Or.inl ⟨by rfl, ?_⟩) ?_
   rotate_left
   ·(intro wq _; go_simp <;> with_reducible rfl)
   try go_frame
   refine wpAnyX_take (i := 3) (v := ?_) rfl (by kernel_rfl) (fun _ _ _ h => hPa _ _ _ _ (by rfl) h) hS (Or.inl ⟨by rfl, ?_⟩) ?_
   rotate_left
   ·(intro wq hSq; have z0 := hSq.1; have z1 := hSq.2; go_simp <;> with_reducible rfl)
   try go_frame
   refine wpAnyX_take (i := 5) (v := ?_) rfl (by kernel_rfl) (fun _ _ _ h => hPa _ _ _ _ (by rfl) h) hS (Or.inl ⟨by rfl, ?_⟩) ?_
   rotate_left
   ·(intro wq hSq; have z0 := hSq.1; have z1 := hSq.2; go_simp <;> with_reducible rfl)
   try go_frame
   refine wpAnyX_take (i := 10) (v := ?_) rfl (by kernel_rfl) (fun _ _ _ h => hPa _ _ _ _ (by rfl) h) hS (Or.inl ⟨by rfl, ?_⟩) ?_
   rotate_left
   ·(intro wq hSq; have z0 := hSq.1; have z1 := hSq.2; go_simp <;> with_reducible rfl)
   try go_frame
   refine wpAnyX_take (i := 12) (v := ?_) rfl (by kernel_rfl) (fun _ _ _ h => hPa _ _ _ _ (by rfl) h) hS (Or.inl ⟨by rfl, ?_⟩) ?_
   rotate_left
   ·(intro wq hSq; have z0 := hSq.1; have z1 := hSq.2; go_simp <;> with_reducible rfl)
   try go_frame
   refine wpAnyX_ready (rs := [6]) (by kernel_rfl) (by simp) ?_
   refine ReadyX.cons rfl (fun K hK => ?_) ReadyX.nil
   go_simp
   refine hLf.mono ?_
   rintro e w7 ⟨rfl, f7, g7⟩
   have hRt := Right_inner g7 (by omega) (hT6.1.fr0 ((Fr.drew g No W6).tr f7))
   unfold ptr at hRt
   have hSn := keep18 (((Fr.drew g No W6).tr f7).at hrd6 id) (((Fr.drew g No W6).tr f7).at bA6 id)
   refine hK.out _ _ hSn (fun hSx => ?_)
   clear hK K hS
   have hS := hSx
   clear hSx hSn
   try go_frame
   refine wpAnyX_ready (rs := [13]) (by kernel_rfl) (by simp) ?_
   refine ReadyX.cons rfl (fun K hK => ?_) ReadyX.nil
   go_simp
   refine hRt.mono ?_
   rintro e w8 ⟨rfl, f8, g8⟩
   have hSn := keep18 ((((Fr.drew g No W6).tr f7).tr f8).at hrd6 id) ((((Fr.drew g No W6).tr f7).tr f8).at bA6 id)
   refine hK.out _ _ hSn (fun hSx => ?_)
   clear hK K hS
   have hS := hSx
   clear hSx hSn
   try go_frame
   refine wpAnyX_takeY (i := 14) (v := ?_) rfl (by kernel_rfl) (fun _ _ _ h => hPa _ _ _ _ (by rfl) h) (fun _ => hS) (Or.inl ⟨by rfl, ?_⟩) ?_
   rotate_left
   ·(intro wq _; go_simp <;> with_reducible rfl)
   try go_frame
   refine wpAnyX_takeY (i := 15) (v := ?_) rfl (by kernel_rfl) (fun _ _ _ h => hPa _ _ _ _ (by rfl) h) (fun _ => hS) (Or.inl ⟨by rfl, ?_⟩) ?_
   rotate_left
   ·(intro wq _; go_simp <;> with_reducible rfl)
   try go_frame
   refine wpAnyX_done (by kernel_rfl) ?_ _
   have fR := ((Fr.drew g No W6).tr f7).tr f8
   have hrd8 := fR.at hrd6 id
   have hro8 := hro6.fr fR (fun _ _ h => h)
   have hpop8 := hpop6.fr fR (fun _ _ h => h)
   have hmp8 := fR.at hmp6 id
   have hT8 := hT6.fr0 fR
   have hF8 := hF6.tr (fR.mono (fun _ _ h => h.elim))
   clear hrd6 hro6 hpop6 hmp6 hT6 hF6 gW6 bA6 bE6 hS f7 g7 hLf hRt
   have hlen7 : (setc out sp ss on ++ [(⟨d', -1, -1⟩ : Ro)]).length = on + 1 := hlen6
   have hlr2 : l.size + r.size + 1 = s.t.size := hs1'.symm
   have hsl2 := l.size_pos
   have hsr2 := r.size_pos
   have HH8 : Hid ((∀ q ∈ st', HT g w8 q.t ∧ (q.s = 0 ∨ (q.s = 1 ∨ q.s = 2) ∧ q.p < out.length)) ∧ ∀ e ∈ (es.push { key := .pointer (some ⟨x.1, 0, none⟩), val := .bool true, born := clock }).toList, ∃ b, e.key = .pointer (some ⟨b, 0, none⟩) ∧ IsRec w8 b ∧ cntS b st' + cnt b s.t = (if b = x.1 then 1 else 0)) :=
    ⟨fun q hq => ⟨(HH6.out.1 q hq).1.fr0 fR, (HH6.out.1 q hq).2⟩, fun e he => by obtain ⟨b, h1, h2, h3⟩ := HH6.out.2 e he; exact ⟨b, h1, fR.isRec _ h2, h3⟩⟩
   clear HH6 fR f8
   simp only [List.getElem_toArray, List.getElem_cons_succ, List.getElem_cons_zero, List.setIfInBounds_toArray, List.set_cons_succ, List.set_cons_zero]
   go_wp2_with (at_builtin
                refine wpList_append_fr rfl _ _ 229 rfl 228 (.agg #[.pointer none, .int .i64 0, .int .i64 0]) 3 24 Tryz.underlying229 Tryz.info228 rfl (by decide) (by decide) (g8.alloc _) (.slice (some ⟨b5, 0, none⟩) st'.length c5) st'.length (tdVs st') rfl (hpop8.fr (Fr.alloc g No _ _ g8) (fun _ _ h => h)) ⟨w8.heap.size, 0, none⟩ 2 2 (tdVs [⟨r, on, 2⟩, ⟨l, on, 1⟩]) rfl rfl (news1 (heap_alloc_new w8 _)) (by simp [tdVs, tdV, Value.oneCell']) (by simp only [maxLen]; omega) (by omega) (by decide) ?_
                intro v9 w9 happ
                have hA := app_of happ (Fr.alloc g No w8 _ g8)
                obtain ⟨b9, cap9, rfl⟩ := hA.2.2.2.1
                have HA := Lib.hid hA
                clear happ hA)
   obtain ⟨A1, A2, A3, _, A5⟩ := HA.out
   have n228 : ∀ c cs T, Cl g w8 c cs T → T ≠ 228 → (Value.slice (some ⟨b5, 0, none⟩) st'.length c5).ownBlock ≠ some c := fun c cs T hc hT => hpop8.notin hc (fun h => hT h.symm)
   have hT9 := hT8.fr A1 (fun c cs T hc hT => n228 c cs T hc (by rcases hT with rfl | rfl | rfl <;> decide))
   have hres : RdSt g rb mb m t w (.slice (some ⟨b9, 0, none⟩) (st'.length + 2) cap9) w9 (sumT (st' ++ [⟨r, on, 2⟩, ⟨l, on, 1⟩])) := by
    refine ⟨st' ++ [⟨r, on, 2⟩, ⟨l, on, 1⟩], setc out sp ss on ++ [⟨d', -1, -1⟩], _, _, _, by rw [List.length_append, tdVs_app]; exact A3, A1.at hrd8 (n228 _ _ _ hrd8 (by decide)), hro8.fr A1 (fun b hb h => hro8.ne2 hpop8 (by decide) b hb h), A1.at hmp8 (fun h => hpop8.no hmp8 (by simp) h), ?_, ?_, ?_, ?_, ?_, ?_, ?_, A2.mono ?_, rfl, ?_, ?_⟩
    ·rw [← hfin', hseq, fin_node, hon]; simp
    ·intro q hq
     rcases List.mem_append.1 hq with h | h
     ·exact ⟨(HH8.out.1 q h).1.fr A1 (fun c cs T hc hT => n228 c cs T hc (by rcases hT with rfl | rfl | rfl <;> decide)), (HH8.out.1 q h).2.imp id (fun h => ⟨h.1, by rw [hlen7]; omega⟩)⟩
     ·simp only [List.mem_cons, List.not_mem_nil, or_false] at h
      rcases h with rfl | rfl
      ·exact ⟨hT9.2.2, .inr ⟨.inr rfl, by rw [hlen7]; exact Nat.lt_succ_self _⟩⟩
      ·exact ⟨hT9.2.1, .inr ⟨.inl rfl, by rw [hlen7]; exact Nat.lt_succ_self _⟩⟩
    ·intro e he
     obtain ⟨b, h1, h2, h3⟩ := HH8.out.2 e he
     refine ⟨b, h1, A1.isRec _ h2, ?_⟩
     rw [cntS_app]
     rw [hst] at h3
     simp only [cnt, cntS, List.map_cons, List.map_nil, List.sum_cons, List.sum_nil] at h3 ⊢
     split at h3
     ·rename_i hb; rw [hb] at h3 ⊢; have := one_self x.1; omega
     ·omega
    ·intro a
     have := hcn a
     rw [cntS_app] at this ⊢
     simp only [cntS, List.map_cons, List.map_nil, List.sum_cons, List.sum_nil, hst, cnt] at this ⊢
     omega
    ·intro b hb
     rcases A5 b hb with h | h
     ·exact hn5 b h
     ·have := hF8.size; omega
    ·intro b hb; simp [Value.ownBlock] at hb; subst hb; exact hb6
    ·exact Fr.trans hF8 A1 (fun _ _ h => h) (fun c hc h => by have := hn5 c h; omega)
    ·rw [sumT_app, sumT_2]; omega
    ·rw [sumT_app, sumT_2]; omega
    ·rw [sumT_app, sumT_2, hlen7]; omega
   have HRES := Lib.hid hres
   clear hres
   exact HQ.out _ _ _ _ _ _ _ _ _ _ _ _ _ _ _ _ _ _ _ _ _ _ _ _ _ _ _ _ _ _ _ _ _ _ _ _ _ _ _ _ _ _ _ _ _ _ _ _ _ _ _ _ _ _ _ _ _ _ _ _ _ _ _ _ _ _ _ _ _ _ _ _ _ _ _ _ _ _ _ _ _ _ _ _ _ _ _ _ _ _ _ _ _ _ _ _ _ _ _ _ _ _ _ _ _ _ _ _ _ _ _ _ _ _ _ _ _ _ _ _ _ _ _ ⟨_, by (rw [sumT_app, sumT_2]; omega), HRES.out⟩
end Go.Proofs.YtdmobhndbibhoaaGreat
