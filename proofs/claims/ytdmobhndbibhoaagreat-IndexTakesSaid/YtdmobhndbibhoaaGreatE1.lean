/- Plain laws of index: how great the trees grow, what the operations do to the pairs; lists that were handed in. -/
import Derived.Test.YtdmobhndbibhoaaGreatC12
namespace Go.Proofs.YtdmobhndbibhoaaGreat
open Go.RowKit Larch
set_option maxRecDepth 100000
set_option linter.unusedVariables false
set_option linter.unusedSimpArgs false
theorem bst_size {α : Type} : ∀ {t : T α} {lo hi : Option Int}, Bst lo hi t → t.size + 1 = 2 * (pairs t).length := by
 intro t
 induction t with
 | leaf x d => rintro lo hi ⟨h, _⟩; simp [T.size, pairs, h]
 | node x d l r ihl ihr =>
   rintro lo hi ⟨_, h1, h2⟩
   have := ihl h1
   have := ihr h2
   simp only [T.size, pairs, List.length_append]
   omega
theorem good_size {t : T Unit} (h : Larch.Good t) : t.size ≤ 2 * (pairs t).length + 3 := by
 rcases h with rfl | ⟨r, _, rfl, _, _, hb⟩
 ·decide
 ·have := bst_size hb
  have e : pairs (crown r) = pairs r := by simp [crown, pairs, cr]
  rw [e]
  simp only [crown, T.size]
  omega
theorem insL_len (k v : Int) (m : List (Int × Int)) : (insL k v m).length ≤ m.length + 1 := by
 have h : ∀ l : List (Int × Int), (l.filter fun p => decide (p.1 < k)).length + (l.filter fun p => decide (k < p.1)).length ≤ l.length := by
  intro l
  induction l with
  | nil => simp
  | cons p l ih =>
    simp only [List.filter_cons, List.length_cons]
    by_cases h1 : p.1 < k <;> by_cases h2 : k < p.1 <;> simp [h1, h2] <;> omega
 have := h m
 simp only [insL, List.length_append, List.length_cons]
 omega
def ofT (ps : List (Int × Int)) (t : T Unit) : T Unit := ps.foldl (fun t p => putT p.1 p.2 false t) t
def ofL (ps m : List (Int × Int)) : List (Int × Int) := ps.foldl (fun m p => insL p.1 p.2 m) m
theorem put_pairs {t : T Unit} (h : Larch.Good t) (k v : Int) : Larch.Good (putT k v false t) ∧ pairs (putT k v false t) = insL k v (pairs t) := by
 have := put_good (key := k) (val := v) h false
 simpa using this
theorem ofT_good (ps : List (Int × Int)) : ∀ {t : T Unit}, Larch.Good t → Larch.Good (ofT ps t) ∧ pairs (ofT ps t) = ofL ps (pairs t) := by
 induction ps with
 | nil => exact fun h => ⟨h, rfl⟩
 | cons p ps ih =>
   intro t h
   obtain ⟨h1, h2⟩ := put_pairs h p.1 p.2
   obtain ⟨h3, h4⟩ := ih h1
   exact ⟨h3, by rw [show ofT (p :: ps) t = ofT ps (putT p.1 p.2 false t) from rfl, h4, h2]; rfl⟩
theorem ofL_len (ps : List (Int × Int)) : ∀ m : List (Int × Int), (ofL ps m).length ≤ m.length + ps.length := by
 induction ps with
 | nil => intro m; simp [ofL]
 | cons p ps ih =>
   intro m
   have h1 := ih (insL p.1 p.2 m)
   have h2 := insL_len p.1 p.2 m
   rw [show ofL (p :: ps) m = ofL ps (insL p.1 p.2 m) from rfl]
   simp only [List.length_cons]
   omega
theorem ofT_take (ps : List (Int × Int)) (k : Nat) (p : Int × Int) (h : ps[k]? = some p) (t : T Unit) : ofT (ps.take (k + 1)) t = putT p.1 p.2 false (ofT (ps.take k) t) := by
 rw [List.take_add_one, h]
 simp [ofT, List.foldl_append]
theorem good_empty : Larch.Good emptyT := .inl rfl
theorem ofT_size (ps : List (Int × Int)) : (ofT ps emptyT).size ≤ 2 * ps.length + 3 := by
 obtain ⟨h1, h2⟩ := ofT_good ps good_empty
 have := good_size h1
 have h3 := ofL_len ps (pairs emptyT)
 rw [h2] at this
 have : (pairs emptyT).length = 0 := by decide
 omega
def opL (kind key val : Int) (m : List (Int × Int)) : List (Int × Int) :=
 if kind = 2 then insL key val m else if kind = 3 then (if (getL key m).isSome then m else insL key val m) else if kind = 4 then delL key m else m
theorem opT_good {kind key val : Int} {t : T Unit} (h : Larch.Good t) : Larch.Good (opT kind key val t) ∧ pairs (opT kind key val t) = opL kind key val (pairs t) := by
 unfold opT opL
 split
 ·exact put_pairs h key val
 ·split
  ·have := put_good (key := key) (val := val) h true
   refine ⟨this.1, this.2.trans ?_⟩
   cases hg : getL key (pairs t) <;> simp
  ·split
   ·exact del_good h
   ·exact ⟨h, rfl⟩
theorem opL_len (kind key val : Int) (m : List (Int × Int)) : (opL kind key val m).length ≤ m.length + 1 := by
 unfold opL
 split
 ·exact insL_len _ _ _
 ·split
  ·split
   ·omega
   ·exact insL_len _ _ _
  ·split
   ·exact Nat.le_succ_of_le (List.length_filter_le _ _)
   ·omega
theorem flat_get {α : Type} {f : α → List Value} {s : Nat} (hf : ∀ x, (f x).length = s) : ∀ (xs : List α) (k : Nat) (x : α) (j : Nat), xs[k]? = some x → j < s → (xs.flatMap f)[k * s + j]? = (f x)[j]? := by
 intro xs
 induction xs with
 | nil => intro k x j h; simp at h
 | cons y xs ih =>
   intro k x j h hj
   cases k with
   | zero =>
     obtain rfl : y = x := by simpa using h
     rw [List.flatMap_cons, Nat.zero_mul, Nat.zero_add, List.getElem?_append_left (by rw [hf]; exact hj)]
   | succ k =>
     have := ih k x j (by simpa using h) hj
     rw [List.flatMap_cons, List.getElem?_append_right (by rw [hf, Nat.succ_mul]; omega), hf, ← this]
     congr 1
     rw [Nat.succ_mul]; omega
theorem flat_len {α : Type} {f : α → List Value} {s : Nat} (hf : ∀ x, (f x).length = s) (xs : List α) : (xs.flatMap f).length = xs.length * s := by
 induction xs with
 | nil => simp
 | cons y xs ih => rw [List.flatMap_cons, List.length_append, hf, ih, List.length_cons, Nat.succ_mul]; omega
def Arg (g : Gt) (w : World) (size : Nat) (v : Value) (n : Nat) (xs : List Value) : Prop :=
 xs.length = n * size ∧ ∃ a c, v = .slice a n c ∧ (0 < n → ∃ b off, a = some ⟨b, off, none⟩ ∧ g.no b ∧ ∀ j, j < n * size → w.cell? ⟨b, off + j, none⟩ = xs[j]?)
theorem cell_heap {w w' : World} {b i : Nat} (h : w'.heap[b]? = w.heap[b]?) : w'.cell? ⟨b, i, none⟩ = w.cell? ⟨b, i, none⟩ := by
 simp only [World.cell?, h]
theorem Arg.fr {g : Gt} {S : Nat → Prop} {w w' : World} {size n : Nat} {v : Value} {xs : List Value} (h : Arg g w size v n xs) (f : Fr g S w w') : Arg g w' size v n xs := by
 obtain ⟨h1, a, c, h2, h3⟩ := h
 refine ⟨h1, a, c, h2, fun hn => ?_⟩
 obtain ⟨b, off, e1, e2, e3⟩ := h3 hn
 exact ⟨b, off, e1, e2, fun j hj => (cell_heap (f.old b e2)).trans (e3 j hj)⟩
theorem Arg.slice {g : Gt} {w : World} {size n : Nat} {v : Value} {xs : List Value} (h : Arg g w size v n xs) : ∃ a c, v = .slice a n c := by
 obtain ⟨_, a, c, h2, _⟩ := h; exact ⟨a, c, h2⟩
theorem Arg.take {g : Gt} {w : World} {size n k : Nat} {a : Option Addr} {c c' : Nat} {xs : List Value} (h : Arg g w size (.slice a n c) n xs) (hk : k ≤ n) : Arg g w size (.slice a k c') k (xs.take (k * size)) := by
 obtain ⟨h1, a', c1, h2, h3⟩ := h
 simp only [Value.slice.injEq] at h2
 obtain ⟨rfl, _, rfl⟩ := h2
 have hm : k * size ≤ n * size := Nat.mul_le_mul_right _ hk
 refine ⟨by rw [List.length_take, h1]; omega, a, c', rfl, fun hn => ?_⟩
 obtain ⟨b, off, e1, e2, e3⟩ := h3 (by omega)
 exact ⟨b, off, e1, e2, fun j hj => by rw [e3 j (by omega), List.getElem?_take_of_lt hj]⟩
theorem Arg.at {g : Gt} {w : World} {size n : Nat} {a : Option Addr} {c : Nat} {xs : List Value} (h : Arg g w size (.slice a n c) n xs) (hn : 0 < n) :
 ∃ b off, a = some ⟨b, off, none⟩ ∧ g.no b ∧ ∀ j, j < n * size → w.cell? ⟨b, off + j, none⟩ = xs[j]? := by
 obtain ⟨h1, a', c1, h2, h3⟩ := h
 simp only [Value.slice.injEq] at h2
 obtain ⟨rfl, _, rfl⟩ := h2
 exact h3 hn
theorem pV1_len (p : Int × Int) : ([Value.int .i64 p.1, .int .i64 p.2] : List Value).length = 2 := rfl
theorem pV_len2 (xs : List (Int × Int)) : (pV xs).length = xs.length * 2 := flat_len pV1_len xs
theorem pV_get0 {xs : List (Int × Int)} {k : Nat} {p : Int × Int} (h : xs[k]? = some p) : (pV xs)[k * 2]? = some (.int .i64 p.1) := flat_get pV1_len xs k p 0 h (by decide)
theorem pV_get1 {xs : List (Int × Int)} {k : Nat} {p : Int × Int} (h : xs[k]? = some p) : (pV xs)[k * 2 + 1]? = some (.int .i64 p.2) := flat_get pV1_len xs k p 1 h (by decide)
theorem pV_take (xs : List (Int × Int)) (k : Nat) (hk : k ≤ xs.length) : (pV xs).take (k * 2) = pV (xs.take k) := by
 have h : pV xs = pV (xs.take k) ++ pV (xs.drop k) := by rw [pV, pV, pV, ← List.flatMap_append, List.take_append_drop]
 rw [h, List.take_left' (by rw [pV_len2, List.length_take]; omega)]
structure OpM where
 kind : Int
 key : Int
 val : Int
 hi : Int
def opV (o : OpM) : List Value := [.int .i64 o.kind, .int .i64 o.key, .int .i64 o.val, .int .i64 o.hi]
def opVs (os : List OpM) : List Value := os.flatMap opV
theorem opV_len (o : OpM) : (opV o).length = 4 := rfl
theorem opVs_len (os : List OpM) : (opVs os).length = os.length * 4 := flat_len opV_len os
theorem opVs_get {os : List OpM} {k : Nat} {o : OpM} (h : os[k]? = some o) (j : Nat) (hj : j < 4) : (opVs os)[k * 4 + j]? = (opV o)[j]? := flat_get opV_len os k o j h hj
end Go.Proofs.YtdmobhndbibhoaaGreat
namespace Go.Proofs.YtdmobhndbibhoaaGreat
open Go.RowKit Larch
set_option maxRecDepth 100000
set_option linter.unusedVariables false
set_option linter.unusedSimpArgs false
attribute [local go_sem ↓] Go.wp_at_zero Go.wp_at_succ
set_option maxHeartbeats 1000000 in
theorem New_any {g : Gt} {m : Nat} {w : World} (hg : GOk g m w) :
 Calls Tryz.prog 11 #[] w fun e w' => ∃ mb be, e = .returned (ptr mb) ∧ Cl g w' mb #[ptr be] 102 ∧ St g m be emptyT w w' ∧ w.heap.size ≤ mb := by
 have hC := crown_new hg
 go_enter Tryz.func11, Tryz.ntmps11
 go_wp2_with fail
 refine hC.mono ?_
 rintro e w1 ⟨be, rfl, hS⟩
 have h1 := hS.alloc (.cells #[ptr be] 102)
 have h2 := At.new hS.gate (.cells #[ptr be] 102)
 have h3 := hS.tf.size
 unfold ptr at *
 go_wp2_with fail
 go_ret
 exact ⟨_, be, rfl, h2, h1, h3⟩
set_option maxHeartbeats 1000000 in
theorem Handle_any {g : Gt} {m mb be : Nat} {gv : Value} {w : World} (hgv : gv = .nilIface ∨ ∃ gb, gv = .iface 46 (.pointer (some ⟨gb, 0, none⟩))) (hg : GOk g m w) (hM : Cl g w mb #[ptr be] 102) :
 Calls Tryz.prog 12 #[ptr mb, gv] w fun e w' => ∃ hb, e = .returned (ptr hb) ∧ Cl g w' hb #[ptr be, gv] 106 ∧ Fr g No w w' ∧ GOk g m w' ∧ w.heap.size ≤ hb := by
 have h0 := hM.cell 0
 have h1 := Fr.alloc g No w (.cells #[ptr be, gv] 106) hg
 have h2 := At.new hg (.cells #[ptr be, gv] 106)
 have h3 := hg.alloc (.cells #[ptr be, gv] 106)
 unfold ptr at *
 rcases hgv with rfl | ⟨gb, rfl⟩
 ·go_enter Tryz.func12, Tryz.ntmps12
  go_wp2_with fail
  go_ret
  exact ⟨_, rfl, h2, h1, h3, Nat.le_refl _⟩
 ·go_enter Tryz.func12, Tryz.ntmps12
  go_wp2_with fail
  go_ret
  exact ⟨_, rfl, h2, h1, h3, Nat.le_refl _⟩
theorem gval_form (g : Gt) : gval g = .nilIface ∨ ∃ gb, gval g = .iface 46 (.pointer (some ⟨gb, 0, none⟩)) := by
 unfold gval
 cases g.gt with
 | none => exact .inl rfl
 | some gb => exact .inr ⟨gb, rfl⟩
theorem keepH {g : Gt} {w : World} {hb be : Nat} (h : Cl g w hb #[ptr be, gval g] 106) : w.cell? ⟨hb, 0, none⟩ = some (.pointer (some ⟨be, 0, none⟩)) ∧ w.cell? ⟨hb, 1, none⟩ = some (gval g) := ⟨h.cell 0, h.cell 1⟩
set_option maxHeartbeats 2000000 in
theorem hPut_any {g : Gt} {m be hb : Nat} {t : T Unit} {key val : Int} {w0 w : World} (hS : St g m be t w0 w) (hH : Cl g w hb #[ptr be, gval g] 106) (hm : m + cost t.size < LIM) (hsz : t.size < 790000) :
 Calls Tryz.prog 17 #[ptr hb, .int .i64 key, .int .i64 val] w (OpQ g (m + cost t.size) be (putT key val false t) (getL key (pairs t)) (getL key (pairs t)).isSome w) := by
 have hC := put_any (key := key) (val := val) hS.drew hm hsz
 have hFD := TF.of (Fr.drew g No w)
 unfold ptr at hC ⊢
 go_enter Tryz.func17, Tryz.ntmps17
 go_wp2_with fail
 have hS := keepH hH.drew
 refine wp_region_X (S := fun w' => w'.cell? ⟨hb, 0, none⟩ = some (.pointer (some ⟨be, 0, none⟩)) ∧ w'.cell? ⟨hb, 1, none⟩ = some (gval g)) [] (by kernel_rfl) ?_
 refine tY 0 _ rfl (by kernel_rfl) (fun _ _ _ => id) hS (by rfl) (by intro wq _; go_simp <;> with_reducible rfl) ?_
 try go_frame
 refine tY 1 _ rfl (by kernel_rfl) (fun _ _ _ => id) hS (by rfl) (by intro wq _; go_simp <;> with_reducible rfl) ?_
 try go_frame
 refine tY 2 _ rfl (by kernel_rfl) (fun _ _ _ => id) hS (by rfl) (by intro wq _; go_simp <;> with_reducible rfl) ?_
 try go_frame
 refine tY 4 _ rfl (by kernel_rfl) (fun _ _ _ => id) hS (by rfl) (by intro wq _; go_simp <;> with_reducible rfl) ?_
 try go_frame
 refine tY 5 _ rfl (by kernel_rfl) (fun _ _ _ => id) hS (by rfl) (by intro wq _; go_simp <;> with_reducible rfl) ?_
 try go_frame
 refine tY 6 _ rfl (by kernel_rfl) (fun _ _ _ => id) hS (by rfl) (by intro wq _; go_simp <;> with_reducible rfl) ?_
 try go_frame
 refine tY 8 _ rfl (by kernel_rfl) (fun _ _ _ => id) hS (by rfl) (by intro wq _; go_simp <;> with_reducible rfl) ?_
 try go_frame
 refine tY 9 _ rfl (by kernel_rfl) (fun _ _ _ => id) hS (by rfl) (by intro wq _; go_simp <;> with_reducible rfl) ?_
 try go_frame
 refine tX 3 _ rfl (by kernel_rfl) (fun _ _ _ => id) hS (by rfl) (by intro wq hSq; have z0 := hSq.1; have z1 := hSq.2; go_simp <;> with_reducible rfl) ?_
 try go_frame
 refine tX 7 _ rfl (by kernel_rfl) (fun _ _ _ => id) hS (by rfl) (by intro wq hSq; have z0 := hSq.1; have z1 := hSq.2; go_simp <;> with_reducible rfl) ?_
 try go_frame
 refine wpAnyX_ready (rs := [10]) (by kernel_rfl) (by simp) ?_
 refine ReadyX.cons rfl (fun K hK => ?_) ReadyX.nil
 go_simp
 refine hC.mono ?_
 rintro e w1 ⟨rfl, hS1⟩
 have hSn := keepH (hS1.tf.at hH.drew (by decide))
 obtain ⟨vv, hvv⟩ : ∃ v, (getL key (pairs t)).getD 0 = v := ⟨_, rfl⟩
 obtain ⟨bb, hbb⟩ : ∃ b, (getL key (pairs t)).isSome = b := ⟨_, rfl⟩
 rw [hvv, hbb]
 have HV := Lib.hid (And.intro hvv hbb)
 clear hvv hbb
 refine hK.out _ _ hSn (fun hSx => ?_)
 clear hK K hS
 have hS := hSx
 clear hSx hSn
 try go_frame
 refine tY 11 _ rfl (by kernel_rfl) (fun _ _ _ => id) hS (by rfl) (by intro wq _; go_simp <;> with_reducible rfl) ?_
 try go_frame
 refine tY 12 _ rfl (by kernel_rfl) (fun _ _ _ => id) hS (by rfl) (by intro wq _; go_simp <;> with_reducible rfl) ?_
 try go_frame
 refine tY 13 _ rfl (by kernel_rfl) (fun _ _ _ => id) hS (by rfl) (by intro wq _; go_simp <;> with_reducible rfl) ?_
 try go_frame
 refine tY 14 _ rfl (by kernel_rfl) (fun _ _ _ => id) hS (by rfl) (by intro wq _; go_simp <;> with_reducible rfl) ?_
 try go_frame
 refine wpAnyX_done (by kernel_rfl) ?_ _
 simp only [List.getElem_toArray, List.getElem_cons_succ, List.getElem_cons_zero, List.setIfInBounds_toArray, List.set_cons_succ, List.set_cons_zero]
 go_wp2_with fail
 go_ret2
 exact ⟨by rw [HV.out.1, HV.out.2]; rfl, ⟨hS1.map, hS1.good, hS1.gate, hFD.trans hS1.tf⟩⟩
theorem do53_any {g : Gt} {m be : Nat} {t : T Unit} {kd key val hi : Int} {w0 w : World} (hk : 1 ≤ kd ∧ kd ≤ 9) (hS : St g m be t w0 w) (hm : m + cost t.size < LIM) (hsz : t.size < 300000) :
 Calls Tryz.prog 53 #[gval g, ptr be, .agg #[.int .i64 kd, .int .i64 key, .int .i64 val, .int .i64 hi]] w (DoQ g (m + cost t.size) be (opT kd key val t) (opR kd key hi (pairs t)) w) := by
 have h : kd = 1 ∨ kd = 2 ∨ kd = 3 ∨ kd = 4 ∨ kd = 5 ∨ kd = 6 ∨ kd = 7 ∨ kd = 8 ∨ kd = 9 := by omega
 rcases h with rfl | rfl | rfl | rfl | rfl | rfl | rfl | rfl | rfl
 ·exact do53_1 hS hm hsz
 ·exact do53_2 hS hm hsz
 ·exact do53_3 hS hm hsz
 ·exact do53_4 hS hm hsz
 ·exact do53_5 hS hm hsz
 ·exact do53_6 hS hm hsz
 ·exact do53_7 hS hm hsz
 ·exact do53_8 hS hm hsz
 ·exact do53_9 hS hm hsz
theorem keepO {g : Gt} {w : World} {hb be ob : Nat} {a b c d : Value} (h : Cl g w hb #[ptr be, gval g] 106) (k : Cl g w ob #[a, b, c, d] 43) :
 w.cell? ⟨hb, 0, none⟩ = some (.pointer (some ⟨be, 0, none⟩)) ∧ w.cell? ⟨hb, 1, none⟩ = some (gval g) ∧ w.cell? ⟨ob, 0, none⟩ = some a ∧ w.cell? ⟨ob, 1, none⟩ = some b ∧ w.cell? ⟨ob, 2, none⟩ = some c ∧ w.cell? ⟨ob, 3, none⟩ = some d :=
 ⟨h.cell 0, h.cell 1, k.cell 0, k.cell 1, k.cell 2, k.cell 3⟩
set_option maxHeartbeats 4000000 in
theorem do13_any {g : Gt} {m be hb : Nat} {t : T Unit} {kd key val hi : Int} {w0 w : World} (hk : 1 ≤ kd ∧ kd ≤ 9) (hS : St g m be t w0 w) (hH : Cl g w hb #[ptr be, gval g] 106) (hm : m + cost t.size < LIM) (hsz : t.size < 300000) :
 Calls Tryz.prog 13 #[ptr hb, .agg #[.int .i64 kd, .int .i64 key, .int .i64 val, .int .i64 hi]] w (DoQ g (m + cost t.size) be (opT kd key val t) (opR kd key hi (pairs t)) w) := by
 have hS0 : St g m be t w w := ⟨hS.map, hS.good, hS.gate, Fr.refl _ _ _⟩
 have hg := hS.gate
 have hF1 := Fr.alloc g No _ (.cells #[.int .i64 kd, .int .i64 key, .int .i64 val, .int .i64 hi] 43) hg
 have hG1 := hg.alloc (.cells #[.int .i64 kd, .int .i64 key, .int .i64 val, .int .i64 hi] 43)
 have hO1 := At.new hg (.cells #[.int .i64 kd, .int .i64 key, .int .i64 val, .int .i64 hi] 43)
 have hF2 := Fr.alloc g No _ (.cells #[.bool false, .int .i64 0, .int .i64 0, .slice none 0 0] 34) hG1
 have hBW := At.new hG1 (.cells #[.bool false, .int .i64 0, .int .i64 0, .slice none 0 0] 34)
 simp only [World.size_alloc] at hBW
 have hOW := hF2.at hO1 id
 have hHW := hF2.at (hF1.at hH id) id
 have hSW := (hS0.alloc (.cells #[.int .i64 kd, .int .i64 key, .int .i64 val, .int .i64 hi] 43)).alloc (.cells #[.bool false, .int .i64 0, .int .i64 0, .slice none 0 0] 34)
 have hC := do53_any (key := key) (val := val) (hi := hi) hk hSW.drew hm hsz
 clear hF1 hG1 hO1 hF2 hg hS0 hH hS
 unfold ptr at hC ⊢
 unfold DoQ RV at hC
 go_enter Tryz.func13, Tryz.ntmps13
 go_wp2_with fail
 generalize hW : World.alloc (World.alloc w _) _ = W at *
 clear hW
 refine wp_region_X (S := (fun w' => w'.cell? ⟨hb, 0, none⟩ = some (.pointer (some ⟨be, 0, none⟩)) ∧ w'.cell? ⟨hb, 1, none⟩ = some (gval g) ∧ w'.cell? ⟨w.heap.size, 0, none⟩ = some (.int .i64 kd) ∧ w'.cell? ⟨w.heap.size, 1, none⟩ = some (.int .i64 key) ∧ w'.cell? ⟨w.heap.size, 2, none⟩ = some (.int .i64 val) ∧ w'.cell? ⟨w.heap.size, 3, none⟩ = some (.int .i64 hi))) [12] (by kernel_rfl) ?_
 refine tY 0 _ rfl (by kernel_rfl) (fun _ _ _ => id) (keepO hHW.drew hOW.drew) (by rfl) (by intro wq _; go_simp <;> with_reducible rfl) ?_
 try go_frame
 refine tY 1 _ rfl (by kernel_rfl) (fun _ _ _ => id) (keepO hHW.drew hOW.drew) (by rfl) (by intro wq _; go_simp <;> with_reducible rfl) ?_
 try go_frame
 refine tY 2 _ rfl (by kernel_rfl) (fun _ _ _ => id) (keepO hHW.drew hOW.drew) (by rfl) (by intro wq _; go_simp <;> with_reducible rfl) ?_
 try go_frame
 refine tY 4 _ rfl (by kernel_rfl) (fun _ _ _ => id) (keepO hHW.drew hOW.drew) (by rfl) (by intro wq _; go_simp <;> with_reducible rfl) ?_
 try go_frame
 refine tY 5 _ rfl (by kernel_rfl) (fun _ _ _ => id) (keepO hHW.drew hOW.drew) (by rfl) (by intro wq _; go_simp <;> with_reducible rfl) ?_
 try go_frame
 refine tY 6 _ rfl (by kernel_rfl) (fun _ _ _ => id) (keepO hHW.drew hOW.drew) (by rfl) (by intro wq _; go_simp <;> with_reducible rfl) ?_
 try go_frame
 refine tX 3 _ rfl (by kernel_rfl) (fun _ _ _ => id) (keepO hHW.drew hOW.drew) (by rfl) (by intro wq hSq; obtain ⟨s0, s1, s2, s3, s4, s5⟩ := hSq; go_simp <;> with_reducible rfl) ?_
 try go_frame
 refine tX 7 _ rfl (by kernel_rfl) (fun _ _ _ => id) (keepO hHW.drew hOW.drew) (by rfl) (by intro wq hSq; obtain ⟨s0, s1, s2, s3, s4, s5⟩ := hSq; go_simp <;> with_reducible rfl) ?_
 try go_frame
 refine tX 8 _ rfl (by kernel_rfl) (fun _ _ _ => id) (keepO hHW.drew hOW.drew) (by rfl) (by intro wq hSq; obtain ⟨s0, s1, s2, s3, s4, s5⟩ := hSq; go_simp <;> with_reducible rfl) ?_
 try go_frame
 refine wpAnyX_ready (rs := [9]) (by kernel_rfl) (by simp) ?_
 refine ReadyX.cons rfl (fun K hK => ?_) ReadyX.nil
 go_simp
 refine hC.mono ?_
 rintro e w1 ⟨x, rfl, ⟨psv, rfl, hR1, hN1⟩, hSt1⟩
 obtain ⟨sa, sc, rfl⟩ := hR1.slice
 obtain ⟨rr, hrr⟩ : ∃ r, opR kd key hi (pairs t) = r := ⟨_, rfl⟩
 rw [hrr] at hR1 hN1
 rw [hrr]
 obtain ⟨sn, hsn⟩ : ∃ n, rr.ps.length = n := ⟨_, rfl⟩
 rw [hsn] at hR1 hN1
 rw [hsn]
 obtain ⟨ok, k, v, ps⟩ := rr
 have HR := Lib.hid (And.intro hrr hsn)
 clear hrr hsn
 unfold rO
 have hH1 := hSt1.tf.at hHW.drew (by decide)
 have hO1 := hSt1.tf.at hOW.drew (by decide)
 have hB1 := hSt1.tf.at hBW.drew (by decide)
 have q0 := hB1.free 0
 have q1 := hB1.free 1
 have q2 := hB1.free 2
 have q3 := hB1.free 3
 have r0 := hB1.cell 0
 have r1 := hB1.cell 1
 have r2 := hB1.cell 2
 have r3 := hB1.cell 3
 refine hK.out _ _ (keepO hH1 hO1) (fun hS1 => ?_)
 clear hK K
 try go_frame
 refine tY 10 _ rfl (by kernel_rfl) (fun _ _ _ => id) hS1 (by rfl) (by intro wq _; go_simp <;> with_reducible rfl) ?_
 try go_frame
 refine tY 11 _ rfl (by kernel_rfl) (fun _ _ _ => id) hS1 (by rfl) (by intro wq _; go_simp <;> with_reducible rfl) ?_
 try go_frame
 refine wpAnyX_ready (rs := [12]) (by kernel_rfl) (by simp) ?_
 refine ReadyX.last (x := 12) rfl (by kernel_rfl) (fun K hK => ?_) ReadyX.nil
 go_simp
 refine hK.out _ _ ?_
 clear hK K
 try go_frame
 refine wpAnyX_takeG (i := 13) (x := 12) (v := ?_) rfl (by kernel_rfl) (by kernel_rfl) (fun _ _ _ h => h)  (Or.inl ⟨by rfl, ?_⟩) ?_
 rotate_left
 ·(intro wq _; go_simp <;> with_reducible rfl)
 try go_frame
 refine wpAnyX_done (by kernel_rfl) ?_ _
 have hS2 := hSW.drew.trans hSt1
 have hsW := hSW.tf.size
 obtain ⟨f4, g4, hR⟩ := set4 (x := .bool ok) (y := .int .i64 k) (z := .int .i64 v) (u := .slice sa sn sc) hS2.gate hB1 (by decide) rfl
 have hS4 := hS2.own1 hB1 (by decide) (by omega) f4 g4
 simp only [List.getElem_toArray, List.getElem_cons_succ, List.getElem_cons_zero, List.setIfInBounds_toArray, List.set_cons_succ, List.set_cons_zero]
 go_wp2_with fail
 refine bodyPost_ret (results_ct rfl _ rfl hR.1 Tryz.underlying34 size34) rfl ?_
 have hns := hR1.notin hB1 (by decide)
 obtain ⟨e1, e2⟩ := HR.out
 exact ⟨_, rfl, by rw [e1]; exact ⟨.slice sa sn sc, rfl, by rw [e2]; exact hR1.fr f4 (fun c h1 h2 => by subst h2; exact hns h1), fun c hc => Nat.le_trans hsW (hN1 c hc)⟩, hS4⟩
end Go.Proofs.YtdmobhndbibhoaaGreat
