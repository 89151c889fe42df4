/- larchref24.Take. -/
import Derived.Test.YtdmobhndbibhoaaGreatR7
import Derived.Test.YtdmobhndbibhoaaGreatT9
namespace Go.Proofs.YtdmobhndbibhoaaGreat
open Go.RowKit Larch
set_option maxRecDepth 100000
set_option linter.unusedVariables false
set_option linter.unusedSimpArgs false
attribute [local go_sem ↓] Go.wp_at_zero Go.wp_at_succ
theorem lpN_way (l : Lp) (m : List (Int × Int)) : (lpN l m).way = l.way := by unfold lpN; split <;> rfl
theorem lpN_list (l : Lp) (m : List (Int × Int)) : (lpN l m).list.length ≤ l.list.length := by
 unfold lpN; split
 ·simp
 ·exact Nat.le_refl _
theorem ofL_len0 (xs : List (Int × Int)) : (ofL xs []).length ≤ xs.length := by have := ofL_len xs []; simpa using this
theorem takeN_none {m : List (Int × Int)} {l : Lp} (h : lpO l m = none) (n : Nat) : takeN m n l = [] := by cases n <;> simp [takeN, h]
theorem takeN_some {m : List (Int × Int)} {l : Lp} {p : Int × Int} (h : lpO l m = some p) (n : Nat) : takeN m (n + 1) l = p :: takeN m n (lpN l m) := by simp [takeN, h]
def TakeQ (g : Gt) (m : Nat) (ps : List (Int × Int)) (er : Int) (w : World) (e : Ending) (w' : World) : Prop :=
 ∃ v, e = .returned (.tuple #[v, .int .i64 er]) ∧ PV g w.heap.size w' ps v ∧ Fr g No w w' ∧ GOk g m w'
theorem pV_nil {g : Gt} {B : Nat} {w : World} : PV g B w [] (.slice none 0 0) := ⟨Row.nil, by simp [Value.ownBlock]⟩
theorem wpA1 {g : Gt} {m n hb : Nat} {W : World} {v : Value} {p q : Int} {ps : List (Int × Int)} {ops : Array Oper} {rest : List Oper} {o : Oper} {a : Act} {Q : Exit → Act → World → Prop} (hgd : o.guard = none) (s x : Operand)
 (ho : o.op = .call { callee := .builtin .append, args := #[s, x], argTypes := #[22, 22] })
 (hG : GOk g m W) (hR : Row g W 49 2 v n (pV ps)) (hn : n ≤ 1000000000) (hs : a.eval s = v) (hx : a.eval x = .slice (some ⟨hb, 0, none⟩) 1 1) (hH : W.heap.size = hb)
 (h : ∀ b cap w', Fr g (fun c => v.ownBlock = some c) W w' → GOk g m w' → Row g w' 49 2 (.slice (some ⟨b, 0, none⟩) (n + 1) cap) (n + 1) (pV (ps ++ [(p, q)])) → (v.ownBlock = some b ∨ W.heap.size ≤ b) →
   wpList Tryz.prog ops Q rest (a.put o.dst (.slice (some ⟨b, 0, none⟩) (n + 1) cap)) w') :
 wpList Tryz.prog ops Q (o :: rest) a (W.alloc (.cells #[.int .i64 p, .int .i64 q] 49)) := wpA hgd s x ho hG hR hn hs (by rw [hH]; exact hx) h
set_option maxHeartbeats 4000000 in
theorem Take6_no {g : Gt} {m n : Nat} {a : Option Addr} {c : Nat} {way from_ cnt er : Int} {w : World} (hg : GOk g m w) (h : way < 1 ∧ er = 5 ∨ 3 < way ∧ er = 5 ∨ (1 ≤ way ∧ way ≤ 3) ∧ (cnt < 0 ∧ er = 1 ∨ 0 ≤ cnt ∧ (1000 < n ∧ er = 2 ∨ n ≤ 1000 ∧ 1000 < cnt ∧ er = 2))) (hn : n < 1000000000000000) :
 Calls Tryz.prog 24 #[.slice a n c, .int .i64 way, .int .i64 from_, .int .i64 cnt] w (TakeQ g m [] er w) := by
 rcases h with ⟨h1, rfl⟩ | ⟨h1, rfl⟩ | ⟨⟨h1, h2⟩, ⟨h3, rfl⟩ | ⟨h3, ⟨h4, rfl⟩ | ⟨h4, h5, rfl⟩⟩⟩
 ·go_enter Tryz.func24, Tryz.ntmps24
  go_wp2_with fail
  go_ret2
  exact ⟨_, rfl, pV_nil, Fr.refl _ _ _, hg⟩
 ·have h2 : ¬ way < 1 := by omega
  go_enter Tryz.func24, Tryz.ntmps24
  go_wp2_with fail
  go_ret2
  exact ⟨_, rfl, pV_nil, Fr.refl _ _ _, hg⟩
 ·go_enter Tryz.func24, Tryz.ntmps24
  go_wp2_with fail
  go_ret2
  exact ⟨_, rfl, pV_nil, Fr.refl _ _ _, hg⟩
 ·have h5 : (1000 : Int) < (n : Int) := by omega
  go_enter Tryz.func24, Tryz.ntmps24
  go_wp2_with fail
  go_ret2
  exact ⟨_, rfl, pV_nil, Fr.refl _ _ _, hg⟩
 ·have h6 : ¬ (1000 : Int) < (n : Int) := by omega
  go_enter Tryz.func24, Tryz.ntmps24
  go_wp2_with fail
  go_ret2
  exact ⟨_, rfl, pV_nil, Fr.refl _ _ _, hg⟩
def TkSt (g : Gt) (B m lb : Nat) (mv : Value) (M : List (Int × Int)) (E : List (Int × Int)) (w : World) (k : Nat) (v12 : Value) (wr : World) : Prop :=
 ∃ l o, LpAt g B wr lb l ∧ (l.way = 1 ∨ l.way = 2 ∨ l.way = 3) ∧ l.list.length ≤ 1000 ∧ PV g B wr o v12 ∧ PV g w.heap.size wr M mv ∧ (∀ b, mv.ownBlock = some b → b < B) ∧ w.heap.size ≤ B ∧ B ≤ wr.heap.size ∧ Fr g No w wr ∧ GOk g m wr ∧ o ++ takeN M k l = E
set_option maxHeartbeats 8000000 in
theorem Take6_ok {g : Gt} {m n cn : Nat} {sv : Value} {way from_ : Int} {xs : List (Int × Int)} {w : World} (hg : GOk g m w) (hA : Sl g w 2 sv n (pV xs)) (hw : way = 1 ∨ way = 2 ∨ way = 3) (hn : n ≤ 1000) (hc : cn ≤ 1000) :
 Calls Tryz.prog 24 #[sv, .int .i64 way, .int .i64 from_, .int .i64 (cn : Int)] w (TakeQ g m (takeN (ofL xs []) cn ⟨way, ofL xs [], from_, false⟩) 0 w) := by
 have hOf := Of6_any hg hA hn
 obtain ⟨a, c, rfl, hcc⟩ := hA.slice
 have hl := hA.len
 have hlo := ofL_len0 xs
 rw [hl] at hlo
 obtain ⟨M, hM⟩ : ∃ M, ofL xs [] = M := ⟨_, rfl⟩
 rw [hM] at hOf hlo ⊢
 clear hM hl
 have h1 : 1 ≤ way := by omega
 have h2 : way ≤ 3 := by omega
 have hn' : ¬ (1000 : Int) < (n : Int) := by omega
 have hc' : ¬ (1000 : Int) < (cn : Int) := by omega
 have HW := Lib.hid hw
 clear hw
 go_enter Tryz.func24, Tryz.ntmps24
 go_wp2_with fail
 refine hOf.mono ?_
 rintro e w1 ⟨mv, rfl, hP, hF, hG⟩
 clear hOf hg
 go_wp2_with fail
 refine (begin_any (way := way) (key := from_) hG hP.1.sl (by omega)).mono ?_
 rintro e w2 ⟨lb, rfl, hL, hlb, hF2, hG2⟩
 have hP2 := hP.fr hF2 (fun _ _ h => h)
 have hst : TkSt g w2.heap.size m lb mv M (takeN M cn ⟨way, M, from_, false⟩) w cn (.slice none 0 0) w2 := ⟨_, [], hL, HW.out, by simp only; omega, pV_nil, hP2, fun b hb => hP2.1.lt hb, Nat.le_trans hF.size hF2.size, Nat.le_refl _, hF.tr hF2, hG2, rfl⟩
 have hlb2 : w.heap.size ≤ lb := Nat.le_trans hF.size hlb
 clear hP hL hF hG hF2 hG2 hP2
 go_wp2_with fail
 go_loopg [12, 13, 14, 15] cn (fun gk v12 v13 v14 v15 wr => ∃ k : Nat, gk + k = cn ∧ v13 = .int .i64 k ∧ TkSt g w2.heap.size m lb mv M (takeN M cn ⟨way, M, from_, false⟩) w gk v12 wr)
 case atStart => exact ⟨0, by omega, rfl, hst⟩
 case round =>
  obtain ⟨k, hk, rfl, l, o, hL, hlw, hll, hO, hP, hPB, hB, hBs, hF, hG, hE⟩ := hrel
  clear hst
  obtain ⟨a12, c12, rfl⟩ := hO.1.slice
  have hol : o.length ≤ 1000 := by
   have := congrArg List.length hE
   rw [List.length_append] at this
   have := takeN_len M cn ⟨way, M, from_, false⟩
   omega
  by_cases hlt : k < cn
  ·obtain ⟨q, rfl⟩ : ∃ q, gk = q + 1 := ⟨gk - 1, by omega⟩
   obtain ⟨lv, hLc, hLr⟩ := id hL
   have hne := hP.1.notin hLc (by decide)
   have hneo := hO.1.notin hLc (by decide)
   have hN := next6_any hG hL hlw hP.1.sl (by omega) hne (by omega)
   go_wp2_with fail
   refine hN.mono ?_
   rintro e w3 ⟨rfl, hL3, hF3, hG3⟩
   have hO3 := hO.fr hF3 (fun b hb e => hneo (by rw [hb, e]))
   have hP3 := hP.fr hF3 (fun b hb e => hne (by rw [hb, e]))
   have HSZ : Hid (w2.heap.size ≤ w3.heap.size) := (Nat.le_trans hBs hF3.size)
   have hFw := hF.trans (T := No) hF3 (fun _ _ h => h) (fun c hc h => by omega)
   clear hN hL hO hP hF hG hne hneo hF3 hLc hLr
   cases hq : lpO l M with
   | none =>
     rw [takeN_none hq] at hE
     have HX := Lib.hid (And.intro hE (And.intro hO3 (And.intro hFw hG3)))
     clear hE hO3 hFw hq
     simp only [pO, Option.isSome_none]
     go_wp2_with fail
     go_ret2
     obtain ⟨hE, hO3, hFw, hG3⟩ := HX.out
     rw [List.append_nil] at hE
     rw [← hE]
     have hO4 := hO3.fr (Fr.alloc g No _ (.cells #[.int .i64 0, .int .i64 0] 49) hG3) (fun _ _ h => h)
     exact ⟨_, rfl, ⟨hO4.1, fun b hb => Nat.le_trans hB (hO4.2 b hb)⟩, hFw.tr (Fr.alloc g No _ _ hG3), hG3.alloc _⟩
   | some p =>
     obtain ⟨p1, p2⟩ := p
     rw [takeN_some hq] at hE
     have HX := Lib.hid hE
     clear hE hq
     simp only [pO, Option.isSome_some]
     have hF4 := Fr.alloc g No w3 (.cells #[.int .i64 p1, .int .i64 p2] 49) hG3
     have hG4 := hG3.alloc (.cells #[.int .i64 p1, .int .i64 p2] 49)
     have hO4 := hO3.fr hF4 (fun _ _ h => h)
     have hP4 := hP3.fr hF4 (fun _ _ h => h)
     have hFw4 := hFw.tr hF4
     have HY := Lib.hid (And.intro hL3 hP4)
     clear hO3 hP3 hL3 hP4 hFw
     go_wp2_with (at_builtin; refine wpA1 rfl _ _ rfl hG4 hO4.1 (by omega) rfl rfl (by simp) ?_; intro b1 cap1 w5 A1 A2 A3 A4)
     go_roundg (cn - (k + 1))
     case measure => omega
     case rel =>
      obtain ⟨⟨lv, hLc, hLs, hLn, hLb⟩, hP4⟩ := HY.out
      have hLc4 := hF4.at hLc id
      have hLs4 := hLs.fr0 hF4 (by decide)
      have hL5 : LpAt g w2.heap.size w5 lb (lpN l M) := ⟨lv, A1.at hLc4 (hO4.1.notin hLc4 (by decide)), hLs4.fr A1 (fun b hb => .inr (fun e => by have := hO4.2 b e; have := hLb b hb; omega)) (by decide), hLn, hLb⟩
      have hq : q = cn - (k + 1) := by omega
      have hP5 := hP4.fr A1 (fun b hb e => by have := hO4.2 b e; have := hPB b hb; omega)
      refine ⟨k + 1, by omega, by simp, lpN l M, o ++ [(p1, p2)], hL5, by rw [lpN_way]; exact hlw, Nat.le_trans (lpN_list _ _) hll, ⟨by rw [List.length_append]; exact A3, fun b hb => ?_⟩, hP5, hPB, hB, Nat.le_trans HSZ.out (Nat.le_trans (by simp) A1.size), hFw4.trans A1 (fun _ _ h => h) (fun c hc h => by have := hO4.2 c h; omega), A2, by rw [← HX.out, hq]; simp⟩
      obtain rfl : b1 = b := by simpa [Value.ownBlock] using hb
      rcases A4 with h | h
      ·exact hO4.2 _ h
      ·exact Nat.le_trans HSZ.out (Nat.le_trans (by simp) h)
  ·have h0 : gk = 0 := by omega
   subst h0
   have hE' : o = takeN M cn ⟨way, M, from_, false⟩ := by rw [← hE]; simp [takeN]
   have HX := Lib.hid (And.intro hE' (And.intro hO (And.intro hF hG)))
   clear hE hE' hO hP hL hF hG
   go_wp2_with fail
   go_ret2
   obtain ⟨hE, hO, hF, hG⟩ := HX.out
   rw [← hE]
   exact ⟨_, rfl, ⟨hO.1, fun b hb => Nat.le_trans hB (hO.2 b hb)⟩, hF, hG⟩
end Go.Proofs.YtdmobhndbibhoaaGreat
namespace Go.Proofs.YtdmobhndbibhoaaGreat
open Go.RowKit Larch
set_option maxRecDepth 100000
set_option linter.unusedVariables false
set_option linter.unusedSimpArgs false
attribute [local go_sem ↓] Go.wp_at_zero Go.wp_at_succ
attribute [local go_sem] Oper.semAt_some
section
variable {P : Program} {g : Gt} {k : Nat} {w : World}
theorem wpListIn_append_fr {F : Fence} {fn : Nat} {ops : Array Oper} {rest : List Oper} {o : Oper} {a : Act} {Q : Exit → Act → World → Prop} (hgd : o.guard = none) (s x : Operand) (t : TypeId)
 (ho : o.op = .call { callee := .builtin .append, args := #[s, x], argTypes := #[t, t] })
 (e : TypeId) (z : Value) (size bytes : Nat) (ht : P.underlying t = some (.slice e)) (hi : (P.info? e).map (fun i => (i.zero, i.size, i.bytes)) = some (some z, size, bytes))
 (hzs : z.cells.size = size) (hsz : 0 < size) (he : e ≠ 209 ∧ e ≠ 278)
 (hg : GOk g k w) (v : Value) (n : Nat) (xs : List Value) (hs : a.eval s = v) (hown : Row g w e size v n xs)
 (ad : Addr) (m c : Nat) (news : List Value) (hx : a.eval x = .slice (some ad) m c) (hl : news.length = m * size) (hnews : ∀ j u, news[j]? = some u → w.cell? (ad.add j) = some u) (h1 : ∀ u ∈ news, u.oneCell' = true)
 (h63 : n + m ≤ maxLen) (hbytes : (n + m) * bytes ≤ 140737488355328) (hm : 0 < m)
 (h : ∀ v' w', Appended g k e size v (n + m) (xs ++ news) w v' w' → wpListIn F fn P ops Q rest (a.put o.dst v') w') : wpListIn F fn P ops Q (o :: rest) a w := by
 obtain ⟨i, hi, hz0, hz1, hz2⟩ := info_parts hi
 refine wpListIn_plain hgd fun K hK' => ?_
 obtain ⟨v', w', b, hr, h2, h3, h4, h5, h6, h7, h8⟩ := append_raw (P := P) w t o.type e i z size bytes ht hi hz0 hz1 hz2 hzs hsz v n xs hown.own ad m c news hl hnews h1 h63 hbytes hm
 unfold Oper.wpIn
 refine ⟨?_, ?_⟩
 ·simp [Oper.about, ho, resolve, Target.leads, Sem.run_pure]
 ·rw [Oper.semAt_plain F _ _ (by rw [ho]; intro c hc'; cases hc')]
  simp [execOp, ho, resolve, invoke, builtin, hs, hx, hr, Result.andThen]
  exact hK' _ _ (h v' w' (appended_of he hg hown h2 h3 h4 h5 h6 h7 h8))
end
theorem wpAI {F : Fence} {fn : Nat} {g : Gt} {m n hb : Nat} {W : World} {v : Value} {p q : Int} {ps : List (Int × Int)} {ops : Array Oper} {rest : List Oper} {o : Oper} {a : Act} {Q : Exit → Act → World → Prop} (hgd : o.guard = none) (s x : Operand)
 (ho : o.op = .call { callee := .builtin .append, args := #[s, x], argTypes := #[22, 22] })
 (hG : GOk g m W) (hR : Row g W 49 2 v n (pV ps)) (hn : n ≤ 1000000000) (hs : a.eval s = v) (hx : a.eval x = .slice (some ⟨hb, 0, none⟩) 1 1) (hH : W.heap.size = hb)
 (h : ∀ b cap w', Fr g (fun c => v.ownBlock = some c) W w' → GOk g m w' → Row g w' 49 2 (.slice (some ⟨b, 0, none⟩) (n + 1) cap) (n + 1) (pV (ps ++ [(p, q)])) → (v.ownBlock = some b ∨ W.heap.size ≤ b) →
   wpListIn F fn Tryz.prog ops Q rest (a.put o.dst (.slice (some ⟨b, 0, none⟩) (n + 1) cap)) w') :
 wpListIn F fn Tryz.prog ops Q (o :: rest) a (W.alloc (.cells #[.int .i64 p, .int .i64 q] 49)) := by
 refine wpListIn_append_fr hgd s x 22 ho 49 (.agg #[.int .i64 0, .int .i64 0]) 2 16 Tryz.underlying22 Tryz.info49 rfl (by decide) (by decide) (hG.alloc _) v n (pV ps) hs (hR.fr (Fr.alloc g No W _ hG) (fun _ _ h => h)) ⟨W.heap.size, 0, none⟩ 1 1 [.int .i64 p, .int .i64 q] (by rw [hH]; exact hx) rfl
  (news1 (heap_alloc_new W _)) (by simp [Value.oneCell']) (by simp only [maxLen]; omega) (by omega) (by decide) ?_
 intro v' w' happ
 obtain ⟨A1, A2, A3, ⟨b, cap, rfl⟩, A5⟩ := app_of happ (Fr.alloc g No W _ hG)
 exact h b cap w' A1 A2 (by rw [← pV_snoc]; exact A3) (A5 b rfl)
theorem Fr.putN {g : Gt} {S : Nat → Prop} {w : World} {l : Nat} {o o' : Obj} (h : At g w l o) (hn : NonC o) (hs : S l) : Fr g S w (w.putObj l o') := by
 have hold : ∀ c, c ≠ l → (w.putObj l o').heap[c]? = w.heap[c]? := fun c hc => wPut_other hc
 have hg : ∀ c, GBlk g w c → (w.putObj l o').heap[c]? = w.heap[c]? := fun c hc => hold c (by rintro rfl; exact h.2 hc)
 have hne : ∀ (c : Nat) cs T fr, w.heap[c]? = some (.cells cs T fr) → c ≠ l := fun c cs T fr hc e => by subst e; rw [h.1] at hc; exact hn _ _ _ (Option.some.inj hc)
 refine ⟨rfl, rfl, rfl, by simp, fun c hc _ hn => hold c (fun e => hn (e ▸ hs)), fun c hc => .inl ((GBlk_same hg c).1 hc), ?_, ?_, fun c hc => hold c (by rintro rfl; exact h.2 (.inl hc))⟩
 ·intro c ds hd hz
  exact ⟨ds, (hold c (hne c _ _ _ hd)).trans hd, hz, rfl⟩
 ·rintro c ⟨ds, hd, hz⟩
  exact ⟨ds, (hold c (hne c _ _ _ hd)).trans hd, hz⟩
def BoxO (ob : Nat) (T : TypeId) (W : World) (b : Nat) : Prop := b = ob ∨ ∃ v, W.heap[ob]? = some (.cells #[v] T (0, 0)) ∧ v.ownBlock = some b
theorem BoxO.iff {g : Gt} {ob : Nat} {T : TypeId} {W : World} {v : Value} (h : Cl g W ob #[v] T) (b : Nat) : BoxO ob T W b ↔ b = ob ∨ v.ownBlock = some b := by
 unfold BoxO
 constructor
 ·rintro (h1 | ⟨u, h1, h2⟩)
  ·exact .inl h1
  ·rw [h.1] at h1
   have : v = u := by simpa using h1
   subst this; exact .inr h2
 ·rintro (h1 | h1)
  ·exact .inl h1
  ·exact .inr ⟨v, h.1, h1⟩
theorem its_cl {g : Gt} {O : World → Nat → Prop} {B c : Nat} {W : World} {cs : Array Value} {T : TypeId} (h : Cl g W c cs T) (hT : T ≠ 209 ∧ T ≠ 269 ∧ T ≠ 49) : ¬ ItS g O B W c := fun k => by
 rcases k with k | ⟨_, _, cs', fr, h1⟩
 ·exact tb_not h ⟨hT.1, hT.2.1⟩ k
 ·rw [h.1] at h1; cases h1; exact hT.2.2 rfl
theorem its_row {g : Gt} {O : World → Nat → Prop} {B e size n c : Nat} {W : World} {v : Value} {xs : List Value} (h : Row g W e size v n xs) (he : e ≠ 209 ∧ e ≠ 269) (hb : v.ownBlock = some c) (hO : O W c) : ¬ ItS g O B W c := fun k => by
 obtain ⟨cur, hc⟩ := h.own_cl hb
 rcases k with k | ⟨_, h1, _⟩
 ·exact tb_not hc he k
 ·exact h1 hO
structure TkI (g : Gt) (be nb ob cn B0 : Nat) (t : T Unit) (way key : Int) (w : World) (pre : List Pr) (W : World) : Prop where
 st : St g 0 be t W W
 nbox : Cl g W nb #[.int .i64 (cn : Int)] 3
 box : ∃ v, Cl g W ob #[v] 22 ∧ Row g W 49 2 v pre.length (pV pre) ∧ ∀ b, v.ownBlock = some b → B0 ≤ b
 fr : Fr g (fun _ => True) w W
 sz : B0 ≤ W.heap.size
 chain : pre ++ takeN (pairs t) (cn - pre.length) (lpAt way key (pairs t) pre) = takeN (pairs t) cn ⟨way, pairs t, key, false⟩
section
variable {g : Gt} {be nb ob cn B0 B : Nat} {t : T Unit} {way key : Int} {w W W' : World} {pre : List Pr}
theorem TkI.oiff (h : TkI g be nb ob cn B0 t way key w pre W) : ∃ v, Cl g W ob #[v] 22 ∧ Row g W 49 2 v pre.length (pV pre) ∧ (∀ b, v.ownBlock = some b → B0 ≤ b) ∧ ∀ b, BoxO ob 22 W b ↔ b = ob ∨ v.ownBlock = some b := by
 obtain ⟨v, h1, h2, h3⟩ := h.box
 exact ⟨v, h1, h2, h3, BoxO.iff h1⟩
theorem TkI.step (h : TkI g be nb ob cn B0 t way key w pre W) (f : Fr g (ItS g (BoxO ob 22) B W) W W') (hS : St g 0 be t W' W') : TkI g be nb ob cn B0 t way key w pre W' ∧ ∀ b, BoxO ob 22 W' b → BoxO ob 22 W b := by
 obtain ⟨v, h1, h2, h3, h4⟩ := h.oiff
 have h1' := f.at h1 (its_cl h1 (by decide))
 refine ⟨⟨hS, f.at h.nbox (its_cl h.nbox (by decide)), ⟨v, h1', h2.fr f (fun b hb => its_row h2 (by decide) hb ((h4 b).2 (.inr hb))), h3⟩, h.fr.trans f (fun _ _ _ => trivial) (fun _ _ _ => trivial), Nat.le_trans h.sz f.size, h.chain⟩, fun b hb => (h4 b).2 ((BoxO.iff h1' b).1 hb)⟩
theorem TkI.put {l : Nat} {o o' : Obj} (hgt : g.gt = none) (h : TkI g be nb ob cn B0 t way key w pre W) (hl : At g W l o) (hn : NonC o) (hn' : NonC o') : TkI g be nb ob cn B0 t way key w pre (W.putObj l o') ∧ ∀ b, (BoxO ob 22 (W.putObj l o') b ↔ BoxO ob 22 W b) := by
 obtain ⟨v, h1, h2, h3, h4⟩ := h.oiff
 have f : Fr g (fun c => c = l) W (W.putObj l o') := Fr.putN hl hn rfl
 have hne : ∀ c cs T, Cl g W c cs T → ¬ c = l := fun c cs T hc e => by subst e; have := hc.1.symm.trans hl.1; exact hn _ _ _ (Option.some.inj this).symm
 have h1' := f.at h1 (hne _ _ _ h1)
 refine ⟨⟨⟨h.st.map.keep f (fun c cs T hc _ => hne c cs T hc), h.st.good, h.st.gate.none hgt (by simp), Fr.refl _ _ _⟩, f.at h.nbox (hne _ _ _ h.nbox), ⟨v, h1', h2.fr f (fun b hb => by obtain ⟨cur, hc⟩ := h2.own_cl hb; exact hne _ _ _ hc), h3⟩, h.fr.trans f (fun _ _ _ => trivial) (fun _ _ _ => trivial), Nat.le_trans h.sz f.size, h.chain⟩, fun b => (BoxO.iff h1' b).trans (h4 b).symm⟩
theorem TkI.cells {b : Nat} (h : TkI g be nb ob cn B0 t way key w pre W) (hb : BoxO ob 22 W b) : (∃ cs T fr, W.heap[b]? = some (.cells cs T fr)) ∧ (b = ob ∨ B0 ≤ b) := by
 obtain ⟨v, h1, h2, h3, h4⟩ := h.oiff
 rcases (h4 b).1 hb with rfl | h5
 ·exact ⟨⟨_, _, _, h1.1⟩, .inl rfl⟩
 ·obtain ⟨cur, hc⟩ := h2.own_cl h5
  exact ⟨⟨_, _, _, hc.1⟩, .inr (h3 b h5)⟩
theorem TkI.next {x : Pr} (h : TkI g be nb ob cn B0 t way key w pre W) (hx : lpO (lpAt way key (pairs t) pre) (pairs t) = some x) (hlt : pre.length < cn) :
 (pre ++ [x]) ++ takeN (pairs t) (cn - (pre ++ [x]).length) (lpAt way key (pairs t) (pre ++ [x])) = takeN (pairs t) cn ⟨way, pairs t, key, false⟩ := by
 rw [← h.chain]
 obtain ⟨k, hk⟩ : ∃ k, cn - pre.length = k + 1 := ⟨cn - pre.length - 1, by omega⟩
 rw [hk, takeN_some hx, lpAt_next hx, List.length_append]
 simp only [List.length_cons, List.length_nil, Nat.zero_add]
 rw [show cn - (pre.length + 1) = k from by omega]
 simp
theorem TkI.push {v : Value} {w3 : World} {x : Pr} {b3 cap3 : Nat} (hgt : g.gt = none) (h : TkI g be nb ob cn B0 t way key w pre W) (hv : Cl g W ob #[v] 22) (hr : Row g W 49 2 v pre.length (pV pre))
 (A1 : Fr g (fun c => v.ownBlock = some c) W w3) (A3 : Row g w3 49 2 (.slice (some ⟨b3, 0, none⟩) (pre.length + 1) cap3) (pre.length + 1) (pV (pre ++ [x]))) (A4 : v.ownBlock = some b3 ∨ W.heap.size ≤ b3) (hx : lpO (lpAt way key (pairs t) pre) (pairs t) = some x) (hlt : pre.length < cn) :
 TkI g be nb ob cn B0 t way key w (pre ++ [x]) (w3.setCell ⟨ob, 0, none⟩ (.slice (some ⟨b3, 0, none⟩) (pre.length + 1) cap3)) ∧ FrO g (BoxO ob 22) W (w3.setCell ⟨ob, 0, none⟩ (.slice (some ⟨b3, 0, none⟩) (pre.length + 1) cap3)) := by
 obtain ⟨v', h1, h2, h3, h4⟩ := h.oiff
 have e : v = v' := by have := hv.1.symm.trans h1.1; simpa using this
 subst e
 have hn49 : ∀ c cs T, Cl g W c cs T → T ≠ 49 → ¬ v.ownBlock = some c := fun c cs T hc hT e => hr.notin hc (fun h => hT h.symm) e
 have hv3 := A1.at hv (hn49 _ _ _ hv (by decide))
 have f4 : Fr g (fun c => c = ob) w3 _ := Fr.setCell (fun c => c = ob) hv3 0 (.slice (some ⟨b3, 0, none⟩) (pre.length + 1) cap3) rfl (fun e => absurd e (by decide))
 have hv4 := hv3.setCell 0 (.slice (some ⟨b3, 0, none⟩) (pre.length + 1) cap3)
 have g4 : GOk g 0 (w3.setCell ⟨ob, 0, none⟩ (.slice (some ⟨b3, 0, none⟩) (pre.length + 1) cap3)) := h.st.gate.none hgt (Nat.le_trans A1.size f4.size)
 have fA : Fr g (fun c => v.ownBlock = some c ∨ c = ob) W _ := A1.trans f4 (fun _ _ k => .inl k) (fun _ _ k => .inr k)
 have hne : ∀ c cs T, Cl g W c cs T → T ≠ 49 → T ≠ 22 → ¬ (v.ownBlock = some c ∨ c = ob) := fun c cs T hc h49 h22 k => by
  rcases k with k | k
  ·exact hn49 c cs T hc h49 k
  ·exact (Cl.ne hc hv h22) k
 have hb3 : B0 ≤ b3 := A4.elim (fun k => h3 _ k) (fun k => Nat.le_trans h.sz k)
 have hl : (pre ++ [x]).length = pre.length + 1 := by rw [List.length_append]; rfl
 have hr4 : Row g (w3.setCell ⟨ob, 0, none⟩ (.slice (some ⟨b3, 0, none⟩) (pre.length + 1) cap3)) 49 2 (.slice (some ⟨b3, 0, none⟩) (pre.length + 1) cap3) (pre ++ [x]).length (pV (pre ++ [x])) := by
  rw [hl]
  exact A3.fr f4 (fun b hb k => by obtain ⟨cur, hc⟩ := A3.own_cl hb; exact (Cl.ne hc hv3 (by decide)) k)
 refine ⟨⟨⟨h.st.map.keep fA (fun c cs T hc hT => hne c cs T hc (by rcases hT with rfl | rfl | rfl <;> decide) (by rcases hT with rfl | rfl | rfl <;> decide)), h.st.good, g4, Fr.refl _ _ _⟩, fA.at h.nbox (hne _ _ _ h.nbox (by decide) (by decide)), ⟨_, hv4, hr4, ?_⟩, h.fr.trans fA (fun _ _ _ => trivial) (fun _ _ _ => trivial), Nat.le_trans h.sz fA.size, h.next hx hlt⟩, ?_⟩
 ·intro b hb
  obtain rfl : b3 = b := by simpa [Value.ownBlock] using hb
  exact hb3
 ·refine ⟨fA.size, fun b hb hO hT => fA.keep b hb (fun k => hT (.inr k)) (fun k => hO ((h4 b).2 (k.elim .inr .inl))), fun b hb => ?_, fA.gate⟩
  rcases (BoxO.iff hv4 b).1 hb with k | k
  ·exact .inl ((h4 b).2 (.inl k))
  ·obtain rfl : b3 = b := by simpa [Value.ownBlock] using k
   exact A4.elim (fun k => .inl ((h4 _).2 (.inr k))) .inr
theorem TkI.fin {l : Nat} {o o' : Obj} {v : Value} (hgt : g.gt = none) (h : TkI g be nb ob cn B0 t way key w pre W) (hv : Cl g W ob #[v] 22) (hB : w.heap.size ≤ B0) (hl : At g W l o) (hn : NonC o) (hn' : NonC o') :
 PV g w.heap.size (W.putObj l o') pre v ∧ Fr g (fun _ => True) w (W.putObj l o') := by
 obtain ⟨h1, h2⟩ := h.put (o' := o') hgt hl hn hn'
 obtain ⟨v', k1, k2, k3, k4⟩ := h1.oiff
 have f : Fr g (fun c => c = l) W (W.putObj l o') := Fr.putN hl hn rfl
 have hv' := f.at hv (fun e => by subst e; have := hv.1.symm.trans hl.1; exact hn _ _ _ (Option.some.inj this).symm)
 have e : v = v' := by have := hv'.1.symm.trans k1.1; simpa using this
 subst e
 exact ⟨⟨k2, fun b hb => Nat.le_trans hB (k3 b hb)⟩, h1.fr⟩
end
end Go.Proofs.YtdmobhndbibhoaaGreat
