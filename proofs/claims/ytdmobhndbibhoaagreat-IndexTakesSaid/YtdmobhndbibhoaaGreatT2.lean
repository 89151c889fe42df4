/- larchref06.with, larchref06.Of. -/
import Derived.Test.YtdmobhndbibhoaaGreatR1
import Derived.Test.YtdmobhndbibhoaaGreatT1
namespace Go.Proofs.YtdmobhndbibhoaaGreat
open Go.RowKit Larch
set_option maxRecDepth 100000
set_option linter.unusedVariables false
set_option linter.unusedSimpArgs false
attribute [local go_sem ↓] Go.wp_at_zero Go.wp_at_succ
def NewP (g : Gt) (m : Nat) (xs : List (Int × Int)) (w : World) (e : Ending) (w' : World) : Prop := ∃ v, e = .returned v ∧ PV g w.heap.size w' xs v ∧ Fr g No w w' ∧ GOk g m w'
set_option maxHeartbeats 8000000 in
theorem with_any {g : Gt} {m n : Nat} {key val : Int} {drop : Bool} {mv : Value} {xs : List (Int × Int)} {w : World} (hg : GOk g m w) (hA : Sl g w 2 mv n (pV xs)) (hn : n ≤ 100000) :
 Calls Tryz.prog 67 #[mv, .int .i64 key, .int .i64 val, .bool drop] w (NewP g m (wGo key val drop xs) w) := by
 obtain ⟨a, c, rfl, hc⟩ := hA.slice
 have hl := hA.len
 have hst : WithSt g m key val drop xs w 0 (.slice none 0 0) drop w := ⟨[], Row.nil, Fr.refl _ _ _, hg, by simp [Value.ownBlock], rfl⟩
 have hwl := wGo_len key val xs drop
 replace hl : xs.length ≤ n ∧ n ≤ xs.length := by omega
 have HL := Lib.hid hwl
 clear hg hwl
 go_enter Tryz.func67, Tryz.ntmps67
 go_wp2_with fail
 go_loopg [9, 10, 11] n (fun gk v9 v10 v11 wr => ∃ (k : Nat) (dn : Bool), gk + k = n ∧ v10 = .bool dn ∧ v11 = .int .i64 k ∧ WithSt g m key val drop xs w k v9 dn wr)
 case atStart => exact ⟨0, drop, by omega, rfl, rfl, hst⟩
 case round =>
  obtain ⟨k, dn, hk, rfl, rfl, o, hR, hF, hG, hN, hE⟩ := hrel
  clear hst
  obtain ⟨a9, c9, rfl⟩ := hR.slice
  have hol : o.length ≤ 2 * n + 1 := by
   have := congrArg List.length hE
   rw [List.length_append] at this
   have := HL.out
   omega
  by_cases hlt : k < n
  ·obtain ⟨p, hp⟩ : ∃ p, xs[k]? = some p := ⟨_, List.getElem?_eq_getElem (by omega)⟩
   have hArr := hA.fr0 hF (by decide)
   obtain ⟨b, off, rfl, c0, c1⟩ := hArr.pair hp
   obtain ⟨p1, p2⟩ := p
   rw [drop_at hp] at hE
   have hX : ∀ w', Fr g No w w' → w'.cell? ⟨b, off + k * 2, none⟩ = some (.int .i64 p1) ∧ w'.cell? ⟨b, off + k * 2 + 1, none⟩ = some (.int .i64 p2) := fun w' f => by
    obtain ⟨b', off', hh, k0, k1⟩ := (hA.fr0 f (by decide)).pair hp
    simp only [Option.some.injEq, Addr.mk.injEq, and_true] at hh
    obtain ⟨rfl, rfl⟩ := hh
    exact ⟨k0, k1⟩
   have HX := Lib.hid hX
   clear hX hA hArr
   have HE := Lib.hid hE
   clear hE hp
   have hk0 : (0 : Int) ≤ (k : Int) := by omega
   have hki : (k : Int) < (n : Int) := by omega
   have hEq : ∀ d : Bool, d = (dn || decide (key ≤ p1)) → (if dn = false ∧ key ≤ p1 then [(key, val)] else []) ++ ((if p1 = key then [] else [(p1, p2)]) ++ wGo key val d (xs.drop (k + 1))) = wGo key val dn ((p1, p2) :: xs.drop (k + 1)) := fun d hd => by rw [hd]; rfl
   have HQ := Lib.hid hEq
   clear hEq
   by_cases hA1 : dn = false ∧ key ≤ p1
   ·obtain ⟨rfl, hle⟩ := hA1
    have HD := Lib.hid (HQ.out true (by simp [hle]))
    clear HQ
    by_cases hkey : p1 = key
    ·obtain rfl : key = p1 := hkey.symm
     go_wp2_with (at_builtin; refine wpA rfl _ _ rfl hG hR (by omega) rfl rfl ?_; intro b1 cap1 w1 A1 A2 A3 A4; obtain ⟨c01, c11⟩ := HX.out w1 (hF.trans A1 (fun _ _ h => h) (fun c hc h => by have := hN c h; omega)))
     go_roundg (n - (k + 1))
     case measure => omega
     case rel =>
      obtain ⟨F1, N1⟩ := WithSt.put (cap := cap1) hF hN A1 A4
      exact ⟨k + 1, true, by omega, rfl, by simp, o ++ [(key, val)], by rw [List.length_append]; exact A3, F1, A2, N1, by rw [← HE.out, ← HD.out]; simp⟩
    ·go_wp2_with (at_builtin; first | (refine wpA rfl _ _ rfl hG hR (by omega) rfl rfl ?_; intro b1 cap1 w1 A1 A2 A3 A4; obtain ⟨c01, c11⟩ := HX.out w1 (hF.trans A1 (fun _ _ h => h) (fun c hc h => by have := hN c h; omega)); clear hR) | (refine wpA rfl _ _ rfl A2 A3 (by omega) rfl rfl ?_; intro b2 cap2 w2 B1 B2 B3 B4))
     go_roundg (n - (k + 1))
     case measure => omega
     case rel =>
      obtain ⟨F1, N1⟩ := WithSt.put (cap := cap1) hF hN A1 A4
      obtain ⟨F2, N2⟩ := WithSt.put (cap := cap2) (o := o ++ [(key, val)]) F1 N1 B1 B4
      have e : (o ++ [(key, val)] ++ [(p1, p2)]).length = o.length + 1 + 1 := by simp
      exact ⟨k + 1, true, by omega, rfl, by simp, o ++ [(key, val)] ++ [(p1, p2)], by rw [e]; exact B3, F2, B2, fun b hb => N2 b (by simpa [Value.ownBlock] using hb), by rw [← HE.out, ← HD.out]; simp [hle, hkey]⟩
   ·have hEd : (dn || decide (key ≤ p1)) = dn := by cases dn <;> simp_all
    have HD := Lib.hid (HQ.out dn hEd.symm)
    clear HQ hEd
    cases dn with
    | true =>
      by_cases hkey : p1 = key
      ·obtain rfl : key = p1 := hkey.symm
       clear hA1
       go_wp2_with fail
       go_roundg (n - (k + 1))
       case measure => omega
       case rel => exact ⟨k + 1, true, by omega, rfl, by simp, o, hR, hF, hG, hN, by rw [← HE.out, ← HD.out]; simp⟩
      ·clear hA1
       go_wp2_with (at_builtin; refine wpA rfl _ _ rfl hG hR (by omega) rfl rfl ?_; intro b1 cap1 w1 A1 A2 A3 A4)
       go_roundg (n - (k + 1))
       case measure => omega
       case rel =>
        obtain ⟨F1, N1⟩ := WithSt.put (cap := cap1) hF hN A1 A4
        exact ⟨k + 1, true, by omega, rfl, by simp, o ++ [(p1, p2)], by rw [List.length_append]; exact A3, F1, A2, N1, by rw [← HE.out, ← HD.out]; simp [hkey]⟩
    | false =>
      have hlt2 : ¬ key ≤ p1 := fun h => hA1 ⟨rfl, h⟩
      have hkey : ¬ p1 = key := by omega
      clear hA1
      ·go_wp2_with (at_builtin; refine wpA rfl _ _ rfl hG hR (by omega) rfl rfl ?_; intro b1 cap1 w1 A1 A2 A3 A4)
       go_roundg (n - (k + 1))
       case measure => omega
       case rel =>
        obtain ⟨F1, N1⟩ := WithSt.put (cap := cap1) hF hN A1 A4
        exact ⟨k + 1, false, by omega, rfl, by simp, o ++ [(p1, p2)], by rw [List.length_append]; exact A3, F1, A2, N1, by rw [← HE.out, ← HD.out]; simp [hkey, hlt2]⟩
  ·have hdr : xs.drop k = [] := List.drop_eq_nil_iff.2 (by omega)
   rw [hdr] at hE
   have HE := Lib.hid hE
   clear hE hdr
   cases dn with
   | true =>
     have HF : Hid (NewP g m (wGo key val drop xs) w (.returned (.slice a9 o.length c9)) wr) := ⟨_, rfl, by rw [← HE.out]; simp only [wGo, if_true, List.append_nil]; exact ⟨hR, hN⟩, hF, hG⟩
     go_wp2_with fail
     go_ret
     exact HF.out
   | false =>
     go_wp2_with (at_builtin; refine wpA rfl _ _ rfl hG hR (by omega) rfl rfl ?_; intro b1 cap1 w1 A1 A2 A3 A4)
     go_ret
     obtain ⟨F1, N1⟩ := WithSt.put (cap := cap1) hF hN A1 A4
     refine ⟨_, rfl, ?_, F1, A2⟩
     rw [← HE.out]
     have e : wGo key val false [] = [(key, val)] := rfl
     rw [e]
     exact ⟨by rw [List.length_append]; exact A3, N1⟩
end Go.Proofs.YtdmobhndbibhoaaGreat
namespace Go.Proofs.YtdmobhndbibhoaaGreat
open Go.RowKit Larch
set_option maxRecDepth 100000
set_option linter.unusedVariables false
set_option linter.unusedSimpArgs false
attribute [local go_sem ↓] Go.wp_at_zero Go.wp_at_succ
theorem ofL_srt (ps : List (Int × Int)) : ∀ {m : List (Int × Int)}, Srt m → Srt (ofL ps m) := by
 induction ps with
 | nil => exact fun h => h
 | cons p ps ih => exact fun h => ih (insL_srt h)
theorem ofL_take (ps : List (Int × Int)) (k : Nat) (p : Int × Int) (h : ps[k]? = some p) (m : List (Int × Int)) : ofL (ps.take (k + 1)) m = insL p.1 p.2 (ofL (ps.take k) m) := by
 rw [List.take_add_one, h]
 simp [ofL, List.foldl_append]
theorem srt_nil : Srt [] := List.Pairwise.nil
theorem PV.fr {g : Gt} {S : Nat → Prop} {B : Nat} {w w' : World} {xs : List (Int × Int)} {v : Value} (h : PV g B w xs v) (f : Fr g S w w') (hs : ∀ b, v.ownBlock = some b → ¬ S b) : PV g B w' xs v := ⟨h.1.fr f hs, h.2⟩
set_option maxHeartbeats 4000000 in
theorem Of6_any {g : Gt} {m n : Nat} {mv : Value} {xs : List (Int × Int)} {w : World} (hg : GOk g m w) (hA : Sl g w 2 mv n (pV xs)) (hn : n ≤ 1000) :
 Calls Tryz.prog 23 #[mv] w (NewP g m (ofL xs []) w) := by
 obtain ⟨a, c, rfl, hc⟩ := hA.slice
 have hl := hA.len
 replace hl : xs.length ≤ n ∧ n ≤ xs.length := by omega
 go_enter Tryz.func23, Tryz.ntmps23
 go_wp2_with fail
 go_loopg [3, 4] n (fun gk v3 v4 wr => ∃ k : Nat, gk + k = n ∧ v4 = .int .i64 k ∧ PV g w.heap.size wr (ofL (xs.take k) []) v3 ∧ Fr g No w wr ∧ GOk g m wr)
 case atStart => exact ⟨0, by omega, rfl, ⟨Row.nil, by simp [Value.ownBlock]⟩, Fr.refl _ _ _, hg⟩
 case round =>
  obtain ⟨k, hk, rfl, hP, hF, hG⟩ := hrel
  by_cases hlt : k < n
  ·obtain ⟨p, hp⟩ : ∃ p, xs[k]? = some p := ⟨_, List.getElem?_eq_getElem (by omega)⟩
   obtain ⟨b, off, rfl, c0, c1⟩ := (hA.fr0 hF (by decide)).pair hp
   have hlen := ofL_len (xs.take k) []
   rw [List.length_take] at hlen
   simp only [List.length_nil] at hlen
   have hW := with_any (key := p.1) (val := p.2) (drop := false) hG.drew (hP.1.fr (Fr.drew g No wr) (fun _ _ h => h)).sl (by omega)
   rw [wGo_false _ _ (ofL_srt _ srt_nil), ← ofL_take xs k p hp []] at hW
   obtain ⟨p1, p2⟩ := p
   have hk0 : (0 : Int) ≤ (k : Int) := by omega
   have hki : (k : Int) < (n : Int) := by omega
   clear hp hlen hP
   go_wp2_with fail
   go_still_tail 11, (by kernel_rfl)
   go_wp2_with fail
   refine hW.mono ?_
   rintro e w1 ⟨v, rfl, hP1, f1, hG1⟩
   have hF1 := (hF.tr (Fr.drew g No wr)).tr f1
   have hP2 : PV g w.heap.size w1 (ofL (xs.take (k + 1)) []) v := ⟨hP1.1, fun b hb => Nat.le_trans hF.size (hP1.2 b hb)⟩
   have HR := Lib.hid (And.intro hP2 (And.intro hF1 hG1))
   clear hW hP1 f1 hG1 hF1 hP2 hF hG c0 c1
   go_wp2_with fail
   go_roundg (n - (k + 1))
   case measure => omega
   case rel => exact ⟨k + 1, by omega, by simp, HR.out⟩
  ·have hkn : xs.take k = xs := List.take_of_length_le (by omega)
   rw [hkn] at hP
   have HP := Lib.hid hP
   clear hP hkn
   go_wp2_with fail
   go_ret
   exact ⟨_, rfl, HP.out, hF, hG⟩
def Quiet (v : Value) (w : World) (e : Ending) (w' : World) : Prop := e = .returned v ∧ ∃ q, w' = w.drewN q
set_option maxHeartbeats 2000000 in
theorem Same_any {g : Gt} {n k : Nat} {va vb : Value} {xs : List (Int × Int)} {w : World} (hA : Sl g w 2 va n (pV xs)) (hB : Sl g w 2 vb k (pV xs)) (hn : n ≤ 1000000) :
 Calls Tryz.prog 28 #[va, vb] w (Quiet (.bool true) w) := by
 obtain ⟨a, c, rfl, hc⟩ := hA.slice
 obtain ⟨a2, c2, rfl, hc2⟩ := hB.slice
 have hl := hA.len
 have hl2 := hB.len
 obtain rfl : k = n := by omega
 have hl3 : xs.length ≤ k ∧ k ≤ xs.length := by omega
 clear hl hl2
 go_enter Tryz.func28, Tryz.ntmps28
 go_wp2_with fail
 go_loopg [5] k (fun gk v5 wr => ∃ i q : Nat, gk + i = k ∧ v5 = .int .i64 i ∧ wr = w.drewN q)
 case atStart => exact ⟨0, 0, by omega, rfl, rfl⟩
 case round =>
  obtain ⟨i, q, hi, rfl, rfl⟩ := hrel
  by_cases hlt : i < k
  ·obtain ⟨p, hp⟩ : ∃ p, xs[i]? = some p := ⟨_, List.getElem?_eq_getElem (by omega)⟩
   obtain ⟨b, off, rfl, c0, c1⟩ := hA.pair hp
   obtain ⟨b', off', rfl, d0, d1⟩ := hB.pair hp
   obtain ⟨p1, p2⟩ := p
   have hk0 : (0 : Int) ≤ (i : Int) := by omega
   have hki : (i : Int) < (k : Int) := by omega
   clear hp
   go_wp2_with fail
   go_quiet (fail)
   go_wp2_with fail
   go_roundg (k - (i + 1))
   case measure => omega
   case rel => exact ⟨i + 1, q + nq, by omega, by simp, by simp⟩
  ·go_wp2_with fail
   go_ret
   exact ⟨rfl, q, rfl⟩
end Go.Proofs.YtdmobhndbibhoaaGreat
namespace Go.Proofs.YtdmobhndbibhoaaGreat
open Go.RowKit Larch
set_option maxRecDepth 100000
set_option linter.unusedVariables false
set_option linter.unusedSimpArgs false
attribute [local go_sem ↓] Go.wp_at_zero Go.wp_at_succ
theorem Tryz.info34 : (Tryz.prog.info? 34).map (fun i => (i.zero, i.size, i.bytes)) = some (some (.agg #[.bool false, .int .i64 0, .int .i64 0, .slice none 0 0]), 4, 48) := by kernel_rfl
def rC (x : RetM × Value) : List Value := [.bool x.1.ok, .int .i64 x.1.k, .int .i64 x.1.v, x.2]
def rVs (xs : List (RetM × Value)) : List Value := xs.flatMap rC
theorem rC_len (x : RetM × Value) : (rC x).length = 4 := rfl
theorem rVs_get {xs : List (RetM × Value)} {k : Nat} {x : RetM × Value} (h : xs[k]? = some x) (j : Nat) (hj : j < 4) : (rVs xs)[k * 4 + j]? = (rC x)[j]? := flat_get rC_len xs k x j h hj
theorem rVs_snoc (xs : List (RetM × Value)) (x : RetM × Value) : rVs xs ++ rC x = rVs (xs ++ [x]) := by simp [rVs]
def RetsV (g : Gt) (B : Nat) (w : World) (xs : List (RetM × Value)) (v : Value) : Prop :=
 Row g w 34 4 v xs.length (rVs xs) ∧ (∀ b, v.ownBlock = some b → B ≤ b) ∧ ∀ x ∈ xs, PV g B w x.1.ps x.2
def RdR (g : Gt) (w : World) (xs : List (RetM × Value)) (v : Value) : Prop :=
 Sl g w 4 v xs.length (rVs xs) ∧ ∀ x ∈ xs, Sl g w 2 x.2 x.1.ps.length (pV x.1.ps)
section
variable {g : Gt} {B : Nat} {w w' : World} {xs : List (RetM × Value)} {v : Value}
theorem RetsV.rd (h : RetsV g B w xs v) : RdR g w xs v := ⟨h.1.sl, fun x hx => (h.2.2 x hx).1.sl⟩
theorem RdR.fr0 (h : RdR g w xs v) (f : Fr g No w w') : RdR g w' xs v := ⟨h.1.fr0 f (by decide), fun x hx => (h.2 x hx).fr0 f (by decide)⟩
theorem Row.own_cl {e size n b : Nat} {v : Value} {ys : List Value} (h : Row g w e size v n ys) (hb : v.ownBlock = some b) : ∃ cur, Cl g w b cur e := by
 rcases h.2 with ⟨rfl, _⟩ | ⟨b', cap, cur, rfl, _, _, hc, _⟩
 ·simp [Value.ownBlock] at hb
 ·obtain rfl : b' = b := by simpa [Value.ownBlock] using hb
  exact ⟨cur, hc⟩
theorem RetsV.fr {S : Nat → Prop} (h : RetsV g B w xs v) (f : Fr g S w w') (hs : ∀ c cs T, Cl g w c cs T → T = 34 ∨ T = 49 → ¬ S c) : RetsV g B w' xs v :=
 ⟨h.1.fr f (fun b hb => by obtain ⟨cur, hc⟩ := h.1.own_cl hb; exact hs b cur 34 hc (.inl rfl)), h.2.1,
  fun x hx => (h.2.2 x hx).fr f (fun b hb => by obtain ⟨cur, hc⟩ := (h.2.2 x hx).1.own_cl hb; exact hs b cur 49 hc (.inr rfl))⟩
theorem tb_not {c : Nat} {cs : Array Value} {T : TypeId} (hc : Cl g w c cs T) (hT : T ≠ 209 ∧ T ≠ 269) : ¬ Tb g w c := fun h => by
 rcases h with ⟨cs', T', fr', h1, h2⟩ | h
 ·rw [hc.1] at h1; cases h1; exact h2.elim hT.1 hT.2
 ·exact hc.2 h
theorem RetsV.tf (h : RetsV g B w xs v) (f : TF g w w') : RetsV g B w' xs v := h.fr f (fun c cs T hc hT => tb_not hc (by rcases hT with rfl | rfl <;> decide))
theorem PV.tf {ps : List (Int × Int)} (h : PV g B w ps v) (f : TF g w w') : PV g B w' ps v := h.fr f (fun b hb => by obtain ⟨cur, hc⟩ := h.1.own_cl hb; exact tb_not hc (by decide))
theorem RetsV.nil : RetsV g B w [] (.slice none 0 0) := ⟨Row.nil, by simp [Value.ownBlock], by simp⟩
theorem RetsV.mono {B' : Nat} (h : RetsV g B w xs v) (hB : B' ≤ B) : RetsV g B' w xs v := ⟨h.1, fun b hb => Nat.le_trans hB (h.2.1 b hb), fun x hx => ⟨(h.2.2 x hx).1, fun b hb => Nat.le_trans hB ((h.2.2 x hx).2 b hb)⟩⟩
theorem RdR.at {n : Nat} {a : Option Addr} {c k : Nat} {x : RetM × Value} (h : RdR g w xs (.slice a n c)) (hx : xs[k]? = some x) :
 ∃ b off, a = some ⟨b, off, none⟩ ∧ w.cell? ⟨b, off + k * 4, none⟩ = some (.bool x.1.ok) ∧ w.cell? ⟨b, off + k * 4 + 1, none⟩ = some (.int .i64 x.1.k) ∧ w.cell? ⟨b, off + k * 4 + 2, none⟩ = some (.int .i64 x.1.v) ∧ w.cell? ⟨b, off + k * 4 + 3, none⟩ = some x.2 := by
 have hk := (List.getElem?_eq_some_iff.1 hx).1
 obtain ⟨h1, a', c', h2, h3, h4⟩ := h.1
 simp only [Value.slice.injEq] at h2
 obtain ⟨rfl, hnl, rfl⟩ := h2
 obtain ⟨b, off, e1, _, e3⟩ := h4 (by omega)
 have hg : ∀ j, j < 4 → w.cell? ⟨b, off + (k * 4 + j), none⟩ = (rC x)[j]? := fun j hj => by
  rw [e3 (k * 4 + j) (by omega), rVs_get hx j hj]
 refine ⟨b, off, e1, ?_, ?_, ?_, ?_⟩
 ·have := hg 0 (by decide); rw [Nat.add_zero] at this; exact this
 ·rw [Nat.add_assoc]; exact hg 1 (by decide)
 ·rw [Nat.add_assoc]; exact hg 2 (by decide)
 ·rw [Nat.add_assoc]; exact hg 3 (by decide)
end
def TrueQ (g : Gt) (m : Nat) (w : World) (e : Ending) (w' : World) : Prop := e = .returned (.bool true) ∧ Fr g No w w' ∧ GOk g m w'
set_option maxHeartbeats 4000000 in
theorem SameRet_any {g : Gt} {m n : Nat} {ok : Bool} {k v : Int} {pa pb : Value} {ps : List (Int × Int)} {w : World} (hg : GOk g m w) (hA : Sl g w 2 pa n (pV ps)) (hB : Sl g w 2 pb n (pV ps)) (hn : n ≤ 1000000) :
 Calls Tryz.prog 18 #[.agg (rO ok k v pa), .agg (rO ok k v pb)] w (TrueQ g m w) := by
 obtain ⟨a, c, rfl, _⟩ := hA.slice
 obtain ⟨a2, c2, rfl, _⟩ := hB.slice
 have hF1 := Fr.alloc g No w (.cells (rO ok k v (.slice a n c)) 34) hg
 have hG1 := hg.alloc (.cells (rO ok k v (.slice a n c)) 34)
 have hF2 := Fr.alloc g No _ (.cells (rO ok k v (.slice a2 n c2)) 34) hG1
 have hG2 := hG1.alloc (.cells (rO ok k v (.slice a2 n c2)) 34)
 have hF := hF1.tr hF2
 have hS := Same_any (hA.fr0 hF (by decide)) (hB.fr0 hF (by decide)) hn
 have HX := Lib.hid (And.intro hF hG2)
 clear hF hF1 hF2 hG1 hG2 hg hA hB
 unfold rO at *
 cases ok
 all_goals
  go_enter Tryz.func18, Tryz.ntmps18
  go_wp2_with fail
  refine hS.mono ?_
  rintro e w1 ⟨rfl, q, rfl⟩
  clear hS
  go_wp2_with fail
  go_ret
  exact ⟨rfl, HX.out.1.tr (Fr.drewN g _ _), HX.out.2.drewN q⟩
set_option maxHeartbeats 4000000 in
theorem SameRets_any {g : Gt} {m : Nat} {va vb : Value} {xs ys : List (RetM × Value)} {w : World} (hg : GOk g m w) (hA : RdR g w xs va) (hB : RdR g w ys vb) (hxy : xs.map (·.1) = ys.map (·.1)) (hn : xs.length ≤ 100000) (hp : ∀ x ∈ xs, x.1.ps.length ≤ 1000000) :
 Calls Tryz.prog 46 #[va, vb] w (TrueQ g m w) := by
 obtain ⟨a, c, rfl, _⟩ := hA.1.slice
 obtain ⟨a2, c2, rfl, _⟩ := hB.1.slice
 have hl : xs.length = ys.length := by simpa using congrArg List.length hxy
 obtain ⟨n, hn0⟩ : ∃ n, xs.length = n := ⟨_, rfl⟩
 have hn1 : ys.length = n := by omega
 rw [hn0] at hA hn ⊢
 rw [hn1] at hB ⊢
 have HN := Lib.hid (And.intro hn0 hn1)
 clear hl hn0 hn1
 go_enter Tryz.func46, Tryz.ntmps46
 go_wp2_with fail
 go_loopg [5] n (fun gk v5 wr => ∃ i : Nat, gk + i = n ∧ v5 = .int .i64 i ∧ Fr g No w wr ∧ GOk g m wr)
 case atStart => exact ⟨0, by omega, rfl, Fr.refl _ _ _, hg⟩
 case round =>
  obtain ⟨i, hi, rfl, hF, hG⟩ := hrel
  by_cases hlt : i < n
  ·obtain ⟨x, hx⟩ : ∃ x, xs[i]? = some x := ⟨_, List.getElem?_eq_getElem (by have := HN.out.1; omega)⟩
   obtain ⟨y, hy⟩ : ∃ y, ys[i]? = some y := ⟨_, List.getElem?_eq_getElem (by have := HN.out.2; omega)⟩
   have hxy' : x.1 = y.1 := by
    have := congrArg (fun l => l[i]?) hxy
    simpa [List.getElem?_map, hx, hy] using this
   have hA1 := hA.fr0 hF
   have hB1 := hB.fr0 hF
   obtain ⟨b, off, rfl, c0, c1, c2', c3⟩ := hA1.at hx
   obtain ⟨b', off', rfl, d0, d1, d2, d3⟩ := hB1.at hy
   have hsx := hA1.2 x (List.mem_of_getElem? hx)
   have hsy := hB1.2 y (List.mem_of_getElem? hy)
   have hpl := hp x (List.mem_of_getElem? hx)
   obtain ⟨⟨ok, k, v, ps⟩, pa⟩ := x
   obtain ⟨r2, pb⟩ := y
   obtain rfl : (⟨ok, k, v, ps⟩ : RetM) = r2 := hxy'
   simp only at c0 c1 c2' c3 d0 d1 d2 d3 hsx hsy hpl
   have hSR := SameRet_any (ok := ok) (k := k) (v := v) hG.drew (hsx.fr0 (Fr.drew g No wr) (by decide)) (hsy.fr0 (Fr.drew g No wr) (by decide)) hpl
   obtain ⟨aa, ca, rfl, _⟩ := hsx.slice
   obtain ⟨ab, cb, rfl, _⟩ := hsy.slice
   unfold rO at hSR
   have hk0 : (0 : Int) ≤ (i : Int) := by omega
   have hki : (i : Int) < (n : Int) := by omega
   clear hx hy hA1 hB1 hsx hsy hpl
   go_wp2_with fail
   go_still_tail 8, (by kernel_rfl)
   go_wp2_with fail
   refine hSR.mono ?_
   rintro e w1 ⟨rfl, hF1, hG1⟩
   have HX := Lib.hid (And.intro ((hF.tr (Fr.drew _ _ _)).tr hF1) hG1)
   clear hSR hF hG hF1 hG1 c0 c1 c2' c3 d0 d1 d2 d3
   go_wp2_with fail
   go_roundg (n - (i + 1))
   case measure => omega
   case rel => exact ⟨i + 1, by omega, by simp, HX.out⟩
  ·go_wp2_with fail
   go_ret
   exact ⟨rfl, hF, hG⟩
end Go.Proofs.YtdmobhndbibhoaaGreat
