/-
  Several texts in one: Mix7 Mix8 Sco1 Sco2 Bcb1 Bcb2 Rfb1.
  Conditions: named at each.
-/
import Derived.Test.YtcdjakemdlinhaaGreatDoorG10
set_option maxHeartbeats 16000000
set_option linter.unusedSimpArgs false
set_option linter.unusedVariables false
set_option linter.unusedSectionVars false
namespace Go.Proofs.YtcdjakemdlinhaaGreatDoor.Sx
open Go.ChangeShapes Go.WideShapes Go.ChangeAt Go.RowKit Go.Deep
def jD (kind t0 : Int) (o : Op) : Bool := kind == 2 && o.k == 1 && o.n == t0
theorem aK7 (x : Op) (kind t0 : Int) (pk pt bT fT nT cT : Nat) (w : World) {U : View} (hU : See U w) (hk : U ⟨pk, 0, none⟩ = some (.int .i64 kind)) (ht : U ⟨pt, 0, none⟩ = some (.slice (some ⟨bT, fT, none⟩) nT cT)) (hz0 : U ⟨bT, fT + 0, none⟩ = some (.int .i64 t0)) (hn : 0 < nT) : CP 84 #[x.V, .pointer (some ⟨pk, 0, none⟩), .pointer (some ⟨pt, 0, none⟩)] w (Ret (.bool (jD kind t0 x)) w) := by
 refine eG 20 Tryz.func84 hU ?_
 refine zs (zr (cJ (fun b0 => (zq 1 (zn (zs ?_))))))
 rcases Bool.eq_false_or_eq_true (kind == 2) with h0 | h0
 ·
  have h0d := eq_of_beq h0
  rcases Bool.eq_false_or_eq_true (x.k == 1) with h1 | h1
  ·
   have h1d := eq_of_beq h1
   refine gU 4 [1,1,0,0,3,1,0,0,0,3,1,1,1] [(b0,1),(b0,1)] [.val (I6 kind),.val (.bool true),.val (.bool true),.val (Sl bT fT nT cT),.val (Pt bT (fT + 0)),.val (I6 t0)] ⟨?_,?_,?_,?_,?_,?_,trivial⟩ ?_
   · exact vU1 pk (0) hk 3 _ _ Tryz.underlying3 rfl
   · exact vE (.bool (kind == 2)) (congrArg Value.bool h0)
   · exact vE (.bool (x.k == 1)) (congrArg Value.bool h1)
   · exact vU1 pt (0) ht 48 _ _ Tryz.underlying48 rfl
   · exact vR (fW _ 3 _ _ rfl bT fT nT cT 0 .i64 kR kR (by first | assumption | omega) kR kR)
   · exact vU1 bT (fT + 0) hz0 3 _ _ Tryz.underlying3 rfl
   refine zq 3 (zn (aA (aH [4] [(.bool (x.n == t0))] (fun W' hM => ?_))))
   exact ⟨by simp only [cG,jD,h0,h1,bs,bQ,reduceIte],hM.below⟩
  ·
   refine gU 4 [1,1,0,0,3,1,0,0,2,2,2,2,2] [(b0,1)] [.val (I6 kind),.val (.bool true),.val (.bool false)] ⟨?_,?_,?_,trivial⟩ ?_
   · exact vU1 pk (0) hk 3 _ _ Tryz.underlying3 rfl
   · exact vE (.bool (kind == 2)) (congrArg Value.bool h0)
   · exact vE (.bool (x.k == 1)) (congrArg Value.bool h1)
   refine zq 3 (zn (aA (aH [4] [(.bool false)] (fun W' hM => ?_))))
   exact ⟨by simp only [cG,jD,h0,h1,bs,bQ,reduceIte],hM.below⟩
 ·
  refine gU 4 [1,1,0,2,2,2,0,0,2,2,2,2,2] [] [.val (I6 kind),.val (.bool false)] ⟨?_,?_,trivial⟩ ?_
  · exact vU1 pk (0) hk 3 _ _ Tryz.underlying3 rfl
  · exact vE (.bool (kind == 2)) (congrArg Value.bool h0)
  refine zq 3 (zn (aA (aH [4] [(.bool false)] (fun W' hM => ?_))))
  exact ⟨by simp only [cG,jD,h0,bs,bQ,reduceIte],hM.below⟩
structure rP (U : View) (kind t0 : Int) (pk pt : Nat) : Prop where
 go : ∃ bT fT nT cT, U ⟨pk, 0, none⟩ = some (.int .i64 kind) ∧ U ⟨pt, 0, none⟩ = some (.slice (some ⟨bT, fT, none⟩) nT cT) ∧ U ⟨bT, fT + 0, none⟩ = some (.int .i64 t0) ∧ 0 < nT
theorem rP.le {U V : View} {kind t0 : Int} {pk pt : Nat} (h : View.le U V) (hs : rP U kind t0 pk pt) : rP V kind t0 pk pt := by
 obtain ⟨bT, fT, nT, cT, h1, h2, h3, h4⟩ := hs.go
 exact ⟨bT, fT, nT, cT, h _ _ h1, h _ _ h2, h _ _ h3, h4⟩
theorem aD0 (x : Op) (kind t0 : Int) (pk pt : Nat) (w : World) {U : View} (hU : See U w) (hs : rP U kind t0 pk pt) : CP 84 #[x.V, .pointer (some ⟨pk, 0, none⟩), .pointer (some ⟨pt, 0, none⟩)] w (Ret (.bool (jD kind t0 x)) w) := by
 obtain ⟨bT, fT, nT, cT, h1, h2, h3, h4⟩ := hs.go
 exact aK7 x kind t0 pk pt bT fT nT cT w hU h1 h2 h3 h4
def aBS (kind t0 : Int) : Nat → List Op → Int
 | _, [] => -1
 | i, x :: r => if jD kind t0 x then (i : Int) else aBS kind t0 (i + 1) r
theorem aCw {kind t0 : Int} {l : List Op} {i : Nat} {y : Op} (h : l[i]? = some y) : aBS kind t0 i (l.drop i) = if jD kind t0 y then (i : Int) else aBS kind t0 (i + 1) (l.drop (i + 1)) := by
 rw [cK h, aBS]
theorem aCv (kind t0 : Int) : ∀ (i : Nat) (l : List Op), (aBS kind t0 i l = -1 ∧ l.filter (fun o => !jD kind t0 o) = l) ∨ ∃ j : Nat, aBS kind t0 i l = ((i + j : Nat) : Int) ∧ j < l.length ∧ (l.take (j + 1)).filter (fun o => !jD kind t0 o) = l.take j
 | i, [] => .inl ⟨rfl, rfl⟩
 | i, x :: r => by
  rw [aBS]
  cases hx : jD kind t0 x with
  | true => exact .inr ⟨0, by simp, by simp, by simp [hx]⟩
  | false =>
   simp only [Bool.false_eq_true, if_false]
   rcases aCv kind t0 (i + 1) r with ⟨h1, h2⟩ | ⟨j, h1, h2, h3⟩
   · exact .inl ⟨h1, by rw [List.filter_cons, hx, h2]; rfl⟩
   ·
    refine .inr ⟨j + 1, by rw [h1]; congr 1; omega, by rw [List.length_cons]; omega, ?_⟩
    rw [List.take_succ_cons, List.take_succ_cons, List.filter_cons, hx, h3]
    rfl
theorem aEh (l : List Op) (a : Option Addr) (c : Nat) (kind t0 : Int) (pk pt : Nat) (w : World) {U : View} (hU : See U w) (hl : iM OpR 3 U a l) (hs : rP U kind t0 pk pt) :
    CP 126 #[.slice a l.length c, .func (.func 84) #[] #[.pointer (some ⟨pk, 0, none⟩), .pointer (some ⟨pt, 0, none⟩)]] w (Ret (.int .i64 (aBS kind t0 0 l)) w) := by
 have hlen := hl.len
 unfold R47 at hlen
 refine eG 19 Tryz.func126 hU ?_
 refine zQ 1 (zn (zs (zQ 3 (zn (aB (gX (α := Nat) (fun x => [0,1,4,7,8].zip [(.slice a l.length c),(.func (.func 84) #[] #[(Pt pk 0),(Pt pt 0)]),(I6 0),(L6 l.length),(L6 x)]) (fun x => U) (fun x => []) (fun x => x ≤ l.length ∧ aBS kind t0 x (l.drop x) = aBS kind t0 0 l) (fun x => l.length - x) 0 ?_ ?_))))))
 · exact ⟨Nat.zero_le _,rfl⟩
 intro x hx
 obtain ⟨hx1,hx2⟩ := hx
 refine zQ 1 (zn (zs (cD (decide ((x : Int) < (l.length : Int))) (fun h0 => ?_) (fun h0 => ?_))))
 ·
  have h0d := of_decide_eq_true h0
  refine zk (zs (aB (zQ 2 (zn (zQ 3 ?_)))))
  obtain ⟨y0,hy0⟩ : ∃ y,(l)[x]? = some y := ⟨(l)[x]'oW,List.getElem?_eq_getElem _⟩
  obtain ⟨b0,f0,cs0,rfl,hU0,hR0⟩ := hl.at_ x y0 hy0
  obtain rfl := hR0
  refine cH (Pt b0 (f0 + x * 3)) (rIx 153 rfl b0 f0 l.length c x 3) ?_
  refine zU b0 (f0 + x * 3) [(I6 y0.k),(I6 y0.n),(I6 y0.t)] hU0 153 (.tmp 14) _ Tryz.underlying153 rfl ?_
  refine dL (fun W hM => aD0 y0 kind t0 pk pt W hM.view hs) (zn (cD (jD kind t0 y0) (fun h1 => ?_) (fun h1 => ?_)))
  ·
   refine zQ 2 (zn (aA (aH [4] [(L6 x)] (fun W' hM => ?_))))
   refine ⟨?_,hM.below⟩
   rw [← hx2,aCw hy0,if_pos h1]
   rfl
  ·
   refine zk (zr (zq 1 (fC 18 ((x : Int) + 1) (zq 1 (zn ?_)))))
   refine nx (x + 1) ?_ ?_
   · exact ⟨by omega,by rw [← hx2,aCw hy0,h1]; rfl⟩
   · show l.length - (x + 1) < l.length - x; omega
 ·
  have h0d := of_decide_eq_false h0
  refine aU (zQ 1 (zn (aA (aH [4] [(I6 (-1))] (fun W' hM => ?_)))))
  refine ⟨?_,hM.below⟩
  rw [← hx2,cY oW]
  rfl
theorem oN : ∀ q : List Op, (q.flatMap Op.cs).length = q.length * 3
 | [] => rfl
 | x :: r => by rw [List.flatMap_cons, List.length_append, oN r, List.length_cons]; show 3 + r.length * 3 = _; omega
theorem aFk : ∀ {q : List Op} {j : Nat} {y : Op} {junk : List Value}, q[j]? = some y → ∀ i v, y.cs[i]? = some v → (q.flatMap Op.cs ++ junk)[0 + j * 3 + i]? = some v
 | [], j, y, junk, h, _, _, _ => by simp at h
 | x :: r, 0, y, junk, h, i, v, hv => by
  simp only [List.getElem?_cons_zero, Option.some.injEq] at h
  subst h
  have hl := (List.getElem?_eq_some_iff.1 hv).1
  rw [List.flatMap_cons, List.append_assoc, List.getElem?_append_left oW]
  rwa [show 0 + 0 * 3 + i = i by omega]
 | x :: r, j + 1, y, junk, h, i, v, hv => by
  have := aFk (junk := junk) (show r[j]? = some y by simpa using h) i v hv
  have h3 : x.cs.length = 3 := rfl
  rw [List.flatMap_cons, List.append_assoc, List.getElem?_append_right oW, show 0 + (j + 1) * 3 + i - x.cs.length = 0 + j * 3 + i by omega]
  exact this
theorem aEa : ∀ (l : List Op) (i : Nat) (x : Op) (j : List Value), i < l.length → cO (l.flatMap Op.cs ++ j) (0 + i * 3) x.cs = (l.set i x).flatMap Op.cs ++ j
 | [], i, x, j, hi => by simp at hi
 | y :: r, 0, x, j, _ => by
  rw [List.set_cons_zero, List.flatMap_cons, List.flatMap_cons, Nat.zero_mul, List.append_assoc, List.append_assoc]
  unfold cO
  rw [List.take_zero, List.nil_append, Nat.zero_add, show x.cs.length = y.cs.length from rfl, List.drop_left]
 | y :: r, i + 1, x, j, hi => by
  have ih := aEa r i x j (by simpa using hi)
  have hq : y.cs.length = 3 := rfl
  have hp : x.cs.length = 3 := rfl
  rw [List.set_cons_succ, List.flatMap_cons, List.flatMap_cons, List.append_assoc, List.append_assoc, ← ih]
  unfold cO
  rw [hp, show 0 + (i + 1) * 3 = y.cs.length + (0 + i * 3) by omega, List.take_append, List.take_of_length_le oW, show y.cs.length + (0 + i * 3) - y.cs.length = 0 + i * 3 by omega, show y.cs.length + (0 + i * 3) + 3 = y.cs.length + (0 + i * 3 + 3) by omega, List.drop_append, List.drop_of_length_le oW, List.nil_append, show y.cs.length + (0 + i * 3 + 3) - y.cs.length = 0 + i * 3 + 3 by omega]
  simp only [List.append_assoc]
theorem aBj {W0 : Cx} {U : View} {σ : aF} {W : World} (k b : Nat) (q : List Op) (junk : List Value) (hM : Mem W0 U σ W) (hk : σ[k]? = some (b, .cells (q.flatMap Op.cs ++ junk).toArray 153 (0, 0))) (h47 : q.length ≤ R47) : iM OpR 3 (aBT W) (some ⟨b, 0, none⟩) q := by
 have hr := cW hM k b _ _ hk
 refine ⟨fun i x hx => ⟨b, 0, x.cs, rfl, fun j v hv => ?_, rfl⟩, h47⟩
 have := hr (0 + i * 3 + j) v (aFk hx j v hv)
 rwa [Nat.zero_add] at this
structure Dl where
 i : Nat
 j : Nat
 L : List Op
structure aBK (q : List Op) (keep : Op → Bool) (x : Dl) : Prop where
 ij : x.i < x.j
 jn : x.j ≤ q.length
 len : x.L.length = q.length
 tk : x.L.take x.i = (q.take x.j).filter keep
 dr : x.L.drop x.j = q.drop x.j
theorem aBK.skip {q : List Op} {keep : Op → Bool} {x : Dl} {y : Op} (h : aBK q keep x) (hy : q[x.j]? = some y) (hk : keep y = false) : aBK q keep ⟨x.i, x.j + 1, x.L⟩ := by
 have hlt := (List.getElem?_eq_some_iff.1 hy).1
 refine ⟨by have := h.ij; show x.i < x.j + 1; omega, hlt, h.len, ?_, ?_⟩
 ·
  show x.L.take x.i = (q.take (x.j + 1)).filter keep
  rw [List.take_add_one, hy, List.filter_append, h.tk]
  simp [hk]
 ·
  show x.L.drop (x.j + 1) = q.drop (x.j + 1)
  rw [← List.drop_drop, ← List.drop_drop, h.dr]
theorem aBK.keep {q : List Op} {keep : Op → Bool} {x : Dl} {y : Op} (h : aBK q keep x) (hy : q[x.j]? = some y) (hk : keep y = true) : aBK q keep ⟨x.i + 1, x.j + 1, x.L.set x.i y⟩ := by
 have hlt := (List.getElem?_eq_some_iff.1 hy).1
 have hij := h.ij
 have hl := h.len
 refine ⟨by show x.i + 1 < x.j + 1; omega, hlt, by rw [List.length_set]; exact hl, ?_, ?_⟩
 ·
  show (x.L.set x.i y).take (x.i + 1) = (q.take (x.j + 1)).filter keep
  rw [List.take_add_one, List.getElem?_set_self oW, List.take_set_of_le (Nat.le_refl _), h.tk, List.take_add_one, hy, List.filter_append]
  simp [hk]
 ·
  show (x.L.set x.i y).drop (x.j + 1) = q.drop (x.j + 1)
  rw [List.drop_set_of_lt oW, ← List.drop_drop, ← List.drop_drop, h.dr]
theorem aBK.at_ {q : List Op} {keep : Op → Bool} {x : Dl} (h : aBK q keep x) : x.L[x.j]? = q[x.j]? := by
 have h1 : (x.L.drop x.j)[0]? = (q.drop x.j)[0]? := by rw [h.dr]
 simpa using h1
theorem aBK.done {q : List Op} {keep : Op → Bool} {x : Dl} (h : aBK q keep x) (hj : ¬ x.j < q.length) : x.L.take x.i = q.filter keep := by
 rw [h.tk, List.take_of_length_le oW]
def aNN (b c : Nat) (q : List Op) (v : Value) (σ : aF) : Prop := ∃ junk, v = .slice (some ⟨b, 0, none⟩) q.length c ∧ σ = [(b, .cells (q.flatMap Op.cs ++ junk).toArray 153 (0, 0))] ∧ (Rw.row b c junk).ok 3 q.length (q.flatMap Op.cs)
theorem aMI {L : List Op} {junk zs : List Value} {i n c : Nat} (hL : L.length = n) (hi : i ≤ n) (hz : zs.length = (n - i) * 3) (hc : (L.flatMap Op.cs ++ junk).length = c * 3) (hnc : n ≤ c) (hcm : c ≤ maxLen) : ∃ junk', cO (L.flatMap Op.cs ++ junk) (0 + i * 3) zs = (L.take i).flatMap Op.cs ++ junk' ∧ (Rw.row 0 c junk').ok 3 i ((L.take i).flatMap Op.cs) := by
 have h1 := oN L
 have h2 := oN (L.take i)
 have hti : (L.take i).length = i := by rw [List.length_take]; omega
 have htk : (L.flatMap Op.cs ++ junk).take (0 + i * 3) = (L.take i).flatMap Op.cs := by
  have : L.flatMap Op.cs = (L.take i).flatMap Op.cs ++ (L.drop i).flatMap Op.cs := by rw [← List.flatMap_append, List.take_append_drop]
  rw [this, List.append_assoc, List.take_left' oW]
 have hcl : (L.flatMap Op.cs ++ junk).length = L.length * 3 + junk.length := by rw [List.length_append, h1]
 refine ⟨zs ++ (L.flatMap Op.cs ++ junk).drop (0 + i * 3 + zs.length), by unfold cO; rw [htk, List.append_assoc], by rw [h2, hti], ?_, by omega, hcm⟩
 simp only [List.length_append, List.length_drop] at hc hcl ⊢
 rw [h2, hti, hz]
 rw [h1] at hc ⊢
 omega
theorem aDm {W0 : Cx} {U : View} {σF : aF} {W : World} (b c : Nat) (q : List Op) (junk : List Value) (kind t0 : Int) (pk pt : Nat) (hs : rP U kind t0 pk pt) (hM : Mem W0 U ([(b, .cells (q.flatMap Op.cs ++ junk).toArray 153 (0, 0))] ++ σF) W) (hok : (Rw.row b c junk).ok 3 q.length (q.flatMap Op.cs)) (h47 : q.length ≤ 1000000) :
    CP 83 #[.slice (some ⟨b, 0, none⟩) q.length c, .func (.func 84) #[] #[.pointer (some ⟨pk, 0, none⟩), .pointer (some ⟨pt, 0, none⟩)]] W (fN W0 U σF fun v _ σ' => aNN b c (q.filter fun o => !jD kind t0 o) v σ') := by
 obtain ⟨hx,hcl,hnc,hcm⟩ := hok
 rcases aCv kind t0 0 q with ⟨hd,hf⟩ | ⟨i0,hd,hi0,hf⟩
 ·
  rw [hf]
  have hM2 := hM
  refine eC 42 Tryz.func83 hM ?_
  refine zQ 1 (zn (zQ 2 (dA 126 #[(Sl b 0 q.length c),(.func (.func 84) #[] #[(Pt pk 0),(Pt pt 0)])] (I6 (-1)) (fun W hM => hd ▸ aEh q _ _ kind t0 pk pt W (U := aBT W) (fun _ _ h => h) (aBj 0 b q junk hM rfl (by unfold R47; omega)) (hs.le hM.view)) ?_)))
  refine zq 1 (zn (zs (zQ 2 (zn (dF (zQ 2 (zn (aA (aH [4] [(Sl b 0 q.length c)] (fun W' hM => ?_))))))))))
  exact dJ (σ' := [(b,(.cells (q.flatMap Op.cs ++ junk).toArray 153 (0,0)))]) hM (View.le_refl _) ⟨junk,rfl,rfl,hx,hcl,hnc,hcm⟩
 ·
  rw [Nat.zero_add] at hd
  refine eC 42 Tryz.func83 hM ?_
  refine zQ 1 (zn (zQ 2 (dA 126 #[(Sl b 0 q.length c),(.func (.func 84) #[] #[(Pt pk 0),(Pt pt 0)])] (I6 (i0 : Int)) (fun W hM => hd ▸ aEh q _ _ kind t0 pk pt W (U := aBT W) (fun _ _ h => h) (aBj 0 b q junk hM rfl (by unfold R47; omega)) (hs.le hM.view)) ?_)))
  refine zq 1 (zn (zs (zQ 2 (zn (eS ((i0 : Int) == (-1)) (beq_eq_false_iff_ne.2 oW) ?_)))))
  refine zk (zs (zQ 2 (eE 15 (I6 (IntKind.i64.wrap ((i0 : Int) + 1))) (I6 ((i0 + 1 : Nat) : Int)) (congrArg (Value.int .i64) (by rw [IntWalk.i64_in _ oW]; omega)) ?_)))
  refine zq 1 (zn (aB (gX (α := Dl) (fun x => [0,1,4,5,6].zip [(Sl b 0 q.length c),(.func (.func 84) #[] #[(Pt pk 0),(Pt pt 0)]),S0,(L6 x.i),(L6 x.j)]) (fun x => U) (fun x => ([(b,(.cells (x.L.flatMap Op.cs ++ junk).toArray 153 (0,0)))] ++ σF)) (fun x => aBK q (fun o => !jD kind t0 o) x ∧ x.j ≤ q.length) (fun x => q.length - x.j) ⟨i0,i0 + 1,q⟩ ?_ ?_)))
  · exact ⟨⟨by show i0 < i0 + 1; omega,by show i0 + 1 ≤ _; omega,rfl,hf.symm,rfl⟩,by show i0 + 1 ≤ _; omega⟩
  intro x hx
  obtain ⟨hx2,hx3⟩ := hx
  have hij := hx2.ij
  have hLn := hx2.len
  refine zs (zQ 4 (zn (cD (decide ((x.j : Int) < (q.length : Int))) (fun h0 => ?_) (fun h0 => ?_))))
  ·
   have h0d := of_decide_eq_true h0
   refine zk (zs (aB (zQ 2 (cH (Pt b (0 + x.j * 3)) (rIx 153 rfl b 0 q.length c x.j 3) ?_))))
   obtain ⟨y0,hy0⟩ : ∃ y,q[x.j]? = some y := ⟨q[x.j]'oW,List.getElem?_eq_getElem _⟩
   refine aM4 0 b (0 + x.j * 3) (x.L.flatMap Op.cs ++ junk) y0.cs 153 153 _ rfl kR kR (fun i v hv => aFk (hx2.at_.trans hy0) i v hv) _ Tryz.underlying153 rfl kR kR kR ?_
   refine dN 1 (fun b1 => ?_)
   refine aY 1 b1 (zn (zB [0,2] [(b1,3)] (dL (fun W hM => aD0 y0 kind t0 pk pt W hM.view hs) (zq 1 (zn (cD (!(jD kind t0 y0)) (fun h1 => ?_) (fun h1 => ?_)))))))
   ·
    refine zB [0,0,2] [(b1,3)] (cH (Pt b (0 + x.i * 3)) (rIx 153 rfl b 0 q.length c x.i 3) ?_)
    refine aH3 0 b (0 + x.i * 3) 3 (x.L.flatMap Op.cs ++ junk) 153 153 y0.V _ _ rfl kR kR kR kR (by rw [List.length_append,oN]; have := hx2.len; omega) rfl kR ?_
    refine lV U _ (fun _ h => h.eqv (show _ = ([(b,(.cells ((x.L.set x.i y0).flatMap Op.cs ++ junk).toArray 153 (0,0))),(bK b1 [(I6 y0.k),(I6 y0.n),(I6 y0.t)] 153)] ++ σF) from by rw [← aEa x.L x.i y0 junk (by have := hx2.len; omega)]; kernel_rfl)) ?_
    refine zn (zr (zq 2 (fC 35 ((x.i : Int) + 1) (zq 1 (zn (zr (zq 2 (fC 21 ((x.j : Int) + 1) (zq 1 (zn ?_))))))))))
    refine nx ⟨x.i + 1,x.j + 1,x.L.set x.i y0⟩ ?_ ?_ (d := fun _ h => Mem.sub (List.Sublist.append (List.sublist_append_left _ _) (List.Sublist.refl _)) (h.eqv (show _ = ((([(b,(.cells ((x.L.set x.i y0).flatMap Op.cs ++ junk).toArray 153 (0,0)))] : aF) ++ ([(bK b1 [(I6 y0.k),(I6 y0.n),(I6 y0.t)] 153)] : aF)) ++ (σF)) from by kernel_rfl)))
    · exact ⟨hx2.keep hy0 h1,by show x.j + 1 ≤ _; omega⟩
    · show q.length - (x.j + 1) < q.length - x.j; omega
   ·
    refine zk (zr (zq 2 (fC 21 ((x.j : Int) + 1) (zq 1 (zn ?_)))))
    refine nx ⟨x.i,x.j + 1,x.L⟩ ?_ ?_ (d := fun _ h => Mem.sub (List.Sublist.append (List.sublist_append_left _ _) (List.Sublist.refl _)) (h.eqv (show _ = ((([(b,(.cells (x.L.flatMap Op.cs ++ junk).toArray 153 (0,0)))] : aF) ++ ([(bK b1 [(I6 y0.k),(I6 y0.n),(I6 y0.t)] 153)] : aF)) ++ (σF)) from by kernel_rfl)))
    · exact ⟨hx2.skip hy0 h1,by show x.j + 1 ≤ _; omega⟩
    · show q.length - (x.j + 1) < q.length - x.j; omega
  ·
   have h0d := of_decide_eq_false h0
   refine aU (zQ 2 (cH (.slice (some ⟨b,(if c = x.i then 0 else 0 + x.i * 3),none⟩) (q.length - x.i) (c - x.i)) (gD 119 153 (.tmp 36) (some (.tmp 37)) none none rfl b 0 q.length c x.i q.length c 3 (q.length - x.i) (c - x.i) (if c = x.i then 0 else 0 + x.i * 3) kR eR eR eR (by decide) oW oW oW oW oW (by first | rfl | (split <;> omega)) Tryz.underlying119 kR) ?_))
   refine aLJ 0 b (if c = x.i then 0 else 0 + x.i * 3) (q.length - x.i - 1) (c - x.i) 3 (x.L.flatMap Op.cs ++ junk) (.agg #[.int .i64 0,.int .i64 0,.int .i64 0]) 153 119 153 (.tmp 38) rfl (by rw [show q.length - x.i - 1 + 1 = q.length - x.i by omega]; kernel_rfl) kR (fun W => by kernel_rfl) rfl kR (by rw [if_neg oW,List.length_append,oN]; omega) Tryz.underlying119 kR kR (fun ys hys => ?_)
   refine zn (zQ 2 (cH (Sl b 0 x.i c) (gD 119 153 (.tmp 39) none (some (.tmp 40)) none rfl b 0 q.length c 0 x.i c 3 x.i c 0 kR eR eR eR (by decide) oW oW oW oW oW (by first | rfl | (split <;> omega)) Tryz.underlying119 kR) ?_))
   refine zq 1 (zn (aA (aH [4] [(Sl b 0 x.i c)] (fun W' hM => ?_))))
   obtain ⟨junk2,hj2,hok2⟩ := aMI (L := x.L) (junk := junk) (zs := ys) (i := x.i) (n := q.length) (c := c) hLn oW (by rw [hys]; congr 1; omega) (by rw [List.length_append,oN,hLn,← List.length_append.symm.trans hcl.symm.symm]; simp only [List.length_append,oN]) hnc hcm
   rw [← hx2.done oW]
   have hti : (x.L.take x.i).length = x.i := by rw [List.length_take]; omega
   have hM9 := hM.eqv (show _ = ([(b,(.cells (cO (x.L.flatMap Op.cs ++ junk) (if c = x.i then 0 else 0 + x.i * 3) ys).toArray 153 (0,0)))] ++ σF) from by kernel_rfl)
   rw [if_neg oW,hj2] at hM9
   refine dP 0 1 (b,.cells ((x.L.take x.i).flatMap Op.cs ++ junk2).toArray 153 (0,0)) hM9 (View.le_refl _) ⟨junk2,?_,rfl,?_⟩
   ·
    show Value.slice (some ⟨b,0,none⟩) x.i c = _
    rw [hti]
   ·
    rw [hti]
    exact hok2
theorem mM {p : Pr} {l : List Bk} (h : jP p l = 0) : aZ p l = 0 ∧ ∃ q, aCg l = some q := by
 unfold jP at h
 split at h
 · next h1 => rw [h] at h1; cases h1
 ·
  next h1 =>
  refine ⟨by simpa using h1, ?_⟩
  split at h
  · cases h
  · next q hq => exact ⟨q, hq⟩
theorem aF4 {V : View} : ∀ {L : List (Op × List Value)}, qS OpR V L → L.flatMap Prod.snd = (L.map Prod.fst).flatMap Op.cs
 | [], _ => rfl
 | (o, cs) :: r, ⟨h1, h2⟩ => by
  rw [List.flatMap_cons, List.map_cons, List.flatMap_cons, aF4 h2]
  rw [show (o, cs).2 = o.cs from h1]
theorem RwR.opXs {V : View} {r : Rw} {xs : List Value} {m : Nat} {L : List (Op × List Value)} (h : RwR OpR 3 V r xs m L) : xs = (L.map Prod.fst).flatMap Op.cs := by
 rw [h.xs, aF4 h.all]
theorem aFo {l : List Bk} {kind : Int} {ts : List Int} (h : fI l kind ts = 0) : ∃ t0, ts[0]? = some t0 := by
 cases ts with
 | cons t r => exact ⟨t, rfl⟩
 | nil =>
  unfold fI at h
  rw [if_pos (by simp)] at h
  cases h
theorem aK6 {p : Pr} {l : List Bk} {kind t0 : Int} {ts : List Int} {q : List Op} (h1 : (jP p l != 0) = false) (h2 : (fI l kind ts != 0) = false) (h3 : (gC .u64 (p.f : Int) 1 != 0) = false) (hq : aCg l = some q) (ht : ts[0]? = some t0) : aDw p l kind ts = aDZ p l ((q ++ opsOf kind (dX l : Int) ts).filter fun o => !jD kind t0 o) := by
 have e : ts.headD 0 = t0 := by
  cases ts with
  | nil => cases ht
  | cons t r => exact Option.some.inj ht
 unfold aDw
 rw [if_neg (by rw [h1]; exact Bool.false_ne_true), if_neg (by rw [h2]; exact Bool.false_ne_true), if_neg (by rw [h3]; exact Bool.false_ne_true)]
 unfold aIX
 rw [hq, e]
 rfl
theorem aK9 (eA : Addr) (p : Pr) (l : List Bk) (a : Option Addr) (c : Nat) (kind : Int) (ts : List Int) (aT : Option Addr) (cT : Nat) (w : World) {U : View} (hU : See U w) (hE : EF U eA) (hp : p.ok) (hl : cX U a l) (ht : oD U aT ts) (hc : ts.length ≤ cT) (hsm : ts.length ≤ 100000) : CP 36 #[bnV p a l.length c, .int .i64 kind, .slice aT ts.length cT] w (Ret (.int .i64 (aDw p l kind ts)) w) := by
 refine eG 58 Tryz.func36 hU ?_
 refine zs (zr (cJ (fun b0 => (cJ (fun b1 => (cJ (fun b2 => (zq 1 (zn (zs (zB [1] [(b0,20)] (dA 80 #[(bnV p a l.length c)] (I6 (jP p l)) (fun W hM => aHd eA p l _ _ W hM.view hE hp hl) ?_))))))))))))
 refine zq 1 (zn (zQ 2 (zn (cD ((jP p l) != 0) (fun h0 => ?_) (fun h0 => ?_)))))
 ·
  refine zQ 2 (zn (aA (aH [6] [(I6 (jP p l))] (fun W' hM => ?_))))
  refine ⟨?_,hM.below⟩
  unfold aDw
  rw [if_pos h0]
  rfl
 ·
  have h0d := bne_eq_false_iff_eq.1 h0
  refine zk (zs (zB [1,2,3] [(b0,20),(b1,1),(b2,1)] (dA 81 #[(bnV p a l.length c),(I6 kind),(.slice aT ts.length cT)] (I6 (fI l kind ts)) (fun W hM => aHe p l _ _ kind ts _ _ W hM.view hl ht hc) ?_)))
  refine zq 1 (zn (zQ 2 (zn (cD ((fI l kind ts) != 0) (fun h1 => ?_) (fun h1 => ?_)))))
  ·
   refine zQ 2 (zn (aA (aH [6] [(I6 (fI l kind ts))] (fun W' hM => ?_))))
   refine ⟨?_,hM.below⟩
   unfold aDw
   rw [if_neg (by rw [h0]; exact Bool.false_ne_true),if_pos h1]
   rfl
  ·
   have h1d := bne_eq_false_iff_eq.1 h1
   refine zk (zs (zB [0,0,1,0,0] [(b0,1)] (zn (cD ((gC .u64 (p.f : Int) 1) != 0) (fun h2 => ?_) (fun h2 => ?_)))))
   ·
    refine zQ 1 (zn (aA (aH [6] [(I6 8)] (fun W' hM => ?_))))
    refine ⟨?_,hM.below⟩
    unfold aDw
    rw [if_neg (by rw [h0]; exact Bool.false_ne_true),if_neg (by rw [h1]; exact Bool.false_ne_true),if_pos h2]
    rfl
   ·
    have h2d := bne_eq_false_iff_eq.1 h2
    refine zk (zB [1] [(b0,20)] ?_)
    refine oH 82 #[(bnV p a l.length c)] (fun v σ' => aBU (aCg l) v σ') kR (fun W hM => aC4 eA p l _ _ (hE.le hM.view) (hl.le hM.view) (fun x hx => by have := (eI (mM (by simpa using h0)).1).2 x hx; omega) (by have := (eI (mM (by simpa using h0)).1).1; omega) (Mem.all W)) kR kR (fun v3 s3 hP3 => ?_)
    obtain ⟨q3,hq3⟩ := (mM (by simpa using h0)).2
    rw [hq3] at hP3
    obtain ⟨r3,xs3,L3,rfl,rfl,hr3,hL3⟩ := hP3
    have hn3 := aF3 hq3
    have hm3 := (eI (mM (by simpa using h0)).1).1
    refine zq 5 (zn (zB [1] [(b0,20)] (dA 38 #[(bnV p a l.length c)] (L6 (dX l)) (fun W hM => aEw p l _ _ W hM.view hl) ?_)))
    refine zq 1 (zn (zs (zB [3,0,0] [(b2,1)] (zn (aB (gX (α := Go_) (fun x => [3,4,5,6,9,11,38,39,40].zip [(Pt b0 0),(Pt b1 0),(Pt b2 0),(I6 0),(x.r.V x.m),(L6 (dX l)),(.slice aT ts.length cT),(L6 ts.length),(L6 x.i)]) (fun x => U) (fun x => ([(bK b0 (eB p a l.length c) 29),(bK b1 [(I6 kind)] 3),(bK b2 [(.slice aT ts.length cT)] 48)] ++ x.r.B 153 x.xs)) (fun x => x.i ≤ ts.length ∧ RwR OpR 3 U x.r x.xs x.m x.L ∧ (x.m = q3.length + x.i ∧ x.L.map Prod.fst = q3 ++ opsOf kind ((dX l : Nat) : Int) (ts.take x.i))) (fun x => ts.length - x.i) ⟨0,r3,xs3,q3.length,L3,U⟩ ?_ ?_))))))
    · exact ⟨Nat.zero_le _,(hr3.opAny (V' := U)),rfl,by show _ = _ ++ opsOf kind _ []; rw [show opsOf kind ((dX l : Nat) : Int) [] = [] from rfl,List.append_nil]; exact hL3⟩
    intro x hx
    obtain ⟨hxi,hxr,hxp⟩ := hx
    refine zQ 1 (zn (zs (cD (decide ((x.i : Int) < (ts.length : Int))) (fun h3 => ?_) (fun h3 => ?_))))
    ·
     have h3d := of_decide_eq_true h3
     refine zk (zs (aB (zs (zr ?_))))
     obtain ⟨y4,hy4⟩ : ∃ y,(ts)[x.i]? = some y := ⟨(ts)[x.i]'oW,List.getElem?_eq_getElem _⟩
     obtain ⟨b4,f4,rfl,hU4⟩ := ht.one hy4
     refine cH (Pt b4 (f4 + x.i)) (fW _ 3 _ _ rfl b4 f4 ts.length cT x.i .i64 kR kR (by first | assumption | omega) kR kR) ?_
     refine zV b4 (f4 + x.i) (I6 y4) hU4 3 (.tmp 42) _ Tryz.underlying3 rfl ?_
     refine zq 1 (zn (zr (cU [0,2,0,0,0] [(b1,1)] (dN 3 (fun b5 => ?_)))))
     refine tT 4 153 119 24 1 1 hxr.ok (fun W hM => cW hM 3 b5 [(I6 kind),(L6 (dX l)),(I6 y4)] 153 kR) rfl (List.all_eq_true.1 kR) (by decide) (fun r6 hr6 => ?_)
     refine zq 1 (zn (zr (zq 1 (fC 51 ((x.i : Int) + 1) (zq 1 (zn ?_))))))
     refine nx ⟨x.i + 1,r6,(x.xs ++ [(I6 kind),(L6 (dX l)),(I6 y4)]),(x.m + 1),x.L ++ [(⟨kind,((dX l : Nat) : Int),y4⟩,[(I6 kind),(L6 (dX l)),(I6 y4)])],U⟩ ?_ ?_ (d := fun _ h => Mem.sub (List.Sublist.append (List.sublist_append_left _ _) (List.Sublist.refl _)) (h.eqv (show _ = ((([(bK b0 (eB p a l.length c) 29),(bK b1 [(I6 kind)] 3),(bK b2 [(Sl b4 f4 ts.length cT)] 48)] : aF) ++ ([(bK b5 [(I6 kind),(L6 (dX l)),(I6 y4)] 153)] : aF)) ++ (r6.B 153 (x.xs ++ [(I6 kind),(L6 (dX l)),(I6 y4)]))) from by kernel_rfl)))
     · exact ⟨by show x.i + 1 ≤ _; omega,RwR.snoc hxr rfl hr6,by show x.m + 1 = q3.length + (x.i + 1); omega,by rw [List.map_append,hxp.2,show opsOf kind ((dX l : Nat) : Int) (ts.take (x.i + 1)) = opsOf kind ((dX l : Nat) : Int) (ts.take x.i) ++ [⟨kind,((dX l : Nat) : Int),y4⟩] from eX _ hy4,List.append_assoc]; rfl⟩
     · show ts.length - (x.i + 1) < ts.length - x.i; omega
    ·
     have h3d := of_decide_eq_false h3
     refine aU (zQ 2 ?_)
     obtain ⟨t0,ht0⟩ := aFo (by simpa using h1)
     have hpos := (List.getElem?_eq_some_iff.1 ht0).1
     have hall : x.L.map Prod.fst = q3 ++ opsOf kind ((dX l : Nat) : Int) ts := by rw [hxp.2,List.take_of_length_le oW]
     obtain ⟨bQ,cQ,jQ,hr9⟩ := Rw.iO hxr.ok oW
     generalize hz9 : q3 ++ opsOf kind ((dX l : Nat) : Int) ts = z9 at hall
     have hx9 : x.xs = z9.flatMap Op.cs := by rw [← hall]; exact hxr.opXs
     have hm9 : x.m = z9.length := by rw [← hall,List.length_map]; exact hxr.m
     refine eE 52 (x.r.V x.m) (Sl bQ 0 z9.length cQ) (by rw [hr9,hm9]; rfl) ?_
     refine lV _ [(bK b0 (eB p a l.length c) 29),(bK b1 [(I6 kind)] 3),(bK b2 [(.slice aT ts.length cT)] 48),(bQ,(.cells (z9.flatMap Op.cs ++ jQ).toArray 153 (0,0)))] (fun _ h => h.eqv (show ([(bK b0 (eB p a l.length c) 29),(bK b1 [(I6 kind)] 3),(bK b2 [(.slice aT ts.length cT)] 48)] ++ x.r.B 153 x.xs) = _ from by rw [hr9,hx9]; kernel_rfl)) ?_
     have ho9 : (Rw.row bQ cQ jQ).ok 3 z9.length (z9.flatMap Op.cs) := by have := hxr.ok; rw [hr9,hx9,hm9] at this; exact this
     refine iE [(bK b0 (eB p a l.length c) 29)] [(bK b2 [(.slice aT ts.length cT)] 48),(bQ,(.cells (z9.flatMap Op.cs ++ jQ).toArray 153 (0,0)))] b1 [(I6 kind)] 3 kR (fun V7 hV7 hR7 => ?_)
     refine iE [(bK b0 (eB p a l.length c) 29)] [(bQ,(.cells (z9.flatMap Op.cs ++ jQ).toArray 153 (0,0)))] b2 [(.slice aT ts.length cT)] 48 kR (fun V10 hV10 hR10 => ?_)
     obtain ⟨bT,fT,eT,hUT⟩ := ht.one ht0
     have hs9 : rP V10 kind t0 b1 b2 := ⟨bT,fT,ts.length,cT,(View.range_le hV10 hR7) 0 _ rfl,by rw [← eT]; exact hR10 0 _ rfl,(View.le_trans hV7 hV10) _ _ hUT,hpos⟩
     refine gF 1 (bQ,(.cells (z9.flatMap Op.cs ++ jQ).toArray 153 (0,0))) 83 #[(Sl bQ 0 z9.length cQ),(.func (.func 84) #[] #[(Pt b1 0),(Pt b2 0)])] (fun v _ σ' => aNN bQ cQ (z9.filter fun o => !jD kind t0 o) v σ') (fun W hM => aDm bQ cQ z9 jQ kind t0 b1 b2 hs9 hM ho9 (by rw [← hz9,List.length_append,show (opsOf kind ((dX l : Nat) : Int) ts).length = ts.length from List.length_map _]; omega)) (fun v13 V13 s13 hV13 hP13 => ?_)
     obtain ⟨j13,rfl,rfl,ho13⟩ := hP13
     generalize hf13 : z9.filter (fun o => !jD kind t0 o) = f13
     rw [hf13] at ho13
     have hl13 : f13.length ≤ z9.length := by rw [← hf13]; exact List.length_filter_le _ _
     have hs13 : z9.length ≤ 1000000 := by rw [← hz9,List.length_append,show (opsOf kind ((dX l : Nat) : Int) ts).length = ts.length from List.length_map _]; omega
     refine zq 1 (zn (zB [2,0] [(b0,20)] (dA 85 #[(bnV p a l.length c),(Sl bQ 0 f13.length cQ)] (I6 (aDZ p l f13)) (fun W hM => aCk p l _ _ f13 _ _ W (U := aBT W) (fun _ _ h => h) ((hl.le (View.le_trans (View.le_trans hV7 hV10) hV13)).le hM.view) (aBj 0 bQ f13 j13 hM rfl (by unfold R47; omega))) ?_)))
     refine zq 1 (zn (aA (aH [6] [(I6 (aDZ p l f13))] (fun W' hM => ?_))))
     refine ⟨?_,hM.below⟩
     rw [aK6 h0 h1 h2 hq3 ht0,hz9,hf13]
     rfl
theorem sH {p : Pr} {l : List Bk} (h : aZ p l = 0) : aO p = 0 ∧ ∀ x ∈ l, aG x = 0 := by
 unfold aZ aAB at h
 split at h
 · next h1 => rw [show ([], eO p l).2 = eO p l from rfl] at h; rw [h] at h1; cases h1
 ·
  next hp =>
  have hp0 : eO p l = 0 := by simpa using hp
  unfold eO at hp0
  split at hp0
  · next h1 => rw [hp0] at h1; cases h1
  · next h1 => exact ⟨by simpa using h1, aHx hp0⟩
theorem iK {l : List Bk} {t : Int} (h : (aJ l t).2 = true) : (aJ l t).1 ∈ l := by
 unfold aJ at h ⊢
 split
 · next x hx => exact List.mem_of_find?_eq_some hx
 · next hx => rw [hx] at h; cases h
def aFm (scope : Int) : Bool := if decide (scope ≥ 0) then decide (scope < 8) else false
theorem aIr (scope : Int) (w : World) : CP 99 #[.int .i64 scope] w (Ret (.bool (aFm scope)) w) := by
 refine dK 9 Tryz.func99 ?_
 refine zQ 1 (zn (zQ 3 (aK 5 (decide (scope ≥ 0)) (fun h0 => ?_) (fun h0 => ?_))))
 ·
  refine zq 4 (zn (aA (aH [2] [(.bool (decide (scope < 8)))] (fun W' hM => ?_))))
  exact ⟨by simp only [cG,aFm,h0,bs,bQ,reduceIte],hM.below⟩
 ·
  refine zq 4 (zn (aA (aH [2] [(.bool false)] (fun W' hM => ?_))))
  exact ⟨by simp only [cG,aFm,h0,bs,bQ,reduceIte],hM.below⟩
theorem jG (x : Bk) : (aD x).length ≤ 27 := by
 unfold aD
 have h1 := (Itm.aW 0 x.t.toNat).2
 have h2 := (Itm.aW 0 x.n.toNat).2
 have h3 := (Itm.aW 0 x.f).2
 rw [List.length_append, List.length_append]
 omega
def aKF (p : Pr) (l : List Bk) (target : Int) : List UInt8 := if target != 0 && !(aJ l target).2 then [] else dB p.bare
def aKE (l : List Bk) (target : Int) : List UInt8 := if target != 0 && !(aJ l target).2 then [] else if target == 0 then [] else aD (aJ l target).1
def aKD (l : List Bk) (target : Int) (sec : Bk) : List UInt8 := if target != 0 && !(aJ l target).2 then [] else if aG sec != 0 then [] else aD sec
def aIx (l : List Bk) (target : Int) (sec : Bk) : Int := if target != 0 && !(aJ l target).2 then 15 else aG sec
def aCF (A H S : List UInt8) (target scope : Int) : List UInt8 := ((Itm.aD 0 scope.toNat ++ (if (if (gC .i64 scope 1 != 0) then (target != 0) else false) then A else [])) ++ (if (gC .i64 scope 2 != 0) then H else [])) ++ (if (gC .i64 scope 4 != 0) then S else [])
theorem aIs (A H S D : List UInt8) (target scope : Int) (w : World) (h0 : 0 ≤ scope) (h8 : scope < 8) (hA : A.length ≤ 4000000) (hH : H.length ≤ 4000000) (hS : S.length ≤ 4000000) : CP 101 #[.agg #[.string (B A), .string (B H), .string (B S), .string (B D)], .int .i64 target, .int .i64 scope] w (Ret (.string (B (aCF A H S target scope))) w) := by
 have w1 : IntKind.u64.wrap scope = (scope.toNat : Int) := by have := u64_in (x := scope) oW oW; omega
 have n1 : scope.toNat < W64 := by unfold W64; omega
 have g1 := (Itm.aW 0 scope.toNat).2
 refine dK 37 Tryz.func101 ?_
 refine zs (zr (cJ (fun b0 => (zq 1 (zn (zQ 2 (eE 9 (U6 (IntKind.u64.wrap scope)) (N6 scope.toNat) (congrArg (Value.int .u64) w1) ?_)))))))
 refine dL (fun W hM => fQ 0 scope.toNat W oW (by first | assumption | (unfold W64; omega) | decide)) (zq 1 (zn (zs (zQ 4 (aK 14 ((gC .i64 scope 1) != 0) (fun h0 => ?_) (fun h0 => ?_))))))
 ·
  have h0d := bne_iff_ne.1 h0
  refine zq 3 (zn (cD (target != 0) (fun h1 => ?_) (fun h1 => ?_)))
  ·
   have h1d := bne_iff_ne.1 h1
   refine zr (cU [0,0,1] [(b0,1)] (cH (St ((Itm.aD 0 scope.toNat) ++ A)) (cE _ _ _ _ rfl (Itm.aD 0 scope.toNat) A kR kR oA) ?_))
   refine zq 1 (zn (zs (zQ 3 (zn (cD ((gC .i64 scope 2) != 0) (fun h2 => ?_) (fun h2 => ?_))))))
   ·
    have h2d := bne_iff_ne.1 h2
    refine zr (cU [0,0,1] [(b0,1)] (cH (St (((Itm.aD 0 scope.toNat) ++ A) ++ H)) (cE _ _ _ _ rfl ((Itm.aD 0 scope.toNat) ++ A) H kR kR oA) ?_))
    refine zq 1 (zn (zs (zQ 3 (zn (cD ((gC .i64 scope 4) != 0) (fun h3 => ?_) (fun h3 => ?_))))))
    ·
     have h3d := bne_iff_ne.1 h3
     refine zr (cU [0,0,1] [(b0,1)] (cH (St ((((Itm.aD 0 scope.toNat) ++ A) ++ H) ++ S)) (cE _ _ _ _ rfl (((Itm.aD 0 scope.toNat) ++ A) ++ H) S kR kR oA) ?_))
     refine zq 1 (zn (zQ 2 (zn (aA (aH [6] [(St ((((Itm.aD 0 scope.toNat) ++ A) ++ H) ++ S))] (fun W' hM => ?_))))))
     exact ⟨by simp only [cG,aCF,h0,h1,h2,h3,bs,bQ,reduceIte,List.append_nil],hM.below⟩
    ·
     refine zk (zQ 2 (zn (aA (aH [6] [(St (((Itm.aD 0 scope.toNat) ++ A) ++ H))] (fun W' hM => ?_)))))
     exact ⟨by simp only [cG,aCF,h0,h1,h2,h3,bs,bQ,reduceIte,List.append_nil],hM.below⟩
   ·
    have h2d := bne_eq_false_iff_eq.1 h2
    refine zk (zs (zQ 3 (zn (cD ((gC .i64 scope 4) != 0) (fun h4 => ?_) (fun h4 => ?_)))))
    ·
     have h4d := bne_iff_ne.1 h4
     refine zr (cU [0,0,1] [(b0,1)] (cH (St (((Itm.aD 0 scope.toNat) ++ A) ++ S)) (cE _ _ _ _ rfl ((Itm.aD 0 scope.toNat) ++ A) S kR kR oA) ?_))
     refine zq 1 (zn (zQ 2 (zn (aA (aH [6] [(St (((Itm.aD 0 scope.toNat) ++ A) ++ S))] (fun W' hM => ?_))))))
     exact ⟨by simp only [cG,aCF,h0,h1,h2,h4,bs,bQ,reduceIte,List.append_nil],hM.below⟩
    ·
     refine zk (zQ 2 (zn (aA (aH [6] [(St ((Itm.aD 0 scope.toNat) ++ A))] (fun W' hM => ?_)))))
     exact ⟨by simp only [cG,aCF,h0,h1,h2,h4,bs,bQ,reduceIte,List.append_nil],hM.below⟩
  ·
   have h1d := bne_eq_false_iff_eq.1 h1
   refine zk (zs (zQ 3 (zn (cD ((gC .i64 scope 2) != 0) (fun h5 => ?_) (fun h5 => ?_)))))
   ·
    have h5d := bne_iff_ne.1 h5
    refine zr (cU [0,0,1] [(b0,1)] (cH (St ((Itm.aD 0 scope.toNat) ++ H)) (cE _ _ _ _ rfl (Itm.aD 0 scope.toNat) H kR kR oA) ?_))
    refine zq 1 (zn (zs (zQ 3 (zn (cD ((gC .i64 scope 4) != 0) (fun h6 => ?_) (fun h6 => ?_))))))
    ·
     have h6d := bne_iff_ne.1 h6
     refine zr (cU [0,0,1] [(b0,1)] (cH (St (((Itm.aD 0 scope.toNat) ++ H) ++ S)) (cE _ _ _ _ rfl ((Itm.aD 0 scope.toNat) ++ H) S kR kR oA) ?_))
     refine zq 1 (zn (zQ 2 (zn (aA (aH [6] [(St (((Itm.aD 0 scope.toNat) ++ H) ++ S))] (fun W' hM => ?_))))))
     exact ⟨by simp only [cG,aCF,h0,h1,h5,h6,bs,bQ,reduceIte,List.append_nil],hM.below⟩
    ·
     refine zk (zQ 2 (zn (aA (aH [6] [(St ((Itm.aD 0 scope.toNat) ++ H))] (fun W' hM => ?_)))))
     exact ⟨by simp only [cG,aCF,h0,h1,h5,h6,bs,bQ,reduceIte,List.append_nil],hM.below⟩
   ·
    have h5d := bne_eq_false_iff_eq.1 h5
    refine zk (zs (zQ 3 (zn (cD ((gC .i64 scope 4) != 0) (fun h7 => ?_) (fun h7 => ?_)))))
    ·
     have h7d := bne_iff_ne.1 h7
     refine zr (cU [0,0,1] [(b0,1)] (cH (St ((Itm.aD 0 scope.toNat) ++ S)) (cE _ _ _ _ rfl (Itm.aD 0 scope.toNat) S kR kR oA) ?_))
     refine zq 1 (zn (zQ 2 (zn (aA (aH [6] [(St ((Itm.aD 0 scope.toNat) ++ S))] (fun W' hM => ?_))))))
     exact ⟨by simp only [cG,aCF,h0,h1,h5,h7,bs,bQ,reduceIte,List.append_nil],hM.below⟩
    ·
     refine zk (zQ 2 (zn (aA (aH [6] [(St (Itm.aD 0 scope.toNat))] (fun W' hM => ?_)))))
     exact ⟨by simp only [cG,aCF,h0,h1,h5,h7,bs,bQ,reduceIte,List.append_nil],hM.below⟩
 ·
  have h0d := bne_eq_false_iff_eq.1 h0
  refine zq 3 (zn (dE (zk (zs (zQ 3 (zn (cD ((gC .i64 scope 2) != 0) (fun h8 => ?_) (fun h8 => ?_))))))))
  ·
   have h8d := bne_iff_ne.1 h8
   refine zr (cU [0,0,1] [(b0,1)] (cH (St ((Itm.aD 0 scope.toNat) ++ H)) (cE _ _ _ _ rfl (Itm.aD 0 scope.toNat) H kR kR oA) ?_))
   refine zq 1 (zn (zs (zQ 3 (zn (cD ((gC .i64 scope 4) != 0) (fun h9 => ?_) (fun h9 => ?_))))))
   ·
    have h9d := bne_iff_ne.1 h9
    refine zr (cU [0,0,1] [(b0,1)] (cH (St (((Itm.aD 0 scope.toNat) ++ H) ++ S)) (cE _ _ _ _ rfl ((Itm.aD 0 scope.toNat) ++ H) S kR kR oA) ?_))
    refine zq 1 (zn (zQ 2 (zn (aA (aH [6] [(St (((Itm.aD 0 scope.toNat) ++ H) ++ S))] (fun W' hM => ?_))))))
    exact ⟨by simp only [cG,aCF,h0,h8,h9,bs,bQ,reduceIte,List.append_nil],hM.below⟩
   ·
    refine zk (zQ 2 (zn (aA (aH [6] [(St ((Itm.aD 0 scope.toNat) ++ H))] (fun W' hM => ?_)))))
    exact ⟨by simp only [cG,aCF,h0,h8,h9,bs,bQ,reduceIte,List.append_nil],hM.below⟩
  ·
   have h8d := bne_eq_false_iff_eq.1 h8
   refine zk (zs (zQ 3 (zn (cD ((gC .i64 scope 4) != 0) (fun h10 => ?_) (fun h10 => ?_)))))
   ·
    have h10d := bne_iff_ne.1 h10
    refine zr (cU [0,0,1] [(b0,1)] (cH (St ((Itm.aD 0 scope.toNat) ++ S)) (cE _ _ _ _ rfl (Itm.aD 0 scope.toNat) S kR kR oA) ?_))
    refine zq 1 (zn (zQ 2 (zn (aA (aH [6] [(St ((Itm.aD 0 scope.toNat) ++ S))] (fun W' hM => ?_))))))
    exact ⟨by simp only [cG,aCF,h0,h10,h8,bs,bQ,reduceIte,List.append_nil],hM.below⟩
   ·
    refine zk (zQ 2 (zn (aA (aH [6] [(St (Itm.aD 0 scope.toNat))] (fun W' hM => ?_)))))
    exact ⟨by simp only [cG,aCF,h0,h10,h8,bs,bQ,reduceIte,List.append_nil],hM.below⟩
theorem aAa {s : Int} (h : (!(aFm s)) = false) : 0 ≤ s ∧ s < 8 := by
 unfold aFm at h
 by_cases h1 : s ≥ 0
 ·
  rw [if_pos (by simpa using h1)] at h
  exact ⟨h1, by simpa using h⟩
 ·
  rw [if_neg (by simpa using h1)] at h
  cases h
theorem aIY {s : Int} (h : aFm s = true) : 0 ≤ s ∧ s < 8 := aAa (by rw [h]; rfl)
def eV (l : List Bk) (target : Int) (sec : Bk) (scope : Int) : Int := if !(aFm scope) then 1 else if target == 0 then 8 else aIx l target sec
def gB (p : Pr) (l : List Bk) (target : Int) (sec : Bk) (scope : Int) : List UInt8 := if eV l target sec scope != 0 then [] else aCF (aKF p l target) (aKE l target) (aKD l target sec) target scope
def rdA (p : Pr) (l : List Bk) (target : Int) : List UInt8 := if target != 0 && !(aJ l target).2 then [] else if aO p != 0 then [] else dB p.bare
def rdH (p : Pr) (l : List Bk) (target : Int) : List UInt8 := if target != 0 && !(aJ l target).2 then [] else if aO p != 0 then [] else if target == 0 then [] else if aG (aJ l target).1 != 0 then [] else aD (aJ l target).1
def rdS (p : Pr) (l : List Bk) (target : Int) (sec : Bk) : List UInt8 := if target != 0 && !(aJ l target).2 then [] else if aO p != 0 then [] else if target != 0 && aG (aJ l target).1 != 0 then [] else if aG sec != 0 then [] else aD sec
def rdD (p : Pr) (l : List Bk) (target : Int) : List UInt8 := if target != 0 && !(aJ l target).2 then [] else if aO p != 0 then [] else if target == 0 then dB p.bare else if aG (aJ l target).1 != 0 then dB p.bare else Itm.aD 2 (aJ l target).1.d.length ++ (aJ l target).1.d
def rdZ (p : Pr) (l : List Bk) (target : Int) (sec : Bk) : Int := if target != 0 && !(aJ l target).2 then 15 else if aO p != 0 then aO p else if target != 0 && aG (aJ l target).1 != 0 then aG (aJ l target).1 else aG sec
theorem aEU (p : Pr) (l : List Bk) (a : Option Addr) (c : Nat) (target : Int) (sec : Bk) (w : World) {U : View} (hU : See U w) (hp : p.ok) (hl : cX U a l) (hs : sec.ok) : CP 100 #[bnV p a l.length c, .int .i64 target, sec.V] w (Ret (.tuple #[.agg #[.string (B (rdA p l target)), .string (B (rdH p l target)), .string (B (rdS p l target sec)), .string (B (rdD p l target))], .int .i64 (rdZ p l target sec)]) w) := by
 refine eG 61 Tryz.func100 hU ?_
 refine zs (zr (cJ (fun b0 => (cJ (fun b1 => (cJ (fun b2 => (zq 1 (zn (zB [1,0] [(b0,20)] (dA 64 #[(bnV p a l.length c),(I6 target)] (.tuple #[(.agg #[(I6 (aJ l target).1.t),(I6 (aJ l target).1.n),(N6 (aJ l target).1.f),(I6 (aJ l target).1.c),(St (aJ l target).1.d)]),(.bool (aJ l target).2)]) (fun W hM => lB p l _ _ target W hM.view hl) ?_)))))))))))
 refine zq 3 (cJ (fun b3 => (aY 3 b3 (zq 1 (zn (zs (zQ 3 (aK 18 (target != 0) (fun h0 => ?_) (fun h0 => ?_)))))))))
 ·
  have h0d := bne_iff_ne.1 h0
  refine zq 3 (zn (cD (!(aJ l target).2) (fun h1 => ?_) (fun h1 => ?_)))
  ·
   refine zB [3] [(b2,4)] (aY 2 b2 (zq 1 (zn (aA (dU [3,0] [(b2,4)] [(.agg #[(St []),(St []),(St []),(St [])]),(I6 15)] (fun W' hM => ?_))))))
   have hne : (target == 0) = false := by simpa using h0
   exact ⟨by simp only [cG,rdA,rdH,rdS,rdD,rdZ,hne,h0,h1,bs,bQ,reduceIte]; try rfl,hM.below⟩
  ·
   refine zk (zs (zB [0,1] [(b0,19)] ?_))
   rcases Bool.eq_false_or_eq_true ((aO p) != 0) with h2 | h2
   ·
    have h2d := bne_iff_ne.1 h2
    refine dL (fun W hM => aDR p W hp h2) (zq 4 (aY 2 b2 (zq 1 (zn (zQ 2 (zn (gP ((aO p) != 0) h2 ?_)))))))
    refine zB [3,0] [(b2,4)] (aY 2 b2 (zq 1 (zn (aA (dU [3,0] [(b2,4)] [(.agg #[(St []),(St []),(St []),(St [])]),(I6 (aO p))] (fun W' hM => ?_))))))
    have hne : (target == 0) = false := by simpa using h0
    exact ⟨by simp only [cG,rdA,rdH,rdS,rdD,rdZ,hne,h0,h1,h2,bs,bQ,reduceIte]; try rfl,hM.below⟩
   ·
    have h2d := bne_eq_false_iff_eq.1 h2
    refine dL (fun W hM => aCe p W hp (by simpa using h2)) (zq 4 (aY 2 b2 (zq 1 (zn (zQ 2 (zn (dE (zk (zB [0,3,0] [(b2,1)] (aY 2 b2 (zn (zs (zQ 2 (zn (gP (target != 0) h0 ?_)))))))))))))))
    refine zs (zB [4] [(b3,5)] ?_)
    rcases Bool.eq_false_or_eq_true ((aG (aJ l target).1) != 0) with h3 | h3
    ·
     have h3d := bne_iff_ne.1 h3
     refine dL (fun W hM => aAh (aJ l target).1 W h3) (zq 4 (aY 2 b2 (zq 1 (zn (zQ 2 (zn (gP ((aG (aJ l target).1) != 0) h3 ?_)))))))
     refine zB [3,0] [(b2,4)] (aY 2 b2 (zq 1 (zn (aA (dU [3,0] [(b2,4)] [(.agg #[(St (dB p.bare)),(St []),(St []),(St (dB p.bare))]),(I6 (aG (aJ l target).1))] (fun W' hM => ?_))))))
     have hne : (target == 0) = false := by simpa using h0
     exact ⟨by simp only [cG,rdA,rdH,rdS,rdD,rdZ,hne,h0,h1,h2,h3,bs,bQ,reduceIte]; try rfl,hM.below⟩
    ·
     have h3d := bne_eq_false_iff_eq.1 h3
     refine dA 142 #[(.agg #[(I6 (aJ l target).1.t),(I6 (aJ l target).1.n),(N6 (aJ l target).1.f),(I6 (aJ l target).1.c),(St (aJ l target).1.d)])] (.tuple #[(St (aD (aJ l target).1)),(I6 0)]) (fun W hM => rN (aJ l target).1 W (hl.ok _ (iK (by have := h1; simpa using this))) (by simpa using h3)) ?_
     refine zq 4 (aY 2 b2 (zq 1 (zn (zQ 2 (zn (dE (zk (zr (cU [0,4] [(b3,1)] (dA 143 #[(St (aJ l target).1.d)] (St (Itm.aD 2 (aJ l target).1.d.length ++ (aJ l target).1.d)) (fun W hM => aCA (aJ l target).1.d W (hl.ok _ (iK (by have := h1; simpa using this))).d) ?_))))))))))
     refine zq 1 (aY 2 b2 (zn (zB [2] [(b1,5)] ?_)))
     rcases Bool.eq_false_or_eq_true ((aG sec) != 0) with h4 | h4
     ·
      have h4d := bne_iff_ne.1 h4
      refine dL (fun W hM => aAh sec W h4) (zq 4 (aY 2 b2 (zq 1 (zn (zB [3,0] [(b2,4)] (aY 2 b2 (zq 1 (zn (aA (dU [3,0] [(b2,4)] [(.agg #[(St (dB p.bare)),(St (aD (aJ l target).1)),(St []),(St (Itm.aD 2 (aJ l target).1.d.length ++ (aJ l target).1.d))]),(I6 (aG sec))] (fun W' hM => ?_)))))))))))
      have hne : (target == 0) = false := by simpa using h0
      exact ⟨by simp only [cG,rdA,rdH,rdS,rdD,rdZ,hne,h0,h1,h2,h3,h4,bs,bQ,reduceIte]; try rfl,hM.below⟩
     ·
      have h4d := bne_eq_false_iff_eq.1 h4
      refine dL (fun W hM => rN sec W hs (by simpa using h4)) (zq 4 (aY 2 b2 (zq 1 (zn (zB [3,0] [(b2,4)] (aY 2 b2 (zq 1 (zn (aA (dU [3,0] [(b2,4)] [(.agg #[(St (dB p.bare)),(St (aD (aJ l target).1)),(St (aD sec)),(St (Itm.aD 2 (aJ l target).1.d.length ++ (aJ l target).1.d))]),(I6 0)] (fun W' hM => ?_)))))))))))
      have hne : (target == 0) = false := by simpa using h0
      have hz0 : aG sec = 0 := by simpa using h4
      exact ⟨by simp only [cG,rdA,rdH,rdS,rdD,rdZ,hne,h0,h1,h2,h3,h4,hz0,bs,bQ,reduceIte]; try rfl,hM.below⟩
 ·
  have h0d := bne_eq_false_iff_eq.1 h0
  refine zq 3 (zn (dE (zk (zs (zB [0,1] [(b0,19)] ?_)))))
  rcases Bool.eq_false_or_eq_true ((aO p) != 0) with h5 | h5
  ·
   have h5d := bne_iff_ne.1 h5
   refine dL (fun W hM => aDR p W hp h5) (zq 4 (aY 2 b2 (zq 1 (zn (zQ 2 (zn (gP ((aO p) != 0) h5 ?_)))))))
   refine zB [3,0] [(b2,4)] (aY 2 b2 (zq 1 (zn (aA (dU [3,0] [(b2,4)] [(.agg #[(St []),(St []),(St []),(St [])]),(I6 (aO p))] (fun W' hM => ?_))))))
   have heq : (target == 0) = true := by simpa using h0
   exact ⟨by simp only [cG,rdA,rdH,rdS,rdD,rdZ,heq,h0,h5,bs,bQ,reduceIte]; try rfl,hM.below⟩
  ·
   have h5d := bne_eq_false_iff_eq.1 h5
   refine dL (fun W hM => aCe p W hp (by simpa using h5)) (zq 4 (aY 2 b2 (zq 1 (zn (zQ 2 (zn (dE (zk (zB [0,3,0] [(b2,1)] (aY 2 b2 (zn (zs (zQ 2 (zn (eS (target != 0) h0 ?_)))))))))))))))
   refine zk (zB [2] [(b1,5)] ?_)
   rcases Bool.eq_false_or_eq_true ((aG sec) != 0) with h6 | h6
   ·
    have h6d := bne_iff_ne.1 h6
    refine dL (fun W hM => aAh sec W h6) (zq 4 (aY 2 b2 (zq 1 (zn (zB [3,0] [(b2,4)] (aY 2 b2 (zq 1 (zn (aA (dU [3,0] [(b2,4)] [(.agg #[(St (dB p.bare)),(St []),(St []),(St (dB p.bare))]),(I6 (aG sec))] (fun W' hM => ?_)))))))))))
    have heq : (target == 0) = true := by simpa using h0
    exact ⟨by simp only [cG,rdA,rdH,rdS,rdD,rdZ,heq,h0,h5,h6,bs,bQ,reduceIte]; try rfl,hM.below⟩
   ·
    have h6d := bne_eq_false_iff_eq.1 h6
    refine dL (fun W hM => rN sec W hs (by simpa using h6)) (zq 4 (aY 2 b2 (zq 1 (zn (zB [3,0] [(b2,4)] (aY 2 b2 (zq 1 (zn (aA (dU [3,0] [(b2,4)] [(.agg #[(St (dB p.bare)),(St []),(St (aD sec)),(St (dB p.bare))]),(I6 0)] (fun W' hM => ?_)))))))))))
    have heq : (target == 0) = true := by simpa using h0
    have hz0 : aG sec = 0 := by simpa using h6
    exact ⟨by simp only [cG,rdA,rdH,rdS,rdD,rdZ,heq,h0,h5,h6,hz0,bs,bQ,reduceIte]; try rfl,hM.below⟩
theorem aIC {p : Pr} {l : List Bk} {target : Int} : (rdA p l target).length ≤ 4000 := by
 unfold rdA
 split
 · exact Nat.zero_le _
 ·
  split
  · exact Nat.zero_le _
  · next h => exact rD (aAg (by simpa using h))
theorem aIB {p : Pr} {l : List Bk} {target : Int} : (rdH p l target).length ≤ 27 := by
 unfold rdH
 (repeat' split) <;> first | exact Nat.zero_le _ | exact jG _
theorem aIA {p : Pr} {l : List Bk} {target : Int} {sec : Bk} : (rdS p l target sec).length ≤ 27 := by
 unfold rdS
 (repeat' split) <;> first | exact Nat.zero_le _ | exact jG _
def bsZ (p : Pr) (l : List Bk) (target : Int) (sec : Bk) (scope : Int) : Int := if !(aFm scope) then 1 else if target == 0 then 8 else rdZ p l target sec
def bsB (p : Pr) (l : List Bk) (target : Int) (sec : Bk) (scope : Int) : List UInt8 := if bsZ p l target sec scope != 0 then [] else aCF (rdA p l target) (rdH p l target) (rdS p l target sec) target scope
theorem sE (p : Pr) (l : List Bk) (a : Option Addr) (c : Nat) (target : Int) (sec : Bk) (scope : Int) (w : World) {U : View} (hU : See U w) (hp : p.ok) (hl : cX U a l) (hs : sec.ok) : CP 63 #[bnV p a l.length c, .int .i64 target, sec.V, .int .i64 scope] w (Ret (.tuple #[.string (B (bsB p l target sec scope)), .int .i64 (bsZ p l target sec scope)]) w) := by
 have hA := aIC (p := p) (l := l) (target := target)
 have hH := aIB (p := p) (l := l) (target := target)
 have hS := aIA (p := p) (l := l) (target := target) (sec := sec)
 refine eG 33 Tryz.func63 hU ?_
 refine zs (zr (cJ (fun b0 => (cJ (fun b1 => (zq 2 (zn (zs (aB (zQ 1 (dL (fun W hM => aIr scope W) (zq 2 (zn (cD (!(aFm scope)) (fun h0 => ?_) (fun h0 => ?_)))))))))))))))
 ·
  refine zQ 2 (zn (aA (aH [8,9] [(St []),(I6 1)] (fun W' hM => ?_))))
  exact ⟨by simp only [cG,bsB,bsZ,h0,bs,bQ,reduceIte,bne_self_eq_false]; try rfl,hM.below⟩
 ·
  refine zQ 3 (zn (cD (target == 0) (fun h1 => ?_) (fun h1 => ?_)))
  ·
   refine zQ 2 (zn (aA (aH [8,9] [(St []),(I6 8)] (fun W' hM => ?_))))
   exact ⟨by simp only [cG,bsB,bsZ,h0,h1,bs,bQ,reduceIte,bne_self_eq_false]; try rfl,hM.below⟩
  ·
   have h1d := beq_eq_false_iff_ne.1 h1
   refine zk (zB [1,0,2] [(b0,20),(b1,5)] (dA 100 #[(bnV p a l.length c),(I6 target),(sec.V)] (.tuple #[(.agg #[(St (rdA p l target)),(St (rdH p l target)),(St (rdS p l target sec)),(St (rdD p l target))]),(I6 (rdZ p l target sec))]) (fun W hM => aEU p l _ _ target sec W hM.view hp hl hs) ?_))
   refine zq 3 (cJ (fun b2 => (aY 2 b2 (zq 1 (zn (zs (zQ 2 (zn (cD ((rdZ p l target sec) != 0) (fun h2 => ?_) (fun h2 => ?_))))))))))
   ·
    refine zQ 3 (zn (aA (aH [8,9] [(St []),(I6 (rdZ p l target sec))] (fun W' hM => ?_))))
    exact ⟨by simp only [cG,bsB,bsZ,h0,h1,h2,bs,bQ,reduceIte,bne_self_eq_false]; try rfl,hM.below⟩
   ·
    have h2d := bne_eq_false_iff_eq.1 h2
    refine zk (zB [3,0,0] [(b2,4)] ?_)
    have hmay : aFm scope = true := by have := h0; revert this; cases aFm scope <;> simp
    refine dA 101 #[(.agg #[(St (rdA p l target)),(St (rdH p l target)),(St (rdS p l target sec)),(St (rdD p l target))]),(I6 target),(I6 scope)] (St (aCF (rdA p l target) (rdH p l target) (rdS p l target sec) target scope)) (fun W hM => aIs _ _ _ _ target scope W (aIY (by simpa using hmay)).1 (aIY (by simpa using hmay)).2 oW oW oW) ?_
    refine zq 2 (zn (aA (aH [8,9] [(St (aCF (rdA p l target) (rdH p l target) (rdS p l target sec) target scope)),(I6 0)] (fun W' hM => ?_))))
    have hz0 : rdZ p l target sec = 0 := by simpa using h2
    exact ⟨by simp only [cG,bsB,bsZ,h0,h1,h2,hz0,bs,bQ,reduceIte,bne_self_eq_false]; try rfl,hM.below⟩
theorem aGr {p : Pr} {l : List Bk} {target scope : Int} {sec : Bk} (hr : aZ p l = 0) : bsZ p l target sec scope = eV l target sec scope ∧ bsB p l target sec scope = gB p l target sec scope := by
 obtain ⟨hp, hx⟩ := sH hr
 have hA : rdA p l target = aKF p l target := by unfold rdA aKF; rw [hp]; rfl
 have hX : (aJ l target).2 = true → (aG (aJ l target).1 != 0) = false := fun h => by rw [hx _ (iK h)]; rfl
 have hz : bsZ p l target sec scope = eV l target sec scope := by
  unfold bsZ eV rdZ aIx
  rw [hp]
  cases h1 : target == 0 with
  | true => rfl
  | false =>
   have h2 : (target != 0) = true := by simpa using h1
   rw [h2]
   cases h3 : (aJ l target).2 with
   | false => rfl
   | true => rw [hX h3]; rfl
 refine ⟨hz, ?_⟩
 unfold bsB gB
 rw [hz, hA]
 split
 · rfl
 ·
  next h0 =>
  have h4 : eV l target sec scope = 0 := by simpa using h0
  have h5 : (target == 0) = false ∧ (aJ l target).2 = true := by
   unfold eV at h4
   split at h4
   · cases h4
   ·
    split at h4
    · cases h4
    ·
     next h6 =>
     have h7 : (target == 0) = false := by simpa using h6
     have h8 : (target != 0) = true := by simpa using h7
     refine ⟨h7, ?_⟩
     unfold aIx at h4
     rw [h8] at h4
     cases h3 : (aJ l target).2 with
     | true => rfl
     | false => rw [h3] at h4; cases h4
  have h8 : (target != 0) = true := by simpa using h5.1
  have hH : rdH p l target = aKE l target := by unfold rdH aKE; rw [hp, h8, h5.1, h5.2, hX h5.2]; rfl
  have hS : rdS p l target sec = aKD l target sec := by unfold rdS aKD; rw [hp, h8, h5.2, hX h5.2]; rfl
  rw [hH, hS]
theorem aDB (p : Pr) (l : List Bk) (a : Option Addr) (c : Nat) (target : Int) (sec : Bk) (scope : Int) (w : World) {U : View} (hU : See U w) (hp : p.ok) (hl : cX U a l) (hs : sec.ok) (hr : aZ p l = 0) : CP 63 #[bnV p a l.length c, .int .i64 target, sec.V, .int .i64 scope] w (Ret (.tuple #[.string (B (gB p l target sec scope)), .int .i64 (eV l target sec scope)]) w) := by
 have h := sE p l a c target sec scope w hU hp hl hs
 rwa [(aGr hr).1, (aGr hr).2] at h
theorem aMG (x : Bk) (num : Int) (pb : Nat) (w : World) {U : View} (hU : See U w) (hp : U ⟨pb, 0, none⟩ = some (.int .i64 num)) : CP 114 #[x.V, .pointer (some ⟨pb, 0, none⟩)] w (Ret (.bool (x.n == num)) w) := by
 refine eG 8 Tryz.func114 hU ?_
 refine zs (zr (cJ (fun b0 => (zq 1 (zn (zB [0,1] [(b0,1)] (zV pb (0) (I6 num) hp 3 (.tmp 1) _ Tryz.underlying3 rfl ?_)))))))
 refine zq 2 (zn (aA (jJ 3)))
theorem aJF (l : List Bk) (a : Option Addr) (c : Nat) (num : Int) (pb : Nat) (w : World) {U : View} (hU : See U w) (hl : cX U a l) (hp : U ⟨pb, 0, none⟩ = some (.int .i64 num)) :
    CP 67 #[.slice a l.length c, .func (.func 114) #[] #[.pointer (some ⟨pb, 0, none⟩)]] w (Ret (.int .i64 (gH l num)) w) := by
 have hlen := hl.len
 unfold R47 at hlen
 refine eG 19 Tryz.func67 hU ?_
 refine zQ 1 (zn (zs (zQ 3 (zn (aB (gX (α := Nat) (fun x => [0,1,4,7,8].zip [(.slice a l.length c),(.func (.func 114) #[] #[(Pt pb 0)]),(I6 0),(L6 l.length),(L6 x)]) (fun x => U) (fun x => []) (fun x => x ≤ l.length ∧ aDa num x (l.drop x) = gH l num) (fun x => l.length - x) 0 ?_ ?_))))))
 · exact ⟨Nat.zero_le _,rfl⟩
 intro x hx
 obtain ⟨hx1,hx2⟩ := hx
 refine zQ 1 (zn (zs (cD (decide ((x : Int) < (l.length : Int))) (fun h0 => ?_) (fun h0 => ?_))))
 ·
  have h0d := of_decide_eq_true h0
  refine zk (zs (aB (zQ 2 (zn (zQ 3 ?_)))))
  obtain ⟨y0,hy0⟩ : ∃ y,(l)[x]? = some y := ⟨(l)[x]'oW,List.getElem?_eq_getElem _⟩
  obtain ⟨b0,f0,rfl,hU0⟩ := hl.at_ x y0 hy0
  refine cH (Pt b0 (f0 + x * 5)) (rIx 38 rfl b0 f0 l.length c x 5) ?_
  refine zU b0 (f0 + x * 5) y0.cs hU0 38 (.tmp 14) _ Tryz.underlying38 rfl ?_
  refine dL (fun W hM => aMG y0 num pb W hM.view hp) (zn (cD (y0.n == num) (fun h1 => ?_) (fun h1 => ?_)))
  ·
   have h1d := eq_of_beq h1
   refine zQ 2 (zn (aA (aH [4] [(L6 x)] (fun W' hM => ?_))))
   refine ⟨?_,hM.below⟩
   rw [← hx2,jE hy0,if_pos h1]
   rfl
  ·
   have h1d := beq_eq_false_iff_ne.1 h1
   refine zk (zr (zq 1 (fC 18 ((x : Int) + 1) (zq 1 (zn ?_)))))
   refine nx (x + 1) ?_ ?_
   · exact ⟨by omega,by rw [← hx2,jE hy0,h1]; rfl⟩
   · show l.length - (x + 1) < l.length - x; omega
 ·
  have h0d := of_decide_eq_false h0
  refine aU (zQ 1 (zn (aA (aH [4] [(I6 (-1))] (fun W' hM => ?_)))))
  refine ⟨?_,hM.below⟩
  rw [← hx2,cY oW]
  rfl
def Bk.withD (y : Bk) (d : List UInt8) : Bk := ⟨y.t, y.n, y.f, y.c, d⟩
theorem aEb : ∀ (l : List Bk) (i : Nat) (y : Bk) (d : List UInt8) (j : List Value), l[i]? = some y → cO (l.flatMap Bk.cs ++ j) (0 + i * 5 + 4) [.string (B d)] = (l.set i (y.withD d)).flatMap Bk.cs ++ j
 | [], i, y, d, j, h => by simp at h
 | x :: r, 0, y, d, j, h => by
  simp only [List.getElem?_cons_zero, Option.some.injEq] at h
  subst h
  rfl
 | x :: r, i + 1, y, d, j, h => by
  have ih := aEb r i y d j (by simpa using h)
  have hq : x.cs.length = 5 := rfl
  rw [List.set_cons_succ, List.flatMap_cons, List.flatMap_cons, List.append_assoc, List.append_assoc, ← ih]
  unfold cO
  rw [List.length_singleton, show 0 + (i + 1) * 5 + 4 = x.cs.length + (0 + i * 5 + 4) by omega, List.take_append, List.take_of_length_le oW, show x.cs.length + (0 + i * 5 + 4) - x.cs.length = 0 + i * 5 + 4 by omega, show x.cs.length + (0 + i * 5 + 4) + 1 = x.cs.length + (0 + i * 5 + 4 + 1) by omega, List.drop_append, List.drop_of_length_le oW, List.nil_append, show x.cs.length + (0 + i * 5 + 4 + 1) - x.cs.length = 0 + i * 5 + 4 + 1 by omega]
  simp only [List.append_assoc]
theorem aEp (b f c : Nat) (l : List Bk) (num : Int) (d : List UInt8) (i : Nat) (y : Bk) (w : World) {U : View} (hU : See U w) (hr : U.range b f (l.flatMap Bk.cs)) (hok : ∀ x ∈ l, x.ok) (hsm : l.length ≤ 1000000) (hidx : gH l num = (i : Int)) (hy : l[i]? = some y) :
    CP 66 #[.slice (some ⟨b, f, none⟩) l.length c, .int .i64 num, .string (B d)] w (aNJ w 38 5 l.length ((l.set i (y.withD d)).flatMap Bk.cs)) := by
 have hi := (List.getElem?_eq_some_iff.1 hy).1
 have hpos : 0 < l.length := by omega
 have hbl := mJ l
 refine eG 20 Tryz.func66 hU ?_
 refine zs (zr (cJ (fun b0 => (zq 1 (zn (zQ 1 ?_))))))
 refine sB 92 #[(Sl b f l.length c)] 38 5 l.length (l.flatMap Bk.cs) kR (fun W hM => aFv hM.view b f l.length c _ hr (mJ l) (mI l) hpos oW) kR kR (fun b1 c1 j1 hJ1 => ?_)
 refine zq 1 (zn (zQ 2 (dA 67 #[(Sl b1 0 l.length c1),(.func (.func 114) #[] #[(Pt b0 0)])] (I6 (i : Int)) (fun W hM => hidx ▸ aJF l (some ⟨b1,0,none⟩) c1 num b0 W (U := aBT W) (fun _ _ h => h) (cX.of (fD (show (aBT W).range b1 0 (l.flatMap Bk.cs ++ j1) from cW hM 1 b1 (l.flatMap Bk.cs ++ j1) 38 kR)).1 hok (by unfold R47; omega)) (cW hM 0 b0 [.int .i64 num] 3 kR 0 _ rfl)) ?_)))
 refine zq 1 (zn (zQ 3 (cH (Pt b1 (0 + i * 5)) (rIx 38 rfl b1 0 l.length c1 i 5) ?_)))
 refine zq 1 ?_
 refine aH3 1 b1 (0 + i * 5 + 4) 1 (l.flatMap Bk.cs ++ j1) 38 9 (St d) (.tmp 18) (.tmp 16) rfl kR kR kR kR (by rw [List.length_append,hbl]; omega) rfl kR ?_
 refine zn (zQ 2 (zn (aA (aH [6] [(Sl b1 0 l.length c1)] (fun W' hM => ?_)))))
 have hM9 := hM.eqv (show _ = ([(bK b0 [(I6 num)] 3)] ++ [(b1,.cells ((l.set i (y.withD d)).flatMap Bk.cs ++ j1).toArray 38 (0,0))]) from by rw [← aEb l i y d j1 hy]; kernel_rfl)
 have hJ := hJ1
 have hsl : (l.set i (y.withD d)).length = l.length := List.length_set
 have hb2 := mJ (l.set i (y.withD d))
 rw [hsl] at hb2
 exact aEY (σ1 := [(bK b0 [(I6 num)] 3)]) (r := .row b1 c1 j1) (m := l.length) (e := 38) hM9 ⟨hb2,by rw [List.length_append,hb2]; have := hJ.2.1; rw [List.length_append,hbl] at this; exact this,hJ.2.2.1,hJ.2.2.2⟩ hpos
theorem aFy (p : Pr) (l l' : List Bk) (a a' : Option Addr) (c c' : Nat) (w : World) {U : View} (hU : See U w) (hp : p.ok) (hl : cX U a' l') (h : aZ p l' = 0) : CP 69 #[bnV p a l.length c, .slice a' l'.length c'] w (Ret (.tuple #[bnV p a' l'.length c', .int .i64 0]) w) := by
 have h' : (aZ p l' != 0) = false := by simp [h]
 refine eG 16 Tryz.func69 hU ?_
 refine zs (zr (cJ (fun b0 => (cJ (fun b1 => (zq 1 (zn (zQ 2 (aY 0 b0 (zn (zs (zB [1] [(b0,20)] (dA 115 #[(bnV p a' l'.length c')] (I6 (aZ p l')) (fun W hM => rK p l' _ _ W hM.view hp hl) ?_)))))))))))))
 refine zq 1 (zn (zQ 2 (zn (eS ((aZ p l') != 0) h' ?_))))
 refine zk (zB [1] [(b0,20)] (aY 1 b1 (zq 1 (zn (aA (dU [2,0] [(b1,20)] [(bnV p a' l'.length c'),(I6 0)] (fun W' hM => ?_)))))))
 exact ⟨rfl,hM.below⟩
theorem aFz (p : Pr) (l l' : List Bk) (a a' : Option Addr) (c c' : Nat) (w : World) {U : View} (hU : See U w) (hp : p.ok) (hl : cX U a' l') (h : (aZ p l' != 0) = true) : CP 69 #[bnV p a l.length c, .slice a' l'.length c'] w (Ret (.tuple #[bnV Pr.zero none 0 0, .int .i64 (aZ p l')]) w) := by
 refine eG 16 Tryz.func69 hU ?_
 refine zs (zr (cJ (fun b0 => (cJ (fun b1 => (zq 1 (zn (zQ 2 (aY 0 b0 (zn (zs (zB [1] [(b0,20)] (dA 115 #[(bnV p a' l'.length c')] (I6 (aZ p l')) (fun W hM => rK p l' _ _ W hM.view hp hl) ?_)))))))))))))
 refine zq 1 (zn (zQ 2 (zn (gP ((aZ p l') != 0) h ?_))))
 refine zQ 2 (aY 1 b1 (zq 1 (zn (aA (dU [2,0] [(b1,20)] [(.agg Z20.toArray),(I6 (aZ p l'))] (fun W' hM => ?_))))))
 exact ⟨rfl,hM.below⟩
theorem aAt (p : Pr) (l l' : List Bk) (a a' : Option Addr) (c c' : Nat) (w : World) {U : View} (hU : See U w) (hp : p.ok) (hl : cX U a' l') : CP 69 #[bnV p a l.length c, .slice a' l'.length c'] w (rO w U (iX (iD p l') (tO p l') (aZ p l'))) := by
 unfold iD tO
 cases h : aZ p l' != 0 with
 | true => exact Calls.retN hU (aFz p l l' a a' c c' w hU hp hl h) ⟨none, 0, rfl, cX.nil⟩
 | false =>
  have h0 : aZ p l' = 0 := by simpa using h
  rw [h0]
  exact Calls.retN hU (aFy p l l' a a' c c' w hU hp hl h0) ⟨a', c', rfl, hl⟩
theorem aHZ {e : Ei} (h : e.l.length ≤ 60) : Itm.szT e.tree ≤ 80 := by
 unfold Ei.tree
 split
 · simp [Itm.dH, Itm.cN, Itm.szT, Itm.szL]
 ·
  split
  · simp [Itm.dH, Itm.cN, Itm.szT, Itm.szL]
  · simp [Itm.dH, Itm.cN, aHL, Itm.szT, Itm.szL]; omega
def pC (e : Ei) (vr fl target : Int) (nonce tag : List UInt8) : As := ⟨[target], 2, e, [⟨1, dY nonce⟩, ⟨2, Itm.cN vr.toNat⟩, ⟨3, Itm.cN fl.toNat⟩], [[⟨1, dY tag⟩]]⟩
theorem aGu {e : Ei} {vr fl target : Int} {nonce tag : List UInt8} (he : e.l.length ≤ 60) (hn : nonce.length ≤ 100) (ht : tag.length ≤ 100) : (pC e vr fl target nonce tag).outB.length ≤ 100000 := by
 unfold As.outB
 split
 ·
  have h := Itm.lG (pC e vr fl target nonce tag).items
  have h2 := aHZ he
  have : Itm.szL (pC e vr fl target nonce tag).items ≤ 1000 := by
   unfold As.items pC
   rw [if_neg (by simp)]
   simp only [lR, aLF, Pa.tree, Itm.dH, Itm.cN, dY, Itm.szT, Itm.szL, List.map_cons, List.map_nil, List.length_nil]
   omega
  unfold As.bytes
  omega
 · simp
def rR (l : List Bk) : Bk := ⟨12, (dX l : Int), 0, 0, []⟩
noncomputable def aBO (p : Pr) (l : List Bk) (e : Ei) (vr fl : Int) (key nonce : List UInt8) (target : Int) : Bool := !(aDw p l 2 [target] != 0) && aX e && !(eV l target (rR l) fl != 0) && gV vr key nonce
def gT (l : List Bk) (e : Ei) (vr fl : Int) (nonce : List UInt8) (target : Int) : Bk := ⟨12, (dX l : Int), 0, 0, (pC e vr fl target nonce (Eng.aI 1 (dC vr))).outB⟩
def iZ (l : List Bk) (e : Ei) (vr fl : Int) (nonce : List UInt8) (target : Int) : List Bk := gN (l.set (gH l target).toNat ((aJ l target).1.withD (Eng.aI 1 (aJ l target).1.d.length))) (gT l e vr fl nonce target)
noncomputable def dT (p : Pr) (l : List Bk) (e : Ei) (vr fl : Int) (key nonce : List UInt8) (target : Int) : Pr × List Bk × Int :=
 if aDw p l 2 [target] != 0 then (Pr.zero, [], aDw p l 2 [target])
 else if !(aX e) then (Pr.zero, [], 1)
 else if eV l target (rR l) fl != 0 then (Pr.zero, [], eV l target (rR l) fl)
 else if !(gV vr key nonce) then (Pr.zero, [], 1)
 else (iD p (iZ l e vr fl nonce target), tO p (iZ l e vr fl nonce target), aZ p (iZ l e vr fl nonce target))
def aMQ (q : Pr × List Bk × Int) (v : Value) (V : View) : Prop := iX q.1 q.2.1 q.2.2 v V
def oX (b : Bool) (ib : Nat) (ent : List Value) (V : View) (σ' : aF) : Prop := if b then aN0 ib ent V σ' else σ' = aEB ib
theorem fF {l : List Bk} {target fl : Int} {sec : Bk} (h : eV l target sec fl = 0) : 0 ≤ fl ∧ fl < 8 ∧ target ≠ 0 ∧ (aJ l target).2 = true := by
 unfold eV at h
 split at h
 · cases h
 ·
  next h1 =>
  split at h
  · cases h
  ·
   next h2 =>
   have h1' := aAa (by simpa using h1)
   have h2' : target ≠ 0 := by simpa using h2
   refine ⟨h1'.1, h1'.2, h2', ?_⟩
   unfold aIx at h
   split at h
   · cases h
   · next h3 => simpa [h2'] using h3
theorem mG {l : List Bk} {t : Int} (h : (aJ l t).2 = true) : ∃ (i : Nat) (y : Bk), gH l t = (i : Int) ∧ l[i]? = some y ∧ aJ l t = (y, true) := by
 have h0 : ¬ gH l t < 0 := fun h0 => by rw [aAL h0] at h; cases h
 obtain ⟨h1, h2⟩ := aDc h0
 exact ⟨(gH l t).toNat, l[(gH l t).toNat], h2, List.getElem?_eq_getElem h1, sV h0 (List.getElem?_eq_getElem h1)⟩
theorem pN {v : Int} {key nonce : List UInt8} (h : gV v key nonce = true) : 0 ≤ v ∧ v ≤ 3 ∧ nonce.length ≤ 16 := by
 unfold gV at h
 have hk : Eng.keyBytes v > 0 := by
  cases hd : decide (Eng.keyBytes v > 0) with
  | true => exact of_decide_eq_true hd
  | false => rw [hd] at h; simp at h
 have hn : (nonce.length : Int) ≤ 16 := by
  cases hd : decide ((nonce.length : Int) ≤ 16) with
  | true => exact of_decide_eq_true hd
  | false => rw [hd] at h; simp at h
 unfold Eng.keyBytes at hk
 refine ⟨?_, ?_, by omega⟩ <;>
 ·
  split at hk
  · omega
  ·
   split at hk
   · omega
   · omega
theorem mU {p : Pr} {l : List Bk} {kind : Int} {ts : List Int} (h : (aDw p l kind ts != 0) = false) : aZ p l = 0 := by
 have h0 : aDw p l kind ts = 0 := by simpa using h
 unfold aDw at h0
 split at h0
 · next h1 => rw [h0] at h1; cases h1
 · next h1 => exact (mM (by simpa using h1)).1
def rQ (a : As) (v : Value) (V : View) : Prop := ∃ a1 a2 a3 c2 c3, v = asV a a1 a2 a3 1 c2 c3 ∧ aEH V a1 a2 a3 a
theorem rQ.mono {a : As} {v : Value} {V V' : View} (hl : View.le V V') (h : rQ a v V) : rQ a v V' := by
 obtain ⟨a1, a2, a3, c2, c3, e, hb⟩ := h
 exact ⟨a1, a2, a3, c2, c3, e, hb.le hl⟩
theorem aEr (eA : Addr) (p : Pr) (l : List Bk) (a : Option Addr) (c : Nat) (e : Ei) (vr fl : Int) (key nonce : List UInt8) (target : Int) (eb ib : Nat) {W0 : Cx} {U : View} {σF : aF} {W : World} (hE : EF U eA) (hp : p.ok) (hl : cX U a l) (he : e.ok) (hg : aBV U eb ib) (hM : Mem W0 U ([(ib, .cells #[.slice none 0 0] 76 (0, 0))] ++ σF) W) :
    CP 29 #[.pointer (some ⟨eb, 0, none⟩), bnV p a l.length c, e.V, .int .i64 vr, .int .i64 fl, .string (B key), .string (B nonce), .int .i64 target] W (fN W0 U σF fun v V σ' => aMQ (dT p l e vr fl key nonce target) v V ∧ oX (aBO p l e vr fl key nonce target) ib (aMW vr key nonce (gB p l target (rR l) fl) (aJ l target).1.d (Eng.aI 1 (aJ l target).1.d.length) (Eng.aI 1 (dC vr))) V σ') := by
 have hM2 : Mem W0 U ([(bK ib [S0] 76)] ++ σF) W := hM.eqv kR
 refine eC 122 Tryz.func29 hM2 ?_
 refine zs (zr (dN 1 (fun b0 => ?_)))
 refine dN 2 (fun b1 => ?_)
 refine dN 3 (fun b2 => ?_)
 refine zq 1 (zn (zs (zB [2,0] [(b0,20)] ?_)))
 refine gO [(I6 target)] 3 (fun r => (Sl r 0 1 1)) kR kR kR (fun g3 V3 hV3 hR3 => ?_)
 have k4 := hl.le hV3
 have hT3 : oD V3 (some ⟨g3,0,none⟩) [target] := aJj hR3 (show 1 ≤ R47 by decide)
 refine dA 36 #[(bnV p a l.length c),(I6 2),(Sl g3 0 1 1)] (I6 (aDw p l 2 [target])) (fun W hM => aK9 eA p l _ _ 2 [target] _ _ W hM.view (hE.le hV3) hp k4 hT3 (Nat.le_refl _) (show (1 : Nat) ≤ 100000 by decide)) ?_
 refine zq 1 (zn (zQ 2 (zn (cD ((aDw p l 2 [target]) != 0) (fun h0 => ?_) (fun h0 => ?_)))))
 ·
  refine zQ 2 (aY 3 b2 (zq 1 (zn (aA (dU [4,0] [(b2,20)] [(.agg Z20.toArray),(I6 (aDw p l 2 [target]))] (fun W' hM => ?_))))))
  refine dP 0 4 (ib,.cells #[S0] 76 (0,0)) hM hV3 ⟨?_,?_⟩
  ·
   unfold dT
   rw [if_pos h0]
   exact ⟨none,0,rfl,cX.nil⟩
  ·
   unfold oX aBO
   rw [if_neg (by simp [h0])]
   rfl
 ·
  have h0d := bne_eq_false_iff_eq.1 h0
  refine zk (zs (zB [3] [(b1,4)] (dL (fun W hM => iW e W he.l) (zq 1 (zn (cD (!(aX e)) (fun h1 => ?_) (fun h1 => ?_)))))))
  ·
   refine zQ 1 (aY 3 b2 (zq 1 (zn (aA (dU [4,0] [(b2,20)] [(.agg Z20.toArray),(I6 1)] (fun W' hM => ?_))))))
   refine dP 0 4 (ib,.cells #[S0] 76 (0,0)) hM hV3 ⟨?_,?_⟩
   ·
    unfold dT
    rw [if_neg (by rw [h0]; exact Bool.false_ne_true),if_pos h1]
    exact ⟨none,0,rfl,cX.nil⟩
   ·
    unfold oX aBO
    rw [if_neg (by simp [h0,(show aX e = false from by simpa using h1)])]
    rfl
  ·
   refine zk (zB [2] [(b0,20)] (dA 38 #[(bnV p a l.length c)] (L6 (dX l)) (fun W hM => aEw p l _ _ W hM.view k4) ?_))
   refine zq 1 (dN 4 (fun b5 => ?_))
   refine aY 4 b5 (zn (zB [2,0,5,0] [(b0,20),(b5,5)] (dA 63 #[(bnV p a l.length c),(I6 target),(.agg #[(I6 12),(L6 (dX l)),(U6 0),(I6 0),(St [])]),(I6 fl)] (.tuple #[(St (gB p l target (rR l) fl)),(I6 (eV l target (rR l) fl))]) (fun W hM => aDB p l _ _ target (rR l) fl W hM.view hp k4 ⟨(show (0 : Nat) < W64 by decide),(show (0 : Nat) ≤ R47 by decide)⟩ (mU h0)) ?_)))
   refine zq 5 (zn (zs (zQ 2 (zn (cD ((eV l target (rR l) fl) != 0) (fun h2 => ?_) (fun h2 => ?_))))))
   ·
    have h2d := bne_iff_ne.1 h2
    refine zQ 2 (aY 3 b2 (zq 1 (zn (aA (dU [4,0] [(b2,20)] [(.agg Z20.toArray),(I6 (eV l target (rR l) fl))] (fun W' hM => ?_))))))
    refine dP 0 5 (ib,.cells #[S0] 76 (0,0)) hM hV3 ⟨?_,?_⟩
    ·
     unfold dT
     rw [if_neg (by rw [h0]; exact Bool.false_ne_true),if_neg (by rw [h1]; exact Bool.false_ne_true),if_pos h2]
     exact ⟨none,0,rfl,cX.nil⟩
    ·
     unfold oX aBO
     rw [if_neg (by simp [h0,(show aX e = true from by simpa using h1),h2])]
     rfl
   ·
    have h2d := bne_eq_false_iff_eq.1 h2
    refine zk (zB [2,0] [(b0,20)] (dA 64 #[(bnV p a l.length c),(I6 target)] (.tuple #[(.agg #[(I6 (aJ l target).1.t),(I6 (aJ l target).1.n),(N6 (aJ l target).1.f),(I6 (aJ l target).1.c),(St (aJ l target).1.d)]),(.bool (aJ l target).2)]) (fun W hM => lB p l _ _ target W hM.view k4) ?_))
    refine zq 3 (dN 5 (fun b6 => ?_))
    refine aY 5 b6 (zq 1 (zn (zB [0,0,0,0,0,0,6] [(b6,1)] ?_)))
    rcases Bool.eq_false_or_eq_true (gV vr key nonce) with h3 | h3
    ·
     refine gF 0 (bK ib [S0] 76) 77 #[(Pt eb 0),(I6 vr),(St key),(St nonce),(St (gB p l target (rR l) fl)),(St (aJ l target).1.d)] (aBI ib vr key nonce (gB p l target (rR l) fl) (aJ l target).1.d) (fun W hM => aD9 vr key nonce (gB p l target (rR l) fl) (aJ l target).1.d eb ib (hg.le hV3) (by have := (eI (mU h0)).2 _ (iK (fF (by simpa using h2)).2.2.2); omega) hM) (fun v7 V7 s7 hV7 hP7 => ?_)
     have k8 := k4.le hV7
     unfold aBI at hP7
     rw [if_pos h3] at hP7
     obtain ⟨rfl,a7,c7,rfl,t7⟩ := hP7
     obtain ⟨hv0,hv3,hn16⟩ := pN h3
     obtain ⟨hf0,hf8,ht0,hg2⟩ := fF (by simpa using h2 : eV l target (rR l) fl = 0)
     have w1 : IntKind.u64.wrap vr = (vr.toNat : Int) := by have := u64_in (x := vr) oW oW; omega
     have w2 : IntKind.u64.wrap fl = (fl.toNat : Int) := by have := u64_in (x := fl) oW oW; omega
     have n1 : vr.toNat < W64 := by unfold W64; omega
     have n2 : fl.toNat < W64 := by unfold W64; omega
     have hs64 := aAG vr
     have hfl := Eng.iL 1 (dC vr)
     have hr47 : (Eng.aI 1 (dC vr)).length ≤ R47 := by unfold R47; omega
     have hn47 : nonce.length ≤ R47 := by unfold R47; omega
     have hr9 := (mU h0)
     refine zq 7 (zn (zs (zQ 2 (zn (dE (zk (zQ 1 (dL (fun W hM => jY nonce W) (zq 3 (eE 82 (U6 (IntKind.u64.wrap vr)) (N6 vr.toNat) (congrArg (Value.int .u64) w1) ?_))))))))))
     refine dA 40 #[(N6 vr.toNat)] (iV vr.toNat) (fun W hM => dM _ W) ?_
     refine zq 3 (eE 86 (U6 (IntKind.u64.wrap fl)) (N6 fl.toNat) (congrArg (Value.int .u64) w2) ?_)
     refine dA 40 #[(N6 fl.toNat)] (iV fl.toNat) (fun W hM => dM _ W) ?_
     refine zq 1 ?_
     refine gO [(I6 1),(I6 2),(U6 0),(St nonce),S0,(.bool false),(I6 2),(I6 0),(N6 vr.toNat),(St []),S0,(.bool false),(I6 3),(I6 0),(N6 fl.toNat),(St []),S0,(.bool false)] 92 (fun r => (Sl r 0 3 3)) kR kR kR (fun g9 V9 hV9 hR9 => ?_)
     have k10 := t7.le hV9
     have k11 := k8.le hV9
     have k12 := (TV.str _ nonce (by first | assumption | decide | (unfold R47; omega))).le hV9
     have k13 := (TV.num _ vr.toNat (by first | assumption | decide | (unfold W64; omega))).le hV9
     have k14 := (TV.num _ fl.toNat (by first | assumption | decide | (unfold W64; omega))).le hV9
     have hT9 : iM PaR 6 V9 (some ⟨g9,0,none⟩) [(Pa.mk 1 (dY nonce)),(Pa.mk 2 (Itm.cN vr.toNat)),(Pa.mk 3 (Itm.cN fl.toNat))] := iM.lit [((Pa.mk 1 (dY nonce)),[(I6 1),(I6 2),(U6 0),(St nonce),S0,(.bool false)]),((Pa.mk 2 (Itm.cN vr.toNat)),[(I6 2),(I6 0),(N6 vr.toNat),(St []),S0,(.bool false)]),((Pa.mk 3 (Itm.cN fl.toNat)),[(I6 3),(I6 0),(N6 fl.toNat),(St []),S0,(.bool false)])] hR9 ⟨⟨_,rfl,k12⟩,⟨_,rfl,k13⟩,⟨_,rfl,k14⟩,trivial⟩ (show 3 ≤ R47 by decide)
     refine zq 1 (zn (zs ?_))
     refine aDz 11 1 0 [90,91,92,93,94,95,96,97,98,99,27] [.val (I6 target),.mem (fun v V => ∃ g,v = (Sl g 0 1 1) ∧ oD V (some ⟨g,0,none⟩) [target]),.val (.agg #[(I6 e.s),(St e.l),(N6 e.n),(N6 e.v)]),.val (Sl g9 0 3 3),.val (St (Eng.aI 1 (dC vr))),.val (.agg #[(I6 2),(U6 0),(St (Eng.aI 1 (dC vr))),S0,(.bool false)]),.val (.agg #[(I6 1),(I6 2),(U6 0),(St (Eng.aI 1 (dC vr))),S0,(.bool false)]),.mem (fun v V => ∃ g,v = (Sl g 0 1 1) ∧ iM PaR 6 V (some ⟨g,0,none⟩) [(Pa.mk 1 (dY (Eng.aI 1 (dC vr))))]),.mem (fun v V => ∃ g,v = (Sl g 0 1 1) ∧ iM RlR 1 V (some ⟨g,0,none⟩) [[(Pa.mk 1 (dY (Eng.aI 1 (dC vr))))]]),.mem (rQ (pC e vr fl target nonce (Eng.aI 1 (dC vr)))),.mem (fun _ _ => True)] 10 [] ([(bK ib [(.slice a7 1 c7)] 76),(bK b0 (eB p a l.length c) 29),(bK b1 [(I6 e.s),(St e.l),(N6 e.n),(N6 e.v)] 24),(b2,.cells Z20.toArray 29 (0,0)),(b5,.cells [(I6 12),(L6 (dX l)),(U6 0),(I6 0),(St [])].toArray 38 (0,0)),(bK b6 [(I6 (aJ l target).1.t),(I6 (aJ l target).1.n),(N6 (aJ l target).1.f),(I6 (aJ l target).1.c),(St (aJ l target).1.d)] 38)] ++ σF) (aAv (fun r => (Pt r 0)) (.cells [S0,(I6 0),(I6 0),(St []),(U6 0),(U6 0),S0,S0].toArray 96 (0,0))) aMq kR rfl rfl kR kR kR kR kR kR (by simp only [List.forall_mem_cons]; exact ⟨trivial,by intro v V V2 hV2 hP; (first | trivial | exact lC.mono hV2 hP | exact iX.mono hV2 hP | exact aAQ.mono hV2 hP | exact rQ.mono hV2 hP | (obtain ⟨g,e,hP⟩ := hP; exact ⟨g,e,hP.le hV2⟩) | (obtain ⟨g,e,hP⟩ := hP; exact ⟨g,e,View.range_le hV2 hP⟩)),trivial,trivial,trivial,trivial,trivial,by intro v V V2 hV2 hP; (first | trivial | exact lC.mono hV2 hP | exact iX.mono hV2 hP | exact aAQ.mono hV2 hP | exact rQ.mono hV2 hP | (obtain ⟨g,e,hP⟩ := hP; exact ⟨g,e,hP.le hV2⟩) | (obtain ⟨g,e,hP⟩ := hP; exact ⟨g,e,View.range_le hV2 hP⟩)),by intro v V V2 hV2 hP; (first | trivial | exact lC.mono hV2 hP | exact iX.mono hV2 hP | exact aAQ.mono hV2 hP | exact rQ.mono hV2 hP | (obtain ⟨g,e,hP⟩ := hP; exact ⟨g,e,hP.le hV2⟩) | (obtain ⟨g,e,hP⟩ := hP; exact ⟨g,e,View.range_le hV2 hP⟩)),by intro v V V2 hV2 hP; (first | trivial | exact lC.mono hV2 hP | exact iX.mono hV2 hP | exact aAQ.mono hV2 hP | exact rQ.mono hV2 hP | (obtain ⟨g,e,hP⟩ := hP; exact ⟨g,e,hP.le hV2⟩) | (obtain ⟨g,e,hP⟩ := hP; exact ⟨g,e,View.range_le hV2 hP⟩)),by intro v V V2 hV2 hP; (first | trivial | exact lC.mono hV2 hP | exact iX.mono hV2 hP | exact aAQ.mono hV2 hP | exact rQ.mono hV2 hP | (obtain ⟨g,e,hP⟩ := hP; exact ⟨g,e,hP.le hV2⟩) | (obtain ⟨g,e,hP⟩ := hP; exact ⟨g,e,View.range_le hV2 hP⟩)),fun _ h => by cases h⟩) (show (10 : Nat) < 11 by decide) _ rfl (by intro v V s2 h; trivial) (by intro v V V2 s2 hV h; exact h) ⟨?_,?_,?_,?_,?_,?_,?_,?_,?_,?_,?_,trivial⟩ [7,9,16,17,19,24,27,99] (fun u => [(I6 target),(Pt b0 0),(Pt b2 0),(I6 0),(Pt b5 0),(St (Eng.aI 1 (aJ l target).1.d.length)),u 10,u 9]) kF ?_
     · exact ObN.o 0 (show (0 : Nat) ≠ 10 by decide) (fun σ' => oqQ 0 rfl (I6 target) (I6 target) rfl rfl kF kF)
     ·
      refine ObN.o 1 (show (1 : Nat) ≠ 10 by decide) (fun σ' => oqN 1 rfl rfl (fun v V => ∃ g,v = (Sl g 0 1 1) ∧ oD V (some ⟨g,0,none⟩) [target]) rfl [90] (fun u => [(I6 target)]) kF (fun u V hV hdq => ?_))
      refine ⟨[(I6 target)],3,fun r => (Sl r 0 1 1),?_,fun g V' hV' hR => ?_⟩
      · kernel_rfl
      exact ⟨g,rfl,aJj hR (show 1 ≤ R47 by decide)⟩
     · exact ObN.o 2 (show (2 : Nat) ≠ 10 by decide) (fun σ' => oqL 2 2 b1 4 [(I6 e.s),(St e.l),(N6 e.n),(N6 e.v)] 24 rfl (.agg #[(I6 e.s),(St e.l),(N6 e.n),(N6 e.v)]) rfl kR kF kF)
     · exact ObN.o 3 (show (3 : Nat) ≠ 10 by decide) (fun σ' => oqQ 3 rfl (Sl g9 0 3 3) (Sl g9 0 3 3) rfl rfl kF kF)
     · exact ObN.o 4 (show (4 : Nat) ≠ 10 by decide) (fun σ' => oqQ 4 rfl (St (Eng.aI 1 (dC vr))) (St (Eng.aI 1 (dC vr))) rfl rfl kF kF)
     ·
      refine ObN.o 5 (show (5 : Nat) ≠ 10 by decide) (fun σ' => oqV 5 42 rfl rfl (.agg #[(I6 2),(U6 0),(St (Eng.aI 1 (dC vr))),S0,(.bool false)]) rfl [94] (fun u => [(St (Eng.aI 1 (dC vr)))]) kF (fun u V hV hdq => ?_))
      refine ⟨#[(St (Eng.aI 1 (dC vr)))],by kernel_rfl,fun W hW => ?_⟩
      exact jY (Eng.aI 1 (dC vr)) W
     · exact ObN.o 6 (show (6 : Nat) ≠ 10 by decide) (fun σ' => oqQ 6 rfl (.agg #[(I6 1),(I6 2),(U6 0),(St (Eng.aI 1 (dC vr))),S0,(.bool false)]) (.agg #[(I6 1),(I6 2),(U6 0),(St (Eng.aI 1 (dC vr))),S0,(.bool false)]) rfl rfl kF kF)
     ·
      refine ObN.o 7 (show (7 : Nat) ≠ 10 by decide) (fun σ' => oqN 7 rfl rfl (fun v V => ∃ g,v = (Sl g 0 1 1) ∧ iM PaR 6 V (some ⟨g,0,none⟩) [(Pa.mk 1 (dY (Eng.aI 1 (dC vr))))]) rfl [96] (fun u => [(.agg #[(I6 1),(I6 2),(U6 0),(St (Eng.aI 1 (dC vr))),S0,(.bool false)])]) kF (fun u V hV hdq => ?_))
      refine ⟨[(I6 1),(I6 2),(U6 0),(St (Eng.aI 1 (dC vr))),S0,(.bool false)],92,fun r => (Sl r 0 1 1),?_,fun g V' hV' hR => ?_⟩
      · kernel_rfl
      exact ⟨g,rfl,iM.lit [((Pa.mk 1 (dY (Eng.aI 1 (dC vr)))),[(I6 1),(I6 2),(U6 0),(St (Eng.aI 1 (dC vr))),S0,(.bool false)])] hR ⟨⟨_,rfl,((TV.str _ (Eng.aI 1 (dC vr)) (by first | assumption | decide | (unfold R47; omega))).le hV).le hV'⟩,trivial⟩ (show 1 ≤ R47 by decide)⟩
     ·
      refine ObN.o 8 (show (8 : Nat) ≠ 10 by decide) (fun σ' => oqN 8 rfl rfl (fun v V => ∃ g,v = (Sl g 0 1 1) ∧ iM RlR 1 V (some ⟨g,0,none⟩) [[(Pa.mk 1 (dY (Eng.aI 1 (dC vr))))]]) rfl [97] (fun u => [u 7]) kF (fun u V hV hdq => ?_))
      have e7 : (fun v V => ∃ g,v = (Sl g 0 1 1) ∧ iM PaR 6 V (some ⟨g,0,none⟩) [(Pa.mk 1 (dY (Eng.aI 1 (dC vr))))]) (u 7) V := hdq 7 kR
      obtain ⟨g7,q7,t7⟩ := e7
      refine ⟨[(Sl g7 0 1 1)],93,fun r => (Sl r 0 1 1),?_,fun g V' hV' hR => ?_⟩
      · rw [q7]; kernel_rfl
      exact ⟨g,rfl,iM.lit [([(Pa.mk 1 (dY (Eng.aI 1 (dC vr))))],[(Sl g7 0 1 1)])] hR ⟨⟨_,_,rfl,t7.le hV'⟩,trivial⟩ (show 1 ≤ R47 by decide)⟩
     ·
      refine ObN.o 9 (show (9 : Nat) ≠ 10 by decide) (fun σ' => oqP 9 rfl rfl (rQ (pC e vr fl target nonce (Eng.aI 1 (dC vr)))) rfl [91,92,93,98] (fun u => [u 1,(.agg #[(I6 e.s),(St e.l),(N6 e.n),(N6 e.v)]),(Sl g9 0 3 3),u 8]) kF (fun u V hV hdq => ?_))
      have e1 : (fun v V => ∃ g,v = (Sl g 0 1 1) ∧ oD V (some ⟨g,0,none⟩) [target]) (u 1) V := hdq 1 kR
      have e8 : (fun v V => ∃ g,v = (Sl g 0 1 1) ∧ iM RlR 1 V (some ⟨g,0,none⟩) [[(Pa.mk 1 (dY (Eng.aI 1 (dC vr))))]]) (u 8) V := hdq 8 kR
      obtain ⟨g1,q1,t1⟩ := e1
      obtain ⟨g8,q8,t8⟩ := e8
      rw [q1,q8]
      exact ⟨(.agg #[(Sl g1 0 1 1),(I6 2),(I6 e.s),(St e.l),(N6 e.n),(N6 e.v),(Sl g9 0 3 3),(Sl g8 0 1 1)]),by kernel_rfl,⟨_,_,_,_,_,rfl,⟨t1,(hT9.le hV),t8,he⟩⟩⟩
     ·
      refine ObN.alloc 10 (.cells [S0,(I6 0),(I6 0),(St []),(U6 0),(U6 0),S0,S0].toArray 96 (0,0)) (fun r => (Pt r 0)) [] (fun u => []) ?_ ?_
      · exact kF
      · exact ⟨_,rfl,rfl,kF⟩
     intro u15 V15 s15 hV15 hdq15 hP15
     have k16 := k10.le hV15
     have k17 := k11.le hV15
     generalize u15 10 = z15 at hP15 ⊢
     obtain ⟨b15,rfl,rfl⟩ := hP15
     have e9_15 : (rQ (pC e vr fl target nonce (Eng.aI 1 (dC vr)))) (u15 9) V15 := hdq15 9 (by decide)
     obtain ⟨a19_15,a29_15,a39_15,c29_15,c39_15,q9_15,hA9_15⟩ := e9_15
     have tA9_15 := hA9_15.t
     have pA9_15 := hA9_15.p
     have rA9_15 := hA9_15.r
     rw [q9_15]
     refine aY 0 b15 (zn (zB [1] [(b15,8)] (dA 43 #[(.agg #[(.slice a19_15 1 1),(I6 2),(I6 e.s),(St e.l),(N6 e.n),(N6 e.v),(.slice a29_15 3 c29_15),(.slice a39_15 1 c39_15)])] (.tuple #[(St (pC e vr fl target nonce (Eng.aI 1 (dC vr))).outB),(I6 (pC e vr fl target nonce (Eng.aI 1 (dC vr))).outZ)]) (fun W hM => aHJ (pC e vr fl target nonce (Eng.aI 1 (dC vr))) _ _ _ _ _ _ W hM.view hA9_15 (Nat.le_refl _)) ?_)))
     refine zq 4 (aY 5 b5 (zn (zQ 1 ?_)))
     obtain ⟨i9,y9,hi9,hy9,hg9⟩ := mG hg2
     have hne : l ≠ [] := by rintro rfl; simp at hy9
     obtain ⟨bL,fL,rfl,hrL⟩ := k17.iO hne
     have hsm9 := (eI hr9).1
     have hok9 := k17.ok
     refine cU [3,0,0] [(b0,1)] ?_
     refine sB 66 #[(Sl bL fL l.length c),(I6 target),(St (Eng.aI 1 (aJ l target).1.d.length))] 38 5 l.length (((l.set i9 (y9.withD (Eng.aI 1 (aJ l target).1.d.length))).flatMap Bk.cs)) kR (fun W hM => aEp bL fL c l target (Eng.aI 1 (aJ l target).1.d.length) i9 y9 W hM.view hrL hok9 oW hi9 hy9) kR kR (fun b22 c22 j22 hJ22 => ?_)
     refine lV _ (([(bK b15 [(.slice a19_15 1 1),(I6 2),(I6 e.s),(St e.l),(N6 e.n),(N6 e.v),(.slice a29_15 3 c29_15),(.slice a39_15 1 c39_15)] 96),(bK ib [(.slice a7 1 c7)] 76),(bK b0 (eB p (some ⟨bL,fL,none⟩) l.length c) 29),(bK b1 [(I6 e.s),(St e.l),(N6 e.n),(N6 e.v)] 24),(b2,.cells Z20.toArray 29 (0,0)),(bK b5 [(I6 12),(L6 (dX l)),(U6 0),(I6 0),(St (pC e vr fl target nonce (Eng.aI 1 (dC vr))).outB)] 38),(bK b6 [(I6 (aJ l target).1.t),(I6 (aJ l target).1.n),(N6 (aJ l target).1.f),(I6 (aJ l target).1.c),(St (aJ l target).1.d)] 38)] ++ [(b22,.cells (((l.set i9 (y9.withD (Eng.aI 1 (aJ l target).1.d.length))).flatMap Bk.cs) ++ j22).toArray 38 (0,0))]) ++ σF) (fun _ h => aN2 (aKP [(bK b15 [(.slice a19_15 1 1),(I6 2),(I6 e.s),(St e.l),(N6 e.n),(N6 e.v),(.slice a29_15 3 c29_15),(.slice a39_15 1 c39_15)] 96),(bK ib [(.slice a7 1 c7)] 76),(bK b0 (eB p (some ⟨bL,fL,none⟩) l.length c) 29),(bK b1 [(I6 e.s),(St e.l),(N6 e.n),(N6 e.v)] 24),(b2,.cells Z20.toArray 29 (0,0)),(bK b5 [(I6 12),(L6 (dX l)),(U6 0),(I6 0),(St (pC e vr fl target nonce (Eng.aI 1 (dC vr))).outB)] 38),(bK b6 [(I6 (aJ l target).1.t),(I6 (aJ l target).1.n),(N6 (aJ l target).1.f),(I6 (aJ l target).1.c),(St (aJ l target).1.d)] 38)] σF _) h) ?_
     generalize hl2 : l.set i9 (y9.withD (Eng.aI 1 (aJ l target).1.d.length)) = l2 at hJ22 ⊢
     have hl2n : l2.length = l.length := by rw [← hl2]; exact List.length_set
     rw [← hl2n] at hJ22
     have hpos9 : 0 < l.length := List.length_pos_iff.2 hne
     have h11 : l2.length - 1 + 1 = l2.length := by omega
     have hlen9 := aGu (e := e) (vr := vr) (fl := fl) (target := target) (nonce := nonce) (tag := Eng.aI 1 (dC vr)) (aGm (by simpa using h1)) oW oW
     have hmd9 : (Eng.aI 1 (aJ l target).1.d.length).length ≤ R47 := by rw [Eng.iL]; have := (eI hr9).2 _ (iK hg2); unfold R47; omega
     have hok2 : ∀ x ∈ l2,x.ok := fun x hx => by
      rw [← hl2] at hx
      rcases List.mem_or_eq_of_mem_set hx with hx | rfl
      · exact hok9 x hx
      · exact ⟨(hok9 y9 (List.mem_of_getElem? hy9)).f,hmd9⟩
     have hs2 : (gT l e vr fl nonce target).ok := ⟨(show (0 : Nat) < W64 by decide),(by show (As.outB _).length ≤ R47; unfold R47; omega)⟩
     have hok3 : ∀ x ∈ gN l2 (gT l e vr fl nonce target),x.ok := fun x hx => by
      unfold gN at hx
      rcases List.mem_append.1 hx with hx | hx
      ·
       rcases List.mem_append.1 hx with hx | hx
       · exact hok2 x (List.mem_of_mem_take hx)
       · rw [List.mem_singleton.1 hx]; exact hs2
      · exact hok2 x (List.mem_of_mem_drop hx)
     have hdl9 : (gN l2 (gT l e vr fl nonce target)).length = l2.length - 1 + 2 := aCX (by rintro rfl; simp at hl2n; omega)
     have hS9 : iZ l e vr fl nonce target = gN l2 (gT l e vr fl nonce target) := by unfold iZ; rw [hi9,hg9,Int.toNat_natCast,← hl2,hg9]
     refine eE 110 (Sl b22 0 l.length c22) (Sl b22 0 l2.length c22) (by rw [hl2n]) ?_
     refine zq 1 (zn (zs ?_))
     refine rZ 11 2 0 [111,112,113,114,115,116,117,118,119,120,121] [.val (bnV p (some ⟨bL,fL,none⟩) l.length c),.val (Sl b22 0 l2.length c22),.val (Sl b22 0 l2.length c22),.val (L6 l2.length),.val (L6 (l2.length - 1)),.val (.agg #[(I6 12),(L6 (dX l)),(U6 0),(I6 0),(St (pC e vr fl target nonce (Eng.aI 1 (dC vr))).outB)]),.mem (fun v V => ∃ g,v = (Sl g 0 1 1) ∧ V.range g 0 [(I6 12),(L6 (dX l)),(U6 0),(I6 0),(St (pC e vr fl target nonce (Eng.aI 1 (dC vr))).outB)]),.mem (lC (gN l2 (gT l e vr fl nonce target))),.mem (iX (iD p (gN l2 (gT l e vr fl nonce target))) (tO p (gN l2 (gT l e vr fl nonce target))) (aZ p (gN l2 (gT l e vr fl nonce target)))),.mem (aAQ (iD p (gN l2 (gT l e vr fl nonce target))) (tO p (gN l2 (gT l e vr fl nonce target)))),.val (I6 (aZ p (gN l2 (gT l e vr fl nonce target))))] 7 [(b22,(.cells (l2.flatMap Bk.cs ++ j22).toArray 38 (0,0)))] ([(bK b15 [(.slice a19_15 1 1),(I6 2),(I6 e.s),(St e.l),(N6 e.n),(N6 e.v),(.slice a29_15 3 c29_15),(.slice a39_15 1 c39_15)] 96),(bK ib [(.slice a7 1 c7)] 76),(bK b0 (eB p (some ⟨bL,fL,none⟩) l.length c) 29),(bK b1 [(I6 e.s),(St e.l),(N6 e.n),(N6 e.v)] 24),(b2,.cells Z20.toArray 29 (0,0)),(bK b5 [(I6 12),(L6 (dX l)),(U6 0),(I6 0),(St (pC e vr fl target nonce (Eng.aI 1 (dC vr))).outB)] 38),(bK b6 [(I6 (aJ l target).1.t),(I6 (aJ l target).1.n),(N6 (aJ l target).1.f),(I6 (aJ l target).1.c),(St (aJ l target).1.d)] 38)] ++ ([] ++ σF)) (fun v V σ' => lC (gN l2 (gT l e vr fl nonce target)) v V ∧ σ' = []) (sL [(bK b15 [(.slice a19_15 1 1),(I6 2),(I6 e.s),(St e.l),(N6 e.n),(N6 e.v),(.slice a29_15 3 c29_15),(.slice a39_15 1 c39_15)] 96),(bK ib [(.slice a7 1 c7)] 76),(bK b0 (eB p (some ⟨bL,fL,none⟩) l.length c) 29),(bK b1 [(I6 e.s),(St e.l),(N6 e.n),(N6 e.v)] 24),(b2,.cells Z20.toArray 29 (0,0)),(bK b5 [(I6 12),(L6 (dX l)),(U6 0),(I6 0),(St (pC e vr fl target nonce (Eng.aI 1 (dC vr))).outB)] 38),(bK b6 [(I6 (aJ l target).1.t),(I6 (aJ l target).1.n),(N6 (aJ l target).1.f),(I6 (aJ l target).1.c),(St (aJ l target).1.d)] 38)] ([] ++ σF) (b22,(.cells (l2.flatMap Bk.cs ++ j22).toArray 38 (0,0))) kR) kR rfl rfl kR kR kR kR kR kR (by simp only [List.forall_mem_cons]; exact ⟨trivial,trivial,trivial,trivial,trivial,trivial,by intro v V V2 hV2 hP; (first | trivial | exact lC.mono hV2 hP | exact iX.mono hV2 hP | exact aAQ.mono hV2 hP | exact rQ.mono hV2 hP | (obtain ⟨g,e,hP⟩ := hP; exact ⟨g,e,hP.le hV2⟩) | (obtain ⟨g,e,hP⟩ := hP; exact ⟨g,e,View.range_le hV2 hP⟩)),by intro v V V2 hV2 hP; (first | trivial | exact lC.mono hV2 hP | exact iX.mono hV2 hP | exact aAQ.mono hV2 hP | exact rQ.mono hV2 hP | (obtain ⟨g,e,hP⟩ := hP; exact ⟨g,e,hP.le hV2⟩) | (obtain ⟨g,e,hP⟩ := hP; exact ⟨g,e,View.range_le hV2 hP⟩)),by intro v V V2 hV2 hP; (first | trivial | exact lC.mono hV2 hP | exact iX.mono hV2 hP | exact aAQ.mono hV2 hP | exact rQ.mono hV2 hP | (obtain ⟨g,e,hP⟩ := hP; exact ⟨g,e,hP.le hV2⟩) | (obtain ⟨g,e,hP⟩ := hP; exact ⟨g,e,View.range_le hV2 hP⟩)),by intro v V V2 hV2 hP; (first | trivial | exact lC.mono hV2 hP | exact iX.mono hV2 hP | exact aAQ.mono hV2 hP | exact rQ.mono hV2 hP | (obtain ⟨g,e,hP⟩ := hP; exact ⟨g,e,hP.le hV2⟩) | (obtain ⟨g,e,hP⟩ := hP; exact ⟨g,e,View.range_le hV2 hP⟩)),trivial,fun _ h => by cases h⟩) (show (7 : Nat) < 11 by decide) _ rfl (by intro v V s2 h; exact h.1) (by intro v V V2 s2 hV h; exact ⟨lC.mono hV h.1,h.2⟩) ⟨?_,?_,?_,?_,?_,?_,?_,?_,?_,?_,?_,trivial⟩ [16,17,120,121] (fun u => [(Pt b2 0),(I6 0),u 9,(I6 (aZ p (gN l2 (gT l e vr fl nonce target))))]) kF ?_
     · exact ObM.o 0 (show (0 : Nat) ≠ 7 by decide) (fun σ' => oqL 0 2 b0 20 (eB p (some ⟨bL,fL,none⟩) l.length c) 29 rfl (bnV p (some ⟨bL,fL,none⟩) l.length c) rfl kR kF kF)
     · exact ObM.o 1 (show (1 : Nat) ≠ 7 by decide) (fun σ' => oqQ 1 rfl (Sl b22 0 l2.length c22) (Sl b22 0 l2.length c22) rfl rfl kF kF)
     · exact ObM.o 2 (show (2 : Nat) ≠ 7 by decide) (fun σ' => oqQ 2 rfl (Sl b22 0 l2.length c22) (Sl b22 0 l2.length c22) rfl rfl kF kF)
     · exact ObM.o 3 (show (3 : Nat) ≠ 7 by decide) (fun σ' => oqQ 3 rfl (L6 l2.length) (L6 l2.length) rfl rfl kF kF)
     · exact ObM.o 4 (show (4 : Nat) ≠ 7 by decide) (fun σ' => oqQ 4 rfl (I6 (IntKind.i64.wrap ((l2.length : Int) - 1))) (L6 (l2.length - 1)) (congrArg (Value.int .i64) (by rw [IntWalk.i64_in _ oW]; omega)) rfl kF kF)
     · exact ObM.o 5 (show (5 : Nat) ≠ 7 by decide) (fun σ' => oqL 5 5 b5 5 [(I6 12),(L6 (dX l)),(U6 0),(I6 0),(St (pC e vr fl target nonce (Eng.aI 1 (dC vr))).outB)] 38 rfl (.agg #[(I6 12),(L6 (dX l)),(U6 0),(I6 0),(St (pC e vr fl target nonce (Eng.aI 1 (dC vr))).outB)]) rfl kR kF kF)
     ·
      refine ObM.o 6 (show (6 : Nat) ≠ 7 by decide) (fun σ' => oqN 6 rfl rfl (fun v V => ∃ g,v = (Sl g 0 1 1) ∧ V.range g 0 [(I6 12),(L6 (dX l)),(U6 0),(I6 0),(St (pC e vr fl target nonce (Eng.aI 1 (dC vr))).outB)]) rfl [116] (fun u => [(.agg #[(I6 12),(L6 (dX l)),(U6 0),(I6 0),(St (pC e vr fl target nonce (Eng.aI 1 (dC vr))).outB)])]) kF (fun u V hV hdq => ?_))
      refine ⟨[(I6 12),(L6 (dX l)),(U6 0),(I6 0),(St (pC e vr fl target nonce (Eng.aI 1 (dC vr))).outB)],38,fun r => (Sl r 0 1 1),?_,fun g V' hV' hR => ?_⟩
      · kernel_rfl
      exact ⟨g,rfl,hR⟩
     ·
      refine ObM.call ⟨_,78,[112,115,117],(fun u => [(Sl b22 0 l2.length c22),(L6 (l2.length - 1)),u 6]),rfl,rfl,kF,fun u V hV hdq => ?_⟩
      have e6 : (fun v V => ∃ g,v = (Sl g 0 1 1) ∧ V.range g 0 [(I6 12),(L6 (dX l)),(U6 0),(I6 0),(St (pC e vr fl target nonce (Eng.aI 1 (dC vr))).outB)]) (u 6) V := hdq 6 kR
      obtain ⟨g6,q6,t6⟩ := e6
      refine ⟨#[(Sl b22 0 l2.length c22),(L6 (l2.length - 1)),u 6],by kernel_rfl,fun W hM => ?_⟩
      rw [q6]
      exact by
       have key := aD4 b22 c22 (l2.length - 1) g6 0 1 _ j22 (gT l e vr fl nonce target).cs hM (by rw [h11]; exact hJ22) oW (mI l2) t6 rfl (aND _)
       rw [h11] at key
       exact key.mono fun e W' h => h.mono fun v V' σ2 ⟨h1,b',cap,h2,h3⟩ => ⟨aAu (by rw [aLm] at h3; exact h3) h2 (by rw [hdl9]) hok3 (by unfold R47; omega),h1⟩
     ·
      refine ObM.o 8 (show (8 : Nat) ≠ 7 by decide) (fun σ' => oqM 8 69 rfl rfl (iX (iD p (gN l2 (gT l e vr fl nonce target))) (tO p (gN l2 (gT l e vr fl nonce target))) (aZ p (gN l2 (gT l e vr fl nonce target)))) rfl [111,118] (fun u => [(bnV p (some ⟨bL,fL,none⟩) l.length c),u 7]) kF (fun u V hV hdq => ?_))
      have e7 : (lC (gN l2 (gT l e vr fl nonce target))) (u 7) V := hdq 7 kR
      obtain ⟨a7,c7,q7,hb7⟩ := e7
      refine ⟨#[(bnV p (some ⟨bL,fL,none⟩) l.length c),u 7],by kernel_rfl,fun W hW => ?_⟩
      rw [q7]
      exact aAt p l (gN l2 (gT l e vr fl nonce target)) _ _ _ _ W hW hp hb7
     ·
      refine ObM.o 9 (show (9 : Nat) ≠ 7 by decide) (fun σ' => oqP 9 rfl rfl (aAQ (iD p (gN l2 (gT l e vr fl nonce target))) (tO p (gN l2 (gT l e vr fl nonce target)))) rfl [119] (fun u => [u 8]) kF (fun u V hV hdq => ?_))
      have e8 : (iX (iD p (gN l2 (gT l e vr fl nonce target))) (tO p (gN l2 (gT l e vr fl nonce target))) (aZ p (gN l2 (gT l e vr fl nonce target)))) (u 8) V := hdq 8 kR
      obtain ⟨a8,c8,q8,hb8⟩ := e8
      rw [q8]
      exact ⟨(bnV (iD p (gN l2 (gT l e vr fl nonce target))) a8 (tO p (gN l2 (gT l e vr fl nonce target))).length c8),by kernel_rfl,⟨_,_,rfl,hb8⟩⟩
     ·
      refine ObM.o 10 (show (10 : Nat) ≠ 7 by decide) (fun σ' => oqK 10 rfl rfl (I6 (aZ p (gN l2 (gT l e vr fl nonce target)))) rfl [119] (fun u => [u 8]) kF (fun u V hV hdq => ?_))
      have e8 : (iX (iD p (gN l2 (gT l e vr fl nonce target))) (tO p (gN l2 (gT l e vr fl nonce target))) (aZ p (gN l2 (gT l e vr fl nonce target)))) (u 8) V := hdq 8 kR
      obtain ⟨a8,c8,q8,hb8⟩ := e8
      rw [q8]
      show _ = _
      kernel_rfl
     intro u23 V23 s23 hV23 hdq23 hP23
     have k27 := k16.le hV23
     generalize u23 7 = z23 at hP23 ⊢
     obtain ⟨_,rfl⟩ := hP23
     have e9_23 : (aAQ (iD p (gN l2 (gT l e vr fl nonce target))) (tO p (gN l2 (gT l e vr fl nonce target)))) (u23 9) V23 := hdq23 9 (by decide)
     obtain ⟨a9_23,c9_23,q9_23,hb9_23⟩ := e9_23
     rw [q9_23]
     refine aY 4 b2 (zq 1 (zn (aA (dU [5,0] [(b2,20)] [(.agg #[(U6 ((iD p (gN l2 (gT l e vr fl nonce target))).f : Int)),(I6 (iD p (gN l2 (gT l e vr fl nonce target))).c),(I6 (iD p (gN l2 (gT l e vr fl nonce target))).dst.s),(St (iD p (gN l2 (gT l e vr fl nonce target))).dst.l),(U6 ((iD p (gN l2 (gT l e vr fl nonce target))).dst.n : Int)),(U6 ((iD p (gN l2 (gT l e vr fl nonce target))).dst.v : Int)),(I6 (iD p (gN l2 (gT l e vr fl nonce target))).src.s),(St (iD p (gN l2 (gT l e vr fl nonce target))).src.l),(U6 ((iD p (gN l2 (gT l e vr fl nonce target))).src.n : Int)),(U6 ((iD p (gN l2 (gT l e vr fl nonce target))).src.v : Int)),(I6 (iD p (gN l2 (gT l e vr fl nonce target))).rpt.s),(St (iD p (gN l2 (gT l e vr fl nonce target))).rpt.l),(U6 ((iD p (gN l2 (gT l e vr fl nonce target))).rpt.n : Int)),(U6 ((iD p (gN l2 (gT l e vr fl nonce target))).rpt.v : Int)),(U6 ((iD p (gN l2 (gT l e vr fl nonce target))).time : Int)),(U6 ((iD p (gN l2 (gT l e vr fl nonce target))).seq : Int)),(U6 ((iD p (gN l2 (gT l e vr fl nonce target))).life : Int)),(U6 ((iD p (gN l2 (gT l e vr fl nonce target))).off : Int)),(U6 ((iD p (gN l2 (gT l e vr fl nonce target))).tot : Int)),(.slice a9_23 (tO p (gN l2 (gT l e vr fl nonce target))).length c9_23)]),(I6 (aZ p (gN l2 (gT l e vr fl nonce target))))] (fun W' hM => ?_)))))
     refine dP 1 7 (ib,.cells #[(.slice a7 1 c7)] 76 (0,0)) hM (View.le_trans (View.le_trans (View.le_trans (View.le_trans hV3 hV7) hV9) hV15) hV23) ⟨?_,?_⟩
     ·
      unfold dT
      rw [if_neg (by rw [h0]; exact Bool.false_ne_true),if_neg (by rw [h1]; exact Bool.false_ne_true),if_neg (by rw [h2]; exact Bool.false_ne_true),if_neg (by rw [h3]; exact Bool.false_ne_true),hS9]
      exact ⟨_,_,rfl,hb9_23⟩
     ·
      unfold oX
      rw [if_pos (by unfold aBO; have e9 := h1; simp only [Bool.not_eq_false'] at e9; rw [h0,e9,h2,h3]; rfl)]
      exact ⟨a7,c7,rfl,k27⟩
    ·
     refine gF 0 (bK ib [S0] 76) 77 #[(Pt eb 0),(I6 vr),(St key),(St nonce),(St (gB p l target (rR l) fl)),(St (aJ l target).1.d)] (aBI ib vr key nonce (gB p l target (rR l) fl) (aJ l target).1.d) (fun W hM => aD9 vr key nonce (gB p l target (rR l) fl) (aJ l target).1.d eb ib (hg.le hV3) (by have := (eI (mU h0)).2 _ (iK (fF (by simpa using h2)).2.2.2); omega) hM) (fun v33 V33 s33 hV33 hP33 => ?_)
     unfold aBI at hP33
     rw [if_neg (by rw [h3]; exact Bool.false_ne_true)] at hP33
     obtain ⟨rfl,rfl⟩ := hP33
     refine zq 7 (zn (zs (zQ 2 (zn (dF (zQ 2 (aY 3 b2 (zq 1 (zn (aA (dU [4,0] [(b2,20)] [(.agg Z20.toArray),(I6 1)] (fun W' hM => ?_))))))))))))
     refine dP 0 6 (ib,.cells #[S0] 76 (0,0)) hM (View.le_trans hV3 hV33) ⟨?_,?_⟩
     ·
      unfold dT
      rw [if_neg (by rw [h0]; exact Bool.false_ne_true),if_neg (by rw [h1]; exact Bool.false_ne_true),if_neg (by rw [h2]; exact Bool.false_ne_true),if_pos (by rw [h3]; rfl)]
      exact ⟨none,0,rfl,cX.nil⟩
     ·
      unfold oX aBO
      rw [if_neg (by simp [h0,(show aX e = true from by simpa using h1),h2,h3])]
      rfl
structure lQ (U : View) (a : Option Addr) (l : List Bk) : Prop where
 at_ : ∀ i x, l[i]? = some x → ∃ b f, a = some ⟨b, f, none⟩ ∧ U.range b (f + i * 5) x.cs
 f : ∀ x ∈ l, x.f < W64
 len : l.length ≤ maxLen
theorem lQ.le {U V : View} (h : View.le U V) {a : Option Addr} {l : List Bk} (hl : lQ U a l) : lQ V a l :=
 ⟨fun i x hx => by obtain ⟨b, f, e, hr⟩ := hl.at_ i x hx; exact ⟨b, f, e, View.range_le h hr⟩, hl.f, hl.len⟩
theorem lQ.up {U : View} {a : Option Addr} {l : List Bk} (h : lQ U a l) (h1 : l.length ≤ 1000) (h2 : ∀ x ∈ l, x.d.length ≤ 100000) : cX U a l :=
 ⟨h.at_, fun x hx => ⟨h.f x hx, by have := h2 x hx; unfold R47; omega⟩, by unfold R47; omega⟩
theorem lM (p : Pr) (l : List Bk) (a : Option Addr) (c : Nat) (num : Int) (w : World) {U : View} (hU : See U w) (hl : lQ U a l) : CP 9 #[bnV p a l.length c, .int .i64 num] w (Ret (.int .i64 (gH l num)) w) := by
 have hlen := hl.len
 unfold maxLen at hlen
 refine eG 22 Tryz.func9 hU ?_
 refine zs (zr (cJ (fun b0 => (zq 1 (zn (zs (zQ 1 (zn (aB (gX (α := Nat) (fun x => [1,2,4,5].zip [(I6 num),(Pt b0 0),(I6 0),(L6 x)]) (fun x => U) (fun x => [(bK b0 (eB p a l.length c) 29)]) (fun x => x ≤ l.length ∧ aDa num x (l.drop x) = gH l num) (fun x => l.length - x) 0 ?_ ?_))))))))))
 · exact ⟨Nat.zero_le _,rfl⟩
 intro x hx
 obtain ⟨hx1,hx2⟩ := hx
 refine zs (zB [0,0,1,0,0] [(b0,1)] (zn (cD (decide ((x : Int) < (l.length : Int))) (fun h0 => ?_) (fun h0 => ?_))))
 ·
  have h0d := of_decide_eq_true h0
  refine zk (zs (aB (zB [0,1,0] [(b0,1)] ?_)))
  obtain ⟨y1,hy1⟩ : ∃ y,(l)[x]? = some y := ⟨(l)[x]'oW,List.getElem?_eq_getElem _⟩
  obtain ⟨b1,f1,rfl,hU1⟩ := hl.at_ x y1 hy1
  refine cH (Pt b1 (f1 + x * 5)) (rIx 38 rfl b1 f1 l.length c x 5) ?_
  refine zq 1 (zV b1 (f1 + x * 5 + 1) (I6 y1.n) (hU1 1 _ rfl) 3 (.tmp 17) _ Tryz.underlying3 rfl ?_)
  refine zq 2 (zn (cD (y1.n == num) (fun h1 => ?_) (fun h1 => ?_)))
  ·
   have h1d := eq_of_beq h1
   refine zQ 2 (zn (aA (aH [4] [(L6 x)] (fun W' hM => ?_))))
   refine ⟨?_,hM.below⟩
   rw [← hx2,jE hy1,if_pos h1]
   rfl
  ·
   have h1d := beq_eq_false_iff_ne.1 h1
   refine zk (zr (zq 2 (fC 12 ((x : Int) + 1) (zq 1 (zn ?_)))))
   refine nx (x + 1) ?_ ?_
   · exact ⟨by omega,by rw [← hx2,jE hy1,if_neg (by rw [h1]; exact Bool.false_ne_true)]⟩
   · show l.length - (x + 1) < l.length - x; omega
 ·
  have h0d := of_decide_eq_false h0
  refine aU (zQ 1 (zn (aA (aH [4] [(I6 (-1))] (fun W' hM => ?_)))))
  refine ⟨?_,hM.below⟩
  rw [← hx2,cY oW]
  rfl
def aBw (e : Ei) : Bool := decide ((e.l.length : Int) ≤ 100)
theorem qH (e : Ei) (w : World) : CP 32 #[e.V] w (Ret (.bool (aBw e)) w) := by
 refine dK 7 Tryz.func32 ?_
 refine zs (zr (cJ (fun b0 => (zq 1 (zn (zB [0,1,0,0,0] [(b0,1)] (zn (aA (jJ 2)))))))))
def aDf (p : Pr) : Bool := aBw p.dst && aBw p.src && aBw p.rpt
theorem aB8 (p : Pr) (w : World) : CP 79 #[p.V] w (Ret (.bool (aDf p)) w) := by
 refine dK 16 Tryz.func79 ?_
 refine zs (zr (cJ (fun b0 => (zq 1 (zn (zB [0,1] [(b0,4)] (dL (fun W hM => qH p.dst W) (zq 1 (aK 6 (aBw p.dst) (fun h0 => ?_) (fun h0 => ?_))))))))))
 ·
  refine cU [0,1] [(b0,4)] (dL (fun W hM => qH p.src W) (zq 2 (aK 11 (aBw p.src) (fun h1 => ?_) (fun h1 => ?_))))
  ·
   refine cU [0,1] [(b0,4)] (dL (fun W hM => qH p.rpt W) (zq 2 (zn (aA (aH [2] [(.bool (aBw p.rpt))] (fun W' hM => ?_))))))
   exact ⟨by simp only [cG,aDf,h0,h1,bs,bQ,reduceIte],hM.below⟩
  ·
   refine zq 5 (zn (aA (aH [2] [(.bool false)] (fun W' hM => ?_))))
   exact ⟨by simp only [cG,aDf,h0,h1,bs,bQ,reduceIte],hM.below⟩
 ·
  refine zq 10 (zn (aA (aH [2] [(.bool false)] (fun W' hM => ?_))))
  exact ⟨by simp only [cG,aDf,h0,bs,bQ,reduceIte],hM.below⟩
def aHz (x : Bk) : Bool := decide ((x.d.length : Int) > 4100)
def aAC (p : Pr) (l : List Bk) : Bool := (l.take 30).all (fun x => !aHz x) && decide ((l.length : Int) ≤ 20) && aDf p
theorem aCt {l : List Bk} {i : Nat} {y : Bk} (h : l[i]? = some y) (hi : i < 30) : ((l.drop i).take (30 - i)).all (fun x => !aHz x) = (!aHz y && ((l.drop (i + 1)).take (30 - (i + 1))).all (fun x => !aHz x)) := by
 rw [cK h, show 30 - i = (30 - (i + 1)) + 1 by omega, List.take_succ_cons, List.all_cons]
theorem aGW (p : Pr) (l : List Bk) (a : Option Addr) (c : Nat) (w : World) {U : View} (hU : See U w) (hl : lQ U a l) : CP 31 #[bnV p a l.length c] w (Ret (.bool (aAC p l)) w) := by
 have hlen := hl.len
 unfold maxLen at hlen
 refine eG 32 Tryz.func31 hU ?_
 refine zs (zr (cJ (fun b0 => (zq 1 (zn (zs (zQ 1 (zn (aB (gX (α := Nat) (fun x => [1,2,3].zip [(Pt b0 0),(.bool false),(L6 x)]) (fun x => U) (fun x => [(bK b0 (eB p a l.length c) 29)]) (fun x => x ≤ l.length ∧ x ≤ 30 ∧ ((l.drop x).take (30 - x)).all (fun x => !aHz x) = (l.take 30).all (fun x => !aHz x)) (fun x => l.length - x) 0 ?_ ?_))))))))))
 · exact ⟨Nat.zero_le _,Nat.zero_le _,rfl⟩
 intro x hx
 obtain ⟨hx1,hx2,hx3⟩ := hx
 refine zs (zB [0,0,1,0,0,0] [(b0,1)] (aK 9 (decide ((x : Int) < (l.length : Int))) (fun h0 => ?_) (fun h0 => ?_)))
 ·
  have h0d := of_decide_eq_true h0
  refine zq 3 (zn (cD (decide ((x : Int) < 30)) (fun h1 => ?_) (fun h1 => ?_)))
  ·
   have h1d := of_decide_eq_true h1
   refine zk (zs (aB (zB [0,1,0] [(b0,1)] ?_)))
   obtain ⟨y1,hy1⟩ : ∃ y,(l)[x]? = some y := ⟨(l)[x]'oW,List.getElem?_eq_getElem _⟩
   obtain ⟨b1,f1,rfl,hU1⟩ := hl.at_ x y1 hy1
   refine cH (Pt b1 (f1 + x * 5)) (rIx 38 rfl b1 f1 l.length c x 5) ?_
   refine zq 1 (zV b1 (f1 + x * 5 + 4) (St y1.d) (hU1 4 _ rfl) 9 (.tmp 19) _ Tryz.underlying9 rfl ?_)
   refine zq 2 (zn (cD (decide ((((y1.d).length : Nat) : Int) > 4100)) (fun h2 => ?_) (fun h2 => ?_)))
   ·
    have h2d := of_decide_eq_true h2
    refine zQ 1 (zn (aA (aH [2] [(.bool false)] (fun W' hM => ?_))))
    refine ⟨?_,hM.below⟩
    unfold aAC
    have hb : aHz y1 = true := h2
    rw [← hx3,aCt hy1 oW,hb]
    rfl
   ·
    have h2d := of_decide_eq_false h2
    refine zk (zr (zq 2 (fC 14 ((x : Int) + 1) (zq 1 (zn ?_)))))
    refine nx (x + 1) ?_ ?_
    · exact ⟨by omega,by omega,by have hb : aHz y1 = false := h2; rw [← hx3,aCt hy1 oW,hb]; rfl⟩
    · show l.length - (x + 1) < l.length - x; omega
  ·
   have h1d := of_decide_eq_false h1
   refine aU (zB [0,1,0,0,0] [(b0,1)] (aK 27 (decide ((l.length : Int) ≤ 20)) (fun h3 => ?_) (fun h3 => ?_)))
   ·
    have h3d := of_decide_eq_true h3
    refine cU [0,1] [(b0,19)] (dL (fun W hM => aB8 p W) (zq 2 (zn (aA (aH [2] [(.bool (aDf p))] (fun W' hM => ?_))))))
    refine ⟨?_,hM.below⟩
    unfold aAC
    have h30 : (l.take 30).all (fun x => !aHz x) = true := by
     rw [← hx3]
     by_cases h9 : x = l.length
     · rw [cY oW,List.take_nil]; rfl
     · rw [show 30 - x = 0 by omega,List.take_zero]; rfl
    simp only [cG,h30,h3,bs,bQ,reduceIte]
   ·
    have h3d := of_decide_eq_false h3
    refine zq 5 (zn (aA (aH [2] [(.bool false)] (fun W' hM => ?_))))
    refine ⟨?_,hM.below⟩
    unfold aAC
    have h30 : (l.take 30).all (fun x => !aHz x) = true := by
     rw [← hx3]
     by_cases h9 : x = l.length
     · rw [cY oW,List.take_nil]; rfl
     · rw [show 30 - x = 0 by omega,List.take_zero]; rfl
    simp only [cG,h30,h3,bs,bQ,reduceIte]
 ·
  have h0d := of_decide_eq_false h0
  refine zq 3 (zn (dE (aU (zB [0,1,0,0,0] [(b0,1)] (aK 27 (decide ((l.length : Int) ≤ 20)) (fun h4 => ?_) (fun h4 => ?_))))))
  ·
   have h4d := of_decide_eq_true h4
   refine cU [0,1] [(b0,19)] (dL (fun W hM => aB8 p W) (zq 2 (zn (aA (aH [2] [(.bool (aDf p))] (fun W' hM => ?_))))))
   refine ⟨?_,hM.below⟩
   unfold aAC
   have h30 : (l.take 30).all (fun x => !aHz x) = true := by
    rw [← hx3]
    by_cases h9 : x = l.length
    · rw [cY oW,List.take_nil]; rfl
    · rw [show 30 - x = 0 by omega,List.take_zero]; rfl
   simp only [cG,h30,h4,bs,bQ,reduceIte]
  ·
   have h4d := of_decide_eq_false h4
   refine zq 5 (zn (aA (aH [2] [(.bool false)] (fun W' hM => ?_))))
   refine ⟨?_,hM.below⟩
   unfold aAC
   have h30 : (l.take 30).all (fun x => !aHz x) = true := by
    rw [← hx3]
    by_cases h9 : x = l.length
    · rw [cY oW,List.take_nil]; rfl
    · rw [show 30 - x = 0 by omega,List.take_zero]; rfl
   simp only [cG,h30,h4,bs,bQ,reduceIte]
def aIf (l : List Bk) : Nat := (l.map fun x => x.d.length).sum
theorem aIe {l : List Bk} {i : Nat} {y : Bk} (h : l[i]? = some y) : aIf (l.drop i) = y.d.length + aIf (l.drop (i + 1)) := by
 unfold aIf
 rw [cK h, List.map_cons, List.sum_cons]
theorem aHf (p : Pr) (l : List Bk) (a : Option Addr) (c : Nat) (w : World) {U : View} (hU : See U w) (hl : cX U a l) (h20 : l.length ≤ 30) (hd : ∀ x ∈ l, x.d.length ≤ 4100) : CP 33 #[bnV p a l.length c] w (Ret (.bool (decide (((aIf l : Nat) : Int) ≤ 4500))) w) := by
 refine eG 23 Tryz.func33 hU ?_
 refine zs (zr (cJ (fun b0 => (zq 1 (zn (zQ 1 (zn (zs (zQ 1 (zn (aB (gX (α := Nat × Nat) (fun x => [1,2,3,4].zip [(Pt b0 0),(.bool false),(L6 x.2),(L6 x.1)]) (fun x => U) (fun x => [(bK b0 (eB p a l.length c) 29)]) (fun x => x.1 ≤ l.length ∧ x.2 + aIf (l.drop x.1) = aIf l ∧ x.2 ≤ 4100 * x.1) (fun x => l.length - x.1) (0,0) ?_ ?_))))))))))))
 · exact ⟨Nat.zero_le _,Nat.zero_add _,Nat.le_refl _⟩
 intro x hx
 obtain ⟨hx1,hx2,hx3⟩ := hx
 refine zs (zB [0,0,1,0,0] [(b0,1)] (zn (cD (decide ((x.1 : Int) < (l.length : Int))) (fun h0 => ?_) (fun h0 => ?_))))
 ·
  have h0d := of_decide_eq_true h0
  refine zk (zs (aB (zr (cU [0,0,1,0] [(b0,1)] ?_))))
  obtain ⟨y1,hy1⟩ : ∃ y,(l)[x.1]? = some y := ⟨(l)[x.1]'oW,List.getElem?_eq_getElem _⟩
  obtain ⟨b1,f1,rfl,hU1⟩ := hl.at_ x.1 y1 hy1
  have hdy1 := hd y1 (List.mem_of_getElem? hy1)
  refine cH (Pt b1 (f1 + x.1 * 5)) (rIx 38 rfl b1 f1 l.length c x.1 5) ?_
  refine zq 1 (zV b1 (f1 + x.1 * 5 + 4) (St y1.d) (hU1 4 _ rfl) 9 (.tmp 17) _ Tryz.underlying9 rfl ?_)
  refine zq 2 (fC 20 ((x.2 : Int) + (((y1.d).length : Nat) : Int)) (zq 1 (zn (zr (zq 2 (fC 11 ((x.1 : Int) + 1) (zq 1 (zn ?_))))))))
  refine nx (x.1 + 1,x.2 + y1.d.length) ?_ ?_
  · exact ⟨by show x.1 + 1 ≤ _; omega,by show x.2 + y1.d.length + aIf (l.drop (x.1 + 1)) = _; rw [← hx2,aIe hy1]; omega,by show x.2 + y1.d.length ≤ 4100 * (x.1 + 1); have := hd y1 (List.mem_of_getElem? hy1); omega⟩
  · show l.length - (x.1 + 1) < l.length - x.1; omega
 ·
  have h0d := of_decide_eq_false h0
  refine aU (zQ 3 (zn (aA (aH [2] [(.bool (decide ((x.2 : Int) ≤ 4500)))] (fun W' hM => ?_)))))
  refine ⟨?_,hM.below⟩
  have e : aIf l = x.2 := by rw [← hx2,cY oW]; rfl
  rw [e]
  rfl
theorem lP {p : Pr} {l : List Bk} (h : aAC p l = true) : l.length ≤ 20 ∧ (∀ x ∈ l, x.d.length ≤ 4100) := by
 unfold aAC at h
 simp only [Bool.and_eq_true, decide_eq_true_eq] at h
 refine ⟨by omega, fun x hx => ?_⟩
 have := List.all_eq_true.1 h.1.1 x (by rw [List.take_of_length_le oW]; exact hx)
 unfold aHz at this
 simp only [Bool.not_eq_true', decide_eq_false_iff_not] at this
 omega
def wyC (e : Ei) (vr fl : Int) (key nonce : List UInt8) (target : Int) (id : Bool) : List Value := [.int .i64 e.s, .string (B e.l), .int .u64 e.n, .int .u64 e.v, .int .i64 vr, .int .i64 fl, .string (B key), .string (B nonce), .int .i64 target, .bool id]
def wyV (e : Ei) (vr fl : Int) (key nonce : List UInt8) (target : Int) (id : Bool) : Value := .agg (wyC e vr fl key nonce target id).toArray
def aGj (p : Pr) (l : List Bk) (e : Ei) (key nonce : List UInt8) : Bool := aAC p l && decide ((l.length : Int) ≤ 18) && aBw e && decide ((key.length : Int) ≤ 100) && decide ((nonce.length : Int) ≤ 60) && decide (((aIf l : Nat) : Int) ≤ 4500)
theorem aF9 (p : Pr) (l : List Bk) (a : Option Addr) (c : Nat) (e : Ei) (vr fl : Int) (key nonce : List UInt8) (target : Int) (id : Bool) (w : World) {U : View} (hU : See U w) (hl : lQ U a l) : CP 11 #[bnV p a l.length c, wyV e vr fl key nonce target id] w (Ret (.bool (aGj p l e key nonce)) w) := by
 refine eG 36 Tryz.func11 hU ?_
 refine zs (zr (cJ (fun b0 => (cJ (fun b1 => (zq 1 (zn (zB [1] [(b0,20)] (dA 31 #[(bnV p a l.length c)] (.bool (aAC p l)) (fun W hM => aGW p l _ _ W hM.view hl) ?_)))))))))
 refine zq 1 (aK 7 (aAC p l) (fun h0 => ?_) (fun h0 => ?_))
 ·
  refine cU [0,1,0,0,0,0] [(b0,1)] (aK 13 (decide ((l.length : Int) ≤ 18)) (fun h1 => ?_) (fun h1 => ?_))
  ·
   have h1d := of_decide_eq_true h1
   refine cU [0,2] [(b1,4)] (dL (fun W hM => qH e W) (zq 2 (aK 18 (aBw e) (fun h2 => ?_) (fun h2 => ?_))))
   ·
    refine cU [0,0,2,0,0,0,0] [(b1,1)] (aK 25 (decide ((((key).length : Nat) : Int) ≤ 100)) (fun h3 => ?_) (fun h3 => ?_))
    ·
     have h3d := of_decide_eq_true h3
     refine cU [0,0,2,0,0,0,0] [(b1,1)] (aK 32 (decide ((((nonce).length : Nat) : Int) ≤ 60)) (fun h4 => ?_) (fun h4 => ?_))
     ·
      have h4d := of_decide_eq_true h4
      refine cU [1] [(b0,20)] (dA 33 #[(bnV p a l.length c)] (.bool (decide (((aIf l : Nat) : Int) ≤ 4500))) (fun W hM => aHf p l _ _ W hM.view (hl.up (by have := (lP h0).1; omega) fun x hx => by have := (lP h0).2 x hx; omega) (by have := (lP h0).1; omega) (lP h0).2) ?_)
      refine zq 2 (zn (aA (aH [4] [(.bool (decide (((aIf l : Nat) : Int) ≤ 4500)))] (fun W' hM => ?_))))
      exact ⟨by simp only [cG,aGj,h0,h1,h2,h3,h4,bs,bQ,reduceIte],hM.below⟩
     ·
      refine zq 4 (zn (aA (aH [4] [(.bool false)] (fun W' hM => ?_))))
      exact ⟨by simp only [cG,aGj,h0,h1,h2,h3,h4,bs,bQ,reduceIte],hM.below⟩
    ·
     refine zq 11 (zn (aA (aH [4] [(.bool false)] (fun W' hM => ?_))))
     exact ⟨by simp only [cG,aGj,h0,h1,h2,h3,bs,bQ,reduceIte],hM.below⟩
   ·
    refine zq 18 (zn (aA (aH [4] [(.bool false)] (fun W' hM => ?_))))
    exact ⟨by simp only [cG,aGj,h0,h1,h2,bs,bQ,reduceIte],hM.below⟩
  ·
   refine zq 23 (zn (aA (aH [4] [(.bool false)] (fun W' hM => ?_))))
   exact ⟨by simp only [cG,aGj,h0,h1,bs,bQ,reduceIte],hM.below⟩
 ·
  refine zq 29 (zn (aA (aH [4] [(.bool false)] (fun W' hM => ?_))))
  exact ⟨by simp only [cG,aGj,h0,bs,bQ,reduceIte],hM.below⟩
theorem rB (p : Pr) (l : List Bk) (a a' : Option Addr) (c c' : Nat) (w : World) {U : View} (hU : See U w) (hl : cX U a l) (hl' : cX U a' l) : CP 15 #[bnV p a l.length c, bnV p a' l.length c'] w (Ret (.bool true) w) := by
 have hlen := hl.len
 unfold R47 at hlen
 have hnn : ((l.length : Int) != (l.length : Int)) = false := by simp
 refine eG 38 Tryz.func15 hU ?_
 refine zs (zr (cJ (fun b0 => (cJ (fun b1 => (zq 1 (zn (zs (zB [0,1,0,2] [(b0,19),(b1,19)] (cH (.bool false) (aKw _ _ _ rfl p kR kR) ?_))))))))))
 refine cU [0,0,1,0,0,2,0,0] [(b0,1),(b1,1)] (eE 18 (.bool ((l.length : Int) != (l.length : Int))) (.bool false) (congrArg Value.bool hnn) ?_)
 refine zq 1 (zn (dE (zk (zs (zQ 1 (zn (aB (gX (α := Nat) (fun x => [2,3,4,5].zip [(Pt b0 0),(Pt b1 0),(.bool false),(L6 x)]) (fun x => U) (fun x => [(bK b0 (eB p a l.length c) 29),(bK b1 (eB p a' l.length c') 29)]) (fun x => x ≤ l.length) (fun x => l.length - x) 0 ?_ ?_))))))))
 · exact Nat.zero_le _
 intro x hx
 refine zs (zB [0,0,1,0,0] [(b0,1)] (zn (cD (decide ((x : Int) < (l.length : Int))) (fun h0 => ?_) (fun h0 => ?_))))
 ·
  have h0d := of_decide_eq_true h0
  refine zk (zs (aB (zs ?_)))
  obtain ⟨y,hy⟩ : ∃ y,l[x]? = some y := ⟨l[x]'oW,List.getElem?_eq_getElem _⟩
  obtain ⟨bE1,fE1,rfl,hU1⟩ := hl.at_ x y hy
  obtain ⟨bE2,fE2,rfl,hU2⟩ := hl'.at_ x y hy
  refine gU 3 [0,3,0,1,1,0,4,0,1,1] [(b0,1),(b1,1)] [.val (Pt bE1 (fE1 + x * 5)),.val (y.V),.val (Pt bE2 (fE2 + x * 5)),.val (y.V)] ⟨?_,?_,?_,?_,trivial⟩ ?_
  · exact vR (rIx 38 rfl bE1 fE1 l.length c x 5)
  · exact vU bE1 (fE1 + x * 5) y.cs hU1 38 _ _ Tryz.underlying38 rfl
  · exact vR (aDE _ 38 _ _ rfl bE2 fE2 l.length c' x 5 .i64 kR kR (by first | assumption | omega) kR kR)
  · exact vU bE2 (fE2 + x * 5) y.cs hU2 38 _ _ Tryz.underlying38 rfl
  refine cH (.bool false) (aKx _ _ _ rfl y.t y.n (y.f : Int) y.c y.d kR kR) ?_
  refine zn (dE (zk (zr (zq 2 (fC 26 ((x : Int) + 1) (zq 1 (zn ?_)))))))
  refine nx (x + 1) ?_ ?_
  · show x + 1 ≤ _; omega
  · show l.length - (x + 1) < l.length - x; omega
 ·
  refine aU (zQ 1 (zn (aA (jJ 4))))
end Go.Proofs.YtcdjakemdlinhaaGreatDoor.Sx
