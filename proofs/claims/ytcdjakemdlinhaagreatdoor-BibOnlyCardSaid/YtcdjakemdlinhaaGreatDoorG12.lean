/-
  Several texts in one: Bib2 Bib3 Asv Bcb3 Bib4 Rh1 Rh2.
  Conditions: named at each.
-/
import Derived.Test.YtcdjakemdlinhaaGreatDoorG11
set_option maxHeartbeats 16000000
set_option linter.unusedSimpArgs false
set_option linter.unusedVariables false
set_option linter.unusedSectionVars false
namespace Go.Proofs.YtcdjakemdlinhaaGreatDoor.Sx
open Go.ChangeShapes Go.WideShapes Go.ChangeAt Go.RowKit Go.Deep
theorem aNJ.toN {w w' : World} {U : View} {e : TypeId} {z n : Nat} {xs : List Value} {en : Ending} {Φ : Value → View → Prop} (hU : See U w) (h : aNJ w e z n xs en w') (hΦ : ∀ b cap V, View.le U V → V.range b 0 xs → n ≤ cap → Φ (.slice (some ⟨b, 0, none⟩) n cap) V) : rO w U Φ en w' := by
 obtain ⟨b, cap, junk, rfl, hb, hge, hat, hok⟩ := h
 have hM0 : Mem ⟨w, U⟩ U [] w := ⟨Below.refl _ _, fun _ _ h _ => h, hU, fun k b o hk => by simp at hk, fun j k x y hj => by simp at hj⟩
 obtain ⟨V, h1, h2, h3⟩ := (hM0.call hb).addView hat hge fun k x hx => by simp at hx
 exact ⟨_, V, rfl, hb, h1, h3.view, h3.old, hΦ b cap V h1 (fun j v hj => h2 j v (by rw [List.getElem?_append_left (List.getElem?_eq_some_iff.1 hj).1]; exact hj)) hok.2.2.1⟩
def rB (l : List Int) (v : Value) (V : View) : Prop := ∃ g c, v = .slice (some ⟨g, 0, none⟩) l.length c ∧ oD V (some ⟨g, 0, none⟩) l ∧ l.length ≤ c
theorem rB.mono {l : List Int} {v : Value} {V V' : View} (hl : View.le V V') (h : rB l v V) : rB l v V' := by
 obtain ⟨g, c, e, hi, hc⟩ := h
 exact ⟨g, c, e, hi.le hl, hc⟩
theorem aHS {a : Option Addr} {ts : List Int} {c : Nat} {w : World} {U : View} (hU : See U w) (hi : oD U a ts) (hne : ts ≠ []) (hl : ts.length ≤ 100000) : CP 39 #[.slice a ts.length c] w (rO w U (rB ts)) := by
 obtain ⟨b, f, rfl, hr⟩ := hi.at_ hne
 refine (aFU hU b f ts.length c (ts.map inV) hr (by simp) (fun u hu => by obtain ⟨x, _, rfl⟩ := List.mem_map.1 hu; rfl) (List.length_pos_iff.2 hne) oW).mono fun e w' h => aNJ.toN hU h fun b cap V h1 h2 h3 => ⟨b, cap, rfl, aJj h2 hi.len, h3⟩
theorem aNK {p : Pr} {l : List Bk} {ts : List Int} (h : (aDw p l 1 ts != 0) = false) : ts ≠ [] := by
 rintro rfl
 have h0 : aDw p l 1 [] = 0 := by simpa using h
 unfold aDw at h0
 split at h0
 · next h1 => rw [h0] at h1; cases h1
 ·
  rw [if_pos (by rfl)] at h0
  cases h0
def rZ (l : List Bk) : Bk := ⟨11, ((dX l : Nat) : Int), 0, 0, []⟩
def uN (x : Int) : Nat := (IntKind.u64.wrap x).toNat
theorem aM8 (x : Int) : 0 ≤ IntKind.u64.wrap x ∧ IntKind.u64.wrap x < 18446744073709551616 := by
 simp [IntKind.wrap, IntKind.bits, IntKind.signed]
 omega
theorem aKV (x : Int) : IntKind.u64.wrap x = (uN x : Int) := (Int.toNat_of_nonneg (aM8 x).1).symm
theorem aJJ (x : Int) : uN x < W64 := by
 have h := aM8 x
 unfold uN W64
 omega
def aOq (e : Ei) (vr fl : Int) (ts : List Int) (rs : List (List Pa)) : As := ⟨ts, 1, e, [⟨1, Itm.cN (uN vr)⟩, ⟨2, Itm.cN (uN fl)⟩], rs⟩
def aN0 (n z : Nat) : List Pa := [⟨1, dY (Eng.aI (n + 1) z)⟩]
def aFy (n z : Nat) : Nat → List (List Pa)
 | 0 => []
 | k + 1 => aFy n z k ++ [aN0 (n + k) z]
theorem gT (n z : Nat) : ∀ k, (aFy n z k).length = k
 | 0 => rfl
 | k + 1 => by rw [aFy, List.length_append, gT n z k]; rfl
def sgT (p : Pr) (l : List Bk) (vr fl : Int) (key : List UInt8) : Nat → List Int → List En
 | _, [] => []
 | n, t :: ts => enS vr key (txB p l t (rZ l) fl) (Eng.aI (n + 1) (dC vr)) :: sgT p l vr fl key (n + 1) ts
theorem aGu (p : Pr) (l : List Bk) (vr fl : Int) (key : List UInt8) : ∀ (ts : List Int) (n : Nat) (t : Int), sgT p l vr fl key n (ts ++ [t]) = sgT p l vr fl key n ts ++ [enS vr key (txB p l t (rZ l) fl) (Eng.aI (n + ts.length + 1) (dC vr))]
 | [], n, t => rfl
 | x :: ts, n, t => by
  rw [List.cons_append, sgT, aGu p l vr fl key ts (n + 1) t, sgT, List.cons_append, List.length_cons, show n + 1 + ts.length + 1 = n + (ts.length + 1) + 1 by omega]
theorem aFz (p : Pr) (l : List Bk) (vr fl : Int) (key : List UInt8) : ∀ (ts : List Int) (n : Nat), (sgT p l vr fl key n ts).length = ts.length
 | [], _ => rfl
 | _ :: ts, n => by rw [sgT, List.length_cons, aFz p l vr fl key ts, List.length_cons]
def oX (l : List Bk) (e : Ei) (vr fl : Int) (ts : List Int) (n : Nat) : As := aOq e vr fl ts (aFy n (dC vr) ts.length)
def aOv (l : List Bk) (e : Ei) (vr fl : Int) (ts : List Int) (n : Nat) : Bk := ⟨11, ((dX l : Nat) : Int), 0, 0, (oX l e vr fl ts n).outB⟩
def dR (l : List Bk) (e : Ei) (vr fl : Int) (ts : List Int) (n : Nat) : List Bk := gN l (aOv l e vr fl ts n)
noncomputable def rT (p : Pr) (l : List Bk) (e : Ei) (vr fl : Int) (key : List UInt8) (ts : List Int) (n : Nat) : Bool := aDw p l 1 ts == 0 && aX e && ts.all (mX p l (rZ l) vr fl key) && (oX l e vr fl ts n).outZ == 0
def aGh (ib : Nat) (L : List En) (p : Pr) (l : List Bk) (e : Ei) (vr fl : Int) (key : List UInt8) (ts : List Int) (v : Value) (V : View) (σ' : aF) : Prop := ∃ L', Tb ib L' σ' ∧
 if rT p l e vr fl key ts L.length then L' = L ++ sgT p l vr fl key L.length ts ∧ iX (iD p (dR l e vr fl ts L.length)) (tO p (dR l e vr fl ts L.length)) (aZ p (dR l e vr fl ts L.length)) v V
 else ∃ z : Int, z ≠ 0 ∧ v = .tuple #[bnV Pr.zero none 0 0, .int .i64 z]
theorem pC {W0 : Cx} {V : View} {W : World} (A T F : aF) (h : Mem W0 V ((A ++ T) ++ F) W) : Mem W0 V (T ++ F) W := (h.eqv (List.append_assoc A T F)).sub (List.sublist_append_right _ _)
theorem aJu {W0 : Cx} {V : View} {W : World} (A T F R : aF) (h : Mem W0 V (((A ++ T) ++ F) ++ R) W) : Mem W0 V (T ++ F) W := pC A T F (h.sub (List.sublist_append_left _ _))
theorem sE {σ : aF} (A B : aF) (x : Nat × Obj) (T F G : aF) (h : σ = (((A ++ (x :: B)) ++ T) ++ F) ++ G) : σ.Perm (([x] ++ T) ++ (((A ++ B) ++ F) ++ G)) := by
 subst h
 have h1 : (A ++ (x :: B)).Perm ([x] ++ (A ++ B)) := List.perm_middle
 refine (((h1.append_right T).append_right F).append_right G).trans ?_
 rw [show ((([x] ++ (A ++ B)) ++ T) ++ F) ++ G = [x] ++ (((A ++ B) ++ T) ++ (F ++ G)) by simp only [List.append_assoc], show ([x] ++ T) ++ (((A ++ B) ++ F) ++ G) = [x] ++ (T ++ ((A ++ B) ++ (F ++ G))) by simp only [List.append_assoc], show T ++ ((A ++ B) ++ (F ++ G)) = (T ++ (A ++ B)) ++ (F ++ G) by simp only [List.append_assoc]]
 exact List.Perm.append_left [x] (List.Perm.append_right _ List.perm_append_comm)
def rR (e : Ei) (vr fl : Nat) (ts : List Int) (v : Value) (V : View) : Prop := ∃ g c h, v = .agg #[(.slice (some ⟨g, 0, none⟩) ts.length c), (.int .i64 1), (.int .i64 e.s), (.string (B e.l)), (.int .u64 (e.n : Int)), (.int .u64 (e.v : Int)), (.slice (some ⟨h, 0, none⟩) 2 2), (.slice none 0 0)] ∧ oD V (some ⟨g, 0, none⟩) ts ∧ ts.length ≤ c ∧ iM PaR 6 V (some ⟨h, 0, none⟩) [⟨1, Itm.cN vr⟩, ⟨2, Itm.cN fl⟩]
theorem rR.mono {e : Ei} {vr fl : Nat} {ts : List Int} {v : Value} {V V' : View} (hl : View.le V V') (h : rR e vr fl ts v V) : rR e vr fl ts v V' := by
 obtain ⟨g, c, h, e, hi, hc, hp⟩ := h
 exact ⟨g, c, h, e, hi.le hl, hc, hp.le hl⟩
theorem aKf {p : Pr} {l : List Bk} {vr fl : Int} {key : List UInt8} {L : List En} {ts : List Int} {i : Nat} {y : Int} (hy : ts[i]? = some y) : (L ++ sgT p l vr fl key L.length (ts.take i)) ++ [enS vr key (txB p l y (rZ l) fl) (Eng.aI (L.length + i + 1) (dC vr))] = L ++ sgT p l vr fl key L.length (ts.take (i + 1)) := by
 have hi := (List.getElem?_eq_some_iff.1 hy).1
 rw [List.take_add_one, hy, Option.toList_some, aGu, List.length_take, Nat.min_eq_left (Nat.le_of_lt hi), List.append_assoc]
theorem aKu {ts : List Int} {f : Int → Bool} {i : Nat} {y : Int} (hy : ts[i]? = some y) (h : (ts.take i).all f = true) (hf : f y = true) : (ts.take (i + 1)).all f = true := by
 rw [List.take_add_one, hy, Option.toList_some, List.all_append, h, List.all_cons, hf]
 rfl
section
variable {p : Pr} {l : List Bk} {e : Ei} {vr fl : Int} {key : List UInt8} {ts : List Int} {n : Nat}
theorem aKb (h : (aDw p l 1 ts != 0) = true) : rT p l e vr fl key ts n = false := by
 have h0 : (aDw p l 1 ts == 0) = false := by simpa using h
 unfold rT
 rw [h0]
 rfl
theorem aLX (h : aX e = false) : rT p l e vr fl key ts n = false := by
 unfold rT
 rw [h]
 cases (aDw p l 1 ts == 0) <;> rfl
theorem aJQ {i : Nat} {y : Int} (hy : ts[i]? = some y) (h : mX p l (rZ l) vr fl key y = false) : rT p l e vr fl key ts n = false := by
 have h0 : ts.all (mX p l (rZ l) vr fl key) = false := by
  cases ha : ts.all (mX p l (rZ l) vr fl key) with
  | false => rfl
  | true => rw [List.all_eq_true.1 ha y (List.mem_of_getElem? hy)] at h; cases h
 unfold rT
 rw [h0]
 cases (aDw p l 1 ts == 0) <;> cases aX e <;> rfl
theorem aKa (h : ((oX l e vr fl ts n).outZ != 0) = true) : rT p l e vr fl key ts n = false := by
 have h0 : ((oX l e vr fl ts n).outZ == 0) = false := by simpa using h
 unfold rT
 rw [h0, Bool.and_false]
theorem aJK (h1 : (aDw p l 1 ts != 0) = false) (h2 : aX e = true) (h3 : ts.all (mX p l (rZ l) vr fl key) = true) (h4 : ((oX l e vr fl ts n).outZ != 0) = false) : rT p l e vr fl key ts n = true := by
 have e1 : (aDw p l 1 ts == 0) = true := by simpa using h1
 have e4 : ((oX l e vr fl ts n).outZ == 0) = true := by simpa using h4
 unfold rT
 rw [e1, h2, h3, e4]
 rfl
end
theorem aMa (a : As) : a.outB.length ≤ R47 := by
 unfold As.outB
 split
 ·
  next h =>
  unfold As.right at h
  rw [Bool.and_eq_true] at h
  have := of_decide_eq_true h.2
  unfold R47
  omega
 · unfold R47; simp
theorem aKx {p : Pr} {l : List Bk} (h : aZ p l = 0) : l ≠ [] := by
 rintro rfl
 unfold aZ aAB at h
 split at h
 · next h1 => rw [show ([], eO p []).2 = eO p [] from rfl] at h; rw [h] at h1; cases h1
 ·
  split at h
  · next h1 => rw [show ([], gW p []).2 = gW p [] from rfl] at h; rw [h] at h1; cases h1
  · next h1 => unfold gW at h1; revert h1; simp; intro h2; exact absurd h2 (by decide)
structure Sg where
 i : Nat
 r : Rw
 xs : List Value
 R : List (List Pa × List Value)
 T : aF
 V : View
theorem aBa (eA : Addr) (p : Pr) (l : List Bk) (a : Option Addr) (c : Nat) (e : Ei) (vr fl : Int) (key : List UInt8) (ts : List Int) (aS : Option Addr) (cS : Nat) (eb ib : Nat) (L : List En) {W0 : Cx} {U : View} {σT σF : aF} {W : World} (hE : EF U eA) (hp : p.ok) (hl : cX U a l) (he : e.ok) (hS : oD U aS ts) (hcS : ts.length ≤ cS) (hg : aBV U eb ib) (hT : Tb ib L σT) (hL : L.length + ts.length ≤ 100) (hM : Mem W0 U (σT ++ σF) W) :
    CP 19 #[.pointer (some ⟨eb, 0, none⟩), bnV p a l.length c, e.V, .int .i64 vr, .int .i64 fl, .string (B key), .slice aS ts.length cS] W (fN W0 U σF (aGh ib L p l e vr fl key ts)) := by
 have hM1 : Mem W0 U (([] ++ σT) ++ σF) W := hM
 have n1 := aJJ vr
 have hs64 := aAG vr
 have hfl : ∀ n,(Eng.aI n (dC vr)).length ≤ R47 := fun n => by rw [Eng.iL]; unfold R47; omega
 have n2 := aJJ fl
 refine eC 106 Tryz.func19 hM1 ?_
 refine zs (zr (dN 0 (fun b0 => ?_)))
 refine dN 1 (fun b1 => ?_)
 refine dN 2 (fun b2 => ?_)
 refine zq 1 (zn (zs (zB [1,0] [(b0,20)] (dA 36 #[(bnV p a l.length c),(I6 1),(.slice aS ts.length cS)] (I6 (aDw p l 1 ts)) (fun W hM => aK9 eA p l _ _ 1 ts _ _ W hM.view hE hp hl hS hcS oW) ?_))))
 refine zq 1 (zn (zQ 2 (zn (cD ((aDw p l 1 ts) != 0) (fun h0 => ?_) (fun h0 => ?_)))))
 ·
  have h0d := bne_iff_ne.1 h0
  refine zQ 2 (aY 2 b2 (zq 1 (zn (aA (dU [3,0] [(b2,20)] [(.agg Z20.toArray),(I6 (aDw p l 1 ts))] (fun W' hM => ?_))))))
  exact ⟨_,_,_,rfl,(View.le_refl _),pC [(bK b0 (eB p a l.length c) 29),(bK b1 [(I6 e.s),(St e.l),(N6 e.n),(N6 e.v)] 24),(b2,.cells Z20.toArray 29 (0,0))] σT σF (hM.eqv kR),L,hT,by rw [if_neg (by rw [aKb h0]; exact Bool.false_ne_true)]; exact ⟨_,by simpa using h0,rfl⟩⟩
 ·
  have h0d := bne_eq_false_iff_eq.1 h0
  have hr9 := mU h0
  have hne9 := aKx hr9
  have hsm9 := (eI hr9).1
  have hdl : ∀ x ∈ l,x.d.length ≤ 100000 := fun x hx => by have := (eI hr9).2 x hx; omega
  have hsS : (rZ l).ok := ⟨(show (0 : Nat) < W64 by decide),(show (0 : Nat) ≤ R47 by decide)⟩
  have hxd9 : (aOv l e vr fl ts L.length).ok := ⟨(show (0 : Nat) < W64 by decide),aMa _⟩
  refine zk (zs (zB [2] [(b1,4)] (dL (fun W hM => iW e W he.l) (zq 1 (zn (cD (!(aX e)) (fun h1 => ?_) (fun h1 => ?_)))))))
  ·
   refine zQ 1 (aY 2 b2 (zq 1 (zn (aA (dU [3,0] [(b2,20)] [(.agg Z20.toArray),(I6 1)] (fun W' hM => ?_))))))
   exact ⟨_,_,_,rfl,(View.le_refl _),pC [(bK b0 (eB p a l.length c) 29),(bK b1 [(I6 e.s),(St e.l),(N6 e.n),(N6 e.v)] 24),(b2,.cells Z20.toArray 29 (0,0))] σT σF (hM.eqv kR),L,hT,by rw [if_neg (by rw [aLX (by simpa using h1)]; exact Bool.false_ne_true)]; exact ⟨1,by decide,rfl⟩⟩
  ·
   refine zk (zs ?_)
   refine gU 3 [0,3,3,1,0,0,0,0] [(b0,20),(b0,20)] [.val (L6 (dX l))] ⟨?_,trivial⟩ ?_
   · exact vC 38 #[(bnV p a l.length c)] (fun W hM => aEw p l _ _ W hM.view hl)
   refine zq 1 (dN 3 (fun b3 => ?_))
   refine zq 1 (zn (zs ?_))
   refine aHw 0 13 [0,1,4,0,1,1,0,0,1,1,0,1,1,1] [(b1,4)] [.mem (rB ts),.val (N6 (uN vr)),.val (iV (uN vr)),.val (N6 (uN fl)),.val (iV (uN fl)),.mem (fun v V => ∃ g,v = (Sl g 0 2 2) ∧ iM PaR 6 V (some ⟨g,0,none⟩) [(Pa.mk 1 (Itm.cN (uN vr))),(Pa.mk 2 (Itm.cN (uN fl)))]),.mem (rR e (uN vr) (uN fl) ts),.mem (fun _ _ => True)] [] ([(bK b0 (eB p a l.length c) 29),(bK b1 [(I6 e.s),(St e.l),(N6 e.n),(N6 e.v)] 24),(b2,.cells Z20.toArray 29 (0,0)),(b3,.cells [(Pt eb 0),(N6 p.f),(I6 p.c),(I6 p.dst.s),(St p.dst.l),(N6 p.dst.n),(N6 p.dst.v),(I6 p.src.s),(St p.src.l),(N6 p.src.n),(N6 p.src.v),(I6 p.rpt.s),(St p.rpt.l),(N6 p.rpt.n),(N6 p.rpt.v),(N6 p.time),(N6 p.seq),(N6 p.life),(N6 p.off),(N6 p.tot),(.slice a l.length c),(I6 11),(L6 (dX l)),(U6 0),(I6 0),(St []),(I6 vr),(I6 fl),(St key)].toArray 85 (0,0))] ++ σT ++ σF) (aAv (fun r => (Pt r 0)) (.cells [S0,(I6 0),(I6 0),(St []),(U6 0),(U6 0),S0,S0].toArray 96 (0,0))) aMq rfl (by intro v V s2 h; trivial) (by intro v V V2 s2 hV h; exact h) (by simp only [List.forall_mem_cons]; exact ⟨by intro v V V2 hV2 hP; (first | trivial | exact iX.mono hV2 hP | exact aAQ.mono hV2 hP | exact rB.mono hV2 hP | exact rR.mono hV2 hP | (obtain ⟨g,e,hP⟩ := hP; exact ⟨g,e,hP.le hV2⟩) | (obtain ⟨g,e,hP⟩ := hP; exact ⟨g,e,View.range_le hV2 hP⟩)),trivial,trivial,trivial,trivial,by intro v V V2 hV2 hP; (first | trivial | exact iX.mono hV2 hP | exact aAQ.mono hV2 hP | exact rB.mono hV2 hP | exact rR.mono hV2 hP | (obtain ⟨g,e,hP⟩ := hP; exact ⟨g,e,hP.le hV2⟩) | (obtain ⟨g,e,hP⟩ := hP; exact ⟨g,e,View.range_le hV2 hP⟩)),by intro v V V2 hV2 hP; (first | trivial | exact iX.mono hV2 hP | exact aAQ.mono hV2 hP | exact rB.mono hV2 hP | exact rR.mono hV2 hP | (obtain ⟨g,e,hP⟩ := hP; exact ⟨g,e,hP.le hV2⟩) | (obtain ⟨g,e,hP⟩ := hP; exact ⟨g,e,View.range_le hV2 hP⟩)),by intro v V V2 hV2 hP; (first | trivial | exact iX.mono hV2 hP | exact aAQ.mono hV2 hP | exact rB.mono hV2 hP | exact rR.mono hV2 hP | (obtain ⟨g,e,hP⟩ := hP; exact ⟨g,e,hP.le hV2⟩) | (obtain ⟨g,e,hP⟩ := hP; exact ⟨g,e,View.range_le hV2 hP⟩)),fun _ h => by cases h⟩) ⟨?_,?_,?_,?_,?_,?_,?_,?_,trivial⟩ ?_
   ·
    refine nO fun σ' => wM 39 (fun u => #[(.slice aS ts.length cS)]) fun u V hV hdq W hW => ?_
    exact aHS hW (hS.le hV) (aNK h0) oW
   · exact nO fun σ' => wE (U6 (IntKind.u64.wrap vr)) (congrArg (Value.int .u64) (aKV vr))
   ·
    refine nO fun σ' => wV 40 (fun u => #[(N6 (uN vr))]) fun u V hV hdq W hW => ?_
    exact dM _ W
   · exact nO fun σ' => wE (U6 (IntKind.u64.wrap fl)) (congrArg (Value.int .u64) (aKV fl))
   ·
    refine nO fun σ' => wV 40 (fun u => #[(N6 (uN fl))]) fun u V hV hdq W hW => ?_
    exact dM _ W
   ·
    refine nO fun σ' => wN [52,56] (fun u => [(.agg #[(I6 1),(I6 0),(N6 (uN vr)),(St []),S0,(.bool false)]),(.agg #[(I6 2),(I6 0),(N6 (uN fl)),(St []),S0,(.bool false)])]) fun u V hV hdq => ?_
    refine ⟨[(I6 1),(I6 0),(N6 (uN vr)),(St []),S0,(.bool false),(I6 2),(I6 0),(N6 (uN fl)),(St []),S0,(.bool false)],92,fun r => (Sl r 0 2 2),?_,fun g V' hV' hR => ?_⟩
    · kernel_rfl
    exact ⟨g,rfl,iM.lit [((Pa.mk 1 (Itm.cN (uN vr))),[(I6 1),(I6 0),(N6 (uN vr)),(St []),S0,(.bool false)]),((Pa.mk 2 (Itm.cN (uN fl))),[(I6 2),(I6 0),(N6 (uN fl)),(St []),S0,(.bool false)])] hR ⟨⟨_,rfl,((TV.num _ (uN vr) (by first | assumption | decide | (unfold W64; omega))).le hV).le hV'⟩,⟨_,rfl,((TV.num _ (uN fl) (by first | assumption | decide | (unfold W64; omega))).le hV).le hV'⟩,trivial⟩ (show 2 ≤ R47 by decide)⟩
   ·
    refine nO fun σ' => wP [47,48,57] (fun u => [u 1,(.agg #[(I6 e.s),(St e.l),(N6 e.n),(N6 e.v)]),u 11]) fun u V hV hdq => ?_
    have e1 := hdq 1 kR rfl
    obtain ⟨g1,c1,q1,hi1,hc1⟩ := e1
    have e11 := hdq 11 kR rfl
    obtain ⟨g11,q11,t11⟩ := e11
    rw [q1,q11]
    exact ⟨(.agg #[(Sl g1 0 ts.length c1),(I6 1),(I6 e.s),(St e.l),(N6 e.n),(N6 e.v),(Sl g11 0 2 2),S0]),by kernel_rfl,⟨_,_,_,rfl,hi1,hc1,t11⟩⟩
   · exact nA
   intro u4 V4 s4 hV4 hdq4 hP4
   have k5 := hS.le hV4
   have k6 := hl.le hV4
   obtain ⟨z4,hz4⟩ : ∃ z,u4 13 = z := ⟨_,rfl⟩
   rw [hz4] at hP4
   obtain ⟨b4,rfl,rfl⟩ := hP4
   refine aLH 18 hz4 ?_
   have e12_4 := hdq4 12 rfl
   obtain ⟨g12_4,c12_4,k12_4,q12_4,hi12_4,hc12_4,hp12_4⟩ := e12_4
   refine aLH 58 q12_4 ?_
   refine aY 0 b4 (zn (zs (zQ 3 (zn (aB (gX (α := Sg) (fun x => [8,14,15,17,18,59,60,61].zip [(Pt b0 0),(Pt b2 0),(I6 0),(Pt b3 0),(Pt b4 0),(.slice aS ts.length cS),(L6 ts.length),(L6 x.i)]) (fun x => x.V) (fun x => ([(bK b4 [(Sl g12_4 0 ts.length c12_4),(I6 1),(I6 e.s),(St e.l),(N6 e.n),(N6 e.v),(Sl k12_4 0 2 2),(x.r.V x.i)] 96),(bK b0 (eB p a l.length c) 29),(bK b1 [(I6 e.s),(St e.l),(N6 e.n),(N6 e.v)] 24),(b2,.cells Z20.toArray 29 (0,0)),(b3,.cells [(Pt eb 0),(N6 p.f),(I6 p.c),(I6 p.dst.s),(St p.dst.l),(N6 p.dst.n),(N6 p.dst.v),(I6 p.src.s),(St p.src.l),(N6 p.src.n),(N6 p.src.v),(I6 p.rpt.s),(St p.rpt.l),(N6 p.rpt.n),(N6 p.rpt.v),(N6 p.time),(N6 p.seq),(N6 p.life),(N6 p.off),(N6 p.tot),(.slice a l.length c),(I6 11),(L6 (dX l)),(U6 0),(I6 0),(St []),(I6 vr),(I6 fl),(St key)].toArray 85 (0,0))] ++ x.T ++ σF ++ x.r.B 93 x.xs)) (fun x => x.i ≤ ts.length ∧ View.le V4 x.V ∧ RwR RlR 1 x.V x.r x.xs x.i x.R ∧ x.R.map Prod.fst = aFy L.length (dC vr) x.i ∧ Tb ib (L ++ sgT p l vr fl key L.length (ts.take x.i)) x.T ∧ (ts.take x.i).all (mX p l (rZ l) vr fl key) = true) (fun x => ts.length - x.i) ⟨0,Rw.nil,[],[],σT,V4⟩ ?_ ?_ (hm := fun _ h => (h.eqv (show _ = (([(bK b4 [(Sl g12_4 0 ts.length c12_4),(I6 1),(I6 e.s),(St e.l),(N6 e.n),(N6 e.v),(Sl k12_4 0 2 2),S0] 96),(bK b0 (eB p a l.length c) 29),(bK b1 [(I6 e.s),(St e.l),(N6 e.n),(N6 e.v)] 24),(b2,.cells Z20.toArray 29 (0,0)),(b3,.cells [(Pt eb 0),(N6 p.f),(I6 p.c),(I6 p.dst.s),(St p.dst.l),(N6 p.dst.n),(N6 p.dst.v),(I6 p.src.s),(St p.src.l),(N6 p.src.n),(N6 p.src.v),(I6 p.rpt.s),(St p.rpt.l),(N6 p.rpt.n),(N6 p.rpt.v),(N6 p.time),(N6 p.seq),(N6 p.life),(N6 p.off),(N6 p.tot),(.slice a l.length c),(I6 11),(L6 (dX l)),(U6 0),(I6 0),(St []),(I6 vr),(I6 fl),(St key)].toArray 85 (0,0))] ++ σT ++ σF) : aF) from by kernel_rfl)).eqv (List.append_nil _).symm)))))))
   · exact ⟨Nat.zero_le _,View.le_refl _,RwR.nil,rfl,by rw [List.take_zero,sgT,List.append_nil]; exact hT,rfl⟩
   intro x hx
   obtain ⟨hxi,hxl,hxr,hxR,hxT,hxA⟩ := hx
   have hln : (L ++ sgT p l vr fl key L.length (ts.take x.i)).length = L.length + x.i := by rw [List.length_append,aFz,List.length_take]; omega
   have hfx := hfl (L.length + x.i + 1)
   refine zQ 1 (zn (zs (cD (decide ((x.i : Int) < (ts.length : Int))) (fun h2 => ?_) (fun h2 => ?_))))
   ·
    have h2d := of_decide_eq_true h2
    refine zk (zs (aB (zs (zr ?_))))
    obtain ⟨y9,hy9⟩ : ∃ y,(ts)[x.i]? = some y := ⟨(ts)[x.i]'oW,List.getElem?_eq_getElem _⟩
    obtain ⟨b9,f9,rfl,hU9⟩ := (k5.le hxl).one hy9
    refine cH (Pt b9 (f9 + x.i)) (fW _ 3 _ _ rfl b9 f9 ts.length cS x.i .i64 kR kR (by first | assumption | omega) kR kR) ?_
    refine zV b9 (f9 + x.i) (I6 y9) hU9 3 (.tmp 63) _ Tryz.underlying3 rfl ?_
    refine zq 1 (zn (zQ 2 ?_))
    rcases Bool.eq_false_or_eq_true (mX p l (rZ l) vr fl key y9) with h3 | h3
    ·
     refine aON 41 #[(Pt b3 0),(I6 y9)] ([(b3,.cells [(Pt eb 0),(N6 p.f),(I6 p.c),(I6 p.dst.s),(St p.dst.l),(N6 p.dst.n),(N6 p.dst.v),(I6 p.src.s),(St p.src.l),(N6 p.src.n),(N6 p.src.v),(I6 p.rpt.s),(St p.rpt.l),(N6 p.rpt.n),(N6 p.rpt.v),(N6 p.time),(N6 p.seq),(N6 p.life),(N6 p.off),(N6 p.tot),(.slice a l.length c),(I6 11),(L6 (dX l)),(U6 0),(I6 0),(St []),(I6 vr),(I6 fl),(St key)].toArray 85 (0,0))] ++ x.T) ((([(bK b4 [(Sl g12_4 0 ts.length c12_4),(I6 1),(I6 e.s),(St e.l),(N6 e.n),(N6 e.v),(Sl k12_4 0 2 2),(x.r.V x.i)] 96),(bK b0 (eB p a l.length c) 29),(bK b1 [(I6 e.s),(St e.l),(N6 e.n),(N6 e.v)] 24),(b2,.cells Z20.toArray 29 (0,0))] ++ []) ++ σF) ++ x.r.B 93 x.xs) (aD8 b3 (sgC eb p a l.length c (rZ l) vr fl key) ib (L ++ sgT p l vr fl key L.length (ts.take x.i)) p l (rZ l) vr fl key y9) (sE [(bK b4 [(Sl g12_4 0 ts.length c12_4),(I6 1),(I6 e.s),(St e.l),(N6 e.n),(N6 e.v),(Sl k12_4 0 2 2),(x.r.V x.i)] 96),(bK b0 (eB p a l.length c) 29),(bK b1 [(I6 e.s),(St e.l),(N6 e.n),(N6 e.v)] 24),(b2,.cells Z20.toArray 29 (0,0))] [] (b3,.cells [(Pt eb 0),(N6 p.f),(I6 p.c),(I6 p.dst.s),(St p.dst.l),(N6 p.dst.n),(N6 p.dst.v),(I6 p.src.s),(St p.src.l),(N6 p.src.n),(N6 p.src.v),(I6 p.rpt.s),(St p.rpt.l),(N6 p.rpt.n),(N6 p.rpt.v),(N6 p.time),(N6 p.seq),(N6 p.life),(N6 p.off),(N6 p.tot),(.slice a l.length c),(I6 11),(L6 (dX l)),(U6 0),(I6 0),(St []),(I6 vr),(I6 fl),(St key)].toArray 85 (0,0)) x.T σF (x.r.B 93 x.xs) kR) (fun W hM => aGG p l _ _ (rZ l) vr fl key y9 b3 eb ib _ hp (k6.le hxl) hsS hdl (hg.le (View.le_trans hV4 hxl)) hxT (by rw [hln]; omega) hM) (fun v10 V10 s10 hV10 hP10 => ?_)
     have k17 := hxr.le hV10
     unfold aD8 tgE at hP10
     rw [hln] at hP10
     rw [if_pos h3] at hP10
     obtain ⟨rfl,T10,hT10,rfl⟩ := hP10
     rw [aKf hy9] at hT10
     refine lV _ ([(bK b4 [(Sl g12_4 0 ts.length c12_4),(I6 1),(I6 e.s),(St e.l),(N6 e.n),(N6 e.v),(Sl k12_4 0 2 2),(x.r.V x.i)] 96),(bK b0 (eB p a l.length c) 29),(bK b1 [(I6 e.s),(St e.l),(N6 e.n),(N6 e.v)] 24),(b2,.cells Z20.toArray 29 (0,0)),(b3,.cells [(Pt eb 0),(N6 p.f),(I6 p.c),(I6 p.dst.s),(St p.dst.l),(N6 p.dst.n),(N6 p.dst.v),(I6 p.src.s),(St p.src.l),(N6 p.src.n),(N6 p.src.v),(I6 p.rpt.s),(St p.rpt.l),(N6 p.rpt.n),(N6 p.rpt.v),(N6 p.time),(N6 p.seq),(N6 p.life),(N6 p.off),(N6 p.tot),(.slice a l.length c),(I6 11),(L6 (dX l)),(U6 0),(I6 0),(St []),(I6 vr),(I6 fl),(St key)].toArray 85 (0,0))] ++ T10 ++ σF ++ x.r.B 93 x.xs) (fun _ h => h.perm (sE [(bK b4 [(Sl g12_4 0 ts.length c12_4),(I6 1),(I6 e.s),(St e.l),(N6 e.n),(N6 e.v),(Sl k12_4 0 2 2),(x.r.V x.i)] 96),(bK b0 (eB p a l.length c) 29),(bK b1 [(I6 e.s),(St e.l),(N6 e.n),(N6 e.v)] 24),(b2,.cells Z20.toArray 29 (0,0))] [] (b3,.cells [(Pt eb 0),(N6 p.f),(I6 p.c),(I6 p.dst.s),(St p.dst.l),(N6 p.dst.n),(N6 p.dst.v),(I6 p.src.s),(St p.src.l),(N6 p.src.n),(N6 p.src.v),(I6 p.rpt.s),(St p.rpt.l),(N6 p.rpt.n),(N6 p.rpt.v),(N6 p.time),(N6 p.seq),(N6 p.life),(N6 p.off),(N6 p.tot),(.slice a l.length c),(I6 11),(L6 (dX l)),(U6 0),(I6 0),(St []),(I6 vr),(I6 fl),(St key)].toArray 85 (0,0)) T10 σF (x.r.B 93 x.xs) rfl).symm) ?_
     refine zq 5 (zn (zs (zQ 2 (zn (dE (zk ?_))))))
     refine aBM 2 [0,3,0,1,0,1,1] [(b4,1)] [.val (.agg #[(I6 2),(U6 0),(St (Eng.aI (L.length + x.i + 1) (dC vr))),S0,(.bool false)]),.mem (fun v V => ∃ g,v = (Sl g 0 1 1) ∧ iM PaR 6 V (some ⟨g,0,none⟩) [(Pa.mk 1 (dY (Eng.aI (L.length + x.i + 1) (dC vr))))]),.mem (fun v V => ∃ g,v = (Sl g 0 1 1) ∧ iM RlR 1 V (some ⟨g,0,none⟩) [[(Pa.mk 1 (dY (Eng.aI (L.length + x.i + 1) (dC vr))))]])] (by simp only [List.forall_mem_cons]; exact ⟨trivial,by intro v V V2 hV2 hP; (first | trivial | exact iX.mono hV2 hP | exact aAQ.mono hV2 hP | exact rB.mono hV2 hP | exact rR.mono hV2 hP | (obtain ⟨g,e,hP⟩ := hP; exact ⟨g,e,hP.le hV2⟩) | (obtain ⟨g,e,hP⟩ := hP; exact ⟨g,e,View.range_le hV2 hP⟩)),by intro v V V2 hV2 hP; (first | trivial | exact iX.mono hV2 hP | exact aAQ.mono hV2 hP | exact rB.mono hV2 hP | exact rR.mono hV2 hP | (obtain ⟨g,e,hP⟩ := hP; exact ⟨g,e,hP.le hV2⟩) | (obtain ⟨g,e,hP⟩ := hP; exact ⟨g,e,View.range_le hV2 hP⟩)),fun _ h => by cases h⟩) ⟨?_,?_,?_,trivial⟩ ?_
     ·
      refine wV 42 (fun u => #[(St (Eng.aI (L.length + x.i + 1) (dC vr)))]) fun u V hV hdq W hW => ?_
      exact jY (Eng.aI (L.length + x.i + 1) (dC vr)) W
     ·
      refine wN [79] (fun u => [(.agg #[(I6 1),(I6 2),(U6 0),(St (Eng.aI (L.length + x.i + 1) (dC vr))),S0,(.bool false)])]) fun u V hV hdq => ?_
      refine ⟨[(I6 1),(I6 2),(U6 0),(St (Eng.aI (L.length + x.i + 1) (dC vr))),S0,(.bool false)],92,fun r => (Sl r 0 1 1),?_,fun g V' hV' hR => ?_⟩
      · kernel_rfl
      exact ⟨g,rfl,iM.lit [((Pa.mk 1 (dY (Eng.aI (L.length + x.i + 1) (dC vr)))),[(I6 1),(I6 2),(U6 0),(St (Eng.aI (L.length + x.i + 1) (dC vr))),S0,(.bool false)])] hR ⟨⟨_,rfl,((TV.str _ (Eng.aI (L.length + x.i + 1) (dC vr)) (by first | assumption | decide | (unfold R47; omega))).le hV).le hV'⟩,trivial⟩ (show 1 ≤ R47 by decide)⟩
     ·
      refine wN [80] (fun u => [u 5]) fun u V hV hdq => ?_
      have e5 := hdq 5 kR rfl
      obtain ⟨g5,q5,t5⟩ := e5
      refine ⟨[(Sl g5 0 1 1)],93,fun r => (Sl r 0 1 1),?_,fun g V' hV' hR => ?_⟩
      · rw [q5]; kernel_rfl
      exact ⟨g,rfl,iM.lit [([(Pa.mk 1 (dY (Eng.aI (L.length + x.i + 1) (dC vr))))],[(Sl g5 0 1 1)])] hR ⟨⟨_,_,rfl,t5.le hV'⟩,trivial⟩ (show 1 ≤ R47 by decide)⟩
     intro u18 V18 hV18 hdq18
     have k26 := k17.le hV18
     have e5_18 := hdq18 5 rfl
     obtain ⟨g5_18,q5_18,t5_18⟩ := e5_18
     refine aLH 80 q5_18 ?_
     have e6_18 := hdq18 6 rfl
     obtain ⟨g6_18,q6_18,t6_18⟩ := e6_18
     refine aLH 81 q6_18 ?_
     obtain ⟨b27,f27,cs27,e27,hU27,hR27⟩ := t6_18.at_ 0 _ rfl
     cases e27
     refine fV x.r x.xs x.i ([(bK b4 [(Sl g12_4 0 ts.length c12_4),(I6 1),(I6 e.s),(St e.l),(N6 e.n),(N6 e.v),(Sl k12_4 0 2 2),(x.r.V x.i)] 96),(bK b0 (eB p a l.length c) 29),(bK b1 [(I6 e.s),(St e.l),(N6 e.n),(N6 e.v)] 24),(b2,.cells Z20.toArray 29 (0,0)),(b3,.cells [(Pt eb 0),(N6 p.f),(I6 p.c),(I6 p.dst.s),(St p.dst.l),(N6 p.dst.n),(N6 p.dst.v),(I6 p.src.s),(St p.src.l),(N6 p.src.n),(N6 p.src.v),(I6 p.rpt.s),(St p.rpt.l),(N6 p.rpt.n),(N6 p.rpt.v),(N6 p.time),(N6 p.seq),(N6 p.life),(N6 p.off),(N6 p.tot),(.slice a l.length c),(I6 11),(L6 (dX l)),(U6 0),(I6 0),(St []),(I6 vr),(I6 fl),(St key)].toArray 85 (0,0))] ++ T10 ++ σF) 93 94 1 24 1 kR hxr.ok (.tmp 76) (.tmp 81) rfl kR g6_18 (0 + 0 * 1) 1 cs27 kR (fun W hM => View.range_of hU27 hM.view) (RecOk.len hR27) (RecOk.one hR27) (by decide) (by unfold maxLen; omega) oW kR kR kR kR kR (fun r28 hr28 => ?_)
     refine zq 1 ?_
     refine aL3 0 b4 7 (x.i + 1) 1 r28 (x.xs ++ cs27) hr28 [(Sl g12_4 0 ts.length c12_4),(I6 1),(I6 e.s),(St e.l),(N6 e.n),(N6 e.v),(Sl k12_4 0 2 2),(x.r.V x.i)] 96 94 _ _ rfl kR kR kR (fun a c => by kernel_rfl) kR rfl kR ?_
     refine zn (zr (zq 1 (eV 84 ((x.i : Int) + 1) (zq 1 (zn ?_)))))
     refine nx ⟨x.i + 1,r28,(x.xs ++ cs27),x.R ++ [([(Pa.mk 1 (dY (Eng.aI (L.length + x.i + 1) (dC vr))))],cs27)],T10,V18⟩ ?_ ?_
     · exact ⟨by show x.i + 1 ≤ _; omega,(View.le_trans (View.le_trans hxl hV10) hV18),RwR.snoc k26 hR27 hr28,by rw [List.map_append,hxR]; rfl,hT10,aKu hy9 hxA h3⟩
     · show ts.length - (x.i + 1) < ts.length - x.i; omega
    ·
     refine aON 41 #[(Pt b3 0),(I6 y9)] ([(b3,.cells [(Pt eb 0),(N6 p.f),(I6 p.c),(I6 p.dst.s),(St p.dst.l),(N6 p.dst.n),(N6 p.dst.v),(I6 p.src.s),(St p.src.l),(N6 p.src.n),(N6 p.src.v),(I6 p.rpt.s),(St p.rpt.l),(N6 p.rpt.n),(N6 p.rpt.v),(N6 p.time),(N6 p.seq),(N6 p.life),(N6 p.off),(N6 p.tot),(.slice a l.length c),(I6 11),(L6 (dX l)),(U6 0),(I6 0),(St []),(I6 vr),(I6 fl),(St key)].toArray 85 (0,0))] ++ x.T) ((([(bK b4 [(Sl g12_4 0 ts.length c12_4),(I6 1),(I6 e.s),(St e.l),(N6 e.n),(N6 e.v),(Sl k12_4 0 2 2),(x.r.V x.i)] 96),(bK b0 (eB p a l.length c) 29),(bK b1 [(I6 e.s),(St e.l),(N6 e.n),(N6 e.v)] 24),(b2,.cells Z20.toArray 29 (0,0))] ++ []) ++ σF) ++ x.r.B 93 x.xs) (aD8 b3 (sgC eb p a l.length c (rZ l) vr fl key) ib (L ++ sgT p l vr fl key L.length (ts.take x.i)) p l (rZ l) vr fl key y9) (sE [(bK b4 [(Sl g12_4 0 ts.length c12_4),(I6 1),(I6 e.s),(St e.l),(N6 e.n),(N6 e.v),(Sl k12_4 0 2 2),(x.r.V x.i)] 96),(bK b0 (eB p a l.length c) 29),(bK b1 [(I6 e.s),(St e.l),(N6 e.n),(N6 e.v)] 24),(b2,.cells Z20.toArray 29 (0,0))] [] (b3,.cells [(Pt eb 0),(N6 p.f),(I6 p.c),(I6 p.dst.s),(St p.dst.l),(N6 p.dst.n),(N6 p.dst.v),(I6 p.src.s),(St p.src.l),(N6 p.src.n),(N6 p.src.v),(I6 p.rpt.s),(St p.rpt.l),(N6 p.rpt.n),(N6 p.rpt.v),(N6 p.time),(N6 p.seq),(N6 p.life),(N6 p.off),(N6 p.tot),(.slice a l.length c),(I6 11),(L6 (dX l)),(U6 0),(I6 0),(St []),(I6 vr),(I6 fl),(St key)].toArray 85 (0,0)) x.T σF (x.r.B 93 x.xs) kR) (fun W hM => aGG p l _ _ (rZ l) vr fl key y9 b3 eb ib _ hp (k6.le hxl) hsS hdl (hg.le (View.le_trans hV4 hxl)) hxT (by rw [hln]; omega) hM) (fun v29 V29 s29 hV29 hP29 => ?_)
     unfold aD8 tgE at hP29
     rw [hln] at hP29
     rw [if_neg (by rw [h3]; exact Bool.false_ne_true)] at hP29
     obtain ⟨z29,rfl,hz29,T29,hT29,rfl⟩ := hP29
     refine lV _ ([(bK b4 [(Sl g12_4 0 ts.length c12_4),(I6 1),(I6 e.s),(St e.l),(N6 e.n),(N6 e.v),(Sl k12_4 0 2 2),(x.r.V x.i)] 96),(bK b0 (eB p a l.length c) 29),(bK b1 [(I6 e.s),(St e.l),(N6 e.n),(N6 e.v)] 24),(b2,.cells Z20.toArray 29 (0,0)),(b3,.cells [(Pt eb 0),(N6 p.f),(I6 p.c),(I6 p.dst.s),(St p.dst.l),(N6 p.dst.n),(N6 p.dst.v),(I6 p.src.s),(St p.src.l),(N6 p.src.n),(N6 p.src.v),(I6 p.rpt.s),(St p.rpt.l),(N6 p.rpt.n),(N6 p.rpt.v),(N6 p.time),(N6 p.seq),(N6 p.life),(N6 p.off),(N6 p.tot),(.slice a l.length c),(I6 11),(L6 (dX l)),(U6 0),(I6 0),(St []),(I6 vr),(I6 fl),(St key)].toArray 85 (0,0))] ++ T29 ++ σF ++ x.r.B 93 x.xs) (fun _ h => h.perm (sE [(bK b4 [(Sl g12_4 0 ts.length c12_4),(I6 1),(I6 e.s),(St e.l),(N6 e.n),(N6 e.v),(Sl k12_4 0 2 2),(x.r.V x.i)] 96),(bK b0 (eB p a l.length c) 29),(bK b1 [(I6 e.s),(St e.l),(N6 e.n),(N6 e.v)] 24),(b2,.cells Z20.toArray 29 (0,0))] [] (b3,.cells [(Pt eb 0),(N6 p.f),(I6 p.c),(I6 p.dst.s),(St p.dst.l),(N6 p.dst.n),(N6 p.dst.v),(I6 p.src.s),(St p.src.l),(N6 p.src.n),(N6 p.src.v),(I6 p.rpt.s),(St p.rpt.l),(N6 p.rpt.n),(N6 p.rpt.v),(N6 p.time),(N6 p.seq),(N6 p.life),(N6 p.off),(N6 p.tot),(.slice a l.length c),(I6 11),(L6 (dX l)),(U6 0),(I6 0),(St []),(I6 vr),(I6 fl),(St key)].toArray 85 (0,0)) T29 σF (x.r.B 93 x.xs) rfl).symm) ?_
     refine zq 5 (zn (zs (zQ 2 (zn (gP (z29 != 0) (bne_iff_ne.2 hz29) ?_)))))
     refine zQ 2 (aY 3 b2 (zq 1 (zn (aA (dU [4,0] [(b2,20)] [(.agg Z20.toArray),(I6 z29)] (fun W' hM => ?_))))))
     exact ⟨_,_,_,rfl,(View.le_trans (View.le_trans hV4 hxl) hV29),aJu [(bK b4 [(Sl g12_4 0 ts.length c12_4),(I6 1),(I6 e.s),(St e.l),(N6 e.n),(N6 e.v),(Sl k12_4 0 2 2),(x.r.V x.i)] 96),(bK b0 (eB p a l.length c) 29),(bK b1 [(I6 e.s),(St e.l),(N6 e.n),(N6 e.v)] 24),(b2,.cells Z20.toArray 29 (0,0)),(b3,.cells [(Pt eb 0),(N6 p.f),(I6 p.c),(I6 p.dst.s),(St p.dst.l),(N6 p.dst.n),(N6 p.dst.v),(I6 p.src.s),(St p.src.l),(N6 p.src.n),(N6 p.src.v),(I6 p.rpt.s),(St p.rpt.l),(N6 p.rpt.n),(N6 p.rpt.v),(N6 p.time),(N6 p.seq),(N6 p.life),(N6 p.off),(N6 p.tot),(.slice a l.length c),(I6 11),(L6 (dX l)),(U6 0),(I6 0),(St []),(I6 vr),(I6 fl),(St key)].toArray 85 (0,0))] T29 σF (x.r.B 93 x.xs) (hM.eqv kR),_,hT29,by rw [if_neg (by rw [aJQ hy9 h3]; exact Bool.false_ne_true)]; exact ⟨z29,hz29,rfl⟩⟩
   ·
    have h2d := of_decide_eq_false h2
    refine aU (zs (zr ?_))
    refine pL x.r x.xs 1 x.i ([(bK b4 [(Sl g12_4 0 ts.length c12_4),(I6 1),(I6 e.s),(St e.l),(N6 e.n),(N6 e.v),(Sl k12_4 0 2 2),(x.r.V x.i)] 96),(bK b0 (eB p a l.length c) 29),(bK b1 [(I6 e.s),(St e.l),(N6 e.n),(N6 e.v)] 24),(b2,.cells Z20.toArray 29 (0,0)),(b3,.cells [(Pt eb 0),(N6 p.f),(I6 p.c),(I6 p.dst.s),(St p.dst.l),(N6 p.dst.n),(N6 p.dst.v),(I6 p.src.s),(St p.src.l),(N6 p.src.n),(N6 p.src.v),(I6 p.rpt.s),(St p.rpt.l),(N6 p.rpt.n),(N6 p.rpt.v),(N6 p.time),(N6 p.seq),(N6 p.life),(N6 p.off),(N6 p.tot),(.slice a l.length c),(I6 11),(L6 (dX l)),(U6 0),(I6 0),(St []),(I6 vr),(I6 fl),(St key)].toArray 85 (0,0))] ++ x.T ++ σF) 93 kR hxr.ok (fun a37 c37 V37 hV37 hR37 hE37 => ?_)
    rw [hE37]
    have k39 := (hi12_4.le hxl).le hV37
    have k40 := (hp12_4.le hxl).le hV37
    have k41 := (k6.le hxl).le hV37
    have k44 := hxr.le hV37
    have hi9 : x.i = ts.length := by omega
    have hR9 := k44.done (by decide) hR37 (View.le_refl _) (by unfold R47; omega)
    rw [hxR,hi9] at hR9
    have hA9 : ts.all (mX p l (rZ l) vr fl key) = true := by have := hxA; rwa [hi9,List.take_length] at this
    have hT9 : Tb ib (L ++ sgT p l vr fl key L.length ts) x.T := by have := hxT; rwa [hi9,List.take_length] at this
    have hAs9 : aEH V37 (some ⟨g12_4,0,none⟩) (some ⟨k12_4,0,none⟩) a37 (oX l e vr fl ts L.length) := ⟨k39,k40,hR9,he⟩
    refine cU [1] [(b4,8)] ?_
    refine aH9 43 #[(.agg #[(Sl g12_4 0 ts.length c12_4),(I6 1),(I6 e.s),(St e.l),(N6 e.n),(N6 e.v),(Sl k12_4 0 2 2),(.slice a37 x.i c37)])] (.tuple #[(St (oX l e vr fl ts L.length).outB),(I6 (oX l e vr fl ts L.length).outZ)]) kR (fun W hM => by
     have hz9 : x.i = (oX l e vr fl ts L.length).r.length := hi9.trans (gT _ _ _).symm
     rw [hz9]
     exact aHJ (oX l e vr fl ts L.length) _ _ _ _ _ _ W hM.view hAs9 hc12_4) kR kR ?_
    refine zq 5 (zn (zs (zQ 2 (zn (cD ((oX l e vr fl ts L.length).outZ != 0) (fun h4 => ?_) (fun h4 => ?_))))))
    ·
     refine zQ 1 (aY 3 b2 (zq 1 (zn (aA (dU [4,0] [(b2,20)] [(.agg Z20.toArray),(I6 4)] (fun W' hM => ?_))))))
     exact ⟨_,_,_,rfl,(View.le_trans (View.le_trans hV4 hxl) hV37),pC [(bK b4 [(Sl g12_4 0 ts.length c12_4),(I6 1),(I6 e.s),(St e.l),(N6 e.n),(N6 e.v),(Sl k12_4 0 2 2),(.slice a37 x.i c37)] 96),(bK b0 (eB p a l.length c) 29),(bK b1 [(I6 e.s),(St e.l),(N6 e.n),(N6 e.v)] 24),(b2,.cells Z20.toArray 29 (0,0)),(b3,.cells [(Pt eb 0),(N6 p.f),(I6 p.c),(I6 p.dst.s),(St p.dst.l),(N6 p.dst.n),(N6 p.dst.v),(I6 p.src.s),(St p.src.l),(N6 p.src.n),(N6 p.src.v),(I6 p.rpt.s),(St p.rpt.l),(N6 p.rpt.n),(N6 p.rpt.v),(N6 p.time),(N6 p.seq),(N6 p.life),(N6 p.off),(N6 p.tot),(.slice a l.length c),(I6 11),(L6 (dX l)),(U6 0),(I6 0),(St []),(I6 vr),(I6 fl),(St key)].toArray 85 (0,0))] x.T σF (hM.eqv kR),_,hT9,by rw [if_neg (by rw [aKa h4]; exact Bool.false_ne_true)]; exact ⟨4,by decide,rfl⟩⟩
    ·
     have h4d := bne_eq_false_iff_eq.1 h4
     refine zk (zQ 5 (aY 4 b3 (zn (zs ?_))))
     refine aBM 0 [4,0,0,0,7,1,1,1] [(b0,20),(b3,5)] [.mem (iX (iD p (dR l e vr fl ts L.length)) (tO p (dR l e vr fl ts L.length)) (aZ p (dR l e vr fl ts L.length))),.mem (aAQ (iD p (dR l e vr fl ts L.length)) (tO p (dR l e vr fl ts L.length))),.val (I6 (aZ p (dR l e vr fl ts L.length)))] (by simp only [List.forall_mem_cons]; exact ⟨by intro v V V2 hV2 hP; (first | trivial | exact iX.mono hV2 hP | exact aAQ.mono hV2 hP | exact rB.mono hV2 hP | exact rR.mono hV2 hP | (obtain ⟨g,e,hP⟩ := hP; exact ⟨g,e,hP.le hV2⟩) | (obtain ⟨g,e,hP⟩ := hP; exact ⟨g,e,View.range_le hV2 hP⟩)),by intro v V V2 hV2 hP; (first | trivial | exact iX.mono hV2 hP | exact aAQ.mono hV2 hP | exact rB.mono hV2 hP | exact rR.mono hV2 hP | (obtain ⟨g,e,hP⟩ := hP; exact ⟨g,e,hP.le hV2⟩) | (obtain ⟨g,e,hP⟩ := hP; exact ⟨g,e,View.range_le hV2 hP⟩)),trivial,fun _ h => by cases h⟩) ⟨?_,?_,?_,trivial⟩ ?_
     ·
      refine wM 44 (fun u => #[(bnV p a l.length c),(.agg #[(I6 11),(L6 (dX l)),(U6 0),(I6 0),(St (oX l e vr fl ts L.length).outB)])]) fun u V hV hdq W hW => ?_
      exact aMH p l _ _ (aOv l e vr fl ts L.length) W hW hp (k41.le hV) hne9 oW hxd9
     ·
      refine wP [103] (fun u => [u 5]) fun u V hV hdq => ?_
      have e5 := hdq 5 kR rfl
      obtain ⟨a5,c5,q5,hb5⟩ := e5
      rw [q5]
      exact ⟨(bnV (iD p (dR l e vr fl ts L.length)) a5 (tO p (dR l e vr fl ts L.length)).length c5),by kernel_rfl,⟨_,_,rfl,hb5⟩⟩
     ·
      refine wK [103] (fun u => [u 5]) fun u V hV hdq => ?_
      have e5 := hdq 5 kR rfl
      obtain ⟨a5,c5,q5,hb5⟩ := e5
      rw [q5]
      show _ = _
      kernel_rfl
     intro u45 V45 hV45 hdq45
     have e6_45 := hdq45 6 rfl
     obtain ⟨a6_45,c6_45,q6_45,hb6_45⟩ := e6_45
     refine aLH 104 q6_45 ?_
     refine aY 3 b2 (zq 1 (zn (aA (dU [4,0] [(b2,20)] [(.agg #[(N6 (iD p (dR l e vr fl ts L.length)).f),(I6 (iD p (dR l e vr fl ts L.length)).c),(I6 (iD p (dR l e vr fl ts L.length)).dst.s),(St (iD p (dR l e vr fl ts L.length)).dst.l),(N6 (iD p (dR l e vr fl ts L.length)).dst.n),(N6 (iD p (dR l e vr fl ts L.length)).dst.v),(I6 (iD p (dR l e vr fl ts L.length)).src.s),(St (iD p (dR l e vr fl ts L.length)).src.l),(N6 (iD p (dR l e vr fl ts L.length)).src.n),(N6 (iD p (dR l e vr fl ts L.length)).src.v),(I6 (iD p (dR l e vr fl ts L.length)).rpt.s),(St (iD p (dR l e vr fl ts L.length)).rpt.l),(N6 (iD p (dR l e vr fl ts L.length)).rpt.n),(N6 (iD p (dR l e vr fl ts L.length)).rpt.v),(N6 (iD p (dR l e vr fl ts L.length)).time),(N6 (iD p (dR l e vr fl ts L.length)).seq),(N6 (iD p (dR l e vr fl ts L.length)).life),(N6 (iD p (dR l e vr fl ts L.length)).off),(N6 (iD p (dR l e vr fl ts L.length)).tot),(.slice a6_45 (tO p (dR l e vr fl ts L.length)).length c6_45)]),(I6 (aZ p (dR l e vr fl ts L.length)))] (fun W' hM => ?_)))))
     exact ⟨_,_,_,rfl,(View.le_trans (View.le_trans (View.le_trans hV4 hxl) hV37) hV45),pC [(bK b4 [(Sl g12_4 0 ts.length c12_4),(I6 1),(I6 e.s),(St e.l),(N6 e.n),(N6 e.v),(Sl k12_4 0 2 2),(.slice a37 x.i c37)] 96),(bK b0 (eB p a l.length c) 29),(bK b1 [(I6 e.s),(St e.l),(N6 e.n),(N6 e.v)] 24),(bK b2 [(N6 (iD p (dR l e vr fl ts L.length)).f),(I6 (iD p (dR l e vr fl ts L.length)).c),(I6 (iD p (dR l e vr fl ts L.length)).dst.s),(St (iD p (dR l e vr fl ts L.length)).dst.l),(N6 (iD p (dR l e vr fl ts L.length)).dst.n),(N6 (iD p (dR l e vr fl ts L.length)).dst.v),(I6 (iD p (dR l e vr fl ts L.length)).src.s),(St (iD p (dR l e vr fl ts L.length)).src.l),(N6 (iD p (dR l e vr fl ts L.length)).src.n),(N6 (iD p (dR l e vr fl ts L.length)).src.v),(I6 (iD p (dR l e vr fl ts L.length)).rpt.s),(St (iD p (dR l e vr fl ts L.length)).rpt.l),(N6 (iD p (dR l e vr fl ts L.length)).rpt.n),(N6 (iD p (dR l e vr fl ts L.length)).rpt.v),(N6 (iD p (dR l e vr fl ts L.length)).time),(N6 (iD p (dR l e vr fl ts L.length)).seq),(N6 (iD p (dR l e vr fl ts L.length)).life),(N6 (iD p (dR l e vr fl ts L.length)).off),(N6 (iD p (dR l e vr fl ts L.length)).tot),(.slice a6_45 (tO p (dR l e vr fl ts L.length)).length c6_45)] 29),(bK b3 [(Pt eb 0),(N6 p.f),(I6 p.c),(I6 p.dst.s),(St p.dst.l),(N6 p.dst.n),(N6 p.dst.v),(I6 p.src.s),(St p.src.l),(N6 p.src.n),(N6 p.src.v),(I6 p.rpt.s),(St p.rpt.l),(N6 p.rpt.n),(N6 p.rpt.v),(N6 p.time),(N6 p.seq),(N6 p.life),(N6 p.off),(N6 p.tot),(.slice a l.length c),(I6 11),(L6 (dX l)),(U6 0),(I6 0),(St (oX l e vr fl ts L.length).outB),(I6 vr),(I6 fl),(St key)] 85)] x.T σF (hM.eqv kR),_,hT9,by rw [if_pos (aJK h0 (by simpa using h1) hA9 h4)]; exact ⟨rfl,_,_,rfl,hb6_45⟩⟩
def aKG (t : Itm.Tr) : Prop := ∀ (cs : List Value) (w : World) (U : View), (∀ a v, U a = some v → w.cell? a = some v) → TV U t cs → CP 146 #[.agg cs.toArray] w (rO w U (qC t))
theorem aFF (t : Itm.Tr) (hI : ∀ x ∈ t.l, aKG x) (a : Option Addr) (c : Nat) (w : World) {U : View} (hU : See U w) (hts : fG U a t.l) (hn : t.n < W64) (hs : t.s.length ≤ R47) (hl : t.l.length ≤ 1000000) : CP 146 #[.agg #[.int .i64 t.k, .int .u64 t.n, .string (B t.s), .slice a t.l.length c, .bool t.o]] w (rO w U (qC t)) := by
 refine eG 22 Tryz.func146 hU ?_
 refine zs (zr (cJ (fun b0 => (cJ (fun b1 => (zn (zQ 1 (zn (zs (zB [0,1,0,0] [(b0,1)] (zn (aB (gX (α := Gp Itm.Tr) (fun x => [1,2,3,7,8,9].zip [(Pt b0 0),(Pt b1 0),(x.r.V x.i),(.slice a t.l.length c),(L6 t.l.length),(L6 x.i)]) (fun x => x.V) (fun x => ([(bK b0 (tC t a c) 89),(b1,.cells [(I6 0),(U6 0),(St []),S0,(.bool false)].toArray 89 (0,0))] ++ x.r.B 89 x.xs)) (fun x => x.i ≤ t.l.length ∧ View.le U x.V ∧ RwR TV 5 x.V x.r x.xs x.i x.L ∧ x.L.map Prod.fst = t.l.take x.i) (fun x => t.l.length - x.i) ⟨0,Rw.nil,[],[],U⟩ ?_ ?_ (hm := fun _ h => h.eqv (Eq.trans kR (List.append_nil ([(bK b0 (tC t a c) 89),(b1,.cells [(I6 0),(U6 0),(St []),S0,(.bool false)].toArray 89 (0,0))] : aF)).symm)))))))))))))))
 · exact ⟨Nat.zero_le _,View.le_refl _,RwR.nil,rfl⟩
 intro x hx
 obtain ⟨hxi,hxl,hxr,hxp⟩ := hx
 refine zQ 1 (zn (zs (cD (decide ((x.i : Int) < (t.l.length : Int))) (fun h0 => ?_) (fun h0 => ?_))))
 ·
  have h0d := of_decide_eq_true h0
  refine zk (zs (aB (zs (zr ?_))))
  obtain ⟨y2,hy2⟩ : ∃ y,(t.l)[x.i]? = some y := ⟨(t.l)[x.i]'oW,List.getElem?_eq_getElem _⟩
  obtain ⟨b2,f2,cs2,rfl,hU2,ht2⟩ := (hts.le hxl).at_ x.i y2 hy2
  obtain ⟨a2,c2,rfl,hts2,hn2,hs2,hl2⟩ := ht2.form
  refine cH (Pt b2 (f2 + x.i * 5)) (rIx 89 rfl b2 f2 t.l.length c x.i 5) ?_
  refine zU b2 (f2 + x.i * 5) (tC y2 a2 c2) hU2 89 (.tmp 11) _ Tryz.underlying89 rfl ?_
  refine dN 2 (fun b3 => ?_)
  refine aY 2 b3 (zn (zr (cU [0,3] [(b3,5)] (aAn 146 #[(tV y2 a2 c2)] (qC y2) (fun W hM => hI y2 (List.mem_of_getElem? hy2) _ _ _ hM.view ht2) (fun v4 V4 hV4 hP4 => ?_)))))
  have k8 := hxr.le hV4
  obtain ⟨cs4,rfl,ht4⟩ := hP4
  obtain ⟨a4,c4,rfl,hts4,hn4,hs4,hl4⟩ := ht4.form
  refine gO (tC y2 a4 c4) 89 (fun r => (Sl r 0 1 1)) kR kR kR (fun g9 V9 hV9 hR9 => ?_)
  have k14 := ht4.le hV9
  have k15 := k8.le hV9
  have hT9 : fG V9 (some ⟨g9,0,none⟩) [y2] := fG.lit [(y2,(tC y2 a4 c4))] hR9 ⟨k14,trivial⟩ (show 1 ≤ R47 by decide)
  obtain ⟨bb16,ff16,L16,e16,hF16,hA16,hG16⟩ := hT9.open (by simp)
  cases e16
  have hN16 : L16.length = 1 := by rw [← List.length_map (f := Prod.fst),hF16]; rfl
  refine tT 3 89 87 64 1 1 hxr.ok (fun W hM => View.range_of hG16 hM.view) (by rw [hA16.flat_len,hN16]) hA16.one (by decide) (fun r17 hr17 => ?_)
  refine zq 1 (zn (zr (zq 1 (eV 18 ((x.i : Int) + 1) (zq 1 (zn ?_))))))
  refine nx ⟨x.i + 1,r17,(x.xs ++ (L16.flatMap Prod.snd)),x.L ++ L16,V9⟩ ?_ ?_ (d := fun _ h => Mem.sub (List.Sublist.append (List.sublist_append_left _ _) (List.Sublist.refl _)) (h.eqv (show _ = ((([(bK b0 [(I6 t.k),(N6 t.n),(St t.s),(Sl b2 f2 t.l.length c),(.bool t.o)] 89),(b1,.cells [(I6 0),(U6 0),(St []),S0,(.bool false)].toArray 89 (0,0))] : aF) ++ ([(bK b3 (tC y2 a2 c2) 89)] : aF)) ++ (r17.B 89 (x.xs ++ (L16.flatMap Prod.snd)))) from by kernel_rfl)))
  · exact ⟨by show x.i + 1 ≤ _; omega,(View.le_trans (View.le_trans hxl hV4) hV9),RwR.app k15 (aJ0 hA16) hN16 hr17,by rw [List.map_append,hxp,hF16,List.take_add_one,hy2]; rfl⟩
  · show t.l.length - (x.i + 1) < t.l.length - x.i; omega
 ·
  have h0d := of_decide_eq_false h0
  refine aU (zs (zr ?_))
  refine pL x.r x.xs 5 x.i [(bK b0 (tC t a c) 89),(b1,.cells [(I6 0),(U6 0),(St []),S0,(.bool false)].toArray 89 (0,0))] 89 kR hxr.ok (fun a18 c18 V18 hV18 hR18 hE18 => ?_)
  rw [hE18]
  have k20 := hxr.le hV18
  have hi9 : x.i = t.l.length := by omega
  have hT9 := (k20.done (by decide) hR18 (View.le_refl _) (by unfold R47; omega)).ts
  rw [hxp,hi9,List.take_length] at hT9
  refine zq 2 (aY 0 b0 (zn (zB [1] [(b0,5)] (aY 1 b1 (zn (aA (dU [2] [(b1,5)] [(.agg #[(I6 t.k),(N6 t.n),(St t.s),(.slice a18 x.i c18),(.bool t.o)])] (fun W' hM => ?_))))))))
  exact cF hM (View.le_trans hxl hV18) ⟨[(I6 t.k),(N6 t.n),(St t.s),(.slice a18 x.i c18),(.bool t.o)],rfl,by rw [hi9]; exact TV.of (t := t) hT9 hn hs⟩
theorem aFT {t : Itm.Tr} (h : t.l = []) : aKG t := fun cs w U hU ht => by
 obtain ⟨a, c, rfl, hts, h1, h2, h3⟩ := ht.form
 exact aFF t (fun x hx => by rw [h] at hx; cases hx) a c w hU hts h1 h2 (by rw [h]; simp)
theorem aL0 {p : Pa} (h : paB p = true) : p.v.l = [] := by
 obtain ⟨id, k, n, s, l, o⟩ := p
 unfold paB at h
 rw [Bool.and_eq_true] at h
 obtain ⟨hk, hr⟩ := h
 simp only [Itm.aN, Itm.okN, Bool.and_eq_true] at hr
 simp only [Itm.Tr.k, Itm.Tr.l] at *
 rcases Bool.or_eq_true _ _ ▸ hk with hk | hk <;> (have := eq_of_beq hk; subst this; simp at hr; first | exact List.length_eq_zero_iff.1 oW | simp_all)
def aD9 (l : List Pa) (v : Value) (V : View) : Prop := ∃ a c, v = .slice a l.length c ∧ iM PaR 6 V a l
theorem aD9.mono {l : List Pa} {v : Value} {V V' : View} (hl : View.le V V') (h : aD9 l v V) : aD9 l v V' := by
 obtain ⟨a, c, e, hp⟩ := h
 exact ⟨a, c, e, hp.le hl⟩
theorem aHU (l : List Pa) (a : Option Addr) (c : Nat) (w : World) {U : View} (hU : See U w) (hl : iM PaR 6 U a l) (hz : ∀ p ∈ l, p.v.l = []) (h47 : l.length ≤ 1000000) : CP 105 #[.slice a l.length c] w (rO w U (aD9 l)) := by
 refine eG 23 Tryz.func105 hU ?_
 refine zQ 1 (zn (zQ 1 (zn (zs (zQ 3 (zn (aB (gX (α := Gp Pa) (fun x => [2,3,6,7,8].zip [S0,(x.r.V x.i),(.slice a l.length c),(L6 l.length),(L6 x.i)]) (fun x => x.V) (fun x => ([] ++ x.r.B 92 x.xs)) (fun x => x.i ≤ l.length ∧ View.le U x.V ∧ RwR PaR 6 x.V x.r x.xs x.i x.L ∧ x.L.map Prod.fst = l.take x.i) (fun x => l.length - x.i) ⟨0,Rw.nil,[],[],U⟩ ?_ ?_ (hm := fun _ h => h.eqv (Eq.trans kR (List.append_nil ([] : aF)).symm))))))))))
 · exact ⟨Nat.zero_le _,View.le_refl _,RwR.nil,rfl⟩
 intro x hx
 obtain ⟨hxi,hxl,hxr,hxp⟩ := hx
 refine zQ 1 (zn (zs (cD (decide ((x.i : Int) < (l.length : Int))) (fun h0 => ?_) (fun h0 => ?_))))
 ·
  have h0d := of_decide_eq_true h0
  refine zk (zs (aB (zs (zr ?_))))
  obtain ⟨y0,hy0⟩ : ∃ y,(l)[x.i]? = some y := ⟨(l)[x.i]'oW,List.getElem?_eq_getElem _⟩
  obtain ⟨b0,f0,cs0,rfl,hU0,hR0⟩ := (hl.le hxl).at_ x.i y0 hy0
  obtain ⟨ct0,rfl,ht0⟩ := hR0
  obtain ⟨a0,c0,rfl,hts0,hn0,hs0,hl0⟩ := ht0.form
  refine cH (Pt b0 (f0 + x.i * 6)) (rIx 92 rfl b0 f0 l.length c x.i 6) ?_
  refine zU b0 (f0 + x.i * 6) [(I6 y0.id),(I6 y0.v.k),(N6 y0.v.n),(St y0.v.s),(.slice a0 y0.v.l.length c0),(.bool y0.v.o)] hU0 92 (.tmp 10) _ Tryz.underlying92 rfl ?_
  refine dN 0 (fun b1 => ?_)
  refine aY 0 b1 (zn ?_)
  refine aBM 3 [0,0,3,0,3,1,1,1] [(b1,1),(b1,5)] [.mem (qC y0.v),.mem (fun v V => ∃ cs,v = .agg ((I6 y0.id :: cs).toArray) ∧ TV V y0.v cs),.mem (fun v V => ∃ g,v = (Sl g 0 1 1) ∧ iM PaR 6 V (some ⟨g,0,none⟩) [(Pa.mk y0.id y0.v)])] (by simp only [List.forall_mem_cons]; exact ⟨by intro v V V2 hV2 hP; (first | trivial | exact PhiMono.go hP hV2 | exact aD9.mono hV2 hP | (obtain ⟨g,e,hP⟩ := hP; exact ⟨g,e,hP.le hV2⟩) | (obtain ⟨cs,e,hP⟩ := hP; exact ⟨cs,e,hP.le hV2⟩)),by intro v V V2 hV2 hP; (first | trivial | exact PhiMono.go hP hV2 | exact aD9.mono hV2 hP | (obtain ⟨g,e,hP⟩ := hP; exact ⟨g,e,hP.le hV2⟩) | (obtain ⟨cs,e,hP⟩ := hP; exact ⟨cs,e,hP.le hV2⟩)),by intro v V V2 hV2 hP; (first | trivial | exact PhiMono.go hP hV2 | exact aD9.mono hV2 hP | (obtain ⟨g,e,hP⟩ := hP; exact ⟨g,e,hP.le hV2⟩) | (obtain ⟨cs,e,hP⟩ := hP; exact ⟨cs,e,hP.le hV2⟩)),fun _ h => by cases h⟩) ⟨?_,?_,?_,trivial⟩ ?_
  ·
   refine wM 146 (fun u => #[(tV y0.v a0 c0)]) fun u V hV hdq W hW => ?_
   exact aFT (hz y0 (List.mem_of_getElem? hy0)) _ _ _ hW (ht0.le hV)
  ·
   refine wP [14,17] (fun u => [(I6 y0.id),u 5]) fun u V hV hdq => ?_
   have e5 := hdq 5 kR rfl
   obtain ⟨cs5,q5,ht5⟩ := e5
   obtain ⟨a5,c5,rfl,hts5,hn5,hs5,hl5⟩ := ht5.form
   rw [q5]
   exact ⟨(.agg #[(I6 y0.id),(I6 y0.v.k),(N6 y0.v.n),(St y0.v.s),(.slice a5 y0.v.l.length c5),(.bool y0.v.o)]),by kernel_rfl,⟨_,rfl,ht5⟩⟩
  ·
   refine wN [18] (fun u => [u 6]) fun u V hV hdq => ?_
   have e6 := hdq 6 kR rfl
   obtain ⟨cs6,q6,ht6⟩ := e6
   obtain ⟨a6,c6,rfl,hts6,hn6,hs6,hl6⟩ := ht6.form
   refine ⟨[(I6 y0.id),(I6 y0.v.k),(N6 y0.v.n),(St y0.v.s),(.slice a6 y0.v.l.length c6),(.bool y0.v.o)],92,fun r => (Sl r 0 1 1),?_,fun g V' hV' hR => ?_⟩
   · rw [q6]; kernel_rfl
   exact ⟨g,rfl,iM.lit [((Pa.mk y0.id y0.v),[(I6 y0.id),(I6 y0.v.k),(N6 y0.v.n),(St y0.v.s),(.slice a6 y0.v.l.length c6),(.bool y0.v.o)])] hR ⟨⟨_,rfl,ht6.le hV'⟩,trivial⟩ (show 1 ≤ R47 by decide)⟩
  intro u2 V2 hV2 hdq2
  have k6 := hxr.le hV2
  have e5_2 := hdq2 5 rfl
  obtain ⟨cs5_2,q5_2,ht5_2⟩ := e5_2
  obtain ⟨a5_2,c5_2,rfl,hts5_2,hn5_2,hs5_2,hl5_2⟩ := ht5_2.form
  refine aLH 17 q5_2 ?_
  have e6_2 := hdq2 6 rfl
  obtain ⟨cs6_2,q6_2,ht6_2⟩ := e6_2
  obtain ⟨a6_2,c6_2,rfl,hts6_2,hn6_2,hs6_2,hl6_2⟩ := ht6_2.form
  refine aLH 18 q6_2 ?_
  have e7_2 := hdq2 7 rfl
  obtain ⟨g7_2,q7_2,t7_2⟩ := e7_2
  refine aLH 19 q7_2 ?_
  obtain ⟨b7,f7,cs7,e7,hU7,hR7⟩ := t7_2.at_ 0 _ rfl
  cases e7
  refine tT 1 92 93 72 1 1 hxr.ok (fun W hM => View.range_of hU7 hM.view) (RecOk.len hR7) (RecOk.one hR7) (by decide) (fun r8 hr8 => ?_)
  refine zq 1 (zn (zr (zq 1 (eV 21 ((x.i : Int) + 1) (zq 1 (zn ?_))))))
  refine nx ⟨x.i + 1,r8,(x.xs ++ cs7),x.L ++ [((Pa.mk y0.id y0.v),cs7)],V2⟩ ?_ ?_ (d := fun _ h => Mem.sub (List.Sublist.append (List.sublist_append_left _ _) (List.Sublist.refl _)) (h.eqv (show _ = ((([] : aF) ++ ([(bK b1 [(I6 y0.id),(I6 y0.v.k),(N6 y0.v.n),(St y0.v.s),(.slice a0 y0.v.l.length c0),(.bool y0.v.o)] 92)] : aF)) ++ (r8.B 92 (x.xs ++ cs7))) from by kernel_rfl)))
  · exact ⟨by show x.i + 1 ≤ _; omega,(View.le_trans hxl hV2),RwR.snoc k6 hR7 hr8,by rw [List.map_append,hxp,List.take_add_one,hy0]; rfl⟩
  · show l.length - (x.i + 1) < l.length - x.i; omega
 ·
  have h0d := of_decide_eq_false h0
  refine aU (zs (zr ?_))
  refine pL x.r x.xs 6 x.i [] 92 kR hxr.ok (fun a9 c9 V9 hV9 hR9 hE9 => ?_)
  rw [hE9]
  have k11 := hxr.le hV9
  have hi9 : x.i = l.length := by omega
  have hL9 := k11.done (by decide) hR9 (View.le_refl _) (by unfold R47; omega)
  rw [hxp,hi9,List.take_length] at hL9
  refine zq 2 (zn (aA (aH [2] [(.slice a9 x.i c9)] (fun W' hM => ?_))))
  exact cF hM (View.le_trans hxl hV9) ⟨_,_,by rw [hi9]; rfl,hL9⟩
def pF (l : List Pa) (id kind : Int) : Itm.Tr × Bool := match l.find? (fun p => p.id == id) with
 | some p => (p.v, p.v.k == kind)
 | none => (Itm.cN 0, false)
theorem aDx {l : List Pa} {id kind : Int} {i : Nat} {y : Pa} (h : l[i]? = some y) : pF (l.drop i) id kind = if (y.id == id) = true then (y.v, y.v.k == kind) else pF (l.drop (i + 1)) id kind := by
 unfold pF
 rw [cK h, List.find?_cons]
 cases y.id == id <;> simp
def aMP (q : Itm.Tr × Bool) (v : Value) (V : View) : Prop := ∃ cs, v = .tuple #[.agg cs.toArray, .bool q.2] ∧ TV V q.1 cs
theorem aCH (l : List Pa) (a : Option Addr) (c : Nat) (id kind : Int) (w : World) {U : View} (hU : See U w) (hl : iM PaR 6 U a l) : CP 98 #[.slice a l.length c, .int .i64 id, .int .i64 kind] w (rO w U (aMP (pF l id kind))) := by
 have hlen := hl.len
 unfold R47 at hlen
 refine eG 29 Tryz.func98 hU ?_
 refine zs (zr (cJ (fun b0 => (zq 1 (zn (zs (zQ 3 (zn (aB (gX (α := Nat) (fun x => [1,2,6,7,10,11,12].zip [(I6 id),(I6 kind),(Pt b0 0),(.bool false),(.slice a l.length c),(L6 l.length),(L6 x)]) (fun x => U) (fun x => [(b0,.cells [(I6 0),(U6 0),(St []),S0,(.bool false)].toArray 89 (0,0))]) (fun x => x ≤ l.length ∧ pF (l.drop x) id kind = pF l id kind) (fun x => l.length - x) 0 ?_ ?_))))))))))
 · exact ⟨Nat.zero_le _,rfl⟩
 intro x hx
 obtain ⟨hx1,hx2⟩ := hx
 refine zQ 1 (zn (zs (cD (decide ((x : Int) < (l.length : Int))) (fun h0 => ?_) (fun h0 => ?_))))
 ·
  have h0d := of_decide_eq_true h0
  refine zk (zs (aB (zs (zr ?_))))
  obtain ⟨y1,hy1⟩ : ∃ y,(l)[x]? = some y := ⟨(l)[x]'oW,List.getElem?_eq_getElem _⟩
  obtain ⟨b1,f1,cs1,rfl,hU1,hR1⟩ := hl.at_ x y1 hy1
  obtain ⟨ct1,rfl,ht1⟩ := hR1
  obtain ⟨a1,c1,rfl,hts1,hn1,hs1,hl1⟩ := ht1.form
  refine cH (Pt b1 (f1 + x * 6)) (rIx 92 rfl b1 f1 l.length c x 6) ?_
  refine zU b1 (f1 + x * 6) [(I6 y1.id),(I6 y1.v.k),(N6 y1.v.n),(St y1.v.s),(.slice a1 y1.v.l.length c1),(.bool y1.v.o)] hU1 92 (.tmp 14) _ Tryz.underlying92 rfl ?_
  refine cJ (fun b2 => (aY 1 b2 (zn (zB [0,2,0,0] [(b2,1)] (zn (cD (y1.id == id) (fun h1 => ?_) (fun h1 => ?_)))))))
  ·
   have h1d := eq_of_beq h1
   refine zs ?_
   refine aAW 8 1 0 [20,21,22,23,24,25,26,0] [.val (Pt b2 1),.val (tV y1.v a1 c1),.val (Pt b2 1),.val (Pt b2 1),.val (I6 y1.v.k),.val (I6 kind),.val (.bool (y1.v.k == kind)),.mem (fun _ _ => True)] 7 [(bK b0 (tC y1.v a1 c1) 89),(bK b2 [(I6 y1.id),(I6 y1.v.k),(N6 y1.v.n),(St y1.v.s),(.slice a1 y1.v.l.length c1),(.bool y1.v.o)] 92)] kR rfl rfl kR kR kR kR kR kR (by simp only [List.forall_mem_cons]; exact ⟨trivial,trivial,trivial,trivial,trivial,trivial,trivial,by intro v V V2 hV2 hP; (first | trivial | exact PhiMono.go hP hV2 | (obtain ⟨g,e,hP⟩ := hP; exact ⟨g,e,hP.le hV2⟩)),fun _ h => by cases h⟩) kR (show (7 : Nat) < 8 by decide) rfl ⟨?_,?_,?_,?_,?_,?_,?_,?_,trivial⟩ [1,2,6,7,9,10,11,12,13,14,15,16,17,18,19,20,21,22,23,24,25,26] (fun u => [(I6 id),(I6 kind),(Pt b0 0),(.bool false),(Pt b2 0),(Sl b1 f1 l.length c),(L6 l.length),(L6 x),(.bool (decide ((x : Int) < (l.length : Int)))),(Pt b1 (f1 + x * 6)),(.agg #[(I6 y1.id),(I6 y1.v.k),(N6 y1.v.n),(St y1.v.s),(.slice a1 y1.v.l.length c1),(.bool y1.v.o)]),(Pt b2 0),(I6 y1.id),(I6 id),(.bool (y1.id == id)),(Pt b2 1),(tV y1.v a1 c1),(Pt b2 1),(Pt b2 1),(I6 y1.v.k),(I6 kind),(.bool (y1.v.k == kind))]) kF ?_
   · exact ObS.o 0 (show (0 : Nat) ≠ 7 by decide) (oqQ 0 rfl (Pt b2 1) (Pt b2 1) rfl rfl kF kF) (oqQ 0 rfl (Pt b2 1) (Pt b2 1) rfl rfl kF kF)
   · exact ObS.o 1 (show (1 : Nat) ≠ 7 by decide) (oqL 1 1 b2 5 [(I6 y1.id),(I6 y1.v.k),(N6 y1.v.n),(St y1.v.s),(.slice a1 y1.v.l.length c1),(.bool y1.v.o)] 92 rfl (tV y1.v a1 c1) rfl kR kF kF) (oqL 1 1 b2 5 [(I6 y1.id),(I6 y1.v.k),(N6 y1.v.n),(St y1.v.s),(.slice a1 y1.v.l.length c1),(.bool y1.v.o)] 92 rfl (tV y1.v a1 c1) rfl kR kF kF)
   · exact ObS.o 2 (show (2 : Nat) ≠ 7 by decide) (oqQ 2 rfl (Pt b2 1) (Pt b2 1) rfl rfl kF kF) (oqQ 2 rfl (Pt b2 1) (Pt b2 1) rfl rfl kF kF)
   · exact ObS.o 3 (show (3 : Nat) ≠ 7 by decide) (oqQ 3 rfl (Pt b2 1) (Pt b2 1) rfl rfl kF kF) (oqQ 3 rfl (Pt b2 1) (Pt b2 1) rfl rfl kF kF)
   · exact ObS.o 4 (show (4 : Nat) ≠ 7 by decide) (oqL 4 1 b2 1 [(I6 y1.id),(I6 y1.v.k),(N6 y1.v.n),(St y1.v.s),(.slice a1 y1.v.l.length c1),(.bool y1.v.o)] 92 rfl (I6 y1.v.k) rfl kR kF kF) (oqL 4 1 b2 1 [(I6 y1.id),(I6 y1.v.k),(N6 y1.v.n),(St y1.v.s),(.slice a1 y1.v.l.length c1),(.bool y1.v.o)] 92 rfl (I6 y1.v.k) rfl kR kF kF)
   · exact ObS.o 5 (show (5 : Nat) ≠ 7 by decide) (oqQ 5 rfl (I6 kind) (I6 kind) rfl rfl kF kF) (oqQ 5 rfl (I6 kind) (I6 kind) rfl rfl kF kF)
   · exact ObS.o 6 (show (6 : Nat) ≠ 7 by decide) (oqQ 6 rfl (.bool (y1.v.k == kind)) (.bool (y1.v.k == kind)) rfl rfl kF kF) (oqQ 6 rfl (.bool (y1.v.k == kind)) (.bool (y1.v.k == kind)) rfl rfl kF kF)
   · exact ObS.st 0 b0 (oK (tC y1.v a1 c1) 89) rfl rfl rfl [6,21] (fun u => [(Pt b0 0),(tV y1.v a1 c1)]) kF kF kR
   intro u3 V3 hV3 hdq3
   have k7 := ht1.le hV3
   refine zq 1 (zn (aA (dU [1,0] [(b0,5)] [(tV y1.v a1 c1),(.bool (y1.v.k == kind))] (fun W' hM => ?_))))
   have hv9 : pF l id kind = (y1.v,y1.v.k == kind) := by rw [← hx2,aDx hy1,if_pos h1]
   rw [hv9]
   exact cF hM hV3 ⟨(tC y1.v a1 c1),rfl,k7⟩
  ·
   have h1d := beq_eq_false_iff_ne.1 h1
   refine zk (zr (zq 1 (eV 27 ((x : Int) + 1) (zq 1 (zn ?_)))))
   refine nx (x + 1) ?_ ?_ (d := fun _ h => Mem.sub (List.sublist_append_left _ _) (h.eqv (show _ = ([(b0,.cells [(I6 0),(U6 0),(St []),S0,(.bool false)].toArray 89 (0,0))] : aF) ++ ([(bK b2 [(I6 y1.id),(I6 y1.v.k),(N6 y1.v.n),(St y1.v.s),(.slice a1 y1.v.l.length c1),(.bool y1.v.o)] 92)] : aF) from by kernel_rfl)))
   · exact ⟨by omega,by rw [← hx2,aDx hy1,h1]; rfl⟩
   · show l.length - (x + 1) < l.length - x; omega
 ·
  have h0d := of_decide_eq_false h0
  refine aU (zQ 1 (aY 0 b0 (zq 1 (zn (aA (dU [1,0] [(b0,5)] [(.agg #[(I6 0),(U6 0),(St []),S0,(.bool false)]),(.bool false)] (fun W' hM => ?_)))))))
  have hv9 : pF l id kind = (Itm.cN 0,false) := by rw [← hx2,cY oW]; rfl
  rw [hv9]
  exact cF hM (View.le_refl _) ⟨[(I6 0),(U6 0),(St []),S0,(.bool false)],rfl,(TV.num _ 0 (by decide))⟩
def aC1 (l : List Pa) (id : Int) : Nat := if (pF l id 0).2 = false then 0 else (pF l id 0).1.n
theorem aGC (l : List Pa) (a : Option Addr) (c : Nat) (id : Int) (w : World) {U : View} (hU : See U w) (hl : iM PaR 6 U a l) : CP 47 #[.slice a l.length c, .int .i64 id] w (Ret (.tuple #[.int .u64 ((aC1 l id : Nat) : Int), .bool (pF l id 0).2]) w) := by
 refine eG 18 Tryz.func47 hU ?_
 refine zQ 2 (zn (zQ 2 (aAn 98 #[(.slice a l.length c),(I6 id),(I6 0)] (aMP (pF l id 0)) (fun W hM => aCH l _ _ id 0 W hM.view hl) (fun v0 V0 hV0 hP0 => ?_))))
 obtain ⟨cs0,rfl,ht0⟩ := hP0
 obtain ⟨a0,c0,rfl,hts0,hn0,hs0,hl0⟩ := ht0.form
 refine zq 3 (cJ (fun b2 => (aY 0 b2 (zq 1 (zn (zs (zQ 2 (zn (cD (!(pF l id 0).2) (fun h0 => ?_) (fun h0 => ?_))))))))))
 ·
  refine zQ 2 (zn (aA (aH [4,5] [(U6 0),(.bool false)] (fun W' hM => ?_))))
  have hb9 : (pF l id 0).2 = false := (by simpa using h0)
  refine ⟨?_,hM.below⟩
  unfold aC1
  simp only [cG,hb9,bs,bQ,reduceIte]
  try rfl
 ·
  refine zk (zB [0,1,0,0] [(b2,1)] (zn (aA (aH [4,5] [(N6 (pF l id 0).1.n),(.bool true)] (fun W' hM => ?_)))))
  have hb9 : (pF l id 0).2 = true := (by simpa using h0)
  refine ⟨?_,hM.below⟩
  unfold aC1
  simp only [cG,hb9,bs,bQ,reduceIte]
  try rfl
def aIh (l : List Pa) (id : Int) : List UInt8 := if (pF l id 2).2 = false then [] else (pF l id 2).1.s
theorem aGB (l : List Pa) (a : Option Addr) (c : Nat) (id : Int) (w : World) {U : View} (hU : See U w) (hl : iM PaR 6 U a l) : CP 48 #[.slice a l.length c, .int .i64 id] w (Ret (.tuple #[.string (B (aIh l id)), .bool (pF l id 2).2]) w) := by
 refine eG 18 Tryz.func48 hU ?_
 refine zQ 2 (zn (zQ 2 (aAn 98 #[(.slice a l.length c),(I6 id),(I6 2)] (aMP (pF l id 2)) (fun W hM => aCH l _ _ id 2 W hM.view hl) (fun v0 V0 hV0 hP0 => ?_))))
 obtain ⟨cs0,rfl,ht0⟩ := hP0
 obtain ⟨a0,c0,rfl,hts0,hn0,hs0,hl0⟩ := ht0.form
 refine zq 3 (cJ (fun b2 => (aY 0 b2 (zq 1 (zn (zs (zQ 2 (zn (cD (!(pF l id 2).2) (fun h0 => ?_) (fun h0 => ?_))))))))))
 ·
  refine zQ 2 (zn (aA (aH [4,5] [(St []),(.bool false)] (fun W' hM => ?_))))
  have hb9 : (pF l id 2).2 = false := (by simpa using h0)
  refine ⟨?_,hM.below⟩
  unfold aIh
  simp only [cG,hb9,bs,bQ,reduceIte]
  try rfl
 ·
  refine zk (zB [0,1,0,0] [(b2,1)] (zn (aA (aH [4,5] [(St (pF l id 2).1.s),(.bool true)] (fun W' hM => ?_)))))
  have hb9 : (pF l id 2).2 = true := (by simpa using h0)
  refine ⟨?_,hM.below⟩
  unfold aIh
  simp only [cG,hb9,bs,bQ,reduceIte]
  try rfl
def aEG (n : Nat) : Int := if (65535 : Int) < (n : Int) then 65535 else (n : Int)
theorem aEo (n : Nat) : IntKind.i64.wrap (if (65535 : Int) < (n : Int) then 65535 else (n : Int)) = aEG n := by
 unfold aEG
 split
 · decide
 · rw [IntWalk.i64_in _ oW]
theorem aKt {a : As} (h : a.right = true) : a.r.length = a.t.length := by
 have h1 := As.shaped h
 unfold dV at h1
 simp only [Bool.and_eq_true, decide_eq_true_eq] at h1
 exact h1.1.2
theorem aJD (v : Int) : ∀ (i : Nat) (l : List Int), aJk v i l < 0 ∨ ∃ k : Nat, aJk v i l = ((i + k : Nat) : Int) ∧ k < l.length
 | _, [] => .inl (show (-1 : Int) < 0 by decide)
 | i, x :: r => by
  rw [aJk]
  split
  · exact .inr ⟨0, rfl, by simp⟩
  ·
   rcases aJD v (i + 1) r with h | ⟨k, h1, h2⟩
   · exact .inl h
   · exact .inr ⟨k + 1, by rw [h1]; congr 1; omega, by rw [List.length_cons]; omega⟩
theorem aMz {v : Int} {l : List Int} (h : ¬ aJk v 0 l < 0) : ∃ k : Nat, aJk v 0 l = (k : Int) ∧ k < l.length := by
 rcases aJD v 0 l with h1 | ⟨k, h1, h2⟩
 · exact absurd h1 h
 · exact ⟨k, by rw [h1, Nat.zero_add], h2⟩
def aDB (a : As) (t : Int) : List Pa := a.r.getD (aJk t 0 a.t).toNat []
theorem aI5 {a : As} {t : Int} {k : Nat} {y : List Pa} (h : aJk t 0 a.t = (k : Int)) (hy : a.r[k]? = some y) : aDB a t = y := by
 unfold aDB
 rw [h, Int.toNat_natCast, List.getD_eq_getElem?_getD, hy]
 rfl
def aGj (a : As) (t : Int) (v : Value) (V : View) : Prop := if aJk t 0 a.t < 0 then v = .tuple #[.slice none 0 0, .bool false] else ∃ q, v = .tuple #[q, .bool true] ∧ aD9 (aDB a t) q V
theorem aBI (a : As) (aT aP aR : Option Addr) (cT cP cR : Nat) (target : Int) (w : World) {U : View} (hU : See U w) (hA : aEH U aT aP aR a) (hr : a.r.length = a.t.length) (hlf : ∀ l ∈ a.r, l.length ≤ 1000000 ∧ ∀ p ∈ l, p.v.l = []) : CP 97 #[asV a aT aP aR cT cP cR, .int .i64 target] w (rO w U (aGj a target)) := by
 have fA := hA.t
 have fB := hA.p
 have fC := hA.r
 refine eG 24 Tryz.func97 hU ?_
 refine zs (zr (cJ (fun b0 => (zq 2 (zn (zB [0,1,0] [(b0,1)] ?_))))))
 rcases Bool.eq_false_or_eq_true (decide ((aJk target 0 a.t) < 0)) with h0 | h0
 ·
  refine dA 103 #[(.slice aT a.t.length cT),(I6 target)] (I6 (aJk target 0 a.t)) (fun W hM => aJi a.t _ _ target W hM.view fA) ?_
  refine zq 1 (zn (zs (zQ 2 (zn (gP (decide ((aJk target 0 a.t) < 0)) h0 ?_)))))
  refine zQ 2 (zn (aA (aH [4,5] [S0,(.bool false)] (fun W' hM => ?_))))
  refine cF hM (View.le_refl _) ?_
  unfold aGj
  rw [if_pos (of_decide_eq_true h0)]
  rfl
 ·
  have h0d := of_decide_eq_false h0
  obtain ⟨i9,hi9,hl9⟩ := aMz (of_decide_eq_false h0)
  refine dA 103 #[(.slice aT a.t.length cT),(I6 target)] (I6 (i9 : Int)) (fun W hM => hi9 ▸ aJi a.t _ _ target W hM.view fA) ?_
  refine zq 1 (zn (zs (zQ 2 (zn (eS (decide ((i9 : Int) < 0)) (decide_eq_false oW) ?_)))))
  refine zk (zs (zB [0,0,1,0,0] [(b0,1)] (zn (eS (decide ((i9 : Int) ≥ (a.r.length : Int))) (decide_eq_false oW) ?_))))
  refine zk (zB [0,1,0] [(b0,1)] ?_)
  obtain ⟨y1,hy1⟩ : ∃ y,(a.r)[i9]? = some y := ⟨(a.r)[i9]'oW,List.getElem?_eq_getElem _⟩
  obtain ⟨b1,f1,cs1,rfl,hU1,hR1⟩ := fC.at_ i9 y1 hy1
  obtain ⟨a1,c1,rfl,hp1⟩ := hR1
  have hW1 := View.range1 hU1
  refine cH (Pt b1 (f1 + i9)) (fW _ 93 _ _ rfl b1 f1 a.r.length cR i9 .i64 kR kR (by first | assumption | omega) kR kR) ?_
  refine zV b1 (f1 + i9) (.slice a1 y1.length c1) hW1 93 (.tmp 21) _ Tryz.underlying93 rfl ?_
  refine aAn 105 #[(.slice a1 y1.length c1)] (aD9 y1) (fun W hM => aHU y1 _ _ W hM.view hp1 (hlf _ (List.mem_of_getElem? hy1)).2 (hlf _ (List.mem_of_getElem? hy1)).1) (fun v2 V2 hV2 hP2 => ?_)
  obtain ⟨a2,c2,rfl,hp2⟩ := hP2
  refine zq 2 (zn (aA (aH [4,5] [(.slice a2 y1.length c2),(.bool true)] (fun W' hM => ?_))))
  refine cF hM hV2 ?_
  unfold aGj
  rw [if_neg (of_decide_eq_false h0)]
  exact ⟨_,rfl,by rw [aI5 hi9 hy1]; exact ⟨_,_,rfl,hp2⟩⟩
noncomputable def fdZ (l : List Bk) (num target : Int) : Int := if !(aJ l num).2 || (aJ l num).1.t != 11 then 15 else match gE (aJ l num).1.d with
 | none => 2
 | some a => if a.c != 1 then 2 else if aJk target 0 a.t < 0 then 15 else 0
def aNS : Value := (.agg #[(.int .i64 0), (.int .i64 0), (.int .u64 0), (.int .i64 0), (.string (B [])), (.slice none 0 0), (.int .i64 0), (.int .i64 0), (.string (B [])), (.int .u64 0), (.int .u64 0), (.slice none 0 0), (.slice none 0 0), (.slice none 0 0)])
def mG (l : List Bk) (num target : Int) (v : Value) (V : View) : Prop := if fdZ l num target != 0 then v = .tuple #[aNS, .int .i64 (fdZ l num target)]
 else ∃ a a1 a2 a3 c1 c2 c3 a4 c4, gE (aJ l num).1.d = some a ∧ v = .tuple #[.agg ((aJ l num).1.cs ++ aOE a a1 a2 a3 c1 c2 c3 ++ [Value.slice a4 (aDB a target).length c4]).toArray, .int .i64 0] ∧ aEH V a1 a2 a3 a ∧ iM PaR 6 V a4 (aDB a target) ∧ ¬ aJk target 0 a.t < 0
theorem aD3 {a : As} (h : a.right = true) : a.r.length = a.t.length ∧ ∀ l ∈ a.r, l.length ≤ 1000000 ∧ ∀ p ∈ l, p.v.l = [] := by
 have h1 := As.shaped h
 unfold dV at h1
 simp only [Bool.and_eq_true, decide_eq_true_eq] at h1
 refine ⟨h1.1.2, fun l hl => ?_⟩
 have h2 := List.all_eq_true.1 h1.2 l hl
 unfold aBP jB at h2
 simp only [Bool.and_eq_true, decide_eq_true_eq] at h2
 exact ⟨by omega, fun p hp => aL0 (List.all_eq_true.1 h2.2.1 p hp)⟩
theorem aDi (eA : Addr) (p : Pr) (l : List Bk) (a : Option Addr) (c : Nat) (num target : Int) (w : World) {U : View} (hU : See U w) (hE : EF U eA) (hl : cX U a l) (hdl : ∀ x ∈ l, x.d.length ≤ 100000) : CP 46 #[bnV p a l.length c, .int .i64 num, .int .i64 target] w (rO w U (mG l num target)) := by
 refine eG 54 Tryz.func46 hU ?_
 refine zs (zr (cJ (fun b0 => (cJ (fun b1 => (zq 1 (zn (zB [1,0] [(b0,20)] (dA 64 #[(bnV p a l.length c),(I6 num)] (.tuple #[(.agg #[(I6 (aJ l num).1.t),(I6 (aJ l num).1.n),(N6 (aJ l num).1.f),(I6 (aJ l num).1.c),(St (aJ l num).1.d)]),(.bool (aJ l num).2)]) (fun W hM => lB p l _ _ num W hM.view hl) ?_)))))))))
 refine zq 3 (cJ (fun b2 => (aY 2 b2 (zq 1 (zn (zs (zQ 3 (aK 21 (!(aJ l num).2) (fun h0 => ?_) (fun h0 => ?_)))))))))
 ·
  refine zq 4 (zn (dF (zQ 1 (aY 1 b1 (zq 1 (zn (aA (dU [2,0] [(b1,14)] [(.agg #[(I6 0),(I6 0),(U6 0),(I6 0),(St []),S0,(I6 0),(I6 0),(St []),(U6 0),(U6 0),S0,S0,S0]),(I6 15)] (fun W' hM => ?_)))))))))
  have hz9 : fdZ l num target = 15 := by unfold fdZ; simp only [h0,bs,bQ,reduceIte]
  exact cF hM (View.le_refl _) (by unfold mG; rw [hz9]; rfl)
 ·
  refine cU [0,3,0,0] [(b2,1)] (zn (cD ((aJ l num).1.t != 11) (fun h1 => ?_) (fun h1 => ?_)))
  ·
   refine zQ 1 (aY 1 b1 (zq 1 (zn (aA (dU [2,0] [(b1,14)] [(.agg #[(I6 0),(I6 0),(U6 0),(I6 0),(St []),S0,(I6 0),(I6 0),(St []),(U6 0),(U6 0),S0,S0,S0]),(I6 15)] (fun W' hM => ?_))))))
   have hz9 : fdZ l num target = 15 := by unfold fdZ; simp only [h0,h1,bs,bQ,reduceIte]
   exact cF hM (View.le_refl _) (by unfold mG; rw [hz9]; rfl)
  ·
   have h1d := bne_eq_false_iff_eq.1 h1
   refine zk (zB [0,3] [(b2,1)] ?_)
   rcases Bool.eq_false_or_eq_true ((gE (aJ l num).1.d).isSome) with h2 | h2
   ·
    refine aAn 96 #[(St (aJ l num).1.d)] (aMT (gE (aJ l num).1.d)) (fun W hM => lH eA (aJ l num).1.d W hM.view hE (by have := hdl _ (iK (by have := h0; simpa using this)); omega)) (fun v3 V3 hV3 hP3 => ?_)
    obtain ⟨a3,hq3⟩ := Option.isSome_iff_exists.1 h2
    rw [hq3] at hP3
    obtain ⟨x3,y3,z3,u3,v3,w3,rfl,hA3,hc3⟩ := hP3
    have fA3 := hA3.t
    have fB3 := hA3.p
    have fC3 := hA3.r
    have hrl3 := aKt (oM hq3).2.1
    have hs3 := hA3.s
    refine zq 3 (cJ (fun b5 => (aY 3 b5 (zq 1 (zn (zs (zB [0,0,0,0,4,0,0] [(b5,1)] (zn (cD (a3.c != 1) (fun h3 => ?_) (fun h3 => ?_))))))))))
    ·
     refine zQ 1 (aY 1 b1 (zq 1 (zn (aA (dU [2,0] [(b1,14)] [(.agg #[(I6 0),(I6 0),(U6 0),(I6 0),(St []),S0,(I6 0),(I6 0),(St []),(U6 0),(U6 0),S0,S0,S0]),(I6 2)] (fun W' hM => ?_))))))
     have hz9 : fdZ l num target = 2 := by unfold fdZ; simp only [h0,h1,hq3,h3,bs,bQ,reduceIte]
     exact cF hM hV3 (by unfold mG; rw [hz9]; rfl)
    ·
     refine zk (zB [4,0] [(b5,8)] ?_)
     rcases Bool.eq_false_or_eq_true (decide ((aJk target 0 a3.t) < 0)) with h4 | h4
     ·
      refine aAn 97 #[(.agg #[(.slice x3 a3.t.length u3),(I6 a3.c),(I6 a3.s.s),(St a3.s.l),(N6 a3.s.n),(N6 a3.s.v),(.slice y3 a3.p.length v3),(.slice z3 a3.r.length w3)]),(I6 target)] (aGj a3 target) (fun W hM => aBI a3 _ _ _ _ _ _ target W hM.view ⟨fA3,fB3,fC3,hs3⟩ (aD3 (oM hq3).2.1).1 (aD3 (oM hq3).2.1).2) (fun v6 V6 hV6 hP6 => ?_)
      unfold aGj at hP6
      rw [if_pos (of_decide_eq_true h4)] at hP6
      obtain rfl := hP6
      refine zq 5 (zn (zs (zQ 2 (zn (dF (zQ 1 (aY 1 b1 (zq 1 (zn (aA (dU [2,0] [(b1,14)] [(.agg #[(I6 0),(I6 0),(U6 0),(I6 0),(St []),S0,(I6 0),(I6 0),(St []),(U6 0),(U6 0),S0,S0,S0]),(I6 15)] (fun W' hM => ?_))))))))))))
      have hz9 : fdZ l num target = 15 := by unfold fdZ; simp only [h0,h1,hq3,h3,if_pos (of_decide_eq_true h4),bs,bQ,reduceIte]
      exact cF hM (View.le_trans hV3 hV6) (by unfold mG; rw [hz9]; rfl)
     ·
      refine aAn 97 #[(.agg #[(.slice x3 a3.t.length u3),(I6 a3.c),(I6 a3.s.s),(St a3.s.l),(N6 a3.s.n),(N6 a3.s.v),(.slice y3 a3.p.length v3),(.slice z3 a3.r.length w3)]),(I6 target)] (aGj a3 target) (fun W hM => aBI a3 _ _ _ _ _ _ target W hM.view ⟨fA3,fB3,fC3,hs3⟩ (aD3 (oM hq3).2.1).1 (aD3 (oM hq3).2.1).2) (fun v11 V11 hV11 hP11 => ?_)
      have k12 := fA3.le hV11
      have k13 := fB3.le hV11
      have k14 := fC3.le hV11
      unfold aGj at hP11
      rw [if_neg (of_decide_eq_false h4)] at hP11
      obtain ⟨_,rfl,a11,c11,rfl,hp11⟩ := hP11
      refine zq 5 (zn (zs (zQ 2 (zn (dE (zk (zB [3,4,0,0] [(b2,5),(b5,8)] (aY 1 b1 (zq 1 (zn (aA (dU [2,0] [(b1,14)] [(.agg #[(I6 (aJ l num).1.t),(I6 (aJ l num).1.n),(N6 (aJ l num).1.f),(I6 (aJ l num).1.c),(St (aJ l num).1.d),(.slice x3 a3.t.length u3),(I6 a3.c),(I6 a3.s.s),(St a3.s.l),(N6 a3.s.n),(N6 a3.s.v),(.slice y3 a3.p.length v3),(.slice z3 a3.r.length w3),(.slice a11 (aDB a3 target).length c11)]),(I6 0)] (fun W' hM => ?_)))))))))))))
      have hz9 : fdZ l num target = 0 := by unfold fdZ; simp only [h0,h1,hq3,h3,if_neg (of_decide_eq_false h4),bs,bQ,reduceIte]
      refine cF hM (View.le_trans hV3 hV11) ?_
      unfold mG
      rw [hz9,if_neg (by simp)]
      exact ⟨_,_,_,_,_,_,_,_,_,hq3,rfl,⟨k12,k13,k14,hs3⟩,hp11,of_decide_eq_false h4⟩
   ·
    refine aAn 96 #[(St (aJ l num).1.d)] (aMT (gE (aJ l num).1.d)) (fun W hM => lH eA (aJ l num).1.d W hM.view hE (by have := hdl _ (iK (by have := h0; simpa using this)); omega)) (fun v16 V16 hV16 hP16 => ?_)
    have hq16 := Option.not_isSome_iff_eq_none.1 (by rw [h2]; exact Bool.false_ne_true)
    rw [hq16] at hP16
    obtain rfl := hP16
    refine zq 3 (cJ (fun b18 => (aY 3 b18 (zq 1 (zn (zs (zQ 7 (zn (dF (zQ 1 (aY 1 b1 (zq 1 (zn (aA (dU [2,0] [(b1,14)] [(.agg #[(I6 0),(I6 0),(U6 0),(I6 0),(St []),S0,(I6 0),(I6 0),(St []),(U6 0),(U6 0),S0,S0,S0]),(I6 2)] (fun W' hM => ?_))))))))))))))))
    have hz9 : fdZ l num target = 2 := by unfold fdZ; simp only [h0,h1,hq16,bs,bQ,reduceIte]
    exact cF hM hV16 (by unfold mG; rw [hz9]; rfl)
noncomputable def aBO (L : List En) (p : Pr) (l : List Bk) (num target : Int) (key : List UInt8) : Int := if fdZ l num target != 0 then fdZ l num target else match gE (aJ l num).1.d with
 | none => 0
 | some a => if !(pF a.p 1 0).2 || !(pF a.p 2 0).2 || !(pF (aDB a target) 1 2).2 then 2 else if txZ p l target (aJ l num).1 (aEG (aC1 a.p 2)) != 0 then txZ p l target (aJ l num).1 (aEG (aC1 a.p 2))
  else iO L (aEG (aC1 a.p 1)) key (txB p l target (aJ l num).1 (aEG (aC1 a.p 2))) (aIh (aDB a target) 1)
theorem aMF {l : List Bk} {num target : Int} (h : (fdZ l num target != 0) = false) : (aJ l num).2 = true := by
 have h0 : fdZ l num target = 0 := by simpa using h
 cases hg : (aJ l num).2 with
 | true => rfl
 | false => unfold fdZ at h0; rw [hg] at h0; cases h0
theorem aAZ (eA : Addr) (p : Pr) (l : List Bk) (a : Option Addr) (c : Nat) (num target : Int) (key : List UInt8) (eb ib : Nat) (L : List En) (w : World) {U : View} (hU : See U w) (hE : EF U eA) (hp : p.ok) (hl : cX U a l) (hdl : ∀ x ∈ l, x.d.length ≤ 100000) (he : aBV U eb ib) (hT : aNZ U ib L) : CP 21 #[.pointer (some ⟨eb, 0, none⟩), bnV p a l.length c, .int .i64 num, .int .i64 target, .string (B key)] w (Ret (.int .i64 (aBO L p l num target key)) w) := by
 refine eG 82 Tryz.func21 hU ?_
 refine zs (zr (cJ (fun b0 => (zq 1 (zn (zB [1,0,0] [(b0,20)] ?_))))))
 rcases Bool.eq_false_or_eq_true ((fdZ l num target) != 0) with h0 | h0
 ·
  refine aAn 46 #[(bnV p a l.length c),(I6 num),(I6 target)] (mG l num target) (fun W hM => aDi eA p l _ _ num target W hM.view hE hl hdl) (fun v1 V1 hV1 hP1 => ?_)
  unfold mG at hP1
  rw [if_pos h0] at hP1
  obtain rfl := hP1
  refine zq 3 (cJ (fun b3 => (aY 1 b3 (zq 1 (zn (zs (zQ 2 (zn (gP ((fdZ l num target) != 0) h0 ?_)))))))))
  refine zQ 2 (zn (aA (aH [10] [(I6 (fdZ l num target))] (fun W' hM => ?_))))
  refine ⟨?_,hM.below⟩
  rw [show aBO L p l num target key = fdZ l num target from by unfold aBO; rw [if_pos h0]]
  rfl
 ·
  refine aAn 46 #[(bnV p a l.length c),(I6 num),(I6 target)] (mG l num target) (fun W hM => aDi eA p l _ _ num target W hM.view hE hl hdl) (fun v4 V4 hV4 hP4 => ?_)
  have k5 := hl.le hV4
  unfold mG at hP4
  rw [if_neg (by rw [h0]; exact Bool.false_ne_true)] at hP4
  obtain ⟨a4,x4,y4,z4,u4,v4,w4,a44,c44,hq4,rfl,hA4,hR4,hi4⟩ := hP4
  have fA4 := hA4.t
  have fB4 := hA4.p
  have fC4 := hA4.r
  refine zq 3 (cJ (fun b6 => (aY 1 b6 (zq 1 (zn (zs (zQ 2 (zn (dE (zk (zB [0,0,2] [(b6,1)] (dA 47 #[(.slice y4 a4.p.length v4),(I6 1)] (.tuple #[(N6 (aC1 a4.p 1 : Nat)),(.bool (pF a4.p 1 0).2)]) (fun W hM => aGC a4.p _ _ 1 W hM.view fB4) ?_))))))))))))
  refine zq 5 (zn (zB [0,0,2] [(b6,1)] (dA 47 #[(.slice y4 a4.p.length v4),(I6 2)] (.tuple #[(N6 (aC1 a4.p 2 : Nat)),(.bool (pF a4.p 2 0).2)]) (fun W hM => aGC a4.p _ _ 2 W hM.view fB4) ?_)))
  refine zq 5 (zn (zB [0,2] [(b6,1)] (dA 48 #[(.slice a44 (aDB a4 target).length c44),(I6 1)] (.tuple #[(St (aIh (aDB a4 target) 1)),(.bool (pF (aDB a4 target) 1 2).2)]) (fun W hM => aGB (aDB a4 target) _ _ 1 W hM.view hR4) ?_)))
  refine zq 5 (zn (zs (zQ 3 (aK 52 (!(pF a4.p 1 0).2) (fun h1 => ?_) (fun h1 => ?_)))))
  ·
   refine zq 7 (zn (dF (zQ 1 (zn (aA (aH [10] [(I6 2)] (fun W' hM => ?_)))))))
   refine ⟨?_,hM.below⟩
   rw [show aBO L p l num target key = 2 from by unfold aBO; simp only [hq4,h0,h1,bs,bQ,reduceIte]]
   rfl
  ·
   refine zq 4 (aK 56 (!(pF a4.p 2 0).2) (fun h2 => ?_) (fun h2 => ?_))
   ·
    refine zq 3 (zn (dF (zQ 1 (zn (aA (aH [10] [(I6 2)] (fun W' hM => ?_)))))))
    refine ⟨?_,hM.below⟩
    rw [show aBO L p l num target key = 2 from by unfold aBO; simp only [hq4,h0,h1,h2,bs,bQ,reduceIte]]
    rfl
   ·
    refine zq 3 (zn (cD (!(pF (aDB a4 target) 1 2).2) (fun h3 => ?_) (fun h3 => ?_)))
    ·
     refine zQ 1 (zn (aA (aH [10] [(I6 2)] (fun W' hM => ?_))))
     refine ⟨?_,hM.below⟩
     rw [show aBO L p l num target key = 2 from by unfold aBO; simp only [hq4,h0,h1,h2,h3,bs,bQ,reduceIte]]
     rfl
    ·
     refine zk (zB [1,0,0,2,0,0,0] [(b0,20),(b6,5)] (eE 67 (I6 (IntKind.i64.wrap (if 65535 < ((aC1 a4.p 2 : Nat) : Int) then 65535 else ((aC1 a4.p 2 : Nat) : Int)))) (I6 (aEG (aC1 a4.p 2))) (congrArg (Value.int .i64) (aEo (aC1 a4.p 2))) ?_))
     refine dA 49 #[(bnV p a l.length c),(I6 target),(.agg #[(I6 (aJ l num).1.t),(I6 (aJ l num).1.n),(N6 (aJ l num).1.f),(I6 (aJ l num).1.c),(St (aJ l num).1.d)]),(I6 (aEG (aC1 a4.p 2)))] (.tuple #[(St (txB p l target (aJ l num).1 (aEG (aC1 a4.p 2)))),(I6 (txZ p l target (aJ l num).1 (aEG (aC1 a4.p 2))))]) (fun W hM => qJ p l _ _ target (aJ l num).1 (aEG (aC1 a4.p 2)) W hM.view hp k5 (k5.ok _ (iK (aMF h0))) hdl) ?_
     refine zq 5 (zn (zs (zQ 2 (zn (cD ((txZ p l target (aJ l num).1 (aEG (aC1 a4.p 2))) != 0) (fun h4 => ?_) (fun h4 => ?_))))))
     ·
      refine zQ 2 (zn (aA (aH [10] [(I6 (txZ p l target (aJ l num).1 (aEG (aC1 a4.p 2))))] (fun W' hM => ?_))))
      refine ⟨?_,hM.below⟩
      rw [show aBO L p l num target key = (txZ p l target (aJ l num).1 (aEG (aC1 a4.p 2))) from by unfold aBO; simp only [hq4,h0,h1,h2,h3,h4,bs,bQ,reduceIte]]
      rfl
     ·
      refine zk (zQ 4 (eE 77 (I6 (IntKind.i64.wrap (if 65535 < ((aC1 a4.p 1 : Nat) : Int) then 65535 else ((aC1 a4.p 1 : Nat) : Int)))) (I6 (aEG (aC1 a4.p 1))) (congrArg (Value.int .i64) (aEo (aC1 a4.p 1))) ?_))
      refine zq 3 (dL (fun W hM => aHA (aEG (aC1 a4.p 1)) key (txB p l target (aJ l num).1 (aEG (aC1 a4.p 2))) (aIh (aDB a4 target) 1) eb ib L W hM.view (he.le hV4) (hT.le hV4)) (zq 1 (zn (aA (aH [10] [(I6 (iO L (aEG (aC1 a4.p 1)) key (txB p l target (aJ l num).1 (aEG (aC1 a4.p 2))) (aIh (aDB a4 target) 1)))] (fun W' hM => ?_))))))
      refine ⟨?_,hM.below⟩
      rw [show aBO L p l num target key = (iO L (aEG (aC1 a4.p 1)) key (txB p l target (aJ l num).1 (aEG (aC1 a4.p 2))) (aIh (aDB a4 target) 1)) from by unfold aBO; simp only [hq4,h0,h1,h2,h3,h4,bs,bQ,reduceIte]]
      rfl
theorem dgB (m : Nat) : UInt8.ofNat (IntKind.u8.wrap ((m : Int).tmod 256)).toNat = UInt8.ofNat m := by
 have h1 : ((m : Int).tmod 256) = ((m % 256 : Nat) : Int) := by
  rw [Int.tmod_eq_emod_of_nonneg oW]
  simp
 rw [h1, u8_in oW oW, Int.toNat_natCast]
 apply UInt8.toNat_inj.1
 simp
theorem aME {n x m : Nat} (hm : m = n / 256 ^ x) : [UInt8.ofNat (IntKind.u8.wrap ((m : Int).tmod 256)).toNat] ++ Itm.dg n x = Itm.dg n (x + 1) := by
 rw [dgB, hm]
 rfl
theorem u64_quo (m : Nat) (hm : m < W64) : IntKind.u64.wrap ((m : Int).tdiv 256) = ((m / 256 : Nat) : Int) := by
 have h1 : ((m : Int).tdiv 256) = ((m / 256 : Nat) : Int) := by
  rw [Int.tdiv_eq_ediv_of_nonneg oW]
  simp
 rw [h1]
 unfold W64 at hm
 exact u64_in oW oW
theorem oL (n k : Nat) (hn : n < W64) (hk : k ≤ 8) (w : World) : CP 152 #[.int .u64 (n : Int), .int .i64 (k : Int)] w (Ret (.string (B (Itm.dg n k))) w) := by
 refine dK 22 Tryz.func152 ?_
 refine zQ 1 (zn (zQ 1 (zn (zs (zQ 1 (zn (aB (gX (α := Nat × Nat) (fun x => [0,1,4,5,6].zip [(N6 x.2),(I6 (k : Int)),(St []),(St (Itm.dg n x.1)),(L6 x.1)]) (fun x => View.no) (fun x => []) (fun x => x.1 ≤ k ∧ x.2 = n / 256 ^ x.1) (fun x => k - x.1) (0,n) ?_ ?_))))))))
 · exact ⟨Nat.zero_le _,by simp⟩
 intro x hx
 obtain ⟨hx1,hx2⟩ := hx
 have hdl := Itm.dT n x.1
 have hx3 : x.2 < W64 := by rw [hx2]; exact Nat.lt_of_le_of_lt (Nat.div_le_self _ _) hn
 refine zs (zQ 3 (zn (cD (decide ((x.1 : Int) < (k : Int))) (fun h0 => ?_) (fun h0 => ?_))))
 ·
  have h0d := of_decide_eq_true h0
  refine zk (zs (aB (zQ 3 (cJ (fun b0 => (cU [1,0] [(b0,1)] (cH (St ([UInt8.ofNat ((IntKind.u8.wrap (((x.2 : Int)).tmod 256)) : Int).toNat] ++ (Itm.dg n x.1))) (cE _ _ _ _ rfl [UInt8.ofNat ((IntKind.u8.wrap (((x.2 : Int)).tmod 256)) : Int).toNat] (Itm.dg n x.1) kR kR oA) ?_)))))))
  refine eE 18 (St ([UInt8.ofNat ((IntKind.u8.wrap (((x.2 : Int)).tmod 256)) : Int).toNat] ++ (Itm.dg n x.1))) (St (Itm.dg n (x.1 + 1))) (congrArg (fun z => Value.string (B z)) (aME hx2)) ?_
  refine zq 1 (zn (zr (zq 2 (eE 20 (U6 (IntKind.u64.wrap (((x.2 : Int)).tdiv 256))) (N6 (x.2 / 256 : Nat)) (congrArg (Value.int .u64) (u64_quo x.2 hx3)) ?_))))
  refine zq 1 (zn (zr (zq 2 (eV 11 ((x.1 : Int) + 1) (zq 1 (zn ?_))))))
  refine nx (x.1 + 1,x.2 / 256) ?_ ?_ (d := fun _ h => Mem.sub (List.sublist_append_left _ _) (h.eqv (show _ = ([] : aF) ++ ([(bK b0 [(.int .u8 (IntKind.u8.wrap (((x.2 : Int)).tmod 256)))] 5)] : aF) from by kernel_rfl)))
  · exact ⟨by show x.1 + 1 ≤ k; omega,by show x.2 / 256 = n / 256 ^ (x.1 + 1); rw [hx2,Nat.div_div_eq_div_mul,Nat.pow_succ]⟩
  · show k - (x.1 + 1) < k - x.1; omega
 ·
  have h0d := of_decide_eq_false h0
  refine aU (zQ 2 (zn (aA (aH [4] [(St (Itm.dg n x.1))] (fun W' hM => ?_)))))
  have hxk : x.1 = k := by omega
  exact ⟨by rw [← hxk]; rfl,hM.below⟩
theorem hb8 (m c : Nat) (hm : m ≤ 7) (hc : c < 32) : UInt8.ofNat (IntKind.u8.wrap ((32 * (m : Int)) + (c : Int))).toNat = UInt8.ofNat (32 * m + c) := by
 rw [u8_in oW oW]
 congr 1
set_option maxRecDepth 100000 in
theorem dO (m n : Nat) (w : World) (hm : m ≤ 7) (hn : n < W64) : CP 108 #[.int .i64 (m : Int), .int .u64 (n : Int)] w (Ret (.string (B (Itm.aD m n))) w) := by
 have hn2 := hn
 unfold W64 at hn2
 have d1 := Itm.dT n 1
 have d2 := Itm.dT n 2
 have d4 := Itm.dT n 4
 have d8 := Itm.dT n 8
 refine dK 51 Tryz.func108 ?_
 refine zQ 1 (zn (zQ 2 (eV 7 (32 * (m : Int)) (zq 1 (eE 8 (.int .u8 (IntKind.u8.wrap (32 * (m : Int)))) (.int .u8 (32 * (m : Int))) (congrArg (Value.int .u8) (u8_in oW oW)) ?_)))))
 refine zq 1 (zn (zs (zQ 2 (zn (cD (decide ((n : Int) < 24)) (fun h0 => ?_) (fun h0 => ?_))))))
 ·
  have h0d := of_decide_eq_true h0
  refine zQ 3 (eE 13 (.int .u8 (IntKind.u8.wrap (n : Int))) (.int .u8 (n : Int)) (congrArg (Value.int .u8) (u8_in oW oW)) ?_)
  refine zq 1 (cJ (fun b0 => (cU [1,0] [(b0,1)] (zn (aA (aH [4] [(St [UInt8.ofNat ((IntKind.u8.wrap ((32 * (m : Int)) + (n : Int))) : Int).toNat])] (fun W' hM => ?_)))))))
  refine ⟨?_,hM.below⟩
  show Ending.returned (Value.string (B [UInt8.ofNat ((IntKind.u8.wrap ((32 * (m : Int)) + (n : Int))) : Int).toNat])) = _
  rw [Itm.aD,if_pos oW,hb8 m n hm oW]
  try rfl
 ·
  have h0d := of_decide_eq_false h0
  refine zk (zs (zQ 2 (zn (cD (decide ((n : Int) < 256)) (fun h1 => ?_) (fun h1 => ?_)))))
  ·
   have h1d := of_decide_eq_true h1
   refine zs ?_
   refine gU 3 [0,0,1,1,0,1] [] [.blk (fun r => (Sl r 0 1 1)) (oK [(.int .u8 (IntKind.u8.wrap ((32 * (m : Int)) + 24)))] 5),.val (St [UInt8.ofNat ((IntKind.u8.wrap ((32 * (m : Int)) + 24)) : Int).toNat]),.val (St (Itm.dg n 1))] ⟨?_,?_,?_,trivial⟩ ?_
   · exact vN
   · exact vB 2 1 21 (fun r => (Sl r 0 1 1)) [(.int .u8 (IntKind.u8.wrap ((32 * (m : Int)) + 24)))] 5
   · exact vC 152 #[(N6 n),(I6 1)] (fun W hM => oL n 1 hn (by decide) W)
   refine cH (St ([UInt8.ofNat ((IntKind.u8.wrap ((32 * (m : Int)) + 24)) : Int).toNat] ++ (Itm.dg n 1))) (cE _ _ _ _ rfl [UInt8.ofNat ((IntKind.u8.wrap ((32 * (m : Int)) + 24)) : Int).toNat] (Itm.dg n 1) kR kR oA) ?_
   refine zq 1 (zn (aA (aH [4] [(St ([UInt8.ofNat ((IntKind.u8.wrap ((32 * (m : Int)) + 24)) : Int).toNat] ++ (Itm.dg n 1)))] (fun W' hM => ?_))))
   refine ⟨?_,hM.below⟩
   show Ending.returned (Value.string (B ([UInt8.ofNat ((IntKind.u8.wrap ((32 * (m : Int)) + 24)) : Int).toNat] ++ (Itm.dg n 1)))) = _
   rw [Itm.aD,if_neg oW,if_pos oW,(show UInt8.ofNat (IntKind.u8.wrap ((32 * (m : Int)) + 24)).toNat = UInt8.ofNat (32 * m + 24) from hb8 m 24 hm oW)]
   try rfl
  ·
   have h1d := of_decide_eq_false h1
   refine zk (zs (zQ 2 (zn (cD (decide ((n : Int) < 65536)) (fun h2 => ?_) (fun h2 => ?_)))))
   ·
    have h2d := of_decide_eq_true h2
    refine zs ?_
    refine gU 3 [0,0,1,1,0,1] [] [.blk (fun r => (Sl r 0 1 1)) (oK [(.int .u8 (IntKind.u8.wrap ((32 * (m : Int)) + 25)))] 5),.val (St [UInt8.ofNat ((IntKind.u8.wrap ((32 * (m : Int)) + 25)) : Int).toNat]),.val (St (Itm.dg n 2))] ⟨?_,?_,?_,trivial⟩ ?_
    · exact vN
    · exact vB 2 1 30 (fun r => (Sl r 0 1 1)) [(.int .u8 (IntKind.u8.wrap ((32 * (m : Int)) + 25)))] 5
    · exact vC 152 #[(N6 n),(I6 2)] (fun W hM => oL n 2 hn (by decide) W)
    refine cH (St ([UInt8.ofNat ((IntKind.u8.wrap ((32 * (m : Int)) + 25)) : Int).toNat] ++ (Itm.dg n 2))) (cE _ _ _ _ rfl [UInt8.ofNat ((IntKind.u8.wrap ((32 * (m : Int)) + 25)) : Int).toNat] (Itm.dg n 2) kR kR oA) ?_
    refine zq 1 (zn (aA (aH [4] [(St ([UInt8.ofNat ((IntKind.u8.wrap ((32 * (m : Int)) + 25)) : Int).toNat] ++ (Itm.dg n 2)))] (fun W' hM => ?_))))
    refine ⟨?_,hM.below⟩
    show Ending.returned (Value.string (B ([UInt8.ofNat ((IntKind.u8.wrap ((32 * (m : Int)) + 25)) : Int).toNat] ++ (Itm.dg n 2)))) = _
    rw [Itm.aD,if_neg oW,if_neg oW,if_pos oW,(show UInt8.ofNat (IntKind.u8.wrap ((32 * (m : Int)) + 25)).toNat = UInt8.ofNat (32 * m + 25) from hb8 m 25 hm oW)]
    try rfl
   ·
    have h2d := of_decide_eq_false h2
    refine zk (zs (zQ 2 (zn (cD (decide ((n : Int) < 4294967296)) (fun h3 => ?_) (fun h3 => ?_)))))
    ·
     have h3d := of_decide_eq_true h3
     refine zs ?_
     refine gU 3 [0,0,1,1,0,1] [] [.blk (fun r => (Sl r 0 1 1)) (oK [(.int .u8 (IntKind.u8.wrap ((32 * (m : Int)) + 26)))] 5),.val (St [UInt8.ofNat ((IntKind.u8.wrap ((32 * (m : Int)) + 26)) : Int).toNat]),.val (St (Itm.dg n 4))] ⟨?_,?_,?_,trivial⟩ ?_
     · exact vN
     · exact vB 2 1 39 (fun r => (Sl r 0 1 1)) [(.int .u8 (IntKind.u8.wrap ((32 * (m : Int)) + 26)))] 5
     · exact vC 152 #[(N6 n),(I6 4)] (fun W hM => oL n 4 hn (by decide) W)
     refine cH (St ([UInt8.ofNat ((IntKind.u8.wrap ((32 * (m : Int)) + 26)) : Int).toNat] ++ (Itm.dg n 4))) (cE _ _ _ _ rfl [UInt8.ofNat ((IntKind.u8.wrap ((32 * (m : Int)) + 26)) : Int).toNat] (Itm.dg n 4) kR kR oA) ?_
     refine zq 1 (zn (aA (aH [4] [(St ([UInt8.ofNat ((IntKind.u8.wrap ((32 * (m : Int)) + 26)) : Int).toNat] ++ (Itm.dg n 4)))] (fun W' hM => ?_))))
     refine ⟨?_,hM.below⟩
     show Ending.returned (Value.string (B ([UInt8.ofNat ((IntKind.u8.wrap ((32 * (m : Int)) + 26)) : Int).toNat] ++ (Itm.dg n 4)))) = _
     rw [Itm.aD,if_neg oW,if_neg oW,if_neg oW,if_pos oW,(show UInt8.ofNat (IntKind.u8.wrap ((32 * (m : Int)) + 26)).toNat = UInt8.ofNat (32 * m + 26) from hb8 m 26 hm oW)]
     try rfl
    ·
     have h3d := of_decide_eq_false h3
     refine zk (zs ?_)
     refine gU 3 [0,0,1,1,0,1] [] [.blk (fun r => (Sl r 0 1 1)) (oK [(.int .u8 (IntKind.u8.wrap ((32 * (m : Int)) + 27)))] 5),.val (St [UInt8.ofNat ((IntKind.u8.wrap ((32 * (m : Int)) + 27)) : Int).toNat]),.val (St (Itm.dg n 8))] ⟨?_,?_,?_,trivial⟩ ?_
     · exact vN
     · exact vB 2 1 46 (fun r => (Sl r 0 1 1)) [(.int .u8 (IntKind.u8.wrap ((32 * (m : Int)) + 27)))] 5
     · exact vC 152 #[(N6 n),(I6 8)] (fun W hM => oL n 8 hn (by decide) W)
     refine cH (St ([UInt8.ofNat ((IntKind.u8.wrap ((32 * (m : Int)) + 27)) : Int).toNat] ++ (Itm.dg n 8))) (cE _ _ _ _ rfl [UInt8.ofNat ((IntKind.u8.wrap ((32 * (m : Int)) + 27)) : Int).toNat] (Itm.dg n 8) kR kR oA) ?_
     refine zq 1 (zn (aA (aH [4] [(St ([UInt8.ofNat ((IntKind.u8.wrap ((32 * (m : Int)) + 27)) : Int).toNat] ++ (Itm.dg n 8)))] (fun W' hM => ?_))))
     refine ⟨?_,hM.below⟩
     show Ending.returned (Value.string (B ([UInt8.ofNat ((IntKind.u8.wrap ((32 * (m : Int)) + 27)) : Int).toNat] ++ (Itm.dg n 8)))) = _
     rw [Itm.aD,if_neg oW,if_neg oW,if_neg oW,if_neg oW,(show UInt8.ofNat (IntKind.u8.wrap ((32 * (m : Int)) + 27)).toNat = UInt8.ofNat (32 * m + 27) from hb8 m 27 hm oW)]
     try rfl
theorem aA9 (l : List UInt8) (hl : l.length ≤ R47) (w : World) : CP 94 #[.string (B l)] w (Ret (.string (B (Itm.aD 2 l.length ++ l))) w) := by
 have g1 := Itm.aW 2 l.length
 have hl2 := hl
 unfold R47 at hl2
 refine dK 9 Tryz.func94 ?_
 refine zQ 1 (zn (zQ 3 (eE 5 (U6 (IntKind.u64.wrap (((l).length : Nat) : Int))) (N6 ((l).length : Nat)) (congrArg (Value.int .u64) (u64_in oW oW)) ?_)))
 refine dL (fun W hM => dO 2 l.length W oW (by first | assumption | (unfold W64; omega) | decide)) (zq 1 (cH (St ((Itm.aD 2 l.length) ++ l)) (cE _ _ _ _ rfl (Itm.aD 2 l.length) l kR kR oA) ?_))
 refine zq 1 (zn (aA (jJ 2)))
theorem aNi (n : Nat) (hn : n < W64) (a : Option Addr) (c : Nat) (w : World) : CP 109 #[.agg #[(.int .i64 0), (.int .u64 (n : Int)), (.string (B [])), (.slice a 0 c), (.bool false)]] w (Ret (.string (B (Itm.aD 0 n))) w) := by
 refine dK 51 Tryz.func109 ?_
 refine zs (zr (cJ (fun b0 => (zq 1 (zn (zs (zB [0,1,0] [(b0,1)] (zn (dF (zB [0,1] [(b0,1)] (dL (fun W hM => dO 0 n W oW (by first | assumption | (unfold W64; omega) | decide)) (zq 1 (zn (aA (jJ 2)))))))))))))))
theorem aNh (l : List UInt8) (hl : l.length ≤ R47) (a : Option Addr) (c : Nat) (w : World) : CP 109 #[.agg #[(.int .i64 2), (.int .u64 0), (.string (B l)), (.slice a 0 c), (.bool false)]] w (Ret (.string (B (Itm.aD 2 l.length ++ l))) w) := by
 have g1 := Itm.aW 2 l.length
 have hl2 := hl
 unfold R47 at hl2
 refine dK 51 Tryz.func109 ?_
 refine zs (zr (cJ (fun b0 => (zq 1 (zn (zs (zB [0,1,0] [(b0,1)] (zn (dE (zk (zs (zB [0,1,0] [(b0,1)] (zn (dF (zs ?_)))))))))))))))
 refine gU 4 [0,3,0,3,0,1,1,0,3] [(b0,1),(b0,1),(b0,1)] [.val (N6 ((l).length : Nat)),.val (St (Itm.aD 2 l.length))] ⟨?_,?_,trivial⟩ ?_
 · exact vE (U6 (IntKind.u64.wrap (((l).length : Nat) : Int))) (congrArg (Value.int .u64) (u64_in oW oW))
 · exact vC 108 #[(I6 2),(N6 ((l).length : Nat))] (fun W hM => dO 2 l.length W oW (by first | assumption | (unfold W64; omega) | decide))
 refine cH (St ((Itm.aD 2 l.length) ++ l)) (cE _ _ _ _ rfl (Itm.aD 2 l.length) l kR kR oA) ?_
 refine zq 1 (zn (aA (jJ 2)))
theorem aNg (l : List UInt8) (hl : l.length ≤ R47) (a : Option Addr) (c : Nat) (w : World) : CP 109 #[.agg #[(.int .i64 3), (.int .u64 0), (.string (B l)), (.slice a 0 c), (.bool false)]] w (Ret (.string (B (Itm.aD 3 l.length ++ l))) w) := by
 have g1 := Itm.aW 3 l.length
 have hl2 := hl
 unfold R47 at hl2
 refine dK 51 Tryz.func109 ?_
 refine zs (zr (cJ (fun b0 => (zq 1 (zn (zs (zB [0,1,0] [(b0,1)] (zn (dE (zk (zs (zB [0,1,0] [(b0,1)] (zn (dF (zs ?_)))))))))))))))
 refine gU 4 [0,3,0,3,0,1,1,0,3] [(b0,1),(b0,1),(b0,1)] [.val (N6 ((l).length : Nat)),.val (St (Itm.aD 3 l.length))] ⟨?_,?_,trivial⟩ ?_
 · exact vE (U6 (IntKind.u64.wrap (((l).length : Nat) : Int))) (congrArg (Value.int .u64) (u64_in oW oW))
 · exact vC 108 #[(I6 3),(N6 ((l).length : Nat))] (fun W hM => dO 3 l.length W oW (by first | assumption | (unfold W64; omega) | decide))
 refine cH (St ((Itm.aD 3 l.length) ++ l)) (cE _ _ _ _ rfl (Itm.aD 3 l.length) l kR kR oA) ?_
 refine zq 1 (zn (aA (jJ 2)))
theorem aNj (d : Nat) (l : List Itm.Tr) (o : Bool) {U : View} {w : World} (hU : See U w) (a : Option Addr) (c : Nat) (hts : fG U a l)
    (ih : ∀ (t : Itm.Tr) (cs : List Value) {U : View} {w : World}, (∀ a v, U a = some v → w.cell? a = some v) → TV U t cs → Itm.aN d t = true → Itm.szT t ≤ aAT → CP 109 #[.agg cs.toArray] w (Ret (.string (B (Itm.aE t))) w))
    (hr : l.all (Itm.aN d) = true) (hsz : Itm.szL l ≤ aAT) :
    CP 109 #[.agg #[.int .i64 4, .int .u64 0, .string (B []), .slice a l.length c, .bool o]] w (Ret (.string (B ((if o then [159] else Itm.aD 4 l.length) ++ (Itm.dG l ++ (if o then [255] else []))))) w) := by
 have hl47 := hts.len
 unfold R47 at hl47
 have hbl := Itm.lG l
 have hhl := Itm.aW 4 l.length
 have hsz' := hsz
 unfold aAT at hsz'
 refine eG 51 Tryz.func109 hU ?_
 refine zs (zr (cJ (fun b0 => (zq 1 (zn (zs (zB [0,1,0] [(b0,1)] (zn (dE (zk (zs (zB [0,1,0] [(b0,1)] (zn (dE (zk (zB [0,1,0,0] [(b0,1)] (eE 27 (U6 (IntKind.u64.wrap (l.length : Int))) (N6 ((l.length : Nat))) (congrArg (Value.int .u64) (u64_in oW oW)) ?_)))))))))))))))))
 refine dL (fun W hM => dO 4 l.length W oW (by first | assumption | (unfold W64; omega) | decide)) (zq 1 (zn (zs (zB [0,1] [(b0,1)] (zn (cD o (fun h0 => ?_) (fun h0 => ?_)))))))
 ·
  refine zr (zq 1 (zn (zs (zQ 1 (zn (aB (gX (α := Nat × List UInt8) (fun x => [1,2,3,4].zip [(Pt b0 0),(St []),(St x.2),(L6 x.1)]) (fun x => U) (fun x => [(b0,.cells [(I6 4),(U6 0),(St []),(.slice a l.length c),(.bool o)].toArray 89 (0,0))]) (fun x => x.1 ≤ l.length ∧ x.2 ++ Itm.dG (l.drop x.1) = [159] ++ Itm.dG l) (fun x => l.length - x.1) (0,[159]) ?_ ?_)))))))
  · exact ⟨by simp,rfl⟩
  intro x hx
  obtain ⟨hx1,hx2⟩ := hx
  have hxl := congrArg List.length hx2
  simp only [List.length_append,List.length_cons,List.length_nil] at hxl
  refine zs (zB [0,0,1,0,0] [(b0,1)] (zn (cD (decide ((x.1 : Int) < (l.length : Int))) (fun h1 => ?_) (fun h1 => ?_))))
  ·
   have h1d := of_decide_eq_true h1
   refine zk (zs (aB (zr (cU [0,0,1,0] [(b0,1)] ?_))))
   obtain ⟨y1,hy1⟩ : ∃ y,(l)[x.1]? = some y := ⟨(l)[x.1]'oW,List.getElem?_eq_getElem _⟩
   obtain ⟨b1,f1,cs1,rfl,hU1,ht1⟩ := hts.at_ x.1 y1 hy1
   obtain ⟨a1,c1,rfl,hts1,hn1,hs1,hl1⟩ := ht1.form
   have hyr := List.all_eq_true.1 hr y1 (List.mem_of_getElem? hy1)
   have hyB := Itm.eM y1
   have hyS := Itm.aCO hy1
   have hyL := gI hy1
   have hyL2 := congrArg List.length hyL
   simp only [List.length_append] at hyL2
   refine cH (Pt b1 (f1 + x.1 * 5)) (rIx 89 rfl b1 f1 l.length c x.1 5) ?_
   refine zU b1 (f1 + x.1 * 5) (tC y1 a1 c1) hU1 89 (.tmp 42) _ Tryz.underlying89 rfl ?_
   refine dA 109 #[(tV y1 a1 c1)] (St (Itm.aE y1)) (fun W hM => ih _ _ hM.view ht1 hyr (by unfold aAT; omega)) ?_
   refine cH (St (x.2 ++ (Itm.aE y1))) (cE _ _ _ _ rfl x.2 (Itm.aE y1) kR kR oA) ?_
   refine zq 1 (zn (zr (zq 2 (eV 37 ((x.1 : Int) + 1) (zq 1 (zn ?_))))))
   refine nx (x.1 + 1,(x.2 ++ (Itm.aE y1))) ?_ ?_
   · exact ⟨by show x.1 + 1 ≤ _; omega,by rw [← hx2,gI hy1,List.append_assoc]⟩
   · show l.length - (x.1 + 1) < l.length - x.1; omega
  ·
   have h1d := of_decide_eq_false h1
   refine aU (zs (zB [0,1] [(b0,1)] (zn (gP o h0 ?_))))
   refine zr (zq 1 (cH (St (x.2 ++ [255])) (cE _ _ _ _ rfl x.2 [255] kR kR oA) ?_))
   refine zq 1 (zn (zQ 2 (zn (aA (aH [2] [(St (x.2 ++ [255]))] (fun W' hM => ?_))))))
   refine ⟨?_,hM.below⟩
   rw [show x.1 = l.length by omega,List.drop_length] at hx2
   simp only [Itm.dG,List.append_nil] at hx2
   simp only [cG,hx2,h0,if_true,Bool.false_eq_true,if_false,List.append_assoc,List.append_nil]
 ·
  refine zk (zs (zQ 1 (zn (aB (gX (α := Nat × List UInt8) (fun x => [1,2,3,4].zip [(Pt b0 0),(St []),(St x.2),(L6 x.1)]) (fun x => U) (fun x => [(b0,.cells [(I6 4),(U6 0),(St []),(.slice a l.length c),(.bool o)].toArray 89 (0,0))]) (fun x => x.1 ≤ l.length ∧ x.2 ++ Itm.dG (l.drop x.1) = (Itm.aD 4 l.length) ++ Itm.dG l) (fun x => l.length - x.1) (0,(Itm.aD 4 l.length)) ?_ ?_)))))
  · exact ⟨by simp,rfl⟩
  intro x hx
  obtain ⟨hx1,hx2⟩ := hx
  have hxl := congrArg List.length hx2
  simp only [List.length_append,List.length_cons,List.length_nil] at hxl
  refine zs (zB [0,0,1,0,0] [(b0,1)] (zn (cD (decide ((x.1 : Int) < (l.length : Int))) (fun h2 => ?_) (fun h2 => ?_))))
  ·
   have h2d := of_decide_eq_true h2
   refine zk (zs (aB (zr (cU [0,0,1,0] [(b0,1)] ?_))))
   obtain ⟨y2,hy2⟩ : ∃ y,(l)[x.1]? = some y := ⟨(l)[x.1]'oW,List.getElem?_eq_getElem _⟩
   obtain ⟨b2,f2,cs2,rfl,hU2,ht2⟩ := hts.at_ x.1 y2 hy2
   obtain ⟨a2,c2,rfl,hts2,hn2,hs2,hl2⟩ := ht2.form
   have hyr := List.all_eq_true.1 hr y2 (List.mem_of_getElem? hy2)
   have hyB := Itm.eM y2
   have hyS := Itm.aCO hy2
   have hyL := gI hy2
   have hyL2 := congrArg List.length hyL
   simp only [List.length_append] at hyL2
   refine cH (Pt b2 (f2 + x.1 * 5)) (rIx 89 rfl b2 f2 l.length c x.1 5) ?_
   refine zU b2 (f2 + x.1 * 5) (tC y2 a2 c2) hU2 89 (.tmp 42) _ Tryz.underlying89 rfl ?_
   refine dA 109 #[(tV y2 a2 c2)] (St (Itm.aE y2)) (fun W hM => ih _ _ hM.view ht2 hyr (by unfold aAT; omega)) ?_
   refine cH (St (x.2 ++ (Itm.aE y2))) (cE _ _ _ _ rfl x.2 (Itm.aE y2) kR kR oA) ?_
   refine zq 1 (zn (zr (zq 2 (eV 37 ((x.1 : Int) + 1) (zq 1 (zn ?_))))))
   refine nx (x.1 + 1,(x.2 ++ (Itm.aE y2))) ?_ ?_
   · exact ⟨by show x.1 + 1 ≤ _; omega,by rw [← hx2,gI hy2,List.append_assoc]⟩
   · show l.length - (x.1 + 1) < l.length - x.1; omega
  ·
   have h2d := of_decide_eq_false h2
   refine aU (zs (zB [0,1] [(b0,1)] (zn (eS o h0 ?_))))
   refine zk (zQ 2 (zn (aA (aH [2] [(St x.2)] (fun W' hM => ?_)))))
   refine ⟨?_,hM.below⟩
   rw [show x.1 = l.length by omega,List.drop_length] at hx2
   simp only [Itm.dG,List.append_nil] at hx2
   simp only [cG,hx2,h0,if_true,Bool.false_eq_true,if_false,List.append_assoc,List.append_nil]
theorem oI : ∀ (d : Nat) (t : Itm.Tr) (cs : List Value) {U : View} {w : World}, (∀ a v, U a = some v → w.cell? a = some v) → TV U t cs → Itm.aN d t = true → Itm.szT t ≤ aAT → CP 109 #[.agg cs.toArray] w (Ret (.string (B (Itm.aE t))) w)
 | 0, t, cs, U, w, _, _, hr, _ => by cases hr
 | d + 1, t, cs, U, w, hU, h, hr, hsz => by
  obtain ⟨a, c, rfl, hts, hn, hs, hl⟩ := h.form
  unfold Itm.aN at hr
  rw [Bool.and_eq_true] at hr
  obtain ⟨hok, hall⟩ := hr
  obtain ⟨k, n, s, l, o⟩ := t
  simp only [Itm.Tr.k, Itm.Tr.n, Itm.Tr.s, Itm.Tr.l, Itm.Tr.o] at *
  rw [Itm.szT] at hsz
  rcases Itm.oQ hok with ⟨rfl, rfl, hlen, rfl⟩ | ⟨rfl, rfl, hlen, rfl⟩ | ⟨rfl, rfl, hlen, rfl⟩ | ⟨rfl, rfl, rfl, hle⟩
  ·
   obtain rfl := List.length_eq_zero_iff.1 hlen
   exact aNi n hn a c w
  ·
   obtain rfl := List.length_eq_zero_iff.1 hlen
   exact aNh s hs a c w
  ·
   obtain rfl := List.length_eq_zero_iff.1 hlen
   exact aNg s hs a c w
  · exact aNj d l o hU a c hts (oI d) hall oW
def aLC (t : Itm.Tr) (v : Value) (V : View) : Prop := ∃ cs, v = .agg cs.toArray ∧ TV V t cs
end Go.Proofs.YtcdjakemdlinhaaGreatDoor.Sx
