/-
  Several texts in one: Lbu1 Oph Lbq Lbu2 FrameL FrameB.
  Conditions: named at each.
-/
import Derived.Test.YtcdjakemdlinhaaGreatDoorG13
import Derived.LaidMore
import Derived.Handed
import Derived.LaidLaws
import Derived.Stop.Joined
import Derived.Stop.LaidErr
import Derived.ChangeBears2
set_option maxHeartbeats 16000000
set_option linter.unusedSimpArgs false
set_option linter.unusedVariables false
set_option linter.unusedSectionVars false
namespace Go.Proofs.YtcdjakemdlinhaaGreatDoor.Sx
open Go.ChangeShapes Go.WideShapes Go.ChangeAt Go.RowKit Go.Deep
theorem aIf {P : Program} {n : Nat} {W0 : Cx} {Q : XQ} {s : cB} {U : View} {σ : aF} {ops : Array Oper} {l : List Oper} {ib : Nat} {L : List En} {s2 : aF} (B0 : aF) (hσ : σ = s2 ++ B0) (hT : Tb ib L s2) (h47 : L.length ≤ R47) (h : ∀ V, View.le U V → aNZ V ib L → SXL P n W0 Q ops l s V B0) : SXL P n W0 Q ops l s U σ := by
 subst hσ
 obtain ⟨r, hr, rfl⟩ := hT
 refine lV _ (([(ib, .cells #[r.V L.length] 76 (0, 0))] ++ B0) ++ r.B 354 (L.flatMap En.cs)) (fun _ h => h.perm (aKP _ _ _).symm) ?_
 refine pL r _ 7 _ _ _ rfl hr fun a c V hl hA hv => ?_
 rw [hv]
 refine iE [] B0 ib [.slice a L.length c] 76 rfl fun V2 hl2 hR => ?_
 refine h V2 (View.le_trans hl hl2) ⟨a, c, hR 0 _ rfl, ?_⟩
 have hall : ∀ L : List En, qS EnR V2 (L.map fun x => (x, x.cs)) := fun L => by
  induction L with
  | nil => trivial
  | cons x L ih => exact ⟨rfl, ih⟩
 exact iM.ofRow (by decide) (L.map fun x => (x, x.cs)) (hA.le hl2) (by rw [List.flatMap_map]) (hall L) _ (by rw [List.map_map]; exact List.map_id'' (fun _ => rfl) L) h47
def iZ (U : View) (a : Option Addr) (l : List Int) : Prop := l ≠ [] → ∃ b f, a = some ⟨b, f, none⟩ ∧ U.range b f (l.map inV)
theorem iZ.le {U V : View} (h : View.le U V) {a : Option Addr} {l : List Int} (hl : iZ U a l) : iZ V a l := fun hne => by
 obtain ⟨b, f, e, hr⟩ := hl hne
 exact ⟨b, f, e, View.range_le h hr⟩
theorem iZ.up {U : View} {a : Option Addr} {l : List Int} (hl : iZ U a l) (h : l.length ≤ 18) : oD U a l := ⟨hl, (show l.length ≤ R47 by unfold R47; omega)⟩
theorem iZ.one {U : View} {a : Option Addr} {l : List Int} (hl : iZ U a l) {i : Nat} {y : Int} (hy : l[i]? = some y) : ∃ b f, a = some ⟨b, f, none⟩ ∧ U ⟨b, f + i, none⟩ = some (.int .i64 y) := by
 obtain ⟨b, f, e, hr⟩ := hl (fun h => by rw [h] at hy; simp at hy)
 exact ⟨b, f, e, aNc hr hy⟩
def hwC (e : Ei) (vr fl : Int) (key : List UInt8) (aS : Option Addr) (n cS : Nat) (id : Bool) : List Value := [.int .i64 e.s, .string (B e.l), .int .u64 e.n, .int .u64 e.v, .int .i64 vr, .int .i64 fl, .string (B key), .slice aS n cS, .bool id]
def hwV (e : Ei) (vr fl : Int) (key : List UInt8) (aS : Option Addr) (n cS : Nat) (id : Bool) : Value := .agg (hwC e vr fl key aS n cS id).toArray
def aHQ (p : Pr) (l : List Bk) (e : Ei) (key : List UInt8) (ts : List Int) : Bool := aAC p l && decide ((l.length : Int) ≤ 18) && aBw e && decide ((key.length : Int) ≤ 100) && decide ((ts.length : Int) ≤ 18)
theorem aCh (w : World) {U : View} (hU : See U w) : CP 34 #[] w (rO w U (aAQ tU [aBL])) := by
 refine eG 10 Tryz.func34 hU ?_
 refine zs (zr (cJ (fun b0 => (zn (zQ 4 (cJ (fun b1 => (aY 1 b1 (zn (zB [2,0] [(b1,19)] ?_))))))))))
 refine gO [(I6 1),(I6 1),(U6 0),(I6 0),(St [104,105])] 38 (fun r => (Sl r 0 1 1)) kR kR kR (fun g2 V2 hV2 hR2 => ?_)
 have hT2 : cX V2 (some ⟨g2,0,none⟩) [aBL] := cX.of (show V2.range g2 0 ([aBL].flatMap Bk.cs) from hR2) (fun x hx => by rw [List.mem_singleton.1 hx]; exact ⟨(show (0 : Nat) < W64 by decide),(show (2 : Nat) ≤ R47 by decide)⟩) (show 1 ≤ R47 by decide)
 refine zq 1 (aY 0 b0 (zn (aA (dU [1] [(b0,20)] [(.agg #[(U6 0),(I6 0),(I6 2),(St []),(U6 2),(U6 0),(I6 2),(St []),(U6 1),(U6 0),(I6 1),(St [110,111,110,101]),(U6 0),(U6 0),(U6 5),(U6 0),(U6 100),(U6 0),(U6 0),(Sl g2 0 1 1)])] (fun W' hM => ?_)))))
 exact cF hM hV2 ⟨some ⟨g2,0,none⟩,1,rfl,hT2⟩
theorem aEp (p : Pr) (l : List Bk) (a : Option Addr) (c : Nat) (e : Ei) (vr fl : Int) (key : List UInt8) (ts : List Int) (aS : Option Addr) (cS : Nat) (id : Bool) (w : World) {U : View} (hU : See U w) (hl : lQ U a l) : CP 17 #[bnV p a l.length c, hwV e vr fl key aS ts.length cS id] w (Ret (.bool (aHQ p l e key ts)) w) := by
 refine eG 30 Tryz.func17 hU ?_
 refine zs (zr (cJ (fun b0 => (cJ (fun b1 => (zq 1 (zn (zB [1] [(b0,20)] (dA 31 #[(bnV p a l.length c)] (.bool (aAC p l)) (fun W hM => aGW p l _ _ W hM.view hl) ?_)))))))))
 refine zq 1 (aK 7 (aAC p l) (fun h0 => ?_) (fun h0 => ?_))
 ·
  refine cU [0,1,0,0,0,0] [(b0,1)] (aK 13 (decide ((l.length : Int) ≤ 18)) (fun h1 => ?_) (fun h1 => ?_))
  ·
   refine cU [0,2] [(b1,4)] (dL (fun W hM => qH e W) (zq 2 (aK 18 (aBw e) (fun h2 => ?_) (fun h2 => ?_))))
   ·
    refine cU [0,2,0,0,0,0] [(b1,1)] (aK 24 (decide ((((key).length : Nat) : Int) ≤ 100)) (fun h3 => ?_) (fun h3 => ?_))
    ·
     refine cU [0,2,0,0,0,0] [(b1,1)] (zn (aA (aH [4] [(.bool (decide ((ts.length : Int) ≤ 18)))] (fun W' hM => ?_))))
     exact ⟨by simp only [cG,aHQ,h0,h1,h2,h3,bs,bQ,reduceIte],hM.below⟩
    ·
     refine zq 6 (zn (aA (aH [4] [(.bool false)] (fun W' hM => ?_))))
     exact ⟨by simp only [cG,aHQ,h0,h1,h2,h3,bs,bQ,reduceIte],hM.below⟩
   ·
    refine zq 12 (zn (aA (aH [4] [(.bool false)] (fun W' hM => ?_))))
    exact ⟨by simp only [cG,aHQ,h0,h1,h2,bs,bQ,reduceIte],hM.below⟩
  ·
   refine zq 17 (zn (aA (aH [4] [(.bool false)] (fun W' hM => ?_))))
   exact ⟨by simp only [cG,aHQ,h0,h1,bs,bQ,reduceIte],hM.below⟩
 ·
  refine zq 23 (zn (aA (aH [4] [(.bool false)] (fun W' hM => ?_))))
  exact ⟨by simp only [cG,aHQ,h0,bs,bQ,reduceIte],hM.below⟩
def wK8 : List UInt8 := [107, 101, 121]
noncomputable def wkL : List Bk := dR [aBL] tU.src 5 0 [1] 0
noncomputable def wkT : List En := sgT tU [aBL] 5 0 wK8 0 [1]
theorem aMQ : aDw tU [aBL] 1 [1] = 0 := by
 have hl : fI [aBL] 1 [1] = 0 := by kernel_rfl
 have hm : aDZ tU [aBL] [⟨2, 1, 1⟩] = 0 := by kernel_rfl
 unfold aDw
 rw [aGF, hl, if_neg (by decide), if_neg (by decide), if_neg (by rw [aHW]; exact Bool.false_ne_true)]
 unfold aIX
 rw [aFJ, aHV]
 exact hm
theorem aOB : txZ tU [aBL] 1 (rZ [aBL]) 0 = 0 := by kernel_rfl
theorem aOP : fL 5 wK8 = true := by kernel_rfl
theorem aMK : (oX [aBL] tU.src 5 0 [1] 0).outZ = 0 := by kernel_rfl
theorem aKv : rT tU [aBL] tU.src 5 0 wK8 [1] 0 = true := by
 unfold rT
 rw [aMQ, aLY, aMK, List.all_cons, List.all_nil]
 unfold mX
 rw [aOB, aOP]
 rfl
theorem aDp : aZ tU wkL = 0 := by kernel_rfl
theorem aKw : wkL.length = 2 := by kernel_rfl
theorem aOS : ∀ x ∈ wkL, x.d.length ≤ 100000 := fun x hx => by have := (eI aDp).2 x hx; omega
theorem aOQ {ib : Nat} {v : Value} {V : View} {S : aF} (h : aGh ib [] tU [aBL] tU.src 5 0 wK8 [1] v V S) : Tb ib wkT S ∧ ∃ a c, v = .tuple #[bnV tU a 2 c, .int .i64 0] ∧ cX V a wkL := by
 obtain ⟨L', hT, h⟩ := h
 rw [if_pos (show rT tU [aBL] tU.src 5 0 wK8 [1] ([] : List En).length = true from aKv)] at h
 obtain ⟨rfl, a, c, e, hb⟩ := h
 have e1 : aZ tU (dR [aBL] tU.src 5 0 [1] ([] : List En).length) = 0 := aDp
 unfold iD tO at e
 unfold tO at hb
 rw [e1, if_neg (by decide)] at e
 rw [e1, if_neg (by decide)] at hb
 refine ⟨hT, a, c, ?_, hb⟩
 rw [e, if_neg (by decide)]
 show Value.tuple #[bnV tU a wkL.length c, _] = _
 rw [aKw]
theorem aMV : aBO wkT tU wkL 2 1 wK8 = 0 := by
 have h := aE1 (q := tU) (m := [aBL]) (key2 := wK8) aKv aDp aLK.src (show gH [aBL] ((dX [aBL] : Nat) : Int) < 0 by rw [aHV]; decide) (by decide) (t := 1) (by simp)
 rw [show txZ tU (gN [aBL] (aOv [aBL] tU.src 5 0 [1] 0)) 1 (aOv [aBL] tU.src 5 0 [1] 0) 0 = 0 by kernel_rfl, if_pos (by decide), show (txB tU (gN [aBL] (aOv [aBL] tU.src 5 0 [1] 0)) 1 (aOv [aBL] tU.src 5 0 [1] 0) 0 == txB tU [aBL] 1 (aOv [aBL] tU.src 5 0 [1] 0) 0) = true by kernel_rfl, if_pos rfl, beq_self_eq_true] at h
 exact eq_of_beq h
theorem aFl {eA : Addr} {a : Option Addr} {c eb ib : Nat} (w : World) {U : View} (hU : See U w) (hE : EF U eA) (hl : cX U a wkL) (he : aBV U eb ib) (hT : aNZ U ib wkT) : CP 21 #[.pointer (some ⟨eb, 0, none⟩), bnV tU a 2 c, .int .i64 2, .int .i64 1, .string (B wK8)] w (Ret (.int .i64 0) w) := by
 have h := aAZ eA tU wkL a c 2 1 wK8 eb ib wkT w hU hE aLK hl aOS he hT
 rw [aMV, aKw] at h
 exact h
theorem aMv {V : View} {g : Nat} {x : Int} (h : V.range g 0 [.int .i64 x]) : oD V (some ⟨g, 0, none⟩) [x] := ⟨fun _ => ⟨g, 0, rfl, h⟩, (show (1 : Nat) ≤ R47 by decide)⟩
theorem gV (eA : Addr) (w : World) {U : View} (hU : See U w) (hE : EF U eA) : CP 16 #[] w (Ret (.bool true) w) := by
 refine eG 29 Tryz.func16 hU ?_
 refine zQ 1 (zn (zs (zr (aKp 14 #[] (aFG) (fun W hM => aD6 hM) (fun v0 V0 s0 hV0 hP0 => ?_)))))
 obtain ⟨eb0,ib0,rfl,hg0,rfl⟩ := hP0
 refine zq 1 (zn (zQ 1 (aED (fun W hM => aCh W hM.view) (fun v1 V1 hV1 hP1 => ?_))))
 obtain ⟨a1,c1,rfl,hb1⟩ := hP1
 refine aED (fun W hM => aCh W hM.view) (fun v2 V2 hV2 hP2 => ?_)
 have k3 := hb1.le hV2
 obtain ⟨a2,c2,rfl,hb2⟩ := hP2
 refine zq 2 ?_
 refine gO [(I6 1)] 3 (fun r => (Sl r 0 1 1)) kR kR kR (fun g4 V4 hV4 hR4 => ?_)
 have k5 := k3.le hV4
 have hT4 : oD V4 (some ⟨g4,0,none⟩) [1] := aMv hR4
 refine gF 0 (bK ib0 [S0] 76) 19 #[(Pt eb0 0),(bnV tU a1 [aBL].length c1),(.agg #[(I6 tU.src.s),(St tU.src.l),(N6 tU.src.n),(N6 tU.src.v)]),(I6 5),(I6 0),(St [107,101,121]),(Sl g4 0 1 1)] (aGh ib0 [] tU [aBL] tU.src 5 0 wK8 [1]) (fun W hM => aBa eA tU [aBL] _ _ tU.src 5 0 wK8 [1] _ _ eb0 ib0 [] (hE.le (View.le_trans (View.le_trans (View.le_trans hV0 hV1) hV2) hV4)) aLK k5 aLK.src hT4 (show 1 ≤ 1 by decide) (hV4 _ _ (hV2 _ _ (hV1 _ _ hg0))) Tb.new (show 0 + 1 ≤ 100 by decide) hM) (fun v6 V6 s6 hV6 hP6 => ?_)
 obtain ⟨hT6,a6,c6,rfl,hb6⟩ := aOQ hP6
 refine aIf [] kR hT6 (show (1 : Nat) ≤ R47 by decide) (fun X6 hX6 hU6 => ?_)
 refine zq 3 (cJ (fun b11 => (aY 0 b11 (zq 1 (zn (zB [0,0,0,0,1,0,0,0,0] [(b11,1)] (eE 23 (.bool ((((2 : Nat)) : Int) == 2)) (.bool true) (congrArg Value.bool rfl) ?_)))))))
 refine cU [0,1] [(b11,20)] (dA 21 #[(Pt eb0 0),(bnV tU a6 2 c6),(I6 2),(I6 1),(St [107,101,121])] (I6 0) (fun W hM => aFl W hM.view (hE.le (View.le_trans (View.le_trans (View.le_trans (View.le_trans (View.le_trans hV0 hV1) hV2) hV4) hV6) hX6)) (hb6.le hX6) (hX6 _ _ (hV6 _ _ (hV4 _ _ (hV2 _ _ (hV1 _ _ hg0))))) hU6) ?_)
 refine zq 3 (zn (aA (jJ 0)))
end Go.Proofs.YtcdjakemdlinhaaGreatDoor.Sx
namespace Go.Proofs.YtcdjakemdlinhaaGreatDoor.Sx
open Go.ChangeShapes Go.WideShapes Go.ChangeAt Go.RowKit
section
variable {H : Type} {enc : TypeId × Value → H} {W : World} {base : Nat} {v0 : Value} {d0 : DataW H} {p0 : List MemPlace}
theorem aHq : ∀ {css : List (List Value)}, (∀ cs ∈ css, ∃ x : Int, cs = [inV x]) → ∃ rs : List Int, css = rs.map fun x => [inV x]
 | [], _ => ⟨[], rfl⟩
 | cs :: css, h => by
  obtain ⟨r, hr⟩ := h cs (List.mem_cons_self ..)
  obtain ⟨rs, hrs⟩ := aHq (css := css) fun c hc => h c (List.mem_cons_of_mem _ hc)
  exact ⟨r :: rs, by rw [hr, hrs]; rfl⟩
theorem ints_at {v : Value} {l : List Int} (h : aLU W v 1 (l.map fun x => [inV x])) : ∃ a c, v = .slice a l.length c ∧ iZ (aBT W) a l ∧ l.length ≤ c := by
 obtain ⟨hm, a, c, rfl, hc, _, hx⟩ := h
 rw [List.length_map] at hm hc
 refine ⟨a, c, by rw [List.length_map], fun hne => ?_, hc⟩
 rcases hx with hx | ⟨b, o, rfl, _, hx⟩
 · exact absurd (List.map_eq_nil_iff.1 hx) hne
 ·
  refine ⟨b, o, rfl, fun j u hu => ?_⟩
  rw [List.getElem?_map] at hu
  obtain ⟨x, hl, rfl⟩ := Option.map_eq_some_iff.1 hu
  have := hx j [inV x] (by rw [List.getElem?_map, hl]; rfl) 0 _ rfl
  rw [Nat.mul_one, Nat.add_zero] at this
  exact this
set_option maxRecDepth 100000 in
theorem aMu {v : Value} (h : mD enc Tryz.prog W 48 v) : ∃ (l : List Int) (a : Option Addr) (c : Nat), v = .slice a l.length c ∧ iZ (aBT W) a l ∧ l.length ≤ c := by
 obtain ⟨n, z, hz, hlt⟩ := h
 obtain ⟨css, hat, hall⟩ := aMg [3] hz hlt Tryz.underlying48 kR kR (by decide)
 obtain ⟨l, rfl⟩ := aHq fun cs hcs => by
  obtain ⟨c0, _, rfl, h0, rfl⟩ := hall cs hcs
  obtain ⟨x, rfl, _⟩ := h0.int Tryz.underlying3
  exact ⟨x, rfl⟩
 exact ⟨l, ints_at hat⟩
set_option maxRecDepth 100000 in
theorem aKg (hv : Value.okWide Tryz.prog W .any base 50 v0)
  (hr : DataW.Trod enc Tryz.prog W 0 (fun _ => true) true 50 v0 d0 p0) (hlt : ∀ p ∈ p0, p.block < W.heap.size) :
  ∃ (e : Ei) (vr fl : Int) (key : List UInt8) (ts : List Int) (aS : Option Addr) (cS : Nat) (id : Bool), v0 = hwV e vr fl key aS ts.length cS id ∧ e.ok0 ∧ iZ (aBT W) aS ts ∧ ts.length ≤ cS := by
 obtain ⟨cs, rfl, c0, _, rfl, h0, c1, _, rfl, h1, c2, _, rfl, h2, c3, _, rfl, h3, c4, _, rfl, h4, c5, _, rfl, h5, c6, _, rfl, h6, c7, _, rfl, h7, c8, _, rfl, h8, rfl⟩ := aDW [3, 9, 22, 22, 3, 3, 9, 48, 4] hv hr hlt kR kR kR
 obtain ⟨x0, rfl, _⟩ := h0.int Tryz.underlying3
 obtain ⟨x1, rfl, _⟩ := h1.str Tryz.underlying9
 obtain ⟨x2, rfl, w2⟩ := h2.int Tryz.underlying22
 obtain ⟨x3, rfl, w3⟩ := h3.int Tryz.underlying22
 obtain ⟨x4, rfl, _⟩ := h4.int Tryz.underlying3
 obtain ⟨x5, rfl, _⟩ := h5.int Tryz.underlying3
 obtain ⟨x6, rfl, _⟩ := h6.str Tryz.underlying9
 obtain ⟨ts, aS, cS, rfl, hS, hc⟩ := aMu h7
 obtain ⟨x8, rfl⟩ := h8.bool Tryz.underlying4
 obtain ⟨n2, rfl, l2⟩ := gY w2
 obtain ⟨n3, rfl, l3⟩ := gY w3
 exact ⟨⟨x0, x1, n2, n3⟩, x4, x5, x6, ts, aS, cS, x8, rfl, ⟨l2, l3⟩, hS, hc⟩
end
end Go.Proofs.YtcdjakemdlinhaaGreatDoor.Sx
namespace Go.Proofs.YtcdjakemdlinhaaGreatDoor.Sx
open Go.ChangeShapes Go.WideShapes Go.ChangeAt Go.RowKit Go.Deep
def aOo (p : Pr) (l : List Bk) (a : Option Addr) (c : Nat) (v : Value) (_ : View) (S : aF) : Prop := ∃ b, v = .pointer (some ⟨b, 0, none⟩) ∧ S = [(b, .cells (eB p a l.length c).toArray 29 (0, 0))]
theorem aFI {n k : Nat} (K : Int) (hK : K = (k : Int)) (h : k ≤ n) (h2 : n ≤ 1000000) : IntKind.i64.wrap ((n : Int) - K) = ((n - k : Nat) : Int) := by
 rw [IntWalk.i64_in _ oW]
 omega
section
variable {p : Pr} {l : List Bk} {e : Ei} {vr fl target : Int} {key nonce : List UInt8}
end
section
variable {p : Pr} {l : List Bk} {e : Ei} {vr fl : Int} {key : List UInt8} {ts : List Int} {ib : Nat} {v : Value} {V : View} {S : aF}
theorem aDb (hp : p.ok0) (he : e.ok0) (h : (!aHQ p l e key ts) = false) : l.length ≤ 18 ∧ (∀ x ∈ l, x.d.length ≤ 4100) ∧ p.ok ∧ e.ok ∧ key.length ≤ 100 ∧ ts.length ≤ 18 := by
 have h' : aHQ p l e key ts = true := by simpa using h
 unfold aHQ at h'
 simp only [Bool.and_eq_true, decide_eq_true_eq] at h'
 obtain ⟨⟨⟨⟨h1, h2⟩, h3⟩, h4⟩, h5⟩ := h'
 have h7 := lP h1
 unfold aAC at h1
 simp only [Bool.and_eq_true] at h1
 exact ⟨by omega, h7.2, hp.up h1.2, he.up h3, by omega, by omega⟩
theorem aLQ (hs : (rT p l e vr fl key ts 0 && (aZ p (dR l e vr fl ts 0) == 0)) = true) (h : aGh ib [] p l e vr fl key ts v V S) : Tb ib (sgT p l vr fl key 0 ts) S ∧ ∃ a c, v = .tuple #[bnV p a (dR l e vr fl ts 0).length c, .int .i64 0] ∧ cX V a (dR l e vr fl ts 0) := by
 rw [Bool.and_eq_true] at hs
 obtain ⟨h1, h2⟩ := hs
 have h2 := eq_of_beq h2
 obtain ⟨L', hT, h⟩ := h
 rw [if_pos (show rT p l e vr fl key ts ([] : List En).length = true from h1)] at h
 obtain ⟨rfl, a, c, q, hb⟩ := h
 have e1 : aZ p (dR l e vr fl ts ([] : List En).length) = 0 := h2
 unfold iD tO at q
 unfold tO at hb
 rw [e1, if_neg (by decide), if_neg (by decide)] at q
 rw [e1, if_neg (by decide)] at hb
 exact ⟨hT, a, c, q, hb⟩
theorem aNo (hs : (rT p l e vr fl key ts 0 && (aZ p (dR l e vr fl ts 0) == 0)) = false) (h : aGh ib [] p l e vr fl key ts v V S) : ∃ (P : Pr) (L : List Bk) (a : Option Addr) (c : Nat) (z : Int), v = .tuple #[bnV P a L.length c, .int .i64 z] ∧ cX V a L ∧ (z != 0) = true := by
 obtain ⟨L', hT, h⟩ := h
 split at h
 ·
  next h1 =>
  obtain ⟨_, a, c, q, hb⟩ := h
  refine ⟨_, _, a, c, _, q, hb, ?_⟩
  have h1 : rT p l e vr fl key ts 0 = true := h1
  rw [h1, Bool.true_and] at hs
  exact bne_iff_ne.2 (beq_eq_false_iff_ne.1 hs)
 ·
  obtain ⟨z, hz, e⟩ := h
  exact ⟨Pr.zero, [], none, 0, z, e, cX.nil, bne_iff_ne.2 hz⟩
theorem aIx (hs : (rT p l e vr fl key ts 0 && (aZ p (dR l e vr fl ts 0) == 0)) = true) : rT p l e vr fl key ts 0 = true ∧ aZ p (dR l e vr fl ts 0) = 0 ∧ (dR l e vr fl ts 0).length = l.length + 1 ∧ 1 ≤ l.length ∧ (dR l e vr fl ts 0)[l.length - 1]? = some (aOv l e vr fl ts 0) := by
 rw [Bool.and_eq_true] at hs
 obtain ⟨h1, h2⟩ := hs
 have hne : l ≠ [] := aKx (mU (by simpa using (aAt h1).1))
 have hpos := List.length_pos_iff.2 hne
 refine ⟨h1, eq_of_beq h2, (by show (gN l _).length = _; rw [aCX hne]; omega), hpos, ?_⟩
 unfold dR gN
 rw [List.append_assoc, List.getElem?_append_right (by rw [List.length_take]; omega), List.length_take, show l.length - 1 - min (l.length - 1) l.length = 0 by omega]
 rfl
theorem aOT {m : List Bk} {s : Bk} (hm : ∀ x ∈ m, x.d.length ≤ 4100) (hs : s.d.length ≤ 100000) : ∀ x ∈ gN m s, x.d.length ≤ 100000 := fun x hx => by
 unfold gN at hx
 rcases List.mem_append.1 hx with hx | hx
 ·
  rcases List.mem_append.1 hx with hx | hx
  · have := hm x (List.mem_of_mem_take hx); omega
  · rw [List.mem_singleton.1 hx]; exact hs
 · have := hm x (List.mem_of_mem_drop hx); omega
end
theorem aEr (eA : Addr) (p : Pr) (l : List Bk) (a : Option Addr) (c : Nat) (q : Pr) (m : List Bk) (d : Option Addr) (g : Nat) (e : Ei) (vr fl : Int) (key : List UInt8) (ts : List Int) (aS : Option Addr) (cS : Nat) (id : Bool) (key2 : List UInt8) (w : World) {U : View} (hU : See U w) (hE : EF U eA) (hp0 : p.ok0) (he0 : e.ok0) (hl0 : lQ U a l) (hq0 : q.ok0) (hm0 : lQ U d m) (hmg : m.length ≤ g) (hS : iZ U aS ts) (hcS : ts.length ≤ cS) :
    CP 4 #[(.agg #[(.int .u64 (p.f : Int)), (.int .i64 p.c), (.int .i64 p.dst.s), (.string (B p.dst.l)), (.int .u64 (p.dst.n : Int)), (.int .u64 (p.dst.v : Int)), (.int .i64 p.src.s), (.string (B p.src.l)), (.int .u64 (p.src.n : Int)), (.int .u64 (p.src.v : Int)), (.int .i64 p.rpt.s), (.string (B p.rpt.l)), (.int .u64 (p.rpt.n : Int)), (.int .u64 (p.rpt.v : Int)), (.int .u64 (p.time : Int)), (.int .u64 (p.seq : Int)), (.int .u64 (p.life : Int)), (.int .u64 (p.off : Int)), (.int .u64 (p.tot : Int)), (.slice a l.length c), (.int .u64 (q.f : Int)), (.int .i64 q.c), (.int .i64 q.dst.s), (.string (B q.dst.l)), (.int .u64 (q.dst.n : Int)), (.int .u64 (q.dst.v : Int)), (.int .i64 q.src.s), (.string (B q.src.l)), (.int .u64 (q.src.n : Int)), (.int .u64 (q.src.v : Int)), (.int .i64 q.rpt.s), (.string (B q.rpt.l)), (.int .u64 (q.rpt.n : Int)), (.int .u64 (q.rpt.v : Int)), (.int .u64 (q.time : Int)), (.int .u64 (q.seq : Int)), (.int .u64 (q.life : Int)), (.int .u64 (q.off : Int)), (.int .u64 (q.tot : Int)), (.slice d m.length g)]), hwV e vr fl key aS ts.length cS id, .string (B key2)] w (Ret (.bool true) w) := by
 obtain ⟨sl,hsl⟩ : ∃ x,dR l e vr fl ts 0 = x := ⟨_,rfl⟩
 refine eG 158 Tryz.func4 hU ?_
 refine zs (zr (cJ (fun b0 => (cJ (fun b1 => (zq 1 (zn (zs ?_))))))))
 refine aH8 8 0 0 [20,21,22,23,7,8,0,1] [.val (Pt b0 0),.val (bnV p a l.length c),.val (Pt b0 20),.val (bnV q d m.length g),.mem (fun _ _ => True),.mem (fun _ _ => True),.mem (fun _ _ => True),.mem (fun _ _ => True)] (fun k => k == 4 || k == 6) (fun k => k == 5 || k == 7) (Ch2 4 6 [] (aAv (fun r => (Pt r 0)) (.cells Z20.toArray 29 (0,0))) (aOo p l a c)) (Ch2 5 7 [] (aAv (fun r => (Pt r 0)) (.cells Z20.toArray 29 (0,0))) (aOo q m d g)) [] [] [(bK b0 [(N6 p.f),(I6 p.c),(I6 p.dst.s),(St p.dst.l),(N6 p.dst.n),(N6 p.dst.v),(I6 p.src.s),(St p.src.l),(N6 p.src.n),(N6 p.src.v),(I6 p.rpt.s),(St p.rpt.l),(N6 p.rpt.n),(N6 p.rpt.v),(N6 p.time),(N6 p.seq),(N6 p.life),(N6 p.off),(N6 p.tot),(.slice a l.length c),(N6 q.f),(I6 q.c),(I6 q.dst.s),(St q.dst.l),(N6 q.dst.n),(N6 q.dst.v),(I6 q.src.s),(St q.src.l),(N6 q.src.n),(N6 q.src.v),(I6 q.rpt.s),(St q.rpt.l),(N6 q.rpt.n),(N6 q.rpt.v),(N6 q.time),(N6 q.seq),(N6 q.life),(N6 q.off),(N6 q.tot),(.slice d m.length g)] 47),(bK b1 [(I6 e.s),(St e.l),(N6 e.n),(N6 e.v),(I6 vr),(I6 fl),(St key),(.slice aS ts.length cS),(.bool id)] 50)] aMq (fun _ => Ch2.start) (fun _ => Ch2.start) (Ch2.mono (fun _ _ _ _ _ h => h) (fun _ _ _ _ _ h => h)) (Ch2.mono (fun _ _ _ _ _ h => h) (fun _ _ _ _ _ h => h)) Ch2.keep Ch2.keep (by intro k h; simp only [Bool.or_eq_true,beq_iff_eq] at h; rcases h with rfl | rfl <;> rfl) kR rfl rfl kR kR kR kR kR kR (by simp only [List.forall_mem_cons]; exact ⟨trivial,trivial,trivial,trivial,by intro v V V2 hV2 hP; trivial,by intro v V V2 hV2 hP; trivial,by intro v V V2 hV2 hP; trivial,by intro v V V2 hV2 hP; trivial,fun _ h => by cases h⟩) kR ⟨?_,?_,?_,?_,?_,?_,?_,?_,trivial⟩ [2,4,6,7,8] (fun u => [(St key2),(Pt b1 0),(.bool false),u 4,u 5]) kF ?_
 · exact ObG.o 0 rfl rfl (fun σ' => oqQ 0 rfl (Pt b0 0) (Pt b0 0) rfl rfl kF kF)
 · exact ObG.o 1 rfl rfl (fun σ' => oqL 1 0 b0 20 [(N6 p.f),(I6 p.c),(I6 p.dst.s),(St p.dst.l),(N6 p.dst.n),(N6 p.dst.v),(I6 p.src.s),(St p.src.l),(N6 p.src.n),(N6 p.src.v),(I6 p.rpt.s),(St p.rpt.l),(N6 p.rpt.n),(N6 p.rpt.v),(N6 p.time),(N6 p.seq),(N6 p.life),(N6 p.off),(N6 p.tot),(.slice a l.length c),(N6 q.f),(I6 q.c),(I6 q.dst.s),(St q.dst.l),(N6 q.dst.n),(N6 q.dst.v),(I6 q.src.s),(St q.src.l),(N6 q.src.n),(N6 q.src.v),(I6 q.rpt.s),(St q.rpt.l),(N6 q.rpt.n),(N6 q.rpt.v),(N6 q.time),(N6 q.seq),(N6 q.life),(N6 q.off),(N6 q.tot),(.slice d m.length g)] 47 rfl (bnV p a l.length c) rfl kR kF kF)
 · exact ObG.o 2 rfl rfl (fun σ' => oqQ 2 rfl (Pt b0 20) (Pt b0 20) rfl rfl kF kF)
 · exact ObG.o 3 rfl rfl (fun σ' => oqL 3 0 b0 20 [(N6 p.f),(I6 p.c),(I6 p.dst.s),(St p.dst.l),(N6 p.dst.n),(N6 p.dst.v),(I6 p.src.s),(St p.src.l),(N6 p.src.n),(N6 p.src.v),(I6 p.rpt.s),(St p.rpt.l),(N6 p.rpt.n),(N6 p.rpt.v),(N6 p.time),(N6 p.seq),(N6 p.life),(N6 p.off),(N6 p.tot),(.slice a l.length c),(N6 q.f),(I6 q.c),(I6 q.dst.s),(St q.dst.l),(N6 q.dst.n),(N6 q.dst.v),(I6 q.src.s),(St q.src.l),(N6 q.src.n),(N6 q.src.v),(I6 q.rpt.s),(St q.rpt.l),(N6 q.rpt.n),(N6 q.rpt.v),(N6 q.time),(N6 q.seq),(N6 q.life),(N6 q.off),(N6 q.tot),(.slice d m.length g)] 47 rfl (bnV q d m.length g) rfl kR kF kF)
 · refine ObG.a 4 rfl (GQ.alloc (show (4 : Nat) ≠ 6 by decide) kR rfl (fun r => (Pt r 0)) [] (fun u => []) kF ⟨_,rfl,rfl,rfl,kF⟩)
 · refine ObG.b 5 rfl rfl (GQ.alloc (show (5 : Nat) ≠ 7 by decide) kR rfl (fun r => (Pt r 0)) [] (fun u => []) kF ⟨_,rfl,rfl,rfl,kF⟩)
 ·
  refine ObG.a 6 rfl (GQ.store (show (4 : Nat) ≠ 6 by decide) kR rfl ⟨_,[7,21],(fun u => [u 4,(bnV p a l.length c)]),rfl,rfl,rfl,kF,fun u V b hV hdq hub => ?_⟩)
  exact ⟨.cells (eB p a l.length c).toArray 29 (0,0),(by show stK _ _ 0 ([7,21].zip [u 4,(bnV p a l.length c)]) _ = _; rw [hub]; kernel_rfl),b,hub,rfl⟩
 ·
  refine ObG.b 7 rfl rfl (GQ.store (show (5 : Nat) ≠ 7 by decide) kR rfl ⟨_,[8,23],(fun u => [u 5,(bnV q d m.length g)]),rfl,rfl,rfl,kF,fun u V b hV hdq hub => ?_⟩)
  exact ⟨.cells (eB q d m.length g).toArray 29 (0,0),(by show stK _ _ 0 ([8,23].zip [u 5,(bnV q d m.length g)]) _ = _; rw [hub]; kernel_rfl),b,hub,rfl⟩
 intro L2 u2 V2 SA2 SB2 hV2 hL2 hdq2 hRA2 hRB2
 obtain ⟨bA2,qA2,rfl⟩ := Ch2.got (hL2 6 (by decide)) hRA2
 obtain ⟨bB2,qB2,rfl⟩ := Ch2.got (hL2 7 (by decide)) hRB2
 rw [qA2,qB2]
 have k3 := hl0.le hV2
 have k4 := hm0.le hV2
 have k5 := hS.le hV2
 refine lV _ [(bK bA2 (eB p a l.length c) 29),(bK bB2 (eB q d m.length g) 29),(bK b0 [(N6 p.f),(I6 p.c),(I6 p.dst.s),(St p.dst.l),(N6 p.dst.n),(N6 p.dst.v),(I6 p.src.s),(St p.src.l),(N6 p.src.n),(N6 p.src.v),(I6 p.rpt.s),(St p.rpt.l),(N6 p.rpt.n),(N6 p.rpt.v),(N6 p.time),(N6 p.seq),(N6 p.life),(N6 p.off),(N6 p.tot),(.slice a l.length c),(N6 q.f),(I6 q.c),(I6 q.dst.s),(St q.dst.l),(N6 q.dst.n),(N6 q.dst.v),(I6 q.src.s),(St q.src.l),(N6 q.src.n),(N6 q.src.v),(I6 q.rpt.s),(St q.rpt.l),(N6 q.rpt.n),(N6 q.rpt.v),(N6 q.time),(N6 q.seq),(N6 q.life),(N6 q.off),(N6 q.tot),(.slice d m.length g)] 47),(bK b1 [(I6 e.s),(St e.l),(N6 e.n),(N6 e.v),(I6 vr),(I6 fl),(St key),(.slice aS ts.length cS),(.bool id)] 50)] (fun _ h => h.eqv kR) ?_
 refine zn (zQ 1 (aY 3 b1 (zn (zs (zs (zr (dL (fun W hM => gV eA W hM.view (hE.le hV2)) (cU [0,0,1,4] [(bA2,20),(b1,9)] (dA 17 #[(bnV p a l.length c),(.agg #[(I6 e.s),(St e.l),(N6 e.n),(N6 e.v),(I6 vr),(I6 fl),(St key),(.slice aS ts.length cS),(.bool true)])] (.bool (aHQ p l e key ts)) (fun W hM => aEp p l _ _ e vr fl key ts _ _ true W hM.view k3) ?_)))))))))
 refine zq 3 (aK 33 (!(aHQ p l e key ts)) (fun h0 => ?_) (fun h0 => ?_))
 ·
  refine zq 10 (zn (dF (zs (zr (dL (fun W hM => gV eA W hM.view (hE.le hV2)) (zq 1 (zn (aA (jJ 6)))))))))
 ·
  refine cU [2,4] [(bB2,20),(b1,9)] (dA 17 #[(bnV q d m.length g),(.agg #[(I6 e.s),(St e.l),(N6 e.n),(N6 e.v),(I6 vr),(I6 fl),(St key),(.slice aS ts.length cS),(.bool true)])] (.bool (aHQ q m e key ts)) (fun W hM => aEp q m _ _ e vr fl key ts _ _ true W hM.view k4) ?_)
  refine zq 3 (aK 39 (!(aHQ q m e key ts)) (fun h1 => ?_) (fun h1 => ?_))
  ·
   refine zq 4 (zn (dF (zs (zr (dL (fun W hM => gV eA W hM.view (hE.le hV2)) (zq 1 (zn (aA (jJ 6)))))))))
  ·
   refine zq 4 (zn (cD (decide ((((key2).length : Nat) : Int) > 100)) (fun h2 => ?_) (fun h2 => ?_)))
   ·
    refine zs (zr (dL (fun W hM => gV eA W hM.view (hE.le hV2)) (zq 1 (zn (aA (jJ 6))))))
   ·
    have h2d := of_decide_eq_false h2
    refine zk (zs (zr (aKp 18 #[(.bool true)] (aNL) (fun W hM => aLd hM) (fun v6 V6 s6 hV6 hP6 => ?_))))
    have k7 := k3.le hV6
    have k8 := k4.le hV6
    have k9 := k5.le hV6
    obtain ⟨eb6,ib6,rfl,hg6,rfl⟩ := hP6
    refine zq 3 (cJ (fun b10 => (zq 1 (aY 5 b10 (zn (zs (zr ?_)))))))
    obtain ⟨hLl,hDl,hpl,hel,hkl9,htl9⟩ := aDb hp0 he0 h0
    obtain ⟨hLm,hDm,hqm,_⟩ := aDb hq0 he0 h1
    refine cU [0,2,0,5,0,5,0,5,0,5,0,5] [(bA2,20),(b1,4),(b1,1),(b1,1),(b1,1),(b1,1)] ?_
    rcases Bool.eq_false_or_eq_true (rT p l e vr fl key ts 0 && (aZ p (dR l e vr fl ts 0) == 0)) with h3 | h3
    ·
     refine gF 0 (bK ib6 [S0] 76) 19 #[(Pt eb6 0),(bnV p a l.length c),(.agg #[(I6 e.s),(St e.l),(N6 e.n),(N6 e.v)]),(I6 vr),(I6 fl),(St key),(.slice aS ts.length cS)] (aGh ib6 [] p l e vr fl key ts) (fun W hM => aBa eA p l _ _ e vr fl key ts _ _ eb6 ib6 [] (hE.le (View.le_trans hV2 hV6)) hpl (k7.up oW fun x hx => by have := hDl x hx; omega) hel (k9.up htl9) hcS hg6 Tb.new (show 0 + ts.length ≤ 100 by omega) hM) (fun v11 V11 s11 hV11 hP11 => ?_)
     have k12 := k7.le hV11
     have k13 := k9.le hV11
     have k14 := k8.le hV11
     obtain ⟨hT11,a11,c11,rfl,hb11⟩ := aLQ h3 hP11
     obtain ⟨hsg9,hsz9,hll9,hl19,hse9⟩ := aIx h3
     rw [hsl] at hb11 hsz9 hll9 hse9
     rw [hsl]
     refine aIf [(bK bA2 (eB p a l.length c) 29),(bK bB2 (eB q d m.length g) 29),(bK b0 [(N6 p.f),(I6 p.c),(I6 p.dst.s),(St p.dst.l),(N6 p.dst.n),(N6 p.dst.v),(I6 p.src.s),(St p.src.l),(N6 p.src.n),(N6 p.src.v),(I6 p.rpt.s),(St p.rpt.l),(N6 p.rpt.n),(N6 p.rpt.v),(N6 p.time),(N6 p.seq),(N6 p.life),(N6 p.off),(N6 p.tot),(.slice a l.length c),(N6 q.f),(I6 q.c),(I6 q.dst.s),(St q.dst.l),(N6 q.dst.n),(N6 q.dst.v),(I6 q.src.s),(St q.src.l),(N6 q.src.n),(N6 q.src.v),(I6 q.rpt.s),(St q.rpt.l),(N6 q.rpt.n),(N6 q.rpt.v),(N6 q.time),(N6 q.seq),(N6 q.life),(N6 q.off),(N6 q.tot),(.slice d m.length g)] 47),(bK b1 [(I6 e.s),(St e.l),(N6 e.n),(N6 e.v),(I6 vr),(I6 fl),(St key),(.slice aS ts.length cS),(.bool true)] 50),(bK b10 [(.bool true),S0] 54)] kR hT11 (by rw [aFz]; unfold R47; omega) (fun X11 hX11 hU11 => ?_)
     have k15 := k12.le hX11
     have k16 := k13.le hX11
     have k17 := k14.le hX11
     refine zq 3 (cJ (fun b18 => (aY 5 b18 (zq 1 (zn (zs (zB [0,0,0,0,2,0,0,0] [(bB2,1)] (zn (cD ((m.length : Int) == 0) (fun h4 => ?_) (fun h4 => ?_))))))))))
     ·
      refine zQ 1 (zn (aA (jJ 6)))
     ·
      have h4d := beq_eq_false_iff_ne.1 h4
      refine zk (zs (zB [0,6,0,0] [(b18,1)] (zn (eS (decide ((sl.length : Int) < 2)) (decide_eq_false oW) ?_))))
      refine zk (zB [0,6,0,6,0,0] [(b18,1),(b18,1)] (eE 82 (I6 (IntKind.i64.wrap ((sl.length : Int) - 2))) (I6 ((sl.length - 2 : Nat) : Int)) (congrArg (Value.int .i64) (aFI 2 rfl oW oW)) ?_))
      obtain ⟨y19,hy19⟩ : ∃ y,(sl)[(sl.length - 2)]? = some y := ⟨(sl)[(sl.length - 2)]'oW,List.getElem?_eq_getElem _⟩
      obtain ⟨b19,f19,rfl,hU19⟩ := (hb11.le hX11).at_ (sl.length - 2) y19 hy19
      have hsy19 : y19 = aOv l e vr fl ts 0 := by rw [show sl.length - 2 = l.length - 1 by omega,hse9] at hy19; exact (Option.some.inj hy19).symm
      refine cH (.pointer (some ⟨b19,f19 + (sl.length - 2) * 5,none⟩)) (rIx 38 rfl b19 f19 sl.length c11 (sl.length - 2) 5) ?_
      refine zU b19 (f19 + (sl.length - 2) * 5) y19.cs hU19 38 (.tmp 83) _ Tryz.underlying38 rfl ?_
      refine cJ (fun b20 => (aY 6 b20 (zn (zs (zB [2,0,7] [(bB2,20),(b20,1)] (dA 9 #[(bnV q d m.length g),(I6 y19.n)] (I6 (gH m y19.n)) (fun W hM => lM q m _ _ y19.n W hM.view k17) ?_))))))
      refine zq 1 (zn (cD (decide ((gH m y19.n) ≥ 0)) (fun h5 => ?_) (fun h5 => ?_)))
      ·
       refine zQ 1 (zn (aA (jJ 6)))
      ·
       have h5d := of_decide_eq_false h5
       refine zk (zs (zr ?_))
       have hmne9 : m ≠ [] := by rintro rfl; exact absurd h4 (by decide)
       have hmpos9 := List.length_pos_iff.2 hmne9
       have hSok : y19.ok := (hb11.le hX11).ok _ (List.mem_of_getElem? hy19)
       have hSd9 : y19.d.length ≤ 100000 := by have := (eI hsz9).2 y19 (List.mem_of_getElem? hy19); omega
       have hns9 : gH m ((dX l : Nat) : Int) < 0 := by have h := h5; rw [hsy19] at h; have h2 := of_decide_eq_false h; exact Int.not_le.1 h2
       obtain ⟨C9,hC9⟩ : ∃ C,gN m y19 = C := ⟨_,rfl⟩
       have hCd9 : ∀ x ∈ C9,x.d.length ≤ 100000 := hC9 ▸ aOT hDm hSd9
       have hpln9 : ∀ t ∈ ts,(aBO (sgT p l vr fl key 0 ts) q C9 y19.n t key2 == 0) = (if txZ q C9 t y19 fl == 0 then (if txB q C9 t y19 fl == txB p l t y19 fl then key2 == key else false) else false) := fun t ht => by
        have h := aE1 (q := q) (m := m) (key2 := key2) hsg9 (hsl ▸ hsz9) hel hns9 oW ht
        rw [← hsy19,hC9,show ((dX l : Nat) : Int) = y19.n by rw [hsy19]; rfl] at h
        exact h
       have htx9 : ∀ t ∈ ts,0 ≤ fl ∧ fl ≤ 7 := fun t ht => by have h := aGr ((aAt hsg9).2.2.1 t ht).1; omega
       refine cU [2,0,2,0,0] [(bB2,20),(bB2,1)] (eE 94 (I6 (IntKind.i64.wrap ((m.length : Int) - 1))) (I6 ((m.length - 1 : Nat) : Int)) (congrArg (Value.int .i64) (aFI 1 rfl oW oW)) ?_)
       refine cU [7] [(b20,5)] ?_
       refine gO y19.cs 38 (fun r => (Sl r 0 1 1)) kR kR kR (fun g21 V21 hV21 hR21 => ?_)
       have k22 := k17.le hV21
       have k23 := k15.le hV21
       have k24 := k16.le hV21
       have hT21 : cX V21 (some ⟨g21,0,none⟩) [y19] := cX.of (show V21.range g21 0 ([y19].flatMap Bk.cs) from hR21) (fun x hx => by rw [List.mem_singleton.1 hx]; exact hSok) (show 1 ≤ R47 by decide)
       refine aAn 12 #[(bnV q d m.length g),(I6 ((m.length - 1 : Nat) : Int)),(I6 0),(Sl g21 0 1 1)] (aAQ q C9) (fun W hM => (show jK m [y19] (m.length - 1) 0 = C9 from hC9) ▸ aE5 q m [y19] (m.length - 1) 0 _ _ _ _ W hM.view (k22.up oW fun x hx => by have := hDm x hx; omega) hT21 hmne9 oW hmg oW (show 1 ≤ 1000000 by decide)) (fun v26 V26 hV26 hP26 => ?_)
       have k29 := k23.le hV26
       have k30 := k24.le hV26
       obtain ⟨a26,c26,rfl,hb26⟩ := hP26
       refine aY 1 bB2 (zn (zs (zQ 1 (zn (aB (gX (α := Nat) (fun x => [2,4,6,7,8,9,13,14].zip [(St key2),(Pt b1 0),(.bool false),(Pt bA2 0),(Pt bB2 0),(Pt eb6 0),(Pt b20 0),(L6 x)]) (fun x => V26) (fun x => [(bK bA2 (eB p a l.length c) 29),(bK bB2 (eB q a26 C9.length c26) 29),(bK b0 [(N6 p.f),(I6 p.c),(I6 p.dst.s),(St p.dst.l),(N6 p.dst.n),(N6 p.dst.v),(I6 p.src.s),(St p.src.l),(N6 p.src.n),(N6 p.src.v),(I6 p.rpt.s),(St p.rpt.l),(N6 p.rpt.n),(N6 p.rpt.v),(N6 p.time),(N6 p.seq),(N6 p.life),(N6 p.off),(N6 p.tot),(.slice a l.length c),(N6 q.f),(I6 q.c),(I6 q.dst.s),(St q.dst.l),(N6 q.dst.n),(N6 q.dst.v),(I6 q.src.s),(St q.src.l),(N6 q.src.n),(N6 q.src.v),(I6 q.rpt.s),(St q.rpt.l),(N6 q.rpt.n),(N6 q.rpt.v),(N6 q.time),(N6 q.seq),(N6 q.life),(N6 q.off),(N6 q.tot),(.slice d m.length g)] 47),(bK b1 [(I6 e.s),(St e.l),(N6 e.n),(N6 e.v),(I6 vr),(I6 fl),(St key),(.slice aS ts.length cS),(.bool true)] 50),(bK b10 [(.bool true),S0] 54),(bK b18 (eB p (some ⟨b19,f19,none⟩) sl.length c11) 29),(bK b20 y19.cs 38)]) (fun x => x ≤ ts.length) (fun x => ts.length - x) 0 ?_ ?_))))))
       · exact Nat.zero_le _
       intro x hx
       refine zs (zB [0,0,4,0,0] [(b1,1)] (zn (cD (decide ((x : Int) < (ts.length : Int))) (fun h6 => ?_) (fun h6 => ?_))))
       ·
        have h6d := of_decide_eq_true h6
        refine zk (zs (aB (zs ?_)))
        obtain ⟨y32,hy32⟩ : ∃ y,(ts)[x]? = some y := ⟨(ts)[x]'oW,List.getElem?_eq_getElem _⟩
        obtain ⟨b32,f32,rfl,hU32⟩ := k30.one hy32
        obtain ⟨hf09,hf79⟩ := htx9 y32 (List.mem_of_getElem? hy32)
        have hon9 := hpln9 y32 (List.mem_of_getElem? hy32)
        refine gU 0 [4,0,6,0,1,1,9,0,6,1,0,0,0,0] [(bB2,20),(b1,1),(b20,5),(b1,1)] [.val (Pt b32 (f32 + x)),.val (I6 y32),.val (.tuple #[(St (txB q C9 y32 y19 fl)),(I6 (txZ q C9 y32 y19 fl))])] ⟨?_,?_,?_,trivial⟩ ?_
        · exact vR (fW _ 3 _ _ rfl b32 f32 ts.length cS x .i64 kR kR (by first | assumption | omega) kR kR)
        · exact vU1 b32 (f32 + x) hU32 3 _ _ Tryz.underlying3 rfl
        · exact vC 20 #[(bnV q a26 C9.length c26),(I6 y32),(y19.V),(I6 fl)] (fun W hM => aBX q C9 _ _ y32 y19 fl W hM.view hqm hb26 hSok hf09 hf79 hCd9)
        refine zq 1 (zn (zs ?_))
        refine gU 0 [3,0,6,0,1,1,9,0,6,1,0,0,0,0] [(bA2,20),(b1,1),(b20,5),(b1,1)] [.val (Pt b32 (f32 + x)),.val (I6 y32),.val (.tuple #[(St (txB p l y32 y19 fl)),(I6 (txZ p l y32 y19 fl))])] ⟨?_,?_,?_,trivial⟩ ?_
        · exact vR (fW _ 3 _ _ rfl b32 f32 ts.length cS x .i64 kR kR (by first | assumption | omega) kR kR)
        · exact vU1 b32 (f32 + x) hU32 3 _ _ Tryz.underlying3 rfl
        · exact vC 20 #[(bnV p a l.length c),(I6 y32),(y19.V),(I6 fl)] (fun W hM => aBX p l _ _ y32 y19 fl W hM.view hpl (k29.up oW fun x hx => by have := hDl x hx; omega) hSok hf09 hf79 (fun x hx => by have := hDl x hx; omega))
        refine zq 1 (zn (zs ?_))
        refine gU 4 [0,4,0,9,0,6,0,1,1,0] [(bB2,20),(b20,1),(b1,1)] [.val (Pt b32 (f32 + x)),.val (I6 y32)] ⟨?_,?_,trivial⟩ ?_
        · exact vR (fW _ 3 _ _ rfl b32 f32 ts.length cS x .i64 kR kR (by first | assumption | omega) kR kR)
        · exact vU1 b32 (f32 + x) hU32 3 _ _ Tryz.underlying3 rfl
        refine dA 21 #[(Pt eb6 0),(bnV q a26 C9.length c26),(I6 y19.n),(I6 y32),(St key2)] (I6 (aBO (sgT p l vr fl key 0 ts) q C9 y19.n y32 key2)) (fun W hM => aAZ eA q C9 _ _ y19.n y32 key2 eb6 ib6 (sgT p l vr fl key 0 ts) W hM.view (hE.le (View.le_trans (View.le_trans (View.le_trans (View.le_trans (View.le_trans hV2 hV6) hV11) hX11) hV21) hV26)) hqm hb26 hCd9 (hV26 _ _ (hV21 _ _ (hX11 _ _ (hV11 _ _ hg6)))) (hU11.le (View.le_trans hV21 hV26))) ?_
        refine zq 2 (zn (zQ 4 (aK 146 ((txZ q C9 y32 y19 fl) == 0) (fun h7 => ?_) (fun h7 => ?_))))
        ·
         have h7d := eq_of_beq h7
         refine zq 2 (cH (.bool ((txB q C9 y32 y19 fl) == (txB p l y32 y19 fl))) (eJ _ _ _ _ rfl (txB q C9 y32 y19 fl) (txB p l y32 y19 fl) kR kR) ?_)
         refine zq 2 (aK 151 ((txB q C9 y32 y19 fl) == (txB p l y32 y19 fl)) (fun h8 => ?_) (fun h8 => ?_))
         ·
          have h8d := eq_of_beq h8
          refine cU [0,0,4] [(b1,1)] (cH (.bool (key2 == key)) (eJ _ _ _ _ rfl key2 key kR kR) ?_)
          refine zq 2 (zn (cD (!(((aBO (sgT p l vr fl key 0 ts) q C9 y19.n y32 key2) == 0) == (key2 == key))) (fun h9 => ?_) (fun h9 => ?_)))
          ·
           refine zQ 1 (zn (aA (aH [6] [(.bool false)] (fun W' hM => ?_))))
           exact absurd h9 (by simp [hon9,h7,h8])
          ·
           refine zk (zr (zq 2 (eV 104 ((x : Int) + 1) (zq 1 (zn ?_)))))
           refine nx (x + 1) ?_ ?_
           · show x + 1 ≤ _; omega
           · show ts.length - (x + 1) < ts.length - x; omega
         ·
          have h8d := beq_eq_false_iff_ne.1 h8
          refine zq 6 (zn (cD (!(((aBO (sgT p l vr fl key 0 ts) q C9 y19.n y32 key2) == 0) == false)) (fun h10 => ?_) (fun h10 => ?_)))
          ·
           refine zQ 1 (zn (aA (aH [6] [(.bool false)] (fun W' hM => ?_))))
           exact absurd h10 (by simp [hon9,h7,h8])
          ·
           refine zk (zr (zq 2 (eV 104 ((x : Int) + 1) (zq 1 (zn ?_)))))
           refine nx (x + 1) ?_ ?_
           · show x + 1 ≤ _; omega
           · show ts.length - (x + 1) < ts.length - x; omega
        ·
         have h7d := beq_eq_false_iff_ne.1 h7
         refine zq 11 (zn (cD (!(((aBO (sgT p l vr fl key 0 ts) q C9 y19.n y32 key2) == 0) == false)) (fun h11 => ?_) (fun h11 => ?_)))
         ·
          refine zQ 1 (zn (aA (aH [6] [(.bool false)] (fun W' hM => ?_))))
          exact absurd h11 (by simp [hon9,h7])
         ·
          refine zk (zr (zq 2 (eV 104 ((x : Int) + 1) (zq 1 (zn ?_)))))
          refine nx (x + 1) ?_ ?_
          · show x + 1 ≤ _; omega
          · show ts.length - (x + 1) < ts.length - x; omega
       ·
        refine aU (zQ 1 (zn (aA (jJ 6))))
    ·
     refine gF 0 (bK ib6 [S0] 76) 19 #[(Pt eb6 0),(bnV p a l.length c),(.agg #[(I6 e.s),(St e.l),(N6 e.n),(N6 e.v)]),(I6 vr),(I6 fl),(St key),(.slice aS ts.length cS)] (aGh ib6 [] p l e vr fl key ts) (fun W hM => aBa eA p l _ _ e vr fl key ts _ _ eb6 ib6 [] (hE.le (View.le_trans hV2 hV6)) hpl (k7.up oW fun x hx => by have := hDl x hx; omega) hel (k9.up htl9) hcS hg6 Tb.new (show 0 + ts.length ≤ 100 by omega) hM) (fun v33 V33 s33 hV33 hP33 => ?_)
     obtain ⟨P33,L33,a33,c33,z33,rfl,hb33,hz33⟩ := aNo h3 hP33
     refine lV _ [(bK bA2 (eB p a l.length c) 29),(bK bB2 (eB q d m.length g) 29),(bK b0 [(N6 p.f),(I6 p.c),(I6 p.dst.s),(St p.dst.l),(N6 p.dst.n),(N6 p.dst.v),(I6 p.src.s),(St p.src.l),(N6 p.src.n),(N6 p.src.v),(I6 p.rpt.s),(St p.rpt.l),(N6 p.rpt.n),(N6 p.rpt.v),(N6 p.time),(N6 p.seq),(N6 p.life),(N6 p.off),(N6 p.tot),(.slice a l.length c),(N6 q.f),(I6 q.c),(I6 q.dst.s),(St q.dst.l),(N6 q.dst.n),(N6 q.dst.v),(I6 q.src.s),(St q.src.l),(N6 q.src.n),(N6 q.src.v),(I6 q.rpt.s),(St q.rpt.l),(N6 q.rpt.n),(N6 q.rpt.v),(N6 q.time),(N6 q.seq),(N6 q.life),(N6 q.off),(N6 q.tot),(.slice d m.length g)] 47),(bK b1 [(I6 e.s),(St e.l),(N6 e.n),(N6 e.v),(I6 vr),(I6 fl),(St key),(.slice aS ts.length cS),(.bool true)] 50),(bK b10 [(.bool true),S0] 54)] (fun _ h => (h.sub (List.sublist_append_right _ _)).eqv kR) ?_
     refine zq 3 (cJ (fun b37 => (aY 5 b37 (zq 1 (zn (zs (zQ 3 (eE 67 (.bool (z33 != 0)) (.bool true) (congrArg Value.bool hz33) ?_))))))))
     refine zq 5 (zn (dF (zQ 1 (zn (aA (jJ 6))))))
end Go.Proofs.YtcdjakemdlinhaaGreatDoor.Sx
namespace Go.Proofs.YtcdjakemdlinhaaGreatDoor
open Go.ChangeShapes Go.WideShapes Go.ChangeAt Go.RowKit
theorem aC7 {H : Type} {enc : TypeId × Value → H} {C : Checked} {os : Os} {F : FuncId} {f : Func} {s : ChangeSpec} {apart fresh handsOn : Bool} {tb : TypeId} {L : List (String × DataW Unit)}
  (own : ownKnob C.prog.godebug = none) (started : os.Started) (noInit : C.prog.inits.idxOf? F = none) (hf : C.prog.funcs[F]? = some f)
  (witness : ∃ (w : World) (tape : Tape) (i : Input), w.os = os ∧ (w.forCall tape i).Shaped C.prog ∧ i.vars = [] ∧ Input.okWide C.prog (w.forCall tape i) .any w.heap.size F i ∧
   ((s.pre enc C.prog f [] apart (w.forCall tape i).memory i.args ∧ laidMetH C.prog L (w.forCall tape i).memory) ∧ sizedMet enc C.prog f (OpenSpec.ofChange s) apart (w.forCall tape i).memory i.args) ∧ ({} : Assume).holds C.prog (lone (Frame.enter C.prog F i.args .normal) [] (w.forCall tape i)))
  (hl : laidOutB C.prog = true) (hrd : (f.params.toList.all fun t => C.prog.readableRec t && decide (t < C.prog.types.size)) = true)
  (hvars : s.vars = []) (hr : f.resultTypes = #[tb]) (hbool : C.prog.underlying tb = some .bool)
  (hfn : ∀ ds : List (DataW H), ds.length = f.params.toList.length → (s.fn H ds).results = [.lit (.bool true)] ∧ (s.fn H ds).args = ds ∧ (s.fn H ds).vars = [])
  (walk : ∀ (W : World) (base : Nat) (args : Array Value) (ds : List (DataW H)) (ps : List MemPlace), laidMetH C.prog L W →
   (∀ (j : Nat) t v, f.params[j]? = some t → args[j]? = some v → Value.okWide C.prog W .any base t v) →
   DataW.TrodAll enc C.prog W 0 (fun _ => true) true f.params.toList args.toList ds ps →
   (∀ p ∈ ps, p.block < W.heap.size) →
   Calls C.prog F args W fun e W' => e = .returned (.bool true) ∧ Below W.heap.size W W') :
  ReturnsInHanded {} C os F .any (fun w args => (s.pre enc C.prog f [] apart w args ∧ laidMetH C.prog L w) ∧ sizedMet enc C.prog f (OpenSpec.ofChange s) apart w args) (s.post enc C.prog f apart fresh handsOn false) := by
 refine returnsInHanded_of_change_and (X := fun w _ => laidMetH C.prog L w) (fun _ _ _ hh h => h.of_heap hh) own started noInit hf witness ?_
 intro W base args ds gs before hval hW _ _ hL _
 have hW0 := hW
 obtain ⟨p, q, hA, hV, rfl, _, _⟩ := hW
 refine (walk W base args ds p hL hval hA fun x hx => hW0.lt x (List.mem_append_left _ hx)).mono fun e W' ⟨he, hb⟩ => ?_
 have hlen : ∀ {ts : List TypeId} {vs : List Value} {ds : List (DataW H)} {ps : List MemPlace}, DataW.TrodAll enc C.prog W 0 (fun _ => true) true ts vs ds ps → ds.length = ts.length := by
  intro ts
  induction ts with
  | nil => intro vs ds ps h; obtain ⟨_, rfl, _⟩ := trodAll_nil h; rfl
  | cons t ts ih => intro vs ds ps h; obtain ⟨v, vs', d, ds', p, q, _, rfl, _, _, hrest⟩ := trodAll_cons h; simp [ih hrest]
 exact ⟨_, he, aLb hl hrd hvars hr hbool (hfn ds (hlen hA)) hW0 hb⟩
end Go.Proofs.YtcdjakemdlinhaaGreatDoor
namespace Go.Proofs.YtcdjakemdlinhaaGreatDoor
open Go.ChangeShapes Go.WideShapes Go.ChangeAt Go.RowKit Go.Lib
def aLc : List (String × DataW Unit) := [("dromond/asb.errForm", Rows.laid_dromond_asb_errForm)]
def aLV (W : World) : Prop := ∃ eA, Sx.EF (Sx.aBT W) eA
theorem aFR : "*" ++ "errors.errorString" = "*errors.errorString" := by decide
set_option maxRecDepth 100000 in
theorem aMh (u : TypeId) (h : Tryz.prog.typeName? 3 u = some "*errors.errorString") : u = 338 :=
 typeName_ptr_named (nm := "errors.errorString") (by rw [aFR]; kernel_rfl) kR (by decide) u (by rw [aFR]; exact h)
set_option maxRecDepth 100000 in
theorem aI3 {W : World} (h : laidMetH Tryz.prog aLc W) : aLV W := by
 rw [MakeChecks.laidMetH_plain _ _ _ kR] at h
 have hrow : ∀ u, Tryz.prog.typeName? 3 u = some "*errors.errorString" → u = 338 := aMh
 obtain ⟨a1, s1, hv1, _⟩ := laid_sentinel (g := 0) (ti := 208) (tp := 338) (te := 431) (ts := 9) h kR kR Tryz.underlying208 hrow Tryz.underlying338 Tryz.underlying431 rfl rfl Tryz.underlying9 kR kR
 exact ⟨a1, (World.var?_cell (g := 0) kR hv1 0).trans rfl⟩
end Go.Proofs.YtcdjakemdlinhaaGreatDoor
