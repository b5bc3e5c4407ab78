/-
  Several texts in one: Rfb2 Lbw Lbs Lbl Lbx Opb Opc Lbo1 Asv Bcb3 Bcb4 Egn2 Rh1 Rh2.
  Conditions: named at each.
-/
import Derived.Test.YtcdjakemdlinhaaGreatDoorG11
set_option maxHeartbeats 16000000
set_option linter.unusedSimpArgs false
set_option linter.unusedVariables false
set_option linter.unusedSectionVars false
namespace Go.Proofs.YtcdjakemdlinhaaGreatDoor.Sx
open Go.ChangeShapes Go.WideShapes Go.ChangeAt Go.RowKit Go.Deep
def aNO (p : Pr) (l : List Bk) (v : Value) (V : View) : Prop := ∃ a c, v = bnV p a l.length c ∧ cX V a l ∧ l.length ≤ c
theorem aE4 {U : View} {b f : Nat} {xs : List Value} (h : U.range b f xs) (n : Nat) : U.range b (f + n) (xs.drop n) := fun j v hv => by
 rw [List.getElem?_drop] at hv
 have := h (n + j) v hv
 rwa [← Nat.add_assoc] at this
theorem aE3 {U : View} {b f : Nat} {xs : List Value} (h : U.range b f xs) (n : Nat) : U.range b f (xs.take n) := fun j v hv => by
 rw [List.getElem?_take] at hv
 split at hv
 · exact h j v hv
 · cases hv
theorem rM {V : View} {a : Option Addr} {xs : List Value} {l : List Bk} (h : qB V a xs) (e : xs = l.flatMap Bk.cs) (hok : ∀ x ∈ l, x.ok) (hlen : l.length ≤ R47) : cX V a l := by
 subst e
 cases l with
 | nil => exact ⟨fun i x hx => by simp at hx, hok, hlen⟩
 | cons y r =>
  obtain ⟨b, e, hr⟩ := h.at_ (by rw [List.flatMap_cons]; simp [Bk.cs])
  subst e
  exact cX.of hr hok hlen
def jK (l m : List Bk) (i k : Nat) : List Bk := l.take i ++ m ++ l.drop (i + k)
theorem aAp (p : Pr) (l m : List Bk) (i k : Nat) (a aM : Option Addr) (c cM : Nat) (w : World) {U : View} (hU : See U w) (hl : cX U a l) (hm : cX U aM m) (hne : l ≠ []) (hik : i + k ≤ l.length) (hc : l.length ≤ c) (hsm : l.length ≤ 1000000) (hsm2 : m.length ≤ 1000000) : CP 12 #[bnV p a l.length c, .int .i64 (i : Int), .int .i64 (k : Int), .slice aM m.length cM] w (rO w U (aNO p (jK l m i k))) := by
 obtain ⟨b,f,rfl,hr⟩ := hl.iO hne
 have hokL : ∀ x ∈ jK l m i k,x.ok := fun x hx => by
  unfold jK at hx
  rcases List.mem_append.1 hx with hx | hx
  ·
   rcases List.mem_append.1 hx with hx | hx
   · exact hl.ok x (List.mem_of_mem_take hx)
   · exact hm.ok x hx
  · exact hl.ok x (List.mem_of_mem_drop hx)
 have hLn : (jK l m i k).length = i + m.length + (l.length - (i + k)) := by
  unfold jK
  rw [List.length_append,List.length_append,List.length_take,List.length_drop]
  omega
 have ht9 : (l.take i).length = i := by rw [List.length_take]; omega
 have hd9 : (l.drop (i + k)).length = l.length - (i + k) := List.length_drop
 have hrA : U.range b f ((l.take i).flatMap Bk.cs) := by rw [← sZ]; exact aE3 hr _
 have hrB : U.range b (f + (i + k) * 5) ((l.drop (i + k)).flatMap Bk.cs) := by rw [← tD]; exact aE4 hr _
 refine eG 31 Tryz.func12 hU ?_
 refine zs (zr (cJ (fun b0 => (cJ (fun b1 => (zn (zQ 1 (zn (zB [0,0,1,0] [(b0,1)] (cH (Sl b f i c) (gD 27 38 (.tmp 12) none (some (.tmp 13)) none rfl b f l.length c 0 i c 5 i c f kR eR eR eR (by decide) oW oW oW oW oW (by first | rfl | (split <;> omega)) Tryz.underlying27 kR) ?_))))))))))
 rcases Bool.eq_false_or_eq_true (decide (0 < i)) with h0 | h0
 ·
  have h0d := of_decide_eq_true h0
  refine fV Rw.nil [] 0 [(bK b0 (eB p (some ⟨b,f,none⟩) l.length c) 29),(b1,.cells Z20.toArray 29 (0,0))] 38 27 5 48 i aN5 (Rw.ok_nil 5) (.tmp 10) (.tmp 14) rfl kR b f c ((l.take i).flatMap Bk.cs) kR (fun W hM => View.range_of hrA hM.view) ((mJ _).trans (congrArg (· * 5) ht9)) (mI _) (of_decide_eq_true h0) (by unfold maxLen; omega) oW kR kR kR kR kR (fun r2 hr2 => ?_)
  refine zq 1 (zn (zQ 2 ?_))
  rcases Bool.eq_false_or_eq_true (decide (0 < m.length)) with h1 | h1
  ·
   have h1d := of_decide_eq_true h1
   obtain ⟨bM,fM,rfl,hrM⟩ := hm.iO (by rintro rfl; have := of_decide_eq_true h1; simp at this)
   refine tT 2 38 27 48 m.length cM hr2 (fun W hM => View.range_of hrM hM.view) ((mJ _).trans (congrArg (· * 5) (Eq.refl m.length))) (mI _) (of_decide_eq_true h1) (fun r3 hr3 => ?_)
   refine zq 1 (zn (zB [0,0,1,0,0,0] [(b0,1)] (eE 24 (I6 (IntKind.i64.wrap ((i : Int) + (k : Int)))) (L6 (i + k)) (congrArg (Value.int .i64) (by rw [IntWalk.i64_in _ oW]; omega)) ?_)))
   refine cH (.slice (some ⟨b,(if c = (i + k) then f else f + (i + k) * 5),none⟩) (l.length - (i + k)) (c - (i + k))) (gD 27 38 (.tmp 21) (some (.tmp 24)) none none rfl b f l.length c (i + k) l.length c 5 (l.length - (i + k)) (c - (i + k)) (if c = (i + k) then f else f + (i + k) * 5) kR eR eR eR (by decide) oW oW oW oW oW (by first | rfl | (split <;> omega)) Tryz.underlying27 kR) ?_
   rcases Bool.eq_false_or_eq_true (decide (0 < (l.length - (i + k)))) with h2 | h2
   ·
    have h2d := of_decide_eq_true h2
    refine tT 2 38 27 48 (l.length - (i + k)) (c - (i + k)) hr3 (fun W hM => View.range_of (show U.range b (if c = (i + k) then f else f + (i + k) * 5) _ by rw [if_neg (by have := of_decide_eq_true h2; omega)]; exact hrB) hM.view) ((mJ _).trans (congrArg (· * 5) hd9)) (mI _) (of_decide_eq_true h2) (fun r4 hr4 => ?_)
    refine zq 1 (zn (zs (zr ?_)))
    refine pL r4 ((([] ++ ((l.take i).flatMap Bk.cs)) ++ (m.flatMap Bk.cs)) ++ ((l.drop (i + k)).flatMap Bk.cs)) 5 (((0 + i) + m.length) + (l.length - (i + k))) [(bK b0 (eB p (some ⟨b,f,none⟩) l.length c) 29),(b1,.cells Z20.toArray 29 (0,0))] 38 kR hr4 (fun a5 c5 V5 hV5 hR5 hE5 => ?_)
    rw [hE5]
    refine cU [0,1,0,0] [(b0,19)] (aY 1 b1 (zn (aA (dU [2] [(b1,20)] [(.agg #[(N6 p.f),(I6 p.c),(I6 p.dst.s),(St p.dst.l),(N6 p.dst.n),(N6 p.dst.v),(I6 p.src.s),(St p.src.l),(N6 p.src.n),(N6 p.src.v),(I6 p.rpt.s),(St p.rpt.l),(N6 p.rpt.n),(N6 p.rpt.v),(N6 p.time),(N6 p.seq),(N6 p.life),(N6 p.off),(N6 p.tot),(.slice a5 (((0 + i) + m.length) + (l.length - (i + k))) c5)])] (fun W' hM => ?_)))))
    have hN : (((0 + i) + m.length) + (l.length - (i + k))) = (jK l m i k).length := by rw [hLn]; omega
    obtain ⟨aC,cC,hvC,hcC⟩ := Rw.formC hr4
    rw [hE5] at hvC
    simp only [Value.slice.injEq,true_and] at hvC
    refine cF hM hV5 ⟨a5,c5,?_,rM hR5 (by unfold jK; simp only [List.flatMap_append,List.flatMap_nil,List.nil_append,List.append_nil]) hokL (by rw [hLn]; unfold R47; omega),by rw [hvC.2,← hN]; exact hcC⟩
    rw [← hN]
    rfl
   ·
    have h2d := of_decide_eq_false h2
    have hz6 : (l.length - (i + k)) = 0 := by have := of_decide_eq_false h2; omega
    have hn6 : (l.drop (i + k)) = [] := List.length_eq_zero_iff.1 (hd9.trans hz6)
    obtain ⟨xa6,xc6,xv6,xh6⟩ := Rw.formC hr3
    refine cH ((r3.V ((0 + i) + m.length))) (fun W => (pQ 27 38 5 _ _ rfl xa6 (some ⟨b,(if c = (i + k) then f else f + (i + k) * 5),none⟩) ((0 + i) + m.length) xc6 (c - (i + k)) (zX xv6) (zE hz6) xh6 Tryz.underlying27 kR W).trans (by rw [xv6])) ?_
    refine zq 1 (zn (zs (zr ?_)))
    refine pL r3 (([] ++ ((l.take i).flatMap Bk.cs)) ++ (m.flatMap Bk.cs)) 5 ((0 + i) + m.length) [(bK b0 (eB p (some ⟨b,f,none⟩) l.length c) 29),(b1,.cells Z20.toArray 29 (0,0))] 38 kR hr3 (fun a7 c7 V7 hV7 hR7 hE7 => ?_)
    rw [hE7]
    refine cU [0,1,0,0] [(b0,19)] (aY 1 b1 (zn (aA (dU [2] [(b1,20)] [(.agg #[(N6 p.f),(I6 p.c),(I6 p.dst.s),(St p.dst.l),(N6 p.dst.n),(N6 p.dst.v),(I6 p.src.s),(St p.src.l),(N6 p.src.n),(N6 p.src.v),(I6 p.rpt.s),(St p.rpt.l),(N6 p.rpt.n),(N6 p.rpt.v),(N6 p.time),(N6 p.seq),(N6 p.life),(N6 p.off),(N6 p.tot),(.slice a7 ((0 + i) + m.length) c7)])] (fun W' hM => ?_)))))
    have hN : ((0 + i) + m.length) = (jK l m i k).length := by rw [hLn]; omega
    obtain ⟨aC,cC,hvC,hcC⟩ := Rw.formC hr3
    rw [hE7] at hvC
    simp only [Value.slice.injEq,true_and] at hvC
    refine cF hM hV7 ⟨a7,c7,?_,rM hR7 (by unfold jK; simp only [hn6,List.flatMap_append,List.flatMap_nil,List.nil_append,List.append_nil]) hokL (by rw [hLn]; unfold R47; omega),by rw [hvC.2,← hN]; exact hcC⟩
    rw [← hN]
    rfl
  ·
   have h1d := of_decide_eq_false h1
   have hz8 : m.length = 0 := by have := of_decide_eq_false h1; omega
   have hn8 : m = [] := List.length_eq_zero_iff.1 ((Eq.refl m.length).trans hz8)
   obtain ⟨xa8,xc8,xv8,xh8⟩ := Rw.formC hr2
   refine cH ((r2.V (0 + i))) (fun W => (pQ 27 38 5 _ _ rfl xa8 aM (0 + i) xc8 cM (zX xv8) (zE hz8) xh8 Tryz.underlying27 kR W).trans (by rw [xv8])) ?_
   refine zq 1 (zn (zB [0,0,1,0,0,0] [(b0,1)] (eE 24 (I6 (IntKind.i64.wrap ((i : Int) + (k : Int)))) (L6 (i + k)) (congrArg (Value.int .i64) (by rw [IntWalk.i64_in _ oW]; omega)) ?_)))
   refine cH (.slice (some ⟨b,(if c = (i + k) then f else f + (i + k) * 5),none⟩) (l.length - (i + k)) (c - (i + k))) (gD 27 38 (.tmp 21) (some (.tmp 24)) none none rfl b f l.length c (i + k) l.length c 5 (l.length - (i + k)) (c - (i + k)) (if c = (i + k) then f else f + (i + k) * 5) kR eR eR eR (by decide) oW oW oW oW oW (by first | rfl | (split <;> omega)) Tryz.underlying27 kR) ?_
   rcases Bool.eq_false_or_eq_true (decide (0 < (l.length - (i + k)))) with h3 | h3
   ·
    have h3d := of_decide_eq_true h3
    refine tT 2 38 27 48 (l.length - (i + k)) (c - (i + k)) hr2 (fun W hM => View.range_of (show U.range b (if c = (i + k) then f else f + (i + k) * 5) _ by rw [if_neg (by have := of_decide_eq_true h3; omega)]; exact hrB) hM.view) ((mJ _).trans (congrArg (· * 5) hd9)) (mI _) (of_decide_eq_true h3) (fun r9 hr9 => ?_)
    refine zq 1 (zn (zs (zr ?_)))
    refine pL r9 (([] ++ ((l.take i).flatMap Bk.cs)) ++ ((l.drop (i + k)).flatMap Bk.cs)) 5 ((0 + i) + (l.length - (i + k))) [(bK b0 (eB p (some ⟨b,f,none⟩) l.length c) 29),(b1,.cells Z20.toArray 29 (0,0))] 38 kR hr9 (fun a10 c10 V10 hV10 hR10 hE10 => ?_)
    rw [hE10]
    refine cU [0,1,0,0] [(b0,19)] (aY 1 b1 (zn (aA (dU [2] [(b1,20)] [(.agg #[(N6 p.f),(I6 p.c),(I6 p.dst.s),(St p.dst.l),(N6 p.dst.n),(N6 p.dst.v),(I6 p.src.s),(St p.src.l),(N6 p.src.n),(N6 p.src.v),(I6 p.rpt.s),(St p.rpt.l),(N6 p.rpt.n),(N6 p.rpt.v),(N6 p.time),(N6 p.seq),(N6 p.life),(N6 p.off),(N6 p.tot),(.slice a10 ((0 + i) + (l.length - (i + k))) c10)])] (fun W' hM => ?_)))))
    have hN : ((0 + i) + (l.length - (i + k))) = (jK l m i k).length := by rw [hLn]; omega
    obtain ⟨aC,cC,hvC,hcC⟩ := Rw.formC hr9
    rw [hE10] at hvC
    simp only [Value.slice.injEq,true_and] at hvC
    refine cF hM hV10 ⟨a10,c10,?_,rM hR10 (by unfold jK; simp only [hn8,List.flatMap_append,List.flatMap_nil,List.nil_append,List.append_nil]) hokL (by rw [hLn]; unfold R47; omega),by rw [hvC.2,← hN]; exact hcC⟩
    rw [← hN]
    rfl
   ·
    have h3d := of_decide_eq_false h3
    have hz11 : (l.length - (i + k)) = 0 := by have := of_decide_eq_false h3; omega
    have hn11 : (l.drop (i + k)) = [] := List.length_eq_zero_iff.1 (hd9.trans hz11)
    obtain ⟨xa11,xc11,xv11,xh11⟩ := Rw.formC hr2
    refine cH ((r2.V (0 + i))) (fun W => (pQ 27 38 5 _ _ rfl xa11 (some ⟨b,(if c = (i + k) then f else f + (i + k) * 5),none⟩) (0 + i) xc11 (c - (i + k)) (zX xv11) (zE hz11) xh11 Tryz.underlying27 kR W).trans (by rw [xv11])) ?_
    refine zq 1 (zn (zs (zr ?_)))
    refine pL r2 ([] ++ ((l.take i).flatMap Bk.cs)) 5 (0 + i) [(bK b0 (eB p (some ⟨b,f,none⟩) l.length c) 29),(b1,.cells Z20.toArray 29 (0,0))] 38 kR hr2 (fun a12 c12 V12 hV12 hR12 hE12 => ?_)
    rw [hE12]
    refine cU [0,1,0,0] [(b0,19)] (aY 1 b1 (zn (aA (dU [2] [(b1,20)] [(bnV p a12 (0 + i) c12)] (fun W' hM => ?_)))))
    have hN : (0 + i) = (jK l m i k).length := by rw [hLn]; omega
    obtain ⟨aC,cC,hvC,hcC⟩ := Rw.formC hr2
    rw [hE12] at hvC
    simp only [Value.slice.injEq,true_and] at hvC
    refine cF hM hV12 ⟨a12,c12,?_,rM hR12 (by unfold jK; simp only [hn8,hn11,List.flatMap_append,List.flatMap_nil,List.nil_append,List.append_nil]) hokL (by rw [hLn]; unfold R47; omega),by rw [hvC.2,← hN]; exact hcC⟩
    rw [← hN]
    rfl
 ·
  have h0d := of_decide_eq_false h0
  have hz13 : i = 0 := by have := of_decide_eq_false h0; omega
  have hn13 : (l.take i) = [] := List.length_eq_zero_iff.1 (ht9.trans hz13)
  refine cH (S0) (by exact pQ 27 38 5 _ _ rfl none (some ⟨b,f,none⟩) 0 0 c kR (zE hz13) (Nat.le_refl _) Tryz.underlying27 kR) ?_
  refine zq 1 (zn (zQ 2 ?_))
  rcases Bool.eq_false_or_eq_true (decide (0 < m.length)) with h4 | h4
  ·
   have h4d := of_decide_eq_true h4
   obtain ⟨bM,fM,rfl,hrM⟩ := hm.iO (by rintro rfl; have := of_decide_eq_true h4; simp at this)
   refine fV Rw.nil [] 0 [(bK b0 (eB p (some ⟨b,f,none⟩) l.length c) 29),(b1,.cells Z20.toArray 29 (0,0))] 38 27 5 48 m.length aN5 (Rw.ok_nil 5) (.tmp 16) (.tmp 17) rfl kR bM fM cM (m.flatMap Bk.cs) kR (fun W hM => View.range_of hrM hM.view) ((mJ _).trans (congrArg (· * 5) (Eq.refl m.length))) (mI _) (of_decide_eq_true h4) (by unfold maxLen; omega) oW kR kR kR kR kR (fun r14 hr14 => ?_)
   refine zq 1 (zn (zB [0,0,1,0,0,0] [(b0,1)] (eE 24 (I6 (IntKind.i64.wrap ((i : Int) + (k : Int)))) (L6 (i + k)) (congrArg (Value.int .i64) (by rw [IntWalk.i64_in _ oW]; omega)) ?_)))
   refine cH (.slice (some ⟨b,(if c = (i + k) then f else f + (i + k) * 5),none⟩) (l.length - (i + k)) (c - (i + k))) (gD 27 38 (.tmp 21) (some (.tmp 24)) none none rfl b f l.length c (i + k) l.length c 5 (l.length - (i + k)) (c - (i + k)) (if c = (i + k) then f else f + (i + k) * 5) kR eR eR eR (by decide) oW oW oW oW oW (by first | rfl | (split <;> omega)) Tryz.underlying27 kR) ?_
   rcases Bool.eq_false_or_eq_true (decide (0 < (l.length - (i + k)))) with h5 | h5
   ·
    have h5d := of_decide_eq_true h5
    refine tT 2 38 27 48 (l.length - (i + k)) (c - (i + k)) hr14 (fun W hM => View.range_of (show U.range b (if c = (i + k) then f else f + (i + k) * 5) _ by rw [if_neg (by have := of_decide_eq_true h5; omega)]; exact hrB) hM.view) ((mJ _).trans (congrArg (· * 5) hd9)) (mI _) (of_decide_eq_true h5) (fun r15 hr15 => ?_)
    refine zq 1 (zn (zs (zr ?_)))
    refine pL r15 (([] ++ (m.flatMap Bk.cs)) ++ ((l.drop (i + k)).flatMap Bk.cs)) 5 ((0 + m.length) + (l.length - (i + k))) [(bK b0 (eB p (some ⟨b,f,none⟩) l.length c) 29),(b1,.cells Z20.toArray 29 (0,0))] 38 kR hr15 (fun a16 c16 V16 hV16 hR16 hE16 => ?_)
    rw [hE16]
    refine cU [0,1,0,0] [(b0,19)] (aY 1 b1 (zn (aA (dU [2] [(b1,20)] [(.agg #[(N6 p.f),(I6 p.c),(I6 p.dst.s),(St p.dst.l),(N6 p.dst.n),(N6 p.dst.v),(I6 p.src.s),(St p.src.l),(N6 p.src.n),(N6 p.src.v),(I6 p.rpt.s),(St p.rpt.l),(N6 p.rpt.n),(N6 p.rpt.v),(N6 p.time),(N6 p.seq),(N6 p.life),(N6 p.off),(N6 p.tot),(.slice a16 ((0 + m.length) + (l.length - (i + k))) c16)])] (fun W' hM => ?_)))))
    have hN : ((0 + m.length) + (l.length - (i + k))) = (jK l m i k).length := by rw [hLn]; omega
    obtain ⟨aC,cC,hvC,hcC⟩ := Rw.formC hr15
    rw [hE16] at hvC
    simp only [Value.slice.injEq,true_and] at hvC
    refine cF hM hV16 ⟨a16,c16,?_,rM hR16 (by unfold jK; simp only [hn13,List.flatMap_append,List.flatMap_nil,List.nil_append,List.append_nil]) hokL (by rw [hLn]; unfold R47; omega),by rw [hvC.2,← hN]; exact hcC⟩
    rw [← hN]
    rfl
   ·
    have h5d := of_decide_eq_false h5
    have hz17 : (l.length - (i + k)) = 0 := by have := of_decide_eq_false h5; omega
    have hn17 : (l.drop (i + k)) = [] := List.length_eq_zero_iff.1 (hd9.trans hz17)
    obtain ⟨xa17,xc17,xv17,xh17⟩ := Rw.formC hr14
    refine cH ((r14.V (0 + m.length))) (fun W => (pQ 27 38 5 _ _ rfl xa17 (some ⟨b,(if c = (i + k) then f else f + (i + k) * 5),none⟩) (0 + m.length) xc17 (c - (i + k)) (zX xv17) (zE hz17) xh17 Tryz.underlying27 kR W).trans (by rw [xv17])) ?_
    refine zq 1 (zn (zs (zr ?_)))
    refine pL r14 ([] ++ (m.flatMap Bk.cs)) 5 (0 + m.length) [(bK b0 (eB p (some ⟨b,f,none⟩) l.length c) 29),(b1,.cells Z20.toArray 29 (0,0))] 38 kR hr14 (fun a18 c18 V18 hV18 hR18 hE18 => ?_)
    rw [hE18]
    refine cU [0,1,0,0] [(b0,19)] (aY 1 b1 (zn (aA (dU [2] [(b1,20)] [(bnV p a18 (0 + m.length) c18)] (fun W' hM => ?_)))))
    have hN : (0 + m.length) = (jK l m i k).length := by rw [hLn]; omega
    obtain ⟨aC,cC,hvC,hcC⟩ := Rw.formC hr14
    rw [hE18] at hvC
    simp only [Value.slice.injEq,true_and] at hvC
    refine cF hM hV18 ⟨a18,c18,?_,rM hR18 (by unfold jK; simp only [hn13,hn17,List.flatMap_append,List.flatMap_nil,List.nil_append,List.append_nil]) hokL (by rw [hLn]; unfold R47; omega),by rw [hvC.2,← hN]; exact hcC⟩
    rw [← hN]
    rfl
  ·
   have h4d := of_decide_eq_false h4
   have hz19 : m.length = 0 := by have := of_decide_eq_false h4; omega
   have hn19 : m = [] := List.length_eq_zero_iff.1 ((Eq.refl m.length).trans hz19)
   refine cH (S0) (by exact pQ 27 38 5 _ _ rfl none aM 0 0 cM kR (zE hz19) (Nat.le_refl _) Tryz.underlying27 kR) ?_
   refine zq 1 (zn (zB [0,0,1,0,0,0] [(b0,1)] (eE 24 (I6 (IntKind.i64.wrap ((i : Int) + (k : Int)))) (L6 (i + k)) (congrArg (Value.int .i64) (by rw [IntWalk.i64_in _ oW]; omega)) ?_)))
   refine cH (.slice (some ⟨b,(if c = (i + k) then f else f + (i + k) * 5),none⟩) (l.length - (i + k)) (c - (i + k))) (gD 27 38 (.tmp 21) (some (.tmp 24)) none none rfl b f l.length c (i + k) l.length c 5 (l.length - (i + k)) (c - (i + k)) (if c = (i + k) then f else f + (i + k) * 5) kR eR eR eR (by decide) oW oW oW oW oW (by first | rfl | (split <;> omega)) Tryz.underlying27 kR) ?_
   rcases Bool.eq_false_or_eq_true (decide (0 < (l.length - (i + k)))) with h6 | h6
   ·
    have h6d := of_decide_eq_true h6
    refine fV Rw.nil [] 0 [(bK b0 (eB p (some ⟨b,f,none⟩) l.length c) 29),(b1,.cells Z20.toArray 29 (0,0))] 38 27 5 48 (l.length - (i + k)) aN5 (Rw.ok_nil 5) (.tmp 19) (.tmp 25) rfl kR b (if c = (i + k) then f else f + (i + k) * 5) (c - (i + k)) ((l.drop (i + k)).flatMap Bk.cs) kR (fun W hM => View.range_of (show U.range b (if c = (i + k) then f else f + (i + k) * 5) _ by rw [if_neg (by have := of_decide_eq_true h6; omega)]; exact hrB) hM.view) ((mJ _).trans (congrArg (· * 5) hd9)) (mI _) (of_decide_eq_true h6) (by unfold maxLen; omega) oW kR kR kR kR kR (fun r20 hr20 => ?_)
    refine zq 1 (zn (zs (zr ?_)))
    refine pL r20 ([] ++ ((l.drop (i + k)).flatMap Bk.cs)) 5 (0 + (l.length - (i + k))) [(bK b0 (eB p (some ⟨b,f,none⟩) l.length c) 29),(b1,.cells Z20.toArray 29 (0,0))] 38 kR hr20 (fun a21 c21 V21 hV21 hR21 hE21 => ?_)
    rw [hE21]
    refine cU [0,1,0,0] [(b0,19)] (aY 1 b1 (zn (aA (dU [2] [(b1,20)] [(.agg #[(N6 p.f),(I6 p.c),(I6 p.dst.s),(St p.dst.l),(N6 p.dst.n),(N6 p.dst.v),(I6 p.src.s),(St p.src.l),(N6 p.src.n),(N6 p.src.v),(I6 p.rpt.s),(St p.rpt.l),(N6 p.rpt.n),(N6 p.rpt.v),(N6 p.time),(N6 p.seq),(N6 p.life),(N6 p.off),(N6 p.tot),(.slice a21 (0 + (l.length - (i + k))) c21)])] (fun W' hM => ?_)))))
    have hN : (0 + (l.length - (i + k))) = (jK l m i k).length := by rw [hLn]; omega
    obtain ⟨aC,cC,hvC,hcC⟩ := Rw.formC hr20
    rw [hE21] at hvC
    simp only [Value.slice.injEq,true_and] at hvC
    refine cF hM hV21 ⟨a21,c21,?_,rM hR21 (by unfold jK; simp only [hn13,hn19,List.flatMap_append,List.flatMap_nil,List.nil_append,List.append_nil]) hokL (by rw [hLn]; unfold R47; omega),by rw [hvC.2,← hN]; exact hcC⟩
    rw [← hN]
    rfl
   ·
    have h6d := of_decide_eq_false h6
    have hz22 : (l.length - (i + k)) = 0 := by have := of_decide_eq_false h6; omega
    have hn22 : (l.drop (i + k)) = [] := List.length_eq_zero_iff.1 (hd9.trans hz22)
    refine cH (S0) (by exact pQ 27 38 5 _ _ rfl none (some ⟨b,(if c = (i + k) then f else f + (i + k) * 5),none⟩) 0 0 (c - (i + k)) kR (zE hz22) (Nat.le_refl _) Tryz.underlying27 kR) ?_
    refine zq 1 (zn (zB [0,1,0,0] [(b0,19)] (aY 1 b1 (zn (aA (dU [2] [(b1,20)] [(bnV p none 0 0)] (fun W' hM => ?_)))))))
    have hW : jK l m i k = [] := by unfold jK; simp only [hn13,hn19,hn22,List.append_nil]
    refine cF hM (View.le_refl _) ⟨none,0,?_,?_,?_⟩
    · rw [hW]; rfl
    · rw [hW]; exact cX.nil
    · rw [hW]; exact Nat.le_refl _
theorem aE5 (p : Pr) (l m : List Bk) (i k : Nat) (a aM : Option Addr) (c cM : Nat) (w : World) {U : View} (hU : See U w) (hl : cX U a l) (hm : cX U aM m) (hne : l ≠ []) (hik : i + k ≤ l.length) (hc : l.length ≤ c) (hsm : l.length ≤ 1000000) (hsm2 : m.length ≤ 1000000) : CP 12 #[bnV p a l.length c, .int .i64 (i : Int), .int .i64 (k : Int), .slice aM m.length cM] w (rO w U (aAQ p (jK l m i k))) :=
 (aAp p l m i k a aM c cM w hU hl hm hne hik hc hsm hsm2).mono fun e w' h => by
  obtain ⟨v, V', h1, h2, h3, h4, h5, a2, c2, h6, h7, _⟩ := h
  exact ⟨v, V', h1, h2, h3, h4, h5, a2, c2, h6, h7⟩
def tU : Pr := ⟨0, 0, ⟨2, [], 2, 0⟩, ⟨2, [], 1, 0⟩, ⟨1, [110, 111, 110, 101], 0, 0⟩, 5, 0, 100, 0, 0⟩
def aBL : Bk := ⟨1, 1, 0, 0, [104, 105]⟩
def aNS : List UInt8 := [48, 49, 50, 51, 52, 53, 54, 55, 56, 57, 97, 98, 99, 100, 101, 102]
def rT : List UInt8 := [110, 111, 110, 99, 101, 110, 111, 110, 99, 101, 49, 50]
theorem aEI : aZ tU [aBL] = 0 := by kernel_rfl
theorem aFJ : aCg [aBL] = some [] := rfl
theorem aHT : aDZ tU [aBL] [] = 0 := by kernel_rfl
theorem aGF : jP tU [aBL] = 0 := by
 unfold jP
 rw [aEI, aFJ]
 exact aHT
theorem aEJ : fI [aBL] 2 [1] = 0 := by kernel_rfl
theorem aHW : (gC .u64 (tU.f : Int) 1 != 0) = false := by kernel_rfl
theorem aHV : dX [aBL] = 2 := by kernel_rfl
theorem aKf : aDZ tU [aBL] [⟨2, 2, 1⟩] = 0 := by kernel_rfl
theorem aKg : aDw tU [aBL] 2 [1] = 0 := by
 unfold aDw
 rw [aGF, aEJ, if_neg (by decide), if_neg (by decide), if_neg (by rw [aHW]; exact Bool.false_ne_true)]
 unfold aIX
 rw [aFJ, aHV]
 exact aKf
theorem aKh : eV [aBL] 1 (rR [aBL]) 0 = 0 := by kernel_rfl
theorem aGG : gV 1 aNS rT = true := by kernel_rfl
theorem aLY : aX tU.src = true := by kernel_rfl
theorem aBX : aZ tU (iZ [aBL] tU.src 1 0 rT 1) = 0 := by kernel_rfl
theorem aHS : dT tU [aBL] tU.src 1 0 aNS rT 1 = (tU, iZ [aBL] tU.src 1 0 rT 1, 0) := by
 unfold dT
 rw [aKg, aLY, aKh, aGG, aBX, if_neg (by decide), if_neg (by decide), if_neg (by decide), if_neg (by decide)]
 unfold iD tO
 rw [aBX, if_neg (by decide), if_neg (by decide)]
theorem aHU : ∃ y, iZ [aBL] tU.src 1 0 rT 1 = [gT [aBL] tU.src 1 0 rT 1, y] := ⟨_, rfl⟩
theorem aD3 (w : World) {U : View} (hU : See U w) : CP 30 #[] w (rO w U (aAQ tU [aBL])) := by
 refine eG 10 Tryz.func30 hU ?_
 refine zs (zr (cJ (fun b0 => (zn (zQ 4 (cJ (fun b1 => (aY 1 b1 (zn (zB [2,0] [(b1,19)] ?_))))))))))
 refine gO [(I6 1),(I6 1),(U6 0),(I6 0),(St [104,105])] 38 (fun r => (Sl r 0 1 1)) kR kR kR (fun g2 V2 hV2 hR2 => ?_)
 have hT2 : cX V2 (some ⟨g2,0,none⟩) [aBL] := cX.of (show V2.range g2 0 ([aBL].flatMap Bk.cs) from hR2) (fun x hx => by rw [List.mem_singleton.1 hx]; exact ⟨(show (0 : Nat) < W64 by decide),(show (2 : Nat) ≤ R47 by decide)⟩) (show 1 ≤ R47 by decide)
 refine zq 1 (aY 0 b0 (zn (aA (dU [1] [(b0,20)] [(.agg #[(U6 0),(I6 0),(I6 2),(St []),(U6 2),(U6 0),(I6 2),(St []),(U6 1),(U6 0),(I6 1),(St [110,111,110,101]),(U6 0),(U6 0),(U6 5),(U6 0),(U6 100),(U6 0),(U6 0),(Sl g2 0 1 1)])] (fun W' hM => ?_)))))
 exact cF hM hV2 ⟨some ⟨g2,0,none⟩,1,rfl,hT2⟩
theorem aIL (A F S : aF) : ((A ++ F) ++ S).Perm (A ++ (S ++ F)) := by
 rw [List.append_assoc]
 exact List.Perm.append_left A List.perm_append_comm
def aFF (p : Pr) (l : List Bk) (e : Ei) (vr fl : Int) (key nonce : List UInt8) (target : Int) (ib : Nat) (v : Value) (V : View) (σ' : aF) : Prop := aMQ (dT p l e vr fl key nonce target) v V ∧ oX (aBO p l e vr fl key nonce target) ib (aMW vr key nonce (gB p l target (rR l) fl) (aJ l target).1.d (Eng.aI 1 (aJ l target).1.d.length) (Eng.aI 1 (dC vr))) V σ'
theorem aI4 (eA : Addr) (p : Pr) (l : List Bk) (a : Option Addr) (c : Nat) (e : Ei) (vr fl : Int) (key nonce : List UInt8) (target : Int) (id : Bool) (eb ib : Nat) {W0 : Cx} {U : View} {σF : aF} {W : World} (hE : EF U eA) (hp : p.ok) (hl : cX U a l) (he : e.ok) (hg : aBV U eb ib) (hM : Mem W0 U (aEB ib ++ σF) W) :
    CP 13 #[.pointer (some ⟨eb, 0, none⟩), bnV p a l.length c, wyV e vr fl key nonce target id] W (fN W0 U σF (aFF p l e vr fl key nonce target ib)) := by
 have hM2 : Mem W0 U ([(bK ib [S0] 76)] ++ σF) W := hM.eqv kR
 refine eC 29 Tryz.func13 hM2 ?_
 refine zs (zr (dN 1 (fun b0 => ?_)))
 refine dN 2 (fun b1 => ?_)
 refine dN 3 (fun b2 => ?_)
 refine zq 1 (zn (zB [0,2,0,3,0,0,3,0,0,3,0,0,3,0,0,3,0,3] [(b0,20),(b1,4),(b1,1),(b1,1),(b1,1),(b1,1),(b1,1)] (gF 0 (bK ib [S0] 76) 29 #[(Pt eb 0),(bnV p a l.length c),(.agg #[(I6 e.s),(St e.l),(N6 e.n),(N6 e.v)]),(I6 vr),(I6 fl),(St key),(St nonce),(I6 target)] (aFF p l e vr fl key nonce target ib) (fun W hM => aEr eA p l _ _ e vr fl key nonce target eb ib hE hp hl he hg hM) (fun v3 V3 s3 hV3 hP3 => ?_))))
 obtain ⟨⟨a3,c3,rfl,hb3⟩,ht3⟩ := hP3
 refine lV _ (([(bK b0 (eB p a l.length c) 29),(bK b1 [(I6 e.s),(St e.l),(N6 e.n),(N6 e.v),(I6 vr),(I6 fl),(St key),(St nonce),(I6 target),(.bool id)] 33),(b2,.cells Z20.toArray 29 (0,0))] ++ σF) ++ s3) (fun _ h => (h.perm List.perm_append_comm).eqv kR) ?_
 refine zq 2 (aY 2 b2 (zq 1 (zn (aA (dU [3,0] [(b2,20)] [(.agg #[(N6 (dT p l e vr fl key nonce target).1.f),(I6 (dT p l e vr fl key nonce target).1.c),(I6 (dT p l e vr fl key nonce target).1.dst.s),(St (dT p l e vr fl key nonce target).1.dst.l),(N6 (dT p l e vr fl key nonce target).1.dst.n),(N6 (dT p l e vr fl key nonce target).1.dst.v),(I6 (dT p l e vr fl key nonce target).1.src.s),(St (dT p l e vr fl key nonce target).1.src.l),(N6 (dT p l e vr fl key nonce target).1.src.n),(N6 (dT p l e vr fl key nonce target).1.src.v),(I6 (dT p l e vr fl key nonce target).1.rpt.s),(St (dT p l e vr fl key nonce target).1.rpt.l),(N6 (dT p l e vr fl key nonce target).1.rpt.n),(N6 (dT p l e vr fl key nonce target).1.rpt.v),(N6 (dT p l e vr fl key nonce target).1.time),(N6 (dT p l e vr fl key nonce target).1.seq),(N6 (dT p l e vr fl key nonce target).1.life),(N6 (dT p l e vr fl key nonce target).1.off),(N6 (dT p l e vr fl key nonce target).1.tot),(.slice a3 (dT p l e vr fl key nonce target).2.1.length c3)]),(I6 (dT p l e vr fl key nonce target).2.2)] (fun W' hM => ?_))))))
 have hM9 := (hM.eqv (show _ = (([(bK b0 (eB p a l.length c) 29),(bK b1 [(I6 e.s),(St e.l),(N6 e.n),(N6 e.v),(I6 vr),(I6 fl),(St key),(St nonce),(I6 target),(.bool id)] 33),(bK b2 [(N6 (dT p l e vr fl key nonce target).1.f),(I6 (dT p l e vr fl key nonce target).1.c),(I6 (dT p l e vr fl key nonce target).1.dst.s),(St (dT p l e vr fl key nonce target).1.dst.l),(N6 (dT p l e vr fl key nonce target).1.dst.n),(N6 (dT p l e vr fl key nonce target).1.dst.v),(I6 (dT p l e vr fl key nonce target).1.src.s),(St (dT p l e vr fl key nonce target).1.src.l),(N6 (dT p l e vr fl key nonce target).1.src.n),(N6 (dT p l e vr fl key nonce target).1.src.v),(I6 (dT p l e vr fl key nonce target).1.rpt.s),(St (dT p l e vr fl key nonce target).1.rpt.l),(N6 (dT p l e vr fl key nonce target).1.rpt.n),(N6 (dT p l e vr fl key nonce target).1.rpt.v),(N6 (dT p l e vr fl key nonce target).1.time),(N6 (dT p l e vr fl key nonce target).1.seq),(N6 (dT p l e vr fl key nonce target).1.life),(N6 (dT p l e vr fl key nonce target).1.off),(N6 (dT p l e vr fl key nonce target).1.tot),(.slice a3 (dT p l e vr fl key nonce target).2.1.length c3)] 29)] ++ σF) ++ s3) from by kernel_rfl)).perm (aIL _ _ _)
 exact aKB hM9 (List.sublist_append_right _ _) hV3 ⟨⟨_,_,rfl,hb3⟩,ht3⟩
theorem aLK : tU.ok := by
 constructor <;> first | (constructor <;> decide) | decide
theorem qJ (eA : Addr) (w : World) {U : View} (hU : See U w) (hE : EF U eA) : CP 10 #[] w (Ret (.bool true) w) := by
 refine eG 30 Tryz.func10 hU ?_
 refine zQ 1 (zn (zs (zr (aKp 14 #[] (aFG) (fun W hM => aD6 hM) (fun v0 V0 s0 hV0 hP0 => ?_)))))
 obtain ⟨eb0,ib0,rfl,hg0,rfl⟩ := hP0
 refine zq 1 (zn (zQ 1 (aED (fun W hM => aD3 W hM.view) (fun v1 V1 hV1 hP1 => ?_))))
 obtain ⟨a1,c1,rfl,hb1⟩ := hP1
 refine aED (fun W hM => aD3 W hM.view) (fun v2 V2 hV2 hP2 => ?_)
 have k3 := hb1.le hV2
 obtain ⟨a2,c2,rfl,hb2⟩ := hP2
 refine zq 2 (gF 0 (bK ib0 [S0] 76) 29 #[(Pt eb0 0),(bnV tU a1 [aBL].length c1),(.agg #[(I6 tU.src.s),(St tU.src.l),(N6 tU.src.n),(N6 tU.src.v)]),(I6 1),(I6 0),(St [48,49,50,51,52,53,54,55,56,57,97,98,99,100,101,102]),(St [110,111,110,99,101,110,111,110,99,101,49,50]),(I6 1)] (aFF tU [aBL] tU.src 1 0 aNS rT 1 ib0) (fun W hM => aEr eA tU [aBL] _ _ tU.src 1 0 aNS rT 1 eb0 ib0 (hE.le (View.le_trans (View.le_trans hV0 hV1) hV2)) aLK k3 aLK.src (hV2 _ _ (hV1 _ _ hg0)) hM) (fun v4 V4 s4 hV4 hP4 => ?_))
 obtain ⟨hp4,ht4⟩ := hP4
 rw [aHS] at hp4
 obtain ⟨y9,hy9⟩ := aHU
 rw [hy9] at hp4
 obtain ⟨a4,c4,rfl,hb4⟩ := hp4
 refine lV _ [] (fun _ h => (h.sub (List.sublist_append_right _ _)).eqv kR) ?_
 obtain ⟨bY,fY,rfl,hUY⟩ := hb4.at_ 0 (gT [aBL] tU.src 1 0 rT 1) rfl
 refine zq 3 (cJ (fun b6 => (aY 0 b6 (zq 1 (zn (zB [0,0,0,0,1,0,0,0,0,0,1] [(b6,1),(b6,1)] (cH (Pt bY (fY + 0 * 5)) (rIx 38 rfl bY fY 2 c4 0 5) ?_)))))))
 refine zq 1 (zV bY (fY + 0 * 5 + 0) (I6 12) (hUY 0 _ rfl) 3 (.tmp 26) _ Tryz.underlying3 rfl ?_)
 refine zq 3 (zn (aA (jJ 0)))
theorem Ch2.start {i j : Nat} {init : aF} {A1 A2 : Value → View → aF → Prop} {u : Nat → Value} {V : View} : Ch2 i j init A1 A2 (fun _ => false) u V init := by
 unfold Ch2
 simp
theorem Ch2.got {i j : Nat} {init : aF} {A1 A2 : Value → View → aF → Prop} {L : Nat → Bool} {u : Nat → Value} {V : View} {S : aF} (hj : L j = true) (h : Ch2 i j init A1 A2 L u V S) : A2 (u i) V S := by
 unfold Ch2 at h
 rw [if_pos hj] at h
 exact h
theorem aMz {l : List Bk} {t : Int} (h : decide (gH l t < 0) = false) : ∃ i : Nat, gH l t = (i : Int) ∧ i < l.length := by
 have h0 := of_decide_eq_false h
 obtain ⟨h1, h2⟩ := aDc h0
 exact ⟨_, h2, h1⟩
structure Ei.ok0 (e : Ei) : Prop where
 n : e.n < W64
 v : e.v < W64
structure Pr.ok0 (p : Pr) : Prop where
 f : p.f < W64
 dst : p.dst.ok0
 src : p.src.ok0
 rpt : p.rpt.ok0
 time : p.time < W64
 seq : p.seq < W64
 life : p.life < W64
 off : p.off < W64
 tot : p.tot < W64
theorem Ei.ok0.up {e : Ei} (h : e.ok0) (hf : aBw e = true) : e.ok := ⟨by unfold aBw at hf; have := of_decide_eq_true hf; unfold R47; omega, h.n, h.v⟩
theorem Pr.ok0.up {p : Pr} (h : p.ok0) (hf : aDf p = true) : p.ok := by
 unfold aDf at hf
 simp only [Bool.and_eq_true] at hf
 exact ⟨h.f, h.dst.up hf.1.1, h.src.up hf.1.2, h.rpt.up hf.2, h.time, h.seq, h.life, h.off, h.tot⟩
theorem aEf {p : Pr} {l : List Bk} {e : Ei} {key nonce : List UInt8} (hp : p.ok0) (he : e.ok0) (h : (!aGj p l e key nonce) = false) : l.length ≤ 18 ∧ (∀ x ∈ l, x.d.length ≤ 4100) ∧ p.ok ∧ e.ok := by
 have h' : aGj p l e key nonce = true := by simpa using h
 unfold aGj at h'
 simp only [Bool.and_eq_true, decide_eq_true_eq] at h'
 obtain ⟨⟨⟨⟨⟨h1, h2⟩, h3⟩, h4⟩, h5⟩, h6⟩ := h'
 have h7 := lP h1
 unfold aAC at h1
 simp only [Bool.and_eq_true] at h1
 exact ⟨by omega, h7.2, hp.up h1.2, he.up h3⟩
theorem aHQ {l : List Bk} {i : Nat} {x : Bk} (hi : i < l.length) : jK l [x] i 1 = l.set i x := by
 unfold jK
 rw [List.set_eq_take_append_cons_drop, if_pos hi, List.append_assoc]
 rfl
end Go.Proofs.YtcdjakemdlinhaaGreatDoor.Sx
namespace Go.Proofs.YtcdjakemdlinhaaGreatDoor.Sx
open Go.ChangeShapes Go.WideShapes Go.ChangeAt Go.RowKit
section
variable {H : Type} {enc : TypeId × Value → H} {W : World} {base : Nat} {v0 : Value} {d0 : DataW H} {p0 : List MemPlace}
theorem gY {m : Int} (h : (Lit.int .u64 m).wf = true) : ∃ k : Nat, m = (k : Int) ∧ k < W64 := by
 simp [Lit.wf, IntKind.min, IntKind.max, IntKind.signed, IntKind.bits] at h
 exact ⟨m.toNat, by omega, by unfold W64; omega⟩
def aMo : List TypeId := [22, 3, 3, 9, 22, 22, 3, 9, 22, 22, 3, 9, 22, 22, 22, 22, 22, 22, 22]
def aOl : List TypeId := [3, 3, 22, 3, 9]
def aOq : List TypeId := [3, 9, 22, 22, 3, 3, 9, 9, 3, 4]
theorem aIK {cs : List Value} (h : aKe (mD enc Tryz.prog W) aMo cs) : ∃ r : Pr, cs = r.cs ∧ r.ok0 := by
 obtain ⟨c0, _, rfl, h0, c1, _, rfl, h1, c2, _, rfl, h2, c3, _, rfl, h3, c4, _, rfl, h4, c5, _, rfl, h5, c6, _, rfl, h6, c7, _, rfl, h7, c8, _, rfl, h8, c9, _, rfl, h9, c10, _, rfl, h10, c11, _, rfl, h11, c12, _, rfl, h12, c13, _, rfl, h13, c14, _, rfl, h14, c15, _, rfl, h15, c16, _, rfl, h16, c17, _, rfl, h17, c18, _, rfl, h18, rfl⟩ := h
 obtain ⟨x0, rfl, w0⟩ := h0.int Tryz.underlying22
 obtain ⟨x1, rfl, _⟩ := h1.int Tryz.underlying3
 obtain ⟨x2, rfl, _⟩ := h2.int Tryz.underlying3
 obtain ⟨x3, rfl, _⟩ := h3.str Tryz.underlying9
 obtain ⟨x4, rfl, w4⟩ := h4.int Tryz.underlying22
 obtain ⟨x5, rfl, w5⟩ := h5.int Tryz.underlying22
 obtain ⟨x6, rfl, _⟩ := h6.int Tryz.underlying3
 obtain ⟨x7, rfl, _⟩ := h7.str Tryz.underlying9
 obtain ⟨x8, rfl, w8⟩ := h8.int Tryz.underlying22
 obtain ⟨x9, rfl, w9⟩ := h9.int Tryz.underlying22
 obtain ⟨x10, rfl, _⟩ := h10.int Tryz.underlying3
 obtain ⟨x11, rfl, _⟩ := h11.str Tryz.underlying9
 obtain ⟨x12, rfl, w12⟩ := h12.int Tryz.underlying22
 obtain ⟨x13, rfl, w13⟩ := h13.int Tryz.underlying22
 obtain ⟨x14, rfl, w14⟩ := h14.int Tryz.underlying22
 obtain ⟨x15, rfl, w15⟩ := h15.int Tryz.underlying22
 obtain ⟨x16, rfl, w16⟩ := h16.int Tryz.underlying22
 obtain ⟨x17, rfl, w17⟩ := h17.int Tryz.underlying22
 obtain ⟨x18, rfl, w18⟩ := h18.int Tryz.underlying22
 obtain ⟨n0, rfl, l0⟩ := gY w0
 obtain ⟨n4, rfl, l4⟩ := gY w4
 obtain ⟨n5, rfl, l5⟩ := gY w5
 obtain ⟨n8, rfl, l8⟩ := gY w8
 obtain ⟨n9, rfl, l9⟩ := gY w9
 obtain ⟨n12, rfl, l12⟩ := gY w12
 obtain ⟨n13, rfl, l13⟩ := gY w13
 obtain ⟨n14, rfl, l14⟩ := gY w14
 obtain ⟨n15, rfl, l15⟩ := gY w15
 obtain ⟨n16, rfl, l16⟩ := gY w16
 obtain ⟨n17, rfl, l17⟩ := gY w17
 obtain ⟨n18, rfl, l18⟩ := gY w18
 exact ⟨⟨n0, x1, ⟨x2, x3, n4, n5⟩, ⟨x6, x7, n8, n9⟩, ⟨x10, x11, n12, n13⟩, n14, n15, n16, n17, n18⟩, rfl, ⟨l0, ⟨l4, l5⟩, ⟨l8, l9⟩, ⟨l12, l13⟩, l14, l15, l16, l17, l18⟩⟩
theorem aNB {cs : List Value} (h : aKe (mD enc Tryz.prog W) aOl cs) : ∃ r : Bk, cs = r.cs ∧ r.f < W64 := by
 obtain ⟨c0, _, rfl, h0, c1, _, rfl, h1, c2, _, rfl, h2, c3, _, rfl, h3, c4, _, rfl, h4, rfl⟩ := h
 obtain ⟨x0, rfl, _⟩ := h0.int Tryz.underlying3
 obtain ⟨x1, rfl, _⟩ := h1.int Tryz.underlying3
 obtain ⟨x2, rfl, w2⟩ := h2.int Tryz.underlying22
 obtain ⟨x3, rfl, _⟩ := h3.int Tryz.underlying3
 obtain ⟨x4, rfl, _⟩ := h4.str Tryz.underlying9
 obtain ⟨n2, rfl, l2⟩ := gY w2
 exact ⟨⟨x0, x1, n2, x3, x4⟩, rfl, l2⟩
theorem aGx {ok : Bk → Prop} : ∀ {css : List (List Value)}, (∀ cs ∈ css, ∃ r : Bk, cs = r.cs ∧ ok r) → ∃ rs : List Bk, css = rs.map Bk.cs ∧ ∀ r ∈ rs, ok r
 | [], _ => ⟨[], rfl, fun r h => by cases h⟩
 | cs :: css, h => by
  obtain ⟨r, hr, hok⟩ := h cs (List.mem_cons_self ..)
  obtain ⟨rs, hrs, hoks⟩ := aGx (css := css) fun c hc => h c (List.mem_cons_of_mem _ hc)
  refine ⟨r :: rs, by rw [hr, hrs]; rfl, fun x hx => ?_⟩
  rcases List.mem_cons.1 hx with rfl | hx
  · exact hok
  · exact hoks x hx
theorem oV {α β : Type} {R : α → β → Prop} : ∀ {us vs : List α} {cs : List β}, aKe R (us ++ vs) cs → ∃ cs1 cs2, cs = cs1 ++ cs2 ∧ aKe R us cs1 ∧ aKe R vs cs2
 | [], vs, cs, h => ⟨[], cs, rfl, rfl, h⟩
 | u :: us, vs, cs, ⟨c, r, e, hr, ht⟩ => by
  obtain ⟨c1, c2, rfl, h1, h2⟩ := oV ht
  exact ⟨c :: c1, c2, by rw [e]; rfl, ⟨c, c1, rfl, hr, h1⟩, h2⟩
theorem aNC {v : Value} {l : List Bk} (h : aLU W v 5 (l.map Bk.cs)) (hf : ∀ x ∈ l, x.f < W64) : ∃ a c, v = .slice a l.length c ∧ lQ (aBT W) a l ∧ l.length ≤ c := by
 obtain ⟨hm, a, c, rfl, hc, _, hx⟩ := h
 rw [List.length_map] at hm hc
 refine ⟨a, c, by rw [List.length_map], ⟨fun i x hi => ?_, hf, hm⟩, hc⟩
 rcases hx with hx | ⟨b, o, rfl, _, hx⟩
 ·
  rw [List.map_eq_nil_iff.1 hx] at hi
  cases hi
 ·
  refine ⟨b, o, rfl, fun j u hu => ?_⟩
  have := hx i x.cs (by rw [List.getElem?_map, hi]; rfl) j u hu
  rw [show o + i * 5 + j = o + (i * 5 + j) by omega]
  exact this
set_option maxRecDepth 100000 in
theorem aJP {v : Value} (h : mD enc Tryz.prog W 27 v) : ∃ (l : List Bk) (a : Option Addr) (c : Nat), v = .slice a l.length c ∧ lQ (aBT W) a l ∧ l.length ≤ c := by
 obtain ⟨n, z, hz, hlt⟩ := h
 obtain ⟨css, hat, hall⟩ := aMg aOl hz hlt Tryz.underlying27 kR kR (by decide)
 obtain ⟨l, rfl, hok⟩ := aGx fun cs hcs => aNB (hall cs hcs)
 exact ⟨l, aNC hat hok⟩
set_option maxRecDepth 100000 in
theorem aKV (hv : Value.okWide Tryz.prog W .any base 33 v0)
  (hr : DataW.Trod enc Tryz.prog W 0 (fun _ => true) true 33 v0 d0 p0) (hlt : ∀ p ∈ p0, p.block < W.heap.size) :
  ∃ (e : Ei) (vr fl : Int) (key nonce : List UInt8) (target : Int) (id : Bool), v0 = wyV e vr fl key nonce target id ∧ e.ok0 := by
 obtain ⟨cs, rfl, c0, _, rfl, h0, c1, _, rfl, h1, c2, _, rfl, h2, c3, _, rfl, h3, c4, _, rfl, h4, c5, _, rfl, h5, c6, _, rfl, h6, c7, _, rfl, h7, c8, _, rfl, h8, c9, _, rfl, h9, rfl⟩ := aDW aOq hv hr hlt kR kR kR
 obtain ⟨x0, rfl, _⟩ := h0.int Tryz.underlying3
 obtain ⟨x1, rfl, _⟩ := h1.str Tryz.underlying9
 obtain ⟨x2, rfl, w2⟩ := h2.int Tryz.underlying22
 obtain ⟨x3, rfl, w3⟩ := h3.int Tryz.underlying22
 obtain ⟨x4, rfl, _⟩ := h4.int Tryz.underlying3
 obtain ⟨x5, rfl, _⟩ := h5.int Tryz.underlying3
 obtain ⟨x6, rfl, _⟩ := h6.str Tryz.underlying9
 obtain ⟨x7, rfl, _⟩ := h7.str Tryz.underlying9
 obtain ⟨x8, rfl, _⟩ := h8.int Tryz.underlying3
 obtain ⟨x9, rfl⟩ := h9.bool Tryz.underlying4
 obtain ⟨n2, rfl, l2⟩ := gY w2
 obtain ⟨n3, rfl, l3⟩ := gY w3
 exact ⟨⟨x0, x1, n2, n3⟩, x4, x5, x6, x7, x8, x9, rfl, ⟨l2, l3⟩⟩
end
section
variable {H : Type} {enc : TypeId × Value → H} {W : World} {base : Nat} {v0 : Value} {d0 : DataW H} {p0 : List MemPlace}
set_option maxRecDepth 100000 in
theorem aKW (hv : Value.okWide Tryz.prog W .any base 47 v0)
  (hr : DataW.Trod enc Tryz.prog W 0 (fun _ => true) true 47 v0 d0 p0) (hlt : ∀ p ∈ p0, p.block < W.heap.size) :
  ∃ (p : Pr) (l : List Bk) (a : Option Addr) (c : Nat) (q : Pr) (m : List Bk) (d : Option Addr) (g : Nat), v0 = .agg (eB p a l.length c ++ eB q d m.length g).toArray ∧ p.ok0 ∧ lQ (aBT W) a l ∧ q.ok0 ∧ lQ (aBT W) d m ∧ m.length ≤ g := by
 obtain ⟨cs, rfl, h⟩ := aDW ((aMo ++ [27]) ++ (aMo ++ [27])) hv hr hlt kR kR kR
 obtain ⟨c1, c2, rfl, h1, h2⟩ := oV h
 obtain ⟨c3, c4, rfl, h3, v, _, rfl, h4, rfl⟩ := oV h1
 obtain ⟨c5, c6, rfl, h5, u, _, rfl, h6, rfl⟩ := oV h2
 obtain ⟨p, rfl, hp⟩ := aIK h3
 obtain ⟨l, a, c, rfl, hl, hc⟩ := aJP h4
 obtain ⟨q, rfl, hq⟩ := aIK h5
 obtain ⟨m, d, g, rfl, hm, hg⟩ := aJP h6
 exact ⟨p, l, a, c, q, m, d, g, rfl, hp, hl, hq, hm, hg⟩
end
end Go.Proofs.YtcdjakemdlinhaaGreatDoor.Sx
namespace Go.Proofs.YtcdjakemdlinhaaGreatDoor.Sx
open Go.ChangeShapes Go.WideShapes Go.ChangeAt Go.RowKit Go.Deep
def aOA : Value := (.agg #[(.bool true), (.slice none 0 0)])
def aNL (r : Value) (V : View) (σ' : aF) : Prop := ∃ eb ib, r = .tuple #[.pointer (some ⟨eb, 0, none⟩), aOA] ∧ aBV V eb ib ∧ σ' = aEB ib
theorem aLd {W0 : Cx} {U : View} {σF : aF} {W : World} (hM : Mem W0 U ([] ++ σF) W) : CP 18 #[.bool true] W (fN W0 U σF aNL) := by
 refine eC 9 Tryz.func18 hM ?_
 refine zQ 1 (dN 0 (fun b0 => ?_))
 refine zn (zs (zQ 1 (zn (dF (zs (zr (aKp 14 #[] (aFG) (fun W hM => aD6 hM) (fun v1 V1 s1 hV1 hP1 => ?_))))))))
 obtain ⟨eb1,ib1,rfl,hg1,rfl⟩ := hP1
 refine zq 2 (aY 1 b0 (zn (aA (dU [0,2] [(b0,2)] [(Pt eb1 0),(.agg #[(.bool true),S0])] (fun W' hM => ?_)))))
 exact dP 0 2 (ib1,.cells #[.slice none 0 0] 76 (0,0)) hM hV1 ⟨eb1,ib1,rfl,hg1,rfl⟩
def pF (l : List Pa) (id kind : Int) : Itm.Tr × Bool := match l.find? (fun p => p.id == id) with
 | some p => (p.v, p.v.k == kind)
 | none => (Itm.cN 0, false)
theorem aDx {l : List Pa} {id kind : Int} {i : Nat} {y : Pa} (h : l[i]? = some y) : pF (l.drop i) id kind = if (y.id == id) = true then (y.v, y.v.k == kind) else pF (l.drop (i + 1)) id kind := by
 unfold pF
 rw [cK h, List.find?_cons]
 cases y.id == id <;> simp
def aMP (q : Itm.Tr × Bool) (v : Value) (V : View) : Prop := ∃ cs, v = .tuple #[.agg cs.toArray, .bool q.2] ∧ TV V q.1 cs
theorem aCH (l : List Pa) (a : Option Addr) (c : Nat) (id kind : Int) (w : World) {U : View} (hU : See U w) (hl : iM PaR 6 U a l) : CP 98 #[.slice a l.length c, .int .i64 id, .int .i64 kind] w (rO w U (aMP (pF l id kind))) := by
 have hlen := hl.len
 unfold R47 at hlen
 refine eG 29 Tryz.func98 hU ?_
 refine zs (zr (cJ (fun b0 => (zq 1 (zn (zs (zQ 3 (zn (aB (gX (α := Nat) (fun x => [1,2,6,7,10,11,12].zip [(I6 id),(I6 kind),(Pt b0 0),(.bool false),(.slice a l.length c),(L6 l.length),(L6 x)]) (fun x => U) (fun x => [(b0,.cells [(I6 0),(U6 0),(St []),S0,(.bool false)].toArray 89 (0,0))]) (fun x => x ≤ l.length ∧ pF (l.drop x) id kind = pF l id kind) (fun x => l.length - x) 0 ?_ ?_))))))))))
 · exact ⟨Nat.zero_le _,rfl⟩
 intro x hx
 obtain ⟨hx1,hx2⟩ := hx
 refine zQ 1 (zn (zs (cD (decide ((x : Int) < (l.length : Int))) (fun h0 => ?_) (fun h0 => ?_))))
 ·
  have h0d := of_decide_eq_true h0
  refine zk (zs (aB (zs (zr ?_))))
  obtain ⟨y1,hy1⟩ : ∃ y,(l)[x]? = some y := ⟨(l)[x]'oW,List.getElem?_eq_getElem _⟩
  obtain ⟨b1,f1,cs1,rfl,hU1,hR1⟩ := hl.at_ x y1 hy1
  obtain ⟨ct1,rfl,ht1⟩ := hR1
  obtain ⟨a1,c1,rfl,hts1,hn1,hs1,hl1⟩ := ht1.form
  refine cH (Pt b1 (f1 + x * 6)) (rIx 92 rfl b1 f1 l.length c x 6) ?_
  refine zU b1 (f1 + x * 6) [(I6 y1.id),(I6 y1.v.k),(N6 y1.v.n),(St y1.v.s),(.slice a1 y1.v.l.length c1),(.bool y1.v.o)] hU1 92 (.tmp 14) _ Tryz.underlying92 rfl ?_
  refine cJ (fun b2 => (aY 1 b2 (zn (zB [0,2,0,0] [(b2,1)] (zn (cD (y1.id == id) (fun h1 => ?_) (fun h1 => ?_)))))))
  ·
   have h1d := eq_of_beq h1
   refine zs ?_
   refine aAW 8 1 0 [20,21,22,23,24,25,26,0] [.val (Pt b2 1),.val (tV y1.v a1 c1),.val (Pt b2 1),.val (Pt b2 1),.val (I6 y1.v.k),.val (I6 kind),.val (.bool (y1.v.k == kind)),.mem (fun _ _ => True)] 7 [(bK b0 (tC y1.v a1 c1) 89),(bK b2 [(I6 y1.id),(I6 y1.v.k),(N6 y1.v.n),(St y1.v.s),(.slice a1 y1.v.l.length c1),(.bool y1.v.o)] 92)] kR rfl rfl kR kR kR kR kR kR (by simp only [List.forall_mem_cons]; exact ⟨trivial,trivial,trivial,trivial,trivial,trivial,trivial,by intro v V V2 hV2 hP; (first | trivial | exact PhiMono.go hP hV2 | (obtain ⟨g,e,hP⟩ := hP; exact ⟨g,e,hP.le hV2⟩)),fun _ h => by cases h⟩) kR (show (7 : Nat) < 8 by decide) rfl ⟨?_,?_,?_,?_,?_,?_,?_,?_,trivial⟩ [1,2,6,7,9,10,11,12,13,14,15,16,17,18,19,20,21,22,23,24,25,26] (fun u => [(I6 id),(I6 kind),(Pt b0 0),(.bool false),(Pt b2 0),(Sl b1 f1 l.length c),(L6 l.length),(L6 x),(.bool (decide ((x : Int) < (l.length : Int)))),(Pt b1 (f1 + x * 6)),(.agg #[(I6 y1.id),(I6 y1.v.k),(N6 y1.v.n),(St y1.v.s),(.slice a1 y1.v.l.length c1),(.bool y1.v.o)]),(Pt b2 0),(I6 y1.id),(I6 id),(.bool (y1.id == id)),(Pt b2 1),(tV y1.v a1 c1),(Pt b2 1),(Pt b2 1),(I6 y1.v.k),(I6 kind),(.bool (y1.v.k == kind))]) kF ?_
   · exact ObS.o 0 (show (0 : Nat) ≠ 7 by decide) (oqQ 0 rfl (Pt b2 1) (Pt b2 1) rfl rfl kF kF) (oqQ 0 rfl (Pt b2 1) (Pt b2 1) rfl rfl kF kF)
   · exact ObS.o 1 (show (1 : Nat) ≠ 7 by decide) (oqL 1 1 b2 5 [(I6 y1.id),(I6 y1.v.k),(N6 y1.v.n),(St y1.v.s),(.slice a1 y1.v.l.length c1),(.bool y1.v.o)] 92 rfl (tV y1.v a1 c1) rfl kR kF kF) (oqL 1 1 b2 5 [(I6 y1.id),(I6 y1.v.k),(N6 y1.v.n),(St y1.v.s),(.slice a1 y1.v.l.length c1),(.bool y1.v.o)] 92 rfl (tV y1.v a1 c1) rfl kR kF kF)
   · exact ObS.o 2 (show (2 : Nat) ≠ 7 by decide) (oqQ 2 rfl (Pt b2 1) (Pt b2 1) rfl rfl kF kF) (oqQ 2 rfl (Pt b2 1) (Pt b2 1) rfl rfl kF kF)
   · exact ObS.o 3 (show (3 : Nat) ≠ 7 by decide) (oqQ 3 rfl (Pt b2 1) (Pt b2 1) rfl rfl kF kF) (oqQ 3 rfl (Pt b2 1) (Pt b2 1) rfl rfl kF kF)
   · exact ObS.o 4 (show (4 : Nat) ≠ 7 by decide) (oqL 4 1 b2 1 [(I6 y1.id),(I6 y1.v.k),(N6 y1.v.n),(St y1.v.s),(.slice a1 y1.v.l.length c1),(.bool y1.v.o)] 92 rfl (I6 y1.v.k) rfl kR kF kF) (oqL 4 1 b2 1 [(I6 y1.id),(I6 y1.v.k),(N6 y1.v.n),(St y1.v.s),(.slice a1 y1.v.l.length c1),(.bool y1.v.o)] 92 rfl (I6 y1.v.k) rfl kR kF kF)
   · exact ObS.o 5 (show (5 : Nat) ≠ 7 by decide) (oqQ 5 rfl (I6 kind) (I6 kind) rfl rfl kF kF) (oqQ 5 rfl (I6 kind) (I6 kind) rfl rfl kF kF)
   · exact ObS.o 6 (show (6 : Nat) ≠ 7 by decide) (oqQ 6 rfl (.bool (y1.v.k == kind)) (.bool (y1.v.k == kind)) rfl rfl kF kF) (oqQ 6 rfl (.bool (y1.v.k == kind)) (.bool (y1.v.k == kind)) rfl rfl kF kF)
   · exact ObS.st 0 b0 (oK (tC y1.v a1 c1) 89) rfl rfl rfl [6,21] (fun u => [(Pt b0 0),(tV y1.v a1 c1)]) kF kF kR
   intro u3 V3 hV3 hdq3
   have k7 := ht1.le hV3
   refine zq 1 (zn (aA (dU [1,0] [(b0,5)] [(tV y1.v a1 c1),(.bool (y1.v.k == kind))] (fun W' hM => ?_))))
   have hv9 : pF l id kind = (y1.v,y1.v.k == kind) := by rw [← hx2,aDx hy1,if_pos h1]
   rw [hv9]
   exact cF hM hV3 ⟨(tC y1.v a1 c1),rfl,k7⟩
  ·
   have h1d := beq_eq_false_iff_ne.1 h1
   refine zk (zr (zq 1 (fC 27 ((x : Int) + 1) (zq 1 (zn ?_)))))
   refine nx (x + 1) ?_ ?_ (d := fun _ h => Mem.sub (List.sublist_append_left _ _) (h.eqv (show _ = ([(b0,.cells [(I6 0),(U6 0),(St []),S0,(.bool false)].toArray 89 (0,0))] : aF) ++ ([(bK b2 [(I6 y1.id),(I6 y1.v.k),(N6 y1.v.n),(St y1.v.s),(.slice a1 y1.v.l.length c1),(.bool y1.v.o)] 92)] : aF) from by kernel_rfl)))
   · exact ⟨by omega,by rw [← hx2,aDx hy1,h1]; rfl⟩
   · show l.length - (x + 1) < l.length - x; omega
 ·
  have h0d := of_decide_eq_false h0
  refine aU (zQ 1 (aY 0 b0 (zq 1 (zn (aA (dU [1,0] [(b0,5)] [(.agg #[(I6 0),(U6 0),(St []),S0,(.bool false)]),(.bool false)] (fun W' hM => ?_)))))))
  have hv9 : pF l id kind = (Itm.cN 0,false) := by rw [← hx2,cY oW]; rfl
  rw [hv9]
  exact cF hM (View.le_refl _) ⟨[(I6 0),(U6 0),(St []),S0,(.bool false)],rfl,(TV.num _ 0 (by decide))⟩
def aC1 (l : List Pa) (id : Int) : Nat := if (pF l id 0).2 = false then 0 else (pF l id 0).1.n
theorem aGC (l : List Pa) (a : Option Addr) (c : Nat) (id : Int) (w : World) {U : View} (hU : See U w) (hl : iM PaR 6 U a l) : CP 47 #[.slice a l.length c, .int .i64 id] w (Ret (.tuple #[.int .u64 ((aC1 l id : Nat) : Int), .bool (pF l id 0).2]) w) := by
 refine eG 18 Tryz.func47 hU ?_
 refine zQ 2 (zn (zQ 2 (aAn 98 #[(.slice a l.length c),(I6 id),(I6 0)] (aMP (pF l id 0)) (fun W hM => aCH l _ _ id 0 W hM.view hl) (fun v0 V0 hV0 hP0 => ?_))))
 obtain ⟨cs0,rfl,ht0⟩ := hP0
 obtain ⟨a0,c0,rfl,hts0,hn0,hs0,hl0⟩ := ht0.form
 refine zq 3 (cJ (fun b2 => (aY 0 b2 (zq 1 (zn (zs (zQ 2 (zn (cD (!(pF l id 0).2) (fun h0 => ?_) (fun h0 => ?_))))))))))
 ·
  refine zQ 2 (zn (aA (aH [4,5] [(U6 0),(.bool false)] (fun W' hM => ?_))))
  have hb9 : (pF l id 0).2 = false := (by simpa using h0)
  refine ⟨?_,hM.below⟩
  unfold aC1
  simp only [cG,hb9,bs,bQ,reduceIte]
  try rfl
 ·
  refine zk (zB [0,1,0,0] [(b2,1)] (zn (aA (aH [4,5] [(N6 (pF l id 0).1.n),(.bool true)] (fun W' hM => ?_)))))
  have hb9 : (pF l id 0).2 = true := (by simpa using h0)
  refine ⟨?_,hM.below⟩
  unfold aC1
  simp only [cG,hb9,bs,bQ,reduceIte]
  try rfl
def aIh (l : List Pa) (id : Int) : List UInt8 := if (pF l id 2).2 = false then [] else (pF l id 2).1.s
theorem aGB (l : List Pa) (a : Option Addr) (c : Nat) (id : Int) (w : World) {U : View} (hU : See U w) (hl : iM PaR 6 U a l) : CP 48 #[.slice a l.length c, .int .i64 id] w (Ret (.tuple #[.string (B (aIh l id)), .bool (pF l id 2).2]) w) := by
 refine eG 18 Tryz.func48 hU ?_
 refine zQ 2 (zn (zQ 2 (aAn 98 #[(.slice a l.length c),(I6 id),(I6 2)] (aMP (pF l id 2)) (fun W hM => aCH l _ _ id 2 W hM.view hl) (fun v0 V0 hV0 hP0 => ?_))))
 obtain ⟨cs0,rfl,ht0⟩ := hP0
 obtain ⟨a0,c0,rfl,hts0,hn0,hs0,hl0⟩ := ht0.form
 refine zq 3 (cJ (fun b2 => (aY 0 b2 (zq 1 (zn (zs (zQ 2 (zn (cD (!(pF l id 2).2) (fun h0 => ?_) (fun h0 => ?_))))))))))
 ·
  refine zQ 2 (zn (aA (aH [4,5] [(St []),(.bool false)] (fun W' hM => ?_))))
  have hb9 : (pF l id 2).2 = false := (by simpa using h0)
  refine ⟨?_,hM.below⟩
  unfold aIh
  simp only [cG,hb9,bs,bQ,reduceIte]
  try rfl
 ·
  refine zk (zB [0,1,0,0] [(b2,1)] (zn (aA (aH [4,5] [(St (pF l id 2).1.s),(.bool true)] (fun W' hM => ?_)))))
  have hb9 : (pF l id 2).2 = true := (by simpa using h0)
  refine ⟨?_,hM.below⟩
  unfold aIh
  simp only [cG,hb9,bs,bQ,reduceIte]
  try rfl
structure Sd where
 sec : Bk
 target : Int
 nonce : List UInt8
 tag : List UInt8
 vr : Int
 fl : Int
def Sd.zero : Sd := ⟨Bk.none, 0, [], [], 0, 0⟩
def Sd.cs (x : Sd) : List Value := [.int .i64 x.sec.t, .int .i64 x.sec.n, .int .u64 x.sec.f, .int .i64 x.sec.c, .string (B x.sec.d), .int .i64 x.target, .string (B x.nonce), .string (B x.tag), .int .i64 x.vr, .int .i64 x.fl]
def Sd.V (x : Sd) : Value := .agg x.cs.toArray
def aEG (n : Nat) : Int := if (65535 : Int) < (n : Int) then 65535 else (n : Int)
theorem aEo (n : Nat) : IntKind.i64.wrap (if (65535 : Int) < (n : Int) then 65535 else (n : Int)) = aEG n := by
 unfold aEG
 split
 · decide
 · rw [IntWalk.i64_in _ oW]
noncomputable def cA (l : List Bk) (num : Int) : Sd × Int := if !(aJ l num).2 || (aJ l num).1.t != 12 then (Sd.zero, 15) else match gE (aJ l num).1.d with
 | none => (Sd.zero, 2)
 | some a => if a.c != 2 || a.t.length != 1 then (Sd.zero, 2) else if !(pF a.p 1 2).2 || !(pF a.p 2 0).2 || !(pF a.p 3 0).2 || !(pF (a.r.headD []) 1 2).2 then (Sd.zero, 2)
  else (⟨(aJ l num).1, a.t.headD 0, aIh a.p 1, aIh (a.r.headD []) 1, aEG (aC1 a.p 2), aEG (aC1 a.p 3)⟩, 0)
theorem mX {α : Type} {l : List α} {y d : α} (h : l[0]? = some y) : l.headD d = y := by
 cases l with
 | nil => simp at h
 | cons x l => simpa using h
theorem aKt {a : As} (h : a.right = true) : a.r.length = a.t.length := by
 have h1 := As.shaped h
 unfold dV at h1
 simp only [Bool.and_eq_true, decide_eq_true_eq] at h1
 exact h1.1.2
theorem aJJ (eA : Addr) (p : Pr) (l : List Bk) (a : Option Addr) (c : Nat) (num : Int) (w : World) {U : View} (hU : See U w) (hE : EF U eA) (hl : cX U a l) (hdl : ∀ x ∈ l, x.d.length ≤ 100000) : CP 62 #[bnV p a l.length c, .int .i64 num] w (Ret (.tuple #[(cA l num).1.V, .int .i64 (cA l num).2]) w) := by
 refine eG 107 Tryz.func62 hU ?_
 refine zs (zr (cJ (fun b0 => (cJ (fun b1 => (zq 1 (zn (zB [1,0] [(b0,20)] (dA 64 #[(bnV p a l.length c),(I6 num)] (.tuple #[(.agg #[(I6 (aJ l num).1.t),(I6 (aJ l num).1.n),(N6 (aJ l num).1.f),(I6 (aJ l num).1.c),(St (aJ l num).1.d)]),(.bool (aJ l num).2)]) (fun W hM => lB p l _ _ num W hM.view hl) ?_)))))))))
 refine zq 3 (cJ (fun b2 => (aY 2 b2 (zq 1 (zn (zs (zQ 3 (aK 26 (!(aJ l num).2) (fun h0 => ?_) (fun h0 => ?_)))))))))
 ·
  refine zq 4 (zn (dF (zQ 1 (aY 1 b1 (zq 1 (zn (aA (dU [2,0] [(b1,10)] [(.agg #[(I6 0),(I6 0),(U6 0),(I6 0),(St []),(I6 0),(St []),(St []),(I6 0),(I6 0)]),(I6 15)] (fun W' hM => ?_)))))))))
  refine ⟨?_,hM.below⟩
  rw [show cA l num = (Sd.zero,15) from by unfold cA; simp only [h0,bs,bQ,reduceIte]]
  rfl
 ·
  refine cU [0,3,0,0] [(b2,1)] (zn (cD ((aJ l num).1.t != 12) (fun h1 => ?_) (fun h1 => ?_)))
  ·
   refine zQ 1 (aY 1 b1 (zq 1 (zn (aA (dU [2,0] [(b1,10)] [(.agg #[(I6 0),(I6 0),(U6 0),(I6 0),(St []),(I6 0),(St []),(St []),(I6 0),(I6 0)]),(I6 15)] (fun W' hM => ?_))))))
   refine ⟨?_,hM.below⟩
   rw [show cA l num = (Sd.zero,15) from by unfold cA; simp only [h0,h1,bs,bQ,reduceIte]]
   rfl
  ·
   have h1d := bne_eq_false_iff_eq.1 h1
   refine zk (zB [0,3] [(b2,1)] ?_)
   rcases Bool.eq_false_or_eq_true ((gE (aJ l num).1.d).isSome) with h2 | h2
   ·
    refine aAn 96 #[(St (aJ l num).1.d)] (aMT (gE (aJ l num).1.d)) (fun W hM => lH eA (aJ l num).1.d W hM.view hE (by have := hdl _ (iK (by have := h0; simpa using this)); omega)) (fun v3 V3 hV3 hP3 => ?_)
    obtain ⟨a3,hq3⟩ := Option.isSome_iff_exists.1 h2
    rw [hq3] at hP3
    obtain ⟨x3,y3,z3,u3,v3,w3,rfl,hA3,hc3⟩ := hP3
    have fA3 := hA3.t
    have fB3 := hA3.p
    have fC3 := hA3.r
    have hrl3 := aKt (oM hq3).2.1
    refine zq 3 (cJ (fun b5 => (aY 3 b5 (zq 1 (zn (zs (zB [0,0,0,0,4,0,0,0] [(b5,1)] (aK 45 (a3.c != 2) (fun h3 => ?_) (fun h3 => ?_)))))))))
    ·
     refine zq 5 (zn (dF (zQ 1 (aY 1 b1 (zq 1 (zn (aA (dU [2,0] [(b1,10)] [(.agg #[(I6 0),(I6 0),(U6 0),(I6 0),(St []),(I6 0),(St []),(St []),(I6 0),(I6 0)]),(I6 2)] (fun W' hM => ?_)))))))))
     refine ⟨?_,hM.below⟩
     rw [show cA l num = (Sd.zero,2) from by unfold cA; simp only [h0,h1,hq3,h3,bs,bQ,reduceIte]]
     rfl
    ·
     have h3d := bne_eq_false_iff_eq.1 h3
     refine cU [0,4,0,0,0] [(b5,1)] (zn (cD ((a3.t.length : Int) != 1) (fun h4 => ?_) (fun h4 => ?_)))
     ·
      have h4d := bne_iff_ne.1 h4
      refine zQ 1 (aY 1 b1 (zq 1 (zn (aA (dU [2,0] [(b1,10)] [(.agg #[(I6 0),(I6 0),(U6 0),(I6 0),(St []),(I6 0),(St []),(St []),(I6 0),(I6 0)]),(I6 2)] (fun W' hM => ?_))))))
      refine ⟨?_,hM.below⟩
      have hn9 : (a3.t.length != 1) = true := by have := h4; rw [bne_iff_ne] at this ⊢; omega
      rw [show cA l num = (Sd.zero,2) from by unfold cA; simp only [h0,h1,hq3,h3,hn9,bs,bQ,reduceIte]]
      rfl
     ·
      have h4d := bne_eq_false_iff_eq.1 h4
      refine zk (zB [0,4] [(b5,1)] (dA 48 #[(.slice y3 a3.p.length v3),(I6 1)] (.tuple #[(St (aIh a3.p 1)),(.bool (pF a3.p 1 2).2)]) (fun W hM => aGB a3.p _ _ 1 W hM.view fB3) ?_))
      refine zq 5 (zn (zB [0,4] [(b5,1)] (dA 47 #[(.slice y3 a3.p.length v3),(I6 2)] (.tuple #[(N6 (aC1 a3.p 2 : Nat)),(.bool (pF a3.p 2 0).2)]) (fun W hM => aGC a3.p _ _ 2 W hM.view fB3) ?_)))
      refine zq 5 (zn (zB [0,4] [(b5,1)] (dA 47 #[(.slice y3 a3.p.length v3),(I6 3)] (.tuple #[(N6 (aC1 a3.p 3 : Nat)),(.bool (pF a3.p 3 0).2)]) (fun W hM => aGC a3.p _ _ 3 W hM.view fB3) ?_)))
      refine zq 5 (zn (zB [0,4] [(b5,1)] ?_))
      obtain ⟨y6,hy6⟩ : ∃ y,(a3.r)[0]? = some y := ⟨(a3.r)[0]'oW,List.getElem?_eq_getElem _⟩
      obtain ⟨b6,f6,cs6,rfl,hU6,hR6⟩ := fC3.at_ 0 y6 hy6
      obtain ⟨a6,c6,rfl,hp6⟩ := hR6
      have hW6 := View.range1 hU6
      refine cH (Pt b6 (f6 + 0)) (fW _ 93 _ _ rfl b6 f6 a3.r.length w3 0 .i64 kR kR (by first | assumption | omega) kR kR) ?_
      refine zV b6 (f6 + 0) (.slice a6 y6.length c6) hW6 93 (.tmp 73) _ Tryz.underlying93 rfl ?_
      refine dA 48 #[(.slice a6 y6.length c6),(I6 1)] (.tuple #[(St (aIh y6 1)),(.bool (pF y6 1 2).2)]) (fun W hM => aGB y6 _ _ 1 W hM.view hp6) ?_
      refine zq 5 (zn (zs (zQ 3 (aK 80 (!(pF a3.p 1 2).2) (fun h5 => ?_) (fun h5 => ?_)))))
      ·
       refine zq 11 (zn (dF (zQ 1 (aY 1 b1 (zq 1 (zn (aA (dU [2,0] [(b1,10)] [(.agg #[(I6 0),(I6 0),(U6 0),(I6 0),(St []),(I6 0),(St []),(St []),(I6 0),(I6 0)]),(I6 2)] (fun W' hM => ?_)))))))))
       refine ⟨?_,hM.below⟩
       have hn9 : (a3.t.length != 1) = false := by have := h4; simp only [bne_eq_false_iff_eq] at this ⊢; omega
       have hr9 : a3.r.headD [] = y6 := mX hy6
       rw [show cA l num = (Sd.zero,2) from by unfold cA; simp only [h0,h1,hq3,h3,hn9,hr9,h5,bs,bQ,reduceIte]]
       rfl
      ·
       refine zq 4 (aK 84 (!(pF a3.p 2 0).2) (fun h6 => ?_) (fun h6 => ?_))
       ·
        refine zq 7 (zn (dF (zQ 1 (aY 1 b1 (zq 1 (zn (aA (dU [2,0] [(b1,10)] [(.agg #[(I6 0),(I6 0),(U6 0),(I6 0),(St []),(I6 0),(St []),(St []),(I6 0),(I6 0)]),(I6 2)] (fun W' hM => ?_)))))))))
        refine ⟨?_,hM.below⟩
        have hn9 : (a3.t.length != 1) = false := by have := h4; simp only [bne_eq_false_iff_eq] at this ⊢; omega
        have hr9 : a3.r.headD [] = y6 := mX hy6
        rw [show cA l num = (Sd.zero,2) from by unfold cA; simp only [h0,h1,hq3,h3,hn9,hr9,h5,h6,bs,bQ,reduceIte]]
        rfl
       ·
        refine zq 4 (aK 88 (!(pF a3.p 3 0).2) (fun h7 => ?_) (fun h7 => ?_))
        ·
         refine zq 3 (zn (dF (zQ 1 (aY 1 b1 (zq 1 (zn (aA (dU [2,0] [(b1,10)] [(.agg #[(I6 0),(I6 0),(U6 0),(I6 0),(St []),(I6 0),(St []),(St []),(I6 0),(I6 0)]),(I6 2)] (fun W' hM => ?_)))))))))
         refine ⟨?_,hM.below⟩
         have hn9 : (a3.t.length != 1) = false := by have := h4; simp only [bne_eq_false_iff_eq] at this ⊢; omega
         have hr9 : a3.r.headD [] = y6 := mX hy6
         rw [show cA l num = (Sd.zero,2) from by unfold cA; simp only [h0,h1,hq3,h3,hn9,hr9,h5,h6,h7,bs,bQ,reduceIte]]
         rfl
        ·
         refine zq 3 (zn (cD (!(pF y6 1 2).2) (fun h8 => ?_) (fun h8 => ?_)))
         ·
          refine zQ 1 (aY 1 b1 (zq 1 (zn (aA (dU [2,0] [(b1,10)] [(.agg #[(I6 0),(I6 0),(U6 0),(I6 0),(St []),(I6 0),(St []),(St []),(I6 0),(I6 0)]),(I6 2)] (fun W' hM => ?_))))))
          refine ⟨?_,hM.below⟩
          have hn9 : (a3.t.length != 1) = false := by have := h4; simp only [bne_eq_false_iff_eq] at this ⊢; omega
          have hr9 : a3.r.headD [] = y6 := mX hy6
          rw [show cA l num = (Sd.zero,2) from by unfold cA; simp only [h0,h1,hq3,h3,hn9,hr9,h5,h6,h7,h8,bs,bQ,reduceIte]]
          rfl
         ·
          refine zk (zs ?_)
          obtain ⟨y7,hy7⟩ : ∃ y,(a3.t)[0]? = some y := ⟨(a3.t)[0]'oW,List.getElem?_eq_getElem _⟩
          obtain ⟨b7,f7,rfl,hU7⟩ := fA3.one hy7
          refine gU 3 [5,0,6,1,1,0,0,0,0,1,0,0,1] [(b2,5),(b5,1)] [.val (Pt b7 (f7 + 0)),.val (I6 y7),.val (I6 (aEG (aC1 a3.p 2))),.val (I6 (aEG (aC1 a3.p 3)))] ⟨?_,?_,?_,?_,trivial⟩ ?_
          · exact vR (fW _ 3 _ _ rfl b7 f7 a3.t.length u3 0 .i64 kR kR (by first | assumption | omega) kR kR)
          · exact vU1 b7 (f7 + 0) hU7 3 _ _ Tryz.underlying3 rfl
          · exact vE (I6 (IntKind.i64.wrap (if 65535 < ((aC1 a3.p 2 : Nat) : Int) then 65535 else ((aC1 a3.p 2 : Nat) : Int)))) (congrArg (Value.int .i64) (aEo (aC1 a3.p 2)))
          · exact vE (I6 (IntKind.i64.wrap (if 65535 < ((aC1 a3.p 3 : Nat) : Int) then 65535 else ((aC1 a3.p 3 : Nat) : Int)))) (congrArg (Value.int .i64) (aEo (aC1 a3.p 3)))
          refine zq 1 (aY 1 b1 (zq 1 (zn (aA (dU [2,0] [(b1,10)] [(.agg #[(I6 (aJ l num).1.t),(I6 (aJ l num).1.n),(N6 (aJ l num).1.f),(I6 (aJ l num).1.c),(St (aJ l num).1.d),(I6 y7),(St (aIh a3.p 1)),(St (aIh y6 1)),(I6 (aEG (aC1 a3.p 2))),(I6 (aEG (aC1 a3.p 3)))]),(I6 0)] (fun W' hM => ?_))))))
          refine ⟨?_,hM.below⟩
          have hn9 : (a3.t.length != 1) = false := by have := h4; simp only [bne_eq_false_iff_eq] at this ⊢; omega
          have hr9 : a3.r.headD [] = y6 := mX hy6
          have ht9 : a3.t.headD 0 = y7 := mX hy7
          rw [show cA l num = (⟨(aJ l num).1,y7,aIh a3.p 1,aIh y6 1,aEG (aC1 a3.p 2),aEG (aC1 a3.p 3)⟩,0) from by unfold cA; simp only [h0,h1,hq3,h3,hn9,hr9,ht9,h5,h6,h7,h8,bs,bQ,reduceIte]]
          rfl
   ·
    refine aAn 96 #[(St (aJ l num).1.d)] (aMT (gE (aJ l num).1.d)) (fun W hM => lH eA (aJ l num).1.d W hM.view hE (by have := hdl _ (iK (by have := h0; simpa using this)); omega)) (fun v8 V8 hV8 hP8 => ?_)
    have hq8 := Option.not_isSome_iff_eq_none.1 (by rw [h2]; exact Bool.false_ne_true)
    rw [hq8] at hP8
    obtain rfl := hP8
    refine zq 3 (cJ (fun b10 => (aY 3 b10 (zq 1 (zn (zs (zQ 13 (zn (dF (zQ 1 (aY 1 b1 (zq 1 (zn (aA (dU [2,0] [(b1,10)] [(.agg #[(I6 0),(I6 0),(U6 0),(I6 0),(St []),(I6 0),(St []),(St []),(I6 0),(I6 0)]),(I6 2)] (fun W' hM => ?_))))))))))))))))
    refine ⟨?_,hM.below⟩
    rw [show cA l num = (Sd.zero,2) from by unfold cA; simp only [h0,h1,hq8,bs,bQ,reduceIte]]
    rfl
theorem aMH (x : Bk) (num : Int) (pb : Nat) (w : World) {U : View} (hU : See U w) (hp : U ⟨pb, 0, none⟩ = some (.int .i64 num)) : CP 68 #[x.V, .pointer (some ⟨pb, 0, none⟩)] w (Ret (.bool (x.n == num)) w) := by
 refine eG 8 Tryz.func68 hU ?_
 refine zs (zr (cJ (fun b0 => (zq 1 (zn (zB [0,1] [(b0,1)] (zV pb (0) (I6 num) hp 3 (.tmp 1) _ Tryz.underlying3 rfl ?_)))))))
 refine zq 2 (zn (aA (jJ 3)))
theorem aJG (l : List Bk) (a : Option Addr) (c : Nat) (num : Int) (pb : Nat) (w : World) {U : View} (hU : See U w) (hl : cX U a l) (hp : U ⟨pb, 0, none⟩ = some (.int .i64 num)) :
    CP 67 #[.slice a l.length c, .func (.func 68) #[] #[.pointer (some ⟨pb, 0, none⟩)]] w (Ret (.int .i64 (gH l num)) w) := by
 have hlen := hl.len
 unfold R47 at hlen
 refine eG 19 Tryz.func67 hU ?_
 refine zQ 1 (zn (zs (zQ 3 (zn (aB (gX (α := Nat) (fun x => [0,1,4,7,8].zip [(.slice a l.length c),(.func (.func 68) #[] #[(Pt pb 0)]),(I6 0),(L6 l.length),(L6 x)]) (fun x => U) (fun x => []) (fun x => x ≤ l.length ∧ aDa num x (l.drop x) = gH l num) (fun x => l.length - x) 0 ?_ ?_))))))
 · exact ⟨Nat.zero_le _,rfl⟩
 intro x hx
 obtain ⟨hx1,hx2⟩ := hx
 refine zQ 1 (zn (zs (cD (decide ((x : Int) < (l.length : Int))) (fun h0 => ?_) (fun h0 => ?_))))
 ·
  have h0d := of_decide_eq_true h0
  refine zk (zs (aB (zQ 2 (zn (zQ 3 ?_)))))
  obtain ⟨y0,hy0⟩ : ∃ y,(l)[x]? = some y := ⟨(l)[x]'oW,List.getElem?_eq_getElem _⟩
  obtain ⟨b0,f0,rfl,hU0⟩ := hl.at_ x y0 hy0
  refine cH (Pt b0 (f0 + x * 5)) (rIx 38 rfl b0 f0 l.length c x 5) ?_
  refine zU b0 (f0 + x * 5) y0.cs hU0 38 (.tmp 14) _ Tryz.underlying38 rfl ?_
  refine dL (fun W hM => aMH y0 num pb W hM.view hp) (zn (cD (y0.n == num) (fun h1 => ?_) (fun h1 => ?_)))
  ·
   have h1d := eq_of_beq h1
   refine zQ 2 (zn (aA (aH [4] [(L6 x)] (fun W' hM => ?_))))
   refine ⟨?_,hM.below⟩
   rw [← hx2,jE hy0,if_pos h1]
   rfl
  ·
   have h1d := beq_eq_false_iff_ne.1 h1
   refine zk (zr (zq 1 (fC 18 ((x : Int) + 1) (zq 1 (zn ?_)))))
   refine nx (x + 1) ?_ ?_
   · exact ⟨by omega,by rw [← hx2,jE hy0,h1]; rfl⟩
   · show l.length - (x + 1) < l.length - x; omega
 ·
  have h0d := of_decide_eq_false h0
  refine aU (zQ 1 (zn (aA (aH [4] [(I6 (-1))] (fun W' hM => ?_)))))
  refine ⟨?_,hM.below⟩
  rw [← hx2,cY oW]
  rfl
theorem aGc (num : Int) (d : List UInt8) : ∀ (l : List Bk) (k i : Nat) (y : Bk), l[i]? = some y → aDa num k (l.set i (y.withD d)) = aDa num k l
 | [], k, i, y, h => by simp at h
 | x :: l, k, 0, y, h => by
  simp only [List.getElem?_cons_zero, Option.some.injEq] at h
  subst h
  rfl
 | x :: l, k, i + 1, y, h => by
  rw [List.set_cons_succ, aDa, aDa, aGc num d l (k + 1) i y (by simpa using h)]
theorem aDb {l : List Bk} {i : Nat} {y : Bk} {num : Int} {d : List UInt8} (h : l[i]? = some y) : gH (l.set i (y.withD d)) num = gH l num := aGc num d l 0 i y h
theorem aE1 {l : List Bk} {num : Int} (h : (cA l num).2 = 0) : (aJ l num).2 = true ∧ (cA l num).1.sec = (aJ l num).1 := by
 unfold cA at h ⊢
 split at h
 · cases h
 ·
  next h1 =>
  rw [if_neg h1]
  have h1' : (aJ l num).2 = true := by
   cases hb : (aJ l num).2 with
   | true => rfl
   | false => rw [hb] at h1; simp at h1
  refine ⟨h1', ?_⟩
  split at h
  · cases h
  ·
   next a ha =>
   split at h
   · cases h
   ·
    next h2 =>
    split at h
    · cases h
    ·
     next h3 =>
     first | (simp only; rw [if_neg h2, if_neg h3]) | rw [if_neg h2, if_neg h3]
theorem aDp {p : Pr} {l : List Bk} {target fl : Int} {sec : Bk} (h : bsZ p l target sec fl = 0) : 0 ≤ fl ∧ fl < 8 ∧ target ≠ 0 ∧ (aJ l target).2 = true ∧ aO p = 0 ∧ aG (aJ l target).1 = 0 ∧ aG sec = 0 := by
 unfold bsZ at h
 split at h
 · cases h
 ·
  next h1 =>
  split at h
  · cases h
  ·
   next h2 =>
   have h1' := aAa (by simpa using h1)
   have h2' : target ≠ 0 := by simpa using h2
   unfold rdZ at h
   split at h
   · cases h
   ·
    next h3 =>
    split at h
    · next h4 => rw [h] at h4; cases h4
    ·
     next h4 =>
     split at h
     · next h5 => rw [h] at h5; simp at h5
     · next h5 => exact ⟨h1'.1, h1'.2, h2', by simpa [h2'] using h3, by simpa using h4, by simpa [h2'] using h5, h⟩
def aKa (l : List Bk) (num target : Int) (text : List UInt8) : List Bk := dR (l.set (gH l target).toNat ((aJ l target).1.withD text)) (gH l num).toNat
abbrev OpF := Int → List UInt8 → List UInt8 → List UInt8 → List UInt8 → List UInt8 × Int
noncomputable def aFl (op : OpF) (p : Pr) (l : List Bk) (num : Int) : Pr × List Bk × Int :=
 if (cA l num).2 != 0 then (Pr.zero, [], (cA l num).2)
 else if (bsZ p l (cA l num).1.target (cA l num).1.sec (cA l num).1.fl) != 0 then (Pr.zero, [], (bsZ p l (cA l num).1.target (cA l num).1.sec (cA l num).1.fl))
 else if (op (cA l num).1.vr (cA l num).1.nonce (bsB p l (cA l num).1.target (cA l num).1.sec (cA l num).1.fl) (aJ l (cA l num).1.target).1.d (cA l num).1.tag).2 != 0 then (Pr.zero, [], (op (cA l num).1.vr (cA l num).1.nonce (bsB p l (cA l num).1.target (cA l num).1.sec (cA l num).1.fl) (aJ l (cA l num).1.target).1.d (cA l num).1.tag).2)
 else (iD p (aKa l num (cA l num).1.target (op (cA l num).1.vr (cA l num).1.nonce (bsB p l (cA l num).1.target (cA l num).1.sec (cA l num).1.fl) (aJ l (cA l num).1.target).1.d (cA l num).1.tag).1), tO p (aKa l num (cA l num).1.target (op (cA l num).1.vr (cA l num).1.nonce (bsB p l (cA l num).1.target (cA l num).1.sec (cA l num).1.fl) (aJ l (cA l num).1.target).1.d (cA l num).1.tag).1), aZ p (aKa l num (cA l num).1.target (op (cA l num).1.vr (cA l num).1.nonce (bsB p l (cA l num).1.target (cA l num).1.sec (cA l num).1.fl) (aJ l (cA l num).1.target).1.d (cA l num).1.tag).1))
def aNK (U : View) (eb : Nat) (key : List UInt8) (op : OpF) : Prop := ∀ W : World, (∀ a v, U a = some v → W.cell? a = some v) → ∀ (vr : Int) (nonce wth text tag : List UInt8), wth.length ≤ 100000 → text.length ≤ 100000 →
 CP 65 #[.pointer (some ⟨eb, 0, none⟩), .int .i64 vr, .string (B key), .string (B nonce), .string (B wth), .string (B text), .string (B tag)] W (Ret (.tuple #[.string (B (op vr nonce wth text tag).1), .int .i64 (op vr nonce wth text tag).2]) W)
theorem aMJ {p : Pr} {l : List Bk} {target fl : Int} {sec : Bk} : (bsB p l target sec fl).length ≤ 100000 := by
 unfold bsB
 split
 · exact Nat.zero_le _
 ·
  unfold aCF
  have h1 := aIC (p := p) (l := l) (target := target)
  have h2 := aIB (p := p) (l := l) (target := target)
  have h3 := aIA (p := p) (l := l) (target := target) (sec := sec)
  have h4 := (Itm.aW 0 fl.toNat).2
  have s1 : ∀ (b : Bool) (x : List UInt8), (if b then x else []).length ≤ x.length := fun b x => by cases b <;> simp
  have t1 := s1 (if (gC .i64 fl 1 != 0) then (target != 0) else false) (rdA p l target)
  have t2 := s1 (gC .i64 fl 2 != 0) (rdH p l target)
  have t3 := s1 (gC .i64 fl 4 != 0) (rdS p l target sec)
  rw [List.length_append, List.length_append, List.length_append]
  omega
theorem aJK (eA : Addr) (p : Pr) (l : List Bk) (a : Option Addr) (c : Nat) (num : Int) (key : List UInt8) (eb : Nat) (op : OpF) (w : World) {U : View} (hU : See U w) (hE : EF U eA) (hp : p.ok) (hl : cX U a l) (hdl : ∀ x ∈ l, x.d.length ≤ 100000) (hsm : l.length ≤ 1000) (hO : aNK U eb key op) (hOl : ∀ vr nonce wth text tag, (op vr nonce wth text tag).1.length ≤ R47) :
    CP 26 #[.pointer (some ⟨eb, 0, none⟩), bnV p a l.length c, .int .i64 num, .string (B key)] w (rO w U (iX (aFl op p l num).1 (aFl op p l num).2.1 (aFl op p l num).2.2)) := by
 refine eG 87 Tryz.func26 hU ?_
 refine zs (zr (cJ (fun b0 => (cJ (fun b1 => (cJ (fun b2 => (zq 1 (zn (zB [1,2] [(b0,20),(b1,1)] (dA 62 #[(bnV p a l.length c),(I6 num)] (.tuple #[(.agg #[(I6 (cA l num).1.sec.t),(I6 (cA l num).1.sec.n),(N6 (cA l num).1.sec.f),(I6 (cA l num).1.sec.c),(St (cA l num).1.sec.d),(I6 (cA l num).1.target),(St (cA l num).1.nonce),(St (cA l num).1.tag),(I6 (cA l num).1.vr),(I6 (cA l num).1.fl)]),(I6 (cA l num).2)]) (fun W hM => aJJ eA p l _ _ num W hM.view hE hl hdl) ?_)))))))))))
 refine zq 3 (cJ (fun b3 => (aY 3 b3 (zq 1 (zn (zs (zQ 2 (zn (cD ((cA l num).2 != 0) (fun h0 => ?_) (fun h0 => ?_))))))))))
 ·
  refine zQ 2 (aY 2 b2 (zq 1 (zn (aA (dU [3,0] [(b2,20)] [(.agg Z20.toArray),(I6 (cA l num).2)] (fun W' hM => ?_))))))
  rw [show aFl op p l num = (Pr.zero,[],(cA l num).2) from by unfold aFl; rw [if_pos h0]]
  exact cF hM (View.le_refl _) ⟨none,0,rfl,cX.nil⟩
 ·
  have h0d := bne_eq_false_iff_eq.1 h0
  refine zk (zB [1,0,4,0,4,0,4] [(b0,20),(b3,1),(b3,5),(b3,1)] (dA 63 #[(bnV p a l.length c),(I6 (cA l num).1.target),(.agg #[(I6 (cA l num).1.sec.t),(I6 (cA l num).1.sec.n),(N6 (cA l num).1.sec.f),(I6 (cA l num).1.sec.c),(St (cA l num).1.sec.d)]),(I6 (cA l num).1.fl)] (.tuple #[(St (bsB p l (cA l num).1.target (cA l num).1.sec (cA l num).1.fl)),(I6 (bsZ p l (cA l num).1.target (cA l num).1.sec (cA l num).1.fl))]) (fun W hM => sE p l _ _ (cA l num).1.target (cA l num).1.sec (cA l num).1.fl W hM.view hp hl ((aE1 (by simpa using h0)).2 ▸ hl.ok _ (iK (aE1 (by simpa using h0)).1))) ?_))
  refine zq 5 (zn (zs (zQ 2 (zn (cD ((bsZ p l (cA l num).1.target (cA l num).1.sec (cA l num).1.fl) != 0) (fun h1 => ?_) (fun h1 => ?_))))))
  ·
   refine zQ 2 (aY 2 b2 (zq 1 (zn (aA (dU [3,0] [(b2,20)] [(.agg Z20.toArray),(I6 (bsZ p l (cA l num).1.target (cA l num).1.sec (cA l num).1.fl))] (fun W' hM => ?_))))))
   rw [show aFl op p l num = (Pr.zero,[],(bsZ p l (cA l num).1.target (cA l num).1.sec (cA l num).1.fl)) from by unfold aFl; rw [if_neg (by rw [h0]; exact Bool.false_ne_true),if_pos h1]]
   exact cF hM (View.le_refl _) ⟨none,0,rfl,cX.nil⟩
  ·
   have h1d := bne_eq_false_iff_eq.1 h1
   refine zk (zB [1,0,4] [(b0,20),(b3,1)] (dA 64 #[(bnV p a l.length c),(I6 (cA l num).1.target)] (.tuple #[(.agg #[(I6 (aJ l (cA l num).1.target).1.t),(I6 (aJ l (cA l num).1.target).1.n),(N6 (aJ l (cA l num).1.target).1.f),(I6 (aJ l (cA l num).1.target).1.c),(St (aJ l (cA l num).1.target).1.d)]),(.bool (aJ l (cA l num).1.target).2)]) (fun W hM => lB p l _ _ (cA l num).1.target W hM.view hl) ?_))
   refine zq 3 (cJ (fun b4 => (aY 4 b4 (zq 1 (zn (zB [0,0,4,0,0,4,0,0,5,0,4] [(b3,1),(b3,1),(b4,1),(b3,1)] (dA 65 #[(Pt eb 0),(I6 (cA l num).1.vr),(St key),(St (cA l num).1.nonce),(St (bsB p l (cA l num).1.target (cA l num).1.sec (cA l num).1.fl)),(St (aJ l (cA l num).1.target).1.d),(St (cA l num).1.tag)] (.tuple #[(St (op (cA l num).1.vr (cA l num).1.nonce (bsB p l (cA l num).1.target (cA l num).1.sec (cA l num).1.fl) (aJ l (cA l num).1.target).1.d (cA l num).1.tag).1),(I6 (op (cA l num).1.vr (cA l num).1.nonce (bsB p l (cA l num).1.target (cA l num).1.sec (cA l num).1.fl) (aJ l (cA l num).1.target).1.d (cA l num).1.tag).2)]) (fun W hM => hO W hM.view (cA l num).1.vr (cA l num).1.nonce (bsB p l (cA l num).1.target (cA l num).1.sec (cA l num).1.fl) (aJ l (cA l num).1.target).1.d (cA l num).1.tag aMJ (hdl _ (iK (aDp (by simpa using h1)).2.2.2.1))) ?_)))))))
   refine zq 5 (zn (zs (zQ 2 (zn (cD ((op (cA l num).1.vr (cA l num).1.nonce (bsB p l (cA l num).1.target (cA l num).1.sec (cA l num).1.fl) (aJ l (cA l num).1.target).1.d (cA l num).1.tag).2 != 0) (fun h2 => ?_) (fun h2 => ?_))))))
   ·
    refine zQ 2 (aY 2 b2 (zq 1 (zn (aA (dU [3,0] [(b2,20)] [(.agg Z20.toArray),(I6 (op (cA l num).1.vr (cA l num).1.nonce (bsB p l (cA l num).1.target (cA l num).1.sec (cA l num).1.fl) (aJ l (cA l num).1.target).1.d (cA l num).1.tag).2)] (fun W' hM => ?_))))))
    rw [show aFl op p l num = (Pr.zero,[],(op (cA l num).1.vr (cA l num).1.nonce (bsB p l (cA l num).1.target (cA l num).1.sec (cA l num).1.fl) (aJ l (cA l num).1.target).1.d (cA l num).1.tag).2) from by unfold aFl; rw [if_neg (by rw [h0]; exact Bool.false_ne_true),if_neg (by rw [h1]; exact Bool.false_ne_true),if_pos h2]]
    exact cF hM (View.le_refl _) ⟨none,0,rfl,cX.nil⟩
   ·
    have h2d := bne_eq_false_iff_eq.1 h2
    refine zk (zs (zr ?_))
    have hgt9 := (aDp (by simpa using h1)).2.2.2.1
    have hgn9 := (aE1 (by simpa using h0)).1
    obtain ⟨i9,y9,hi9,hy9,hg9⟩ := mG hgt9
    obtain ⟨k9,z9,hk9,hz9,hgz9⟩ := mG hgn9
    have hne : l ≠ [] := by rintro rfl; simp at hy9
    obtain ⟨bL,fL,rfl,hrL⟩ := hl.iO hne
    have hok9 := hl.ok
    refine cU [0,1,0,4,0] [(b0,1),(b3,1)] ?_
    refine sB 66 #[(Sl bL fL l.length c),(I6 (cA l num).1.target),(St (op (cA l num).1.vr (cA l num).1.nonce (bsB p l (cA l num).1.target (cA l num).1.sec (cA l num).1.fl) (aJ l (cA l num).1.target).1.d (cA l num).1.tag).1)] 38 5 l.length (((l.set i9 (y9.withD (op (cA l num).1.vr (cA l num).1.nonce (bsB p l (cA l num).1.target (cA l num).1.sec (cA l num).1.fl) (aJ l (cA l num).1.target).1.d (cA l num).1.tag).1)).flatMap Bk.cs)) kR (fun W hM => aEp bL fL c l (cA l num).1.target (op (cA l num).1.vr (cA l num).1.nonce (bsB p l (cA l num).1.target (cA l num).1.sec (cA l num).1.fl) (aJ l (cA l num).1.target).1.d (cA l num).1.tag).1 i9 y9 W hM.view hrL hok9 oW hi9 hy9) kR kR (fun b5 c5 j5 hJ5 => ?_)
    have hL9 : aKa l num (cA l num).1.target (op (cA l num).1.vr (cA l num).1.nonce (bsB p l (cA l num).1.target (cA l num).1.sec (cA l num).1.fl) (aJ l (cA l num).1.target).1.d (cA l num).1.tag).1 = dR (l.set i9 (y9.withD (op (cA l num).1.vr (cA l num).1.nonce (bsB p l (cA l num).1.target (cA l num).1.sec (cA l num).1.fl) (aJ l (cA l num).1.target).1.d (cA l num).1.tag).1)) k9 := by unfold aKa; rw [hi9,hk9,hg9,Int.toNat_natCast,Int.toNat_natCast]
    have htx9 : (op (cA l num).1.vr (cA l num).1.nonce (bsB p l (cA l num).1.target (cA l num).1.sec (cA l num).1.fl) (aJ l (cA l num).1.target).1.d (cA l num).1.tag).1.length ≤ R47 := hOl _ _ _ _ _
    have hidx2 : gH (l.set i9 (y9.withD (op (cA l num).1.vr (cA l num).1.nonce (bsB p l (cA l num).1.target (cA l num).1.sec (cA l num).1.fl) (aJ l (cA l num).1.target).1.d (cA l num).1.tag).1)) num = (k9 : Int) := (aDb hy9).trans hk9
    have hok2 : ∀ x ∈ l.set i9 (y9.withD (op (cA l num).1.vr (cA l num).1.nonce (bsB p l (cA l num).1.target (cA l num).1.sec (cA l num).1.fl) (aJ l (cA l num).1.target).1.d (cA l num).1.tag).1),x.ok := fun x hx => by
     rcases List.mem_or_eq_of_mem_set hx with hx | rfl
     · exact hok9 x hx
     · exact ⟨(hok9 y9 (List.mem_of_getElem? hy9)).f,htx9⟩
    generalize hl2 : l.set i9 (y9.withD (op (cA l num).1.vr (cA l num).1.nonce (bsB p l (cA l num).1.target (cA l num).1.sec (cA l num).1.fl) (aJ l (cA l num).1.target).1.d (cA l num).1.tag).1) = l2 at hJ5 hL9 hidx2 hok2 ⊢
    have hl2n : l2.length = l.length := by rw [← hl2]; exact List.length_set
    rw [← hl2n] at hJ5
    have hkl9 : k9 < l2.length := by rw [hl2n]; exact (List.getElem?_eq_some_iff.1 hz9).1
    have hok3 : ∀ x ∈ dR l2 k9,x.ok := fun x hx => by
     unfold dR at hx
     rcases List.mem_append.1 hx with hx | hx
     · exact hok2 x (List.mem_of_mem_take hx)
     · exact hok2 x (List.mem_of_mem_drop hx)
    have hdl9 := aJD hkl9
    refine eE 74 (Sl b5 0 l.length c5) (Sl b5 0 l2.length c5) (by rw [hl2n]) ?_
    refine zq 1 (zn (zQ 2 (dA 67 #[(Sl b5 0 l2.length c5),(.func (.func 68) #[] #[(Pt b1 0)])] (I6 (k9 : Int)) (fun W hM => hidx2 ▸ aJG l2 (some ⟨b5,0,none⟩) c5 num b1 W (U := aBT W) (fun _ _ h => h) (cX.of (fD (show (aBT W).range b5 0 (l2.flatMap Bk.cs ++ j5) from cW hM 5 b5 (l2.flatMap Bk.cs ++ j5) 38 kR)).1 hok2 (by unfold R47; omega)) (cW hM 1 b1 [.int .i64 num] 3 kR 0 _ rfl)) ?_)))
    refine zq 1 (zn (zs ?_))
    refine rZ 9 2 0 [78,79,80,81,82,83,84,85,86] [.val (bnV p (some ⟨bL,fL,none⟩) l.length c),.val (Sl b5 0 l2.length c5),.val (I6 (k9 : Int)),.val (I6 (k9 : Int)),.val (I6 ((k9 + 1 : Nat) : Int)),.mem (lC (dR l2 k9)),.mem (iX (iD p (dR l2 k9)) (tO p (dR l2 k9)) (aZ p (dR l2 k9))),.mem (aAQ (iD p (dR l2 k9)) (tO p (dR l2 k9))),.val (I6 (aZ p (dR l2 k9)))] 5 [(b5,(.cells (l2.flatMap Bk.cs ++ j5).toArray 38 (0,0)))] ([(bK b0 (eB p (some ⟨bL,fL,none⟩) l.length c) 29),(bK b1 [(I6 num)] 3),(b2,.cells Z20.toArray 29 (0,0)),(bK b3 [(I6 (cA l num).1.sec.t),(I6 (cA l num).1.sec.n),(N6 (cA l num).1.sec.f),(I6 (cA l num).1.sec.c),(St (cA l num).1.sec.d),(I6 (cA l num).1.target),(St (cA l num).1.nonce),(St (cA l num).1.tag),(I6 (cA l num).1.vr),(I6 (cA l num).1.fl)] 127),(bK b4 [(I6 (aJ l (cA l num).1.target).1.t),(I6 (aJ l (cA l num).1.target).1.n),(N6 (aJ l (cA l num).1.target).1.f),(I6 (aJ l (cA l num).1.target).1.c),(St (aJ l (cA l num).1.target).1.d)] 38)] ++ ([])) (fun v V σ' => lC (dR l2 k9) v V ∧ σ' = []) (sL [(bK b0 (eB p (some ⟨bL,fL,none⟩) l.length c) 29),(bK b1 [(I6 num)] 3),(b2,.cells Z20.toArray 29 (0,0)),(bK b3 [(I6 (cA l num).1.sec.t),(I6 (cA l num).1.sec.n),(N6 (cA l num).1.sec.f),(I6 (cA l num).1.sec.c),(St (cA l num).1.sec.d),(I6 (cA l num).1.target),(St (cA l num).1.nonce),(St (cA l num).1.tag),(I6 (cA l num).1.vr),(I6 (cA l num).1.fl)] 127),(bK b4 [(I6 (aJ l (cA l num).1.target).1.t),(I6 (aJ l (cA l num).1.target).1.n),(N6 (aJ l (cA l num).1.target).1.f),(I6 (aJ l (cA l num).1.target).1.c),(St (aJ l (cA l num).1.target).1.d)] 38)] ([]) (b5,(.cells (l2.flatMap Bk.cs ++ j5).toArray 38 (0,0))) kR) kR rfl rfl kR kR kR kR kR kR (by simp only [List.forall_mem_cons]; exact ⟨trivial,trivial,trivial,trivial,trivial,by intro v V V2 hV2 hP; (first | trivial | exact lC.mono hV2 hP | exact iX.mono hV2 hP | exact aAQ.mono hV2 hP),by intro v V V2 hV2 hP; (first | trivial | exact lC.mono hV2 hP | exact iX.mono hV2 hP | exact aAQ.mono hV2 hP),by intro v V V2 hV2 hP; (first | trivial | exact lC.mono hV2 hP | exact iX.mono hV2 hP | exact aAQ.mono hV2 hP),trivial,fun _ h => by cases h⟩) (show (5 : Nat) < 9 by decide) _ rfl (by intro v V s2 h; exact h.1) (by intro v V V2 s2 hV h; exact ⟨lC.mono hV h.1,h.2⟩) ⟨?_,?_,?_,?_,?_,?_,?_,?_,?_,trivial⟩ [8,9,85,86] (fun u => [(Pt b2 0),(I6 0),u 7,(I6 (aZ p (dR l2 k9)))]) kF ?_
    · exact ObM.o 0 (show (0 : Nat) ≠ 5 by decide) (fun σ' => oqL 0 0 b0 20 (eB p (some ⟨bL,fL,none⟩) l.length c) 29 rfl (bnV p (some ⟨bL,fL,none⟩) l.length c) rfl kR kF kF)
    · exact ObM.o 1 (show (1 : Nat) ≠ 5 by decide) (fun σ' => oqQ 1 rfl (Sl b5 0 l2.length c5) (Sl b5 0 l2.length c5) rfl rfl kF kF)
    · exact ObM.o 2 (show (2 : Nat) ≠ 5 by decide) (fun σ' => oqQ 2 rfl (L6 k9) (L6 k9) rfl rfl kF kF)
    · exact ObM.o 3 (show (3 : Nat) ≠ 5 by decide) (fun σ' => oqQ 3 rfl (L6 k9) (L6 k9) rfl rfl kF kF)
    · exact ObM.o 4 (show (4 : Nat) ≠ 5 by decide) (fun σ' => oqQ 4 rfl (I6 (IntKind.i64.wrap ((k9 : Int) + 1))) (I6 ((k9 + 1 : Nat) : Int)) (congrArg (Value.int .i64) (by rw [IntWalk.i64_in _ oW]; omega)) rfl kF kF)
    ·
     refine ObM.call ⟨_,70,[79,80,82],(fun u => [(Sl b5 0 l2.length c5),(L6 k9),(I6 ((k9 + 1 : Nat) : Int))]),rfl,rfl,kF,fun u V hV hdq => ?_⟩
     refine ⟨#[(Sl b5 0 l2.length c5),(L6 k9),(I6 ((k9 + 1 : Nat) : Int))],by kernel_rfl,fun W hM => ?_⟩
     exact (aEi b5 c5 l2.length k9 _ j5 hM hJ5 (mI l2) hkl9).mono fun e W' h => h.mono fun v V' σ2 ⟨h1,h2,h3⟩ => ⟨aAu (by rw [aHq] at h3; exact h3) h2 (by rw [hdl9]) hok3 (by unfold R47; omega),h1⟩
    ·
     refine ObM.o 6 (show (6 : Nat) ≠ 5 by decide) (fun σ' => oqM 6 69 rfl rfl (iX (iD p (dR l2 k9)) (tO p (dR l2 k9)) (aZ p (dR l2 k9))) rfl [78,83] (fun u => [(bnV p (some ⟨bL,fL,none⟩) l.length c),u 5]) kF (fun u V hV hdq => ?_))
     have e5 : (lC (dR l2 k9)) (u 5) V := hdq 5 kR
     obtain ⟨a5,c5,q5,hb5⟩ := e5
     refine ⟨#[(bnV p (some ⟨bL,fL,none⟩) l.length c),u 5],by kernel_rfl,fun W hW => ?_⟩
     rw [q5]
     exact aAt p l (dR l2 k9) _ _ _ _ W hW hp hb5
    ·
     refine ObM.o 7 (show (7 : Nat) ≠ 5 by decide) (fun σ' => oqP 7 rfl rfl (aAQ (iD p (dR l2 k9)) (tO p (dR l2 k9))) rfl [84] (fun u => [u 6]) kF (fun u V hV hdq => ?_))
     have e6 : (iX (iD p (dR l2 k9)) (tO p (dR l2 k9)) (aZ p (dR l2 k9))) (u 6) V := hdq 6 kR
     obtain ⟨a6,c6,q6,hb6⟩ := e6
     rw [q6]
     exact ⟨(bnV (iD p (dR l2 k9)) a6 (tO p (dR l2 k9)).length c6),by kernel_rfl,⟨_,_,rfl,hb6⟩⟩
    ·
     refine ObM.o 8 (show (8 : Nat) ≠ 5 by decide) (fun σ' => oqK 8 rfl rfl (I6 (aZ p (dR l2 k9))) rfl [84] (fun u => [u 6]) kF (fun u V hV hdq => ?_))
     have e6 : (iX (iD p (dR l2 k9)) (tO p (dR l2 k9)) (aZ p (dR l2 k9))) (u 6) V := hdq 6 kR
     obtain ⟨a6,c6,q6,hb6⟩ := e6
     rw [q6]
     show _ = _
     kernel_rfl
    intro u6 V6 s6 hV6 hdq6 hP6
    generalize u6 5 = z6 at hP6 ⊢
    obtain ⟨_,rfl⟩ := hP6
    have e7_6 : (aAQ (iD p (dR l2 k9)) (tO p (dR l2 k9))) (u6 7) V6 := hdq6 7 (by decide)
    obtain ⟨a7_6,c7_6,q7_6,hb7_6⟩ := e7_6
    rw [q7_6]
    refine aY 2 b2 (zq 1 (zn (aA (dU [3,0] [(b2,20)] [(.agg #[(N6 (iD p (dR l2 k9)).f),(I6 (iD p (dR l2 k9)).c),(I6 (iD p (dR l2 k9)).dst.s),(St (iD p (dR l2 k9)).dst.l),(N6 (iD p (dR l2 k9)).dst.n),(N6 (iD p (dR l2 k9)).dst.v),(I6 (iD p (dR l2 k9)).src.s),(St (iD p (dR l2 k9)).src.l),(N6 (iD p (dR l2 k9)).src.n),(N6 (iD p (dR l2 k9)).src.v),(I6 (iD p (dR l2 k9)).rpt.s),(St (iD p (dR l2 k9)).rpt.l),(N6 (iD p (dR l2 k9)).rpt.n),(N6 (iD p (dR l2 k9)).rpt.v),(N6 (iD p (dR l2 k9)).time),(N6 (iD p (dR l2 k9)).seq),(N6 (iD p (dR l2 k9)).life),(N6 (iD p (dR l2 k9)).off),(N6 (iD p (dR l2 k9)).tot),(.slice a7_6 (tO p (dR l2 k9)).length c7_6)]),(I6 (aZ p (dR l2 k9)))] (fun W' hM => ?_)))))
    rw [show aFl op p l num = (iD p (dR l2 k9),tO p (dR l2 k9),aZ p (dR l2 k9)) from by unfold aFl; rw [if_neg (by rw [h0]; exact Bool.false_ne_true),if_neg (by rw [h1]; exact Bool.false_ne_true),if_neg (by rw [h2]; exact Bool.false_ne_true),hL9]]
    exact cF hM hV6 ⟨_,_,rfl,hb7_6⟩
set_option maxHeartbeats 1600000 in
set_option maxRecDepth 100000 in
theorem aKz {s : cB} {o : Oper} (yt : TypeId) (x y : Operand) (ho : o.op = .binOp .eql 354 x y yt) (a1 b1 : Int) (a2 a3 a4 a5 a6 a7 b2 b3 b4 b5 b6 b7 : List UInt8)
  (hx : evS s x = some (.agg #[.int .i64 a1, .string (B a2), .string (B a3), .string (B a4), .string (B a5), .string (B a6), .string (B a7)])) (hy : evS s y = some (.agg #[.int .i64 b1, .string (B b2), .string (B b3), .string (B b4), .string (B b5), .string (B b6), .string (B b7)])) (W : World) :
  (execOp (ev s) o).run Tryz.prog W = .ok (.value (.bool (decide (a1 = b1 ∧ a2 = b2 ∧ a3 = b3 ∧ a4 = b4 ∧ a5 = b5 ∧ a6 = b6 ∧ a7 = b7)))) W := by
 unfold execOp
 simp only [ho, eF hx, eF hy]
 go_simp
 (repeat' split) <;> simp_all [aNP]
structure En where
 v : Int
 k : List UInt8
 nn : List UInt8
 wt : List UInt8
 t : List UInt8
 m : List UInt8
 g : List UInt8
def En.cs (e : En) : List Value := aMW e.v e.k e.nn e.wt e.t e.m e.g
def EnR (_ : View) (e : En) (cs : List Value) : Prop := cs = e.cs
def aDi (v : Int) (k nn wt m g : List UInt8) (e : En) : Bool := decide (e.v = v ∧ e.k = k ∧ e.nn = nn ∧ e.wt = wt ∧ ([] : List UInt8) = [] ∧ e.m = m ∧ e.g = g)
def iO (L : List En) (v : Int) (k nn wt m g : List UInt8) : List UInt8 × Bool := match L.find? (aDi v k nn wt m g) with
 | some e => (e.t, true)
 | none => ([], false)
theorem aCh {L : List En} {v : Int} {k nn wt m g : List UInt8} {i : Nat} {y : En} (h : L[i]? = some y) : iO (L.drop i) v k nn wt m g = if aDi v k nn wt m g y = true then (y.t, true) else iO (L.drop (i + 1)) v k nn wt m g := by
 unfold iO
 rw [cK h, List.find?_cons]
 cases aDi v k nn wt m g y <;> simp
structure aNZ (U : View) (ib : Nat) (L : List En) : Prop where
 at_ : ∃ a c, U ⟨ib, 0, none⟩ = some (.slice a L.length c) ∧ iM EnR 7 U a L
theorem aJn (vr : Int) (key nonce wth made tag : List UInt8) (ib : Nat) (L : List En) (w : World) {U : View} (hU : See U w) (hT : aNZ U ib L) : CP 290 #[.pointer (some ⟨ib, 0, none⟩), .int .i64 vr, .string (B key), .string (B nonce), .string (B wth), .string (B made), .string (B tag)] w (Ret (.tuple #[.string (B (iO L vr key nonce wth made tag).1), .bool (iO L vr key nonce wth made tag).2]) w) := by
 obtain ⟨a,c,hib,hL⟩ := hT.at_
 have hlen := hL.len
 unfold R47 at hlen
 refine eG 42 Tryz.func290 hU ?_
 refine zQ 2 (zn (zs (zQ 3 (zV ib (0) (.slice a L.length c) hib 74 (.tmp 21) _ Tryz.underlying74 rfl ?_))))
 refine zq 2 (zn (aB (gX (α := Nat) (fun x => [1,2,3,4,5,6,14,15,22,23,24].zip [(I6 vr),(St key),(St nonce),(St wth),(St made),(St tag),(St []),(.bool false),(.slice a L.length c),(L6 L.length),(L6 x)]) (fun x => U) (fun x => []) (fun x => x ≤ L.length ∧ iO (L.drop x) vr key nonce wth made tag = iO L vr key nonce wth made tag) (fun x => L.length - x) 0 ?_ ?_)))
 · exact ⟨Nat.zero_le _,rfl⟩
 intro x hx
 obtain ⟨hx1,hx2⟩ := hx
 refine zQ 1 (zn (zs (cD (decide ((x : Int) < (L.length : Int))) (fun h0 => ?_) (fun h0 => ?_))))
 ·
  have h0d := of_decide_eq_true h0
  refine zk (zs (aB (zs (zr ?_))))
  obtain ⟨y0,hy0⟩ : ∃ y,(L)[x]? = some y := ⟨(L)[x]'oW,List.getElem?_eq_getElem _⟩
  obtain ⟨b0,f0,cs0,rfl,hU0,hR0⟩ := hL.at_ x y0 hy0
  obtain rfl := hR0
  refine cH (Pt b0 (f0 + x * 7)) (rIx 354 rfl b0 f0 L.length c x 7) ?_
  refine zU b0 (f0 + x * 7) [(I6 y0.v),(St y0.k),(St y0.nn),(St y0.wt),(St y0.t),(St y0.m),(St y0.g)] hU0 354 (.tmp 26) _ Tryz.underlying354 rfl ?_
  refine cJ (fun b1 => (aY 0 b1 (zn (zB [0,1,0] [(b1,1)] (zn (zQ 1 (aY 0 b1 (zn (zB [1,0,0,0,0,0,0,0] [(b1,7)] (cH (.bool (decide (y0.v = vr ∧ y0.k = key ∧ y0.nn = nonce ∧ y0.wt = wth ∧ ([] : List UInt8) = [] ∧ y0.m = made ∧ y0.g = tag))) (aKz _ _ _ rfl _ _ _ _ _ _ _ _ _ _ _ _ _ _ kR kR) ?_))))))))))
  refine zn (cD (decide (y0.v = vr ∧ y0.k = key ∧ y0.nn = nonce ∧ y0.wt = wth ∧ ([] : List UInt8) = [] ∧ y0.m = made ∧ y0.g = tag)) (fun h1 => ?_) (fun h1 => ?_))
  ·
   have h1d := of_decide_eq_true h1
   refine zQ 3 (zn (aA (aH [14,15] [(St y0.t),(.bool true)] (fun W' hM => ?_))))
   refine ⟨?_,hM.below⟩
   have hh9 : aDi vr key nonce wth made tag y0 = true := h1
   rw [show iO L vr key nonce wth made tag = (y0.t,true) from by rw [← hx2,aCh hy0,if_pos hh9]]
   rfl
  ·
   have h1d := of_decide_eq_false h1
   refine zk (zr (zq 1 (fC 41 ((x : Int) + 1) (zq 1 (zn ?_)))))
   refine nx (x + 1) ?_ ?_ (d := fun _ h => Mem.sub (List.sublist_append_left _ _) (h.eqv (show _ = ([] : aF) ++ ([(b1,.cells [(I6 y0.v),(St y0.k),(St y0.nn),(St y0.wt),(St []),(St y0.m),(St y0.g)].toArray 354 (0,0))] : aF) from by kernel_rfl)))
   · exact ⟨by omega,by rw [← hx2,aCh hy0,if_neg (by rw [show aDi vr key nonce wth made tag y0 = false from h1]; exact Bool.false_ne_true)]⟩
   · show L.length - (x + 1) < L.length - x; omega
 ·
  have h0d := of_decide_eq_false h0
  refine aU (zQ 2 (zn (aA (aH [14,15] [(St []),(.bool false)] (fun W' hM => ?_)))))
  refine ⟨?_,hM.below⟩
  rw [show iO L vr key nonce wth made tag = ([],false) from by rw [← hx2,cY oW]; rfl]
  rfl
def sY (L : List En) (v : Int) (k nn wt m g : List UInt8) : List UInt8 × Int := if gV v k nn = false then ([], 1) else if (iO L v k nn wt m g).2 = false then ([], 7) else ((iO L v k nn wt m g).1, 0)
theorem aJu (vr : Int) (key nonce wth made tag : List UInt8) (eb ib : Nat) (L : List En) (w : World) {U : View} (hU : See U w) (he : aBV U eb ib) (hT : aNZ U ib L) : CP 65 #[.pointer (some ⟨eb, 0, none⟩), .int .i64 vr, .string (B key), .string (B nonce), .string (B wth), .string (B made), .string (B tag)] w (Ret (.tuple #[.string (B (sY L vr key nonce wth made tag).1), .int .i64 (sY L vr key nonce wth made tag).2]) w) := by
 refine eG 40 Tryz.func65 hU ?_
 refine zQ 2 (zn (zs (zQ 3 (dL (fun W hM => aCq vr key nonce W) (zq 1 (zn (cD (!(gV vr key nonce)) (fun h0 => ?_) (fun h0 => ?_))))))))
 ·
  refine zQ 2 (zn (aA (aH [14,15] [(St []),(I6 1)] (fun W' hM => ?_))))
  have hp9 : gV vr key nonce = false := by simpa using h0
  refine ⟨?_,hM.below⟩
  unfold sY
  simp only [cG,hp9,bs,bQ,reduceIte,Bool.true_eq_false,reduceCtorEq]
  try rfl
 ·
  refine zk (zQ 3 (zV eb (0) (.iface 73 (Pt ib 0)) he 78 (.tmp 26) _ Tryz.underlying78 rfl ?_))
  refine zq 6 (dL (fun W hM => aJn vr key nonce wth made tag ib L W hM.view hT) (zq 5 (zn (zs (zQ 2 (zn (cD (!(iO L vr key nonce wth made tag).2) (fun h1 => ?_) (fun h1 => ?_))))))))
  ·
   refine zQ 2 (zn (aA (aH [14,15] [(St []),(I6 7)] (fun W' hM => ?_))))
   have hp9 : gV vr key nonce = true := by simpa using h0
   have hq9 : (iO L vr key nonce wth made tag).2 = false := by simpa using h1
   refine ⟨?_,hM.below⟩
   unfold sY
   simp only [cG,hp9,hq9,bs,bQ,reduceIte,Bool.true_eq_false,reduceCtorEq]
   try rfl
  ·
   refine zk (zQ 3 (zn (aA (aH [14,15] [(St (iO L vr key nonce wth made tag).1),(I6 0)] (fun W' hM => ?_)))))
   have hp9 : gV vr key nonce = true := by simpa using h0
   have hq9 : (iO L vr key nonce wth made tag).2 = true := by simpa using h1
   refine ⟨?_,hM.below⟩
   unfold sY
   simp only [cG,hp9,hq9,bs,bQ,reduceIte,Bool.true_eq_false,reduceCtorEq]
   try rfl
theorem dgB (m : Nat) : UInt8.ofNat (IntKind.u8.wrap ((m : Int).tmod 256)).toNat = UInt8.ofNat m := by
 have h1 : ((m : Int).tmod 256) = ((m % 256 : Nat) : Int) := by
  rw [Int.tmod_eq_emod_of_nonneg oW]
  simp
 rw [h1, u8_in oW oW, Int.toNat_natCast]
 apply UInt8.toNat_inj.1
 simp
theorem aME {n x m : Nat} (hm : m = n / 256 ^ x) : [UInt8.ofNat (IntKind.u8.wrap ((m : Int).tmod 256)).toNat] ++ Itm.dg n x = Itm.dg n (x + 1) := by
 rw [dgB, hm]
 rfl
theorem u64_quo (m : Nat) (hm : m < W64) : IntKind.u64.wrap ((m : Int).tdiv 256) = ((m / 256 : Nat) : Int) := by
 have h1 : ((m : Int).tdiv 256) = ((m / 256 : Nat) : Int) := by
  rw [Int.tdiv_eq_ediv_of_nonneg oW]
  simp
 rw [h1]
 unfold W64 at hm
 exact u64_in oW oW
theorem oL (n k : Nat) (hn : n < W64) (hk : k ≤ 8) (w : World) : CP 152 #[.int .u64 (n : Int), .int .i64 (k : Int)] w (Ret (.string (B (Itm.dg n k))) w) := by
 refine dK 22 Tryz.func152 ?_
 refine zQ 1 (zn (zQ 1 (zn (zs (zQ 1 (zn (aB (gX (α := Nat × Nat) (fun x => [0,1,4,5,6].zip [(N6 x.2),(I6 (k : Int)),(St []),(St (Itm.dg n x.1)),(L6 x.1)]) (fun x => View.no) (fun x => []) (fun x => x.1 ≤ k ∧ x.2 = n / 256 ^ x.1) (fun x => k - x.1) (0,n) ?_ ?_))))))))
 · exact ⟨Nat.zero_le _,by simp⟩
 intro x hx
 obtain ⟨hx1,hx2⟩ := hx
 have hdl := Itm.fA n x.1
 have hx3 : x.2 < W64 := by rw [hx2]; exact Nat.lt_of_le_of_lt (Nat.div_le_self _ _) hn
 refine zs (zQ 3 (zn (cD (decide ((x.1 : Int) < (k : Int))) (fun h0 => ?_) (fun h0 => ?_))))
 ·
  have h0d := of_decide_eq_true h0
  refine zk (zs (aB (zQ 3 (cJ (fun b0 => (cU [1,0] [(b0,1)] (cH (St ([UInt8.ofNat ((IntKind.u8.wrap (((x.2 : Int)).tmod 256)) : Int).toNat] ++ (Itm.dg n x.1))) (cE _ _ _ _ rfl [UInt8.ofNat ((IntKind.u8.wrap (((x.2 : Int)).tmod 256)) : Int).toNat] (Itm.dg n x.1) kR kR oA) ?_)))))))
  refine eE 18 (St ([UInt8.ofNat ((IntKind.u8.wrap (((x.2 : Int)).tmod 256)) : Int).toNat] ++ (Itm.dg n x.1))) (St (Itm.dg n (x.1 + 1))) (congrArg (fun z => Value.string (B z)) (aME hx2)) ?_
  refine zq 1 (zn (zr (zq 2 (eE 20 (U6 (IntKind.u64.wrap (((x.2 : Int)).tdiv 256))) (N6 (x.2 / 256 : Nat)) (congrArg (Value.int .u64) (u64_quo x.2 hx3)) ?_))))
  refine zq 1 (zn (zr (zq 2 (fC 11 ((x.1 : Int) + 1) (zq 1 (zn ?_))))))
  refine nx (x.1 + 1,x.2 / 256) ?_ ?_ (d := fun _ h => Mem.sub (List.sublist_append_left _ _) (h.eqv (show _ = ([] : aF) ++ ([(bK b0 [(.int .u8 (IntKind.u8.wrap (((x.2 : Int)).tmod 256)))] 5)] : aF) from by kernel_rfl)))
  · exact ⟨by show x.1 + 1 ≤ k; omega,by show x.2 / 256 = n / 256 ^ (x.1 + 1); rw [hx2,Nat.div_div_eq_div_mul,Nat.pow_succ]⟩
  · show k - (x.1 + 1) < k - x.1; omega
 ·
  have h0d := of_decide_eq_false h0
  refine aU (zQ 2 (zn (aA (aH [4] [(St (Itm.dg n x.1))] (fun W' hM => ?_)))))
  have hxk : x.1 = k := by omega
  exact ⟨by rw [← hxk]; rfl,hM.below⟩
theorem hb8 (m c : Nat) (hm : m ≤ 7) (hc : c < 32) : UInt8.ofNat (IntKind.u8.wrap ((32 * (m : Int)) + (c : Int))).toNat = UInt8.ofNat (32 * m + c) := by
 rw [u8_in oW oW]
 congr 1
set_option maxRecDepth 100000 in
theorem dO (m n : Nat) (w : World) (hm : m ≤ 7) (hn : n < W64) : CP 108 #[.int .i64 (m : Int), .int .u64 (n : Int)] w (Ret (.string (B (Itm.aD m n))) w) := by
 have hn2 := hn
 unfold W64 at hn2
 have d1 := Itm.fA n 1
 have d2 := Itm.fA n 2
 have d4 := Itm.fA n 4
 have d8 := Itm.fA n 8
 refine dK 51 Tryz.func108 ?_
 refine zQ 1 (zn (zQ 2 (fC 7 (32 * (m : Int)) (zq 1 (eE 8 (.int .u8 (IntKind.u8.wrap (32 * (m : Int)))) (.int .u8 (32 * (m : Int))) (congrArg (Value.int .u8) (u8_in oW oW)) ?_)))))
 refine zq 1 (zn (zs (zQ 2 (zn (cD (decide ((n : Int) < 24)) (fun h0 => ?_) (fun h0 => ?_))))))
 ·
  have h0d := of_decide_eq_true h0
  refine zQ 3 (eE 13 (.int .u8 (IntKind.u8.wrap (n : Int))) (.int .u8 (n : Int)) (congrArg (Value.int .u8) (u8_in oW oW)) ?_)
  refine zq 1 (cJ (fun b0 => (cU [1,0] [(b0,1)] (zn (aA (aH [4] [(St [UInt8.ofNat ((IntKind.u8.wrap ((32 * (m : Int)) + (n : Int))) : Int).toNat])] (fun W' hM => ?_)))))))
  refine ⟨?_,hM.below⟩
  show Ending.returned (Value.string (B [UInt8.ofNat ((IntKind.u8.wrap ((32 * (m : Int)) + (n : Int))) : Int).toNat])) = _
  rw [Itm.aD,if_pos oW,hb8 m n hm oW]
  try rfl
 ·
  have h0d := of_decide_eq_false h0
  refine zk (zs (zQ 2 (zn (cD (decide ((n : Int) < 256)) (fun h1 => ?_) (fun h1 => ?_)))))
  ·
   have h1d := of_decide_eq_true h1
   refine zs ?_
   refine gU 3 [0,0,1,1,0,1] [] [.blk (fun r => (Sl r 0 1 1)) (oK [(.int .u8 (IntKind.u8.wrap ((32 * (m : Int)) + 24)))] 5),.val (St [UInt8.ofNat ((IntKind.u8.wrap ((32 * (m : Int)) + 24)) : Int).toNat]),.val (St (Itm.dg n 1))] ⟨?_,?_,?_,trivial⟩ ?_
   · exact vN
   · exact vB 2 1 21 (fun r => (Sl r 0 1 1)) [(.int .u8 (IntKind.u8.wrap ((32 * (m : Int)) + 24)))] 5
   · exact vC 152 #[(N6 n),(I6 1)] (fun W hM => oL n 1 hn (by decide) W)
   refine cH (St ([UInt8.ofNat ((IntKind.u8.wrap ((32 * (m : Int)) + 24)) : Int).toNat] ++ (Itm.dg n 1))) (cE _ _ _ _ rfl [UInt8.ofNat ((IntKind.u8.wrap ((32 * (m : Int)) + 24)) : Int).toNat] (Itm.dg n 1) kR kR oA) ?_
   refine zq 1 (zn (aA (aH [4] [(St ([UInt8.ofNat ((IntKind.u8.wrap ((32 * (m : Int)) + 24)) : Int).toNat] ++ (Itm.dg n 1)))] (fun W' hM => ?_))))
   refine ⟨?_,hM.below⟩
   show Ending.returned (Value.string (B ([UInt8.ofNat ((IntKind.u8.wrap ((32 * (m : Int)) + 24)) : Int).toNat] ++ (Itm.dg n 1)))) = _
   rw [Itm.aD,if_neg oW,if_pos oW,(show UInt8.ofNat (IntKind.u8.wrap ((32 * (m : Int)) + 24)).toNat = UInt8.ofNat (32 * m + 24) from hb8 m 24 hm oW)]
   try rfl
  ·
   have h1d := of_decide_eq_false h1
   refine zk (zs (zQ 2 (zn (cD (decide ((n : Int) < 65536)) (fun h2 => ?_) (fun h2 => ?_)))))
   ·
    have h2d := of_decide_eq_true h2
    refine zs ?_
    refine gU 3 [0,0,1,1,0,1] [] [.blk (fun r => (Sl r 0 1 1)) (oK [(.int .u8 (IntKind.u8.wrap ((32 * (m : Int)) + 25)))] 5),.val (St [UInt8.ofNat ((IntKind.u8.wrap ((32 * (m : Int)) + 25)) : Int).toNat]),.val (St (Itm.dg n 2))] ⟨?_,?_,?_,trivial⟩ ?_
    · exact vN
    · exact vB 2 1 30 (fun r => (Sl r 0 1 1)) [(.int .u8 (IntKind.u8.wrap ((32 * (m : Int)) + 25)))] 5
    · exact vC 152 #[(N6 n),(I6 2)] (fun W hM => oL n 2 hn (by decide) W)
    refine cH (St ([UInt8.ofNat ((IntKind.u8.wrap ((32 * (m : Int)) + 25)) : Int).toNat] ++ (Itm.dg n 2))) (cE _ _ _ _ rfl [UInt8.ofNat ((IntKind.u8.wrap ((32 * (m : Int)) + 25)) : Int).toNat] (Itm.dg n 2) kR kR oA) ?_
    refine zq 1 (zn (aA (aH [4] [(St ([UInt8.ofNat ((IntKind.u8.wrap ((32 * (m : Int)) + 25)) : Int).toNat] ++ (Itm.dg n 2)))] (fun W' hM => ?_))))
    refine ⟨?_,hM.below⟩
    show Ending.returned (Value.string (B ([UInt8.ofNat ((IntKind.u8.wrap ((32 * (m : Int)) + 25)) : Int).toNat] ++ (Itm.dg n 2)))) = _
    rw [Itm.aD,if_neg oW,if_neg oW,if_pos oW,(show UInt8.ofNat (IntKind.u8.wrap ((32 * (m : Int)) + 25)).toNat = UInt8.ofNat (32 * m + 25) from hb8 m 25 hm oW)]
    try rfl
   ·
    have h2d := of_decide_eq_false h2
    refine zk (zs (zQ 2 (zn (cD (decide ((n : Int) < 4294967296)) (fun h3 => ?_) (fun h3 => ?_)))))
    ·
     have h3d := of_decide_eq_true h3
     refine zs ?_
     refine gU 3 [0,0,1,1,0,1] [] [.blk (fun r => (Sl r 0 1 1)) (oK [(.int .u8 (IntKind.u8.wrap ((32 * (m : Int)) + 26)))] 5),.val (St [UInt8.ofNat ((IntKind.u8.wrap ((32 * (m : Int)) + 26)) : Int).toNat]),.val (St (Itm.dg n 4))] ⟨?_,?_,?_,trivial⟩ ?_
     · exact vN
     · exact vB 2 1 39 (fun r => (Sl r 0 1 1)) [(.int .u8 (IntKind.u8.wrap ((32 * (m : Int)) + 26)))] 5
     · exact vC 152 #[(N6 n),(I6 4)] (fun W hM => oL n 4 hn (by decide) W)
     refine cH (St ([UInt8.ofNat ((IntKind.u8.wrap ((32 * (m : Int)) + 26)) : Int).toNat] ++ (Itm.dg n 4))) (cE _ _ _ _ rfl [UInt8.ofNat ((IntKind.u8.wrap ((32 * (m : Int)) + 26)) : Int).toNat] (Itm.dg n 4) kR kR oA) ?_
     refine zq 1 (zn (aA (aH [4] [(St ([UInt8.ofNat ((IntKind.u8.wrap ((32 * (m : Int)) + 26)) : Int).toNat] ++ (Itm.dg n 4)))] (fun W' hM => ?_))))
     refine ⟨?_,hM.below⟩
     show Ending.returned (Value.string (B ([UInt8.ofNat ((IntKind.u8.wrap ((32 * (m : Int)) + 26)) : Int).toNat] ++ (Itm.dg n 4)))) = _
     rw [Itm.aD,if_neg oW,if_neg oW,if_neg oW,if_pos oW,(show UInt8.ofNat (IntKind.u8.wrap ((32 * (m : Int)) + 26)).toNat = UInt8.ofNat (32 * m + 26) from hb8 m 26 hm oW)]
     try rfl
    ·
     have h3d := of_decide_eq_false h3
     refine zk (zs ?_)
     refine gU 3 [0,0,1,1,0,1] [] [.blk (fun r => (Sl r 0 1 1)) (oK [(.int .u8 (IntKind.u8.wrap ((32 * (m : Int)) + 27)))] 5),.val (St [UInt8.ofNat ((IntKind.u8.wrap ((32 * (m : Int)) + 27)) : Int).toNat]),.val (St (Itm.dg n 8))] ⟨?_,?_,?_,trivial⟩ ?_
     · exact vN
     · exact vB 2 1 46 (fun r => (Sl r 0 1 1)) [(.int .u8 (IntKind.u8.wrap ((32 * (m : Int)) + 27)))] 5
     · exact vC 152 #[(N6 n),(I6 8)] (fun W hM => oL n 8 hn (by decide) W)
     refine cH (St ([UInt8.ofNat ((IntKind.u8.wrap ((32 * (m : Int)) + 27)) : Int).toNat] ++ (Itm.dg n 8))) (cE _ _ _ _ rfl [UInt8.ofNat ((IntKind.u8.wrap ((32 * (m : Int)) + 27)) : Int).toNat] (Itm.dg n 8) kR kR oA) ?_
     refine zq 1 (zn (aA (aH [4] [(St ([UInt8.ofNat ((IntKind.u8.wrap ((32 * (m : Int)) + 27)) : Int).toNat] ++ (Itm.dg n 8)))] (fun W' hM => ?_))))
     refine ⟨?_,hM.below⟩
     show Ending.returned (Value.string (B ([UInt8.ofNat ((IntKind.u8.wrap ((32 * (m : Int)) + 27)) : Int).toNat] ++ (Itm.dg n 8)))) = _
     rw [Itm.aD,if_neg oW,if_neg oW,if_neg oW,if_neg oW,(show UInt8.ofNat (IntKind.u8.wrap ((32 * (m : Int)) + 27)).toNat = UInt8.ofNat (32 * m + 27) from hb8 m 27 hm oW)]
     try rfl
theorem aA9 (l : List UInt8) (hl : l.length ≤ R47) (w : World) : CP 94 #[.string (B l)] w (Ret (.string (B (Itm.aD 2 l.length ++ l))) w) := by
 have g1 := Itm.aW 2 l.length
 have hl2 := hl
 unfold R47 at hl2
 refine dK 9 Tryz.func94 ?_
 refine zQ 1 (zn (zQ 3 (eE 5 (U6 (IntKind.u64.wrap (((l).length : Nat) : Int))) (N6 ((l).length : Nat)) (congrArg (Value.int .u64) (u64_in oW oW)) ?_)))
 refine dL (fun W hM => dO 2 l.length W oW (by first | assumption | (unfold W64; omega) | decide)) (zq 1 (cH (St ((Itm.aD 2 l.length) ++ l)) (cE _ _ _ _ rfl (Itm.aD 2 l.length) l kR kR oA) ?_))
 refine zq 1 (zn (aA (jJ 2)))
theorem aNi (n : Nat) (hn : n < W64) (a : Option Addr) (c : Nat) (w : World) : CP 109 #[.agg #[(.int .i64 0), (.int .u64 (n : Int)), (.string (B [])), (.slice a 0 c), (.bool false)]] w (Ret (.string (B (Itm.aD 0 n))) w) := by
 refine dK 51 Tryz.func109 ?_
 refine zs (zr (cJ (fun b0 => (zq 1 (zn (zs (zB [0,1,0] [(b0,1)] (zn (dF (zB [0,1] [(b0,1)] (dL (fun W hM => dO 0 n W oW (by first | assumption | (unfold W64; omega) | decide)) (zq 1 (zn (aA (jJ 2)))))))))))))))
theorem aNh (l : List UInt8) (hl : l.length ≤ R47) (a : Option Addr) (c : Nat) (w : World) : CP 109 #[.agg #[(.int .i64 2), (.int .u64 0), (.string (B l)), (.slice a 0 c), (.bool false)]] w (Ret (.string (B (Itm.aD 2 l.length ++ l))) w) := by
 have g1 := Itm.aW 2 l.length
 have hl2 := hl
 unfold R47 at hl2
 refine dK 51 Tryz.func109 ?_
 refine zs (zr (cJ (fun b0 => (zq 1 (zn (zs (zB [0,1,0] [(b0,1)] (zn (dE (zk (zs (zB [0,1,0] [(b0,1)] (zn (dF (zs ?_)))))))))))))))
 refine gU 4 [0,3,0,3,0,1,1,0,3] [(b0,1),(b0,1),(b0,1)] [.val (N6 ((l).length : Nat)),.val (St (Itm.aD 2 l.length))] ⟨?_,?_,trivial⟩ ?_
 · exact vE (U6 (IntKind.u64.wrap (((l).length : Nat) : Int))) (congrArg (Value.int .u64) (u64_in oW oW))
 · exact vC 108 #[(I6 2),(N6 ((l).length : Nat))] (fun W hM => dO 2 l.length W oW (by first | assumption | (unfold W64; omega) | decide))
 refine cH (St ((Itm.aD 2 l.length) ++ l)) (cE _ _ _ _ rfl (Itm.aD 2 l.length) l kR kR oA) ?_
 refine zq 1 (zn (aA (jJ 2)))
theorem aNg (l : List UInt8) (hl : l.length ≤ R47) (a : Option Addr) (c : Nat) (w : World) : CP 109 #[.agg #[(.int .i64 3), (.int .u64 0), (.string (B l)), (.slice a 0 c), (.bool false)]] w (Ret (.string (B (Itm.aD 3 l.length ++ l))) w) := by
 have g1 := Itm.aW 3 l.length
 have hl2 := hl
 unfold R47 at hl2
 refine dK 51 Tryz.func109 ?_
 refine zs (zr (cJ (fun b0 => (zq 1 (zn (zs (zB [0,1,0] [(b0,1)] (zn (dE (zk (zs (zB [0,1,0] [(b0,1)] (zn (dF (zs ?_)))))))))))))))
 refine gU 4 [0,3,0,3,0,1,1,0,3] [(b0,1),(b0,1),(b0,1)] [.val (N6 ((l).length : Nat)),.val (St (Itm.aD 3 l.length))] ⟨?_,?_,trivial⟩ ?_
 · exact vE (U6 (IntKind.u64.wrap (((l).length : Nat) : Int))) (congrArg (Value.int .u64) (u64_in oW oW))
 · exact vC 108 #[(I6 3),(N6 ((l).length : Nat))] (fun W hM => dO 3 l.length W oW (by first | assumption | (unfold W64; omega) | decide))
 refine cH (St ((Itm.aD 3 l.length) ++ l)) (cE _ _ _ _ rfl (Itm.aD 3 l.length) l kR kR oA) ?_
 refine zq 1 (zn (aA (jJ 2)))
theorem aNj (d : Nat) (l : List Itm.Tr) (o : Bool) {U : View} {w : World} (hU : See U w) (a : Option Addr) (c : Nat) (hts : fG U a l)
    (ih : ∀ (t : Itm.Tr) (cs : List Value) {U : View} {w : World}, (∀ a v, U a = some v → w.cell? a = some v) → TV U t cs → Itm.aN d t = true → Itm.szT t ≤ aAT → CP 109 #[.agg cs.toArray] w (Ret (.string (B (Itm.aE t))) w))
    (hr : l.all (Itm.aN d) = true) (hsz : Itm.szL l ≤ aAT) :
    CP 109 #[.agg #[.int .i64 4, .int .u64 0, .string (B []), .slice a l.length c, .bool o]] w (Ret (.string (B ((if o then [159] else Itm.aD 4 l.length) ++ (Itm.dG l ++ (if o then [255] else []))))) w) := by
 have hl47 := hts.len
 unfold R47 at hl47
 have hbl := Itm.lG l
 have hhl := Itm.aW 4 l.length
 have hsz' := hsz
 unfold aAT at hsz'
 refine eG 51 Tryz.func109 hU ?_
 refine zs (zr (cJ (fun b0 => (zq 1 (zn (zs (zB [0,1,0] [(b0,1)] (zn (dE (zk (zs (zB [0,1,0] [(b0,1)] (zn (dE (zk (zB [0,1,0,0] [(b0,1)] (eE 27 (U6 (IntKind.u64.wrap (l.length : Int))) (N6 ((l.length : Nat))) (congrArg (Value.int .u64) (u64_in oW oW)) ?_)))))))))))))))))
 refine dL (fun W hM => dO 4 l.length W oW (by first | assumption | (unfold W64; omega) | decide)) (zq 1 (zn (zs (zB [0,1] [(b0,1)] (zn (cD o (fun h0 => ?_) (fun h0 => ?_)))))))
 ·
  refine zr (zq 1 (zn (zs (zQ 1 (zn (aB (gX (α := Nat × List UInt8) (fun x => [1,2,3,4].zip [(Pt b0 0),(St []),(St x.2),(L6 x.1)]) (fun x => U) (fun x => [(b0,.cells [(I6 4),(U6 0),(St []),(.slice a l.length c),(.bool o)].toArray 89 (0,0))]) (fun x => x.1 ≤ l.length ∧ x.2 ++ Itm.dG (l.drop x.1) = [159] ++ Itm.dG l) (fun x => l.length - x.1) (0,[159]) ?_ ?_)))))))
  · exact ⟨by simp,rfl⟩
  intro x hx
  obtain ⟨hx1,hx2⟩ := hx
  have hxl := congrArg List.length hx2
  simp only [List.length_append,List.length_cons,List.length_nil] at hxl
  refine zs (zB [0,0,1,0,0] [(b0,1)] (zn (cD (decide ((x.1 : Int) < (l.length : Int))) (fun h1 => ?_) (fun h1 => ?_))))
  ·
   have h1d := of_decide_eq_true h1
   refine zk (zs (aB (zr (cU [0,0,1,0] [(b0,1)] ?_))))
   obtain ⟨y1,hy1⟩ : ∃ y,(l)[x.1]? = some y := ⟨(l)[x.1]'oW,List.getElem?_eq_getElem _⟩
   obtain ⟨b1,f1,cs1,rfl,hU1,ht1⟩ := hts.at_ x.1 y1 hy1
   obtain ⟨a1,c1,rfl,hts1,hn1,hs1,hl1⟩ := ht1.form
   have hyr := List.all_eq_true.1 hr y1 (List.mem_of_getElem? hy1)
   have hyB := Itm.eM y1
   have hyS := Itm.aCO hy1
   have hyL := gI hy1
   have hyL2 := congrArg List.length hyL
   simp only [List.length_append] at hyL2
   refine cH (Pt b1 (f1 + x.1 * 5)) (rIx 89 rfl b1 f1 l.length c x.1 5) ?_
   refine zU b1 (f1 + x.1 * 5) (tC y1 a1 c1) hU1 89 (.tmp 42) _ Tryz.underlying89 rfl ?_
   refine dA 109 #[(tV y1 a1 c1)] (St (Itm.aE y1)) (fun W hM => ih _ _ hM.view ht1 hyr (by unfold aAT; omega)) ?_
   refine cH (St (x.2 ++ (Itm.aE y1))) (cE _ _ _ _ rfl x.2 (Itm.aE y1) kR kR oA) ?_
   refine zq 1 (zn (zr (zq 2 (fC 37 ((x.1 : Int) + 1) (zq 1 (zn ?_))))))
   refine nx (x.1 + 1,(x.2 ++ (Itm.aE y1))) ?_ ?_
   · exact ⟨by show x.1 + 1 ≤ _; omega,by rw [← hx2,gI hy1,List.append_assoc]⟩
   · show l.length - (x.1 + 1) < l.length - x.1; omega
  ·
   have h1d := of_decide_eq_false h1
   refine aU (zs (zB [0,1] [(b0,1)] (zn (gP o h0 ?_))))
   refine zr (zq 1 (cH (St (x.2 ++ [255])) (cE _ _ _ _ rfl x.2 [255] kR kR oA) ?_))
   refine zq 1 (zn (zQ 2 (zn (aA (aH [2] [(St (x.2 ++ [255]))] (fun W' hM => ?_))))))
   refine ⟨?_,hM.below⟩
   rw [show x.1 = l.length by omega,List.drop_length] at hx2
   simp only [Itm.dG,List.append_nil] at hx2
   simp only [cG,hx2,h0,if_true,Bool.false_eq_true,if_false,List.append_assoc,List.append_nil]
 ·
  refine zk (zs (zQ 1 (zn (aB (gX (α := Nat × List UInt8) (fun x => [1,2,3,4].zip [(Pt b0 0),(St []),(St x.2),(L6 x.1)]) (fun x => U) (fun x => [(b0,.cells [(I6 4),(U6 0),(St []),(.slice a l.length c),(.bool o)].toArray 89 (0,0))]) (fun x => x.1 ≤ l.length ∧ x.2 ++ Itm.dG (l.drop x.1) = (Itm.aD 4 l.length) ++ Itm.dG l) (fun x => l.length - x.1) (0,(Itm.aD 4 l.length)) ?_ ?_)))))
  · exact ⟨by simp,rfl⟩
  intro x hx
  obtain ⟨hx1,hx2⟩ := hx
  have hxl := congrArg List.length hx2
  simp only [List.length_append,List.length_cons,List.length_nil] at hxl
  refine zs (zB [0,0,1,0,0] [(b0,1)] (zn (cD (decide ((x.1 : Int) < (l.length : Int))) (fun h2 => ?_) (fun h2 => ?_))))
  ·
   have h2d := of_decide_eq_true h2
   refine zk (zs (aB (zr (cU [0,0,1,0] [(b0,1)] ?_))))
   obtain ⟨y2,hy2⟩ : ∃ y,(l)[x.1]? = some y := ⟨(l)[x.1]'oW,List.getElem?_eq_getElem _⟩
   obtain ⟨b2,f2,cs2,rfl,hU2,ht2⟩ := hts.at_ x.1 y2 hy2
   obtain ⟨a2,c2,rfl,hts2,hn2,hs2,hl2⟩ := ht2.form
   have hyr := List.all_eq_true.1 hr y2 (List.mem_of_getElem? hy2)
   have hyB := Itm.eM y2
   have hyS := Itm.aCO hy2
   have hyL := gI hy2
   have hyL2 := congrArg List.length hyL
   simp only [List.length_append] at hyL2
   refine cH (Pt b2 (f2 + x.1 * 5)) (rIx 89 rfl b2 f2 l.length c x.1 5) ?_
   refine zU b2 (f2 + x.1 * 5) (tC y2 a2 c2) hU2 89 (.tmp 42) _ Tryz.underlying89 rfl ?_
   refine dA 109 #[(tV y2 a2 c2)] (St (Itm.aE y2)) (fun W hM => ih _ _ hM.view ht2 hyr (by unfold aAT; omega)) ?_
   refine cH (St (x.2 ++ (Itm.aE y2))) (cE _ _ _ _ rfl x.2 (Itm.aE y2) kR kR oA) ?_
   refine zq 1 (zn (zr (zq 2 (fC 37 ((x.1 : Int) + 1) (zq 1 (zn ?_))))))
   refine nx (x.1 + 1,(x.2 ++ (Itm.aE y2))) ?_ ?_
   · exact ⟨by show x.1 + 1 ≤ _; omega,by rw [← hx2,gI hy2,List.append_assoc]⟩
   · show l.length - (x.1 + 1) < l.length - x.1; omega
  ·
   have h2d := of_decide_eq_false h2
   refine aU (zs (zB [0,1] [(b0,1)] (zn (eS o h0 ?_))))
   refine zk (zQ 2 (zn (aA (aH [2] [(St x.2)] (fun W' hM => ?_)))))
   refine ⟨?_,hM.below⟩
   rw [show x.1 = l.length by omega,List.drop_length] at hx2
   simp only [Itm.dG,List.append_nil] at hx2
   simp only [cG,hx2,h0,if_true,Bool.false_eq_true,if_false,List.append_assoc,List.append_nil]
theorem oI : ∀ (d : Nat) (t : Itm.Tr) (cs : List Value) {U : View} {w : World}, (∀ a v, U a = some v → w.cell? a = some v) → TV U t cs → Itm.aN d t = true → Itm.szT t ≤ aAT → CP 109 #[.agg cs.toArray] w (Ret (.string (B (Itm.aE t))) w)
 | 0, t, cs, U, w, _, _, hr, _ => by cases hr
 | d + 1, t, cs, U, w, hU, h, hr, hsz => by
  obtain ⟨a, c, rfl, hts, hn, hs, hl⟩ := h.form
  unfold Itm.aN at hr
  rw [Bool.and_eq_true] at hr
  obtain ⟨hok, hall⟩ := hr
  obtain ⟨k, n, s, l, o⟩ := t
  simp only [Itm.Tr.k, Itm.Tr.n, Itm.Tr.s, Itm.Tr.l, Itm.Tr.o] at *
  rw [Itm.szT] at hsz
  rcases Itm.oQ hok with ⟨rfl, rfl, hlen, rfl⟩ | ⟨rfl, rfl, hlen, rfl⟩ | ⟨rfl, rfl, hlen, rfl⟩ | ⟨rfl, rfl, rfl, hle⟩
  ·
   obtain rfl := List.length_eq_zero_iff.1 hlen
   exact aNi n hn a c w
  ·
   obtain rfl := List.length_eq_zero_iff.1 hlen
   exact aNh s hs a c w
  ·
   obtain rfl := List.length_eq_zero_iff.1 hlen
   exact aNg s hs a c w
  · exact aNj d l o hU a c hts (oI d) hall oW
def aLC (t : Itm.Tr) (v : Value) (V : View) : Prop := ∃ cs, v = .agg cs.toArray ∧ TV V t cs
end Go.Proofs.YtcdjakemdlinhaaGreatDoor.Sx
