/-
  Several texts in one: Bun1 Bun2 Bun3 Sli1 Sx12 Sx13 Ins1 Bun4 Bun5 Bun6 Rd1 Sx14 Sx15 Sx16 Rel3 Sx17.
  Conditions: named at each.
-/
import Derived.Test.YtcdjakemdlinhaaGreatDoorG05
import Derived.Lib.Overlaps
import Derived.Lib.AppendZerosOnto
import Derived.Laws.Externs
set_option linter.unusedSimpArgs false
set_option linter.unusedVariables false
set_option linter.unusedSectionVars false
namespace Go.Proofs.YtcdjakemdlinhaaGreatDoor.Sx
open Go.ChangeShapes Go.WideShapes Go.ChangeAt Go.RowKit Go.Deep
theorem drop_some {α : Type} {l : List α} {i : Nat} {y : α} (h : l[i]? = some y) : l.drop i = y :: l.drop (i + 1) := by
 obtain ⟨hl, rfl⟩ := List.getElem?_eq_some_iff.1 h
 exact List.drop_eq_getElem_cons hl
theorem drop_all {α : Type} {l : List α} {i : Nat} (h : ¬ ((i : Int) < (l.length : Int))) : l.drop i = [] := List.drop_eq_nil_of_le (by omega)
def Bk.none : Bk := ⟨0, 0, 0, 0, []⟩
def findB (l : List Bk) (t : Int) : Bk × Bool := match l.find? (fun x => x.t == t) with
 | some x => (x, true)
 | none => (Bk.none, false)
theorem findB_drop {l : List Bk} {t : Int} {i : Nat} {y : Bk} (h : l[i]? = some y) : findB (l.drop i) t = if (y.t == t) = true then (y, true) else findB (l.drop (i + 1)) t := by
 unfold findB
 rw [drop_some h, List.find?_cons]
 cases y.t == t <;> simp
theorem bFind_any (p : Pr) (l : List Bk) (a : Option Addr) (c : Nat) (t : Int) (w : World) {U : View} (hU : ∀ a v, U a = some v → w.cell? a = some v) (hl : BksAt U a l) : Calls Tryz.prog 229 #[bnV p a l.length c, .int .i64 t] w (Ret (.tuple #[(findB l t).1.V, .bool (findB l t).2]) w) := by
 have hlen := hl.len
 unfold R47 at hlen
 refine sx_enter (f := 229) 22 U Tryz.func229 rfl rfl rfl hU ?_
 refine zs (zr (sx_N (fun b0 => (sx_N (fun b1 => (zq 1 (zn (zs (zB [0,1,0,0] [(b0,1)] (zn (sx_block ?_)))))))))))
 refine sx_loop (α := Nat) (fun x => [1,4,5,9,10,11].zip [(I6 t),(Pt b1 0),(.bool false),(.slice a l.length c),(L6 l.length),(L6 x)]) (fun _ => U) (fun x => [(bK b0 (bnCs p a l.length c) 29),(b1,.cells [(I6 0),(I6 0),(U6 0),(I6 0),(St [])].toArray 38 (0,0))]) (fun x => x ≤ l.length ∧ findB (l.drop x) t = findB l t) (fun x => l.length - x) 0 ?_ (look_zip _ _ (by kernel_rfl)) (fun _ h => h.eqv (by kernel_rfl)) ?_
 · exact ⟨Nat.zero_le _,rfl⟩
 intro x hx
 obtain ⟨hx1,hx2⟩ := hx
 refine zQ 1 (zn (zs (sx_D (decide (((x : Nat) : Int) < (((l.length : Nat)) : Int))) (fun h0 => ?_) (fun h0 => ?_))))
 ·
  have h0d := of_decide_eq_true h0
  refine zk (zs (sx_block (zs (zr ?_))))
  obtain ⟨y2,hy2⟩ : ∃ y,(l)[x]? = some y := ⟨(l)[x]'(by omega),List.getElem?_eq_getElem _⟩
  obtain ⟨b2,f2,rfl,hU2⟩ := hl.at_ x y2 hy2
  refine sx_R (Pt b2 (f2 + x * 5)) (rIx 38 rfl b2 f2 l.length c x 5) ?_
  refine zU b2 (f2 + x * 5) y2.cs hU2 38 (.tmp 13) _ Tryz.underlying38 rfl ?_
  refine sx_N (fun b3 => (sx_S 2 b3 (zn (zB [0,3,0,0] [(b3,1)] (zn (sx_D (y2.t == t) (fun h1 => ?_) (fun h1 => ?_)))))))
  ·
   have h1d := eq_of_beq h1
   refine zB [3] [(b3,5)] (sx_S 1 b1 (zq 1 (zn (sx_ret ?_))))
   refine sx_ret_any [.cell 4 38,.tmp 5] [(y2.V),(.bool true)] rfl ⟨(retK' 1 b1 5),retT',trivial⟩ (fun W' hM => ?_)
   refine ⟨?_,hM.below⟩
   rw [← hx2,findB_drop hy2,if_pos h1]
   rfl
  ·
   have h1d := beq_eq_false_iff_ne.1 h1
   refine zk (zr (zq 1 (sx_E 20 (I6 (IntKind.i64.wrap (((x : Nat) : Int) + 1))) (I6 (((x : Nat) : Int) + 1)) i6v ?_)))
   refine zq 1 (zn ?_)
   refine ⟨(x + 1),?_,?_,look_zip _ _ (by kernel_rfl),fun _ h => Mem.sub (List.sublist_append_left _ _) (h.eqv (show _ = ([(bK b0 (bnCs p (some ⟨b2,f2,none⟩) l.length c) 29),(b1,.cells [(I6 0),(I6 0),(U6 0),(I6 0),(St [])].toArray 38 (0,0))] : Blks) ++ ([(bK b3 y2.cs 38)] : Blks) from by kernel_rfl))⟩
   · exact ⟨by omega,by rw [← hx2,findB_drop hy2,h1]; rfl⟩
   · show l.length - (x + 1) < l.length - x; omega
 ·
  have h0d := of_decide_eq_false h0
  refine sx_exit (zQ 1 (sx_S 1 b1 (zq 1 (zn (sx_ret ?_)))))
  refine sx_ret_any [.cell 4 38,.tmp 5] [(.agg #[(I6 0),(I6 0),(U6 0),(I6 0),(St [])]),(.bool false)] rfl ⟨(retK' 1 b1 5),retT',trivial⟩ (fun W' hM => ?_)
  refine ⟨?_,hM.below⟩
  rw [← hx2,drop_all (by omega)]
  rfl
def lastsB (l : List Bk) : Bool := match l[l.length - 1]? with
 | some x => x.t == 1
 | none => false
theorem bLasts_any (l : List Bk) (a : Option Addr) (c : Nat) (w : World) {U : View} (hU : ∀ a v, U a = some v → w.cell? a = some v) (hl : BksAt U a l) : Calls Tryz.prog 230 #[.slice a l.length c] w (Ret (.bool (lastsB l)) w) := by
 have hlen := hl.len
 unfold R47 at hlen
 have hwl : (l.length : Int) > 0 → IntKind.i64.wrap (((l.length : Nat) : Int) - 1) = ((l.length - 1 : Nat) : Int) := fun h => by
  rw [IntWalk.i64_in _ (by omega)]
  omega
 refine sx_enter (f := 230) 16 U Tryz.func230 rfl rfl rfl hU ?_
 refine zQ 1 (zn (zQ 4 (sx_BL 6 (decide ((((l.length : Nat)) : Int) > 0)) (fun h0 => ?_) (fun h0 => ?_))))
 ·
  have h0d := of_decide_eq_true h0
  refine zq 4 (sx_E 10 (I6 (IntKind.i64.wrap ((((l.length : Nat)) : Int) - 1))) (I6 ((l.length - 1 : Nat) : Int)) (congrArg (Value.int .i64) (hwl (by omega))) ?_)
  obtain ⟨y0,hy0⟩ : ∃ y,(l)[(l.length - 1)]? = some y := ⟨(l)[(l.length - 1)]'(by omega),List.getElem?_eq_getElem _⟩
  obtain ⟨b0,f0,rfl,hU0⟩ := hl.at_ (l.length - 1) y0 hy0
  refine sx_R (.pointer (some ⟨b0,f0 + (l.length - 1) * 5,none⟩)) (rIx 38 rfl b0 f0 l.length c (l.length - 1) 5) ?_
  refine zq 1 (zV b0 (f0 + (l.length - 1) * 5 + 0) (I6 y0.t) (hU0 0 _ rfl) 3 (.tmp 12) _ Tryz.underlying3 rfl ?_)
  refine zq 3 (zn (sx_ret (sx_Z [2] [(.bool (y0.t == 1))] (fun W' hM => ?_))))
  refine ⟨?_,hM.below⟩
  unfold lastsB
  rw [hy0]
  rfl
 ·
  have h0d := of_decide_eq_false h0
  refine zq 10 (zn (sx_ret (sx_Z [2] [(.bool false)] (fun W' hM => ?_))))
  refine ⟨?_,hM.below⟩
  unfold lastsB
  rw [List.getElem?_eq_none (by omega)]
  rfl
def fitsB (p : Pr) (l : List Bk) : Bool := match l[l.length - 1]? with
 | some x => (andI .u64 p.f 1 == 0) || decide (IntKind.u64.wrap ((p.off : Int) + (x.d.length : Int)) ≤ (p.tot : Int))
 | none => false
theorem bFits_any (p : Pr) (l : List Bk) (a : Option Addr) (c : Nat) (w : World) {U : View} (hU : ∀ a v, U a = some v → w.cell? a = some v) (hl : BksAt U a l) (h0 : lastsB l = true) : Calls Tryz.prog 232 #[bnV p a l.length c] w (Ret (.bool (fitsB p l)) w) := by
 have hlen := hl.len
 unfold R47 at hlen
 have hpos : 0 < l.length := by
  rcases Nat.eq_zero_or_pos l.length with h | h
  ·
   unfold lastsB at h0
   rw [List.getElem?_eq_none (by omega)] at h0
   cases h0
  · exact h
 have hwl : IntKind.i64.wrap (((l.length : Nat) : Int) - 1) = ((l.length - 1 : Nat) : Int) := by
  rw [IntWalk.i64_in _ (by omega)]
  omega
 refine sx_enter (f := 232) 31 U Tryz.func232 rfl rfl rfl hU ?_
 refine zs (zr (sx_N (fun b0 => (zq 1 (zn (zB [0,1,0,1,0,0] [(b0,1),(b0,1)] (sx_E 9 (I6 (IntKind.i64.wrap ((((l.length : Nat)) : Int) - 1))) (I6 ((l.length - 1 : Nat) : Int)) (congrArg (Value.int .i64) hwl) ?_)))))))
 obtain ⟨y1,hy1⟩ : ∃ y,(l)[(l.length - 1)]? = some y := ⟨(l)[(l.length - 1)]'(by omega),List.getElem?_eq_getElem _⟩
 obtain ⟨b1,f1,rfl,hU1⟩ := hl.at_ (l.length - 1) y1 hy1
 have hyd := (hl.ok y1 (List.mem_of_getElem? hy1)).d
 unfold R47 at hyd
 refine sx_R (.pointer (some ⟨b1,f1 + (l.length - 1) * 5,none⟩)) (rIx 38 rfl b1 f1 l.length c (l.length - 1) 5) ?_
 refine zq 1 (zV b1 (f1 + (l.length - 1) * 5 + 4) (St y1.d) (hU1 4 _ rfl) 9 (.tmp 11) _ Tryz.underlying9 rfl ?_)
 refine zq 2 (sx_E 14 (U6 (IntKind.u64.wrap (((y1.d).length : Nat) : Int))) (N6 ((y1.d).length : Nat)) (congrArg (Value.int .u64) (u64_in (by omega) (by omega))) ?_)
 refine zq 1 (zn (zB [0,0,1,0,0,0] [(b0,1)] (sx_BL 20 ((andI .u64 (p.f : Int) 1) == 0) (fun h0 => ?_) (fun h0 => ?_))))
 ·
  refine zq 11 (zn (sx_ret (sx_Z [2] [(.bool true)] (fun W' hM => ?_))))
  refine ⟨?_,hM.below⟩
  unfold fitsB
  rw [hy1]
  simp only [resV,h0,bs,if_true,if_false,cond_true,cond_false,reduceIte]
 ·
  refine sx_B [0,0,1,0,0,0,0,1,0,0,0] [(b0,1),(b0,1)] (zn (sx_ret (sx_Z [2] [(.bool (decide ((IntKind.u64.wrap ((p.off : Int) + (((y1.d).length : Nat) : Int))) ≤ (p.tot : Int))))] (fun W' hM => ?_))))
  refine ⟨?_,hM.below⟩
  unfold fitsB
  rw [hy1]
  simp only [resV,h0,bs,if_true,if_false,cond_true,cond_false,reduceIte]
def blksZ (l : List Bk) : Int := match l.find? (fun x => bkRight x != 0) with
 | some x => bkRight x
 | none => 0
theorem blksZ_drop {l : List Bk} {i : Nat} {y : Bk} (h : l[i]? = some y) : blksZ (l.drop i) = if (bkRight y != 0) = true then bkRight y else blksZ (l.drop (i + 1)) := by
 unfold blksZ
 rw [drop_some h, List.find?_cons]
 cases bkRight y != 0 <;> simp
def partsZ (p : Pr) (l : List Bk) : Int := if prRight p != 0 then prRight p else blksZ l
theorem bParts_any (p : Pr) (l : List Bk) (a : Option Addr) (c : Nat) (w : World) {U : View} (hU : ∀ a v, U a = some v → w.cell? a = some v) (hp : p.ok) (hl : BksAt U a l) : Calls Tryz.prog 201 #[bnV p a l.length c] w (Ret (.int .i64 (partsZ p l)) w) := by
 have hlen := hl.len
 unfold R47 at hlen
 refine sx_enter (f := 201) 26 U Tryz.func201 rfl rfl rfl hU ?_
 refine zs (zr (sx_N (fun b0 => (zq 1 (zn (zs (zB [0,1] [(b0,19)] (sx_C 191 #[(p.V)] (I6 (prRight p)) (fun W hM => pRight_any p W hp) ?_))))))))
 refine zq 1 (zn (zQ 2 (zn (sx_D ((prRight p) != 0) (fun h0 => ?_) (fun h0 => ?_)))))
 ·
  refine zQ 2 (zn (sx_ret (sx_Z [2] [(I6 (prRight p))] (fun W' hM => ?_))))
  refine ⟨?_,hM.below⟩
  unfold partsZ
  rw [if_pos h0]
  rfl
 ·
  have h0d := bne_eq_false_iff_eq.1 h0
  refine zk (zs (zB [0,1,0,0] [(b0,1)] (zn (sx_block ?_))))
  refine sx_loop (α := Nat) (fun x => [2,14,15,16].zip [(I6 0),(.slice a l.length c),(L6 l.length),(L6 x)]) (fun _ => U) (fun x => [(bK b0 (bnCs p a l.length c) 29)]) (fun x => x ≤ l.length ∧ blksZ (l.drop x) = blksZ l) (fun x => l.length - x) 0 ?_ (look_zip _ _ (by kernel_rfl)) (fun _ h => h.eqv (by kernel_rfl)) ?_
  · exact ⟨Nat.zero_le _,rfl⟩
  intro x hx
  obtain ⟨hx1,hx2⟩ := hx
  refine zQ 1 (zn (zs (sx_D (decide (((x : Nat) : Int) < (((l.length : Nat)) : Int))) (fun h1 => ?_) (fun h1 => ?_))))
  ·
   have h1d := of_decide_eq_true h1
   refine zk (zs (sx_block (zs (zr ?_))))
   obtain ⟨y1,hy1⟩ : ∃ y,(l)[x]? = some y := ⟨(l)[x]'(by omega),List.getElem?_eq_getElem _⟩
   obtain ⟨b1,f1,rfl,hU1⟩ := hl.at_ x y1 hy1
   refine sx_R (Pt b1 (f1 + x * 5)) (rIx 38 rfl b1 f1 l.length c x 5) ?_
   refine zU b1 (f1 + x * 5) y1.cs hU1 38 (.tmp 18) _ Tryz.underlying38 rfl ?_
   refine sx_N (fun b2 => (sx_S 1 b2 (zn (zB [2] [(b2,5)] (sx_C 193 #[(y1.V)] (I6 (bkRight y1)) (fun W hM => bRight_any y1 W) ?_)))))
   refine zq 1 (zn (zQ 2 (zn (sx_D ((bkRight y1) != 0) (fun h2 => ?_) (fun h2 => ?_)))))
   ·
    have h2d := bne_iff_ne.1 h2
    refine zQ 2 (zn (sx_ret (sx_Z [2] [(I6 (bkRight y1))] (fun W' hM => ?_))))
    refine ⟨?_,hM.below⟩
    unfold partsZ
    rw [if_neg (by rw [h0]; exact Bool.false_ne_true),← hx2,blksZ_drop hy1,if_pos h2]
    rfl
   ·
    have h2d := bne_eq_false_iff_eq.1 h2
    refine zk (zr (zq 1 (sx_E 25 (I6 (IntKind.i64.wrap (((x : Nat) : Int) + 1))) (I6 (((x : Nat) : Int) + 1)) i6v ?_)))
    refine zq 1 (zn ?_)
    refine ⟨(x + 1),?_,?_,look_zip _ _ (by kernel_rfl),fun _ h => Mem.sub (List.sublist_append_left _ _) (h.eqv (show _ = ([(bK b0 (bnCs p (some ⟨b1,f1,none⟩) l.length c) 29)] : Blks) ++ ([(bK b2 y1.cs 38)] : Blks) from by kernel_rfl))⟩
    · exact ⟨by omega,by rw [← hx2,blksZ_drop hy1,h2]; rfl⟩
    · show l.length - (x + 1) < l.length - x; omega
  ·
   have h1d := of_decide_eq_false h1
   refine sx_exit (zQ 1 (zn (sx_ret (sx_Z [2] [(I6 0)] (fun W' hM => ?_)))))
   refine ⟨?_,hM.below⟩
   unfold partsZ
   rw [if_neg (by rw [h0]; exact Bool.false_ne_true),← hx2,drop_all (by omega)]
   rfl
theorem mapII : MapKey Tryz.prog 232 intKey := mapKey_int Tryz.underlying232 Tryz.underlying3 (fun w => by kernel_rfl)
def bump (x : Int) (m : List (Int × Int)) : List (Int × Int) := mput x (IntKind.i64.wrap (mget x m + 1)) m
def onceF : List Bk → List (Int × Int) → List (Int × Int) → Bool
 | [], _, t => (mget 1 t == 1) && decide (mget 6 t < 2) && decide (mget 7 t < 2) && decide (mget 10 t < 2)
 | y :: r, m, t => if decide (mget y.n (bump y.n m) > 1) then false else onceF r (bump y.n m) (bump y.t t)
def onceB (l : List Bk) : Bool := onceF l [] []
theorem onceF_drop {l : List Bk} {i : Nat} {y : Bk} {m t : List (Int × Int)} (h : l[i]? = some y) : onceF (l.drop i) m t = if decide (mget y.n (bump y.n m) > 1) then false else onceF (l.drop (i + 1)) (bump y.n m) (bump y.t t) := by
 rw [drop_some h, onceF]
set_option maxHeartbeats 16000000 in
theorem bOnce_any (l : List Bk) (a : Option Addr) (c : Nat) (w : World) {U : View} (hU : ∀ a v, U a = some v → w.cell? a = some v) (hl : BksAt U a l) : Calls Tryz.prog 231 #[.slice a l.length c] w (Ret (.bool (onceB l)) w) := by
 have hlen := hl.len
 unfold R47 at hlen
 refine sx_enter (f := 231) 49 U Tryz.func231 rfl rfl rfl hU ?_
 refine zQ 1 (zn (zs (zr (sx_N (fun b0 => (sx_N (fun b1 => (zq 2 (zn (zs (zQ 3 (zn (sx_block ?_)))))))))))))
 refine sx_loop (α := Nat × List (Int × Int) × List (Int × Int)) (fun x => [2,3,4,9,10,11].zip [(.bool false),(.map (some b0)),(.map (some b1)),(.slice a l.length c),(L6 l.length),(L6 x.1)]) (fun _ => U) (fun x => [(b0,(mO intKey x.2.1)),(b1,(mO intKey x.2.2))]) (fun x => x.1 ≤ l.length ∧ onceF (l.drop x.1) x.2.1 x.2.2 = onceB l) (fun x => l.length - x.1) (0,[],[]) ?_ (look_zip _ _ (by kernel_rfl)) (fun _ h => h.eqv (by kernel_rfl)) ?_
 · exact ⟨Nat.zero_le _,rfl⟩
 intro x hx
 obtain ⟨hx1,hx2⟩ := hx
 refine zQ 1 (zn (zs (sx_D (decide (((x.1 : Nat) : Int) < (((l.length : Nat)) : Int))) (fun h0 => ?_) (fun h0 => ?_))))
 ·
  have h0d := of_decide_eq_true h0
  refine zk (zs (sx_block (zs (zr ?_))))
  obtain ⟨y2,hy2⟩ : ∃ y,(l)[x.1]? = some y := ⟨(l)[x.1]'(by omega),List.getElem?_eq_getElem _⟩
  obtain ⟨b2,f2,rfl,hU2⟩ := hl.at_ x.1 y2 hy2
  refine sx_R (Pt b2 (f2 + x.1 * 5)) (rIx 38 rfl b2 f2 l.length c x.1 5) ?_
  refine zU b2 (f2 + x.1 * 5) y2.cs hU2 38 (.tmp 13) _ Tryz.underlying38 rfl ?_
  refine sx_N (fun b3 => (sx_S 2 b3 (zn (zB [0,0,3] [(b3,1)] ?_))))
  refine sx_mget mapII 0 b0 x.2.1 y2.n (.tmp 15) (.tmp 17) rfl (by kernel_rfl) (by kernel_rfl) (by kernel_rfl) (by kernel_rfl) (by kernel_rfl) ?_
  refine zq 1 ?_
  refine sx_mput mapII 0 b0 x.2.1 y2.n (IntKind.i64.wrap ((mget y2.n x.2.1) + 1)) (.tmp 15) (.tmp 17) (.tmp 19) rfl (by kernel_rfl) (by kernel_rfl) (by kernel_rfl) (by kernel_rfl) (by kernel_rfl) (by kernel_rfl) ?_
  refine zn (zB [0,0,3] [(b3,1)] ?_)
  refine sx_mget mapII 1 b1 x.2.2 y2.t (.tmp 20) (.tmp 22) rfl (by kernel_rfl) (by kernel_rfl) (by kernel_rfl) (by kernel_rfl) (by kernel_rfl) ?_
  refine zq 1 ?_
  refine sx_mput mapII 1 b1 x.2.2 y2.t (IntKind.i64.wrap ((mget y2.t x.2.2) + 1)) (.tmp 20) (.tmp 22) (.tmp 24) rfl (by kernel_rfl) (by kernel_rfl) (by kernel_rfl) (by kernel_rfl) (by kernel_rfl) (by kernel_rfl) ?_
  refine zn (zB [0,0,3] [(b3,1)] ?_)
  refine sx_mget mapII 0 b0 (mput y2.n (IntKind.i64.wrap ((mget y2.n x.2.1) + 1)) x.2.1) y2.n (.tmp 25) (.tmp 27) rfl (by kernel_rfl) (by kernel_rfl) (by kernel_rfl) (by kernel_rfl) (by kernel_rfl) ?_
  refine zq 1 (zn (sx_D (decide ((mget y2.n (mput y2.n (IntKind.i64.wrap ((mget y2.n x.2.1) + 1)) x.2.1)) > 1)) (fun h1 => ?_) (fun h1 => ?_)))
  ·
   have h1d := of_decide_eq_true h1
   refine zQ 1 (zn (sx_ret (sx_Z [2] [(.bool false)] (fun W' hM => ?_))))
   refine ⟨?_,hM.below⟩
   rw [← hx2,onceF_drop hy2]
   unfold bump
   rw [if_pos h1]
   rfl
  ·
   have h1d := of_decide_eq_false h1
   refine zk (zr (zq 1 (sx_E 30 (I6 (IntKind.i64.wrap (((x.1 : Nat) : Int) + 1))) (I6 (((x.1 : Nat) : Int) + 1)) i6v ?_)))
   refine zq 1 (zn ?_)
   refine ⟨(x.1 + 1,(mput y2.n (IntKind.i64.wrap ((mget y2.n x.2.1) + 1)) x.2.1),(mput y2.t (IntKind.i64.wrap ((mget y2.t x.2.2) + 1)) x.2.2)),?_,?_,look_zip _ _ (by kernel_rfl),fun _ h => Mem.sub (List.sublist_append_left _ _) (h.eqv (show _ = ([(b0,(mO intKey (mput y2.n (IntKind.i64.wrap ((mget y2.n x.2.1) + 1)) x.2.1))),(b1,(mO intKey (mput y2.t (IntKind.i64.wrap ((mget y2.t x.2.2) + 1)) x.2.2)))] : Blks) ++ ([(bK b3 y2.cs 38)] : Blks) from by kernel_rfl))⟩
   · exact ⟨by show x.1 + 1 ≤ _; omega,by rw [← hx2,onceF_drop hy2]; unfold bump; rw [if_neg (by rw [h1]; exact Bool.false_ne_true)]⟩
   · show l.length - (x.1 + 1) < l.length - x.1; omega
 ·
  have h0d := of_decide_eq_false h0
  refine sx_exit (zQ 1 ?_)
  refine sx_mget mapII 1 b1 x.2.2 1 (.tmp 31) _ rfl (by kernel_rfl) (by kernel_rfl) (by kernel_rfl) (by kernel_rfl) (by kernel_rfl) ?_
  refine zq 2 (sx_BL 34 ((mget 1 x.2.2) == 1) (fun h2 => ?_) (fun h2 => ?_))
  ·
   have h2d := eq_of_beq h2
   refine zq 1 ?_
   refine sx_mget mapII 1 b1 x.2.2 6 (.tmp 35) _ rfl (by kernel_rfl) (by kernel_rfl) (by kernel_rfl) (by kernel_rfl) (by kernel_rfl) ?_
   refine zq 3 (sx_BL 39 (decide ((mget 6 x.2.2) < 2)) (fun h3 => ?_) (fun h3 => ?_))
   ·
    have h3d := of_decide_eq_true h3
    refine zq 1 ?_
    refine sx_mget mapII 1 b1 x.2.2 7 (.tmp 40) _ rfl (by kernel_rfl) (by kernel_rfl) (by kernel_rfl) (by kernel_rfl) (by kernel_rfl) ?_
    refine zq 3 (sx_BL 44 (decide ((mget 7 x.2.2) < 2)) (fun h4 => ?_) (fun h4 => ?_))
    ·
     have h4d := of_decide_eq_true h4
     refine zq 1 ?_
     refine sx_mget mapII 1 b1 x.2.2 10 (.tmp 45) _ rfl (by kernel_rfl) (by kernel_rfl) (by kernel_rfl) (by kernel_rfl) (by kernel_rfl) ?_
     refine zq 3 (zn (sx_ret (sx_Z [2] [(.bool (decide ((mget 10 x.2.2) < 2)))] (fun W' hM => ?_))))
     refine ⟨?_,hM.below⟩
     rw [← hx2,drop_all (by omega)]
     simp only [onceF,resV,h2,h3,h4,bs,if_true,if_false,cond_true,cond_false,reduceIte]
    ·
     have h4d := of_decide_eq_false h4
     refine zq 5 (zn (sx_ret (sx_Z [2] [(.bool false)] (fun W' hM => ?_))))
     refine ⟨?_,hM.below⟩
     rw [← hx2,drop_all (by omega)]
     simp only [onceF,resV,h2,h3,h4,bs,if_true,if_false,cond_true,cond_false,reduceIte]
   ·
    have h3d := of_decide_eq_false h3
    refine zq 10 (zn (sx_ret (sx_Z [2] [(.bool false)] (fun W' hM => ?_))))
    refine ⟨?_,hM.below⟩
    rw [← hx2,drop_all (by omega)]
    simp only [onceF,resV,h2,h3,bs,if_true,if_false,cond_true,cond_false,reduceIte]
  ·
   have h2d := beq_eq_false_iff_ne.1 h2
   refine zq 15 (zn (sx_ret (sx_Z [2] [(.bool false)] (fun W' hM => ?_))))
   refine ⟨?_,hM.below⟩
   rw [← hx2,drop_all (by omega)]
   simp only [onceF,resV,h2,bs,if_true,if_false,cond_true,cond_false,reduceIte]
def rulesZ (p : Pr) (l : List Bk) : Int := if decide ((l.length : Int) > 16) then 4 else if !lastsB l || !onceB l || ((p.time : Int) == 0 && !(findB l 7).2) || !fitsB p l then 8 else 0
theorem bRules_any (p : Pr) (l : List Bk) (a : Option Addr) (c : Nat) (w : World) {U : View} (hU : ∀ a v, U a = some v → w.cell? a = some v) (hl : BksAt U a l) : Calls Tryz.prog 202 #[bnV p a l.length c] w (Ret (.int .i64 (rulesZ p l)) w) := by
 refine sx_enter (f := 202) 39 U Tryz.func202 rfl rfl rfl hU ?_
 refine zs (zr (sx_N (fun b0 => (zq 1 (zn (zs (zB [0,1,0,0] [(b0,1)] (zn (sx_D (decide ((((l.length : Nat)) : Int) > 16)) (fun h0 => ?_) (fun h0 => ?_))))))))))
 ·
  refine zQ 1 (zn (sx_ret (sx_Z [2] [(I6 4)] (fun W' hM => ?_))))
  exact ⟨by simp only [resV,rulesZ,h0,bs,if_true,if_false,cond_true,cond_false,reduceIte],hM.below⟩
 ·
  have h0d := of_decide_eq_false h0
  refine zk (zB [1] [(b0,20)] (sx_C 229 #[(bnV p a l.length c),(I6 7)] (.tuple #[(findB l 7).1.V,(.bool (findB l 7).2)]) (fun W hM => bFind_any p l _ _ 7 W hM.view hl) ?_))
  refine zq 3 (sx_N (fun b1 => (sx_S 1 b1 (zq 1 (zn (zs (zB [0,1] [(b0,1)] (sx_C 230 #[(.slice a l.length c)] (.bool (lastsB l)) (fun W hM => bLasts_any l _ _ W hM.view hl) ?_))))))))
  refine zq 2 (sx_BL 18 (!(lastsB l)) (fun h1 => ?_) (fun h1 => ?_))
  ·
   refine zq 20 (zn (sx_T (zQ 1 (zn (sx_ret (sx_Z [2] [(I6 8)] (fun W' hM => ?_)))))))
   exact ⟨by simp only [resV,rulesZ,h0,h1,bs,if_true,if_false,cond_true,cond_false,reduceIte],hM.below⟩
  ·
   refine sx_B [0,1] [(b0,1)] (sx_C 231 #[(.slice a l.length c)] (.bool (onceB l)) (fun W hM => bOnce_any l _ _ W hM.view hl) ?_)
   refine zq 3 (sx_BL 24 (!(onceB l)) (fun h2 => ?_) (fun h2 => ?_))
   ·
    refine zq 14 (zn (sx_T (zQ 1 (zn (sx_ret (sx_Z [2] [(I6 8)] (fun W' hM => ?_)))))))
    exact ⟨by simp only [resV,rulesZ,h0,h1,h2,bs,if_true,if_false,cond_true,cond_false,reduceIte],hM.below⟩
   ·
    refine sx_B [0,0,1,0,0] [(b0,1)] (sx_BL 29 ((p.time : Int) == 0) (fun h3 => ?_) (fun h3 => ?_))
    ·
     have h3d := eq_of_beq h3
     refine zq 5 (sx_BL 34 (!(findB l 7).2) (fun h4 => ?_) (fun h4 => ?_))
     ·
      refine zq 4 (zn (sx_T (zQ 1 (zn (sx_ret (sx_Z [2] [(I6 8)] (fun W' hM => ?_)))))))
      exact ⟨by simp only [resV,rulesZ,h0,h1,h2,h3,h4,bs,if_true,if_false,cond_true,cond_false,reduceIte],hM.below⟩
     ·
      refine sx_B [1] [(b0,20)] (sx_C 232 #[(bnV p a l.length c)] (.bool (fitsB p l)) (fun W hM => bFits_any p l _ _ W hM.view hl (by simpa using h1)) ?_)
      refine zq 2 (zn (sx_D (!(fitsB p l)) (fun h5 => ?_) (fun h5 => ?_)))
      ·
       refine zQ 1 (zn (sx_ret (sx_Z [2] [(I6 8)] (fun W' hM => ?_))))
       exact ⟨by simp only [resV,rulesZ,h0,h1,h2,h3,h4,h5,bs,if_true,if_false,cond_true,cond_false,reduceIte],hM.below⟩
      ·
       refine zk (zQ 1 (zn (sx_ret (sx_Z [2] [(I6 0)] (fun W' hM => ?_)))))
       exact ⟨by simp only [resV,rulesZ,h0,h1,h2,h3,h4,h5,bs,if_true,if_false,cond_true,cond_false,reduceIte],hM.below⟩
    ·
     have h3d := beq_eq_false_iff_ne.1 h3
     refine sx_B [0,0,0,0,0,1] [(b0,20)] (sx_C 232 #[(bnV p a l.length c)] (.bool (fitsB p l)) (fun W hM => bFits_any p l _ _ W hM.view hl (by simpa using h1)) ?_)
     refine zq 2 (zn (sx_D (!(fitsB p l)) (fun h6 => ?_) (fun h6 => ?_)))
     ·
      refine zQ 1 (zn (sx_ret (sx_Z [2] [(I6 8)] (fun W' hM => ?_))))
      exact ⟨by simp only [resV,rulesZ,h0,h1,h2,h3,h6,bs,if_true,if_false,cond_true,cond_false,reduceIte],hM.below⟩
     ·
      refine zk (zQ 1 (zn (sx_ret (sx_Z [2] [(I6 0)] (fun W' hM => ?_)))))
      exact ⟨by simp only [resV,rulesZ,h0,h1,h2,h3,h6,bs,if_true,if_false,cond_true,cond_false,reduceIte],hM.below⟩
theorem prBytes_len {p : Pr} (h : prRight p = 0) : (prBytes p).length ≤ 4000 := by
 obtain ⟨hd, hs, hr, hc0, hc2⟩ := prRanged_parts (prRight_parts h)
 have hzl := Z_length (2 * p.c.toNat)
 have hsz := prItems_sz (p := p) (Z (2 * p.c.toNat)) hd hs hr
 have hsz2 := sumT_sz (l := prZ p) hc0 hc2
 have hb := Itm.bytesB_len p.tree
 unfold prBytes
 unfold Pr.tree prZ at *
 omega
theorem bkBytes_len {x : Bk} (h : bkRight x = 0) : (bkBytes x).length ≤ 50000 := by
 obtain ⟨ht, hn, hc0, hc2, hf, hdl⟩ := bkRight_parts h
 have hsz := bkItems_sz x []
 have hsz2 := sumZ_sz (l := bkItems x []) hc0 hc2
 have hb := Itm.bytesB_len x.tree
 unfold bkBytes
 unfold Bk.tree at *
 simp only [List.length_nil] at hsz
 omega
def blksB (l : List Bk) : List UInt8 := l.flatMap bkBytes
def bnBytes (p : Pr) (l : List Bk) : List UInt8 := [159] ++ prBytes p ++ blksB l ++ [255]
theorem blksB_drop {l : List Bk} {i : Nat} {y : Bk} (h : l[i]? = some y) : blksB (l.drop i) = bkBytes y ++ blksB (l.drop (i + 1)) := by
 unfold blksB
 rw [drop_some h, List.flatMap_cons]
theorem blksB_len : ∀ (l : List Bk), (∀ x ∈ l, bkRight x = 0) → (blksB l).length ≤ 50000 * l.length
 | [], _ => Nat.le_refl _
 | x :: r, h => by
  have h1 := bkBytes_len (h x (List.mem_cons_self ..))
  have h2 := blksB_len r fun y hy => h y (List.mem_cons_of_mem _ hy)
  unfold blksB at *
  rw [List.flatMap_cons, List.length_append, List.length_cons]
  omega
theorem bBuildAll_any (p : Pr) (l : List Bk) (a : Option Addr) (c : Nat) (w : World) {U : View} (hU : ∀ a v, U a = some v → w.cell? a = some v) (hp : p.ok) (hl : BksAt U a l) (h0 : prRight p = 0) (hb : ∀ x ∈ l, bkRight x = 0) (h16 : l.length ≤ 16) : Calls Tryz.prog 203 #[bnV p a l.length c] w (Ret (.string (B (bnBytes p l))) w) := by
 have hl1 := prBytes_len h0
 have hl2 := blksB_len l hb
 refine sx_enter (f := 203) 37 U Tryz.func203 rfl rfl rfl hU ?_
 refine zs (zr (sx_N (fun b0 => (zq 1 (zn (zB [0,1] [(b0,19)] (sx_C 192 #[(p.V)] (.tuple #[(St (prBytes p)),(I6 0)]) (fun W hM => pBuild_any p W hp h0) ?_)))))))
 refine zq 5 (zn (zs (zr (sx_C 138 #[(I6 4)] (St [159]) (fun W hM => cOpen4_any W) ?_))))
 refine zq 1 (sx_R (St ([159] ++ (prBytes p))) (run_cat _ _ _ _ rfl [159] (prBytes p) (by kernel_rfl) (by kernel_rfl) (by first | omega | (simp only [List.length_append,List.length_cons,List.length_nil]; omega))) ?_)
 refine zq 1 (zn (zs (zB [0,1,0,0] [(b0,1)] (zn (sx_block ?_)))))
 refine sx_loop (α := Nat × List UInt8) (fun x => [2,3,19,20,21].zip [(St []),(St x.2),(.slice a l.length c),(L6 l.length),(L6 x.1)]) (fun _ => U) (fun x => [(bK b0 (bnCs p a l.length c) 29)]) (fun x => x.1 ≤ l.length ∧ x.2 ++ blksB (l.drop x.1) = ([159] ++ prBytes p) ++ blksB l) (fun x => l.length - x.1) (0,[159] ++ prBytes p) ?_ (look_zip _ _ (by kernel_rfl)) (fun _ h => h.eqv (by kernel_rfl)) ?_
 · exact ⟨Nat.zero_le _,rfl⟩
 intro x hx
 obtain ⟨hx1,hx2⟩ := hx
 have hxl := congrArg List.length hx2
 simp only [List.length_append,List.length_cons,List.length_nil] at hxl
 refine zQ 1 (zn (zs (sx_D (decide (((x.1 : Nat) : Int) < (((l.length : Nat)) : Int))) (fun h0 => ?_) (fun h0 => ?_))))
 ·
  have h0d := of_decide_eq_true h0
  refine zk (zs (sx_block (zs (zr ?_))))
  obtain ⟨y1,hy1⟩ : ∃ y,(l)[x.1]? = some y := ⟨(l)[x.1]'(by omega),List.getElem?_eq_getElem _⟩
  obtain ⟨b1,f1,rfl,hU1⟩ := hl.at_ x.1 y1 hy1
  have hyb := hb y1 (List.mem_of_getElem? hy1)
  have hyk := hl.ok y1 (List.mem_of_getElem? hy1)
  have hyl := bkBytes_len hyb
  have hyL2 := congrArg List.length (blksB_drop hy1)
  simp only [List.length_append] at hyL2
  refine sx_R (Pt b1 (f1 + x.1 * 5)) (rIx 38 rfl b1 f1 l.length c x.1 5) ?_
  refine zU b1 (f1 + x.1 * 5) y1.cs hU1 38 (.tmp 23) _ Tryz.underlying38 rfl ?_
  refine sx_N (fun b2 => (sx_S 1 b2 (zn (zB [2] [(b2,5)] (sx_C 233 #[(y1.V)] (.tuple #[(St (bkBytes y1)),(I6 0)]) (fun W hM => bBuild_any y1 W hyk hyb) ?_)))))
  refine zq 5 (zn (zr (zq 2 (sx_R (St (x.2 ++ (bkBytes y1))) (run_cat _ _ _ _ rfl x.2 (bkBytes y1) (by kernel_rfl) (by kernel_rfl) (by first | omega | (simp only [List.length_append,List.length_cons,List.length_nil]; omega))) ?_))))
  refine zq 1 (zn (zr (zq 1 (sx_E 33 (I6 (IntKind.i64.wrap (((x.1 : Nat) : Int) + 1))) (I6 (((x.1 : Nat) : Int) + 1)) i6v ?_))))
  refine zq 1 (zn ?_)
  refine ⟨(x.1 + 1,(x.2 ++ (bkBytes y1))),?_,?_,look_zip _ _ (by kernel_rfl),fun _ h => Mem.sub (List.sublist_append_left _ _) (h.eqv (show _ = ([(bK b0 (bnCs p (some ⟨b1,f1,none⟩) l.length c) 29)] : Blks) ++ ([(bK b2 y1.cs 38)] : Blks) from by kernel_rfl))⟩
  · exact ⟨by show x.1 + 1 ≤ _; omega,by rw [← hx2,blksB_drop hy1,List.append_assoc]⟩
  · show l.length - (x.1 + 1) < l.length - x.1; omega
 ·
  have h0d := of_decide_eq_false h0
  refine sx_exit (zQ 1 (sx_C 138 #[(I6 7)] (St [255]) (fun W hM => cOpen7_any W) ?_))
  refine sx_R (St (x.2 ++ [255])) (run_cat _ _ _ _ rfl x.2 [255] (by kernel_rfl) (by kernel_rfl) (by first | omega | (simp only [List.length_append,List.length_cons,List.length_nil]; omega))) ?_
  refine zq 1 (zn (sx_ret (sx_Z [2] [(St (x.2 ++ [255]))] (fun W' hM => ?_))))
  refine ⟨?_,hM.below⟩
  rw [drop_all (by omega)] at hx2
  unfold bnBytes
  rw [← hx2]
  simp only [resV,blksB,List.flatMap_nil,List.append_nil]
theorem partsZ_zero {p : Pr} {l : List Bk} (h : partsZ p l = 0) : prRight p = 0 ∧ ∀ x ∈ l, bkRight x = 0 := by
 unfold partsZ at h
 split at h
 · next h1 => rw [h] at h1; cases h1
 ·
  next h1 =>
  refine ⟨by simpa using h1, fun x hx => ?_⟩
  unfold blksZ at h
  split at h
  ·
   next y hy =>
   have := List.find?_some hy
   rw [h] at this
   cases this
  ·
   next hn =>
   have := List.find?_eq_none.1 hn x hx
   simpa using this
def madeZ (p : Pr) (l : List Bk) : List UInt8 × Int :=
 if partsZ p l != 0 then ([], partsZ p l) else if rulesZ p l != 0 then ([], rulesZ p l) else if decide (((bnBytes p l).length : Int) > 4000) then ([], 4) else (bnBytes p l, 0)
theorem rulesZ_len {p : Pr} {l : List Bk} (h : (rulesZ p l != 0) = false) : l.length ≤ 16 := by
 unfold rulesZ at h
 split at h
 · cases h
 ·
  next h1 =>
  simp only [decide_eq_true_eq] at h1
  omega
theorem bMade_any (p : Pr) (l : List Bk) (a : Option Addr) (c : Nat) (w : World) {U : View} (hU : ∀ a v, U a = some v → w.cell? a = some v) (hp : p.ok) (hl : BksAt U a l) : Calls Tryz.prog 156 #[bnV p a l.length c] w (Ret (.tuple #[.string (B (madeZ p l).1), .int .i64 (madeZ p l).2]) w) := by
 refine sx_enter (f := 156) 23 U Tryz.func156 rfl rfl rfl hU ?_
 refine zs (zr (sx_N (fun b0 => (zq 2 (zn (zs (zB [1] [(b0,20)] (sx_C 201 #[(bnV p a l.length c)] (I6 (partsZ p l)) (fun W hM => bParts_any p l _ _ W hM.view hp hl) ?_))))))))
 refine zq 1 (zn (zQ 2 (zn (sx_D ((partsZ p l) != 0) (fun h0 => ?_) (fun h0 => ?_)))))
 ·
  refine zQ 3 (zn (sx_ret (sx_Z [2,3] [(St []),(I6 (partsZ p l))] (fun W' hM => ?_))))
  refine ⟨?_,hM.below⟩
  unfold madeZ
  simp only [resV,h0,bs,if_true,if_false,cond_true,cond_false,reduceIte]
 ·
  have h0d := bne_eq_false_iff_eq.1 h0
  refine zk (zs (zB [1] [(b0,20)] (sx_C 202 #[(bnV p a l.length c)] (I6 (rulesZ p l)) (fun W hM => bRules_any p l _ _ W hM.view hl) ?_)))
  refine zq 1 (zn (zQ 2 (zn (sx_D ((rulesZ p l) != 0) (fun h1 => ?_) (fun h1 => ?_)))))
  ·
   refine zQ 3 (zn (sx_ret (sx_Z [2,3] [(St []),(I6 (rulesZ p l))] (fun W' hM => ?_))))
   refine ⟨?_,hM.below⟩
   unfold madeZ
   simp only [resV,h0,h1,bs,if_true,if_false,cond_true,cond_false,reduceIte]
  ·
   have h1d := bne_eq_false_iff_eq.1 h1
   refine zk (zB [1] [(b0,20)] (sx_C 203 #[(bnV p a l.length c)] (St (bnBytes p l)) (fun W hM => bBuildAll_any p l _ _ W hM.view hp hl (partsZ_zero (by simpa using h0)).1 (partsZ_zero (by simpa using h0)).2 (rulesZ_len h1)) ?_))
   refine zq 1 (zn (zs (zQ 3 (zn (sx_D (decide (((((bnBytes p l)).length : Nat) : Int) > 4000)) (fun h2 => ?_) (fun h2 => ?_))))))
   ·
    refine zQ 2 (zn (sx_ret (sx_Z [2,3] [(St []),(I6 4)] (fun W' hM => ?_))))
    refine ⟨?_,hM.below⟩
    unfold madeZ
    simp only [resV,h0,h1,h2,bs,if_true,if_false,cond_true,cond_false,reduceIte]
   ·
    refine zk (zQ 3 (zn (sx_ret (sx_Z [2,3] [(St (bnBytes p l)),(I6 0)] (fun W' hM => ?_)))))
    refine ⟨?_,hM.below⟩
    unfold madeZ
    simp only [resV,h0,h1,h2,bs,if_true,if_false,cond_true,cond_false,reduceIte]
def bnRight (p : Pr) (l : List Bk) : Int := (madeZ p l).2
theorem bnRight_any (p : Pr) (l : List Bk) (a : Option Addr) (c : Nat) (w : World) {U : View} (hU : ∀ a v, U a = some v → w.cell? a = some v) (hp : p.ok) (hl : BksAt U a l) : Calls Tryz.prog 115 #[bnV p a l.length c] w (Ret (.int .i64 (bnRight p l)) w) := by
 refine sx_enter (f := 115) 11 U Tryz.func115 rfl rfl rfl hU ?_
 refine zs (zr (sx_N (fun b0 => (zq 1 (zn (zB [1] [(b0,20)] (sx_C 156 #[(bnV p a l.length c)] (.tuple #[(St (madeZ p l).1),(I6 (madeZ p l).2)]) (fun W hM => bMade_any p l _ _ W hM.view hp hl) ?_)))))))
 refine zq 5 (zn (zQ 2 (zn (sx_ret (sx_Z [2] [(I6 (madeZ p l).2)] (fun W' hM => ?_))))))
 exact ⟨rfl,hM.below⟩
theorem at1_any (x : Bk) (num : Int) (pb : Nat) (w : World) {U : View} (hU : ∀ a v, U a = some v → w.cell? a = some v) (hp : U ⟨pb, 0, none⟩ = some (.int .i64 num)) : Calls Tryz.prog 133 #[x.V, .pointer (some ⟨pb, 0, none⟩)] w (Ret (.bool (x.n == num)) w) := by
 refine sx_enter (f := 133) 8 U Tryz.func133 rfl rfl rfl hU ?_
 refine zs (zr (sx_N (fun b0 => (zq 1 (zn (zB [0,1] [(b0,1)] (zV pb (0) (I6 num) hp 3 (.tmp 1) _ Tryz.underlying3 rfl ?_)))))))
 refine zq 2 (zn (sx_ret (sx_Z [3] [(.bool (x.n == num))] (fun W' hM => ?_))))
 exact ⟨rfl,hM.below⟩
def idxF (num : Int) : Nat → List Bk → Int
 | _, [] => -1
 | i, x :: r => if x.n == num then (i : Int) else idxF num (i + 1) r
def idxB (l : List Bk) (num : Int) : Int := idxF num 0 l
theorem idxF_drop {l : List Bk} {num : Int} {i : Nat} {y : Bk} (h : l[i]? = some y) : idxF num i (l.drop i) = if y.n == num then (i : Int) else idxF num (i + 1) (l.drop (i + 1)) := by
 rw [drop_some h, idxF]
theorem idxF_spec (num : Int) : ∀ (i : Nat) (l : List Bk), (idxF num i l = -1 ∧ ∀ x ∈ l, x.n ≠ num) ∨ ∃ (j : Nat) (x : Bk), idxF num i l = ((i + j : Nat) : Int) ∧ l[j]? = some x ∧ x.n = num ∧ j < l.length
 | i, [] => .inl ⟨rfl, fun x hx => by simp at hx⟩
 | i, x :: r => by
  rw [idxF]
  cases hx : x.n == num with
  | true => exact .inr ⟨0, x, by simp, rfl, eq_of_beq hx, by simp⟩
  | false =>
   simp only [Bool.false_eq_true, if_false]
   rcases idxF_spec num (i + 1) r with ⟨h1, h2⟩ | ⟨j, y, h1, h2, h3, h4⟩
   ·
    refine .inl ⟨h1, fun y hy => ?_⟩
    rcases List.mem_cons.1 hy with rfl | hy
    · exact beq_eq_false_iff_ne.1 hx
    · exact h2 y hy
   · exact .inr ⟨j + 1, y, by rw [h1]; congr 1; omega, h2, h3, by simp; omega⟩
theorem idxAt_any (l : List Bk) (a : Option Addr) (c : Nat) (num : Int) (pb : Nat) (w : World) {U : View} (hU : ∀ a v, U a = some v → w.cell? a = some v) (hl : BksAt U a l) (hp : U ⟨pb, 0, none⟩ = some (.int .i64 num)) :
    Calls Tryz.prog 67 #[.slice a l.length c, .func (.func 133) #[] #[.pointer (some ⟨pb, 0, none⟩)]] w (Ret (.int .i64 (idxB l num)) w) := by
 have hlen := hl.len
 unfold R47 at hlen
 refine sx_enter (f := 67) 19 U Tryz.func67 rfl rfl rfl hU ?_
 refine zQ 1 (zn (zs (zQ 3 (zn (sx_block ?_)))))
 refine sx_loop (α := Nat) (fun x => [0,1,4,7,8].zip [(.slice a l.length c),(.func (.func 133) #[] #[(Pt pb 0)]),(I6 0),(L6 l.length),(L6 x)]) (fun _ => U) (fun x => []) (fun x => x ≤ l.length ∧ idxF num x (l.drop x) = idxB l num) (fun x => l.length - x) 0 ?_ (look_zip _ _ (by kernel_rfl)) (fun _ h => h.eqv (by kernel_rfl)) ?_
 · exact ⟨Nat.zero_le _,rfl⟩
 intro x hx
 obtain ⟨hx1,hx2⟩ := hx
 refine zQ 1 (zn (zs (sx_D (decide (((x : Nat) : Int) < (((l.length : Nat)) : Int))) (fun h0 => ?_) (fun h0 => ?_))))
 ·
  have h0d := of_decide_eq_true h0
  refine zk (zs (sx_block (zQ 2 (zn (zQ 3 ?_)))))
  obtain ⟨y0,hy0⟩ : ∃ y,(l)[x]? = some y := ⟨(l)[x]'(by omega),List.getElem?_eq_getElem _⟩
  obtain ⟨b0,f0,rfl,hU0⟩ := hl.at_ x y0 hy0
  refine sx_R (Pt b0 (f0 + x * 5)) (rIx 38 rfl b0 f0 l.length c x 5) ?_
  refine zU b0 (f0 + x * 5) y0.cs hU0 38 (.tmp 14) _ Tryz.underlying38 rfl ?_
  refine sx_C 133 #[(y0.V),(Pt pb 0)] (.bool (y0.n == num)) (fun W hM => at1_any y0 num pb W hM.view hp) ?_
  refine zn (sx_D (y0.n == num) (fun h1 => ?_) (fun h1 => ?_))
  ·
   have h1d := eq_of_beq h1
   refine zQ 2 (zn (sx_ret (sx_Z [4] [(L6 x)] (fun W' hM => ?_))))
   refine ⟨?_,hM.below⟩
   rw [← hx2,idxF_drop hy0,if_pos h1]
   rfl
  ·
   have h1d := beq_eq_false_iff_ne.1 h1
   refine zk (zr (zq 1 (sx_E 18 (I6 (IntKind.i64.wrap (((x : Nat) : Int) + 1))) (I6 (((x : Nat) : Int) + 1)) i6v ?_)))
   refine zq 1 (zn ?_)
   refine ⟨(x + 1),?_,?_,look_zip _ _ (by kernel_rfl),fun _ h => h.eqv (by kernel_rfl)⟩
   · exact ⟨by omega,by rw [← hx2,idxF_drop hy0,h1]; rfl⟩
   · show l.length - (x + 1) < l.length - x; omega
 ·
  have h0d := of_decide_eq_false h0
  refine sx_exit (zQ 1 (zn (sx_ret (sx_Z [4] [(I6 (-1))] (fun W' hM => ?_)))))
  refine ⟨?_,hM.below⟩
  rw [← hx2,drop_all (by omega)]
  rfl
theorem bAt_any (p : Pr) (l : List Bk) (a : Option Addr) (c : Nat) (num : Int) (w : World) {U : View} (hU : ∀ a v, U a = some v → w.cell? a = some v) (hl : BksAt U a l) : Calls Tryz.prog 87 #[bnV p a l.length c, .int .i64 num] w (Ret (.int .i64 (idxB l num)) w) := by
 refine sx_enter (f := 87) 9 U Tryz.func87 rfl rfl rfl hU ?_
 refine zs (zr (sx_N (fun b0 => (sx_N (fun b1 => (zq 1 (zn (zB [0,1,0] [(b0,1)] ?_))))))))
 refine sx_freeze [(bK b0 (bnCs p a l.length c) 29)] [] b1 [(I6 num)] 3 (by kernel_rfl) (fun V2 hV2 hR2 => ?_)
 have k3 := hl.le hV2
 refine sx_C 67 #[(.slice a l.length c),(.func (.func 133) #[] #[(Pt b1 0)])] (I6 (idxB l num)) (fun W hM => idxAt_any l _ _ num b1 W hM.view k3 (hR2 0 _ rfl)) ?_
 refine zq 1 (zn (sx_ret (sx_Z [4] [(I6 (idxB l num))] (fun W' hM => ?_))))
 exact ⟨rfl,hM.below⟩
def getB (l : List Bk) (num : Int) : Bk × Bool := match l.find? (fun x => x.n == num) with
 | some x => (x, true)
 | none => (Bk.none, false)
theorem idxB_neg {l : List Bk} {num : Int} (h : idxB l num < 0) : getB l num = (Bk.none, false) := by
 rcases idxF_spec num 0 l with ⟨_, h2⟩ | ⟨j, x, h1, _⟩
 ·
  unfold getB
  rw [List.find?_eq_none.2 fun x hx => by simpa using h2 x hx]
 ·
  unfold idxB at h
  omega
theorem idxF_get (num : Int) : ∀ (i : Nat) (l : List Bk) (j : Nat), idxF num i l = ((i + j : Nat) : Int) → ∃ x, l[j]? = some x ∧ l.find? (fun x => x.n == num) = some x
 | i, [], j, h => by unfold idxF at h; omega
 | i, x :: r, j, h => by
  unfold idxF at h
  cases hx : x.n == num with
  | true =>
   rw [hx] at h
   simp only [if_true] at h
   obtain rfl : j = 0 := by omega
   exact ⟨x, rfl, by rw [List.find?_cons, hx]⟩
  | false =>
   rw [hx] at h
   simp only [Bool.false_eq_true, if_false] at h
   cases j with
   | zero =>
    rcases idxF_spec num (i + 1) r with ⟨h1, _⟩ | ⟨k, y, h1, _⟩ <;> omega
   | succ j =>
    obtain ⟨y, h1, h2⟩ := idxF_get num (i + 1) r j (by omega)
    exact ⟨y, h1, by rw [List.find?_cons, hx]; exact h2⟩
theorem idxB_get {l : List Bk} {num : Int} {y : Bk} (h0 : ¬ idxB l num < 0) (hy : l[(idxB l num).toNat]? = some y) : getB l num = (y, true) := by
 have h0' : idxB l num = ((0 + (idxB l num).toNat : Nat) : Int) := by omega
 obtain ⟨x, h1, h2⟩ := idxF_get num 0 l _ h0'
 rw [hy] at h1
 cases h1
 unfold getB
 rw [h2]
theorem idxB_lt {l : List Bk} {num : Int} (h0 : ¬ idxB l num < 0) : (idxB l num).toNat < l.length ∧ idxB l num = ((idxB l num).toNat : Int) := by
 rcases idxF_spec num 0 l with ⟨h1, _⟩ | ⟨j, x, h1, _, _, h4⟩ <;> unfold idxB at * <;> omega
theorem bGet_any (p : Pr) (l : List Bk) (a : Option Addr) (c : Nat) (num : Int) (w : World) {U : View} (hU : ∀ a v, U a = some v → w.cell? a = some v) (hl : BksAt U a l) : Calls Tryz.prog 64 #[bnV p a l.length c, .int .i64 num] w (Ret (.tuple #[(getB l num).1.V, .bool (getB l num).2]) w) := by
 have hi := idxB_lt (l := l) (num := num)
 refine sx_enter (f := 64) 18 U Tryz.func64 rfl rfl rfl hU ?_
 refine zs (zr (sx_N (fun b0 => (sx_N (fun b1 => (zq 1 (zn (zB [1,0] [(b0,20)] (sx_C 87 #[(bnV p a l.length c),(I6 num)] (I6 (idxB l num)) (fun W hM => bAt_any p l _ _ num W hM.view hl) ?_)))))))))
 refine zq 1 (zn (zs (zQ 2 (zn (sx_D (decide ((idxB l num) < 0)) (fun h0 => ?_) (fun h0 => ?_))))))
 ·
  have h0d := of_decide_eq_true h0
  refine zQ 1 (sx_S 1 b1 (zq 1 (zn (sx_ret ?_))))
  refine sx_ret_any [.cell 4 38,.tmp 5] [(.agg #[(I6 0),(I6 0),(U6 0),(I6 0),(St [])]),(.bool false)] rfl ⟨(retK' 1 b1 5),retT',trivial⟩ (fun W' hM => ?_)
  refine ⟨?_,hM.below⟩
  rw [idxB_neg (by omega)]
  rfl
 ·
  have h0d := of_decide_eq_false h0
  refine zk (zB [0,1,0] [(b0,1)] ?_)
  obtain ⟨hi1,hi2⟩ := hi (by omega)
  refine sx_E 15 (I6 (idxB l num)) (I6 ((((idxB l num).toNat : Nat)) : Int)) (congrArg (Value.int .i64) hi2) ?_
  obtain ⟨y2,hy2⟩ : ∃ y,(l)[((idxB l num).toNat)]? = some y := ⟨(l)[((idxB l num).toNat)]'(by omega),List.getElem?_eq_getElem _⟩
  obtain ⟨b2,f2,rfl,hU2⟩ := hl.at_ ((idxB l num).toNat) y2 hy2
  refine sx_R (.pointer (some ⟨b2,f2 + ((idxB l num).toNat) * 5,none⟩)) (run_ix _ 38 _ _ rfl b2 f2 l.length c ((idxB l num).toNat) 5 .i64 (by kernel_rfl) (by kernel_rfl) (by first | assumption | omega) (by kernel_rfl) (by kernel_rfl)) ?_
  refine zU b2 (f2 + ((idxB l num).toNat) * 5) y2.cs hU2 38 (.tmp 16) _ Tryz.underlying38 rfl ?_
  refine sx_S 1 b1 (zq 1 (zn (sx_ret ?_)))
  refine sx_ret_any [.cell 4 38,.tmp 5] [(y2.V),(.bool true)] rfl ⟨(retK' 1 b1 5),retT',trivial⟩ (fun W' hM => ?_)
  refine ⟨?_,hM.below⟩
  rw [idxB_get (by omega) hy2]
  rfl
theorem stLen {A zs : List Value} {k : Nat} (h : k + zs.length ≤ A.length) : (stCells A k zs).length = A.length := by
 unfold stCells
 simp only [List.length_append, List.length_take, List.length_drop]
 omega
theorem RetM.mono {W0 : Cx} {U : View} {σF : Blks} {Φ Ψ : Value → View → Blks → Prop} {e : Ending} {W' : World} (h : RetM W0 U σF Φ e W') (hi : ∀ v V σ', Φ v V σ' → Ψ v V σ') : RetM W0 U σF Ψ e W' := by
 obtain ⟨v, V, σ', he, hl, hM, hΦ⟩ := h
 exact ⟨v, V, σ', he, hl, hM, hi v V σ' hΦ⟩
def BksOf (l : List Bk) (v : Value) (V : View) : Prop := ∃ a c, v = .slice a l.length c ∧ BksAt V a l
theorem BksOf.mono {l : List Bk} {v : Value} {V V' : View} (hl : View.le V V') (h : BksOf l v V) : BksOf l v V' := by
 obtain ⟨a, c, e, hb⟩ := h
 exact ⟨a, c, e, hb.le hl⟩
theorem BksAt.openR {U : View} {a : Option Addr} {l : List Bk} (h : BksAt U a l) (hne : l ≠ []) : ∃ b f, a = some ⟨b, f, none⟩ ∧ U.range b f (l.flatMap Bk.cs) := by
 obtain ⟨b, f, ha, _⟩ := h.at_ 0 (l[0]'(by cases l <;> simp_all)) (List.getElem?_eq_getElem _)
 refine ⟨b, f, ha, BksAt.flat fun i x hx => ?_⟩
 obtain ⟨b', f', ha', hr⟩ := h.at_ i x hx
 rw [ha] at ha'
 cases ha'
 exact hr
theorem flat_drop : ∀ (l : List Bk) (i : Nat), (l.flatMap Bk.cs).drop (i * 5) = (l.drop i).flatMap Bk.cs
 | l, 0 => by simp
 | [], i + 1 => by simp
 | x :: l, i + 1 => by
  rw [List.flatMap_cons, List.drop_succ_cons, ← flat_drop l i, show (i + 1) * 5 = x.cs.length + i * 5 by simp only [Bk.cs, List.length_cons, List.length_nil]; omega, List.drop_append]
  simp
theorem flat_take : ∀ (l : List Bk) (i : Nat), (l.flatMap Bk.cs).take (i * 5) = (l.take i).flatMap Bk.cs
 | l, 0 => by simp
 | [], i + 1 => by simp
 | x :: l, i + 1 => by
  rw [List.flatMap_cons, List.take_succ_cons, List.flatMap_cons, ← flat_take l i, show (i + 1) * 5 = x.cs.length + i * 5 by simp only [Bk.cs, List.length_cons, List.length_nil]; omega, List.take_append, List.take_of_length_le (by omega), Nat.add_sub_cancel_left]
section
variable {P : Program} {n : Nat} {W0 : Cx} {s : Slots} {U : View} {σ : Blks} {ops : Array Oper} {ds : List Nat} {vs : List Sq} {t : Taken}
theorem oqK (i : Nat) {o : Oper} (hi : ops[i]? = some o) (hg : o.guard = none) (v : Value) (hvi : vs[i]? = some (.val v)) (ts : List Nat) (vals : (Nat → Value) → List Value) (hsl : ∀ u, (ts.map fun t => look (depQ ops ds vs u i ++ minusS s ds) t) = (vals u).map some)
  (h : ∀ (u : Nat → Value) (V : View), View.le U V → (∀ j, waitsOn .any ops i j = true → PhiAt vs j (u j) V) → quiet P (ts.zip (vals u)) o = some v) : Oq P n W0 U σ ops ds vs s i :=
 Oq.op i hi _ hvi fun u V hV hd => by
  have hq := h u V hV hd
  refine ⟨by unfold wantS; rw [hg], fun a W ha hM Q K hK => ?_⟩
  unfold Oper.wp
  rw [quiet_run (rep_zip ts _ ha (hsl u)) hq]
  exact hK v W hM rfl (Below.refl _ _)
end
theorem run_overlaps_own {P : Program} (w : World) (tS tR e : TypeId) (ht : P.underlying tS = some (.slice e)) (size : Nat) (hz : ∀ w, (Go.sizeOf e).run P w = .ok size w)
  (a b : Addr) (la ca lb cb : Nat) (hne : a.block ≠ b.block) (tA tB : TypeId) (kA kB : Nat)
  (hsa : w.shape? a.block = some (tA, kA + 1)) (hsb : w.shape? b.block = some (tB, kB)) (hfb : w.frozen? b = false) (hfe : w.frozen? { block := b.block, off := kB } = false) :
  (Extern.SlicesOverlaps.overlaps #[tS, tS] #[tR] #[.slice (some a) la ca, .slice (some b) lb cb]).run P w = .ok (.bool false) w := by
 have hnb : (a.block != b.block) = true := by simpa using hne
 have hnb' : (a.block == b.block) = false := by simpa using hne
 change Sem.run P (α := Value) (do
  let some t := (#[tS, tS] : Array TypeId)[0]? | stuck "slices.overlaps: no parameter types"
  let .slice elem ← underlying t | stuck "slices.overlaps: slice type expected"
  let size ← sizeOf elem
  match (some a : Option Addr), (some b : Option Addr) with
  | some a, some b =>
   if la = 0 ∨ lb = 0 ∨ size = 0 then pure (Value.bool false)
   else if a.block != b.block && (← frozen a) && (← frozen b) then unsupported .addressObserved
   else do
    if a.block != b.block then do
     noView a; noView b
     if ← mayBeOne a b then return Value.bool ((← choose (.extern "sameAddr.stringBytes" 2)) == 1)
    pure (Value.bool (a.block == b.block && a.off < b.off + lb * size && b.off < a.off + la * size))
  | _, _ => pure (Value.bool false)) w = _
 by_cases h0 : la = 0 ∨ lb = 0 ∨ size = 0
 · simp [run_underlying ht, hz, h0]
 ·
  cases hfa : w.frozen? a <;> cases hfk : w.frozen? { block := a.block, off := kA + 1 } <;>
   simp [run_underlying ht, hz, h0, hnb, hnb', frozen, noView, viewAt, mayBeOne, stringish, shape, Sem.run, hsa, hsb, hfb, hfe, hfa, hfk]
theorem shape_cell {w : World} {a : Addr} {v : Value} (h : w.cell? a = some v) : ∃ t k, w.shape? a.block = some (t, k + 1) := by
 unfold World.cell? at h
 split at h
 ·
  next c e fr hb =>
  split at h
  · cases h
  ·
   have hlt := (Array.getElem?_eq_some_iff.1 h).1
   refine ⟨e, c.size - 1, ?_⟩
   unfold World.shape?
   rw [hb]
   simp only [Option.some.injEq, Prod.mk.injEq, true_and]
   omega
 · cases h
theorem perm_back (l σF : Blks) (y : Nat × Obj) : ((l ++ σF) ++ [y]).Perm ((l ++ [y]) ++ σF) := by
 rw [List.append_assoc, List.append_assoc]
 exact List.Perm.append_left l List.perm_append_comm
section
variable {P : Program} {n : Nat} {W0 : Cx} {Q : XQ} {s : Slots} {U : View} {σ : Blks} {ops : Array Oper} {l : List Oper} {o : Oper}
theorem sx_runM (v : Value) (hk : known s o = true) (hrun : ∀ W : World, Mem W0 U σ W → (execOp (ev s) o).run P W = .ok (.value v) W) (hd : dstOk n o = true) (hw : wantS ops s o = some true) (hn : SXL P n W0 Q ops l (putS o v s) U σ) : SXL P n W0 Q ops (o :: l) s U σ := by
 refine sx_op hd hw fun a W ha hM K hK => ?_
 unfold Oper.wp
 rw [known_rep ha hk, hrun W hM]
 exact hK _ _ _ _ _ hn (putS_rep ha hd) hM
theorem run_ovl {fid : FuncId} {fn : Func} {tS tR e te : TypeId} {size : Nat} (x y : Operand) (ts : Array TypeId) (ho : o.op = .call { callee := .value (.func fid), args := #[x, y], argTypes := ts }) (hf : P.funcs[fid]? = some fn) (hname : (fn.name == "runtime.NumGoroutine") = false)
  (hb : fn.body.isNone = true) (hn : Extern.findNext fn = none) (he : Extern.find fn = some (Extern.SlicesOverlaps.overlaps #[tS, tS] #[tR])) (ht : P.underlying tS = some (.slice e)) (hz : (P.info? e).map (·.size) = some size)
  (k g f la ca b off lb cb : Nat) (cs : List Value) (v0 : Value) (hx : evS s x = some (.slice (some ⟨g, f, none⟩) la ca)) (hy : evS s y = some (.slice (some ⟨b, off, none⟩) lb cb)) (hu : U ⟨g, f, none⟩ = some v0) (hk : σ[k]? = some (b, .cells cs.toArray te (0, 0)))
  (W : World) (hM : Mem W0 U σ W) : (execOp (ev s) o).run P W = .ok (.value (.bool false)) W := by
 obtain ⟨q1, _, q3⟩ := hM.own k b _ hk
 have hne : g ≠ b := fun e => by rw [q3 ⟨g, f, none⟩ e] at hu; cases hu
 obtain ⟨tA, kA, hsa⟩ := shape_cell (hM.view _ _ hu)
 have hsb : W.shape? b = some (te, cs.length) := by unfold World.shape?; rw [q1]; simp
 have hfr : ∀ i, W.frozen? ⟨b, i, none⟩ = false := fun i => by unfold World.frozen?; rw [q1]; simp
 unfold execOp
 simp only [ho, resolve, invoke, Sem.run_bind, Sem.run_pure, Result.andThen_ok, List.map_toArray, List.map_cons, List.map_nil, ev_of hx, ev_of hy]
 have := run_callFunc_extern (P := P) hf hname hb hn he #[.slice (some ⟨g, f, none⟩) la ca, .slice (some ⟨b, off, none⟩) lb cb] W
 rw [run_overlaps_own W tS tR e ht size (fun w => size_run hz w) ⟨g, f, none⟩ ⟨b, off, none⟩ la ca lb cb hne tA te kA cs.length hsa hsb (hfr off) (hfr _)] at this
 exact this
theorem sx_apZ (b f n1 c k z bytes : Nat) (olds : List Value) (e t tn : TypeId) (zv : Value) (kn kq : IntKind) (x y : Operand) (ho : o.op = .call { callee := .builtin .append, args := #[x, y], argTypes := #[t, tn] }) (hx : evS s x = some (.slice (some ⟨b, f, none⟩) n1 c)) (hy : evS s y = some (.int kq (k : Int)))
  (hr : ∀ W, Mem W0 U σ W → W.rangeAt b f olds) (hl : olds.length = n1 * z) (hk : 0 < k) (hg : c < n1 + k) (hle : n1 + k ≤ 1000000000) (hby : (n1 + k) * bytes ≤ 140737488355328)
  (hu : P.underlying t = some (.slice e)) (hun : P.underlying tn = some (.int kn)) (hinfo : (P.info? e).map (fun i => (i.size, i.bytes, i.zero)) = some (z, bytes, some zv)) (hzs : zv.cells.size = z) (hz0 : 0 < z)
  (hd : dstOk n o = true) (hw : wantS ops s o = some true)
  (h : ∀ (g cap : Nat) (ys : List Value), n1 + k ≤ cap → cap ≤ maxLen → (olds ++ ys).length = cap * z → SXL P n W0 Q ops l (putS o (.slice (some ⟨g, 0, none⟩) (n1 + k) cap) s) U (σ ++ [(g, .cells (olds ++ ys).toArray e (0, 0))])) : SXL P n W0 Q ops (o :: l) s U σ := by
 refine sx_op hd hw fun a W ha hM K hK => ?_
 obtain ⟨i, hi, hz, hsize, hbyt⟩ : ∃ i, P.info? e = some i ∧ i.zero = some zv ∧ i.size = z ∧ i.bytes = bytes := by
  cases hq : P.info? e with
  | none => rw [hq] at hinfo; cases hinfo
  | some i =>
   rw [hq] at hinfo
   simp only [Option.map_some, Option.some.injEq, Prod.mk.injEq] at hinfo
   exact ⟨i, rfl, hinfo.2.2, hinfo.1, hinfo.2.1⟩
 subst hsize hbyt
 have hrun := run_range (P := P) (hr W.drew hM.drew) hl n1 c
 have happ := Lib.run_append_grow_zeros (P := P) W t tn o.type e i zv kq kn hu hun hi hz (some ⟨b, f, none⟩) n1 c olds hrun k hk hz0 hg (by omega) (by
  have : k * i.bytes ≤ (n1 + k) * i.bytes := Nat.mul_le_mul_right _ (by omega)
  omega) (growslice_fits hg hby)
 have hge := grownCap_ge W (n1 + k) c e
 have hml := grownCap_le_maxLen W (n1 + k) c e (by unfold maxLen; omega)
 unfold Oper.wp execOp
 simp only [ho, resolve, invoke, builtin, Sem.run_bind, Sem.run_pure, Result.andThen_ok, List.map_toArray, List.map_cons, List.map_nil, ev_rep ha hx, ev_rep ha hy, happ]
 have key := h W.heap.size (grownCap W (n1 + k) c e) ((Builtin.zeroCells zv.cells k).toList ++ (Builtin.zeroCells zv.cells (grownCap W (n1 + k) c e - (n1 + k))).toList) hge hml (by
  simp only [List.length_append, hl, Builtin.zeroCells, Array.length_toList, Array.size_map, Array.size_range, hzs]
  rw [← Nat.add_mul, ← Nat.add_mul]
  congr 1
  omega)
 have hM2 := hM.drew.alloc (.cells (olds ++ ((Builtin.zeroCells zv.cells k).toList ++ (Builtin.zeroCells zv.cells (grownCap W (n1 + k) c e - (n1 + k))).toList)).toArray e (0, 0))
 refine hK _ _ _ _ _ key (putS_rep ha hd) ?_
 have e1 : (olds.toArray ++ Builtin.zeroCells zv.cells k ++ Builtin.zeroCells zv.cells (grownCap W (n1 + k) c e - (n1 + k))) = (olds ++ ((Builtin.zeroCells zv.cells k).toList ++ (Builtin.zeroCells zv.cells (grownCap W (n1 + k) c e - (n1 + k))).toList)).toArray := by
  apply Array.toList_inj.1
  simp
 rw [e1]
 exact hM2
end
theorem st_app (A B C zs : List Value) (k : Nat) (hk : A.length = k) (h : zs.length = B.length) : stCells (A ++ B ++ C) k zs = A ++ zs ++ C := by
 subst hk
 unfold stCells
 rw [List.append_assoc A B C, List.take_left, h, ← List.length_append, ← List.append_assoc, List.drop_left]
theorem take_pre (A B : List Value) (k : Nat) (hk : A.length = k) : (A ++ B).take k = A := by
 subst hk
 exact List.take_left
theorem cut3 (l : List Value) (k m : Nat) (h : k + m ≤ l.length) : ∃ A B C, l = A ++ B ++ C ∧ A = l.take k ∧ B = (l.drop k).take m ∧ A.length = k ∧ B.length = m := by
 refine ⟨l.take k, (l.drop k).take m, (l.drop k).drop m, ?_, rfl, rfl, by rw [List.length_take]; omega, by rw [List.length_take, List.length_drop]; omega⟩
 rw [List.append_assoc, List.take_append_drop, List.take_append_drop]
theorem ins_grow {olds ys vs last : List Value} {i : Nat} (ho : olds.length = i * 5) (hy : 10 ≤ ys.length) (hv : vs.length = 5) (hl : last.length = 5) :
  (stCells (stCells (olds ++ ys) (0 + i * 5) vs) (0 + (i + 1) * 5) last).take ((i + 2) * 5) = olds ++ vs ++ last := by
 obtain ⟨A, B, C, rfl, _, _, hA, hB⟩ := cut3 ys 5 5 hy
 rw [show olds ++ (A ++ B ++ C) = olds ++ A ++ (B ++ C) by simp, st_app olds A (B ++ C) vs _ (by omega) (by omega), show olds ++ vs ++ (B ++ C) = (olds ++ vs) ++ B ++ C by simp,
  st_app (olds ++ vs) B C last _ (by rw [List.length_append]; omega) (by omega)]
 exact take_pre _ _ _ (by simp only [List.length_append]; omega)
theorem ins_room {xs junk vs : List Value} {i : Nat} (hx : xs.length = (i + 1) * 5) (hj : 5 ≤ junk.length) (hv : vs.length = 5) :
  (stCells (stCells (xs ++ junk) (0 + (i + 1) * 5) (xs.drop (i * 5))) (0 + i * 5) vs).take ((i + 2) * 5) = xs.take (i * 5) ++ vs ++ xs.drop (i * 5) := by
 obtain ⟨A, B, C, rfl, _, _, hA, hB⟩ := cut3 junk 0 5 (by omega)
 have hA0 : A = [] := List.length_eq_zero_iff.1 hA
 subst hA0
 have hd : (xs.drop (i * 5)).length = 5 := by rw [List.length_drop]; omega
 rw [List.nil_append, ← List.append_assoc, st_app xs B C _ _ (by omega) (by omega)]
 have ex : xs ++ xs.drop (i * 5) ++ C = xs.take (i * 5) ++ xs.drop (i * 5) ++ (xs.drop (i * 5) ++ C) := by
  rw [List.take_append_drop, List.append_assoc]
 rw [ex, st_app (xs.take (i * 5)) (xs.drop (i * 5)) _ vs _ (by rw [List.length_take]; omega) (by omega), ← List.append_assoc]
 exact take_pre _ _ _ (by simp only [List.length_append, List.length_take, hd]; omega)
theorem ins_rangeB {W : World} {b i : Nat} {xs junk : List Value} {t : TypeId} (hb : W.heap[b]? = some (.cells (xs ++ junk).toArray t (0, 0))) : W.rangeAt b (0 + i * 5) (xs.drop (i * 5)) := by
 intro j v hj
 rw [cell_of_row _ _ _ _ _ _ hb, Nat.zero_add]
 rw [List.getElem?_drop] at hj
 have hlt := (List.getElem?_eq_some_iff.1 hj).1
 simp only [List.getElem?_toArray]
 rw [List.getElem?_append_left hlt]
 exact hj
theorem ins_rangeA {W : World} {b i : Nat} {xs junk : List Value} {t : TypeId} (hb : W.heap[b]? = some (.cells (xs ++ junk).toArray t (0, 0))) : W.rangeAt b 0 (xs.take (i * 5)) := by
 intro j v hj
 rw [cell_of_row _ _ _ _ _ _ hb, Nat.zero_add]
 rw [List.getElem?_take] at hj
 split at hj
 ·
  have hlt := (List.getElem?_eq_some_iff.1 hj).1
  simp only [List.getElem?_toArray]
  rw [List.getElem?_append_left hlt]
  exact hj
 · cases hj
set_option maxHeartbeats 16000000 in
theorem insertBk_any {W0 : Cx} {U : View} {σF : Blks} {W : World} (b c i gv gf vc : Nat) (xs junk vs : List Value) (hM : Mem W0 U ([(b, .cells (xs ++ junk).toArray 38 (0, 0))] ++ σF) W) (hok : (Rw.row b c junk).ok 5 (i + 1) xs) (hi : i ≤ 1000000) (h1 : ∀ u ∈ xs, u.oneCell' = true) (hv : U.range gv gf vs) (hvl : vs.length = 5) (h1v : ∀ u ∈ vs, u.oneCell' = true) :
    Calls Tryz.prog 78 #[.slice (some ⟨b, 0, none⟩) (i + 1) c, .int .i64 ((i : Nat) : Int), .slice (some ⟨gv, gf, none⟩) 1 vc] W (RetM W0 U σF fun v V σ' => σ' = [] ∧ ∃ b' cap, v = .slice (some ⟨b', 0, none⟩) (i + 2) cap ∧ V.range b' 0 (xs.take (i * 5) ++ vs ++ xs.drop (i * 5))) := by
 obtain ⟨hx,hcl,hnc,hcm⟩ := hok
 have hbe : (((i : Nat) : Int) == ((i + 1 : Nat) : Int)) = false := beq_eq_false_iff_ne.2 (by omega)
 have hxl : (xs ++ junk).length = xs.length + junk.length := List.length_append
 have hTl : (xs.take (i * 5)).length = i * 5 := by rw [List.length_take]; omega
 have hDl : (xs.drop (i * 5)).length = 1 * 5 := by rw [List.length_drop]; omega
 have hu0 : U ⟨gv,gf,none⟩ = some (vs[0]'(by omega)) := hv 0 _ (List.getElem?_eq_getElem _)
 have hw1 : IntKind.i64.wrap (((i + 1 : Nat) : Int) + 1) = ((i + 2 : Nat) : Int) := by rw [IntWalk.i64_in _ (by omega)]; omega
 have hw2 : IntKind.i64.wrap (((i + 2 : Nat) : Int) - ((i : Nat) : Int)) = 2 := by rw [IntWalk.i64_in _ (by omega)]; omega
 have hw3 : IntKind.i64.wrap (((i : Nat) : Int) + 1) = ((i + 1 : Nat) : Int) := by rw [IntWalk.i64_in _ (by omega)]; omega
 have hcml : c ≤ 9223372036854775807 := by unfold maxLen at hcm; omega
 refine sx_enterM (f := 78) 95 U Tryz.func78 rfl rfl rfl hM ?_
 refine zQ 1 (zn (zQ 2 (sx_R (.slice (some ⟨b,(0 + i * 5),none⟩) (i + 1 - i) (c - i)) (run_sl 27 38 (.tmp 10) (some (.tmp 11)) none none rfl b 0 (i + 1) c i (i + 1) c 5 (i + 1 - i) (c - i) (0 + i * 5) (by kernel_rfl) (show _ = _ by kernel_rfl) (show _ = _ by kernel_rfl) (show _ = _ by kernel_rfl) (by decide) (by omega) (by omega) (by omega) (by omega) (by omega) (by first | rfl | (split <;> omega)) Tryz.underlying27 (by kernel_rfl)) ?_)))
 refine zn (zQ 3 (zn (zs (zQ 2 (zn (sx_F (zk (zQ 3 (zn (zs (zQ 3 (zn (sx_F' (((i : Nat) : Int) == ((i + 1 : Nat) : Int)) hbe ?_)))))))))))))
 refine zk (zs (zQ 3 (sx_E 28 (I6 (IntKind.i64.wrap (((i + 1 : Nat) : Int) + 1))) (I6 ((i + 2 : Nat) : Int)) (congrArg (Value.int .i64) hw1) ?_)))
 refine zq 3 (zn (sx_D (decide (((i + 2 : Nat) : Int) > ((c : Nat) : Int))) (fun h0 => ?_) (fun h0 => ?_)))
 ·
  have h0d := of_decide_eq_true h0
  refine zQ 2 (sx_R (Sl b 0 i c) (run_sl 27 38 (.tmp 32) none (some (.tmp 33)) none rfl b 0 (i + 1) c 0 i c 5 i c 0 (by kernel_rfl) (show _ = _ by kernel_rfl) (show _ = _ by kernel_rfl) (show _ = _ by kernel_rfl) (by decide) (by omega) (by omega) (by omega) (by omega) (by omega) (by first | rfl | (split <;> omega)) Tryz.underlying27 (by kernel_rfl)) ?_)
  refine zq 3 (sx_E 37 (I6 (IntKind.i64.wrap (((i + 1 : Nat) : Int) + 1))) (I6 ((i + 2 : Nat) : Int)) (congrArg (Value.int .i64) hw1) ?_)
  refine zq 2 (sx_E 39 (I6 (IntKind.i64.wrap (((i + 2 : Nat) : Int) - ((i : Nat) : Int)))) (I6 2) (congrArg (Value.int .i64) hw2) ?_)
  refine sx_apZ b 0 i c 2 5 48 (xs.take (i * 5)) 38 27 3 (.agg #[(I6 0),(I6 0),(U6 0),(I6 0),(St [])]) .i64 .i64 (.tmp 34) (.tmp 39) rfl (by kernel_rfl) (by kernel_rfl) (fun W hM => ins_rangeA (hM.own 0 b _ rfl).1) hTl (by omega) (by omega) (by omega) (by omega) Tryz.underlying27 Tryz.underlying3 (by kernel_rfl) rfl (by decide) (by kernel_rfl) (by kernel_rfl) (fun gA capA ysA hcA1 hcA2 hcA3 => ?_)
  rw [List.length_append,hTl] at hcA3
  refine sx_permL (perm_back [(b,(.cells (xs ++ junk).toArray 38 (0,0)))] σF _) ?_
  refine zq 1 (zn (zQ 2 (sx_R (.slice (some ⟨gA,(0 + i * 5),none⟩) (i + 2 - i) (capA - i)) (run_sl 27 38 (.tmp 41) (some (.tmp 42)) none none rfl gA 0 (i + 2) capA i (i + 2) capA 5 (i + 2 - i) (capA - i) (0 + i * 5) (by kernel_rfl) (show _ = _ by kernel_rfl) (show _ = _ by kernel_rfl) (show _ = _ by kernel_rfl) (by decide) (by omega) (by omega) (by omega) (by omega) (by omega) (by first | rfl | (split <;> omega)) Tryz.underlying27 (by kernel_rfl)) ?_)))
  refine zq 1 ?_
  refine sx_cp 1 gA (0 + i * 5) (i + 2 - i) (capA - i) gv gf 1 vc 1 5 ((xs.take (i * 5)) ++ ysA) vs 38 27 27 38 (.tmp 43) (.tmp 44) rfl (by kernel_rfl) (by kernel_rfl) (by kernel_rfl) (by show min _ _ = _; omega) (fun W hM => View.range_of hv hM.view) (by rw [hvl]) h1v (by rw [List.length_append,hTl]; omega) Tryz.underlying27 (by kernel_rfl) (by kernel_rfl) (by kernel_rfl) ?_
  refine zn (zs (sx_W 8 1 2 [46,47,48,49,50,51,52,53] [.val (Sl gA 0 (i + 2) capA),.val (L6 i),.val (I6 1),.val (I6 ((i + 1 : Nat) : Int)),.val (.slice (some ⟨gA,(0 + (i + 1) * 5),none⟩) (i + 2 - (i + 1)) (capA - (i + 1))),.val (Sl b 0 (i + 1) c),.val (L6 i),.val (.slice (some ⟨b,(0 + i * 5),none⟩) (i + 1 - i) (c - i))] ⟨?_,?_,?_,?_,?_,?_,?_,?_,trivial⟩ ?_))
  · exact oQ 0 rfl (Sl gA 0 (i + 2) capA) rfl
  · exact oQ 1 rfl (L6 i) rfl
  · exact oQ 2 rfl (I6 1) rfl
  · exact oE 3 rfl (I6 (IntKind.i64.wrap (((i : Nat) : Int) + 1))) (I6 ((i + 1 : Nat) : Int)) (congrArg (Value.int .i64) hw3) rfl
  · exact obR 4 rfl (.slice (some ⟨gA,(0 + (i + 1) * 5),none⟩) (i + 2 - (i + 1)) (capA - (i + 1))) rfl (by kernel_rfl) (run_sl 27 38 (.tmp 46) (some (.tmp 49)) none none rfl gA 0 (i + 2) capA (i + 1) (i + 2) capA 5 (i + 2 - (i + 1)) (capA - (i + 1)) (0 + (i + 1) * 5) (by kernel_rfl) (show _ = _ by kernel_rfl) (show _ = _ by kernel_rfl) (show _ = _ by kernel_rfl) (by decide) (by omega) (by omega) (by omega) (by omega) (by omega) (by first | rfl | (split <;> omega)) Tryz.underlying27 (by kernel_rfl)) (by kernel_rfl)
  · exact oQ 5 rfl (Sl b 0 (i + 1) c) rfl
  · exact oQ 6 rfl (L6 i) rfl
  · exact obR 7 rfl (.slice (some ⟨b,(0 + i * 5),none⟩) (i + 1 - i) (c - i)) rfl (by kernel_rfl) (run_sl 27 38 (.tmp 51) (some (.tmp 52)) none none rfl b 0 (i + 1) c i (i + 1) c 5 (i + 1 - i) (c - i) (0 + i * 5) (by kernel_rfl) (show _ = _ by kernel_rfl) (show _ = _ by kernel_rfl) (show _ = _ by kernel_rfl) (by decide) (by omega) (by omega) (by omega) (by omega) (by omega) (by first | rfl | (split <;> omega)) Tryz.underlying27 (by kernel_rfl)) (by kernel_rfl)
  refine sx_cp 1 gA (0 + (i + 1) * 5) (i + 2 - (i + 1)) (capA - (i + 1)) b (0 + i * 5) (i + 1 - i) (c - i) 1 5 (stCells ((xs.take (i * 5)) ++ ysA) (0 + i * 5) vs) (xs.drop (i * 5)) 38 27 27 38 (.tmp 50) (.tmp 53) rfl (by kernel_rfl) (by kernel_rfl) (by kernel_rfl) (by show min _ _ = _; omega) (fun W hM => ins_rangeB (hM.own 0 b _ rfl).1) hDl (fun u hu => h1 u (List.mem_of_mem_drop hu)) (by rw [stLen (by rw [List.length_append,hTl]; omega),List.length_append,hTl]; omega) Tryz.underlying27 (by kernel_rfl) (by kernel_rfl) (by kernel_rfl) ?_
  refine zn (zQ 2 (zn (sx_ret (sx_Z [6] [(Sl gA 0 (i + 2) capA)] (fun W' hM => ?_)))))
  have hM' : Mem W0 U ((gA,(.cells (stCells (stCells ((xs.take (i * 5)) ++ ysA) (0 + i * 5) vs) (0 + (i + 1) * 5) (xs.drop (i * 5))).toArray 38 (0,0))) :: σF) W' := hM.sub (List.sublist_cons_self _ _)
  obtain ⟨V,q1,q2,q3⟩ := hM'.freezeHead
  refine ⟨_,V,[],rfl,q1,q3,rfl,_,_,rfl,?_⟩
  have : V.range gA (0 + 0) (xs.take (i * 5) ++ vs ++ xs.drop (i * 5)) := View.sub q2 0 ((i + 2) * 5) (by rw [List.drop_zero]; exact ins_grow hTl (by omega) hvl hDl)
  exact this
 ·
  have h0d := of_decide_eq_false h0
  refine zk (zQ 4 (sx_E 59 (I6 (IntKind.i64.wrap (((i + 1 : Nat) : Int) + 1))) (I6 ((i + 2 : Nat) : Int)) (congrArg (Value.int .i64) hw1) ?_))
  refine sx_R (Sl b 0 (i + 2) c) (run_sl 27 38 (.tmp 56) none (some (.tmp 59)) none rfl b 0 (i + 1) c 0 (i + 2) c 5 (i + 2) c 0 (by kernel_rfl) (show _ = _ by kernel_rfl) (show _ = _ by kernel_rfl) (show _ = _ by kernel_rfl) (by decide) (by omega) (by omega) (by omega) (by omega) (by omega) (by first | rfl | (split <;> omega)) Tryz.underlying27 (by kernel_rfl)) ?_
  refine zq 1 (zn (zs (zQ 5 (sx_E 65 (I6 (IntKind.i64.wrap (((i : Nat) : Int) + 1))) (I6 ((i + 1 : Nat) : Int)) (congrArg (Value.int .i64) hw3) ?_))))
  refine sx_R (.slice (some ⟨b,(0 + (i + 1) * 5),none⟩) (i + 2 - (i + 1)) (c - (i + 1))) (run_sl 27 38 (.tmp 62) (some (.tmp 65)) none none rfl b 0 (i + 2) c (i + 1) (i + 2) c 5 (i + 2 - (i + 1)) (c - (i + 1)) (0 + (i + 1) * 5) (by kernel_rfl) (show _ = _ by kernel_rfl) (show _ = _ by kernel_rfl) (show _ = _ by kernel_rfl) (by decide) (by omega) (by omega) (by omega) (by omega) (by omega) (by first | rfl | (split <;> omega)) Tryz.underlying27 (by kernel_rfl)) ?_
  refine sx_runM (.bool false) (by kernel_rfl) (run_ovl (fid := 119) (tS := 27) (tR := 4) (te := 38) (size := 5) (.tmp 61) (.tmp 66) _ rfl Tryz.func119 (by kernel_rfl) (by kernel_rfl) (by kernel_rfl) (by kernel_rfl) Tryz.underlying27 (by kernel_rfl) 0 gv gf 1 vc b (0 + (i + 1) * 5) (i + 2 - (i + 1)) (c - (i + 1)) (xs ++ junk) _ (by kernel_rfl) (by kernel_rfl) hu0 (by kernel_rfl)) (by kernel_rfl) (by kernel_rfl) ?_
  refine zq 1 (zn (sx_T (zs (sx_W 8 1 2 [69,70,71,72,73,74,75,76] [.val (Sl b 0 (i + 2) c),.val (L6 i),.val (I6 1),.val (I6 ((i + 1 : Nat) : Int)),.val (.slice (some ⟨b,(0 + (i + 1) * 5),none⟩) (i + 2 - (i + 1)) (c - (i + 1))),.val (Sl b 0 (i + 2) c),.val (L6 i),.val (.slice (some ⟨b,(0 + i * 5),none⟩) (i + 2 - i) (c - i))] ⟨?_,?_,?_,?_,?_,?_,?_,?_,trivial⟩ ?_))))
  · exact oQ 0 rfl (Sl b 0 (i + 2) c) rfl
  · exact oQ 1 rfl (L6 i) rfl
  · exact oQ 2 rfl (I6 1) rfl
  · exact oE 3 rfl (I6 (IntKind.i64.wrap (((i : Nat) : Int) + 1))) (I6 ((i + 1 : Nat) : Int)) (congrArg (Value.int .i64) hw3) rfl
  · exact obR 4 rfl (.slice (some ⟨b,(0 + (i + 1) * 5),none⟩) (i + 2 - (i + 1)) (c - (i + 1))) rfl (by kernel_rfl) (run_sl 27 38 (.tmp 69) (some (.tmp 72)) none none rfl b 0 (i + 2) c (i + 1) (i + 2) c 5 (i + 2 - (i + 1)) (c - (i + 1)) (0 + (i + 1) * 5) (by kernel_rfl) (show _ = _ by kernel_rfl) (show _ = _ by kernel_rfl) (show _ = _ by kernel_rfl) (by decide) (by omega) (by omega) (by omega) (by omega) (by omega) (by first | rfl | (split <;> omega)) Tryz.underlying27 (by kernel_rfl)) (by kernel_rfl)
  · exact oQ 5 rfl (Sl b 0 (i + 2) c) rfl
  · exact oQ 6 rfl (L6 i) rfl
  · exact obR 7 rfl (.slice (some ⟨b,(0 + i * 5),none⟩) (i + 2 - i) (c - i)) rfl (by kernel_rfl) (run_sl 27 38 (.tmp 74) (some (.tmp 75)) none none rfl b 0 (i + 2) c i (i + 2) c 5 (i + 2 - i) (c - i) (0 + i * 5) (by kernel_rfl) (show _ = _ by kernel_rfl) (show _ = _ by kernel_rfl) (show _ = _ by kernel_rfl) (by decide) (by omega) (by omega) (by omega) (by omega) (by omega) (by first | rfl | (split <;> omega)) Tryz.underlying27 (by kernel_rfl)) (by kernel_rfl)
  refine sx_cp 0 b (0 + (i + 1) * 5) (i + 2 - (i + 1)) (c - (i + 1)) b (0 + i * 5) (i + 2 - i) (c - i) 1 5 (xs ++ junk) (xs.drop (i * 5)) 38 27 27 38 (.tmp 73) (.tmp 76) rfl (by kernel_rfl) (by kernel_rfl) (by kernel_rfl) (by show min _ _ = _; omega) (fun W hM => ins_rangeB (hM.own 0 b _ rfl).1) hDl (fun u hu => h1 u (List.mem_of_mem_drop hu)) (by omega) Tryz.underlying27 (by kernel_rfl) (by kernel_rfl) (by kernel_rfl) ?_
  refine zn (zQ 2 (sx_R (.slice (some ⟨b,(0 + i * 5),none⟩) (i + 2 - i) (c - i)) (run_sl 27 38 (.tmp 78) (some (.tmp 79)) none none rfl b 0 (i + 2) c i (i + 2) c 5 (i + 2 - i) (c - i) (0 + i * 5) (by kernel_rfl) (show _ = _ by kernel_rfl) (show _ = _ by kernel_rfl) (show _ = _ by kernel_rfl) (by decide) (by omega) (by omega) (by omega) (by omega) (by omega) (by first | rfl | (split <;> omega)) Tryz.underlying27 (by kernel_rfl)) ?_))
  refine zq 1 ?_
  refine sx_cp 0 b (0 + i * 5) (i + 2 - i) (c - i) gv gf 1 vc 1 5 (stCells (xs ++ junk) (0 + (i + 1) * 5) (xs.drop (i * 5))) vs 38 27 27 38 (.tmp 80) (.tmp 81) rfl (by kernel_rfl) (by kernel_rfl) (by kernel_rfl) (by show min _ _ = _; omega) (fun W hM => View.range_of hv hM.view) (by rw [hvl]) h1v (by rw [stLen (by omega)]; omega) Tryz.underlying27 (by kernel_rfl) (by kernel_rfl) (by kernel_rfl) ?_
  refine zn (zQ 2 (zn (sx_ret (sx_Z [6] [(Sl b 0 (i + 2) c)] (fun W' hM => ?_)))))
  have hM' : Mem W0 U ((b,(.cells (stCells (stCells (xs ++ junk) (0 + (i + 1) * 5) (xs.drop (i * 5))) (0 + i * 5) vs).toArray 38 (0,0))) :: σF) W' := hM
  obtain ⟨V,q1,q2,q3⟩ := hM'.freezeHead
  refine ⟨_,V,[],rfl,q1,q3,rfl,_,_,rfl,?_⟩
  have : V.range b (0 + 0) (xs.take (i * 5) ++ vs ++ xs.drop (i * 5)) := View.sub q2 0 ((i + 2) * 5) (by rw [List.drop_zero]; exact ins_room hx (by omega) hvl)
  exact this
def Pr.zero : Pr := ⟨0, 0, ⟨0, [], 0, 0⟩, ⟨0, [], 0, 0⟩, ⟨0, [], 0, 0⟩, 0, 0, 0, 0, 0⟩
def BnRes (p : Pr) (l : List Bk) (z : Int) (v : Value) (V : View) : Prop := ∃ a c, v = .tuple #[bnV p a l.length c, .int .i64 z] ∧ BksAt V a l
def BnOf (p : Pr) (l : List Bk) (v : Value) (V : View) : Prop := ∃ a c, v = bnV p a l.length c ∧ BksAt V a l
theorem BnOf.mono {p : Pr} {l : List Bk} {v : Value} {V V' : View} (hl : View.le V V') (h : BnOf p l v V) : BnOf p l v V' := by
 obtain ⟨a, c, e, hb⟩ := h
 exact ⟨a, c, e, hb.le hl⟩
theorem BnRes.mono {p : Pr} {l : List Bk} {z : Int} {v : Value} {V V' : View} (hl : View.le V V') (h : BnRes p l z v V) : BnRes p l z v V' := by
 obtain ⟨a, c, e, hb⟩ := h
 exact ⟨a, c, e, hb.le hl⟩
def chkP (p : Pr) (l : List Bk) : Pr := if bnRight p l != 0 then Pr.zero else p
def chkL (p : Pr) (l : List Bk) : List Bk := if bnRight p l != 0 then [] else l
theorem BksAt.nil {U : View} : BksAt U none [] := ⟨fun i x hx => by simp at hx, fun x hx => by simp at hx, by unfold R47; simp⟩
def freeF (l : List Bk) : Nat → Nat → Nat
 | 0, n => n
 | f + 1, n => if idxB l (n : Int) < 0 then n else freeF l f (n + 1)
def freeB (l : List Bk) : Nat := freeF l l.length 2
def above (l : List Bk) (n : Nat) : List Bk := l.filter fun x => decide ((n : Int) ≤ x.n)
theorem above_le {l : List Bk} {n : Nat} : (above l (n + 1)).length ≤ (above l n).length := by
 unfold above
 induction l with
 | nil => exact Nat.le_refl _
 | cons x l ih =>
  rw [List.filter_cons, List.filter_cons]
  by_cases h1 : ((n + 1 : Nat) : Int) ≤ x.n
  ·
   rw [if_pos (by simpa using h1), if_pos (by simp; omega)]
   simp only [List.length_cons]
   omega
  ·
   rw [if_neg (by simpa using h1)]
   split
   · simp only [List.length_cons]; omega
   · exact ih
theorem above_lt {l : List Bk} {n : Nat} (h : ∃ x ∈ l, x.n = (n : Int)) : (above l (n + 1)).length < (above l n).length := by
 induction l with
 | nil => obtain ⟨x, hx, _⟩ := h; simp at hx
 | cons y l ih =>
  obtain ⟨x, hx, hn⟩ := h
  have hle := above_le (l := l) (n := n)
  unfold above at ih hle ⊢
  rw [List.filter_cons, List.filter_cons]
  by_cases h1 : ((n + 1 : Nat) : Int) ≤ y.n
  ·
   rw [if_pos (by simpa using h1), if_pos (by simp; omega)]
   rcases List.mem_cons.1 hx with rfl | hx
   · omega
   ·
    have := ih ⟨x, hx, hn⟩
    simp only [List.length_cons]
    omega
  ·
   rw [if_neg (by simpa using h1)]
   by_cases h2 : ((n : Nat) : Int) ≤ y.n
   ·
    rw [if_pos (by simpa using h2)]
    simp only [List.length_cons]
    omega
   ·
    rw [if_neg (by simpa using h2)]
    rcases List.mem_cons.1 hx with rfl | hx
    · omega
    · exact ih ⟨x, hx, hn⟩
theorem idxB_mem {l : List Bk} {num : Int} (h : ¬ idxB l num < 0) : ∃ x ∈ l, x.n = num := by
 rcases idxF_spec num 0 l with ⟨h1, _⟩ | ⟨j, x, _, h2, h3, _⟩
 · unfold idxB at h; omega
 · exact ⟨x, List.mem_of_getElem? h2, h3⟩
theorem freeStep {l : List Bk} {x f : Nat} (h1 : 2 ≤ x) (h2 : x - 2 + (above l x).length ≤ l.length) (h3 : freeF l f x = freeB l) (h4 : (above l x).length ≤ f) (hi : ¬ idxB l (x : Int) < 0) :
  2 ≤ x + 1 ∧ x + 1 - 2 + (above l (x + 1)).length ≤ l.length ∧ ∃ f, freeF l f (x + 1) = freeB l ∧ (above l (x + 1)).length ≤ f := by
 have hlt := above_lt (idxB_mem hi)
 cases f with
 | zero => omega
 | succ f =>
  rw [freeF, if_neg hi] at h3
  exact ⟨by omega, by omega, f, h3, by omega⟩
theorem bFree_any (p : Pr) (l : List Bk) (a : Option Addr) (c : Nat) (w : World) {U : View} (hU : ∀ a v, U a = some v → w.cell? a = some v) (hl : BksAt U a l) : Calls Tryz.prog 38 #[bnV p a l.length c] w (Ret (.int .i64 ((freeB l : Nat) : Int)) w) := by
 have hlen := hl.len
 unfold R47 at hlen
 refine sx_enter (f := 38) 11 U Tryz.func38 rfl rfl rfl hU ?_
 refine zs (zr (sx_N (fun b0 => (zq 1 (zn (zQ 1 (zn (zs (sx_block ?_)))))))))
 refine sx_loop (α := Nat) (fun x => [1,2,3].zip [(Pt b0 0),(I6 0),(L6 x)]) (fun _ => U) (fun x => [(bK b0 (bnCs p a l.length c) 29)]) (fun x => 2 ≤ x ∧ x - 2 + (above l x).length ≤ l.length ∧ ∃ f,freeF l f x = freeB l ∧ (above l x).length ≤ f) (fun x => (above l x).length) 2 ?_ (look_zip _ _ (by kernel_rfl)) (fun _ h => h.eqv (by kernel_rfl)) ?_
 · exact ⟨Nat.le_refl _,by simp only [Nat.sub_self,Nat.zero_add]; exact List.length_filter_le _ _,l.length,rfl,List.length_filter_le _ _⟩
 intro x hx
 obtain ⟨hx1,hx2,f,hx3,hx4⟩ := hx
 refine zs (zB [1,0] [(b0,20)] (sx_C 87 #[(bnV p a l.length c),(L6 x)] (I6 (idxB l ((x : Nat) : Int))) (fun W hM => bAt_any p l _ _ ((x : Nat) : Int) W hM.view hl) ?_))
 refine zq 1 (zn (sx_D (decide ((idxB l ((x : Nat) : Int)) ≥ 0)) (fun h0 => ?_) (fun h0 => ?_)))
 ·
  have h0d := of_decide_eq_true h0
  refine zk (sx_block (zr (zq 2 (sx_E 9 (I6 (IntKind.i64.wrap (((x : Nat) : Int) + 1))) (I6 (((x : Nat) : Int) + 1)) i6v ?_))))
  refine zq 1 (zn ?_)
  refine ⟨(x + 1),?_,?_,look_zip _ _ (by kernel_rfl),fun _ h => h.eqv (by kernel_rfl)⟩
  · exact freeStep hx1 hx2 hx3 hx4 (by omega)
  · exact above_lt (idxB_mem (by omega))
 ·
  have h0d := of_decide_eq_false h0
  refine sx_exit (zQ 2 (zn (sx_ret (sx_Z [2] [(L6 x)] (fun W' hM => ?_)))))
  refine ⟨?_,hM.below⟩
  show Ending.returned (Value.int .i64 ((x : Nat) : Int)) = _
  rw [← hx3]
  cases f with
  | zero => rfl
  | succ f => rw [freeF,if_pos (by omega)]
theorem bks_of_range {V : View} {b c n : Nat} {l : List Bk} {v : Value} (hr : V.range b 0 (l.flatMap Bk.cs)) (hv : v = .slice (some ⟨b, 0, none⟩) n c) (hn : n = l.length) (hok : ∀ x ∈ l, x.ok) (hlen : l.length ≤ R47) : BksOf l v V := by
 subst hn
 exact ⟨_, c, hv, BksAt.of hr hok hlen⟩
def putL (l : List Bk) (x : Bk) : List Bk := l.take (l.length - 1) ++ [x] ++ l.drop (l.length - 1)
theorem putL_len {l : List Bk} {x : Bk} (h : l ≠ []) : (putL l x).length = l.length - 1 + 2 := by
 have := List.length_pos_iff.2 h
 unfold putL
 simp only [List.length_append, List.length_take, List.length_drop, List.length_cons, List.length_nil]
 omega
theorem flat_put (l : List Bk) (x : Bk) : (l.flatMap Bk.cs).take ((l.length - 1) * 5) ++ x.cs ++ (l.flatMap Bk.cs).drop ((l.length - 1) * 5) = (putL l x).flatMap Bk.cs := by
 unfold putL
 rw [flat_take, flat_drop, List.flatMap_append, List.flatMap_append]
 simp
theorem bk_one (x : Bk) : ∀ u ∈ x.cs, u.oneCell' = true := by
 intro u hu
 unfold Bk.cs at hu
 simp only [List.mem_cons, List.mem_nil_iff, or_false] at hu
 rcases hu with rfl | rfl | rfl | rfl | rfl <;> rfl
structure Rd where
 b : List UInt8
 at_ : Nat
 bad : Int
 e : Int
 frm : Nat
def Rd.cs (r : Rd) : List Value := [.string (B r.b), .int .i64 (r.at_ : Int), .int .i64 r.bad, .int .i64 r.e, .int .i64 (r.frm : Int)]
def Rd.O (r : Rd) : Obj := .cells r.cs.toArray 297 (0, 0)
def Rd.new (b : List UInt8) : Rd := ⟨b, 0, -1, 0, 0⟩
theorem pick_perm {σ : Blks} (l1 l2 : Blks) (x : Nat × Obj) (e : σ = l1 ++ x :: l2) : σ.Perm ([x] ++ (l1 ++ l2)) := by
 subst e
 exact List.perm_middle
theorem retM_sub {W0 : Cx} {U V : View} {σ σ' σF : Blks} {Φ : Value → View → Blks → Prop} {v : Value} {W' : World} (hM : Mem W0 V σ W') (hσ : (σ' ++ σF).Sublist σ) (hl : View.le U V) (h : Φ v V σ') : RetM W0 U σF Φ (.returned v) W' := ⟨v, V, σ', rfl, hl, hM.sub hσ, h⟩
def RdAt (rd : Rd) (v : Value) (σ : Blks) : Prop := ∃ r, v = .pointer (some ⟨r, 0, none⟩) ∧ σ = [(r, rd.O)]
theorem newReader_any (l : List UInt8) {W0 : Cx} {U : View} {σF : Blks} {W : World} (hM : Mem W0 U ([] ++ σF) W) : Calls Tryz.prog 237 #[.string (B l)] W (RetM W0 U σF fun v V σ' => RdAt (Rd.new l) v σ') := by
 refine sx_enterM (f := 237) 6 U Tryz.func237 rfl rfl rfl hM ?_
 refine zQ 1 (zn (zQ 2 (sx_NI 0 (fun b0 => ?_))))
 refine zq 1 (zn (sx_ret (sx_Z [2] [(Pt b0 0)] (fun W' hM => ?_))))
 exact retM_eq (σ' := [(bK b0 [(St l),(I6 0),(I6 (-1)),(I6 0),(I6 0)] 297)]) hM (View.le_refl _) ⟨_,rfl,rfl⟩
def Rd.fail (r : Rd) (e : Int) : Rd := if r.e == 0 then ⟨r.b, r.frm, (r.frm : Int), e, r.frm⟩ else r
theorem rFail_any (rd : Rd) (e : Int) (r : Nat) {W0 : Cx} {U : View} {σF : Blks} {W : World} (hM : Mem W0 U ([(r, rd.O)] ++ σF) W) : Calls Tryz.prog 241 #[.pointer (some ⟨r, 0, none⟩), .int .i64 e] W (RetM W0 U σF fun v V σ' => v = resV [] ∧ σ' = [(r, (rd.fail e).O)]) := by
 have hM2 : Mem W0 U ([(bK r [(St rd.b),(I6 (rd.at_ : Int)),(I6 rd.bad),(I6 rd.e),(I6 (rd.frm : Int))] 297)] ++ σF) W := hM.eqv (by kernel_rfl)
 refine sx_enterM (f := 241) 27 U Tryz.func241 rfl rfl rfl hM2 ?_
 refine zB [0,0,0,1,0] [(r,1)] (zn (sx_D (rd.e == 0) (fun h0 => ?_) (fun h0 => ?_)))
 ·
  refine zB [0,0,0,0,1,0,0] [(r,1)] (sx_S 0 r (zn (zr (sx_B [0,0,0,0,0,1,0,0,0] [(r,1)] (sx_S 0 r (zq 2 (sx_S 0 r (zn ?_))))))))
  refine sx_normal_any [] [] rfl trivial (fun W' hM => ?_)
  exact retM_eq (σ' := [(bK r [(St rd.b),(I6 (rd.frm : Int)),(I6 (rd.frm : Int)),(I6 e),(I6 (rd.frm : Int))] 297)]) hM (View.le_refl _) ⟨rfl,by simp only [Rd.fail,h0,if_true,Bool.false_eq_true,if_false]; rfl⟩
 ·
  refine zk ?_
  refine sx_normal_any [] [] rfl trivial (fun W' hM => ?_)
  exact retM_eq (σ' := [(bK r [(St rd.b),(I6 (rd.at_ : Int)),(I6 rd.bad),(I6 rd.e),(I6 (rd.frm : Int))] 297)]) hM (View.le_refl _) ⟨rfl,by simp only [Rd.fail,h0,if_true,Bool.false_eq_true,if_false]; rfl⟩
theorem B_sz (l : List UInt8) : (B l).size = l.length := by simp [B, ByteArray.size]
section
variable {P : Program} {s : Slots} {o : Oper}
theorem run_ss (t : TypeId) (x : Operand) (lo hi : Option Operand) (ho : o.op = .slice t x lo hi none) (l : List UInt8) (a b : Nat) (l' : List UInt8) (hx : evS s x = some (.string (B l)))
  (hl : bndIs s lo 0 a) (hh : bndIs s hi l.length b) (h1 : a ≤ b) (h2 : b ≤ l.length) (el : (l.drop a).take (b - a) = l') (hu : P.underlying t = some .string) (W : World) : (execOp (ev s) o).run P W = .ok (.value (.string (B l'))) W := by
 have bd : ∀ (v y : Nat) (c : BoundsCode), v ≤ y → (Instr.sliceBound (.int .i64 (v : Int)) y c).run P W = .ok v W := fun v y c hv => by
  simp [Instr.sliceBound, asIntOf, Result.andThen]
  intro hc
  omega
 have hb : (Instr.sliceBounds false (B l).size (B l).size (lo.map (ev s)) (hi.map (ev s)) none).run P W = .ok (a, b, l.length) W := by
  unfold bndIs at hl hh
  rw [B_sz]
  cases hi with
  | none =>
   simp only at hh
   subst hh
   cases lo with
   | some lo' => simp [Instr.sliceBounds, ev_of hl, bd _ _ _ h1, Result.andThen]
   | none => simp only at hl; subst hl; simp [Instr.sliceBounds, Result.andThen]
  | some ho' =>
   cases lo with
   | some lo' => simp [Instr.sliceBounds, ev_of hl, ev_of hh, bd _ _ _ h1, bd _ _ _ h2, Result.andThen]
   | none => simp only at hl; subst hl; simp [Instr.sliceBounds, ev_of hh, bd _ _ _ h2, Result.andThen]
 have key : (Instr.slice t (.string (B l)) (lo.map (ev s)) (hi.map (ev s)) none).run P W = .ok (.string (B l')) W := by
  simp only [Instr.slice, Sem.run_bind, run_underlying hu, Result.andThen_ok, hb, Sem.run_pure, Option.isSome_none, Bool.false_eq_true, if_false, B_extract, el]
 have key2 : (Instr.sliceAt t (.string (B l)) (lo.map (ev s)) (hi.map (ev s)) none).run P W = .ok (.string (B l')) W := by
  simp only [Instr.sliceAt, Sem.run_bind, run_underlying hu, Result.andThen_ok, key]
 unfold execOp
 simp only [ho, ev_of hx, Sem.run_bind, Option.map_none, key2, Result.andThen_ok, Sem.run_pure]
theorem run_ib (t : TypeId) (x ix : Operand) (ho : o.op = .index t x ix) (l : List UInt8) (i : Nat) (k : IntKind) (c : UInt8) (hx : evS s x = some (.string (B l))) (hi : evS s ix = some (.int k (i : Int))) (hc : l[i]? = some c) (hu : P.underlying t = some .string) (W : World) :
  (execOp (ev s) o).run P W = .ok (.value (.int .u8 ((c.toNat : Nat) : Int))) W := by
 obtain ⟨hlt, rfl⟩ := List.getElem?_eq_some_iff.1 hc
 unfold execOp
 simp [ho, ev_of hx, ev_of hi, Instr.index, Instr.indexAt, run_underlying hu, asIntOf, Result.andThen, B_sz, hlt]
 first | rfl | (simp [B]; rfl)
end
theorem low5 : ∀ c : Fin 256, IntKind.i64.wrap (andI .u8 ((c.val : Nat) : Int) 31) = ((c.val % 32 : Nat) : Int) := by decide +kernel
theorem high3 : ∀ c : Fin 256, IntKind.i64.wrap (((c.val : Nat) : Int).fdiv (2 ^ 5)) = ((c.val / 32 : Nat) : Int) := by decide +kernel
theorem low5_any (c : UInt8) : IntKind.i64.wrap (andI .u8 ((c.toNat : Nat) : Int) 31) = ((c.toNat % 32 : Nat) : Int) := low5 ⟨c.toNat, c.toNat_lt⟩
theorem high3_any (c : UInt8) : IntKind.i64.wrap (((c.toNat : Nat) : Int).fdiv (2 ^ 5)) = ((c.toNat / 32 : Nat) : Int) := high3 ⟨c.toNat, c.toNat_lt⟩
section
variable {P : Program} {n : Nat} {W0 : Cx} {s : Slots} {U : View} {σ0 : Blks}
structure MQ (P : Program) (n : Nat) (W0 : Cx) (U : View) (own σ : Blks) (ops : Array Oper) (ds : List Nat) (vs : List Sq) (s : Slots) (i : Nat) (Ψ : Value → View → Blks → Prop) : Prop where
 go : ∃ (o : Oper) (f : FuncId) (ts : List Nat) (vals : (Nat → Value) → List Value), ops[i]? = some o ∧ o.guard = none ∧ (∀ u, (ts.map fun x => look (depQ ops ds vs u i ++ minusS s ds) x) = (vals u).map some) ∧
  ∀ (u : Nat → Value) (V : View), View.le U V → (∀ j, waitsOn .any ops i j = true → PhiAt vs j (u j) V) → ∃ args, enters P (ts.zip (vals u)) o = some (f, args) ∧
   ∀ W, Mem W0 V (own ++ σ) W → Calls P f args W (RetM W0 V σ Ψ)
def ObM (P : Program) (n : Nat) (W0 : Cx) (U : View) (own σ : Blks) (ops : Array Oper) (ds : List Nat) (vs : List Sq) (s : Slots) (i : Nat) (Ψ : Value → View → Blks → Prop) (k : Nat) : Prop :=
 if k = i then MQ P n W0 U own σ ops ds vs s i Ψ else ∀ σ', Oq P n W0 U (σ ++ σ') ops ds vs s k
theorem ObM.o {own σ : Blks} {ops : Array Oper} {ds : List Nat} {vs : List Sq} {i : Nat} {Ψ : Value → View → Blks → Prop} (k : Nat) (h1 : k ≠ i) (h : ∀ σ', Oq P n W0 U (σ ++ σ') ops ds vs s k) : ObM P n W0 U own σ ops ds vs s i Ψ k := by
 unfold ObM
 rw [if_neg h1]
 exact h
theorem ObM.call {own σ : Blks} {ops : Array Oper} {ds : List Nat} {vs : List Sq} {i : Nat} {Ψ : Value → View → Blks → Prop} (h : MQ P n W0 U own σ ops ds vs s i Ψ) : ObM P n W0 U own σ ops ds vs s i Ψ i := by
 unfold ObM
 rw [if_pos rfl]
 exact h
structure InvM (W0 : Cx) (U : View) (own σ : Blks) (vs : List Sq) (m i : Nat) (Ψ : Value → View → Blks → Prop) (L : Nat → Bool) (u : Nat → Value) (w : World) (V : View) (σ' : Blks) : Prop where
 le : View.le U V
 mem : Mem W0 V (σ ++ σ') w
 at_ : ∀ j, j < m → L j = true → sqAt vs j (u j) V
 own : L i = false → σ' = own
 non : L i = true → Ψ (u i) V σ'
theorem sx_drawnM {id : Nat} {l : List Oper} {Q : XQ} (m f r : Nat) (ds : List Nat) (vs : List Sq) (i : Nat) (own σ : Blks) (Ψ : Value → View → Blks → Prop) (hσ : σ0.Perm (own ++ σ)) (hm : P.follows .mixedOrders = true) (hsz : l.length = m + f) (hlen : ds.length = m)
  (hds : dstsOk l.toArray ds = true) (hnd : nodupB ds = true) (hlt : (ds.all fun d => Nat.blt d n) = true) (hedge : edgesOk .any l.toArray m = true) (htail : tailOk .any l.toArray m r = true) (hchain : chainOk l.toArray m f = true) (hmo : ∀ q ∈ vs, sqMono q)
  (hji : i < m) (Φi : Value → View → Prop) (hvj : vs[i]? = some (.mem Φi)) (hΦ : ∀ v V σ', Ψ v V σ' → Φi v V) (hΨ : ∀ v V V' σ', View.le V V' → Ψ v V σ' → Ψ v V' σ')
  (obs : Go.Proofs.YtcdjakemdlinhaaGreatDoor.Steps (ObM P n W0 U own σ l.toArray ds vs s i Ψ) 0 m)
  (ts : List Nat) (vals : (Nat → Value) → List Value) (hsl : ∀ u, (ts.map fun t => look (endQ u 0 ds vs ++ minusS s ds) t) = (vals u).map some)
  (h : ∀ (u : Nat → Value) (V : View) (σ' : Blks), View.le U V → (∀ j, j < m → PhiAt vs j (u j) V) → Ψ (u i) V σ' → SXL P n W0 Q l.toArray (l.drop m) (ts.zip (vals u)) V (σ' ++ σ)) : SXC P n W0 Q (.region id l.toArray true) s U σ0 := by
 refine ⟨fun a W ha hM => ?_⟩
 have hn := nodup_of hnd
 have hd : ∀ d ∈ ds, d < n := fun d hd => by have := List.all_eq_true.1 hlt d hd; simpa [Nat.blt_eq] using this
 have hM1 : Mem W0 U (σ ++ own) W := hM.perm (hσ.trans List.perm_append_comm)
 refine wp_region_inv m f r ds (fun L u w => ∃ V σ', InvM W0 U own σ vs m i Ψ L u w V σ') hm (by simpa using hsz) hlen hds hnd hedge htail ?_ ?_ ?_
 ·
  intro u
  exact ⟨U, own, ⟨View.le_refl _, hM1.drew, fun j _ hj => by simp at hj, fun _ => rfl, fun hj => by simp at hj⟩⟩
 ·
  rintro k hkm L u w ⟨V, σ', I⟩ hLk hwt hcl K hK
  have hob := obs.get k (Nat.zero_le _) (by omega)
  unfold ObM at hob
  split at hob
  ·
   next hki =>
   subst hki
   have hσ' : σ' = own := I.own hLk
   subst hσ'
   obtain ⟨o, g, ts, vals, ho, hgd, hsl, hgo⟩ := hob.go
   have hr := rep_fillC (a0 := a) (u := u) (V := V) (vs := vs) (ops := l.toArray) k ha hn hd fun j hj => .inl (I.at_ j (hwt j hj).2 (hwt j hj).1)
   obtain ⟨args, he, hc⟩ := hgo u V I.le fun j hj => (I.at_ j (hwt j hj).2 (hwt j hj).1).phi
   unfold wpOp
   simp only [ho, Region.wanted, hgd, if_true]
   left
   unfold Oper.wp
   rw [enters_run (rep_zip ts _ hr (hsl u)) he]
   refine (hc w (I.mem.perm List.perm_append_comm)).mono ?_
   rintro _ w' ⟨v, V', σ2, rfl, hl, hM', hΦ2⟩
   have := hK v w' ⟨V', σ2, ⟨View.le_trans I.le hl, hM'.perm List.perm_append_comm, fun j hj hL => ?_, fun hx => ?_, fun _ => ?_⟩⟩
   ·
    rw [ho] at this
    exact this
   ·
    by_cases e : j = k
    ·
     subst e
     rw [if_pos rfl]
     unfold sqAt
     rw [hvj]
     exact hΦ _ _ _ hΦ2
    ·
     rw [if_neg e] at hL ⊢
     exact (I.at_ j hj hL).le hmo hl
   ·
    rw [if_pos rfl] at hx
    cases hx
   ·
    rw [if_pos rfl]
    exact hΦ2
  ·
   next hki =>
   have hM0 : Mem W0 U (σ ++ σ') w := I.mem.weak I.le
   refine ((hob σ').go a (up n W0 Q) ha hn hd hmo).step u w hM0 (fun j hj => (I.at_ j (hwt j hj).2 (hwt j hj).1).isQ I.mem I.le) K fun v w' hM' hE hv => ?_
   obtain ⟨V', h1, h2, h3⟩ := hv.at hM'
   obtain ⟨q1, q2, q3⟩ := Mem.join (I.mem.call hE) h2
   refine hK v w' ⟨V.or V', σ', ⟨View.le_trans I.le q2, q1, fun j hj hL => ?_, fun hx => ?_, fun hx => ?_⟩⟩
   ·
    by_cases e : j = k
    ·
     subst e
     rw [if_pos rfl]
     exact h3.le hmo q3
    ·
     rw [if_neg e] at hL ⊢
     exact (I.at_ j hj hL).le hmo q2
   ·
    rw [if_neg (fun e => hki e.symm)] at hx
    exact I.own hx
   ·
    rw [if_neg (fun e => hki e.symm)] at hx ⊢
    exact hΨ _ _ _ _ q2 (I.non hx)
 ·
  rintro L u W' ⟨V, σ', I⟩ hL
  refine wpAny_tail f m _ W' (by simpa using hsz.symm) hchain ?_
  have hg := fun t => fillL_get ds 0 u a t hn (by rw [ha.size]; exact hd)
  have hph : ∀ j, j < m → PhiAt vs j (u j) V := fun j hj => (I.at_ j hj (hL j hj)).phi
  refine (h u V σ' I.le hph (I.non (hL i hji))).go _ W' (rep_zip ts _ (s' := endQ u 0 ds vs ++ minusS s ds) ⟨by rw [(hg 0).2.2.1, ha.size], by rw [(hg 0).2.2.2, ha.defers], fun x v hl => ?_⟩ (hsl u)) (I.mem.perm List.perm_append_comm)
  rcases look_append _ _ _ _ hl with hl | ⟨_, hl⟩
  ·
   have hmem := look_mem _ _ _ hl
   obtain ⟨j, q, hd2, hvq, hq⟩ := endQ_mem u 0 _ _ _ _ hmem
   have hjl : j < ds.length := (List.getElem?_eq_some_iff.1 hd2).1
   rw [(hg x).1 j hd2, Nat.zero_add]
   cases q with
   | val w =>
    simp only at hq
    have := I.at_ j (by omega) (hL j (by omega))
    unfold sqAt at this
    rw [hvq] at this
    simp only at this
    rw [this, hq]
   | mem Φ => simp only [Nat.zero_add] at hq; rw [hq]
  ·
   obtain ⟨h1, h2⟩ := look_minus _ _ _ _ hl
   rw [(hg x).2.1 h1]
   exact ha.slots x v h2
end
theorem Mem.freezeRw {W0 : Cx} {U : View} {W : World} {r : Rw} {xs : List Value} {z m : Nat} {σ1 : Blks} {e : TypeId} (hM : Mem W0 U (σ1 ++ r.B e xs) W) (hok : r.ok z m xs) : ∃ a c V, View.le U V ∧ RowAt V a xs ∧ r.V m = .slice a m c ∧ Mem W0 V σ1 W := by
 obtain ⟨h1, h2⟩ := mem_fz hM
 obtain ⟨a, c, hv⟩ := Rw.form hok
 refine ⟨a, c, U.or (r.W xs), View.le_or _ _, ⟨fun hne => ?_⟩, hv, h1⟩
 cases r with
 | nil => exact absurd hok.2 hne
 | row b cap junk =>
  simp only [Rw.V, Value.slice.injEq, true_and] at hv
  exact ⟨b, hv.1.symm, h2 b cap junk rfl⟩
class RecOk {α : Type} (R : View → α → List Value → Prop) (z : outParam Nat) : Prop where
 le : ∀ {U V : View} {x : α} {cs : List Value}, View.le U V → R U x cs → R V x cs
 len : ∀ {U : View} {x : α} {cs : List Value}, R U x cs → cs.length = z
 one : ∀ {U : View} {x : α} {cs : List Value}, R U x cs → ∀ u ∈ cs, u.oneCell' = true
theorem View.range1 {U : View} {b f i : Nat} {v : Value} (h : U.range b (f + i * 1) [v]) : U ⟨b, f + i, none⟩ = some v := by
 have := h 0 v rfl
 rwa [Nat.mul_one, Nat.add_zero] at this
structure LsAt {α : Type} (R : View → α → List Value → Prop) (z : Nat) (U : View) (a : Option Addr) (l : List α) : Prop where
 at_ : ∀ i x, l[i]? = some x → ∃ b f cs, a = some ⟨b, f, none⟩ ∧ U.range b (f + i * z) cs ∧ R U x cs
 len : l.length ≤ R47
def AllR {α : Type} (R : View → α → List Value → Prop) (V : View) : List (α × List Value) → Prop
 | [] => True
 | p :: r => R V p.1 p.2 ∧ AllR R V r
section
variable {α : Type} {R : View → α → List Value → Prop} {z : Nat}
theorem LsAt.nil {U : View} {a : Option Addr} : LsAt R z U a [] := ⟨fun i x hx => by simp at hx, by unfold R47; simp⟩
theorem AllR.app {V : View} : ∀ {L M : List (α × List Value)}, AllR R V L → AllR R V M → AllR R V (L ++ M)
 | [], _, _, h => h
 | _ :: _, _, ⟨h1, h2⟩, h => ⟨h1, AllR.app h2 h⟩
theorem AllR.snoc {V : View} {L : List (α × List Value)} {x : α} {cs : List Value} (h : AllR R V L) (hx : R V x cs) : AllR R V (L ++ [(x, cs)]) := h.app ⟨hx, trivial⟩
end
section
variable {α : Type} {R : View → α → List Value → Prop} {z : Nat} [hR : RecOk R z]
include hR
theorem LsAt.le {U V : View} (h : View.le U V) {a : Option Addr} {l : List α} (hl : LsAt R z U a l) : LsAt R z V a l :=
 ⟨fun i x hx => by obtain ⟨b, f, cs, e, hr, ht⟩ := hl.at_ i x hx; exact ⟨b, f, cs, e, View.range_le h hr, hR.le h ht⟩, hl.len⟩
theorem AllR.le {U V : View} (h : View.le U V) : ∀ {L : List (α × List Value)}, AllR R U L → AllR R V L
 | [], _ => trivial
 | _ :: _, ⟨h1, h2⟩ => ⟨hR.le h h1, AllR.le h h2⟩
theorem AllR.flat_len {V : View} : ∀ {L : List (α × List Value)}, AllR R V L → (L.flatMap Prod.snd).length = L.length * z
 | [], _ => by simp
 | p :: r, ⟨h1, h2⟩ => by rw [List.flatMap_cons, List.length_append, AllR.flat_len h2, hR.len h1, List.length_cons, Nat.add_mul]; omega
theorem AllR.one {V : View} : ∀ {L : List (α × List Value)}, AllR R V L → ∀ u ∈ L.flatMap Prod.snd, u.oneCell' = true
 | [], _, u, hu => by simp at hu
 | p :: r, ⟨h1, h2⟩, u, hu => by
  rw [List.flatMap_cons, List.mem_append] at hu
  rcases hu with hu | hu
  · exact hR.one h1 u hu
  · exact AllR.one h2 u hu
theorem AllR.get {V : View} : ∀ {L : List (α × List Value)}, AllR R V L → ∀ {b f : Nat}, V.range b f (L.flatMap Prod.snd) → ∀ i x, (L.map Prod.fst)[i]? = some x → ∃ cs, V.range b (f + i * z) cs ∧ R V x cs
 | [], _, b, f, _, i, x, h => by simp at h
 | p :: r, ⟨h1, h2⟩, b, f, hr, i, x, h => by
  rw [List.flatMap_cons] at hr
  obtain ⟨r1, r2⟩ := range_append hr
  cases i with
  | zero =>
   simp only [List.map_cons, List.getElem?_cons_zero, Option.some.injEq] at h
   subst h
   exact ⟨p.2, by simpa using r1, h1⟩
  | succ i =>
   simp only [List.map_cons, List.getElem?_cons_succ] at h
   obtain ⟨cs, c1, c2⟩ := AllR.get h2 r2 i x h
   refine ⟨cs, ?_, c2⟩
   rw [hR.len h1] at c1
   rw [show f + (i + 1) * z = f + z + i * z by rw [Nat.add_mul]; omega]
   exact c1
theorem LsAt.lit {V : View} {b f : Nat} (L : List (α × List Value)) (hr : V.range b f (L.flatMap Prod.snd)) (ht : AllR R V L) (hl : (L.map Prod.fst).length ≤ R47) : LsAt R z V (some ⟨b, f, none⟩) (L.map Prod.fst) :=
 ⟨fun i x hx => by obtain ⟨cs, h1, h2⟩ := ht.get hr i x hx; exact ⟨b, f, cs, rfl, h1, h2⟩, hl⟩
theorem LsAt.ofRow (hz : 0 < z) {V : View} {a : Option Addr} {xs : List Value} (L : List (α × List Value)) (hr : RowAt V a xs) (hxs : xs = L.flatMap Prod.snd) (h : AllR R V L) (l : List α) (hl : L.map Prod.fst = l) (hlen : l.length ≤ R47) : LsAt R z V a l := by
 subst hxs hl
 refine ⟨fun i x hx => ?_, hlen⟩
 have hne : L.flatMap Prod.snd ≠ [] := by
  intro he
  have := h.flat_len
  rw [he] at this
  cases L with
  | nil => simp at hx
  | cons p r =>
   rw [List.length_cons, Nat.add_mul, List.length_nil] at this
   omega
 obtain ⟨b, rfl, hB⟩ := hr.at_ hne
 obtain ⟨cs, h1, h2⟩ := h.get hB i x hx
 exact ⟨b, 0, cs, rfl, h1, h2⟩
theorem LsAt.open {U : View} {a : Option Addr} {l : List α} (h : LsAt R z U a l) (hne : l ≠ []) : ∃ (b f : Nat) (L : List (α × List Value)), a = some ⟨b, f, none⟩ ∧ L.map Prod.fst = l ∧ AllR R U L ∧ U.range b f (L.flatMap Prod.snd) := by
 obtain ⟨b, f, cs0, ha, _, _⟩ := h.at_ 0 (l[0]'(by cases l <;> simp_all)) (List.getElem?_eq_getElem _)
 refine ⟨b, f, ?_⟩
 subst ha
 have key : ∀ (l : List α) (f' : Nat), (∀ i x, l[i]? = some x → ∃ cs, U.range b (f' + i * z) cs ∧ R U x cs) → ∃ L : List (α × List Value), L.map Prod.fst = l ∧ AllR R U L ∧ U.range b f' (L.flatMap Prod.snd) := by
  intro l
  induction l with
  | nil => intro f' _; exact ⟨[], rfl, trivial, fun j v hj => by simp at hj⟩
  | cons t l ih =>
   intro f' hl
   obtain ⟨cs, h1, h2⟩ := hl 0 t rfl
   rw [Nat.zero_mul, Nat.add_zero] at h1
   obtain ⟨L, k1, k2, k3⟩ := ih (f' + z) fun i x hx => by
    obtain ⟨cs, q1, q2⟩ := hl (i + 1) x (by simpa using hx)
    exact ⟨cs, by rw [show f' + z + i * z = f' + (i + 1) * z by rw [Nat.add_mul]; omega]; exact q1, q2⟩
   refine ⟨(t, cs) :: L, by simp [k1], ⟨h2, k2⟩, fun j v hj => ?_⟩
   change (cs ++ L.flatMap Prod.snd)[j]? = some v at hj
   by_cases hj5 : j < cs.length
   ·
    rw [List.getElem?_append_left hj5] at hj
    exact h1 j v hj
   ·
    rw [List.getElem?_append_right (by omega)] at hj
    have := k3 (j - cs.length) v hj
    have h5 := hR.len h2
    rw [show f' + j = f' + z + (j - cs.length) by omega]
    exact this
 obtain ⟨L, k1, k2, k3⟩ := key l f fun i x hx => by
  obtain ⟨b', f', cs, he, q1, q2⟩ := h.at_ i x hx
  simp only [Option.some.injEq, Addr.mk.injEq, and_true] at he
  obtain ⟨rfl, rfl⟩ := he
  exact ⟨cs, q1, q2⟩
 exact ⟨L, rfl, k1, k2, k3⟩
structure RwR (R : View → α → List Value → Prop) (z : Nat) (V : View) (r : Rw) (xs : List Value) (m : Nat) (L : List (α × List Value)) : Prop where
 ok : r.ok z m xs
 xs : xs = L.flatMap Prod.snd
 m : m = L.length
 all : AllR R V L
theorem RwR.le {U V : View} (h : View.le U V) {r : Rw} {xs : List Value} {m : Nat} {L : List (α × List Value)} (hr : RwR R z U r xs m L) : RwR R z V r xs m L := ⟨hr.ok, hr.xs, hr.m, hr.all.le h⟩
theorem RwR.done (hz : 0 < z) {V V' : View} {r : Rw} {xs : List Value} {m : Nat} {L : List (α × List Value)} (hr : RwR R z V r xs m L) {a : Option Addr} (hA : RowAt V' a xs) (hl : View.le V V') (h47 : m ≤ R47) : LsAt R z V' a (L.map Prod.fst) :=
 LsAt.ofRow hz L hA hr.xs (hr.all.le hl) _ rfl (by rw [List.length_map, ← hr.m]; exact h47)
end
theorem RwR.snoc {α : Type} {R : View → α → List Value → Prop} {z : Nat} {V : View} {r r' : Rw} {xs cs : List Value} {m : Nat} {L : List (α × List Value)} {x : α} (hr : RwR R z V r xs m L) (hx : R V x cs) (hok : r'.ok z (m + 1) (xs ++ cs)) : RwR R z V r' (xs ++ cs) (m + 1) (L ++ [(x, cs)]) :=
 ⟨hok, by rw [hr.xs, List.flatMap_append]; simp, by rw [hr.m]; simp, hr.all.snoc hx⟩
theorem RwR.nil {α : Type} {R : View → α → List Value → Prop} {z : Nat} {V : View} : RwR R z V Rw.nil [] 0 [] := ⟨Rw.ok_nil z, rfl, rfl, trivial⟩
instance tvR : RecOk TV 5 := ⟨fun h ht => ht.le h, fun h => h.len5, fun h => h.one⟩
theorem LsAt.ts {U : View} {a : Option Addr} {l : List Itm.Tr} (h : LsAt TV 5 U a l) : TsAt U a l := ⟨h.at_, h.len⟩
section
variable {P : Program} {n : Nat} {W0 : Cx} {Q : XQ} {s : Slots} {U : View} {σ : Blks} {ops : Array Oper} {l : List Oper} {o : Oper}
theorem sx_fzM (r : Rw) (xs : List Value) (z m : Nat) (σ1 : Blks) (e : TypeId) (hσ : σ = σ1 ++ r.B e xs) (hok : r.ok z m xs)
  (h : ∀ a c V, View.le U V → RowAt V a xs → r.V m = .slice a m c → SXL P n W0 Q ops l s V σ1) : SXL P n W0 Q ops l s U σ := by
 subst hσ
 refine ⟨fun A W ha hM => ?_⟩
 obtain ⟨a, c, V, hl, hA, hv, hM'⟩ := hM.freezeRw hok
 exact (h a c V hl hA hv).go A W ha hM'
end
section
variable {P : Program} {n : Nat} {W0 : Cx} {Q : XQ} {s : Slots} {U : View} {σ : Blks} {ops : Array Oper} {l : List Oper} {o : Oper}
theorem sx_sR (k b off m z : Nat) (r : Rw) (xs : List Value) (hok : r.ok z m xs) (cs : List Value) (t ty : TypeId) (x y : Operand) (ho : o.op = .store ty x y) (hx : evS s x = some (.pointer (some ⟨b, off, none⟩))) (hy : evS s y = some (r.V m))
  (hk : σ[k]? = some (b, .cells cs.toArray t (0, 0))) (hs : ∀ a c, storeOk P ty (.slice a m c) 1 = true) (hl : Nat.ble (off + 1) cs.length = true) (hd : o.dst = none) (hw : wantS ops s o = some true)
  (h : SXL P n W0 Q ops l s U (σ.set k (b, .cells (stCells cs off [r.V m]).toArray t (0, 0)))) : SXL P n W0 Q ops (o :: l) s U σ := by
 obtain ⟨a, c, hv⟩ := Rw.form hok
 rw [hv] at hy h
 refine sx_st k b off 1 cs t ty _ x y ho hx hy hk (hs a c) hl (by unfold dstOk; rw [hd]) hw ?_
 unfold putS
 rw [hd]
 exact h
end
theorem RwR.arr {V V' : View} {r : Rw} {xs : List Value} {m : Nat} {L : List (Itm.Tr × List Value)} {a : Option Addr} (c : Nat) (hr : RwR TV 5 V r xs m L) (hA : RowAt V' a xs) (hl : View.le V V') (hm : m ≤ R47) (o : Bool) : TV V' (.mk 4 0 [] (L.map Prod.fst) o) [.int .i64 4, .int .u64 0, .string (B []), .slice a m c, .bool o] := by
 have hT := (hr.done (by decide) hA hl hm).ts
 rw [show m = (L.map Prod.fst).length by rw [List.length_map]; exact hr.m]
 exact TV.of (t := .mk 4 0 [] (L.map Prod.fst) o) hT (show (0 : Nat) < _ by decide) (show (0 : Nat) ≤ _ by decide)
theorem retM_one {W0 : Cx} {U V : View} {σ σF : Blks} {Φ : Value → View → Blks → Prop} {v : Value} {W' : World} (l1 l2 : Blks) (x : Nat × Obj) (hM : Mem W0 V σ W') (e : σ = (l1 ++ x :: l2) ++ σF) (hl : View.le U V) (h : Φ v V [x]) : RetM W0 U σF Φ (.returned v) W' := by
 subst e
 refine ⟨v, V, [x], rfl, hl, hM.sub (List.Sublist.append ?_ (List.Sublist.refl σF)), h⟩
 have h2 : [x].Sublist (x :: l2) := List.Sublist.cons_cons x (List.nil_sublist l2)
 exact h2.trans (List.sublist_append_right l1 (x :: l2))
end Go.Proofs.YtcdjakemdlinhaaGreatDoor.Sx
namespace Go.Proofs.YtcdjakemdlinhaaGreatDoor
open Go.ChangeShapes Go.WideShapes Go.ChangeAt Go.RowKit Go.Deep
def dstsOk2 (ops : Array Oper) (ds : List Tmp) : Bool := (List.range ds.length).all fun i => decide ((ops[i]?).bind (·.dst) = ds[i]?) || decide ((ops[i]?).bind (·.dst) = none)
section
variable {P : Program} {ops : Array Oper} {Q : Exit → Act → World → Prop} {md : Region.Mode}
theorem wpAny_inv2 (m : Nat) {fuel r : Nat} (ds : List Tmp) (Inv : (Nat → Bool) → (Nat → Value) → World → Prop) {a0 : Act} {w0 : World}
  (hlen : ds.length = m) (hds : dstsOk2 ops ds = true) (hnd : nodupB ds = true) (hms : decide (m ≤ ops.size) = true) (hedge : edgesOk md ops m = true) (htail : tailOk md ops m r = true)
  (hS : ∀ u, Inv (fun _ => false) u w0)
  (steps : ∀ i, i < m → ∀ (L : Nat → Bool) (u : Nat → Value) (w : World), Inv L u w → L i = false → (∀ j, waitsOn md ops i j = true → L j = true ∧ j < m) → (∀ k j, L k = true → waitsOn md ops k j = true → L j = true) →
   ∀ K : Act → World → Prop, (∀ v w', Inv (fun j => if j = i then true else L j) (fun j => if j = i then (if ((ops[i]?).bind (·.dst)).isSome then v else u i) else u j) w' → K ((fillL ds 0 u a0).put ((ops[i]?).bind (·.dst)) v) w') → wpOp P ops Q i K (fillL ds 0 u a0) w)
  (fin : ∀ L u w, Inv L u w → (∀ i, i < m → L i = true) → wpAny P md ops Q fuel (firstM m ops.size) (fillL ds 0 u a0) w) :
  wpAny P md ops Q (m + fuel) (Array.replicate ops.size false) a0 w0 := by
 have hms' : m ≤ ops.size := by simpa using hms
 have main : ∀ (rem : List Nat) (listed : Array Bool) (L : Nat → Bool) (u : Nat → Value) (w : World), rem.Nodup → (∀ i, i ∈ rem ↔ i < m ∧ listed.getD i false = false) → listed.size = ops.size → (∀ i, m ≤ i → listed.getD i false = false) → (∀ i, listed.getD i false = true → ∀ j, waitsOn md ops i j = true → listed.getD j false = true) →
   (∀ i, listed.getD i false = L i) → Inv L u w → wpAny P md ops Q (rem.length + fuel) listed (fillL ds 0 u a0) w := by
  intro rem
  generalize hk : rem.length = k
  induction k generalizing rem with
  | zero =>
   intro listed L u w hn hrem hsz hge hcl hL hI
   obtain rfl := List.length_eq_zero_iff.1 hk
   have hall : ∀ i, i < m → listed.getD i false = true := fun i hi => by
    cases h : listed.getD i false with
    | true => rfl
    | false => have := (hrem i).2 ⟨hi, h⟩; cases this
   have hl : listed = firstM m ops.size := by
    apply Array.ext
    · simp [firstM, hsz]
    ·
     intro i h1 h2
     have e : listed.getD i false = listed[i] := by simp [Array.getD, h1]
     simp only [firstM, List.getElem_toArray, List.getElem_map, List.getElem_range]
     rw [← e]
     by_cases hi : i < m
     · rw [hall i hi, decide_eq_true hi]
     · rw [hge i (by omega), decide_eq_false hi]
   have hall' : ∀ i, i < m → listed.getD i false = true := hall
   have hl0 : ∀ i, listed.getD i false = listed.getD i false := fun _ => rfl
   rw [hl, Nat.zero_add]
   exact fin L u w hI fun i hi => by rw [← hL i, ← hl0 i]; exact hall' i hi
  | succ k ih =>
   intro listed L u w hn hrem hsz hge hcl hL hI
   have hne : rem ≠ [] := by intro h; rw [h] at hk; cases hk
   have hgd : ∀ i, i < ops.size → listed.getD i true = listed.getD i false := fun i hi => by simp [Array.getD, hsz, hi]
   have hready : ∀ i ∈ Region.ready md ops listed, i < m ∧ i ∈ rem ∧ ∀ j, waitsOn md ops i j = true → listed.getD j false = true := by
    intro i hi
    obtain ⟨h1, o, ho, hed⟩ := mem_ready.1 hi
    have his : i < ops.size := (Array.getElem?_eq_some_iff.1 ho).1
    have hwt : ∀ j, waitsOn md ops i j = true → listed.getD j false = true := by
     intro j hj
     simp only [waitsOn, ho, Option.map_some, Option.getD_some, List.any_eq_true, Bool.and_eq_true, beq_iff_eq] at hj
     obtain ⟨e, he, hb, hon⟩ := hj
     have := hed e (by simpa using he) hb
     rw [hon] at this
     exact this
    have him : i < m := by
     by_cases h : i < m
     · exact h
     ·
      exfalso
      unfold tailOk at htail
      rw [List.all_eq_true] at htail
      have h2 := htail i (List.mem_range.2 his)
      rw [decide_eq_false h, Bool.false_or, List.all_eq_true] at h2
      obtain ⟨j, hj⟩ := List.exists_mem_of_ne_nil rem hne
      have h3 := (hrem j).1 hj
      have h4 := h2 j (List.mem_range.2 h3.1)
      rw [List.contains_eq_mem, decide_eq_true_eq] at h4
      have := downs_closed (p := fun k => listed.getD k false = true) hcl r _ (fun k hk => hwt k (by
       rw [List.mem_filter] at hk
       exact hk.2)) j h4
      simp only [h3.2] at this
      cases this
    exact ⟨him, (hrem i).2 ⟨him, by rw [← hgd i his]; exact h1⟩, hwt⟩
   rw [show k + 1 + fuel = k + fuel + 1 by omega]
   refine ⟨fun hnil => ?_, fun i hi => ?_⟩
   ·
    exfalso
    obtain ⟨i, hi, hmin⟩ := exists_least (List.exists_mem_of_ne_nil rem hne)
    have him := (hrem i).1 hi
    have : i ∈ Region.ready md ops listed := by
     refine mem_ready.2 ⟨by rw [hgd i (by omega)]; exact him.2, ops[i]'(by omega), Array.getElem?_eq_getElem (by omega), fun e he hb => ?_⟩
     unfold edgesOk at hedge
     rw [List.all_eq_true] at hedge
     have h2 := hedge i (List.mem_range.2 him.1)
     rw [Array.getElem?_eq_getElem (show i < ops.size by omega)] at h2
     simp only [Option.map_some, Option.getD_some, List.all_eq_true, Bool.or_eq_true, Bool.not_eq_true', decide_eq_true_eq] at h2
     have h3 := h2 e (by simpa using he)
     have h4 : e.on < i := by
      rcases h3 with h3 | h3
      · rw [hb] at h3; cases h3
      · exact h3
     cases h5 : listed.getD e.on false with
     | true => rfl
     | false => exact absurd ((hrem e.on).2 ⟨by omega, h5⟩) (hmin e.on h4)
    rw [hnil] at this
    cases this
   ·
    obtain ⟨him, hir, hwt⟩ := hready i hi
    refine steps i him L u w hI (by rw [← hL]; exact ((hrem i).1 hir).2) (fun j hj => ⟨by rw [← hL]; exact hwt j hj, ?_⟩) (fun k j hk hj => by rw [← hL]; exact hcl k (by rw [hL]; exact hk) j hj) _ fun v w' hI' => ?_
    ·
     have hl := hwt j hj
     by_cases h : j < m
     · exact h
     · rw [hge j (by omega)] at hl; cases hl
    ·
     have hd : (ops[i]?).bind (·.dst) = ds[i]? ∨ (ops[i]?).bind (·.dst) = none := by
      unfold dstsOk2 at hds
      rw [List.all_eq_true] at hds
      simpa using hds i (List.mem_range.2 (by omega))
     have hdi : ds[i]? = some (ds[i]'(by omega)) := List.getElem?_eq_getElem (by omega)
     have hfill : (fillL ds 0 u a0).put ((ops[i]?).bind (·.dst)) v = fillL ds 0 (fun j => if j = i then (if ((ops[i]?).bind (·.dst)).isSome then v else u i) else u j) a0 := by
      rcases hd with hd | hd
      ·
       rw [hd, hdi, fillL_set ds 0 u a0 i _ v (nodup_of hnd) hdi, Nat.zero_add]
       rfl
      ·
       rw [hd]
       have he : (fun j => if j = i then (if (Option.isSome (none : Option Tmp)) then v else u i) else u j) = u := by
        funext j
        split
        · next e => rw [e]; rfl
        · rfl
       rw [he]
       rfl
     rw [hfill]
     have hset : ∀ j, (listed.setIfInBounds i true).getD j false = if j = i then true else listed.getD j false := by
      intro j
      simp only [Array.getD_eq_getD_getElem?, Array.getElem?_setIfInBounds]
      by_cases hj : j = i
      ·
       subst hj
       have hjs : j < listed.size := by omega
       simp [hjs]
      · rw [if_neg (fun h => hj h.symm), if_neg hj]
     refine ih (rem.erase i) (by rw [List.length_erase_of_mem hir, hk]; rfl) _ _ _ w' (hn.erase i) (fun j => ?_) (by simp [hsz]) (fun j hj => ?_) (fun k hk j hj => ?_) (fun j => by rw [hset j, hL j]) hI'
     ·
      rw [hn.mem_erase_iff, hrem j, hset j]
      by_cases hj : j = i
      · subst hj; simp
      · simp [hj]
     ·
      rw [hset j, if_neg (by omega)]
      exact hge j hj
     ·
      rw [hset j]
      by_cases hji : j = i
      · rw [if_pos hji]
      ·
       rw [if_neg hji]
       by_cases hki : k = i
       · subst hki; exact hwt j hj
       ·
        rw [hset k, if_neg hki] at hk
        exact hcl k hk j hj
 have hrp : ∀ i, (Array.replicate ops.size false).getD i false = false := fun i => by
  simp only [Array.getD_eq_getD_getElem?, Array.getElem?_replicate]
  split <;> rfl
 have h := main (List.range m) (Array.replicate ops.size false) (fun _ => false) (fun j => a0.tmps.getD (ds.getD j 0) undef) w0 List.nodup_range (fun i => by
   rw [List.mem_range]
   simp [hrp i]) (by simp) (fun i _ => hrp i) (fun i h => by rw [hrp i] at h; cases h) hrp (hS _)
 rw [fillL_self ds 0 _ a0 (fun j hj => by rw [Nat.zero_add]), List.length_range] at h
 exact h
theorem wp_region_inv2 {id : Nat} (m fuel r : Nat) (ds : List Tmp) (Inv : (Nat → Bool) → (Nat → Value) → World → Prop) {a0 : Act} {w : World}
  (hm : P.follows .mixedOrders = true) (hsz : ops.size = m + fuel)
  (hlen : ds.length = m) (hds : dstsOk2 ops ds = true) (hnd : nodupB ds = true) (hedge : edgesOk .any ops m = true) (htail : tailOk .any ops m r = true)
  (hS : ∀ u, Inv (fun _ => false) u w.drew)
  (steps : ∀ i, i < m → ∀ (L : Nat → Bool) (u : Nat → Value) (w : World), Inv L u w → L i = false → (∀ j, waitsOn .any ops i j = true → L j = true ∧ j < m) → (∀ k j, L k = true → waitsOn .any ops k j = true → L j = true) →
   ∀ K : Act → World → Prop, (∀ v w', Inv (fun j => if j = i then true else L j) (fun j => if j = i then (if ((ops[i]?).bind (·.dst)).isSome then v else u i) else u j) w' → K ((fillL ds 0 u a0).put ((ops[i]?).bind (·.dst)) v) w') → wpOp P ops Q i K (fillL ds 0 u a0) w)
  (fin : ∀ L u w, Inv L u w → (∀ i, i < m → L i = true) → wpAny P .any ops Q fuel (firstM m ops.size) (fillL ds 0 u a0) w) : (Code.region id ops true).wp P Q a0 w := by
 refine wp_region_any hm ?_
 have h := wpAny_inv2 (md := .any) m ds Inv (w0 := w.drew) hlen hds hnd (decide_eq_true (by omega)) hedge htail hS steps fin
 rw [← hsz] at h
 exact h
end
end Go.Proofs.YtcdjakemdlinhaaGreatDoor
namespace Go.Proofs.YtcdjakemdlinhaaGreatDoor.Sx
open Go.ChangeShapes Go.WideShapes Go.ChangeAt Go.RowKit Go.Deep
section
variable {P : Program} {n : Nat} {W0 : Cx} {s : Slots} {U : View} {σ0 : Blks}
theorem st_wp {σ : Blks} {o : Oper} {a : Act} {W : World} {K : Act → World → Prop} {Q : Exit → Act → World → Prop} (k b : Nat) (x : Obj) (h : stK P σ k s o = some (b, b, x)) (hd : o.dst = none) (ha : RepA n s a) (hM : Mem W0 U σ W) (hK : ∀ W', Mem W0 U (σ.set k (b, x)) W' → K a W') : o.wp P a W K Q := by
 unfold stK at h
 split at h
 ·
  next ty xo y ho =>
  split at h
  ·
   next pb off v b' c t hx hy hk =>
   split at h
   ·
    next hok =>
    simp only [Option.some.injEq, Prod.mk.injEq] at h
    obtain ⟨rfl, rfl, rfl⟩ := h
    rw [Bool.and_eq_true] at hok
    obtain ⟨hs, hl⟩ := hok
    have hk' : σ[k]? = some (b', .cells c.toList.toArray t (0, 0)) := by simpa using hk
    have hb := (hM.own k b' _ hk').1
    have hl' : off + v.cells.size ≤ c.toList.length := by
     have := Nat.le_of_ble_eq_true hl
     simpa using this
    unfold Oper.wp execOp
    simp only [ho, ev_rep ha hx, ev_rep ha hy, Instr.storeAt, Instr.sureAddr, Sem.run_bind, Sem.run_pure, Result.andThen_ok, storeVar_any (setCells_there hb hl') hs]
    obtain ⟨q1, q2, q3, q4, q5, q6⟩ := setCells_heap b' v.cells.toList off W c.toList t hb (by simpa using hl')
    have := hK _ (hM.set k b' _ _ hk' q4 q5 q6 q3 q1 q2)
    show K (a.put o.dst undef) _
    rw [hd]
    exact this
   · cases h
  · cases h
 · cases h
structure StQ (P : Program) (n : Nat) (W0 : Cx) (U : View) (σ σ2 : Blks) (ops : Array Oper) (ds : List Nat) (vs : List Sq) (s : Slots) (i : Nat) : Prop where
 go : ∃ (o : Oper) (ts : List Nat) (vals : (Nat → Value) → List Value), ops[i]? = some o ∧ o.guard = none ∧ o.dst = none ∧ (∀ u, (ts.map fun x => look (depQ ops ds vs u i ++ minusS s ds) x) = (vals u).map some) ∧
  ∀ (u : Nat → Value) (V : View), View.le U V → (∀ j, waitsOn .any ops i j = true → PhiAt vs j (u j) V) → ∀ (a : Act) (W : World), RepA n (ts.zip (vals u)) a → Mem W0 V σ W → ∀ (K : Act → World → Prop) (Q : Exit → Act → World → Prop), (∀ W', Mem W0 V σ2 W' → K a W') → o.wp P a W K Q
def ObS (P : Program) (n : Nat) (W0 : Cx) (U : View) (σ σ2 : Blks) (ops : Array Oper) (ds : List Nat) (vs : List Sq) (s : Slots) (i k : Nat) : Prop :=
 if k = i then StQ P n W0 U σ σ2 ops ds vs s i else Oq P n W0 U σ ops ds vs s k ∧ Oq P n W0 U σ2 ops ds vs s k
theorem ObS.o {σ σ2 : Blks} {ops : Array Oper} {ds : List Nat} {vs : List Sq} {i : Nat} (k : Nat) (h1 : k ≠ i) (h : Oq P n W0 U σ ops ds vs s k) (h2 : Oq P n W0 U σ2 ops ds vs s k) : ObS P n W0 U σ σ2 ops ds vs s i k := by
 unfold ObS
 rw [if_neg h1]
 exact ⟨h, h2⟩
theorem ObS.st {σ σ2 : Blks} {ops : Array Oper} {ds : List Nat} {vs : List Sq} {i : Nat} {o : Oper} (kb b : Nat) (x : Obj) (hi : ops[i]? = some o) (hg : o.guard = none) (hd : o.dst = none) (ts : List Nat) (vals : (Nat → Value) → List Value) (hsl : ∀ u, (ts.map fun x => look (depQ ops ds vs u i ++ minusS s ds) x) = (vals u).map some)
  (h : ∀ u, stK P σ kb (ts.zip (vals u)) o = some (b, b, x)) (hσ : σ.set kb (b, x) = σ2) : ObS P n W0 U σ σ2 ops ds vs s i i := by
 unfold ObS
 rw [if_pos rfl]
 subst hσ
 exact ⟨⟨o, ts, vals, hi, hg, hd, hsl, fun u V _ _ a W ha hM K Q hK => st_wp kb b x (h u) hd ha hM hK⟩⟩
structure InvS (W0 : Cx) (U : View) (σ σ2 : Blks) (vs : List Sq) (m i : Nat) (L : Nat → Bool) (u : Nat → Value) (w : World) (V : View) : Prop where
 le : View.le U V
 mem : Mem W0 V (if L i then σ2 else σ) w
 at_ : ∀ j, j < m → L j = true → sqAt vs j (u j) V
theorem sx_drawnS {id : Nat} {l : List Oper} {Q : XQ} (m f r : Nat) (ds : List Nat) (vs : List Sq) (i : Nat) (σ2 : Blks) (hm : P.follows .mixedOrders = true) (hsz : l.length = m + f) (hlen : ds.length = m)
  (hds : dstsOk2 l.toArray ds = true) (hnd : nodupB ds = true) (hlt : (ds.all fun d => Nat.blt d n) = true) (hedge : edgesOk .any l.toArray m = true) (htail : tailOk .any l.toArray m r = true) (hchain : chainOk l.toArray m f = true) (hmo : ∀ q ∈ vs, sqMono q)
  (hsome : ((List.range m).all fun k => decide (k = i) || ((l.toArray[k]?).bind (·.dst)).isSome) = true) (hji : i < m) (hvj : vs[i]? = some (.mem fun _ _ => True))
  (obs : Go.Proofs.YtcdjakemdlinhaaGreatDoor.Steps (ObS P n W0 U σ0 σ2 l.toArray ds vs s i) 0 m)
  (ts : List Nat) (vals : (Nat → Value) → List Value) (hsl : ∀ u, (ts.map fun t => look (endQ u 0 ds vs ++ minusS s ds) t) = (vals u).map some)
  (h : ∀ (u : Nat → Value) (V : View), View.le U V → (∀ j, j < m → PhiAt vs j (u j) V) → SXL P n W0 Q l.toArray (l.drop m) (ts.zip (vals u)) V σ2) : SXC P n W0 Q (.region id l.toArray true) s U σ0 := by
 refine ⟨fun a W ha hM => ?_⟩
 have hn := nodup_of hnd
 have hd : ∀ d ∈ ds, d < n := fun d hd => by have := List.all_eq_true.1 hlt d hd; simpa [Nat.blt_eq] using this
 have htr : ∀ (v : Value) (V : View), sqAt vs i v V := fun v V => by unfold sqAt; rw [hvj]; trivial
 refine wp_region_inv2 m f r ds (fun L u w => ∃ V, InvS W0 U σ0 σ2 vs m i L u w V) hm (by simpa using hsz) hlen hds hnd hedge htail ?_ ?_ ?_
 ·
  intro u
  exact ⟨U, ⟨View.le_refl _, hM.drew, fun j _ hj => by simp at hj⟩⟩
 ·
  rintro k hkm L u w ⟨V, I⟩ hLk hwt hcl K hK
  have hob := obs.get k (Nat.zero_le _) (by omega)
  unfold ObS at hob
  split at hob
  ·
   next hki =>
   subst hki
   obtain ⟨o, ts, vals, ho, hgd, hdn, hsl, hgo⟩ := hob.go
   have hr := rep_fillC (a0 := a) (u := u) (V := V) (vs := vs) (ops := l.toArray) k ha hn hd fun j hj => .inl (I.at_ j (hwt j hj).2 (hwt j hj).1)
   unfold wpOp
   simp only [ho, Region.wanted, hgd, if_true]
   left
   have hmem := I.mem
   rw [hLk] at hmem
   refine hgo u V I.le (fun j hj => (I.at_ j (hwt j hj).2 (hwt j hj).1).phi) _ w (rep_zip ts _ hr (hsl u)) hmem _ _ fun W' hM' => ?_
   have := hK undef W' ⟨V, ⟨I.le, by rw [if_pos rfl, if_pos rfl]; exact hM', fun j hj hL => ?_⟩⟩
   ·
    rw [ho] at this
    have e : (some o).bind (·.dst) = none := hdn
    rw [e] at this
    exact this
   ·
    by_cases e : j = k
    ·
     subst e
     exact htr _ _
    ·
     rw [if_neg e] at hL ⊢
     exact I.at_ j hj hL
  ·
   next hki =>
   have hsk : ((l.toArray[k]?).bind (·.dst)).isSome = true := by
    have := List.all_eq_true.1 hsome k (List.mem_range.2 hkm)
    rw [decide_eq_false hki, Bool.false_or] at this
    exact this
   have hOq : Oq P n W0 U (if L i then σ2 else σ0) l.toArray ds vs s k := by
    cases L i
    · exact hob.1
    · exact hob.2
   have hM0 : Mem W0 U (if L i then σ2 else σ0) w := I.mem.weak I.le
   refine (hOq.go a (up n W0 Q) ha hn hd hmo).step u w hM0 (fun j hj => (I.at_ j (hwt j hj).2 (hwt j hj).1).isQ I.mem I.le) K fun v w' hM' hE hv => ?_
   obtain ⟨V', h1, h2, h3⟩ := hv.at hM'
   obtain ⟨q1, q2, q3⟩ := Mem.join (I.mem.call hE) h2
   refine hK v w' ⟨V.or V', ⟨View.le_trans I.le q2, by have hik : (if i = k then true else L i) = L i := if_neg (fun e => hki e.symm); simp only [hik]; exact q1, fun j hj hL => ?_⟩⟩
   by_cases e : j = k
   ·
    subst e
    rw [if_pos rfl, if_pos hsk]
    exact h3.le hmo q3
   ·
    rw [if_neg e] at hL ⊢
    exact (I.at_ j hj hL).le hmo q2
 ·
  rintro L u W' ⟨V, I⟩ hL
  refine wpAny_tail f m _ W' (by simpa using hsz.symm) hchain ?_
  have hg := fun t => fillL_get ds 0 u a t hn (by rw [ha.size]; exact hd)
  have hph : ∀ j, j < m → PhiAt vs j (u j) V := fun j hj => (I.at_ j hj (hL j hj)).phi
  have hmem := I.mem
  rw [hL i hji, if_pos rfl] at hmem
  refine (h u V I.le hph).go _ W' (rep_zip ts _ (s' := endQ u 0 ds vs ++ minusS s ds) ⟨by rw [(hg 0).2.2.1, ha.size], by rw [(hg 0).2.2.2, ha.defers], fun x v hl => ?_⟩ (hsl u)) hmem
  rcases look_append _ _ _ _ hl with hl | ⟨_, hl⟩
  ·
   have hmem := look_mem _ _ _ hl
   obtain ⟨j, q, hd2, hvq, hq⟩ := endQ_mem u 0 _ _ _ _ hmem
   have hjl : j < ds.length := (List.getElem?_eq_some_iff.1 hd2).1
   rw [(hg x).1 j hd2, Nat.zero_add]
   cases q with
   | val w =>
    simp only at hq
    have := I.at_ j (by omega) (hL j (by omega))
    unfold sqAt at this
    rw [hvq] at this
    simp only at this
    rw [this, hq]
   | mem Φ => simp only [Nat.zero_add] at hq; rw [hq]
  ·
   obtain ⟨h1, h2⟩ := look_minus _ _ _ _ hl
   rw [(hg x).2.1 h1]
   exact ha.slots x v h2
end
end Go.Proofs.YtcdjakemdlinhaaGreatDoor.Sx
