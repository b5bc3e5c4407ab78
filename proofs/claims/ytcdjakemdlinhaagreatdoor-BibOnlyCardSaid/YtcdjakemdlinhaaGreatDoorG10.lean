/-
  Several texts in one: Sx23 Mix4 Sx22 Sx24 Mix5 Mix6 Sx25 Sx26 Sx27 Sx28 Sx29 NumsS Enf Bli1 Egn1 Mix7 Mix8.
  Conditions: named at each.
-/
import Derived.Test.YtcdjakemdlinhaaGreatDoorG09
import Derived.WalkLawsBesides
import Derived.Lib.Hide
import Derived.Deep.AppendLies
import Derived.OwnWalk
import Derived.Laws.OwnMore
import Derived.BigRegion
set_option maxHeartbeats 16000000
set_option linter.unusedSimpArgs false
set_option linter.unusedVariables false
set_option linter.unusedSectionVars false
namespace Go.Proofs.YtcdjakemdlinhaaGreatDoor.Sx
open Go.ChangeShapes Go.WideShapes Go.ChangeAt Go.RowKit Go.Deep
def aBT (W : World) : View := fun a => W.cell? a
theorem Mem.all (W : World) : Mem ⟨W, aBT W⟩ (aBT W) ([] ++ []) W := ⟨Below.refl _ _, fun _ _ h _ => h, fun _ _ h => h, fun k b o h => by simp at h, fun j k x y h => by simp at h⟩
theorem Mem.nest {W0 : Cx} {W W' : World} {U V : View} {σ σ' : aF} (hM : Mem W0 U σ W) (h : Mem ⟨W, aBT W⟩ V (σ' ++ []) W') : Mem W0 U (σ' ++ σ) W' := by
 rw [List.append_nil] at h
 have hb : Below W.heap.size W W' := h.below
 have hc := hM.call hb
 have hlt : ∀ (k : Nat) (x : Nat × Obj), σ[k]? = some x → x.1 < W.heap.size := fun k x hk => fU (hM.own k x.1 x.2 hk).1
 have hge : ∀ (k : Nat) (x : Nat × Obj), σ'[k]? = some x → W.heap.size ≤ x.1 := fun k x hk => (h.own k x.1 x.2 hk).2.1
 have hsz := hM.below.size
 have hU : ∀ a : Addr, W.heap.size ≤ a.block → U a = none := by
  intro a ha
  cases hu : U a with
  | none => rfl
  | some v => have := oT (hM.view a v hu); omega
 have key : ∀ (i : Nat) (z : Nat × Obj), (σ' ++ σ)[i]? = some z → (i < σ'.length ∧ σ'[i]? = some z) ∨ (σ'.length ≤ i ∧ σ[i - σ'.length]? = some z) := by
  intro i z hi
  rw [List.getElem?_append] at hi
  split at hi
  · next hl => exact .inl ⟨hl, hi⟩
  · next hg => exact .inr ⟨by omega, hi⟩
 refine ⟨hc.below, hc.old, hc.view, fun k b x hk => ?_, fun j k x y hj hk e => ?_⟩
 ·
  rcases key k _ hk with ⟨_, hk2⟩ | ⟨_, hk2⟩
  ·
   obtain ⟨q1, q2, q3⟩ := h.own k b x hk2
   have q2' : W.heap.size ≤ b := q2
   exact ⟨q1, by omega, fun a ha => hU a oW⟩
  · exact hc.own _ b x hk2
 ·
  rcases key j x hj with ⟨_, hj2⟩ | ⟨hj1, hj2⟩ <;> rcases key k y hk with ⟨_, hk2⟩ | ⟨hk1, hk2⟩
  · exact h.apart j k x y hj2 hk2 e
  ·
   have := hge j x hj2
   have := hlt _ y hk2
   omega
  ·
   have := hge k y hk2
   have := hlt _ x hj2
   omega
  ·
   have := hM.apart _ _ x y hj2 hk2 e
   omega
section
variable {P : Program} {n : Nat} {W0 : Cx} {Q : XQ} {s : cB} {U : View} {σ : aF} {ops : Array Oper} {l : List Oper} {o : Oper}
theorem oH (f : FuncId) (args : Array Value) (Φ : Value → aF → Prop) (he : enters P s o = some (f, args)) (hc : ∀ W, Mem W0 U σ W → Calls P f args W (fN ⟨W, aBT W⟩ (aBT W) [] fun v _ σ' => Φ v σ')) (hd : eL n o = true) (hw : cZ ops s o = some true)
  (h : ∀ v σ', Φ v σ' → SXL P n W0 Q ops l (jX o v s) U (σ ++ σ')) : SXL P n W0 Q ops (o :: l) s U σ :=
 sA f args he hd hw fun W hM => (hc W hM).mono fun _ W' ⟨v, V, σ', he, hl, hM', hΦ⟩ => ⟨v, _, U, σ ++ σ', he, (hM.nest hM').perm List.perm_append_comm, rfl, h v σ' hΦ⟩
theorem pQ (t e : TypeId) (z : Nat) (x y : Operand) (ho : o.op = .call { callee := .builtin .append, args := #[x, y], argTypes := #[t, t] }) (a a2 : Option Addr) (m c c2 : Nat) (hx : evS s x = some (.slice a m c)) (hy : evS s y = some (.slice a2 0 c2)) (hc : m ≤ c) (hu : P.underlying t = some (.slice e)) (hs : (P.info? e).map (·.size) = some z) (W : World) :
  (execOp (ev s) o).run P W = .ok (.value (.slice a m c)) W := by
 have hz := sC hs W
 unfold execOp
 simp only [ho, resolve, invoke, builtin, Sem.run_bind, Sem.run_pure, Result.andThen_ok, List.map_toArray, List.map_cons, List.map_nil, eF hx, eF hy, Builtin.append_]
 cases a <;> cases a2 <;> simp [run_underlying hu W, hz, Builtin.lenOf, Builtin.firstCells, storeCells, hc, loadCells, loadCellsFrom]
end
theorem Mem.rowOps {W0 : Cx} {U V' : View} {W : World} {r : Rw} {xs : List Value} {m : Nat} {L : List (Op × List Value)} {σ1 : aF} {e : TypeId} (hM : Mem W0 U (σ1 ++ r.B e xs) W) (hr : RwR OpR 3 V' r xs m L) (h47 : m ≤ R47) : ∃ a c, r.V m = .slice a m c ∧ m ≤ c ∧ iM OpR 3 (aBT W) a (L.map Prod.fst) := by
 obtain ⟨a, c, V, hl, hA, hv, hc, hM'⟩ := hM.freezeRwC hr.ok
 exact ⟨a, c, hv, hc, (hr.opAny (V' := View.no)).done (by decide) (qB.le hM'.view hA) (View.no_le _) h47⟩
theorem Rw.openR {r : Rw} {z m : Nat} {xs : List Value} (h : r.ok z m xs) (hm : 0 < m) : ∃ b c junk, r = .row b c junk := by
 cases r with
 | nil => obtain ⟨rfl, _⟩ := h; omega
 | row b c junk => exact ⟨b, c, junk, rfl⟩
theorem Mem.rowRange {W0 : Cx} {U : View} {W : World} {σ1 ρ : aF} {b c : Nat} {junk xs : List Value} {e : TypeId} (hM : Mem W0 U ((σ1 ++ (Rw.row b c junk).B e xs) ++ ρ) W) : W.rangeAt b 0 xs := by
 have hM2 : Mem W0 U (σ1 ++ ([(b, .cells (xs ++ junk).toArray e (0, 0))] ++ ρ)) W := by
  have := hM
  rw [List.append_assoc] at this
  exact this
 have hr := cW hM2 (σ1.length + 0) b (xs ++ junk) e (getElem?_mid σ1 [(b, Obj.cells (xs ++ junk).toArray e (0, 0))] ρ 0 _ rfl)
 exact fun j v hj => hr j v (by rw [List.getElem?_append_left (List.getElem?_eq_some_iff.1 hj).1]; exact hj)
theorem RwR.ones {α : Type} {R : View → α → List Value → Prop} {z : Nat} [RecOk R z] {V : View} {r : Rw} {xs : List Value} {m : Nat} {L : List (α × List Value)} (hr : RwR R z V r xs m L) : ∀ u ∈ xs, u.oneCell' = true := by
 rw [hr.xs]
 exact hr.all.one
theorem RwR.cat {α : Type} {R : View → α → List Value → Prop} {z : Nat} {V : View} {r r2 r' : Rw} {xs xs2 : List Value} {m k : Nat} {L L2 : List (α × List Value)} (hr : RwR R z V r xs m L) (hr2 : RwR R z V r2 xs2 k L2) (hok : r'.ok z (m + k) (xs ++ xs2)) : RwR R z V r' (xs ++ xs2) (m + k) (L ++ L2) :=
 ⟨hok, by rw [hr.xs, hr2.xs, List.flatMap_append], by rw [hr.m, hr2.m, List.length_append], hr.all.app hr2.all⟩
theorem oO {typ kind ctx : Int} {out : Bk → Bool} : ∀ {l : List Bk} {q : List Op}, lS typ kind ctx out l = some q → q.length ≤ 16 * l.length
 | [], q, h => by
  rw [lS] at h
  obtain rfl := Option.some.inj h
  exact Nat.zero_le _
 | x :: l, q, h => by
  rw [lS] at h
  rw [List.length_cons]
  split at h
  ·
   have := oO h
   omega
  ·
   split at h
   · cases h
   ·
    next a ha =>
    split at h
    · cases h
    ·
     split at h
     · cases h
     ·
      next r hr =>
      obtain rfl := Option.some.inj h
      have h1 := oO hr
      have h2 := aA4 (oM ha).2.1
      rw [List.length_append, show (opsOf kind x.n a.t).length = a.t.length from List.length_map _]
      omega
theorem aDU {l : List Bk} {se si : List Op} (h1 : lS 12 2 2 (fun _ => false) l = some se) (h2 : lS 11 1 1 (fun x => eK se 2 x.n) l = some si) : aCg l = some (se ++ si) := by
 unfold aCg
 rw [h1]
 simp only
 rw [h2]
theorem aKS {l : List Bk} (h1 : lS 12 2 2 (fun _ => false) l = none) : aCg l = none := by
 unfold aCg
 rw [h1]
theorem aKR {l : List Bk} {se : List Op} (h1 : lS 12 2 2 (fun _ => false) l = some se) (h2 : lS 11 1 1 (fun x => eK se 2 x.n) l = none) : aCg l = none := by
 unfold aCg
 rw [h1]
 simp only
 rw [h2]
theorem aC4 (eA : Addr) (p : Pr) (l : List Bk) (a : Option Addr) (c : Nat) {W0 : Cx} {U : View} {σF : aF} {W : World} (hE : EF U eA) (hl : cX U a l) (hdl : ∀ x ∈ l, x.d.length ≤ 100000) (hsm : l.length ≤ 1000) (hM : Mem W0 U ([] ++ σF) W) : CP 82 #[bnV p a l.length c] W (fN W0 U σF fun v _ σ' => aBU (aCg l) v σ') := by
 have hl16 := fun (typ kind ctx : Int) (out : Bk → Bool) (q : List Op) (h : lS typ kind ctx out l = some q) => oO h
 refine eC 27 Tryz.func82 hM ?_
 refine zs (zr (dN 0 (fun b0 => ?_)))
 refine zq 2 (zn (zB [1] [(b0,20)] ?_))
 rcases Bool.eq_false_or_eq_true ((lS 12 2 2 (fun _ => false) l).isSome) with h0 | h0
 ·
  refine oH 122 #[(bnV p a l.length c),(I6 12),(I6 2),(I6 2),(.func (.func 123) #[] #[])] (fun v σ' => aBU (lS 12 2 2 (fun _ => false) l) v σ') kR (fun W hM => aBg eA p l _ _ (hE.le hM.view) (hl.le hM.view) hdl oW (Mem.all W)) kR kR (fun v1 s1 hP1 => ?_)
  obtain ⟨q1,hq1⟩ := Option.isSome_iff_exists.1 h0
  rw [hq1] at hP1
  obtain ⟨r1,xs1,L1,rfl,rfl,hr1,hL1⟩ := hP1
  have hn1 := oO hq1
  refine zq 3 (dN 1 (fun b2 => ?_))
  refine aL3 1 b2 0 q1.length 3 r1 xs1 hr1.ok [S0] 119 119 _ _ rfl kR kR kR (fun a c => by kernel_rfl) kR rfl kR ?_
  refine zq 1 (zn (zs (zQ 2 (zn (dE (zk (zB [1,0] [(b0,20)] ?_)))))))
  rcases Bool.eq_false_or_eq_true ((lS 11 1 1 (fun x => eK q1 2 x.n) l).isSome) with h1 | h1
  ·
   refine oH 122 #[(bnV p a l.length c),(I6 11),(I6 1),(I6 1),(.func (.func 124) #[] #[(Pt b2 0)])] (fun v σ' => aBU (lS 11 1 1 (fun x => eK q1 2 x.n) l) v σ') kR (fun W hM => (by obtain ⟨a9,c9,hv9,hc9,hL9⟩ := Mem.rowOps (hM.eqv (show _ = (([(bK b0 (eB p a l.length c) 29),(bK b2 [(r1.V q1.length)] 119)] ++ σF) : aF) ++ r1.B 153 xs1 from by kernel_rfl)) hr1 (by unfold R47; omega); have hr9 := cW hM 1 b2 [(r1.V q1.length)] 119 kR 0 _ rfl; rw [hv9] at hr9; rw [hL1] at hL9; exact aBf eA p l _ _ q1 a9 c9 b2 (hE.le hM.view) (hl.le hM.view) hdl oW hL9 hr9 (Mem.all W))) kR kR (fun v3 s3 hP3 => ?_)
   obtain ⟨q3,hq3⟩ := Option.isSome_iff_exists.1 h1
   rw [hq3] at hP3
   obtain ⟨r3,xs3,L3,rfl,rfl,hr3,hL3⟩ := hP3
   have hn3 := oO hq3
   refine zq 5 (zn (zs (zQ 2 (zn (dE (zk (zB [2,0] [(b2,1)] ?_)))))))
   refine rX ([(bK b0 (eB p a l.length c) 29),(bK b2 [(r1.V q1.length)] 119)] ++ σF) (r1.B 153 xs1) (r3.B 153 xs3) kR ?_
   rcases Bool.eq_false_or_eq_true (decide (0 < q3.length)) with h2 | h2
   ·
    have h2d := of_decide_eq_true h2
    obtain ⟨b4,c4,j4,rfl⟩ := Rw.openR hr3.ok (of_decide_eq_true h2)
    refine fV r1 xs1 q1.length ([(bK b0 (eB p a l.length c) 29),(bK b2 [(r1.V q1.length)] 119)] ++ σF ++ (Rw.row b4 c4 j4).B 153 xs3) 153 119 3 24 q3.length kR hr1.ok (.tmp 24) (.tmp 25) rfl kR b4 0 c4 xs3 kR (fun W hM => Mem.rowRange (σ1 := ([(bK b0 (eB p a l.length c) 29),(bK b2 [(r1.V q1.length)] 119)] ++ σF)) (ρ := r1.B 153 xs1) (c := c4) (junk := j4) (e := 153) (hM.eqv kR)) hr3.ok.1 hr3.ones (of_decide_eq_true h2) (by unfold maxLen; omega) oW kR kR kR kR kR (fun r5 hr5 => ?_)
    refine zq 2 (zn (aA (aH [2,3] [(r5.V (q1.length + q3.length)),(I6 0)] (fun W' hM => ?_))))
    rw [aDU hq1 hq3]
    have hM9 := (hM.eqv (show _ = (([(bK b0 (eB p a l.length c) 29),(bK b2 [(r1.V q1.length)] 119)] : aF) ++ σF ++ ((Rw.row b4 c4 j4).B 153 xs3)) ++ (r5.B 153 (xs1 ++ xs3)) from by kernel_rfl))
    have hM8 := hM9.sub (List.Sublist.append (List.sublist_append_left _ _) (List.Sublist.refl _))
    exact oJ hM8 (View.le_refl _) ⟨_,_,_,by show Value.tuple #[r5.V ((q1.length + q3.length)),.int .i64 0] = _; rw [← List.length_append],rfl,by rw [List.length_append]; exact RwR.cat hr1 hr3 hr5,by rw [List.map_append,hL1,hL3]⟩
   ·
    have h2d := of_decide_eq_false h2
    obtain ⟨ya6,yc6,yv6⟩ := Rw.form hr3.ok
    obtain ⟨xa6,xc6,xv6,xh6⟩ := Rw.formC hr1.ok
    refine cH ((r1.V q1.length)) (fun W => (pQ 119 153 3 _ _ rfl xa6 ya6 q1.length xc6 yc6 (zX xv6) (zE' yv6 (show q3.length = 0 from by have := of_decide_eq_false h2; omega)) xh6 Tryz.underlying119 kR W).trans (by rw [xv6])) ?_
    refine zq 2 (zn (aA (aH [2,3] [(r1.V q1.length),(I6 0)] (fun W' hM => ?_))))
    rw [aDU hq1 hq3]
    have he9 : q3 = [] := List.length_eq_zero_iff.1 (by have := of_decide_eq_false h2; omega)
    rw [he9,List.append_nil]
    have hM9 := (hM.eqv (show _ = (([(bK b0 (eB p a l.length c) 29),(bK b2 [(r1.V q1.length)] 119)] : aF) ++ σF ++ (r3.B 153 xs3)) ++ (r1.B 153 xs1) from by kernel_rfl))
    have hM8 := hM9.sub (List.Sublist.append (List.sublist_append_left _ _) (List.Sublist.refl _))
    exact oJ hM8 (View.le_refl _) ⟨_,_,_,rfl,rfl,hr1,hL1⟩
  ·
   refine oH 122 #[(bnV p a l.length c),(I6 11),(I6 1),(I6 1),(.func (.func 124) #[] #[(Pt b2 0)])] (fun v σ' => aBU (lS 11 1 1 (fun x => eK q1 2 x.n) l) v σ') kR (fun W hM => (by obtain ⟨a9,c9,hv9,hc9,hL9⟩ := Mem.rowOps (hM.eqv (show _ = (([(bK b0 (eB p a l.length c) 29),(bK b2 [(r1.V q1.length)] 119)] ++ σF) : aF) ++ r1.B 153 xs1 from by kernel_rfl)) hr1 (by unfold R47; omega); have hr9 := cW hM 1 b2 [(r1.V q1.length)] 119 kR 0 _ rfl; rw [hv9] at hr9; rw [hL1] at hL9; exact aBf eA p l _ _ q1 a9 c9 b2 (hE.le hM.view) (hl.le hM.view) hdl oW hL9 hr9 (Mem.all W))) kR kR (fun v7 s7 hP7 => ?_)
   have hq7 := Option.not_isSome_iff_eq_none.1 (by rw [h1]; exact Bool.false_ne_true)
   rw [hq7] at hP7
   obtain ⟨rfl,rfl⟩ := hP7
   refine lV U _ (fun _ h => h.eqv (List.append_nil _)) ?_
   refine zq 5 (zn (zs (zQ 2 (zn (dF (zQ 3 (zn (aA (aH [2,3] [S0,(I6 2)] (fun W' hM => ?_))))))))))
   rw [aKR hq1 hq7]
   exact mP (hM.eqv (show _ = (([(bK b0 (eB p a l.length c) 29),(bK b2 [(r1.V q1.length)] 119)] : aF) ++ σF) ++ (r1.B 153 xs1) from by kernel_rfl)) (View.le_refl _) ⟨rfl,rfl⟩
 ·
  refine oH 122 #[(bnV p a l.length c),(I6 12),(I6 2),(I6 2),(.func (.func 123) #[] #[])] (fun v σ' => aBU (lS 12 2 2 (fun _ => false) l) v σ') kR (fun W hM => aBg eA p l _ _ (hE.le hM.view) (hl.le hM.view) hdl oW (Mem.all W)) kR kR (fun v8 s8 hP8 => ?_)
  have hq8 := Option.not_isSome_iff_eq_none.1 (by rw [h0]; exact Bool.false_ne_true)
  rw [hq8] at hP8
  obtain ⟨rfl,rfl⟩ := hP8
  refine lV U _ (fun _ h => h.eqv (List.append_nil _)) ?_
  refine zq 3 (dN 1 (fun b9 => ?_))
  refine aY 1 b9 (zq 1 (zn (zs (zQ 2 (zn (dF (zQ 3 (zn (aA (aH [2,3] [S0,(I6 2)] (fun W' hM => ?_)))))))))))
  rw [aKS hq8]
  exact mP (hM.eqv ((show _ = (([(bK b0 (eB p a l.length c) 29),(bK b9 [S0] 119)] : aF) ++ σF) from by kernel_rfl).trans (List.append_nil _).symm)) (View.le_refl _) ⟨rfl,rfl⟩
end Go.Proofs.YtcdjakemdlinhaaGreatDoor.Sx
namespace Go.Proofs.YtcdjakemdlinhaaGreatDoor.Sx
open Go.ChangeShapes Go.WideShapes Go.ChangeAt Go.RowKit Go.Deep Go.ChangeMaps Go.MapKept
abbrev aBm : Int × Int → Value := fun z => .agg #[.int .i64 z.1, .int .i64 0, .int .i64 z.2]
theorem aKY (a1 a2 a3 b1 b2 b3 : Int) (w : World) : (Op.equal 153 (.agg #[.int .i64 a1, .int .i64 a2, .int .i64 a3]) (.agg #[.int .i64 b1, .int .i64 b2, .int .i64 b3])).run Tryz.prog w = .ok (decide (a1 = b1 ∧ a2 = b2 ∧ a3 = b3)) w := by
 have h : (binOp .eql 153 (.agg #[.int .i64 a1, .int .i64 a2, .int .i64 a3]) (.agg #[.int .i64 b1, .int .i64 b2, .int .i64 b3])).run Tryz.prog w = .ok (.bool (decide (a1 = b1 ∧ a2 = b2 ∧ a3 = b3))) w := by
  go_simp
  (repeat' split) <;> simp_all
 unfold binOp at h
 simp only [Sem.run_bind] at h
 generalize (Op.equal 153 (.agg #[.int .i64 a1, .int .i64 a2, .int .i64 a3]) (.agg #[.int .i64 b1, .int .i64 b2, .int .i64 b3])).run Tryz.prog w = R at h ⊢
 cases R with
 | ok r w' =>
  simp only [Result.andThen_ok, Sem.run_pure, Result.ok.injEq, Value.bool.injEq] at h
  rw [h.1, h.2]
 | _ => cases h
theorem tE (x : Int × Int) (w : World) : ∀ (i : Nat) (m : List ((Int × Int) × Int)), (Instr.findAsking 153 (aBm x) (mEs aBm i m) i).run Tryz.prog w = .ok (lU x i m) w
 | _, [] => rfl
 | i, (k, v) :: r => by
  rw [mEs, Instr.findAsking, lU]
  simp only [Sem.run_bind, aKY, Result.andThen_ok]
  by_cases hb : x = k
  ·
   subst hb
   simp
  ·
   have h1 : (x == k) = false := beq_eq_false_iff_ne.2 hb
   have h2 : ¬ (x.1 = k.1 ∧ True ∧ x.2 = k.2) := fun h => hb (Prod.ext h.1 h.2.2)
   rw [h1, decide_eq_false h2]
   simp only [Bool.false_eq_true, if_false]
   exact tE x w (i + 1) r
theorem sR : qW Tryz.prog 231 aBm :=
 ⟨153, 3, Tryz.underlying231, (fun w => by kernel_rfl), fun w b x => by kernel_rfl, fun w x m => by
  cases m with
  | nil => simp [Instr.findKey, mEs, Instr.findNow, lU, run_underlying Tryz.underlying153]
  | cons e r =>
   obtain ⟨k, v⟩ := e
   have h := tE x w 0 ((k, v) :: r)
   have hn : ∀ fs, Instr.findNow (.struct fs) (aBm x) (mEs aBm 0 ((k, v) :: r)) 0 = none := fun fs => rfl
   simp only [Instr.findKey, Sem.run_bind, run_underlying Tryz.underlying153, Result.andThen_ok]
   rw [hn]
   exact h, fun w x => by
  have : Instr.sameBits 10000 (aBm x) (aBm x) = true := by simp [Instr.sameBits]
  unfold Instr.keyThatStays
  rw [if_pos this]
  rfl⟩
theorem aC5 {α : Type} (key : α → Value) : ∀ (i : Nat) (m : List (α × Int)) (k : Nat), k < m.length → (mEs key i m).findIdx? (fun e => (e.born : Int) == ((i + k : Nat) : Int)) = some k
 | i, [], k, h => by simp at h
 | i, (a, u) :: r, 0, _ => by simp [mEs, List.findIdx?_cons]
 | i, (a, u) :: r, k + 1, h => by
  have ih := aC5 key (i + 1) r k (by simpa using h)
  rw [mEs, List.findIdx?_cons]
  have hne : ((i : Int) == ((i + (k + 1) : Nat) : Int)) = false := beq_eq_false_iff_ne.2 oW
  simp only [hne, Bool.false_eq_true, if_false]
  rw [show i + (k + 1) = i + 1 + k by omega, ih]
  rfl
theorem aBq {β : Type} (f : β → β) (e : β) : ∀ l : List β, (l ++ [e]).modify l.length f = l ++ [f e]
 | [] => rfl
 | x :: l => by
  have := aBq f e l
  rw [List.cons_append, List.length_cons, List.modify_succ_cons, this]
  rfl
theorem aBo {α : Type} [BEq α] (x : α) : ∀ (i : Nat) (m : List (α × Int)) (p : Nat × Value), lU x i m = some p → lX x (fE x m) m = m
 | i, [], _, h => by cases h
 | i, (k, u) :: r, p, h => by
  unfold lU at h
  split at h
  · next he => rw [lX, if_pos he, fE, if_pos he]
  · next hne => rw [lX, if_neg hne, fE, if_neg hne, aBo x (i + 1) r p h]
section
variable {α : Type} [BEq α] [LawfulBEq α]
def aF8 (x : α) (m : List (α × Int)) : Nat := match lU x 0 m with
 | some (j, _) => j
 | none => m.length
theorem aI1 (key : α → Value) (x : α) : ∀ (i : Nat) (m : List (α × Int)) (j : Nat) (y : Value), lU x i m = some (j, y) → (mEs key i m)[j - i]? = some { key := key x, val := .int .i64 (fE x m), born := j } ∧ j - i < m.length
 | i, [], _, _, h => by cases h
 | i, (k, u) :: r, j, y, h => by
  unfold lU at h
  split at h
  ·
   next he =>
   simp only [Option.some.injEq, Prod.mk.injEq] at h
   obtain ⟨rfl, rfl⟩ := h
   rw [Nat.sub_self, mEs, fE, if_pos he, eq_of_beq he]
   exact ⟨rfl, by simp⟩
  ·
   next hne =>
   have hge := aC3 x _ r j y h
   obtain ⟨h1, h2⟩ := aI1 key x (i + 1) r j y h
   have hji : j - i = (j - (i + 1)) + 1 := by omega
   rw [hji, mEs, fE, if_neg hne, List.getElem?_cons_succ]
   exact ⟨h1, by rw [List.length_cons]; omega⟩
theorem aBp {β : Type} (f : β → β) : ∀ (l : List β) (j : Nat), (∀ e, l[j]? = some e → f e = e) → l.modify j f = l
 | [], j, _ => by cases j <;> rfl
 | x :: l, 0, h => by
  have := h x rfl
  simp [this]
 | x :: l, j + 1, h => by
  have := aBp f l j fun e he => h e (by simpa using he)
  simp [this]
variable {P : Program} {T : TypeId} {key : α → Value} {w : World} {b : Nat} {m : List (α × Int)}
theorem aK8 (K : qW P T key) (hb : w.heap[b]? = some (mO key m)) (x : α) : (Instr.mapEntry T (.map (some b)) (key x)).run P w = .ok (.tuple #[.int .i64 (fE x m), .int .i64 ((aF8 x m : Nat) : Int)]) (setBlock w b (mO key (lX x (fE x m) m))) := by
 obtain ⟨kt, et, hT, hz, hc, hf, hs⟩ := K.law
 unfold mO at hb
 have hf := hf w x m
 unfold aF8
 cases hx : lU x 0 m with
 | none =>
  rw [hx] at hf
  obtain ⟨h1, h2, h3⟩ := lF key x 0 0 m hx
  simp [Instr.mapEntry, run_underlying hT, Go.MapKept.run_getObj_map hb, hc, hf, hz, Go.MapKept.run_setObj_map _ hb, Result.andThen, setBlock, mO, h1, h2, h3, goInt]
 | some p =>
  obtain ⟨j, y⟩ := p
  rw [hx] at hf
  obtain ⟨_, _, h3, _⟩ := mT key x 0 0 m j y hx
  obtain ⟨h4, h5⟩ := aI1 key x 0 m j y hx
  rw [Nat.sub_zero] at h4 h5
  have hks := hs w x
  have hm := aBp (fun e : MapEntry => { e with key := key x }) (mEs key 0 m) j fun e he => by
   rw [h4] at he
   obtain rfl := Option.some.inj he
   rfl
  rw [aBo x 0 m _ hx]
  simp [Instr.mapEntry, run_underlying hT, Go.MapKept.run_getObj_map hb, hc, hf, h4, hks, Go.MapKept.run_setObj_map _ hb, Result.andThen, setBlock, mO, hm, h3, goInt]
theorem aMx (x : α) (hb : w.heap[b]? = some (mO key (lX x (fE x m) m))) (v : Int) : (Instr.entryStore T (.map (some b)) (.int .i64 ((aF8 x m : Nat) : Int)) (.int .i64 v)).run P w = .ok () (setBlock w b (mO key (lX x v m))) := by
 unfold mO at hb
 unfold aF8
 cases hx : lU x 0 m with
 | none =>
  obtain ⟨g1, g2, g3⟩ := lF key x (fE x m) 0 m hx
  obtain ⟨h1, h2, h3⟩ := lF key x v 0 m hx
  have hfd := aC5 key 0 (lX x (fE x m) m) m.length oW
  rw [Nat.zero_add] at hfd
  have hmod : (mEs key 0 (lX x (fE x m) m)).modify m.length (fun e => { e with val := .int .i64 v }) = mEs key 0 (lX x v m) := by
   have hl := aI0 key 0 m
   rw [g1, h1]
   rw [← hl, aBq]
  simp [Instr.entryStore, Go.MapKept.run_getObj_map hb, asInt, asIntOf, hfd, Go.MapKept.run_setObj_map _ hb, Result.andThen, setBlock, mO, hmod, g2, h2]
 | some p =>
  obtain ⟨j, y⟩ := p
  rw [aBo x 0 m _ hx] at hb
  obtain ⟨h1, h2, h3, e, h4, h5⟩ := mT key x v 0 m j y hx
  obtain ⟨h6, h7⟩ := aI1 key x 0 m j y hx
  rw [Nat.sub_zero] at h1 h6 h7
  have hfd := aC5 key 0 m j h7
  rw [Nat.zero_add] at hfd
  have hmod : (mEs key 0 m).modify j (fun e => { e with val := .int .i64 v }) = mEs key 0 (lX x v m) := by
   rw [h1]
   apply List.ext_getElem?
   intro i
   rw [List.getElem?_modify, List.getElem?_modify]
   by_cases hij : j = i
   ·
    subst hij
    rw [h6]
    rfl
   · simp [hij]
  simp [Instr.entryStore, Go.MapKept.run_getObj_map hb, asInt, asIntOf, hfd, Go.MapKept.run_setObj_map _ hb, Result.andThen, setBlock, mO, hmod, h2]
end
section
variable {P : Program} {n : Nat} {W0 : Cx} {s : cB} {U : View} {σ0 : aF} {ops : Array Oper} {ds : List Nat} {vs : List Sq}
structure aOJ (P : Program) (n : Nat) (W0 : Cx) (U : View) (σ σ2 : aF) (ops : Array Oper) (ds : List Nat) (vs : List Sq) (s : cB) (i : Nat) : Prop where
 go : ∃ (o : Oper) (ts : List Nat) (vals : (Nat → Value) → List Value) (val : Value), ops[i]? = some o ∧ o.guard = none ∧ vs[i]? = some (.val val) ∧ (∀ u, (ts.map fun x => look (jZ ops ds vs u i ++ aV s ds) x) = (vals u).map some) ∧
  ∀ (u : Nat → Value) (V : View), View.le U V → (∀ j, cI .any ops i j = true → gJ vs j (u j) V) → ∀ (a : Act) (W : World), pD n (ts.zip (vals u)) a → Mem W0 V σ W → ∀ (K : Act → World → Prop) (Q : Exit → Act → World → Prop), (∀ W', Mem W0 V σ2 W' → K (a.put o.dst val) W') → o.wp P a W K Q
def ObT (P : Program) (n : Nat) (W0 : Cx) (U : View) (σ σ2 : aF) (ops : Array Oper) (ds : List Nat) (vs : List Sq) (s : cB) (i k : Nat) : Prop :=
 if k = i then aOJ P n W0 U σ σ2 ops ds vs s i else Oq P n W0 U σ ops ds vs s k ∧ Oq P n W0 U σ2 ops ds vs s k
theorem ObT.o {σ σ2 : aF} {i : Nat} (k : Nat) (h1 : k ≠ i) (h : Oq P n W0 U σ ops ds vs s k) (h2 : Oq P n W0 U σ2 ops ds vs s k) : ObT P n W0 U σ σ2 ops ds vs s i k := by
 unfold ObT
 rw [if_neg h1]
 exact ⟨h, h2⟩
theorem ObT.entry {σ σ2 : aF} {i : Nat} {o : Oper} {T : TypeId} {α : Type} [BEq α] [LawfulBEq α] {key : α → Value} (K : qW P T key) (k b : Nat) (m : List (α × Int)) (x : α) (xm xi : Operand) (hi : ops[i]? = some o) (hg : o.guard = none) (ho : o.op = .mapEntry T xm xi) (hvi : vs[i]? = some (.val (.tuple #[.int .i64 (fE x m), .int .i64 ((aF8 x m : Nat) : Int)])))
  (ts : List Nat) (vals : (Nat → Value) → List Value) (hsl : ∀ u, (ts.map fun x => look (jZ ops ds vs u i ++ aV s ds) x) = (vals u).map some) (hm : ∀ u, evS (ts.zip (vals u)) xm = some (.map (some b))) (hx : ∀ u, evS (ts.zip (vals u)) xi = some (key x)) (hk : σ[k]? = some (b, mO key m)) (hσ : σ.set k (b, mO key (lX x (fE x m) m)) = σ2) : ObT P n W0 U σ σ2 ops ds vs s i i := by
 unfold ObT
 rw [if_pos rfl]
 subst hσ
 refine ⟨⟨o, ts, vals, _, hi, hg, hvi, hsl, fun u V _ _ a W ha hM K' Q hK => ?_⟩⟩
 have hb := (hM.own k b _ hk).1
 unfold Oper.wp execOp
 simp only [ho, dZ ha (hm u), dZ ha (hx u), aK8 K hb x, Sem.run_bind, Sem.run_pure, Result.andThen_ok]
 exact hK _ (hM.set k b _ _ hk rfl rfl rfl (by simp [setBlock]) (heap_setBlock_same hb _) (fun i hi => heap_setBlock_other hb _ hi))
theorem aNn {σ : aF} {i : Nat} {o : Oper} {T : TypeId} {α : Type} [BEq α] [LawfulBEq α] {key : α → Value} (K : qW P T key) (k b : Nat) (m : List (α × Int)) (x : α) (v : Int) (xm xi : Operand) (hi : ops[i]? = some o) (hg : o.guard = none) (ho : o.op = .lookup T xm xi false) (hvi : vs[i]? = some (.val (.int .i64 v))) (hv : fE x m = v)
  (ts : List Nat) (vals : (Nat → Value) → List Value) (hsl : ∀ u, (ts.map fun x => look (jZ ops ds vs u i ++ aV s ds) x) = (vals u).map some) (hm : ∀ u, evS (ts.zip (vals u)) xm = some (.map (some b))) (hx : ∀ u, evS (ts.zip (vals u)) xi = some (key x)) (hk : σ[k]? = some (b, mO key m)) : Oq P n W0 U σ ops ds vs s i :=
 Oq.op i hi _ hvi fun u V hV hd => by
  refine ⟨by unfold cZ; rw [hg], fun a W ha hM Q K' hK => ?_⟩
  have hb := (hM.own k b _ hk).1
  have ha' := fX ts _ ha (hsl u)
  unfold Oper.wp execOp
  simp only [ho, dZ ha' (hm u), dZ ha' (hx u), aIZ K hb x, Sem.run_bind, Sem.run_pure, Result.andThen_ok, hv]
  exact hK _ W hM rfl (Below.refl _ _)
structure aOG (W0 : Cx) (U : View) (σ σ2 : aF) (vs : List Sq) (m i : Nat) (L : Nat → Bool) (u : Nat → Value) (w : World) (V : View) : Prop where
 le : View.le U V
 mem : Mem W0 V (if L i then σ2 else σ) w
 at_ : ∀ j, j < m → L j = true → qE vs j (u j) V
theorem aH7 {id : Nat} {l : List Oper} {Q : XQ} (m f r : Nat) (ds : List Nat) (vs : List Sq) (i : Nat) (σ2 : aF) (hm : P.follows .mixedOrders = true) (hsz : l.length = m + f) (hlen : ds.length = m)
  (hds : pB l.toArray ds = true) (hnd : nodupB ds = true) (hlt : (ds.all fun d => Nat.blt d n) = true) (hedge : eQ .any l.toArray m = true) (htail : iY .any l.toArray m r = true) (hchain : fY l.toArray m f = true) (hmo : ∀ q ∈ vs, oZ q)
  (hji : i < m)
  (obs : Go.Proofs.YtcdjakemdlinhaaGreatDoor.Steps (ObT P n W0 U σ0 σ2 l.toArray ds vs s i) 0 m)
  (ts : List Nat) (vals : (Nat → Value) → List Value) (hsl : ∀ u, (ts.map fun t => look (aDh u 0 ds vs ++ aV s ds) t) = (vals u).map some)
  (h : ∀ (u : Nat → Value) (V : View), View.le U V → (∀ j, j < m → gJ vs j (u j) V) → SXL P n W0 Q l.toArray (l.drop m) (ts.zip (vals u)) V σ2) : SXC P n W0 Q (.region id l.toArray true) s U σ0 := by
 refine ⟨fun a W ha hM => ?_⟩
 have hn := iI hnd
 have hd : ∀ d ∈ ds, d < n := fun d hd => by have := List.all_eq_true.1 hlt d hd; simpa [Nat.blt_eq] using this
 refine oE m f r ds (fun L u w => ∃ V, aOG W0 U σ0 σ2 vs m i L u w V) hm (by simpa using hsz) hlen hds hnd hedge htail ?_ ?_ ?_
 ·
  intro u
  exact ⟨U, ⟨View.le_refl _, hM.drew, fun j _ hj => by simp at hj⟩⟩
 ·
  rintro k hkm L u w ⟨V, I⟩ hLk hwt hcl K hK
  have hob := obs.get k (Nat.zero_le _) oW
  unfold ObT at hob
  split at hob
  ·
   next hki =>
   subst hki
   obtain ⟨o, ts, vals, val, ho, hgd, hvk, hsl, hgo⟩ := hob.go
   have hr := mQ (a0 := a) (u := u) (V := V) (vs := vs) (ops := l.toArray) k ha hn hd fun j hj => .inl (I.at_ j (hwt j hj).2 (hwt j hj).1)
   unfold wpOp
   simp only [ho, Region.wanted, hgd, if_true]
   left
   have hmem := I.mem
   rw [hLk] at hmem
   refine hgo u V I.le (fun j hj => (I.at_ j (hwt j hj).2 (hwt j hj).1).phi) _ w (fX ts _ hr (hsl u)) hmem _ _ fun W' hM' => ?_
   have := hK val W' ⟨V, ⟨I.le, by rw [if_pos rfl, if_pos rfl]; exact hM', fun j hj hL => ?_⟩⟩
   ·
    rw [ho] at this
    exact this
   ·
    by_cases e : j = k
    ·
     subst e
     rw [if_pos rfl]
     unfold qE
     rw [hvk]
    ·
     rw [if_neg e] at hL ⊢
     exact I.at_ j hj hL
  ·
   next hki =>
   have hOq : Oq P n W0 U (if L i then σ2 else σ0) l.toArray ds vs s k := by
    cases L i
    · exact hob.1
    · exact hob.2
   have hM0 : Mem W0 U (if L i then σ2 else σ0) w := I.mem.weak I.le
   refine (hOq.go a (up n W0 Q) ha hn hd hmo).step u w hM0 (fun j hj => (I.at_ j (hwt j hj).2 (hwt j hj).1).isQ I.mem I.le) K fun v w' hM' hE hv => ?_
   obtain ⟨V', h1, h2, h3⟩ := hv.at hM'
   obtain ⟨q1, q2, q3⟩ := Mem.join (I.mem.call hE) h2
   refine hK v w' ⟨V.or V', ⟨View.le_trans I.le q2, by have hik : (if i = k then true else L i) = L i := if_neg (fun e => hki e.symm); simp only [hik]; exact q1, fun j hj hL => ?_⟩⟩
   by_cases e : j = k
   ·
    subst e
    rw [if_pos rfl]
    exact h3.le hmo q3
   ·
    rw [if_neg e] at hL ⊢
    exact (I.at_ j hj hL).le hmo q2
 ·
  rintro L u W' ⟨V, I⟩ hL
  refine gZ f m _ W' (by simpa using hsz.symm) hchain ?_
  have hg := fun t => fP ds 0 u a t hn (by rw [ha.size]; exact hd)
  have hph : ∀ j, j < m → gJ vs j (u j) V := fun j hj => (I.at_ j hj (hL j hj)).phi
  have hmem := I.mem
  rw [hL i hji, if_pos rfl] at hmem
  refine (h u V I.le hph).go _ W' (fX ts _ (s' := aDh u 0 ds vs ++ aV s ds) ⟨by rw [(hg 0).2.2.1, ha.size], by rw [(hg 0).2.2.2, ha.defers], fun x v hl => ?_⟩ (hsl u)) hmem
  rcases eP _ _ _ _ hl with hl | ⟨_, hl⟩
  ·
   have hmem := iJ _ _ _ hl
   obtain ⟨j, q, hd2, hvq, hq⟩ := lZ u 0 _ _ _ _ hmem
   have hjl : j < ds.length := (List.getElem?_eq_some_iff.1 hd2).1
   rw [(hg x).1 j hd2, Nat.zero_add]
   cases q with
   | val w =>
    simp only at hq
    have := I.at_ j oW (hL j oW)
    unfold qE at this
    rw [hvq] at this
    simp only at this
    rw [this, hq]
   | mem Φ => simp only [Nat.zero_add] at hq; rw [hq]
  ·
   obtain ⟨h1, h2⟩ := eW _ _ _ _ hl
   rw [(hg x).2.1 h1]
   exact ha.slots x v h2
end
section
variable {P : Program} {n : Nat} {W0 : Cx} {Q : XQ} {s : cB} {U : View} {σ : aF} {ops : Array Oper} {l : List Oper} {o : Oper} {T : TypeId} {α : Type} [BEq α] [LawfulBEq α] {key : α → Value}
theorem aKm (k b : Nat) (m : List (α × Int)) (x : α) (v : Int) (xm xi xv : Operand) (ho : o.op = .entryStore T xm xi xv) (hm : evS s xm = some (.map (some b))) (hx : evS s xi = some (.int .i64 ((aF8 x m : Nat) : Int))) (hv : evS s xv = some (.int .i64 v)) (hk : σ[k]? = some (b, mO key (lX x (fE x m) m)))
  (hd : eL n o = true) (hw : cZ ops s o = some true) (h : SXL P n W0 Q ops l (jX o undef s) U (σ.set k (b, mO key (lX x v m)))) : SXL P n W0 Q ops (o :: l) s U σ := by
 refine oG hd hw fun a W ha hM K' hK => ?_
 have hb := (hM.own k b _ hk).1
 unfold Oper.wp execOp
 simp only [ho, dZ ha hm, dZ ha hx, dZ ha hv, aMx x hb v, Sem.run_bind, Sem.run_pure, Result.andThen_ok]
 exact hK _ _ _ _ _ h (eD ha hd) (hM.set k b _ _ hk rfl rfl rfl (by simp [setBlock]) (heap_setBlock_same hb _) (fun i hi => heap_setBlock_other hb _ hi))
end
end Go.Proofs.YtcdjakemdlinhaaGreatDoor.Sx
namespace Go.Proofs.YtcdjakemdlinhaaGreatDoor.Sx
open Go.ChangeShapes Go.WideShapes Go.ChangeAt Go.RowKit Go.Deep
def aFC (x : Int × Int) (m : List ((Int × Int) × Int)) : List ((Int × Int) × Int) := lX x (IntKind.i64.wrap (fE x m + 1)) m
def aDY : List ((Int × Int) × Int) → List Op → Bool
 | _, [] => true
 | m, o :: r => if decide (fE (o.k, o.t) (aFC (o.k, o.t) m) > 1) then false else aDY (aFC (o.k, o.t) m) r
theorem aCi {q : List Op} {i : Nat} {y : Op} {m : List ((Int × Int) × Int)} (h : q[i]? = some y) : aDY m (q.drop i) = if decide (fE (y.k, y.t) (aFC (y.k, y.t) m) > 1) then false else aDY (aFC (y.k, y.t) m) (q.drop (i + 1)) := by
 rw [cK h, aDY]
theorem aF5 : ∀ (r pre : List Op) (m : List ((Int × Int) × Int)), (∀ k t, fE (k, t) m = if eK pre k t then 1 else 0) → aDY m r = aAz pre r
 | [], _, _, _ => rfl
 | o :: r, pre, m, h => by
  rw [aDY, aAz]
  have h1 := h o.k o.t
  unfold aFC
  rw [sP]
  simp only [beq_self_eq_true, if_true]
  cases ha : eK pre o.k o.t with
  | true =>
   rw [ha] at h1
   rw [h1]
   rfl
  | false =>
   rw [ha] at h1
   rw [h1]
   have hd : decide (IntKind.i64.wrap ((if false = true then (1 : Int) else 0) + 1) > 1) = false := by decide
   rw [hd]
   simp only [Bool.false_eq_true, if_false]
   refine aF5 r (pre ++ [o]) _ fun k t => ?_
   rw [sP, h k t]
   have hw : IntKind.i64.wrap (0 + 1) = 1 := by decide
   rw [hw]
   unfold eK at ha ⊢
   rw [List.any_append]
   by_cases hk : (k, t) = (o.k, o.t)
   ·
    simp only [Prod.mk.injEq] at hk
    obtain ⟨rfl, rfl⟩ := hk
    simp
   ·
    have hb : ((k, t) == (o.k, o.t)) = false := beq_eq_false_iff_ne.2 hk
    have hb2 : (o.k == k && o.t == t) = false := by
     cases hx : o.k == k && o.t == t with
     | false => rfl
     | true =>
      rw [Bool.and_eq_true] at hx
      exact absurd (Prod.ext (eq_of_beq hx.1).symm (eq_of_beq hx.2).symm) hk
    rw [hb]
    simp [hb2]
theorem aKZ (p : Pr) (l : List Bk) (a : Option Addr) (c : Nat) (q : List Op) (aQ : Option Addr) (cQ : Nat) (w : World) {U : View} (hU : See U w) (hl : cX U a l) (hq : iM OpR 3 U aQ q) : CP 129 #[bnV p a l.length c, .slice aQ q.length cQ] w (Ret (.bool (aAz [] q)) w) := by
 have hlen := hq.len
 unfold R47 at hlen
 rw [← aF5 q [] [] (fun k t => rfl)]
 refine eG 32 Tryz.func129 hU ?_
 refine zs (zr (cJ (fun b0 => (zq 1 (zn (zs (zr (cJ (fun b1 => (zq 1 (zn (zs (zQ 3 (zn (aB (gX (α := Nat × List ((Int × Int) × Int)) (fun x => [4,5,10,11,12].zip [(.bool false),(.map (some b1)),(.slice aQ q.length cQ),(L6 q.length),(L6 x.1)]) (fun x => U) (fun x => [(bK b0 (eB p a l.length c) 29),(b1,(mO aBm x.2))]) (fun x => x.1 ≤ q.length ∧ aDY x.2 (q.drop x.1) = aDY [] q) (fun x => q.length - x.1) (0,[]) ?_ ?_))))))))))))))))
 · exact ⟨Nat.zero_le _,rfl⟩
 intro x hx
 obtain ⟨hx1,hx2⟩ := hx
 refine zQ 1 (zn (zs (cD (decide ((x.1 : Int) < (q.length : Int))) (fun h0 => ?_) (fun h0 => ?_))))
 ·
  have h0d := of_decide_eq_true h0
  refine zk (zs (aB (zs (zr ?_))))
  obtain ⟨y2,hy2⟩ : ∃ y,(q)[x.1]? = some y := ⟨(q)[x.1]'oW,List.getElem?_eq_getElem _⟩
  obtain ⟨b2,f2,cs2,rfl,hU2,hR2⟩ := hq.at_ x.1 y2 hy2
  obtain rfl := hR2
  refine cH (Pt b2 (f2 + x.1 * 3)) (rIx 153 rfl b2 f2 q.length cQ x.1 3) ?_
  refine zU b2 (f2 + x.1 * 3) [(I6 y2.k),(I6 y2.n),(I6 y2.t)] hU2 153 (.tmp 14) _ Tryz.underlying153 rfl ?_
  refine cJ (fun b3 => (aY 2 b3 (zn (zB [0,3,0,3,0] [(b3,1),(b3,1)] (cJ (fun b4 => (aY 3 b4 (zn (zs ?_)))))))))
  refine aH7 6 1 0 [21,22,23,24,25,26] [.val (.map (some b1)),.val (.agg #[(I6 y2.k),(I6 0),(I6 y2.t)]),.val (I6 (fE (y2.k,y2.t) x.2)),.val (I6 (IntKind.i64.wrap ((fE (y2.k,y2.t) x.2) + 1))),.val (.tuple #[(I6 (fE (y2.k,y2.t) x.2)),(L6 (aF8 (y2.k,y2.t) x.2))]),.val (L6 (aF8 (y2.k,y2.t) x.2))] 4 [(bK b0 (eB p a l.length c) 29),(b1,(mO aBm (lX (y2.k,y2.t) (fE (y2.k,y2.t) x.2) x.2))),(bK b3 [(I6 y2.k),(I6 y2.n),(I6 y2.t)] 153),(bK b4 [(I6 y2.k),(I6 0),(I6 y2.t)] 153)] kR rfl rfl kR kR kR kR kR kR (by simp only [List.forall_mem_cons]; exact ⟨trivial,trivial,trivial,trivial,trivial,trivial,fun _ h => by cases h⟩) (show (4 : Nat) < 6 by decide) ⟨?_,?_,?_,?_,?_,?_,trivial⟩ [4,5,7,8,10,11,12,13,14,15,16,17,18,19,20,21,22,23,24,25,26] (fun u => [(.bool false),(.map (some b1)),(Pt b3 0),(Pt b4 0),(Sl b2 f2 q.length cQ),(L6 q.length),(L6 x.1),(.bool (decide ((x.1 : Int) < (q.length : Int)))),(Pt b2 (f2 + x.1 * 3)),(.agg #[(I6 y2.k),(I6 y2.n),(I6 y2.t)]),(Pt b3 0),(I6 y2.k),(Pt b3 2),(I6 y2.t),(.agg #[(I6 y2.k),(I6 0),(I6 y2.t)]),(.map (some b1)),(.agg #[(I6 y2.k),(I6 0),(I6 y2.t)]),(I6 (fE (y2.k,y2.t) x.2)),(I6 (IntKind.i64.wrap ((fE (y2.k,y2.t) x.2) + 1))),(.tuple #[(I6 (fE (y2.k,y2.t) x.2)),(L6 (aF8 (y2.k,y2.t) x.2))]),(L6 (aF8 (y2.k,y2.t) x.2))]) kF ?_
  · exact ObT.o 0 (show (0 : Nat) ≠ 4 by decide) (oqQ 0 rfl (.map (some b1)) (.map (some b1)) rfl rfl kF kF) (oqQ 0 rfl (.map (some b1)) (.map (some b1)) rfl rfl kF kF)
  · exact ObT.o 1 (show (1 : Nat) ≠ 4 by decide) (oqL 1 3 b4 3 [(I6 y2.k),(I6 0),(I6 y2.t)] 153 rfl (.agg #[(I6 y2.k),(I6 0),(I6 y2.t)]) rfl kR kF kF) (oqL 1 3 b4 3 [(I6 y2.k),(I6 0),(I6 y2.t)] 153 rfl (.agg #[(I6 y2.k),(I6 0),(I6 y2.t)]) rfl kR kF kF)
  · exact ObT.o 2 (show (2 : Nat) ≠ 4 by decide) (aNn sR 1 b1 x.2 (y2.k,y2.t) (fE (y2.k,y2.t) x.2) _ _ rfl rfl rfl rfl rfl [21,22] (fun u => [(.map (some b1)),(.agg #[(I6 y2.k),(I6 0),(I6 y2.t)])]) kF kF kF kR) (aNn sR 1 b1 (lX (y2.k,y2.t) (fE (y2.k,y2.t) x.2) x.2) (y2.k,y2.t) (fE (y2.k,y2.t) x.2) _ _ rfl rfl rfl rfl (by rw [sP]; simp) [21,22] (fun u => [(.map (some b1)),(.agg #[(I6 y2.k),(I6 0),(I6 y2.t)])]) kF kF kF kR)
  · exact ObT.o 3 (show (3 : Nat) ≠ 4 by decide) (oqQ 3 rfl (I6 (IntKind.i64.wrap ((fE (y2.k,y2.t) x.2) + 1))) (I6 (IntKind.i64.wrap ((fE (y2.k,y2.t) x.2) + 1))) rfl rfl kF kF) (oqQ 3 rfl (I6 (IntKind.i64.wrap ((fE (y2.k,y2.t) x.2) + 1))) (I6 (IntKind.i64.wrap ((fE (y2.k,y2.t) x.2) + 1))) rfl rfl kF kF)
  · exact ObT.entry sR 1 b1 x.2 (y2.k,y2.t) _ _ rfl rfl rfl rfl [21,22] (fun u => [(.map (some b1)),(.agg #[(I6 y2.k),(I6 0),(I6 y2.t)])]) kF kF kF kR kR
  · exact ObT.o 5 (show (5 : Nat) ≠ 4 by decide) (oqQ 5 rfl (L6 (aF8 (y2.k,y2.t) x.2)) (L6 (aF8 (y2.k,y2.t) x.2)) rfl rfl kF kF) (oqQ 5 rfl (L6 (aF8 (y2.k,y2.t) x.2)) (L6 (aF8 (y2.k,y2.t) x.2)) rfl rfl kF kF)
  intro u5 V5 hV5 hdq5
  refine aKm (key := aBm) 1 b1 x.2 (y2.k,y2.t) (IntKind.i64.wrap ((fE (y2.k,y2.t) x.2) + 1)) _ _ _ rfl kR kR kR kR kR kR ?_
  refine zn (zB [0,4] [(b4,3)] ?_)
  refine mE sR 1 b1 (lX (y2.k,y2.t) (IntKind.i64.wrap ((fE (y2.k,y2.t) x.2) + 1)) x.2) (y2.k,y2.t) (.tmp 27) (.tmp 28) rfl kR kR kR kR kR ?_
  refine zq 1 (zn (cD (decide ((fE (y2.k,y2.t) (lX (y2.k,y2.t) (IntKind.i64.wrap ((fE (y2.k,y2.t) x.2) + 1)) x.2)) > 1)) (fun h1 => ?_) (fun h1 => ?_)))
  ·
   have h1d := of_decide_eq_true h1
   refine zQ 1 (zn (aA (aH [4] [(.bool false)] (fun W' hM => ?_))))
   refine ⟨?_,hM.below⟩
   rw [← hx2,aCi hy2]
   unfold aFC
   rw [if_pos h1]
   rfl
  ·
   have h1d := of_decide_eq_false h1
   refine zk (zr (zq 1 (eV 31 ((x.1 : Int) + 1) (zq 1 (zn ?_)))))
   refine nx (x.1 + 1,(lX (y2.k,y2.t) (IntKind.i64.wrap ((fE (y2.k,y2.t) x.2) + 1)) x.2)) ?_ ?_ (d := fun _ h => Mem.sub (List.sublist_append_left _ _) ((h.weak hV5).eqv (show _ = ([(bK b0 (eB p a l.length c) 29),(b1,(mO aBm (lX (y2.k,y2.t) (IntKind.i64.wrap ((fE (y2.k,y2.t) x.2) + 1)) x.2)))] : aF) ++ ([(bK b3 [(I6 y2.k),(I6 y2.n),(I6 y2.t)] 153),(bK b4 [(I6 y2.k),(I6 0),(I6 y2.t)] 153)] : aF) from by kernel_rfl)))
   · exact ⟨by show x.1 + 1 ≤ _; omega,by rw [← hx2,aCi hy2]; unfold aFC; rw [if_neg (by rw [h1]; exact Bool.false_ne_true)]⟩
   · show q.length - (x.1 + 1) < q.length - x.1; omega
 ·
  have h0d := of_decide_eq_false h0
  refine aU (zQ 1 (zn (aA (aH [4] [(.bool true)] (fun W' hM => ?_)))))
  refine ⟨?_,hM.below⟩
  rw [← hx2,cY oW]
  rfl
theorem aCk (p : Pr) (l : List Bk) (a : Option Addr) (c : Nat) (q : List Op) (aQ : Option Addr) (cQ : Nat) (w : World) {U : View} (hU : See U w) (hl : cX U a l) (hq : iM OpR 3 U aQ q) : CP 85 #[bnV p a l.length c, .slice aQ q.length cQ] w (Ret (.int .i64 (aDZ p l q)) w) := by
 refine eG 19 Tryz.func85 hU ?_
 refine zs (zr (cJ (fun b0 => (zq 1 (zn (zs (zs (zr (cJ (fun b1 => (zq 2 (zn (aB (gX (α := Nat) (fun x => match x with | 0 => [1,2,4,7,8,9].zip [(.slice aQ q.length cQ),(Pt b0 0),(I6 0),(Sl b1 0 5 5),(I6 5),(I6 0)] | 1 => [1,2,4,7,8,9].zip [(.slice aQ q.length cQ),(Pt b0 0),(I6 0),(Sl b1 0 5 5),(I6 5),(I6 1)] | 2 => [1,2,4,7,8,9].zip [(.slice aQ q.length cQ),(Pt b0 0),(I6 0),(Sl b1 0 5 5),(I6 5),(I6 2)] | 3 => [1,2,4,7,8,9].zip [(.slice aQ q.length cQ),(Pt b0 0),(I6 0),(Sl b1 0 5 5),(I6 5),(I6 3)] | 4 => [1,2,4,7,8,9].zip [(.slice aQ q.length cQ),(Pt b0 0),(I6 0),(Sl b1 0 5 5),(I6 5),(I6 4)] | _ => [1,2,4,7,8,9].zip [(.slice aQ q.length cQ),(Pt b0 0),(I6 0),(Sl b1 0 5 5),(I6 5),(I6 5)]) (fun _ => U) (fun x => [(bK b0 (eB p a l.length c) 29),(b1,.cells [(.func (.func 127) #[] #[]),(.func (.func 128) #[] #[]),(.func (.func 129) #[] #[]),(.func (.func 130) #[] #[]),(.func (.func 131) #[] #[])].toArray 199 (0,0))]) (fun x => x ≤ 5 ∧ (0 < x → (!(mK p l)) = false) ∧ (1 < x → (!(oY l q)) = false) ∧ (2 < x → (!(aAz [] q)) = false) ∧ (3 < x → (!(pA l [] q)) = false) ∧ (4 < x → (!(pM l q)) = false)) (fun x => 5 - x) 0 ⟨by omega,fun h => absurd h oW,fun h => absurd h oW,fun h => absurd h oW,fun h => absurd h oW,fun h => absurd h oW⟩ ?_))))))))))))))
 rintro x ⟨hx,hc0_0,hc1_0,hc2_0,hc3_0,hc4_0⟩
 rcases (by omega : x = 0 ∨ x = 1 ∨ x = 2 ∨ x = 3 ∨ x = 4 ∨ x = 5) with rfl | rfl | rfl | rfl | rfl | rfl
 ·
  refine zQ 1 (zn (zs (dF (zk (zs (aB (zB [0,2,0] [(b1,1)] (zn (zB [0,1,0] [(b0,20)] (dA 127 #[(bnV p a l.length c),(.slice aQ q.length cQ)] (.bool (mK p l)) (fun W hM => aHR p l _ _ q _ _ W hM.view hl hq) ?_))))))))))
  refine zq 1 (zn (cD (!(mK p l)) (fun h0 => ?_) (fun h0 => ?_)))
  ·
   refine zQ 1 (zn (aA (aH [4] [(I6 8)] (fun W' hM => ?_))))
   have e0 : (mK p l) = false := by simpa using h0
   refine ⟨?_,hM.below⟩
   unfold aDZ
   simp only [cG,e0,bs,bQ,reduceIte]
  ·
   refine zk (zr (zq 2 (zn ?_)))
   refine nx 1 ⟨by omega,fun _ => h0,fun h => absurd h oW,fun h => absurd h oW,fun h => absurd h oW,fun h => absurd h oW⟩ (by show 5 - 1 < 5 - 0; omega)
 ·
  refine zQ 1 (zn (zs (dF (zk (zs (aB (zB [0,2,0] [(b1,1)] (zn (zB [0,1,0] [(b0,20)] (dA 128 #[(bnV p a l.length c),(.slice aQ q.length cQ)] (.bool (oY l q)) (fun W hM => aHX p l _ _ q _ _ W hM.view hl hq) ?_))))))))))
  refine zq 1 (zn (cD (!(oY l q)) (fun h1 => ?_) (fun h1 => ?_)))
  ·
   refine zQ 1 (zn (aA (aH [4] [(I6 8)] (fun W' hM => ?_))))
   have e0 : (mK p l) = true := by simpa using (hc0_0 oW)
   have e1 : (oY l q) = false := by simpa using h1
   refine ⟨?_,hM.below⟩
   unfold aDZ
   simp only [cG,e0,e1,bs,bQ,reduceIte]
  ·
   refine zk (zr (zq 2 (zn ?_)))
   refine nx 2 ⟨by omega,fun _ => hc0_0 oW,fun _ => h1,fun h => absurd h oW,fun h => absurd h oW,fun h => absurd h oW⟩ (by show 5 - 2 < 5 - 1; omega)
 ·
  refine zQ 1 (zn (zs (dF (zk (zs (aB (zB [0,2,0] [(b1,1)] (zn (zB [0,1,0] [(b0,20)] (dA 129 #[(bnV p a l.length c),(.slice aQ q.length cQ)] (.bool (aAz [] q)) (fun W hM => aKZ p l _ _ q _ _ W hM.view hl hq) ?_))))))))))
  refine zq 1 (zn (cD (!(aAz [] q)) (fun h2 => ?_) (fun h2 => ?_)))
  ·
   refine zQ 1 (zn (aA (aH [4] [(I6 8)] (fun W' hM => ?_))))
   have e0 : (mK p l) = true := by simpa using (hc0_0 oW)
   have e1 : (oY l q) = true := by simpa using (hc1_0 oW)
   have e2 : (aAz [] q) = false := by simpa using h2
   refine ⟨?_,hM.below⟩
   unfold aDZ
   simp only [cG,e0,e1,e2,bs,bQ,reduceIte]
  ·
   refine zk (zr (zq 2 (zn ?_)))
   refine nx 3 ⟨by omega,fun _ => hc0_0 oW,fun _ => hc1_0 oW,fun _ => h2,fun h => absurd h oW,fun h => absurd h oW⟩ (by show 5 - 3 < 5 - 2; omega)
 ·
  refine zQ 1 (zn (zs (dF (zk (zs (aB (zB [0,2,0] [(b1,1)] (zn (zB [0,1,0] [(b0,20)] (dA 130 #[(bnV p a l.length c),(.slice aQ q.length cQ)] (.bool (pA l [] q)) (fun W hM => aIn p l _ _ q _ _ W hM.view hl hq) ?_))))))))))
  refine zq 1 (zn (cD (!(pA l [] q)) (fun h3 => ?_) (fun h3 => ?_)))
  ·
   refine zQ 1 (zn (aA (aH [4] [(I6 8)] (fun W' hM => ?_))))
   have e0 : (mK p l) = true := by simpa using (hc0_0 oW)
   have e1 : (oY l q) = true := by simpa using (hc1_0 oW)
   have e2 : (aAz [] q) = true := by simpa using (hc2_0 oW)
   have e3 : (pA l [] q) = false := by simpa using h3
   refine ⟨?_,hM.below⟩
   unfold aDZ
   simp only [cG,e0,e1,e2,e3,bs,bQ,reduceIte]
  ·
   refine zk (zr (zq 2 (zn ?_)))
   refine nx 4 ⟨by omega,fun _ => hc0_0 oW,fun _ => hc1_0 oW,fun _ => hc2_0 oW,fun _ => h3,fun h => absurd h oW⟩ (by show 5 - 4 < 5 - 3; omega)
 ·
  refine zQ 1 (zn (zs (dF (zk (zs (aB (zB [0,2,0] [(b1,1)] (zn (zB [0,1,0] [(b0,20)] (dA 131 #[(bnV p a l.length c),(.slice aQ q.length cQ)] (.bool (pM l q)) (fun W hM => aIj p l _ _ q _ _ W hM.view hl hq) ?_))))))))))
  refine zq 1 (zn (cD (!(pM l q)) (fun h4 => ?_) (fun h4 => ?_)))
  ·
   refine zQ 1 (zn (aA (aH [4] [(I6 8)] (fun W' hM => ?_))))
   have e0 : (mK p l) = true := by simpa using (hc0_0 oW)
   have e1 : (oY l q) = true := by simpa using (hc1_0 oW)
   have e2 : (aAz [] q) = true := by simpa using (hc2_0 oW)
   have e3 : (pA l [] q) = true := by simpa using (hc3_0 oW)
   have e4 : (pM l q) = false := by simpa using h4
   refine ⟨?_,hM.below⟩
   unfold aDZ
   simp only [cG,e0,e1,e2,e3,e4,bs,bQ,reduceIte]
  ·
   refine zk (zr (zq 2 (zn ?_)))
   refine nx 5 ⟨by omega,fun _ => hc0_0 oW,fun _ => hc1_0 oW,fun _ => hc2_0 oW,fun _ => hc3_0 oW,fun _ => h4⟩ (by show 5 - 5 < 5 - 4; omega)
 ·
  refine zQ 1 (zn (zs (dE (aU (zQ 1 (zn (aA (aH [4] [(I6 0)] (fun W' hM => ?_)))))))))
  have e0 : (mK p l) = true := by simpa using (hc0_0 oW)
  have e1 : (oY l q) = true := by simpa using (hc1_0 oW)
  have e2 : (aAz [] q) = true := by simpa using (hc2_0 oW)
  have e3 : (pA l [] q) = true := by simpa using (hc3_0 oW)
  have e4 : (pM l q) = true := by simpa using (hc4_0 oW)
  refine ⟨?_,hM.below⟩
  unfold aDZ
  simp only [cG,e0,e1,e2,e3,e4,bs,bQ,reduceIte]
theorem aES {p : Pr} {l : List Bk} (h : aZ p l = 0) (h2 : aCg l = none) : jP p l = 2 := by
 unfold jP
 rw [h, h2]
 rfl
theorem aER {p : Pr} {l : List Bk} {q : List Op} (h : aZ p l = 0) (h2 : aCg l = some q) : jP p l = aDZ p l q := by
 unfold jP
 rw [h, h2]
 rfl
theorem eI {p : Pr} {l : List Bk} (h : aZ p l = 0) : l.length ≤ 16 ∧ ∀ x ∈ l, x.d.length ≤ 4000 := by
 unfold aZ aAB at h
 split at h
 · next h1 => rw [show ([], eO p l).2 = eO p l from rfl] at h; rw [h] at h1; cases h1
 ·
  next hp =>
  split at h
  · next h1 => rw [show ([], gW p l).2 = gW p l from rfl] at h; rw [h] at h1; cases h1
  ·
   next h2 =>
   have hp0 : eO p l = 0 := by simpa using hp
   refine ⟨aB5 (by simpa using h2), fun x hx => ?_⟩
   have hb : oU l = 0 := by
    unfold eO at hp0
    split at hp0
    · next h1 => rw [hp0] at h1; cases h1
    · exact hp0
   have hr : aG x = 0 := by
    unfold oU at hb
    split at hb
    ·
     next y hy =>
     have := List.find?_some hy
     rw [hb] at this
     cases this
    ·
     next hn =>
     have := List.find?_eq_none.1 hn x hx
     simpa using this
   have := (fK hr).2.2.2.2.2
   omega
theorem aF3 {l : List Bk} {q : List Op} (h : aCg l = some q) : q.length ≤ 32 * l.length := by
 unfold aCg at h
 split at h
 · cases h
 ·
  next se h1 =>
  split at h
  · cases h
  ·
   next si h2 =>
   obtain rfl := Option.some.inj h
   have a1 := oO h1
   have a2 := oO h2
   rw [List.length_append]
   omega
theorem aHd (eA : Addr) (p : Pr) (l : List Bk) (a : Option Addr) (c : Nat) (w : World) {U : View} (hU : See U w) (hE : EF U eA) (hp : p.ok) (hl : cX U a l) : CP 80 #[bnV p a l.length c] w (Ret (.int .i64 (jP p l)) w) := by
 refine eG 22 Tryz.func80 hU ?_
 refine zs (zr (cJ (fun b0 => (zq 1 (zn (zs (zB [1] [(b0,20)] (dA 115 #[(bnV p a l.length c)] (I6 (aZ p l)) (fun W hM => rK p l _ _ W hM.view hp hl) ?_))))))))
 refine zq 1 (zn (zQ 2 (zn (cD ((aZ p l) != 0) (fun h0 => ?_) (fun h0 => ?_)))))
 ·
  refine zQ 2 (zn (aA (aH [2] [(I6 (aZ p l))] (fun W' hM => ?_))))
  refine ⟨?_,hM.below⟩
  unfold jP
  rw [if_pos h0]
  rfl
 ·
  have h0d := bne_eq_false_iff_eq.1 h0
  refine zk (zB [1] [(b0,20)] ?_)
  rcases Bool.eq_false_or_eq_true ((aCg l).isSome) with h1 | h1
  ·
   refine oH 82 #[(bnV p a l.length c)] (fun v σ' => aBU (aCg l) v σ') kR (fun W hM => aC4 eA p l _ _ (hE.le hM.view) (hl.le hM.view) (fun x hx => by have := (eI (by simpa using h0 : aZ p l = 0)).2 x hx; omega) (by have := (eI (by simpa using h0 : aZ p l = 0)).1; omega) (Mem.all W)) kR kR (fun v1 s1 hP1 => ?_)
   obtain ⟨q1,hq1⟩ := Option.isSome_iff_exists.1 h1
   rw [hq1] at hP1
   obtain ⟨r1,xs1,L1,rfl,rfl,hr1,hL1⟩ := hP1
   have hn1 := aF3 hq1
   have hm1 := (eI (by simpa using h0 : aZ p l = 0)).1
   refine zq 5 (zn (zs (zQ 2 (zn (dE (zk (zB [1,0] [(b0,20)] ?_)))))))
   refine aAx 20 r1 xs1 3 q1.length [(bK b0 (eB p a l.length c) 29)] 153 kR hr1.ok kR (fun a2 c2 V2 hV2 hR2 hE2 => ?_)
   have k3 := hl.le hV2
   have k4 := (hr1.opAny (V' := U)).le hV2
   have hL2 := k4.done (by decide) hR2 (View.le_refl _) (by unfold R47; omega)
   rw [hL1] at hL2
   refine dA 85 #[(bnV p a l.length c),(.slice a2 q1.length c2)] (I6 (aDZ p l q1)) (fun W hM => aCk p l _ _ q1 _ _ W hM.view k3 hL2) ?_
   refine zq 1 (zn (aA (aH [2] [(I6 (aDZ p l q1))] (fun W' hM => ?_))))
   refine ⟨?_,hM.below⟩
   rw [aER (by simpa using h0 : aZ p l = 0) hq1]
   rfl
  ·
   refine oH 82 #[(bnV p a l.length c)] (fun v σ' => aBU (aCg l) v σ') kR (fun W hM => aC4 eA p l _ _ (hE.le hM.view) (hl.le hM.view) (fun x hx => by have := (eI (by simpa using h0 : aZ p l = 0)).2 x hx; omega) (by have := (eI (by simpa using h0 : aZ p l = 0)).1; omega) (Mem.all W)) kR kR (fun v5 s5 hP5 => ?_)
   have hq5 := Option.not_isSome_iff_eq_none.1 (by rw [h1]; exact Bool.false_ne_true)
   rw [hq5] at hP5
   obtain ⟨rfl,rfl⟩ := hP5
   refine lV U _ (fun _ h => h.eqv (List.append_nil _)) ?_
   refine zq 5 (zn (zs (zQ 2 (zn (dF (zQ 2 (zn (aA (aH [2] [(I6 2)] (fun W' hM => ?_))))))))))
   refine ⟨?_,hM.below⟩
   rw [aES (by simpa using h0 : aZ p l = 0) hq5]
   rfl
section
variable {P : Program} {n : Nat} {W0 : Cx} {Q : XQ} {s : cB} {U : View} {σ : aF} {ops : Array Oper} {l : List Oper} {o : Oper}
theorem aM4 (k b f : Nat) (cs ys : List Value) (t ty : TypeId) (x : Operand) (ho : o.op = .load ty x) (hx : evS s x = some (.pointer (some ⟨b, f, none⟩))) (hk : σ[k]? = some (b, .cells cs.toArray t (0, 0))) (hr : ∀ j v, ys[j]? = some v → cs[f + j]? = some v) (d : TypeDesc) (hu : P.underlying ty = some d) (hrow : d.isRow = true) (hi : (P.info? ty).map (·.size) = some ys.length)
  (hd : eL n o = true) (hw : cZ ops s o = some true) (h : SXL P n W0 Q ops l (jX o (.agg ys.toArray) s) U σ) : SXL P n W0 Q ops (o :: l) s U σ := by
 refine oG hd hw fun a W ha hM K hK => ?_
 have hR := cW hM k b cs t hk
 refine wp_load_mid ty x ho b f (dZ ha hx) ys d (fun j v hv => ?_) hu hrow hi ?_
 ·
  have := hR (f + j) v (hr j v hv)
  rwa [Nat.zero_add] at this
 · exact hK _ _ _ _ _ h (eD ha hd) hM
end
section
variable {P : Program} {n : Nat} {W0 : Cx} {s : cB} {U : View} {σ : aF} {ops : Array Oper} {ds : List Nat} {vs : List Sq}
end
abbrev RG := (Nat → Bool) → (Nat → Value) → View → aF → Prop
def Ch2 (i j : Nat) (init : aF) (A1 A2 : Value → View → aF → Prop) : RG := fun L u V S => if L j then A2 (u i) V S else if L i then A1 (u i) V S else S = init
def aJ4 (R : RG) : Prop := ∀ L u V V' S, View.le V V' → R L u V S → R L u V' S
def aJ5 (c : Nat → Bool) (R : RG) : Prop := ∀ k L u v V S, c k = false → R L u V S → R (fun j => if j = k then true else L j) (fun j => if j = k then v else u j) V S
theorem Ch2.mono {i j : Nat} {init : aF} {A1 A2 : Value → View → aF → Prop} (h1 : ∀ v V V' S, View.le V V' → A1 v V S → A1 v V' S) (h2 : ∀ v V V' S, View.le V V' → A2 v V S → A2 v V' S) : aJ4 (Ch2 i j init A1 A2) := fun L u V V' S hl h => by
 unfold Ch2 at h ⊢
 split at h
 · next h0 => rw [if_pos h0]; exact h2 _ _ _ _ hl h
 ·
  next h0 =>
  rw [if_neg h0]
  split at h
  · next h3 => rw [if_pos h3]; exact h1 _ _ _ _ hl h
  · next h3 => rw [if_neg h3]; exact h
theorem Ch2.keep {i j : Nat} {init : aF} {A1 A2 : Value → View → aF → Prop} : aJ5 (fun k => k == i || k == j) (Ch2 i j init A1 A2) := fun k L u v V S hk h => by
 simp only [Bool.or_eq_false_iff, beq_eq_false_iff_ne] at hk
 have e1 : (if i = k then v else u i) = u i := if_neg fun e => hk.1 e.symm
 have e2 : (if i = k then true else L i) = L i := if_neg fun e => hk.1 e.symm
 have e3 : (if j = k then true else L j) = L j := if_neg fun e => hk.2 e.symm
 show if (if j = k then true else L j) then A2 (if i = k then v else u i) V S else if (if i = k then true else L i) then A1 (if i = k then v else u i) V S else S = init
 rw [e1, e2, e3]
 exact h
theorem Ch2.first {i j : Nat} {init : aF} {A1 A2 : Value → View → aF → Prop} {L : Nat → Bool} {u : Nat → Value} {v : Value} {V : View} {S : aF} (hij : i ≠ j) (hj : L j = false) (h : A1 v V S) : Ch2 i j init A1 A2 (fun x => if x = i then true else L x) (fun x => if x = i then v else u x) V S := by
 have e3 : (if j = i then true else L j) = false := (if_neg fun e => hij e.symm).trans hj
 show if (if j = i then true else L j) then A2 (if i = i then v else u i) V S else if (if i = i then true else L i) then A1 (if i = i then v else u i) V S else S = init
 have e4 : (if i = i then v else u i) = v := if_pos rfl
 rw [e3, e4, if_neg Bool.false_ne_true, if_pos (by rw [if_pos rfl])]
 exact h
theorem Ch2.second {i j : Nat} {init : aF} {A1 A2 : Value → View → aF → Prop} {L : Nat → Bool} {u : Nat → Value} {v : Value} {V : View} {S : aF} (hij : i ≠ j) (h : A2 (u i) V S) : Ch2 i j init A1 A2 (fun x => if x = j then true else L x) (fun x => if x = j then v else u x) V S := by
 have e1 : (if i = j then v else u i) = u i := if_neg hij
 show if (if j = j then true else L j) then A2 (if i = j then v else u i) V S else if (if i = j then true else L i) then A1 (if i = j then v else u i) V S else S = init
 rw [e1, if_pos (by rw [if_pos rfl])]
 exact h
section
variable {P : Program} {n : Nat} {W0 : Cx} {s : cB} {U : View} {σ0 : aF}
def GQ (P : Program) (n : Nat) (W0 : Cx) (U : View) (ops : Array Oper) (ds : List Nat) (vs : List Sq) (s : cB) (R : RG) (k : Nat) : Prop :=
 ∃ (o : Oper) (ts : List Nat) (vals : (Nat → Value) → List Value), ops[k]? = some o ∧ o.guard = none ∧ (∀ u, (ts.map fun x => look (jZ ops ds vs u k ++ aV s ds) x) = (vals u).map some) ∧
  ∀ (L : Nat → Bool) (u : Nat → Value) (V : View) (own : aF), View.le U V → (∀ j, cI .any ops k j = true → gJ vs j (u j) V) → (∀ j, cI .any ops k j = true → L j = true) → (∀ k j, L k = true → cI .any ops k j = true → L j = true) → L k = false → R L u V own →
   ∀ (rest : aF) (a : Act) (W : World), pD n (ts.zip (vals u)) a → Mem W0 V (own ++ rest) W → ∀ (Q : Exit → Act → World → Prop) (K : Act → World → Prop),
    (∀ v W' V' own', View.le V V' → Mem W0 V' (own' ++ rest) W' → R (fun j => if j = k then true else L j) (fun j => if j = k then (if o.dst.isSome then v else u k) else u j) V' own' → qE vs k (if o.dst.isSome then v else u k) V' → K (a.put o.dst v) W') → o.wp P a W K Q
def ObG (P : Program) (n : Nat) (W0 : Cx) (U : View) (σ : aF) (ops : Array Oper) (ds : List Nat) (vs : List Sq) (s : cB) (ca cb : Nat → Bool) (RA RB : RG) (k : Nat) : Prop :=
 if ca k then GQ P n W0 U ops ds vs s RA k else if cb k then GQ P n W0 U ops ds vs s RB k else ∀ σ', Oq P n W0 U (σ ++ σ') ops ds vs s k
theorem ObG.o {σ : aF} {ops : Array Oper} {ds : List Nat} {vs : List Sq} {ca cb : Nat → Bool} {RA RB : RG} (k : Nat) (h1 : ca k = false) (h2 : cb k = false) (h : ∀ σ', Oq P n W0 U (σ ++ σ') ops ds vs s k) : ObG P n W0 U σ ops ds vs s ca cb RA RB k := by
 unfold ObG
 rw [if_neg (by rw [h1]; exact Bool.false_ne_true), if_neg (by rw [h2]; exact Bool.false_ne_true)]
 exact h
theorem ObG.a {σ : aF} {ops : Array Oper} {ds : List Nat} {vs : List Sq} {ca cb : Nat → Bool} {RA RB : RG} (k : Nat) (h1 : ca k = true) (h : GQ P n W0 U ops ds vs s RA k) : ObG P n W0 U σ ops ds vs s ca cb RA RB k := by
 unfold ObG
 rw [if_pos h1]
 exact h
theorem ObG.b {σ : aF} {ops : Array Oper} {ds : List Nat} {vs : List Sq} {ca cb : Nat → Bool} {RA RB : RG} (k : Nat) (h1 : ca k = false) (h2 : cb k = true) (h : GQ P n W0 U ops ds vs s RB k) : ObG P n W0 U σ ops ds vs s ca cb RA RB k := by
 unfold ObG
 rw [if_neg (by rw [h1]; exact Bool.false_ne_true), if_pos h2]
 exact h
theorem GQ.alloc {ops : Array Oper} {ds : List Nat} {vs : List Sq} {i j : Nat} {x : Obj} {A2 : Value → View → aF → Prop} (hij : i ≠ j) (hw : cI .any ops j i = true) (hv : vs[i]? = some (.mem fun _ _ => True)) (vf : Nat → Value) (ts : List Nat) (vals : (Nat → Value) → List Value) (hsl : ∀ u, (ts.map fun x => look (jZ ops ds vs u i ++ aV s ds) x) = (vals u).map some)
  (h : ∃ o, ops[i]? = some o ∧ o.guard = none ∧ o.dst.isSome = true ∧ ∀ (u : Nat → Value), makes P (ts.zip (vals u)) o = some (x, fun r => some (vf r))) : GQ P n W0 U ops ds vs s (Ch2 i j [] (aAv vf x) A2) i := by
 obtain ⟨o, ho, hg, hd, hm⟩ := h
 refine ⟨o, ts, vals, ho, hg, hsl, fun L u V own hl hdp hdl hcl hLk hR rest a W ha hM Q K hK => ?_⟩
 have hLj : L j = false := by
  cases hj : L j with
  | false => rfl
  | true => rw [hcl j i hj hw] at hLk; cases hLk
 have hown : own = [] := by
  unfold Ch2 at hR
  rw [if_neg (by rw [hLj]; exact Bool.false_ne_true), if_neg (by rw [hLk]; exact Bool.false_ne_true)] at hR
  exact hR
 subst hown
 unfold Oper.wp
 rw [mV ha (hm u)]
 have hM1 : Mem W0 V rest W := hM
 refine hK _ _ V [(W.heap.size, x)] (View.le_refl _) ((hM1.alloc x).perm List.perm_append_comm) ?_ ?_
 ·
  rw [if_pos hd]
  exact Ch2.first hij hLj ⟨W.heap.size, rfl, rfl⟩
 ·
  rw [if_pos hd]
  unfold qE
  rw [hv]
  trivial
theorem GQ.store {ops : Array Oper} {ds : List Nat} {vs : List Sq} {i j : Nat} {x : Obj} {vf : Nat → Value} {A2 : Value → View → aF → Prop} (hij : i ≠ j) (hw : cI .any ops j i = true) (hv : vs[j]? = some (.mem fun _ _ => True))
  (h : ∃ (o : Oper) (ts : List Nat) (vals : (Nat → Value) → List Value), ops[j]? = some o ∧ o.guard = none ∧ o.dst = none ∧ (∀ u, (ts.map fun x => look (jZ ops ds vs u j ++ aV s ds) x) = (vals u).map some) ∧
   ∀ (u : Nat → Value) (V : View) (b : Nat), View.le U V → (∀ k, cI .any ops j k = true → gJ vs k (u k) V) → u i = vf b → ∃ x2, stK P [(b, x)] 0 (ts.zip (vals u)) o = some (b, b, x2) ∧ A2 (u i) V [(b, x2)]) : GQ P n W0 U ops ds vs s (Ch2 i j [] (aAv vf x) A2) j := by
 obtain ⟨o, ts, vals, ho, hg, hd, hsl, hgo⟩ := h
 refine ⟨o, ts, vals, ho, hg, hsl, fun L u V own hl hdp hdl hcl hLk hR rest a W ha hM Q K hK => ?_⟩
 have hLi : L i = true := hdl i hw
 have hA : aAv vf x (u i) V own := by
  unfold Ch2 at hR
  rw [if_neg (by rw [hLk]; exact Bool.false_ne_true), if_pos hLi] at hR
  exact hR
 obtain ⟨b, hub, rfl⟩ := hA
 obtain ⟨x2, hst, hA2⟩ := hgo u V b hl hdp hub
 have hst' : stK P ([(b, x)] ++ rest) 0 (ts.zip (vals u)) o = some (b, b, x2) := by
  unfold stK at hst ⊢
  exact hst
 refine aM9 0 b x2 hst' hd ha hM fun W' hM' => ?_
 have := hK undef W' V [(b, x2)] (View.le_refl _) hM' (Ch2.second hij hA2) (by unfold qE; rw [hv]; trivial)
 rw [hd] at this
 exact this
structure aOI (W0 : Cx) (U : View) (σ : aF) (vs : List Sq) (m : Nat) (RA RB : RG) (L : Nat → Bool) (u : Nat → Value) (w : World) (V : View) (SA SB : aF) : Prop where
 le : View.le U V
 mem : Mem W0 V (SA ++ (SB ++ σ)) w
 at_ : ∀ j, j < m → L j = true → qE vs j (u j) V
 a : RA L u V SA
 b : RB L u V SB
theorem aF1 (A B C : aF) : (A ++ (B ++ C)).Perm (B ++ (A ++ C)) := by
 rw [← List.append_assoc, ← List.append_assoc]
 exact List.Perm.append_right C List.perm_append_comm
theorem aF2 (A B C : aF) : (A ++ (B ++ C)).Perm (C ++ (A ++ B)) := by
 rw [← List.append_assoc]
 exact List.perm_append_comm
theorem aH8 {id : Nat} {l : List Oper} {Q : XQ} (m f r : Nat) (ds : List Nat) (vs : List Sq) (ca cb : Nat → Bool) (RA RB : RG) (SA SB σ : aF) (hσ : σ0.Perm (SA ++ (SB ++ σ))) (hA0 : ∀ u, RA (fun _ => false) u U SA) (hB0 : ∀ u, RB (fun _ => false) u U SB)
  (hAm : aJ4 RA) (hBm : aJ4 RB) (hAk : aJ5 ca RA) (hBk : aJ5 cb RB) (hab : ∀ k, ca k = true → cb k = false)
  (hm : P.follows .mixedOrders = true) (hsz : l.length = m + f) (hlen : ds.length = m)
  (hds : aBx l.toArray ds = true) (hnd : nodupB ds = true) (hlt : (ds.all fun d => Nat.blt d n) = true) (hedge : eQ .any l.toArray m = true) (htail : iY .any l.toArray m r = true) (hchain : fY l.toArray m f = true) (hmo : ∀ q ∈ vs, oZ q)
  (hsome : ((List.range m).all fun k => (ca k || cb k) || ((l.toArray[k]?).bind (·.dst)).isSome) = true)
  (obs : Go.Proofs.YtcdjakemdlinhaaGreatDoor.Steps (ObG P n W0 U σ l.toArray ds vs s ca cb RA RB) 0 m)
  (ts : List Nat) (vals : (Nat → Value) → List Value) (hsl : ∀ u, (ts.map fun t => look (aDh u 0 ds vs ++ aV s ds) t) = (vals u).map some)
  (h : ∀ (L : Nat → Bool) (u : Nat → Value) (V : View) (SA SB : aF), View.le U V → (∀ j, j < m → L j = true) → (∀ j, j < m → gJ vs j (u j) V) → RA L u V SA → RB L u V SB → SXL P n W0 Q l.toArray (l.drop m) (ts.zip (vals u)) V (SA ++ (SB ++ σ))) : SXC P n W0 Q (.region id l.toArray true) s U σ0 := by
 refine ⟨fun a W ha hM => ?_⟩
 have hn := iI hnd
 have hd : ∀ d ∈ ds, d < n := fun d hd => by have := List.all_eq_true.1 hlt d hd; simpa [Nat.blt_eq] using this
 refine qT m f r ds (fun L u w => ∃ V SA SB, aOI W0 U σ vs m RA RB L u w V SA SB) hm (by simpa using hsz) hlen hds hnd hedge htail ?_ ?_ ?_
 ·
  intro u
  exact ⟨U, SA, SB, ⟨View.le_refl _, (hM.perm hσ).drew, fun j _ hj => by simp at hj, hA0 u, hB0 u⟩⟩
 ·
  rintro k hkm L u w ⟨V, SA, SB, I⟩ hLk hwt hcl K hK
  have hob := obs.get k (Nat.zero_le _) oW
  have hmk : ∀ (v : Value) (V' : View), View.le V V' → qE vs k v V' → ∀ j, j < m → (if j = k then true else L j) = true → qE vs j (if j = k then v else u j) V' := fun v V' hl hs j hj hL => by
   by_cases e : j = k
   ·
    subst e
    rw [if_pos rfl]
    exact hs
   ·
    rw [if_neg e] at hL ⊢
    exact (I.at_ j hj hL).le hmo hl
  unfold ObG at hob
  split at hob
  ·
   next hka =>
   obtain ⟨o, ts, vals, ho, hgd, hsl, hgo⟩ := hob
   have hr := mQ (a0 := a) (u := u) (V := V) (vs := vs) (ops := l.toArray) k ha hn hd fun j hj => .inl (I.at_ j (hwt j hj).2 (hwt j hj).1)
   unfold wpOp
   simp only [ho, Region.wanted, hgd, if_true]
   left
   refine hgo L u V SA I.le (fun j hj => (I.at_ j (hwt j hj).2 (hwt j hj).1).phi) (fun j hj => (hwt j hj).1) hcl hLk I.a (SB ++ σ) _ w (fX ts _ hr (hsl u)) I.mem _ _ fun v w' V' own' hl hM' hR' hs' => ?_
   have := hK v w' ⟨V', own', SB, ?_⟩
   ·
    rw [ho] at this
    exact this
   ·
    rw [ho]
    exact ⟨View.le_trans I.le hl, hM', hmk _ _ hl hs', hR', hBm _ _ _ _ _ hl (hBk k L u _ V SB (hab k hka) I.b)⟩
  ·
   next hka =>
   split at hob
   ·
    next hkb =>
    obtain ⟨o, ts, vals, ho, hgd, hsl, hgo⟩ := hob
    have hr := mQ (a0 := a) (u := u) (V := V) (vs := vs) (ops := l.toArray) k ha hn hd fun j hj => .inl (I.at_ j (hwt j hj).2 (hwt j hj).1)
    unfold wpOp
    simp only [ho, Region.wanted, hgd, if_true]
    left
    refine hgo L u V SB I.le (fun j hj => (I.at_ j (hwt j hj).2 (hwt j hj).1).phi) (fun j hj => (hwt j hj).1) hcl hLk I.b (SA ++ σ) _ w (fX ts _ hr (hsl u)) (I.mem.perm (aF1 _ _ _)) _ _ fun v w' V' own' hl hM' hR' hs' => ?_
    have := hK v w' ⟨V', SA, own', ?_⟩
    ·
     rw [ho] at this
     exact this
    ·
     rw [ho]
     exact ⟨View.le_trans I.le hl, hM'.perm (aF1 _ _ _), hmk _ _ hl hs', hAm _ _ _ _ _ hl (hAk k L u _ V SA (by simpa using hka) I.a), hR'⟩
   ·
    next hkb =>
    have hka' : ca k = false := by simpa using hka
    have hkb' : cb k = false := by simpa using hkb
    have hsk : ((l.toArray[k]?).bind (·.dst)).isSome = true := by
     have := List.all_eq_true.1 hsome k (List.mem_range.2 hkm)
     rw [hka', hkb', Bool.or_false, Bool.false_or] at this
     exact this
    have hM0 : Mem W0 V (σ ++ (SA ++ SB)) w := I.mem.perm (aF2 _ _ _)
    refine ((hob (SA ++ SB)).go a (up n W0 Q) ha hn hd hmo).step u w (hM0.weak I.le) (fun j hj => (I.at_ j (hwt j hj).2 (hwt j hj).1).isQ hM0 I.le) K fun v w' hM' hE hv => ?_
    obtain ⟨V', h1, h2, h3⟩ := hv.at hM'
    obtain ⟨q1, q2, q3⟩ := Mem.join (hM0.call hE) h2
    refine hK v w' ⟨V.or V', SA, SB, ⟨View.le_trans I.le q2, q1.perm (aF2 _ _ _).symm, ?_, hAm _ _ _ _ _ q2 (hAk k L u _ V SA hka' I.a), hBm _ _ _ _ _ q2 (hBk k L u _ V SB hkb' I.b)⟩⟩
    rw [if_pos hsk]
    exact hmk _ _ q2 (h3.le hmo q3)
 ·
  rintro L u W' ⟨V, SA, SB, I⟩ hL
  refine gZ f m _ W' (by simpa using hsz.symm) hchain ?_
  have hg := fun t => fP ds 0 u a t hn (by rw [ha.size]; exact hd)
  have hph : ∀ j, j < m → gJ vs j (u j) V := fun j hj => (I.at_ j hj (hL j hj)).phi
  refine (h L u V SA SB I.le hL hph I.a I.b).go _ W' (fX ts _ (s' := aDh u 0 ds vs ++ aV s ds) ⟨by rw [(hg 0).2.2.1, ha.size], by rw [(hg 0).2.2.2, ha.defers], fun x v hl => ?_⟩ (hsl u)) I.mem
  rcases eP _ _ _ _ hl with hl | ⟨_, hl⟩
  ·
   have hmem := iJ _ _ _ hl
   obtain ⟨j, q, hd2, hvq, hq⟩ := lZ u 0 _ _ _ _ hmem
   have hjl : j < ds.length := (List.getElem?_eq_some_iff.1 hd2).1
   rw [(hg x).1 j hd2, Nat.zero_add]
   cases q with
   | val w =>
    simp only at hq
    have := I.at_ j oW (hL j oW)
    unfold qE at this
    rw [hvq] at this
    simp only at this
    rw [this, hq]
   | mem Φ => simp only [Nat.zero_add] at hq; rw [hq]
  ·
   obtain ⟨h1, h2⟩ := eW _ _ _ _ hl
   rw [(hg x).2.1 h1]
   exact ha.slots x v h2
end
end Go.Proofs.YtcdjakemdlinhaaGreatDoor.Sx
namespace Go.Proofs.YtcdjakemdlinhaaGreatDoor
open Go.ChangeShapes Go.WideShapes Go.ChangeAt Go.RowKit Go.Deep
def pE (w : World) (b : Nat) (t : TypeId) (k : IntKind) (l : List Nat) : Prop := w.heap[b]? = some (.cells (aHM k l) t (0, 0))
theorem pE.cell {w : World} {b : Nat} {t : TypeId} {k : IntKind} {l : List Nat} (h : pE w b t k l) (i : Nat) (hi : i < l.length) : w.cell? ⟨b, i, none⟩ = some (.int k ((l.getD i 0 : Nat) : Int)) := by
 rw [cell_of_row _ b i _ _ _ h, aIR k hi]
theorem pE.frozen {w : World} {b : Nat} {t : TypeId} {k : IntKind} {l : List Nat} (h : pE w b t k l) (i : Nat) : w.frozen? ⟨b, i, none⟩ = false := frozen_of_row w b i _ t h
theorem pE.set {w : World} {b : Nat} {t : TypeId} {k : IntKind} {l : List Nat} (h : pE w b t k l) (i v : Nat) : pE (w.setCell ⟨b, i, none⟩ (.int k (v : Int))) b t k (l.set i v) := by
 unfold pE
 rw [Go.heap_setCell_same w b i _ t _ h, aK1]
theorem pE.new (w : World) (t : TypeId) (k : IntKind) (l : List Nat) : pE (w.alloc (.cells (aHM k l) t)) w.heap.size t k l := heap_alloc_last w _
end Go.Proofs.YtcdjakemdlinhaaGreatDoor
namespace Go.Proofs.YtcdjakemdlinhaaGreatDoor.Eng
open Go.ChangeShapes Go.WideShapes Go.ChangeAt Go.RowKit Go.Deep Go.Great
def keyBytes (n : Int) : Int := if n = 1 then 16 else if n = 3 then 32 else 0
def bits (n : Int) : Int := if n = 5 then 256 else if n = 6 then 384 else if n = 7 then 512 else 0
def size (n : Int) : Int := if n = 1 then 16 else if n = 3 then 16 else if n = 5 then 32 else if n = 6 then 48 else if n = 7 then 64 else 0
theorem aAs (n : Int) (w : World) : Calls Tryz.prog 155 #[.int .i64 n] w fun e w' => e = .returned (.int .i64 (keyBytes n)) ∧ w = w' := by
 go_enter Tryz.func155, Tryz.ntmps155
 go_wp2
 all_goals (go_ret; refine ⟨?_, rfl⟩; simp_all [keyBytes])
theorem aLy (n : Int) (w : World) : Calls Tryz.prog 145 #[.int .i64 n] w fun e w' => e = .returned (.int .i64 (bits n)) ∧ w = w' := by
 go_enter Tryz.func145, Tryz.ntmps145
 go_wp2
 all_goals (go_ret; refine ⟨?_, rfl⟩; simp_all [bits])
theorem aKs (n : Int) (w : World) : Calls Tryz.prog 294 #[.int .i64 n] w fun e w' => e = .returned (.int .i64 (size n)) ∧ w = w' := by
 have hs : size n = if 0 < keyBytes n then 16 else bits n / 8 := by unfold size keyBytes bits; (repeat' split) <;> first | rfl | omega
 have hb : 0 ≤ bits n ∧ bits n ≤ 512 := by unfold bits; (repeat' split) <;> omega
 have H := Lib.hid hs
 clear hs
 go_enter Tryz.func294, Tryz.ntmps294
 go_wp2_with (first | (go_at_call 155; refine (aAs _ _).mono ?_; rintro e w' ⟨rfl, rfl⟩) | (go_at_call 145; refine (aLy _ _).mono ?_; rintro e w' ⟨rfl, rfl⟩))
 · go_ret; exact ⟨by rw [H.out, if_pos (by assumption)]; rfl, rfl⟩
 · go_ret; exact ⟨by rw [H.out, if_neg oW]; rfl, rfl⟩
theorem aNr : (Tryz.prog.info? 5).map (fun i => (i.zero, i.size, i.bytes)) = some (some (.int .u8 0), 1, 1) := by kernel_rfl
def aCM (n : Nat) : List Nat := List.replicate n 0
theorem aAl (n : Nat) : (aCM n).length = n := List.length_replicate
theorem aHc (k : IntKind) (n : Nat) : madeCells #[.int k 0] n = aHM k (aCM n) :=
 Array.toList_inj.1 (by rw [toList_madeCells_one]; simp [aHM, aCM])
def aGi (id i : Nat) : Nat := id / 2 ^ (8 * (7 - i % 8)) % 256
def aI (id n : Nat) : List UInt8 := (tab (aGi id) n).map UInt8.ofNat
theorem iL (id n : Nat) : (aI id n).length = n := by rw [aI, List.length_map, aB0]
theorem aKh {i j n : Nat} (hn : 8 ≤ n) (hi : i < 256) (hj : j < 256) (h : i ≠ j) : aI i n ≠ aI j n := by
 intro e
 apply h
 have h1 := congrArg (fun l : List UInt8 => (l.getD 7 0).toNat) e
 have h2 : ∀ id, id < 256 → ((aI id n).getD 7 0).toNat = id := fun id hid => by
  have h3 := aLZ (aGi id) n 7 oW
  unfold aI
  simp only [List.getD, List.getElem?_map] at h3 ⊢
  rw [List.getElem?_eq_getElem (by rw [aB0]; omega)] at h3 ⊢
  simp only [Option.getD_some, Option.map_some] at h3 ⊢
  rw [h3]
  unfold aGi
  simp
  omega
 simp only [h2 i hi, h2 j hj] at h1
 exact h1
set_option maxRecDepth 100000 in
theorem aJv (ib l c n : Nat) (p : Option Addr) (w : World) (h : w.cell? ⟨ib, 0, none⟩ = some (.slice p l c)) (hl : l ≤ 1000) (hn : n ≤ 100000) : Calls Tryz.prog 293 #[.pointer (some ⟨ib, 0, none⟩), .int .i64 n] w fun e w' => e = .returned (.string (B (aI (l + 1) n))) ∧ Below w.heap.size w w' := by
 have hmk := run_make_row' (P := Tryz.prog) 160 5 (.int .u8 0) 1 Tryz.underlying160 aNr rfl .i64 .i64 n oW oW w
 rw [aHc] at hmk
 have hc : (w.alloc (.cells (aHM .u8 (aCM n)) 5)).cell? ⟨ib, 0, none⟩ = some (.slice p l c) := by
  rw [World.cell?_alloc_lt _ _ _ (World.block_lt_of_cell? w ⟨ib, 0, none⟩ h)]; exact h
 have HR := Lib.hid (show aI (l + 1) n = (tab (aGi (l + 1)) n).map UInt8.ofNat from rfl)
 obtain ⟨id, hid⟩ : ∃ id, l + 1 = id := ⟨_, rfl⟩
 have hidi : (l : Int) + 1 = (id : Int) := by omega
 have hidl : id ≤ 1001 := by omega
 rw [hid] at HR ⊢
 have HF := Lib.hid (show ∀ i, aGi id i = id / 2 ^ (8 * (7 - i % 8)) % 256 from fun _ => rfl)
 generalize aI id n = res at *
 generalize aGi id = ff at *
 have hwi : IntKind.u64.wrap (id : Int) = (id : Int) := by simp [IntKind.wrap, IntKind.bits, IntKind.signed]; omega
 clear hid
 go_enter Tryz.func293, Tryz.ntmps293
 go_wp2
 have hrow := pE.new w 5 .u8 (aCM n)
 have hbel : Below w.heap.size w (w.alloc (.cells (aHM .u8 (aCM n)) 5)) := by ((repeat' (with_reducible first | exact Below.refl _ _ | assumption | refine Below.drew ?_ | refine below_drewN ?_ _ | refine Below.setCell ?_ ?_ _ | refine Below.alloc ?_ ?_ _ | refine Below.ext ?_ ?_ _ | refine Below.trans ?_ (Below.mono ‹_› ?_))) <;> first | omega | (simp; done) | (simp; omega))
 clear hmk hc h hwi hidi
 generalize w.alloc (.cells (aHM .u8 (aCM n)) 5) = W1 at *
 go_loopw [19] (fun s19 wr => ∃ (i : Nat) (l : List Nat), i ≤ n ∧ s19 = .int .i64 i ∧ l = aBR ff (aCM n) i ∧ pE wr w.heap.size 5 .u8 l ∧ Below w.heap.size w wr) (fun s _ => n - (intOf s).toNat)
 case atStart => exact ⟨0, aCM n, by omega, rfl, rfl, hrow, hbel⟩
 case round =>
  clear hrow hbel W1
  obtain ⟨i, l, hi, rfl, hl, hrow, hbel⟩ := hrel
  have hll : l.length = n := by rw [hl, jI, aAl]
  have HL := Lib.hid hl
  have HBL := Lib.hid hbel
  by_cases hend : i = n
  ·
   have hlt : ¬ (i : Int) < (n : Int) := by omega
   have hst := aIg (P := Tryz.prog) wr 160 9 5 ⟨w.heap.size, 0, none⟩ n n l Tryz.underlying160 Tryz.underlying5 Tryz.underlying9 hll (fun j hj => by
    have e1 : (⟨w.heap.size, 0, none⟩ : Addr).add j = ⟨w.heap.size, j, none⟩ := by simp [Addr.add]; omega
    rw [e1]; exact hrow.cell j oW)
   have hres : NB l = B res := by
    rw [HL.out, hend, aHs _ (aAl n), HR.out]; rfl
   rw [hres] at hst
   clear hend hres hl hbel hrow
   go_wp2
   go_ret
   exact ⟨rfl, HBL.out⟩
  ·
   have hlt : (i : Int) < (n : Int) := by omega
   have hcl := hrow.cell i oW
   have hfz := hrow.frozen i
   have HROW := Lib.hid hrow
   obtain ⟨r, hr⟩ : ∃ r, i % 8 = r := ⟨_, rfl⟩
   have hr8 : r < 8 := by omega
   obtain ⟨s, hs⟩ : ∃ s, 7 - r = s := ⟨_, rfl⟩
   have hsub : (7 : Int) - (r : Int) = (s : Int) := by omega
   obtain ⟨m, hm⟩ : ∃ m, 8 * s = m := ⟨_, rfl⟩
   have hmul : (8 : Int) * (s : Int) = (m : Int) := by omega
   have hm64 : (m : Int) < 64 := by omega
   have hm0 : (0 : Int) ≤ (m : Int) := by omega
   obtain ⟨y, hy⟩ : ∃ y, ff i = y := ⟨_, rfl⟩
   have hvi : (id : Int) / 2 ^ m % 256 = (y : Int) := by rw [← hy, HF.out, hr, hs, hm]; simp
   have hvw : IntKind.u8.wrap ((id : Int) / 2 ^ m) = (y : Int) := by rw [← hvi]; simp [IntKind.wrap, IntKind.bits, IntKind.signed]
   have htm : (i : Int).tmod 8 = (r : Int) := by rw [Int.tmod_eq_emod_of_nonneg (Int.natCast_nonneg _)]; omega
   have HY := Lib.hid hy
   have HR2 := Lib.hid (hrow.set i y)
   have HB2 := Lib.hid (Below.setCell hbel (show w.heap.size ≤ (⟨w.heap.size, i, none⟩ : Addr).block from Nat.le_refl _) (.int .u8 (y : Int)))
   have hs7 : s ≤ 7 := by omega
   clear hl hrow hbel hr hs hm hy
   go_wp2
   go_round
   case rel => exact ⟨i + 1, l.set i y, by omega, by go_num, by rw [aBR, ← HL.out, HY.out], HR2.out, HB2.out⟩
   case measure => simp [intOf]; omega
end Go.Proofs.YtcdjakemdlinhaaGreatDoor.Eng
namespace Go.Proofs.YtcdjakemdlinhaaGreatDoor.Sx
open Go.ChangeShapes Go.WideShapes Go.ChangeAt Go.RowKit Go.Deep
theorem aHx {l : List Bk} (h : oU l = 0) : ∀ x ∈ l, aG x = 0 := fun x hx => by
 unfold oU at h
 split at h
 ·
  next y hy =>
  have := List.find?_some hy
  rw [h] at this
  cases this
 ·
  next hn =>
  have := List.find?_eq_none.1 hn x hx
  simpa using this
open Eng in
theorem size_pos (v : Int) : 0 ≤ size v ∧ size v ≤ 64 := by unfold size; (repeat' split) <;> omega
def dC (v : Int) : Nat := (Eng.size v).toNat
theorem aAG (v : Int) : dC v ≤ 64 := by have := (size_pos v).2; unfold dC; omega
theorem aJt (v : Int) (w : World) : CP 294 #[.int .i64 v] w (Ret (.int .i64 ((dC v : Nat) : Int)) w) := (Eng.aKs v w).mono fun e w' h => ⟨by rw [h.1]; unfold dC; rw [Int.toNat_of_nonneg (size_pos v).1], h.2 ▸ Below.refl _ _⟩
theorem aCr (ib l c n : Nat) (p : Option Addr) (w : World) {U : View} (hU : See U w) (h : U ⟨ib, 0, none⟩ = some (.slice p l c)) (hl : l ≤ 1000) (hn : n ≤ 100000) : CP 293 #[.pointer (some ⟨ib, 0, none⟩), .int .i64 (n : Int)] w (Ret (.string (B (Eng.aI (l + 1) n))) w) := Eng.aJv ib l c n p w (hU _ _ h) hl hn
def aMW (v : Int) (key nonce wth text made tag : List UInt8) : List Value := [.int .i64 v, .string (B key), .string (B nonce), .string (B wth), .string (B text), .string (B made), .string (B tag)]
def aBV (U : View) (eb ib : Nat) : Prop := U ⟨eb, 0, none⟩ = some (.iface 73 (.pointer (some ⟨ib, 0, none⟩)))
theorem aBV.le {U V : View} (h : View.le U V) {eb ib : Nat} (he : aBV U eb ib) : aBV V eb ib := h _ _ he
def aEB (ib : Nat) : aF := [(ib, .cells #[.slice none 0 0] 76 (0, 0))]
def aFG (r : Value) (V : View) (σ' : aF) : Prop := ∃ eb ib, r = .pointer (some ⟨eb, 0, none⟩) ∧ aBV V eb ib ∧ σ' = aEB ib
theorem aD6 {W0 : Cx} {U : View} {σF : aF} {W : World} (hM : Mem W0 U ([] ++ σF) W) : CP 14 #[] W (fN W0 U σF aFG) := by
 refine eC 6 Tryz.func14 hM ?_
 refine zQ 1 (zn (zQ 1 (dN 0 (fun b0 => ?_))))
 refine zq 2 (dN 1 (fun b1 => ?_))
 refine iE [(bK b0 [S0] 76)] ([] ++ σF) b1 [(.iface 73 (Pt b0 0))] 80 kR (fun V2 hV2 hR2 => ?_)
 refine zq 1 (zn (aA (aH [0] [(Pt b1 0)] (fun W' hM => ?_))))
 exact dP 0 1 (b0,.cells #[.slice none 0 0] 76 (0,0)) hM hV2 ⟨b1,b0,rfl,hR2 0 _ rfl,rfl⟩
def jD (kind t0 : Int) (o : Op) : Bool := kind == 2 && o.k == 1 && o.n == t0
theorem aK7 (x : Op) (kind t0 : Int) (pk pt bT fT nT cT : Nat) (w : World) {U : View} (hU : See U w) (hk : U ⟨pk, 0, none⟩ = some (.int .i64 kind)) (ht : U ⟨pt, 0, none⟩ = some (.slice (some ⟨bT, fT, none⟩) nT cT)) (hz0 : U ⟨bT, fT + 0, none⟩ = some (.int .i64 t0)) (hn : 0 < nT) : CP 84 #[x.V, .pointer (some ⟨pk, 0, none⟩), .pointer (some ⟨pt, 0, none⟩)] w (Ret (.bool (jD kind t0 x)) w) := by
 refine eG 20 Tryz.func84 hU ?_
 refine zs (zr (cJ (fun b0 => (zq 1 (zn (zs ?_))))))
 rcases Bool.eq_false_or_eq_true (kind == 2) with h0 | h0
 ·
  have h0d := eq_of_beq h0
  rcases Bool.eq_false_or_eq_true (x.k == 1) with h1 | h1
  ·
   have h1d := eq_of_beq h1
   refine gU 4 [1,1,0,0,3,1,0,0,0,3,1,1,1] [(b0,1),(b0,1)] [.val (I6 kind),.val (.bool true),.val (.bool true),.val (Sl bT fT nT cT),.val (Pt bT (fT + 0)),.val (I6 t0)] ⟨?_,?_,?_,?_,?_,?_,trivial⟩ ?_
   · exact vU1 pk (0) hk 3 _ _ Tryz.underlying3 rfl
   · exact vE (.bool (kind == 2)) (congrArg Value.bool h0)
   · exact vE (.bool (x.k == 1)) (congrArg Value.bool h1)
   · exact vU1 pt (0) ht 48 _ _ Tryz.underlying48 rfl
   · exact vR (fW _ 3 _ _ rfl bT fT nT cT 0 .i64 kR kR (by first | assumption | omega) kR kR)
   · exact vU1 bT (fT + 0) hz0 3 _ _ Tryz.underlying3 rfl
   refine zq 3 (zn (aA (aH [4] [(.bool (x.n == t0))] (fun W' hM => ?_))))
   exact ⟨by simp only [cG,jD,h0,h1,bs,bQ,reduceIte],hM.below⟩
  ·
   refine gU 4 [1,1,0,0,3,1,0,0,2,2,2,2,2] [(b0,1)] [.val (I6 kind),.val (.bool true),.val (.bool false)] ⟨?_,?_,?_,trivial⟩ ?_
   · exact vU1 pk (0) hk 3 _ _ Tryz.underlying3 rfl
   · exact vE (.bool (kind == 2)) (congrArg Value.bool h0)
   · exact vE (.bool (x.k == 1)) (congrArg Value.bool h1)
   refine zq 3 (zn (aA (aH [4] [(.bool false)] (fun W' hM => ?_))))
   exact ⟨by simp only [cG,jD,h0,h1,bs,bQ,reduceIte],hM.below⟩
 ·
  refine gU 4 [1,1,0,2,2,2,0,0,2,2,2,2,2] [] [.val (I6 kind),.val (.bool false)] ⟨?_,?_,trivial⟩ ?_
  · exact vU1 pk (0) hk 3 _ _ Tryz.underlying3 rfl
  · exact vE (.bool (kind == 2)) (congrArg Value.bool h0)
  refine zq 3 (zn (aA (aH [4] [(.bool false)] (fun W' hM => ?_))))
  exact ⟨by simp only [cG,jD,h0,bs,bQ,reduceIte],hM.below⟩
structure rP (U : View) (kind t0 : Int) (pk pt : Nat) : Prop where
 go : ∃ bT fT nT cT, U ⟨pk, 0, none⟩ = some (.int .i64 kind) ∧ U ⟨pt, 0, none⟩ = some (.slice (some ⟨bT, fT, none⟩) nT cT) ∧ U ⟨bT, fT + 0, none⟩ = some (.int .i64 t0) ∧ 0 < nT
theorem rP.le {U V : View} {kind t0 : Int} {pk pt : Nat} (h : View.le U V) (hs : rP U kind t0 pk pt) : rP V kind t0 pk pt := by
 obtain ⟨bT, fT, nT, cT, h1, h2, h3, h4⟩ := hs.go
 exact ⟨bT, fT, nT, cT, h _ _ h1, h _ _ h2, h _ _ h3, h4⟩
theorem aD0 (x : Op) (kind t0 : Int) (pk pt : Nat) (w : World) {U : View} (hU : See U w) (hs : rP U kind t0 pk pt) : CP 84 #[x.V, .pointer (some ⟨pk, 0, none⟩), .pointer (some ⟨pt, 0, none⟩)] w (Ret (.bool (jD kind t0 x)) w) := by
 obtain ⟨bT, fT, nT, cT, h1, h2, h3, h4⟩ := hs.go
 exact aK7 x kind t0 pk pt bT fT nT cT w hU h1 h2 h3 h4
def aBS (kind t0 : Int) : Nat → List Op → Int
 | _, [] => -1
 | i, x :: r => if jD kind t0 x then (i : Int) else aBS kind t0 (i + 1) r
theorem aCw {kind t0 : Int} {l : List Op} {i : Nat} {y : Op} (h : l[i]? = some y) : aBS kind t0 i (l.drop i) = if jD kind t0 y then (i : Int) else aBS kind t0 (i + 1) (l.drop (i + 1)) := by
 rw [cK h, aBS]
theorem aCv (kind t0 : Int) : ∀ (i : Nat) (l : List Op), (aBS kind t0 i l = -1 ∧ l.filter (fun o => !jD kind t0 o) = l) ∨ ∃ j : Nat, aBS kind t0 i l = ((i + j : Nat) : Int) ∧ j < l.length ∧ (l.take (j + 1)).filter (fun o => !jD kind t0 o) = l.take j
 | i, [] => .inl ⟨rfl, rfl⟩
 | i, x :: r => by
  rw [aBS]
  cases hx : jD kind t0 x with
  | true => exact .inr ⟨0, by simp, by simp, by simp [hx]⟩
  | false =>
   simp only [Bool.false_eq_true, if_false]
   rcases aCv kind t0 (i + 1) r with ⟨h1, h2⟩ | ⟨j, h1, h2, h3⟩
   · exact .inl ⟨h1, by rw [List.filter_cons, hx, h2]; rfl⟩
   ·
    refine .inr ⟨j + 1, by rw [h1]; congr 1; omega, by rw [List.length_cons]; omega, ?_⟩
    rw [List.take_succ_cons, List.take_succ_cons, List.filter_cons, hx, h3]
    rfl
theorem aEh (l : List Op) (a : Option Addr) (c : Nat) (kind t0 : Int) (pk pt : Nat) (w : World) {U : View} (hU : See U w) (hl : iM OpR 3 U a l) (hs : rP U kind t0 pk pt) :
    CP 126 #[.slice a l.length c, .func (.func 84) #[] #[.pointer (some ⟨pk, 0, none⟩), .pointer (some ⟨pt, 0, none⟩)]] w (Ret (.int .i64 (aBS kind t0 0 l)) w) := by
 have hlen := hl.len
 unfold R47 at hlen
 refine eG 19 Tryz.func126 hU ?_
 refine zQ 1 (zn (zs (zQ 3 (zn (aB (gX (α := Nat) (fun x => [0,1,4,7,8].zip [(.slice a l.length c),(.func (.func 84) #[] #[(Pt pk 0),(Pt pt 0)]),(I6 0),(L6 l.length),(L6 x)]) (fun x => U) (fun x => []) (fun x => x ≤ l.length ∧ aBS kind t0 x (l.drop x) = aBS kind t0 0 l) (fun x => l.length - x) 0 ?_ ?_))))))
 · exact ⟨Nat.zero_le _,rfl⟩
 intro x hx
 obtain ⟨hx1,hx2⟩ := hx
 refine zQ 1 (zn (zs (cD (decide ((x : Int) < (l.length : Int))) (fun h0 => ?_) (fun h0 => ?_))))
 ·
  have h0d := of_decide_eq_true h0
  refine zk (zs (aB (zQ 2 (zn (zQ 3 ?_)))))
  obtain ⟨y0,hy0⟩ : ∃ y,(l)[x]? = some y := ⟨(l)[x]'oW,List.getElem?_eq_getElem _⟩
  obtain ⟨b0,f0,cs0,rfl,hU0,hR0⟩ := hl.at_ x y0 hy0
  obtain rfl := hR0
  refine cH (Pt b0 (f0 + x * 3)) (rIx 153 rfl b0 f0 l.length c x 3) ?_
  refine zU b0 (f0 + x * 3) [(I6 y0.k),(I6 y0.n),(I6 y0.t)] hU0 153 (.tmp 14) _ Tryz.underlying153 rfl ?_
  refine dL (fun W hM => aD0 y0 kind t0 pk pt W hM.view hs) (zn (cD (jD kind t0 y0) (fun h1 => ?_) (fun h1 => ?_)))
  ·
   refine zQ 2 (zn (aA (aH [4] [(L6 x)] (fun W' hM => ?_))))
   refine ⟨?_,hM.below⟩
   rw [← hx2,aCw hy0,if_pos h1]
   rfl
  ·
   refine zk (zr (zq 1 (eV 18 ((x : Int) + 1) (zq 1 (zn ?_)))))
   refine nx (x + 1) ?_ ?_
   · exact ⟨by omega,by rw [← hx2,aCw hy0,h1]; rfl⟩
   · show l.length - (x + 1) < l.length - x; omega
 ·
  have h0d := of_decide_eq_false h0
  refine aU (zQ 1 (zn (aA (aH [4] [(I6 (-1))] (fun W' hM => ?_)))))
  refine ⟨?_,hM.below⟩
  rw [← hx2,cY oW]
  rfl
theorem oN : ∀ q : List Op, (q.flatMap Op.cs).length = q.length * 3
 | [] => rfl
 | x :: r => by rw [List.flatMap_cons, List.length_append, oN r, List.length_cons]; show 3 + r.length * 3 = _; omega
theorem aFk : ∀ {q : List Op} {j : Nat} {y : Op} {junk : List Value}, q[j]? = some y → ∀ i v, y.cs[i]? = some v → (q.flatMap Op.cs ++ junk)[0 + j * 3 + i]? = some v
 | [], j, y, junk, h, _, _, _ => by simp at h
 | x :: r, 0, y, junk, h, i, v, hv => by
  simp only [List.getElem?_cons_zero, Option.some.injEq] at h
  subst h
  have hl := (List.getElem?_eq_some_iff.1 hv).1
  rw [List.flatMap_cons, List.append_assoc, List.getElem?_append_left oW]
  rwa [show 0 + 0 * 3 + i = i by omega]
 | x :: r, j + 1, y, junk, h, i, v, hv => by
  have := aFk (junk := junk) (show r[j]? = some y by simpa using h) i v hv
  have h3 : x.cs.length = 3 := rfl
  rw [List.flatMap_cons, List.append_assoc, List.getElem?_append_right oW, show 0 + (j + 1) * 3 + i - x.cs.length = 0 + j * 3 + i by omega]
  exact this
theorem aEa : ∀ (l : List Op) (i : Nat) (x : Op) (j : List Value), i < l.length → cA (l.flatMap Op.cs ++ j) (0 + i * 3) x.cs = (l.set i x).flatMap Op.cs ++ j
 | [], i, x, j, hi => by simp at hi
 | y :: r, 0, x, j, _ => by
  rw [List.set_cons_zero, List.flatMap_cons, List.flatMap_cons, Nat.zero_mul, List.append_assoc, List.append_assoc]
  unfold cA
  rw [List.take_zero, List.nil_append, Nat.zero_add, show x.cs.length = y.cs.length from rfl, List.drop_left]
 | y :: r, i + 1, x, j, hi => by
  have ih := aEa r i x j (by simpa using hi)
  have hq : y.cs.length = 3 := rfl
  have hp : x.cs.length = 3 := rfl
  rw [List.set_cons_succ, List.flatMap_cons, List.flatMap_cons, List.append_assoc, List.append_assoc, ← ih]
  unfold cA
  rw [hp, show 0 + (i + 1) * 3 = y.cs.length + (0 + i * 3) by omega, List.take_append, List.take_of_length_le oW, show y.cs.length + (0 + i * 3) - y.cs.length = 0 + i * 3 by omega, show y.cs.length + (0 + i * 3) + 3 = y.cs.length + (0 + i * 3 + 3) by omega, List.drop_append, List.drop_of_length_le oW, List.nil_append, show y.cs.length + (0 + i * 3 + 3) - y.cs.length = 0 + i * 3 + 3 by omega]
  simp only [List.append_assoc]
theorem aBj {W0 : Cx} {U : View} {σ : aF} {W : World} (k b : Nat) (q : List Op) (junk : List Value) (hM : Mem W0 U σ W) (hk : σ[k]? = some (b, .cells (q.flatMap Op.cs ++ junk).toArray 153 (0, 0))) (h47 : q.length ≤ R47) : iM OpR 3 (aBT W) (some ⟨b, 0, none⟩) q := by
 have hr := cW hM k b _ _ hk
 refine ⟨fun i x hx => ⟨b, 0, x.cs, rfl, fun j v hv => ?_, rfl⟩, h47⟩
 have := hr (0 + i * 3 + j) v (aFk hx j v hv)
 rwa [Nat.zero_add] at this
structure Dl where
 i : Nat
 j : Nat
 L : List Op
structure aBK (q : List Op) (keep : Op → Bool) (x : Dl) : Prop where
 ij : x.i < x.j
 jn : x.j ≤ q.length
 len : x.L.length = q.length
 tk : x.L.take x.i = (q.take x.j).filter keep
 dr : x.L.drop x.j = q.drop x.j
theorem aBK.skip {q : List Op} {keep : Op → Bool} {x : Dl} {y : Op} (h : aBK q keep x) (hy : q[x.j]? = some y) (hk : keep y = false) : aBK q keep ⟨x.i, x.j + 1, x.L⟩ := by
 have hlt := (List.getElem?_eq_some_iff.1 hy).1
 refine ⟨by have := h.ij; show x.i < x.j + 1; omega, hlt, h.len, ?_, ?_⟩
 ·
  show x.L.take x.i = (q.take (x.j + 1)).filter keep
  rw [List.take_add_one, hy, List.filter_append, h.tk]
  simp [hk]
 ·
  show x.L.drop (x.j + 1) = q.drop (x.j + 1)
  rw [← List.drop_drop, ← List.drop_drop, h.dr]
theorem aBK.keep {q : List Op} {keep : Op → Bool} {x : Dl} {y : Op} (h : aBK q keep x) (hy : q[x.j]? = some y) (hk : keep y = true) : aBK q keep ⟨x.i + 1, x.j + 1, x.L.set x.i y⟩ := by
 have hlt := (List.getElem?_eq_some_iff.1 hy).1
 have hij := h.ij
 have hl := h.len
 refine ⟨by show x.i + 1 < x.j + 1; omega, hlt, by rw [List.length_set]; exact hl, ?_, ?_⟩
 ·
  show (x.L.set x.i y).take (x.i + 1) = (q.take (x.j + 1)).filter keep
  rw [List.take_add_one, List.getElem?_set_self oW, List.take_set_of_le (Nat.le_refl _), h.tk, List.take_add_one, hy, List.filter_append]
  simp [hk]
 ·
  show (x.L.set x.i y).drop (x.j + 1) = q.drop (x.j + 1)
  rw [List.drop_set_of_lt oW, ← List.drop_drop, ← List.drop_drop, h.dr]
theorem aBK.at_ {q : List Op} {keep : Op → Bool} {x : Dl} (h : aBK q keep x) : x.L[x.j]? = q[x.j]? := by
 have h1 : (x.L.drop x.j)[0]? = (q.drop x.j)[0]? := by rw [h.dr]
 simpa using h1
theorem aBK.done {q : List Op} {keep : Op → Bool} {x : Dl} (h : aBK q keep x) (hj : ¬ x.j < q.length) : x.L.take x.i = q.filter keep := by
 rw [h.tk, List.take_of_length_le oW]
def aNN (b c : Nat) (q : List Op) (v : Value) (σ : aF) : Prop := ∃ junk, v = .slice (some ⟨b, 0, none⟩) q.length c ∧ σ = [(b, .cells (q.flatMap Op.cs ++ junk).toArray 153 (0, 0))] ∧ (Rw.row b c junk).ok 3 q.length (q.flatMap Op.cs)
theorem aMI {L : List Op} {junk zs : List Value} {i n c : Nat} (hL : L.length = n) (hi : i ≤ n) (hz : zs.length = (n - i) * 3) (hc : (L.flatMap Op.cs ++ junk).length = c * 3) (hnc : n ≤ c) (hcm : c ≤ maxLen) : ∃ junk', cA (L.flatMap Op.cs ++ junk) (0 + i * 3) zs = (L.take i).flatMap Op.cs ++ junk' ∧ (Rw.row 0 c junk').ok 3 i ((L.take i).flatMap Op.cs) := by
 have h1 := oN L
 have h2 := oN (L.take i)
 have hti : (L.take i).length = i := by rw [List.length_take]; omega
 have htk : (L.flatMap Op.cs ++ junk).take (0 + i * 3) = (L.take i).flatMap Op.cs := by
  have : L.flatMap Op.cs = (L.take i).flatMap Op.cs ++ (L.drop i).flatMap Op.cs := by rw [← List.flatMap_append, List.take_append_drop]
  rw [this, List.append_assoc, List.take_left' oW]
 have hcl : (L.flatMap Op.cs ++ junk).length = L.length * 3 + junk.length := by rw [List.length_append, h1]
 refine ⟨zs ++ (L.flatMap Op.cs ++ junk).drop (0 + i * 3 + zs.length), by unfold cA; rw [htk, List.append_assoc], by rw [h2, hti], ?_, by omega, hcm⟩
 simp only [List.length_append, List.length_drop] at hc hcl ⊢
 rw [h2, hti, hz]
 rw [h1] at hc ⊢
 omega
theorem aDm {W0 : Cx} {U : View} {σF : aF} {W : World} (b c : Nat) (q : List Op) (junk : List Value) (kind t0 : Int) (pk pt : Nat) (hs : rP U kind t0 pk pt) (hM : Mem W0 U ([(b, .cells (q.flatMap Op.cs ++ junk).toArray 153 (0, 0))] ++ σF) W) (hok : (Rw.row b c junk).ok 3 q.length (q.flatMap Op.cs)) (h47 : q.length ≤ 1000000) :
    CP 83 #[.slice (some ⟨b, 0, none⟩) q.length c, .func (.func 84) #[] #[.pointer (some ⟨pk, 0, none⟩), .pointer (some ⟨pt, 0, none⟩)]] W (fN W0 U σF fun v _ σ' => aNN b c (q.filter fun o => !jD kind t0 o) v σ') := by
 obtain ⟨hx,hcl,hnc,hcm⟩ := hok
 rcases aCv kind t0 0 q with ⟨hd,hf⟩ | ⟨i0,hd,hi0,hf⟩
 ·
  rw [hf]
  have hM2 := hM
  refine eC 42 Tryz.func83 hM ?_
  refine zQ 1 (zn (zQ 2 (dA 126 #[(Sl b 0 q.length c),(.func (.func 84) #[] #[(Pt pk 0),(Pt pt 0)])] (I6 (-1)) (fun W hM => hd ▸ aEh q _ _ kind t0 pk pt W (U := aBT W) (fun _ _ h => h) (aBj 0 b q junk hM rfl (by unfold R47; omega)) (hs.le hM.view)) ?_)))
  refine zq 1 (zn (zs (zQ 2 (zn (dF (zQ 2 (zn (aA (aH [4] [(Sl b 0 q.length c)] (fun W' hM => ?_))))))))))
  exact dJ (σ' := [(b,(.cells (q.flatMap Op.cs ++ junk).toArray 153 (0,0)))]) hM (View.le_refl _) ⟨junk,rfl,rfl,hx,hcl,hnc,hcm⟩
 ·
  rw [Nat.zero_add] at hd
  refine eC 42 Tryz.func83 hM ?_
  refine zQ 1 (zn (zQ 2 (dA 126 #[(Sl b 0 q.length c),(.func (.func 84) #[] #[(Pt pk 0),(Pt pt 0)])] (I6 (i0 : Int)) (fun W hM => hd ▸ aEh q _ _ kind t0 pk pt W (U := aBT W) (fun _ _ h => h) (aBj 0 b q junk hM rfl (by unfold R47; omega)) (hs.le hM.view)) ?_)))
  refine zq 1 (zn (zs (zQ 2 (zn (eS ((i0 : Int) == (-1)) (beq_eq_false_iff_ne.2 oW) ?_)))))
  refine zk (zs (zQ 2 (eE 15 (I6 (IntKind.i64.wrap ((i0 : Int) + 1))) (I6 ((i0 + 1 : Nat) : Int)) (congrArg (Value.int .i64) (by rw [IntWalk.i64_in _ oW]; omega)) ?_)))
  refine zq 1 (zn (aB (gX (α := Dl) (fun x => [0,1,4,5,6].zip [(Sl b 0 q.length c),(.func (.func 84) #[] #[(Pt pk 0),(Pt pt 0)]),S0,(L6 x.i),(L6 x.j)]) (fun x => U) (fun x => ([(b,(.cells (x.L.flatMap Op.cs ++ junk).toArray 153 (0,0)))] ++ σF)) (fun x => aBK q (fun o => !jD kind t0 o) x ∧ x.j ≤ q.length) (fun x => q.length - x.j) ⟨i0,i0 + 1,q⟩ ?_ ?_)))
  · exact ⟨⟨by show i0 < i0 + 1; omega,by show i0 + 1 ≤ _; omega,rfl,hf.symm,rfl⟩,by show i0 + 1 ≤ _; omega⟩
  intro x hx
  obtain ⟨hx2,hx3⟩ := hx
  have hij := hx2.ij
  have hLn := hx2.len
  refine zs (zQ 4 (zn (cD (decide ((x.j : Int) < (q.length : Int))) (fun h0 => ?_) (fun h0 => ?_))))
  ·
   have h0d := of_decide_eq_true h0
   refine zk (zs (aB (zQ 2 (cH (Pt b (0 + x.j * 3)) (rIx 153 rfl b 0 q.length c x.j 3) ?_))))
   obtain ⟨y0,hy0⟩ : ∃ y,q[x.j]? = some y := ⟨q[x.j]'oW,List.getElem?_eq_getElem _⟩
   refine aM4 0 b (0 + x.j * 3) (x.L.flatMap Op.cs ++ junk) y0.cs 153 153 _ rfl kR kR (fun i v hv => aFk (hx2.at_.trans hy0) i v hv) _ Tryz.underlying153 rfl kR kR kR ?_
   refine dN 1 (fun b1 => ?_)
   refine aY 1 b1 (zn (zB [0,2] [(b1,3)] (dL (fun W hM => aD0 y0 kind t0 pk pt W hM.view hs) (zq 1 (zn (cD (!(jD kind t0 y0)) (fun h1 => ?_) (fun h1 => ?_)))))))
   ·
    refine zB [0,0,2] [(b1,3)] (cH (Pt b (0 + x.i * 3)) (rIx 153 rfl b 0 q.length c x.i 3) ?_)
    refine aH3 0 b (0 + x.i * 3) 3 (x.L.flatMap Op.cs ++ junk) 153 153 y0.V _ _ rfl kR kR kR kR (by rw [List.length_append,oN]; have := hx2.len; omega) rfl kR ?_
    refine lV U _ (fun _ h => h.eqv (show _ = ([(b,(.cells ((x.L.set x.i y0).flatMap Op.cs ++ junk).toArray 153 (0,0))),(bK b1 [(I6 y0.k),(I6 y0.n),(I6 y0.t)] 153)] ++ σF) from by rw [← aEa x.L x.i y0 junk (by have := hx2.len; omega)]; kernel_rfl)) ?_
    refine zn (zr (zq 2 (eV 35 ((x.i : Int) + 1) (zq 1 (zn (zr (zq 2 (eV 21 ((x.j : Int) + 1) (zq 1 (zn ?_))))))))))
    refine nx ⟨x.i + 1,x.j + 1,x.L.set x.i y0⟩ ?_ ?_ (d := fun _ h => Mem.sub (List.Sublist.append (List.sublist_append_left _ _) (List.Sublist.refl _)) (h.eqv (show _ = ((([(b,(.cells ((x.L.set x.i y0).flatMap Op.cs ++ junk).toArray 153 (0,0)))] : aF) ++ ([(bK b1 [(I6 y0.k),(I6 y0.n),(I6 y0.t)] 153)] : aF)) ++ (σF)) from by kernel_rfl)))
    · exact ⟨hx2.keep hy0 h1,by show x.j + 1 ≤ _; omega⟩
    · show q.length - (x.j + 1) < q.length - x.j; omega
   ·
    refine zk (zr (zq 2 (eV 21 ((x.j : Int) + 1) (zq 1 (zn ?_)))))
    refine nx ⟨x.i,x.j + 1,x.L⟩ ?_ ?_ (d := fun _ h => Mem.sub (List.Sublist.append (List.sublist_append_left _ _) (List.Sublist.refl _)) (h.eqv (show _ = ((([(b,(.cells (x.L.flatMap Op.cs ++ junk).toArray 153 (0,0)))] : aF) ++ ([(bK b1 [(I6 y0.k),(I6 y0.n),(I6 y0.t)] 153)] : aF)) ++ (σF)) from by kernel_rfl)))
    · exact ⟨hx2.skip hy0 h1,by show x.j + 1 ≤ _; omega⟩
    · show q.length - (x.j + 1) < q.length - x.j; omega
  ·
   have h0d := of_decide_eq_false h0
   refine aU (zQ 2 (cH (.slice (some ⟨b,(if c = x.i then 0 else 0 + x.i * 3),none⟩) (q.length - x.i) (c - x.i)) (gD 119 153 (.tmp 36) (some (.tmp 37)) none none rfl b 0 q.length c x.i q.length c 3 (q.length - x.i) (c - x.i) (if c = x.i then 0 else 0 + x.i * 3) kR eR eR eR (by decide) oW oW oW oW oW (by first | rfl | (split <;> omega)) Tryz.underlying119 kR) ?_))
   refine aLJ 0 b (if c = x.i then 0 else 0 + x.i * 3) (q.length - x.i - 1) (c - x.i) 3 (x.L.flatMap Op.cs ++ junk) (.agg #[.int .i64 0,.int .i64 0,.int .i64 0]) 153 119 153 (.tmp 38) rfl (by rw [show q.length - x.i - 1 + 1 = q.length - x.i by omega]; kernel_rfl) kR (fun W => by kernel_rfl) rfl kR (by rw [if_neg oW,List.length_append,oN]; omega) Tryz.underlying119 kR kR (fun ys hys => ?_)
   refine zn (zQ 2 (cH (Sl b 0 x.i c) (gD 119 153 (.tmp 39) none (some (.tmp 40)) none rfl b 0 q.length c 0 x.i c 3 x.i c 0 kR eR eR eR (by decide) oW oW oW oW oW (by first | rfl | (split <;> omega)) Tryz.underlying119 kR) ?_))
   refine zq 1 (zn (aA (aH [4] [(Sl b 0 x.i c)] (fun W' hM => ?_))))
   obtain ⟨junk2,hj2,hok2⟩ := aMI (L := x.L) (junk := junk) (zs := ys) (i := x.i) (n := q.length) (c := c) hLn oW (by rw [hys]; congr 1; omega) (by rw [List.length_append,oN,hLn,← List.length_append.symm.trans hcl.symm.symm]; simp only [List.length_append,oN]) hnc hcm
   rw [← hx2.done oW]
   have hti : (x.L.take x.i).length = x.i := by rw [List.length_take]; omega
   have hM9 := hM.eqv (show _ = ([(b,(.cells (cA (x.L.flatMap Op.cs ++ junk) (if c = x.i then 0 else 0 + x.i * 3) ys).toArray 153 (0,0)))] ++ σF) from by kernel_rfl)
   rw [if_neg oW,hj2] at hM9
   refine dP 0 1 (b,.cells ((x.L.take x.i).flatMap Op.cs ++ junk2).toArray 153 (0,0)) hM9 (View.le_refl _) ⟨junk2,?_,rfl,?_⟩
   ·
    show Value.slice (some ⟨b,0,none⟩) x.i c = _
    rw [hti]
   ·
    rw [hti]
    exact hok2
theorem mM {p : Pr} {l : List Bk} (h : jP p l = 0) : aZ p l = 0 ∧ ∃ q, aCg l = some q := by
 unfold jP at h
 split at h
 · next h1 => rw [h] at h1; cases h1
 ·
  next h1 =>
  refine ⟨by simpa using h1, ?_⟩
  split at h
  · cases h
  · next q hq => exact ⟨q, hq⟩
theorem aF4 {V : View} : ∀ {L : List (Op × List Value)}, qS OpR V L → L.flatMap Prod.snd = (L.map Prod.fst).flatMap Op.cs
 | [], _ => rfl
 | (o, cs) :: r, ⟨h1, h2⟩ => by
  rw [List.flatMap_cons, List.map_cons, List.flatMap_cons, aF4 h2]
  rw [show (o, cs).2 = o.cs from h1]
theorem RwR.opXs {V : View} {r : Rw} {xs : List Value} {m : Nat} {L : List (Op × List Value)} (h : RwR OpR 3 V r xs m L) : xs = (L.map Prod.fst).flatMap Op.cs := by
 rw [h.xs, aF4 h.all]
theorem aFo {l : List Bk} {kind : Int} {ts : List Int} (h : fI l kind ts = 0) : ∃ t0, ts[0]? = some t0 := by
 cases ts with
 | cons t r => exact ⟨t, rfl⟩
 | nil =>
  unfold fI at h
  rw [if_pos (by simp)] at h
  cases h
theorem aK6 {p : Pr} {l : List Bk} {kind t0 : Int} {ts : List Int} {q : List Op} (h1 : (jP p l != 0) = false) (h2 : (fI l kind ts != 0) = false) (h3 : (gC .u64 (p.f : Int) 1 != 0) = false) (hq : aCg l = some q) (ht : ts[0]? = some t0) : aDw p l kind ts = aDZ p l ((q ++ opsOf kind (dX l : Int) ts).filter fun o => !jD kind t0 o) := by
 have e : ts.headD 0 = t0 := by
  cases ts with
  | nil => cases ht
  | cons t r => exact Option.some.inj ht
 unfold aDw
 rw [if_neg (by rw [h1]; exact Bool.false_ne_true), if_neg (by rw [h2]; exact Bool.false_ne_true), if_neg (by rw [h3]; exact Bool.false_ne_true)]
 unfold aIX
 rw [hq, e]
 rfl
theorem aK9 (eA : Addr) (p : Pr) (l : List Bk) (a : Option Addr) (c : Nat) (kind : Int) (ts : List Int) (aT : Option Addr) (cT : Nat) (w : World) {U : View} (hU : See U w) (hE : EF U eA) (hp : p.ok) (hl : cX U a l) (ht : oD U aT ts) (hc : ts.length ≤ cT) (hsm : ts.length ≤ 100000) : CP 36 #[bnV p a l.length c, .int .i64 kind, .slice aT ts.length cT] w (Ret (.int .i64 (aDw p l kind ts)) w) := by
 refine eG 58 Tryz.func36 hU ?_
 refine zs (zr (cJ (fun b0 => (cJ (fun b1 => (cJ (fun b2 => (zq 1 (zn (zs (zB [1] [(b0,20)] (dA 80 #[(bnV p a l.length c)] (I6 (jP p l)) (fun W hM => aHd eA p l _ _ W hM.view hE hp hl) ?_))))))))))))
 refine zq 1 (zn (zQ 2 (zn (cD ((jP p l) != 0) (fun h0 => ?_) (fun h0 => ?_)))))
 ·
  refine zQ 2 (zn (aA (aH [6] [(I6 (jP p l))] (fun W' hM => ?_))))
  refine ⟨?_,hM.below⟩
  unfold aDw
  rw [if_pos h0]
  rfl
 ·
  have h0d := bne_eq_false_iff_eq.1 h0
  refine zk (zs (zB [1,2,3] [(b0,20),(b1,1),(b2,1)] (dA 81 #[(bnV p a l.length c),(I6 kind),(.slice aT ts.length cT)] (I6 (fI l kind ts)) (fun W hM => aHe p l _ _ kind ts _ _ W hM.view hl ht hc) ?_)))
  refine zq 1 (zn (zQ 2 (zn (cD ((fI l kind ts) != 0) (fun h1 => ?_) (fun h1 => ?_)))))
  ·
   refine zQ 2 (zn (aA (aH [6] [(I6 (fI l kind ts))] (fun W' hM => ?_))))
   refine ⟨?_,hM.below⟩
   unfold aDw
   rw [if_neg (by rw [h0]; exact Bool.false_ne_true),if_pos h1]
   rfl
  ·
   have h1d := bne_eq_false_iff_eq.1 h1
   refine zk (zs (zB [0,0,1,0,0] [(b0,1)] (zn (cD ((gC .u64 (p.f : Int) 1) != 0) (fun h2 => ?_) (fun h2 => ?_)))))
   ·
    refine zQ 1 (zn (aA (aH [6] [(I6 8)] (fun W' hM => ?_))))
    refine ⟨?_,hM.below⟩
    unfold aDw
    rw [if_neg (by rw [h0]; exact Bool.false_ne_true),if_neg (by rw [h1]; exact Bool.false_ne_true),if_pos h2]
    rfl
   ·
    have h2d := bne_eq_false_iff_eq.1 h2
    refine zk (zB [1] [(b0,20)] ?_)
    refine oH 82 #[(bnV p a l.length c)] (fun v σ' => aBU (aCg l) v σ') kR (fun W hM => aC4 eA p l _ _ (hE.le hM.view) (hl.le hM.view) (fun x hx => by have := (eI (mM (by simpa using h0)).1).2 x hx; omega) (by have := (eI (mM (by simpa using h0)).1).1; omega) (Mem.all W)) kR kR (fun v3 s3 hP3 => ?_)
    obtain ⟨q3,hq3⟩ := (mM (by simpa using h0)).2
    rw [hq3] at hP3
    obtain ⟨r3,xs3,L3,rfl,rfl,hr3,hL3⟩ := hP3
    have hn3 := aF3 hq3
    have hm3 := (eI (mM (by simpa using h0)).1).1
    refine zq 5 (zn (zB [1] [(b0,20)] (dA 38 #[(bnV p a l.length c)] (L6 (dX l)) (fun W hM => aEw p l _ _ W hM.view hl) ?_)))
    refine zq 1 (zn (zs (zB [3,0,0] [(b2,1)] (zn (aB (gX (α := Go_) (fun x => [3,4,5,6,9,11,38,39,40].zip [(Pt b0 0),(Pt b1 0),(Pt b2 0),(I6 0),(x.r.V x.m),(L6 (dX l)),(.slice aT ts.length cT),(L6 ts.length),(L6 x.i)]) (fun x => U) (fun x => ([(bK b0 (eB p a l.length c) 29),(bK b1 [(I6 kind)] 3),(bK b2 [(.slice aT ts.length cT)] 48)] ++ x.r.B 153 x.xs)) (fun x => x.i ≤ ts.length ∧ RwR OpR 3 U x.r x.xs x.m x.L ∧ (x.m = q3.length + x.i ∧ x.L.map Prod.fst = q3 ++ opsOf kind ((dX l : Nat) : Int) (ts.take x.i))) (fun x => ts.length - x.i) ⟨0,r3,xs3,q3.length,L3,U⟩ ?_ ?_))))))
    · exact ⟨Nat.zero_le _,(hr3.opAny (V' := U)),rfl,by show _ = _ ++ opsOf kind _ []; rw [show opsOf kind ((dX l : Nat) : Int) [] = [] from rfl,List.append_nil]; exact hL3⟩
    intro x hx
    obtain ⟨hxi,hxr,hxp⟩ := hx
    refine zQ 1 (zn (zs (cD (decide ((x.i : Int) < (ts.length : Int))) (fun h3 => ?_) (fun h3 => ?_))))
    ·
     have h3d := of_decide_eq_true h3
     refine zk (zs (aB (zs (zr ?_))))
     obtain ⟨y4,hy4⟩ : ∃ y,(ts)[x.i]? = some y := ⟨(ts)[x.i]'oW,List.getElem?_eq_getElem _⟩
     obtain ⟨b4,f4,rfl,hU4⟩ := ht.one hy4
     refine cH (Pt b4 (f4 + x.i)) (fW _ 3 _ _ rfl b4 f4 ts.length cT x.i .i64 kR kR (by first | assumption | omega) kR kR) ?_
     refine zV b4 (f4 + x.i) (I6 y4) hU4 3 (.tmp 42) _ Tryz.underlying3 rfl ?_
     refine zq 1 (zn (zr (cU [0,2,0,0,0] [(b1,1)] (dN 3 (fun b5 => ?_)))))
     refine tT 4 153 119 24 1 1 hxr.ok (fun W hM => cW hM 3 b5 [(I6 kind),(L6 (dX l)),(I6 y4)] 153 kR) rfl (List.all_eq_true.1 kR) (by decide) (fun r6 hr6 => ?_)
     refine zq 1 (zn (zr (zq 1 (eV 51 ((x.i : Int) + 1) (zq 1 (zn ?_))))))
     refine nx ⟨x.i + 1,r6,(x.xs ++ [(I6 kind),(L6 (dX l)),(I6 y4)]),(x.m + 1),x.L ++ [(⟨kind,((dX l : Nat) : Int),y4⟩,[(I6 kind),(L6 (dX l)),(I6 y4)])],U⟩ ?_ ?_ (d := fun _ h => Mem.sub (List.Sublist.append (List.sublist_append_left _ _) (List.Sublist.refl _)) (h.eqv (show _ = ((([(bK b0 (eB p a l.length c) 29),(bK b1 [(I6 kind)] 3),(bK b2 [(Sl b4 f4 ts.length cT)] 48)] : aF) ++ ([(bK b5 [(I6 kind),(L6 (dX l)),(I6 y4)] 153)] : aF)) ++ (r6.B 153 (x.xs ++ [(I6 kind),(L6 (dX l)),(I6 y4)]))) from by kernel_rfl)))
     · exact ⟨by show x.i + 1 ≤ _; omega,RwR.snoc hxr rfl hr6,by show x.m + 1 = q3.length + (x.i + 1); omega,by rw [List.map_append,hxp.2,show opsOf kind ((dX l : Nat) : Int) (ts.take (x.i + 1)) = opsOf kind ((dX l : Nat) : Int) (ts.take x.i) ++ [⟨kind,((dX l : Nat) : Int),y4⟩] from eX _ hy4,List.append_assoc]; rfl⟩
     · show ts.length - (x.i + 1) < ts.length - x.i; omega
    ·
     have h3d := of_decide_eq_false h3
     refine aU (zQ 2 ?_)
     obtain ⟨t0,ht0⟩ := aFo (by simpa using h1)
     have hpos := (List.getElem?_eq_some_iff.1 ht0).1
     have hall : x.L.map Prod.fst = q3 ++ opsOf kind ((dX l : Nat) : Int) ts := by rw [hxp.2,List.take_of_length_le oW]
     obtain ⟨bQ,cQ,jQ,hr9⟩ := Rw.openR hxr.ok oW
     generalize hz9 : q3 ++ opsOf kind ((dX l : Nat) : Int) ts = z9 at hall
     have hx9 : x.xs = z9.flatMap Op.cs := by rw [← hall]; exact hxr.opXs
     have hm9 : x.m = z9.length := by rw [← hall,List.length_map]; exact hxr.m
     refine eE 52 (x.r.V x.m) (Sl bQ 0 z9.length cQ) (by rw [hr9,hm9]; rfl) ?_
     refine lV _ [(bK b0 (eB p a l.length c) 29),(bK b1 [(I6 kind)] 3),(bK b2 [(.slice aT ts.length cT)] 48),(bQ,(.cells (z9.flatMap Op.cs ++ jQ).toArray 153 (0,0)))] (fun _ h => h.eqv (show ([(bK b0 (eB p a l.length c) 29),(bK b1 [(I6 kind)] 3),(bK b2 [(.slice aT ts.length cT)] 48)] ++ x.r.B 153 x.xs) = _ from by rw [hr9,hx9]; kernel_rfl)) ?_
     have ho9 : (Rw.row bQ cQ jQ).ok 3 z9.length (z9.flatMap Op.cs) := by have := hxr.ok; rw [hr9,hx9,hm9] at this; exact this
     refine iE [(bK b0 (eB p a l.length c) 29)] [(bK b2 [(.slice aT ts.length cT)] 48),(bQ,(.cells (z9.flatMap Op.cs ++ jQ).toArray 153 (0,0)))] b1 [(I6 kind)] 3 kR (fun V7 hV7 hR7 => ?_)
     refine iE [(bK b0 (eB p a l.length c) 29)] [(bQ,(.cells (z9.flatMap Op.cs ++ jQ).toArray 153 (0,0)))] b2 [(.slice aT ts.length cT)] 48 kR (fun V10 hV10 hR10 => ?_)
     obtain ⟨bT,fT,eT,hUT⟩ := ht.one ht0
     have hs9 : rP V10 kind t0 b1 b2 := ⟨bT,fT,ts.length,cT,(View.range_le hV10 hR7) 0 _ rfl,by rw [← eT]; exact hR10 0 _ rfl,(View.le_trans hV7 hV10) _ _ hUT,hpos⟩
     refine gF 1 (bQ,(.cells (z9.flatMap Op.cs ++ jQ).toArray 153 (0,0))) 83 #[(Sl bQ 0 z9.length cQ),(.func (.func 84) #[] #[(Pt b1 0),(Pt b2 0)])] (fun v _ σ' => aNN bQ cQ (z9.filter fun o => !jD kind t0 o) v σ') (fun W hM => aDm bQ cQ z9 jQ kind t0 b1 b2 hs9 hM ho9 (by rw [← hz9,List.length_append,show (opsOf kind ((dX l : Nat) : Int) ts).length = ts.length from List.length_map _]; omega)) (fun v13 V13 s13 hV13 hP13 => ?_)
     obtain ⟨j13,rfl,rfl,ho13⟩ := hP13
     generalize hf13 : z9.filter (fun o => !jD kind t0 o) = f13
     rw [hf13] at ho13
     have hl13 : f13.length ≤ z9.length := by rw [← hf13]; exact List.length_filter_le _ _
     have hs13 : z9.length ≤ 1000000 := by rw [← hz9,List.length_append,show (opsOf kind ((dX l : Nat) : Int) ts).length = ts.length from List.length_map _]; omega
     refine zq 1 (zn (zB [2,0] [(b0,20)] (dA 85 #[(bnV p a l.length c),(Sl bQ 0 f13.length cQ)] (I6 (aDZ p l f13)) (fun W hM => aCk p l _ _ f13 _ _ W (U := aBT W) (fun _ _ h => h) ((hl.le (View.le_trans (View.le_trans hV7 hV10) hV13)).le hM.view) (aBj 0 bQ f13 j13 hM rfl (by unfold R47; omega))) ?_)))
     refine zq 1 (zn (aA (aH [6] [(I6 (aDZ p l f13))] (fun W' hM => ?_))))
     refine ⟨?_,hM.below⟩
     rw [aK6 h0 h1 h2 hq3 ht0,hz9,hf13]
     rfl
end Go.Proofs.YtcdjakemdlinhaaGreatDoor.Sx
