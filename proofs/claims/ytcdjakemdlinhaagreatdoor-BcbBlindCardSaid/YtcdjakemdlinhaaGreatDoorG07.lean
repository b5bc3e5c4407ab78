/-
  Several texts in one: Sx18 Sx19 Sx20 Rd2 Rd3 Rd4 Rd5 Rd6 Ps1 Ps2 Rd7.
  Conditions: named at each.
-/
import Derived.Test.YtcdjakemdlinhaaGreatDoorG06
import Derived.LaidEql
import Derived.Stop.Asserts
import Derived.Stop.IfaceNil
set_option linter.unusedSimpArgs false
set_option linter.unusedVariables false
set_option linter.unusedSectionVars false
namespace Go.Proofs.YtcdjakemdlinhaaGreatDoor.Sx
open Go.ChangeShapes Go.WideShapes Go.ChangeAt Go.RowKit Go.Deep
section
variable {P : Program} {n : Nat} {W0 : Cx} {Q : XQ} {s : Slots} {U : View} {σ : Blks} {ops : Array Oper} {l : List Oper} {o : Oper}
theorem Rw.formC {r : Rw} {z m : Nat} {xs : List Value} (h : r.ok z m xs) : ∃ a c, r.V m = .slice a m c ∧ m ≤ c := by
 cases r with
 | nil => obtain ⟨rfl, _⟩ := h; exact ⟨none, 0, rfl, Nat.le_refl _⟩
 | row b cap junk => exact ⟨_, _, rfl, h.2.2.1⟩
theorem sx_fzC (t : Nat) (r : Rw) (xs : List Value) (z m : Nat) (σ1 : Blks) (e : TypeId) (hσ : σ = σ1 ++ r.B e xs) (hok : r.ok z m xs) (hl : look s t = some (r.V m))
  (h : ∀ a c V, View.le U V → RowAt V a xs → r.V m = .slice a m c ∧ m ≤ c → SXL P n W0 Q ops l ((t, .slice a m c) :: s) V σ1) : SXL P n W0 Q ops l s U σ := by
 obtain ⟨a', c', hv', hc'⟩ := Rw.formC hok
 refine sx_fz t r xs z m σ1 e hσ hok hl fun a c V hV hA hv => h a c V hV hA ⟨hv, ?_⟩
 rw [hv] at hv'
 simp only [Value.slice.injEq, true_and] at hv'
 rw [hv'.2]
 exact hc'
end
def InR (_ : View) (n : Int) (cs : List Value) : Prop := cs = [.int .i64 n]
instance inR : RecOk InR 1 := ⟨fun _ h => h, fun h => by rw [h]; rfl, fun h u hu => by
 rw [h] at hu
 obtain rfl := List.mem_singleton.1 hu
 rfl⟩
theorem LsAt.ins {U : View} {a : Option Addr} {l : List Int} (h : LsAt InR 1 U a l) : InsAt U a l := ⟨fun hne => by
 obtain ⟨b, f, L, e, hL, hA, hr⟩ := h.open hne
 refine ⟨b, f, e, ?_⟩
 have hx : ∀ L : List (Int × List Value), AllR InR U L → L.flatMap Prod.snd = (L.map Prod.fst).map inV := by
  intro L
  induction L with
  | nil => intro _; rfl
  | cons p r ih =>
   intro ⟨h1, h2⟩
   rw [List.flatMap_cons, ih h2, List.map_cons, List.map_cons]
   rw [show p.2 = [.int .i64 p.1] from h1]
   rfl
 rw [hx L hA, hL] at hr
 exact hr, h.len⟩
structure Gp (α : Type) where
 i : Nat
 r : Rw
 xs : List Value
 L : List (α × List Value)
 V : View
theorem allTV_R {V : View} : ∀ {L : List (Itm.Tr × List Value)}, AllTV V L → AllR TV V L
 | [], _ => trivial
 | _ :: _, ⟨h1, h2⟩ => ⟨h1, allTV_R h2⟩
theorem RwR.app {α : Type} {R : View → α → List Value → Prop} {z : Nat} {V : View} {r r' : Rw} {xs : List Value} {m k : Nat} {L M : List (α × List Value)} (hr : RwR R z V r xs m L) (hM : AllR R V M) (hk : M.length = k) (hok : r'.ok z (m + k) (xs ++ M.flatMap Prod.snd)) : RwR R z V r' (xs ++ M.flatMap Prod.snd) (m + k) (L ++ M) :=
 ⟨hok, by rw [hr.xs, List.flatMap_append], by rw [hr.m, List.length_append, hk], hr.all.app hM⟩
theorem take_map_succ {α β : Type} {l : List α} {i : Nat} {y : α} (f : α → β) (h : l[i]? = some y) : (l.take (i + 1)).map f = (l.take i).map f ++ [f y] := by
 rw [List.take_add_one, h, List.map_append]
 rfl
theorem take_all_succ {α : Type} {l : List α} {i : Nat} {y : α} (f : α → Bool) (h : l[i]? = some y) : (l.take (i + 1)).all f = ((l.take i).all f && f y) := by
 rw [List.take_add_one, h, List.all_append]
 simp
section
variable {P : Program} {n : Nat} {W0 : Cx} {Q : XQ} {s : Slots} {U : View} {σ : Blks} {ops : Array Oper} {l : List Oper} {o : Oper}
theorem sx_permR (σ1 a b : Blks) (hσ : σ = (σ1 ++ a) ++ b) (h : SXL P n W0 Q ops l s U ((σ1 ++ b) ++ a)) : SXL P n W0 Q ops l s U σ := by
 subst hσ
 refine sx_permL ?_ h
 rw [List.append_assoc, List.append_assoc]
 exact List.Perm.append_left _ List.perm_append_comm
theorem sx_permX (l1 l2 : Blks) (x : Nat × Obj) (hσ : σ = l1 ++ x :: l2) (h : SXL P n W0 Q ops l s U ((l1 ++ l2) ++ [x])) : SXL P n W0 Q ops l s U σ := by
 subst hσ
 refine sx_permL ?_ h
 rw [List.append_assoc]
 refine List.Perm.append_left _ ?_
 exact (List.perm_append_comm (l₁ := [x]) (l₂ := l2))
end
def TsOf (l : List Itm.Tr) (v : Value) (V : View) : Prop := ∃ a c, v = .slice a l.length c ∧ TsAt V a l
structure Gp2 where
 i : Nat
 r : Rw
 xs : List Value
 L : List (Itm.Tr × List Value)
 r2 : Rw
 xs2 : List Value
 L2 : List (Itm.Tr × List Value)
 V : View
theorem retN_row {w : World} {U V : View} {W' : World} {σ1 : Blks} {e : TypeId} {r : Rw} {xs : List Value} {m : Nat} (hM : Mem ⟨w, U⟩ V (σ1 ++ r.B e xs) W') (hok : r.ok 5 m xs) (hle : View.le U V) (L : List (Itm.Tr × List Value)) (hL : xs = L.flatMap Prod.snd) (hA : AllTV V L) (l : List Itm.Tr) (hl : L.map Prod.fst = l) (hm : m = l.length) (h47 : m ≤ R47) : RetN w U (TsOf l) (.returned (r.V m)) W' := by
 obtain ⟨a, c, V', hl', hR, hv, hM'⟩ := hM.freezeRw hok
 rw [hv]
 exact retN_of hM' (View.le_trans hle hl') ⟨a, c, by rw [hm], TsAt.ofRow L hR hL (hA.le hl') l hl (by rw [← hm]; exact h47)⟩
end Go.Proofs.YtcdjakemdlinhaaGreatDoor.Sx
namespace Go.Proofs.YtcdjakemdlinhaaGreatDoor.Sx
open Go.ChangeShapes Go.WideShapes Go.ChangeAt Go.RowKit Go.Deep Go.Extern.Stop Go.Stop
section
variable {P : Program} {s : Slots} {o : Oper}
theorem guard_free {op : BinOp} {t : TypeId} {x y : Operand} {u : TypeId} {v b : Value} (W : World) : (eqGuard op t x y (.iface u v) b).run P W = .ok () W := by
 unfold eqGuard
 cases op <;> rfl
theorem run_if0 (op : BinOp) (r : Bool) (t yt : TypeId) (x y : Operand) (ho : o.op = .binOp op t x y yt) (hop : (op = .eql ∧ r = false) ∨ (op = .neq ∧ r = true)) (h : P.isIface t = true) (u : TypeId) (v : Value) (hx : evS s x = some (.iface u v)) (hy : evS s y = some .nilIface) (W : World) :
  (execOp (ev s) o).run P W = .ok (.value (.bool r)) W := by
 unfold execOp
 simp only [ho, ev_of hx, ev_of hy, Sem.run_bind, guard_free, Result.andThen_ok]
 rcases hop with ⟨rfl, rfl⟩ | ⟨rfl, rfl⟩
 · simp only [run_eql_iface_nil W t h u v, Result.andThen_ok, Sem.run_pure]
 · simp only [run_neq_iface_nil W t h u v, Result.andThen_ok, Sem.run_pure]
theorem run_if00 (op : BinOp) (r : Bool) (t yt : TypeId) (x : Operand) (ho : o.op = .binOp op t x (.const .nilIface) yt) (hop : (op = .eql ∧ r = true) ∨ (op = .neq ∧ r = false)) (h : P.isIface t = true) (hx : evS s x = some .nilIface) (W : World) :
  (execOp (ev s) o).run P W = .ok (.value (.bool r)) W := by
 have hg : (eqGuard op t x (.const .nilIface) .nilIface .nilIface).run P W = .ok () W := by
  unfold eqGuard
  cases x <;> cases op <;> rfl
 have hc : ev s (.const .nilIface) = .nilIface := rfl
 unfold execOp
 simp only [ho, ev_of hx, hc, Sem.run_bind, hg, Result.andThen_ok]
 rcases hop with ⟨rfl, rfl⟩ | ⟨rfl, rfl⟩
 · simp only [run_eql_nil_nil_at W t h, Result.andThen_ok, Sem.run_pure]
 · simp only [run_neq_nil_nil_at W t h, Result.andThen_ok, Sem.run_pure]
theorem run_if0L {ms : Array (String × TypeId)} (t yt : TypeId) (x y : Operand) (ho : o.op = .binOp .eql t x y yt) (u : TypeId) (v : Value) (hx : evS s x = some .nilIface) (hy : evS s y = some (.iface u v)) (hi : P.underlying t = some (.interface ms)) (W : World) :
  (execOp (ev s) o).run P W = .ok (.value (.bool false)) W := by
 have hg : (eqGuard .eql t x y .nilIface (.iface u v)).run P W = .ok () W := by unfold eqGuard; rfl
 unfold execOp
 simp only [ho, ev_of hx, ev_of hy, Sem.run_bind, hg, Result.andThen_ok, run_eql_iface_nil_left W u v hi, Sem.run_pure]
theorem run_ifT {ms : Array (String × TypeId)} (t yt : TypeId) (x y : Operand) (ho : o.op = .binOp .eql t x y yt) (tx ty : TypeId) (vx vy : Value) (hx : evS s x = some (.iface tx vx)) (hy : evS s y = some (.iface ty vy)) (hi : P.underlying t = some (.interface ms)) (hne : tx ≠ ty) (W : World) :
  (execOp (ev s) o).run P W = .ok (.value (.bool false)) W := by
 unfold execOp
 simp only [ho, ev_of hx, ev_of hy, Sem.run_bind, guard_free, Result.andThen_ok, run_eql_iface_types tx ty vx vy hi hne, Sem.run_pure]
theorem run_ifS {ms : Array (String × TypeId)} (t yt : TypeId) (x y : Operand) (ho : o.op = .binOp .eql t x y yt) (tp te : TypeId) (a : Addr) (hx : evS s x = some (.iface tp (.pointer (some a)))) (hy : evS s y = some (.iface tp (.pointer (some a)))) (hi : P.underlying t = some (.interface ms)) (hp : P.underlying tp = some (.pointer te))
  (hc : (P.info? tp).map (·.comparable) = some true) (he : (P.info? te).isSome = true) (W : World) : (execOp (ev s) o).run P W = .ok (.value (.bool true)) W := by
 obtain ⟨i, hi2, hcmp⟩ := Option.map_eq_some_iff.1 hc
 obtain ⟨j, hj⟩ := Option.isSome_iff_exists.1 he
 unfold execOp
 simp only [ho, ev_of hx, ev_of hy, Sem.run_bind, guard_free, Result.andThen_ok, run_eql_iface_ptr_same W a hi hp hi2 hcmp hj, Sem.run_pure]
theorem run_taN {want : Array (String × TypeId)} (x : Operand) (xT asserted : TypeId) (ho : o.op = .typeAssert x xT asserted true) (t : TypeId) (v : Value) (hx : evS s x = some (.iface t v)) (hu : P.underlying asserted = some (.interface want)) (h : (P.info? t).map (fun i => (lacking want i.methods).isEmpty) = some false) (hz : (P.info? asserted).map (·.zero) = some (some .nilIface)) (W : World) :
  (execOp (ev s) o).run P W = .ok (.value (.tuple #[.nilIface, .bool false])) W := by
 unfold execOp
 simp only [ho, ev_of hx, Sem.run_bind, run_typeAssert_lacksB hu h hz v xT W, Result.andThen_ok, Sem.run_pure]
theorem run_taY {want : Array (String × TypeId)} (x : Operand) (xT asserted : TypeId) (ho : o.op = .typeAssert x xT asserted true) (t : TypeId) (v : Value) (hx : evS s x = some (.iface t v)) (hu : P.underlying asserted = some (.interface want)) (h : (P.info? t).map (fun i => (lacking want i.methods).isEmpty) = some true) (W : World) :
  (execOp (ev s) o).run P W = .ok (.value (.tuple #[.iface t v, .bool true])) W := by
 unfold execOp
 simp only [ho, ev_of hx, Sem.run_bind, run_typeAssert_hasB hu h v xT W, Result.andThen_ok, Sem.run_pure]
end
inductive Er where
 | leaf
 | wrap (s : List UInt8) (e : Er)
def Er.V (a : Addr) : Er → Value
 | .leaf => .iface 338 (.pointer (some a))
 | .wrap s e => .iface 281 (.agg #[.string (B s), e.V a])
def Er.deep : Er → Nat
 | .leaf => 0
 | .wrap _ e => e.deep + 1
theorem Er.form (a : Addr) (e : Er) : ∃ u v, e.V a = .iface u v := by cases e <;> exact ⟨_, _, rfl⟩
theorem run_er {P : Program} {s : Slots} {o : Oper} (op : BinOp) (r : Bool) (t yt : TypeId) (x y : Operand) (ho : o.op = .binOp op t x y yt) (hop : (op = .eql ∧ r = false) ∨ (op = .neq ∧ r = true)) (h : P.isIface t = true) (a : Addr) (e : Er) (hx : evS s x = some (e.V a)) (hy : evS s y = some .nilIface) (W : World) :
  (execOp (ev s) o).run P W = .ok (.value (.bool r)) W := by
 obtain ⟨u, v, he⟩ := e.form a
 rw [he] at hx
 exact run_if0 op r t yt x y ho hop h u v hx hy W
def EF (U : View) (a : Addr) : Prop := U ⟨0, 0, none⟩ = some (.iface 338 (.pointer (some a)))
theorem EF.le {U V : View} {a : Addr} (h : View.le U V) (hf : EF U a) : EF V a := h _ _ hf
end Go.Proofs.YtcdjakemdlinhaaGreatDoor.Sx
namespace Go.Proofs.YtcdjakemdlinhaaGreatDoor.Sx
open Go.ChangeShapes Go.WideShapes Go.ChangeAt Go.RowKit Go.Deep
theorem or_add (n c : Nat) (hc : c < 256) (h : n * 256 + c < 18446744073709551616) : orI .u64 (IntKind.u64.wrap ((n : Int) * 2 ^ 8)) (c : Int) = ((n * 256 + c : Nat) : Int) := by
 have hn : n * 256 < 18446744073709551616 := Nat.lt_of_le_of_lt (Nat.le_add_right _ _) h
 have hc2 : c < 18446744073709551616 := Nat.lt_of_le_of_lt (Nat.le_add_left _ _) h
 have e1 : IntKind.u64.wrap ((n : Int) * 2 ^ 8) = ((n * 256 : Nat) : Int) := by rw [show ((n : Int) * 2 ^ 8) = ((n * 256 : Nat) : Int) by omega]; exact u64_in (by omega) (by omega)
 have t : ∀ m : Nat, m < 18446744073709551616 → (BitVec.ofInt IntKind.u64.bits ((m : Nat) : Int)).toNat = m := by
  intro m hm
  rw [BitVec.toNat_ofInt]
  show (((m : Nat) : Int) % ((18446744073709551616 : Nat) : Int)).toNat = m
  omega
 have h3 := Nat.shiftLeft_add_eq_or_of_lt (i := 8) (b := c) (by omega) n
 rw [Nat.shiftLeft_eq] at h3
 rw [e1]
 unfold orI
 rw [BitVec.toNat_or, t (n * 256) hn, t c hc2, show n * 256 ||| c = n * 256 + c from h3.symm]
 exact u64_in (by omega) (by omega)
def opensB (m : Int) : Bool := (decide (m ≥ 2) && decide (m < 6)) || (m == 7)
theorem opens_any (m : Int) (w : World) : Calls Tryz.prog 183 #[.int .i64 m] w (Ret (.bool (opensB m)) w) := by
 refine sx_enter (f := 183) 13 View.no Tryz.func183 rfl rfl rfl (fun _ _ h => by cases h) ?_
 refine zQ 1 (zn (zQ 3 (sx_BL 5 (decide (m ≥ 2)) (fun h0 => ?_) (fun h0 => ?_))))
 ·
  refine zq 4 (sx_BL 9 (decide (m < 6)) (fun h1 => ?_) (fun h1 => ?_))
  ·
   refine zq 4 (zn (sx_ret (sx_Z [2] [(.bool true)] (fun W' hM => ?_))))
   exact ⟨by simp only [resV,opensB,h0,h1,bs,if_true,if_false,cond_true,cond_false,reduceIte],hM.below⟩
  ·
   refine zq 4 (zn (sx_ret (sx_Z [2] [(.bool (m == 7))] (fun W' hM => ?_))))
   exact ⟨by simp only [resV,opensB,h0,h1,bs,if_true,if_false,cond_true,cond_false,reduceIte],hM.below⟩
 ·
  refine zq 8 (zn (sx_ret (sx_Z [2] [(.bool (m == 7))] (fun W' hM => ?_))))
  exact ⟨by simp only [resV,opensB,h0,bs,if_true,if_false,cond_true,cond_false,reduceIte],hM.below⟩
def joinN (n : Nat) (l : List UInt8) : Nat := l.foldl (fun n c => n * 256 + c.toNat) n
theorem joinN_drop {l : List UInt8} {i n : Nat} {y : UInt8} (h : l[i]? = some y) : joinN n (l.drop i) = joinN (n * 256 + y.toNat) (l.drop (i + 1)) := by
 unfold joinN
 rw [drop_some h, List.foldl_cons]
theorem join_any (l : List UInt8) (w : World) (hl : l.length ≤ 8) : Calls Tryz.prog 249 #[.string (B l)] w (Ret (.int .u64 ((joinN 0 l : Nat) : Int)) w) := by
 refine sx_enter (f := 249) 20 View.no Tryz.func249 rfl rfl rfl (fun _ _ h => by cases h) ?_
 refine zQ 1 (zn (zQ 1 (zn (zs (zQ 1 ?_)))))
 refine sx_bytes 9 160 5 (.tmp 6) rfl l (by kernel_rfl) (by kernel_rfl) (by kernel_rfl) (by kernel_rfl) (by kernel_rfl) (by kernel_rfl) (fun b0 c0 V0 hV0 hB0 hC0 => ?_)
 have hY0 := BysAt.of hB0 (by first | assumption | omega)
 refine zq 2 (zn (sx_block ?_))
 refine sx_loop (α := Nat × Nat) (fun x => [2,3,7,8,9].zip [(U6 0),(N6 (x.2 : Nat)),(Sl b0 0 l.length c0),(L6 l.length),(L6 x.1)]) (fun _ => V0) (fun x => []) (fun x => x.1 ≤ l.length ∧ joinN x.2 (l.drop x.1) = joinN 0 l ∧ x.2 < 256 ^ x.1) (fun x => l.length - x.1) (0,0) ?_ (look_zip _ _ (by kernel_rfl)) (fun _ h => h.eqv (by kernel_rfl)) ?_
 · exact ⟨Nat.zero_le _,rfl,by simp⟩
 intro x hx
 obtain ⟨hx1,hx2,hx3⟩ := hx
 refine zQ 1 (zn (zs (sx_D (decide (((x.1 : Nat) : Int) < (((l.length : Nat)) : Int))) (fun h0 => ?_) (fun h0 => ?_))))
 ·
  have h0d := of_decide_eq_true h0
  refine zk (zs (sx_block (zs (zr ?_))))
  obtain ⟨y1,hy1⟩ : ∃ y,(l)[x.1]? = some y := ⟨(l)[x.1]'(by omega),List.getElem?_eq_getElem _⟩
  obtain ⟨b1,f1,e1,hU1⟩ := hY0.one hy1
  cases e1
  have hyl := y1.toNat_lt
  have hp : 256 ^ x.1 ≤ 256 ^ 7 := Nat.pow_le_pow_right (by decide) (by omega)
  have hor := or_add x.2 y1.toNat hyl (by omega)
  have hcv : IntKind.u64.wrap ((y1.toNat : Nat) : Int) = ((y1.toNat : Nat) : Int) := u64_in (by omega) (by omega)
  refine sx_R (Pt b0 (0 + x.1)) (run_ix1 _ 5 _ _ rfl b0 0 l.length c0 x.1 .i64 (by kernel_rfl) (by kernel_rfl) (by first | assumption | omega) (by kernel_rfl) (by kernel_rfl)) ?_
  refine zV b0 (0 + x.1) (.int .u8 ((y1.toNat : Nat) : Int)) hU1 5 (.tmp 11) _ Tryz.underlying5 rfl ?_
  refine zq 1 (zn (zr (zq 4 (sx_E 16 (U6 (IntKind.u64.wrap ((y1.toNat : Nat) : Int))) (N6 (y1.toNat : Nat)) (congrArg (Value.int .u64) hcv) ?_))))
  refine zq 1 (sx_E 17 (U6 (orI .u64 (IntKind.u64.wrap (((x.2 : Nat) : Int) * 2 ^ 8)) ((y1.toNat : Nat) : Int))) (N6 (x.2 * 256 + y1.toNat : Nat)) (congrArg (Value.int .u64) hor) ?_)
  refine zq 1 (zn (zr (zq 1 (sx_E 18 (I6 (IntKind.i64.wrap (((x.1 : Nat) : Int) + 1))) (I6 (((x.1 : Nat) : Int) + 1)) i6v ?_))))
  refine zq 1 (zn ?_)
  refine ⟨(x.1 + 1,x.2 * 256 + y1.toNat),?_,?_,look_zip _ _ (by kernel_rfl),fun _ h => h.eqv (by kernel_rfl)⟩
  · exact ⟨by show x.1 + 1 ≤ _; omega,by rw [← hx2,joinN_drop hy1],by have := y1.toNat_lt; rw [Nat.pow_succ]; omega⟩
  · show l.length - (x.1 + 1) < l.length - x.1; omega
 ·
  have h0d := of_decide_eq_false h0
  refine sx_exit (zQ 2 (zn (sx_ret (sx_Z [2] [(N6 (x.2 : Nat))] (fun W' hM => ?_)))))
  refine ⟨?_,hM.below⟩
  rw [show x.1 = l.length by omega,List.drop_length] at hx2
  rw [← hx2]
  rfl
theorem rBad_any (rd : Rd) (r : Nat) {W0 : Cx} {U : View} {σF : Blks} {W : World} (hM : Mem W0 U ([(r, rd.O)] ++ σF) W) : Calls Tryz.prog 213 #[.pointer (some ⟨r, 0, none⟩)] W (RetM W0 U σF fun v V σ' => v = .tuple #[.int .i64 rd.bad, .int .i64 rd.e] ∧ σ' = [(r, rd.O)]) := by
 have hM2 : Mem W0 U ([(bK r [(St rd.b),(I6 (rd.at_ : Int)),(I6 rd.bad),(I6 rd.e),(I6 (rd.frm : Int))] 297)] ++ σF) W := hM.eqv (by kernel_rfl)
 refine sx_enterM (f := 213) 12 U Tryz.func213 rfl rfl rfl hM2 ?_
 refine zQ 2 (zn (zs (sx_W 9 1 0 [4,5,6,7,8,9,10,11,2] [.val (Pt r 0),.val (Pt r 0),.val (Pt r 2),.val (I6 rd.bad),.val (Pt r 0),.val (Pt r 0),.val (Pt r 3),.val (I6 rd.e),.val (I6 rd.bad)] ⟨?_,?_,?_,?_,?_,?_,?_,?_,?_,trivial⟩ ?_)))
 · exact oQ 0 rfl (Pt r 0) rfl
 · exact oQ 1 rfl (Pt r 0) rfl
 · exact oQ 2 rfl (Pt r 2) rfl
 · exact oL 3 0 r 1 [(St rd.b),(I6 (rd.at_ : Int)),(I6 rd.bad),(I6 rd.e),(I6 (rd.frm : Int))] 297 rfl (I6 rd.bad) rfl
 · exact oQ 4 rfl (Pt r 0) rfl
 · exact oQ 5 rfl (Pt r 0) rfl
 · exact oQ 6 rfl (Pt r 3) rfl
 · exact oL 7 0 r 1 [(St rd.b),(I6 (rd.at_ : Int)),(I6 rd.bad),(I6 rd.e),(I6 (rd.frm : Int))] 297 rfl (I6 rd.e) rfl
 · exact oQ 8 rfl (I6 rd.bad) rfl
 refine zq 1 (zn (sx_ret (sx_Z [2,3] [(I6 rd.bad),(I6 rd.e)] (fun W' hM => ?_))))
 exact retM_eq (σ' := [(bK r [(St rd.b),(I6 (rd.at_ : Int)),(I6 rd.bad),(I6 rd.e),(I6 (rd.frm : Int))] 297)]) hM (View.le_refl _) ⟨rfl,rfl⟩
theorem joinN_lt : ∀ (l : List UInt8) (n k : Nat), n < 256 ^ k → joinN n l < 256 ^ (k + l.length)
 | [], n, k, h => by simpa [joinN] using h
 | c :: l, n, k, h => by
  have hc := c.toNat_lt
  have := joinN_lt l (n * 256 + c.toNat) (k + 1) (by rw [Nat.pow_succ]; omega)
  rw [List.length_cons, show k + (l.length + 1) = k + 1 + l.length by omega]
  exact this
def hd2 (s : List UInt8) (m z : Nat) : Option (Nat × Nat × Bool × Nat) :=
 if decide ((s.length : Int) < ((1 + z : Nat) : Int)) then none
 else if (((Itm.headB m (joinN 0 ((s.drop 1).take z))).length : Int) != ((1 + z : Nat) : Int)) then none else some (m, joinN 0 ((s.drop 1).take z), false, 1 + z)
def hd1 (s : List UInt8) (m k : Nat) : Option (Nat × Nat × Bool × Nat) :=
 if k < 24 then some (m, k, false, 1) else if k = 31 ∧ opensB (m : Int) = true then some (m, 0, true, 1) else if 28 ≤ k then none else hd2 s m (2 ^ (k - 24))
def hdF (s : List UInt8) : Option (Nat × Nat × Bool × Nat) := match s[0]? with
 | none => none
 | some c => hd1 s (c.toNat / 32) (c.toNat % 32)
def hdV : Option (Nat × Nat × Bool × Nat) → Value
 | none => .tuple #[.int .i64 0, .int .u64 0, .bool false]
 | some (m, n, o, _) => .tuple #[.int .i64 (m : Int), .int .u64 (n : Int), .bool o]
def hdR (s : List UInt8) : Option (Nat × Nat × Bool × Nat) → Rd
 | none => ⟨s, 0, 0, 2, 0⟩
 | some (_, _, _, z) => ⟨s, z, -1, 0, 0⟩
def HdIs (r : Nat) (s : List UInt8) (x : Option (Nat × Nat × Bool × Nat)) (v : Value) (_ : View) (σ : Blks) : Prop := v = hdV x ∧ σ = [(r, (hdR s x).O)]
theorem head_nil (s : List UInt8) (r : Nat) (hs : (s == []) = true) {W0 : Cx} {U : View} {σF : Blks} {W : World} (hM : Mem W0 U ([(r, (Rd.new s).O)] ++ σF) W) : Calls Tryz.prog 238 #[.pointer (some ⟨r, 0, none⟩)] W (RetM W0 U σF (HdIs r s (none))) := by
 have hM2 : Mem W0 U ([(bK r [(St s),(I6 0),(I6 (-1)),(I6 0),(I6 0)] 297)] ++ σF) W := hM.eqv (by kernel_rfl)
 refine sx_enterM (f := 238) 104 U Tryz.func238 rfl rfl rfl hM2 ?_
 refine zQ 3 (zn (zs (zB [0,0,0,1,0] [(r,1)] (zn (sx_F (zk (zs (sx_W 8 2 3 [15,16,17,18,19,20,21,22] [.val (Pt r 0),.val (Pt r 0),.val (Pt r 0),.val (St s),.val (Pt r 0),.val (Pt r 0),.val (Pt r 1),.val (I6 0)] ⟨?_,?_,?_,?_,?_,?_,?_,?_,trivial⟩ ?_))))))))
 · exact oQ 0 rfl (Pt r 0) rfl
 · exact oQ 1 rfl (Pt r 0) rfl
 · exact oQ 2 rfl (Pt r 0) rfl
 · exact oL 3 0 r 1 [(St s),(I6 0),(I6 (-1)),(I6 0),(I6 0)] 297 rfl (St s) rfl
 · exact oQ 4 rfl (Pt r 0) rfl
 · exact oQ 5 rfl (Pt r 0) rfl
 · exact oQ 6 rfl (Pt r 1) rfl
 · exact oL 7 0 r 1 [(St s),(I6 0),(I6 (-1)),(I6 0),(I6 0)] 297 rfl (I6 0) rfl
 refine sx_R (St s) (run_ss 9 _ (some _) none rfl s 0 s.length s (by kernel_rfl) (show evS _ _ = _ by kernel_rfl) rfl (by first | exact Nat.zero_le _ | exact Nat.le_refl _ | assumption | omega | (simp only [List.length_append,List.length_cons,List.length_nil,List.length_drop,List.length_take]; omega)) (by first | exact Nat.zero_le _ | exact Nat.le_refl _ | assumption | omega | (simp only [List.length_append,List.length_cons,List.length_nil,List.length_drop,List.length_take]; omega)) (by simp) Tryz.underlying9) ?_
 refine zq 1 (zn (zs (zQ 1 (sx_R (.bool (s == [])) (run_streq _ _ _ _ rfl s [] (by kernel_rfl) (by kernel_rfl)) ?_))))
 refine zn (sx_T' (s == []) hs ?_)
 refine zQ 1 (sx_MI 0 (bK r [(St s),(I6 0),(I6 (-1)),(I6 0),(I6 0)] 297) 241 #[(Pt r 0),(I6 2)] (fun v _ σ' => v = resV [] ∧ σ' = [(r,((Rd.new s).fail 2).O)]) (fun W hM => rFail_any (Rd.new s) 2 r hM) (fun v0 V0 s0 hV0 hP0 => ?_))
 obtain ⟨rfl,rfl⟩ := hP0
 refine zn (zQ 3 (zn (sx_ret (sx_Z [2,3,4] [(I6 0),(U6 0),(.bool false)] (fun W' hM => ?_)))))
 exact retM_eq (σ' := [(bK r [(St s),(I6 0),(I6 0),(I6 2),(I6 0)] 297)]) hM hV0 ⟨rfl,rfl⟩
theorem head_small (s : List UInt8) (r : Nat) (c : UInt8) (hc : s[0]? = some c) (hs : (s == []) = false) (hk : c.toNat % 32 < 24) {W0 : Cx} {U : View} {σF : Blks} {W : World} (hM : Mem W0 U ([(r, (Rd.new s).O)] ++ σF) W) : Calls Tryz.prog 238 #[.pointer (some ⟨r, 0, none⟩)] W (RetM W0 U σF (HdIs r s (some (c.toNat / 32, c.toNat % 32, false, 1)))) := by
 have hcl := c.toNat_lt
 have hk1 : decide (((c.toNat % 32 : Nat) : Int) < 24) = true := decide_eq_true (by omega)
 have hw : IntKind.u64.wrap ((c.toNat % 32 : Nat) : Int) = ((c.toNat % 32 : Nat) : Int) := u64_in (by omega) (by omega)
 have hM2 : Mem W0 U ([(bK r [(St s),(I6 0),(I6 (-1)),(I6 0),(I6 0)] 297)] ++ σF) W := hM.eqv (by kernel_rfl)
 refine sx_enterM (f := 238) 104 U Tryz.func238 rfl rfl rfl hM2 ?_
 refine zQ 3 (zn (zs (zB [0,0,0,1,0] [(r,1)] (zn (sx_F (zk (zs (sx_W 8 2 3 [15,16,17,18,19,20,21,22] [.val (Pt r 0),.val (Pt r 0),.val (Pt r 0),.val (St s),.val (Pt r 0),.val (Pt r 0),.val (Pt r 1),.val (I6 0)] ⟨?_,?_,?_,?_,?_,?_,?_,?_,trivial⟩ ?_))))))))
 · exact oQ 0 rfl (Pt r 0) rfl
 · exact oQ 1 rfl (Pt r 0) rfl
 · exact oQ 2 rfl (Pt r 0) rfl
 · exact oL 3 0 r 1 [(St s),(I6 0),(I6 (-1)),(I6 0),(I6 0)] 297 rfl (St s) rfl
 · exact oQ 4 rfl (Pt r 0) rfl
 · exact oQ 5 rfl (Pt r 0) rfl
 · exact oQ 6 rfl (Pt r 1) rfl
 · exact oL 7 0 r 1 [(St s),(I6 0),(I6 (-1)),(I6 0),(I6 0)] 297 rfl (I6 0) rfl
 refine sx_R (St s) (run_ss 9 _ (some _) none rfl s 0 s.length s (by kernel_rfl) (show evS _ _ = _ by kernel_rfl) rfl (by first | exact Nat.zero_le _ | exact Nat.le_refl _ | assumption | omega | (simp only [List.length_append,List.length_cons,List.length_nil,List.length_drop,List.length_take]; omega)) (by first | exact Nat.zero_le _ | exact Nat.le_refl _ | assumption | omega | (simp only [List.length_append,List.length_cons,List.length_nil,List.length_drop,List.length_take]; omega)) (by simp) Tryz.underlying9) ?_
 refine zq 1 (zn (zs (zQ 1 (sx_R (.bool (s == [])) (run_streq _ _ _ _ rfl s [] (by kernel_rfl) (by kernel_rfl)) ?_))))
 refine zn (sx_F' (s == []) hs ?_)
 refine zk (zs (sx_W 9 1 0 [28,29,30,31,32,33,34,35,6] [.val (St s),.val (.int .u8 ((c.toNat : Nat) : Int)),.val (.int .u8 ((((c.toNat : Nat) : Int)).fdiv (2 ^ 5))),.val (I6 ((c.toNat / 32 : Nat) : Int)),.val (St s),.val (.int .u8 ((c.toNat : Nat) : Int)),.val (.int .u8 (andI .u8 ((c.toNat : Nat) : Int) 31)),.val (I6 ((c.toNat % 32 : Nat) : Int)),.val (I6 ((c.toNat / 32 : Nat) : Int))] ⟨?_,?_,?_,?_,?_,?_,?_,?_,?_,trivial⟩ ?_))
 · exact oQ 0 rfl (St s) rfl
 · exact obR 1 rfl (.int .u8 ((c.toNat : Nat) : Int)) rfl (by kernel_rfl) (run_ib 9 _ _ rfl s 0 .i64 c (by kernel_rfl) (by kernel_rfl) hc Tryz.underlying9) (by kernel_rfl)
 · exact oQ 2 rfl (.int .u8 ((((c.toNat : Nat) : Int)).fdiv (2 ^ 5))) rfl
 · exact oE 3 rfl (I6 (IntKind.i64.wrap ((((c.toNat : Nat) : Int)).fdiv (2 ^ 5)))) (I6 ((c.toNat / 32 : Nat) : Int)) (congrArg (Value.int .i64) (high3_any c)) rfl
 · exact oQ 4 rfl (St s) rfl
 · exact obR 5 rfl (.int .u8 ((c.toNat : Nat) : Int)) rfl (by kernel_rfl) (run_ib 9 _ _ rfl s 0 .i64 c (by kernel_rfl) (by kernel_rfl) hc Tryz.underlying9) (by kernel_rfl)
 · exact oQ 6 rfl (.int .u8 (andI .u8 ((c.toNat : Nat) : Int) 31)) rfl
 · exact oE 7 rfl (I6 (IntKind.i64.wrap (andI .u8 ((c.toNat : Nat) : Int) 31))) (I6 ((c.toNat % 32 : Nat) : Int)) (congrArg (Value.int .i64) (low5_any c)) rfl
 · exact oQ 8 rfl (I6 ((c.toNat / 32 : Nat) : Int)) rfl
 refine zq 1 (zn (zs (sx_block (zQ 3 (zn (sx_T' (decide (((c.toNat % 32 : Nat) : Int) < 24)) hk1 ?_))))))
 refine zB [0,0,0,1,0,0,0] [(r,1)] (sx_S 0 r (zn (zQ 3 (sx_E 48 (U6 (IntKind.u64.wrap ((c.toNat % 32 : Nat) : Int))) (N6 (c.toNat % 32 : Nat)) (congrArg (Value.int .u64) hw) ?_))))
 refine zq 3 (zn (sx_ret (sx_Z [2,3,4] [(I6 ((c.toNat / 32 : Nat) : Int)),(N6 (c.toNat % 32 : Nat)),(.bool false)] (fun W' hM => ?_))))
 exact retM_eq (σ' := [(bK r [(St s),(I6 1),(I6 (-1)),(I6 0),(I6 0)] 297)]) hM (View.le_refl _) ⟨rfl,rfl⟩
theorem head_open (s : List UInt8) (r : Nat) (c : UInt8) (hc : s[0]? = some c) (hs : (s == []) = false) (hk : c.toNat % 32 = 31) (ho : opensB ((c.toNat / 32 : Nat) : Int) = true) {W0 : Cx} {U : View} {σF : Blks} {W : World} (hM : Mem W0 U ([(r, (Rd.new s).O)] ++ σF) W) : Calls Tryz.prog 238 #[.pointer (some ⟨r, 0, none⟩)] W (RetM W0 U σF (HdIs r s (some (c.toNat / 32, 0, true, 1)))) := by
 have hcl := c.toNat_lt
 have hk1 : decide (((c.toNat % 32 : Nat) : Int) < 24) = false := decide_eq_false (by omega)
 have hk2 : (((c.toNat % 32 : Nat) : Int) == 31) = true := by rw [hk]; rfl
 have hM2 : Mem W0 U ([(bK r [(St s),(I6 0),(I6 (-1)),(I6 0),(I6 0)] 297)] ++ σF) W := hM.eqv (by kernel_rfl)
 refine sx_enterM (f := 238) 104 U Tryz.func238 rfl rfl rfl hM2 ?_
 refine zQ 3 (zn (zs (zB [0,0,0,1,0] [(r,1)] (zn (sx_F (zk (zs (sx_W 8 2 3 [15,16,17,18,19,20,21,22] [.val (Pt r 0),.val (Pt r 0),.val (Pt r 0),.val (St s),.val (Pt r 0),.val (Pt r 0),.val (Pt r 1),.val (I6 0)] ⟨?_,?_,?_,?_,?_,?_,?_,?_,trivial⟩ ?_))))))))
 · exact oQ 0 rfl (Pt r 0) rfl
 · exact oQ 1 rfl (Pt r 0) rfl
 · exact oQ 2 rfl (Pt r 0) rfl
 · exact oL 3 0 r 1 [(St s),(I6 0),(I6 (-1)),(I6 0),(I6 0)] 297 rfl (St s) rfl
 · exact oQ 4 rfl (Pt r 0) rfl
 · exact oQ 5 rfl (Pt r 0) rfl
 · exact oQ 6 rfl (Pt r 1) rfl
 · exact oL 7 0 r 1 [(St s),(I6 0),(I6 (-1)),(I6 0),(I6 0)] 297 rfl (I6 0) rfl
 refine sx_R (St s) (run_ss 9 _ (some _) none rfl s 0 s.length s (by kernel_rfl) (show evS _ _ = _ by kernel_rfl) rfl (by first | exact Nat.zero_le _ | exact Nat.le_refl _ | assumption | omega | (simp only [List.length_append,List.length_cons,List.length_nil,List.length_drop,List.length_take]; omega)) (by first | exact Nat.zero_le _ | exact Nat.le_refl _ | assumption | omega | (simp only [List.length_append,List.length_cons,List.length_nil,List.length_drop,List.length_take]; omega)) (by simp) Tryz.underlying9) ?_
 refine zq 1 (zn (zs (zQ 1 (sx_R (.bool (s == [])) (run_streq _ _ _ _ rfl s [] (by kernel_rfl) (by kernel_rfl)) ?_))))
 refine zn (sx_F' (s == []) hs ?_)
 refine zk (zs (sx_W 9 1 0 [28,29,30,31,32,33,34,35,6] [.val (St s),.val (.int .u8 ((c.toNat : Nat) : Int)),.val (.int .u8 ((((c.toNat : Nat) : Int)).fdiv (2 ^ 5))),.val (I6 ((c.toNat / 32 : Nat) : Int)),.val (St s),.val (.int .u8 ((c.toNat : Nat) : Int)),.val (.int .u8 (andI .u8 ((c.toNat : Nat) : Int) 31)),.val (I6 ((c.toNat % 32 : Nat) : Int)),.val (I6 ((c.toNat / 32 : Nat) : Int))] ⟨?_,?_,?_,?_,?_,?_,?_,?_,?_,trivial⟩ ?_))
 · exact oQ 0 rfl (St s) rfl
 · exact obR 1 rfl (.int .u8 ((c.toNat : Nat) : Int)) rfl (by kernel_rfl) (run_ib 9 _ _ rfl s 0 .i64 c (by kernel_rfl) (by kernel_rfl) hc Tryz.underlying9) (by kernel_rfl)
 · exact oQ 2 rfl (.int .u8 ((((c.toNat : Nat) : Int)).fdiv (2 ^ 5))) rfl
 · exact oE 3 rfl (I6 (IntKind.i64.wrap ((((c.toNat : Nat) : Int)).fdiv (2 ^ 5)))) (I6 ((c.toNat / 32 : Nat) : Int)) (congrArg (Value.int .i64) (high3_any c)) rfl
 · exact oQ 4 rfl (St s) rfl
 · exact obR 5 rfl (.int .u8 ((c.toNat : Nat) : Int)) rfl (by kernel_rfl) (run_ib 9 _ _ rfl s 0 .i64 c (by kernel_rfl) (by kernel_rfl) hc Tryz.underlying9) (by kernel_rfl)
 · exact oQ 6 rfl (.int .u8 (andI .u8 ((c.toNat : Nat) : Int) 31)) rfl
 · exact oE 7 rfl (I6 (IntKind.i64.wrap (andI .u8 ((c.toNat : Nat) : Int) 31))) (I6 ((c.toNat % 32 : Nat) : Int)) (congrArg (Value.int .i64) (low5_any c)) rfl
 · exact oQ 8 rfl (I6 ((c.toNat / 32 : Nat) : Int)) rfl
 refine zq 1 (zn (zs (sx_block (zQ 3 (zn (sx_F' (decide (((c.toNat % 32 : Nat) : Int) < 24)) hk1 ?_))))))
 refine zQ 3 (sx_E 52 (.bool (((c.toNat % 32 : Nat) : Int) == 31)) (.bool true) (congrArg Value.bool hk2) ?_)
 refine zq 1 (sx_C 183 #[(I6 ((c.toNat / 32 : Nat) : Int))] (.bool (opensB ((c.toNat / 32 : Nat) : Int))) (fun W hM => opens_any ((c.toNat / 32 : Nat) : Int) W) ?_)
 refine zq 2 (zn (sx_T' (opensB ((c.toNat / 32 : Nat) : Int)) ho ?_))
 refine zB [0,0,0,1,0,0,0] [(r,1)] (sx_S 0 r (zn (zQ 4 (zn (sx_ret (sx_Z [2,3,4] [(I6 ((c.toNat / 32 : Nat) : Int)),(U6 0),(.bool true)] (fun W' hM => ?_)))))))
 exact retM_eq (σ' := [(bK r [(St s),(I6 1),(I6 (-1)),(I6 0),(I6 0)] 297)]) hM (View.le_refl _) ⟨rfl,rfl⟩
theorem head_bad1 (s : List UInt8) (r : Nat) (c : UInt8) (hc : s[0]? = some c) (hs : (s == []) = false) (hk : c.toNat % 32 = 31) (ho : opensB ((c.toNat / 32 : Nat) : Int) = false) {W0 : Cx} {U : View} {σF : Blks} {W : World} (hM : Mem W0 U ([(r, (Rd.new s).O)] ++ σF) W) : Calls Tryz.prog 238 #[.pointer (some ⟨r, 0, none⟩)] W (RetM W0 U σF (HdIs r s (none))) := by
 have hcl := c.toNat_lt
 have hk1 : decide (((c.toNat % 32 : Nat) : Int) < 24) = false := decide_eq_false (by omega)
 have hk2 : (((c.toNat % 32 : Nat) : Int) == 31) = true := by rw [hk]; rfl
 have hk3 : decide (((c.toNat % 32 : Nat) : Int) ≥ 28) = true := decide_eq_true (by omega)
 have hM2 : Mem W0 U ([(bK r [(St s),(I6 0),(I6 (-1)),(I6 0),(I6 0)] 297)] ++ σF) W := hM.eqv (by kernel_rfl)
 refine sx_enterM (f := 238) 104 U Tryz.func238 rfl rfl rfl hM2 ?_
 refine zQ 3 (zn (zs (zB [0,0,0,1,0] [(r,1)] (zn (sx_F (zk (zs (sx_W 8 2 3 [15,16,17,18,19,20,21,22] [.val (Pt r 0),.val (Pt r 0),.val (Pt r 0),.val (St s),.val (Pt r 0),.val (Pt r 0),.val (Pt r 1),.val (I6 0)] ⟨?_,?_,?_,?_,?_,?_,?_,?_,trivial⟩ ?_))))))))
 · exact oQ 0 rfl (Pt r 0) rfl
 · exact oQ 1 rfl (Pt r 0) rfl
 · exact oQ 2 rfl (Pt r 0) rfl
 · exact oL 3 0 r 1 [(St s),(I6 0),(I6 (-1)),(I6 0),(I6 0)] 297 rfl (St s) rfl
 · exact oQ 4 rfl (Pt r 0) rfl
 · exact oQ 5 rfl (Pt r 0) rfl
 · exact oQ 6 rfl (Pt r 1) rfl
 · exact oL 7 0 r 1 [(St s),(I6 0),(I6 (-1)),(I6 0),(I6 0)] 297 rfl (I6 0) rfl
 refine sx_R (St s) (run_ss 9 _ (some _) none rfl s 0 s.length s (by kernel_rfl) (show evS _ _ = _ by kernel_rfl) rfl (by first | exact Nat.zero_le _ | exact Nat.le_refl _ | assumption | omega | (simp only [List.length_append,List.length_cons,List.length_nil,List.length_drop,List.length_take]; omega)) (by first | exact Nat.zero_le _ | exact Nat.le_refl _ | assumption | omega | (simp only [List.length_append,List.length_cons,List.length_nil,List.length_drop,List.length_take]; omega)) (by simp) Tryz.underlying9) ?_
 refine zq 1 (zn (zs (zQ 1 (sx_R (.bool (s == [])) (run_streq _ _ _ _ rfl s [] (by kernel_rfl) (by kernel_rfl)) ?_))))
 refine zn (sx_F' (s == []) hs ?_)
 refine zk (zs (sx_W 9 1 0 [28,29,30,31,32,33,34,35,6] [.val (St s),.val (.int .u8 ((c.toNat : Nat) : Int)),.val (.int .u8 ((((c.toNat : Nat) : Int)).fdiv (2 ^ 5))),.val (I6 ((c.toNat / 32 : Nat) : Int)),.val (St s),.val (.int .u8 ((c.toNat : Nat) : Int)),.val (.int .u8 (andI .u8 ((c.toNat : Nat) : Int) 31)),.val (I6 ((c.toNat % 32 : Nat) : Int)),.val (I6 ((c.toNat / 32 : Nat) : Int))] ⟨?_,?_,?_,?_,?_,?_,?_,?_,?_,trivial⟩ ?_))
 · exact oQ 0 rfl (St s) rfl
 · exact obR 1 rfl (.int .u8 ((c.toNat : Nat) : Int)) rfl (by kernel_rfl) (run_ib 9 _ _ rfl s 0 .i64 c (by kernel_rfl) (by kernel_rfl) hc Tryz.underlying9) (by kernel_rfl)
 · exact oQ 2 rfl (.int .u8 ((((c.toNat : Nat) : Int)).fdiv (2 ^ 5))) rfl
 · exact oE 3 rfl (I6 (IntKind.i64.wrap ((((c.toNat : Nat) : Int)).fdiv (2 ^ 5)))) (I6 ((c.toNat / 32 : Nat) : Int)) (congrArg (Value.int .i64) (high3_any c)) rfl
 · exact oQ 4 rfl (St s) rfl
 · exact obR 5 rfl (.int .u8 ((c.toNat : Nat) : Int)) rfl (by kernel_rfl) (run_ib 9 _ _ rfl s 0 .i64 c (by kernel_rfl) (by kernel_rfl) hc Tryz.underlying9) (by kernel_rfl)
 · exact oQ 6 rfl (.int .u8 (andI .u8 ((c.toNat : Nat) : Int) 31)) rfl
 · exact oE 7 rfl (I6 (IntKind.i64.wrap (andI .u8 ((c.toNat : Nat) : Int) 31))) (I6 ((c.toNat % 32 : Nat) : Int)) (congrArg (Value.int .i64) (low5_any c)) rfl
 · exact oQ 8 rfl (I6 ((c.toNat / 32 : Nat) : Int)) rfl
 refine zq 1 (zn (zs (sx_block (zQ 3 (zn (sx_F' (decide (((c.toNat % 32 : Nat) : Int) < 24)) hk1 ?_))))))
 refine zQ 3 (sx_E 52 (.bool (((c.toNat % 32 : Nat) : Int) == 31)) (.bool true) (congrArg Value.bool hk2) ?_)
 refine zq 1 (sx_C 183 #[(I6 ((c.toNat / 32 : Nat) : Int))] (.bool (opensB ((c.toNat / 32 : Nat) : Int))) (fun W hM => opens_any ((c.toNat / 32 : Nat) : Int) W) ?_)
 refine zq 2 (zn (sx_F' (opensB ((c.toNat / 32 : Nat) : Int)) ho ?_))
 refine zQ 3 (zn (sx_T' (decide (((c.toNat % 32 : Nat) : Int) ≥ 28)) hk3 ?_))
 refine zQ 1 (sx_MI 0 (bK r [(St s),(I6 0),(I6 (-1)),(I6 0),(I6 0)] 297) 241 #[(Pt r 0),(I6 2)] (fun v _ σ' => v = resV [] ∧ σ' = [(r,((Rd.new s).fail 2).O)]) (fun W hM => rFail_any (Rd.new s) 2 r hM) (fun v0 V0 s0 hV0 hP0 => ?_))
 obtain ⟨rfl,rfl⟩ := hP0
 refine zn (zQ 3 (zn (sx_ret (sx_Z [2,3,4] [(I6 0),(U6 0),(.bool false)] (fun W' hM => ?_)))))
 exact retM_eq (σ' := [(bK r [(St s),(I6 0),(I6 0),(I6 2),(I6 0)] 297)]) hM hV0 ⟨rfl,rfl⟩
theorem head_bad2 (s : List UInt8) (r : Nat) (c : UInt8) (hc : s[0]? = some c) (hs : (s == []) = false) (hk : 28 ≤ c.toNat % 32) (h31 : c.toNat % 32 ≠ 31) {W0 : Cx} {U : View} {σF : Blks} {W : World} (hM : Mem W0 U ([(r, (Rd.new s).O)] ++ σF) W) : Calls Tryz.prog 238 #[.pointer (some ⟨r, 0, none⟩)] W (RetM W0 U σF (HdIs r s (none))) := by
 have hcl := c.toNat_lt
 have hk1 : decide (((c.toNat % 32 : Nat) : Int) < 24) = false := decide_eq_false (by omega)
 have hk2 : (((c.toNat % 32 : Nat) : Int) == 31) = false := beq_eq_false_iff_ne.2 (by omega)
 have hk3 : decide (((c.toNat % 32 : Nat) : Int) ≥ 28) = true := decide_eq_true (by omega)
 have hM2 : Mem W0 U ([(bK r [(St s),(I6 0),(I6 (-1)),(I6 0),(I6 0)] 297)] ++ σF) W := hM.eqv (by kernel_rfl)
 refine sx_enterM (f := 238) 104 U Tryz.func238 rfl rfl rfl hM2 ?_
 refine zQ 3 (zn (zs (zB [0,0,0,1,0] [(r,1)] (zn (sx_F (zk (zs (sx_W 8 2 3 [15,16,17,18,19,20,21,22] [.val (Pt r 0),.val (Pt r 0),.val (Pt r 0),.val (St s),.val (Pt r 0),.val (Pt r 0),.val (Pt r 1),.val (I6 0)] ⟨?_,?_,?_,?_,?_,?_,?_,?_,trivial⟩ ?_))))))))
 · exact oQ 0 rfl (Pt r 0) rfl
 · exact oQ 1 rfl (Pt r 0) rfl
 · exact oQ 2 rfl (Pt r 0) rfl
 · exact oL 3 0 r 1 [(St s),(I6 0),(I6 (-1)),(I6 0),(I6 0)] 297 rfl (St s) rfl
 · exact oQ 4 rfl (Pt r 0) rfl
 · exact oQ 5 rfl (Pt r 0) rfl
 · exact oQ 6 rfl (Pt r 1) rfl
 · exact oL 7 0 r 1 [(St s),(I6 0),(I6 (-1)),(I6 0),(I6 0)] 297 rfl (I6 0) rfl
 refine sx_R (St s) (run_ss 9 _ (some _) none rfl s 0 s.length s (by kernel_rfl) (show evS _ _ = _ by kernel_rfl) rfl (by first | exact Nat.zero_le _ | exact Nat.le_refl _ | assumption | omega | (simp only [List.length_append,List.length_cons,List.length_nil,List.length_drop,List.length_take]; omega)) (by first | exact Nat.zero_le _ | exact Nat.le_refl _ | assumption | omega | (simp only [List.length_append,List.length_cons,List.length_nil,List.length_drop,List.length_take]; omega)) (by simp) Tryz.underlying9) ?_
 refine zq 1 (zn (zs (zQ 1 (sx_R (.bool (s == [])) (run_streq _ _ _ _ rfl s [] (by kernel_rfl) (by kernel_rfl)) ?_))))
 refine zn (sx_F' (s == []) hs ?_)
 refine zk (zs (sx_W 9 1 0 [28,29,30,31,32,33,34,35,6] [.val (St s),.val (.int .u8 ((c.toNat : Nat) : Int)),.val (.int .u8 ((((c.toNat : Nat) : Int)).fdiv (2 ^ 5))),.val (I6 ((c.toNat / 32 : Nat) : Int)),.val (St s),.val (.int .u8 ((c.toNat : Nat) : Int)),.val (.int .u8 (andI .u8 ((c.toNat : Nat) : Int) 31)),.val (I6 ((c.toNat % 32 : Nat) : Int)),.val (I6 ((c.toNat / 32 : Nat) : Int))] ⟨?_,?_,?_,?_,?_,?_,?_,?_,?_,trivial⟩ ?_))
 · exact oQ 0 rfl (St s) rfl
 · exact obR 1 rfl (.int .u8 ((c.toNat : Nat) : Int)) rfl (by kernel_rfl) (run_ib 9 _ _ rfl s 0 .i64 c (by kernel_rfl) (by kernel_rfl) hc Tryz.underlying9) (by kernel_rfl)
 · exact oQ 2 rfl (.int .u8 ((((c.toNat : Nat) : Int)).fdiv (2 ^ 5))) rfl
 · exact oE 3 rfl (I6 (IntKind.i64.wrap ((((c.toNat : Nat) : Int)).fdiv (2 ^ 5)))) (I6 ((c.toNat / 32 : Nat) : Int)) (congrArg (Value.int .i64) (high3_any c)) rfl
 · exact oQ 4 rfl (St s) rfl
 · exact obR 5 rfl (.int .u8 ((c.toNat : Nat) : Int)) rfl (by kernel_rfl) (run_ib 9 _ _ rfl s 0 .i64 c (by kernel_rfl) (by kernel_rfl) hc Tryz.underlying9) (by kernel_rfl)
 · exact oQ 6 rfl (.int .u8 (andI .u8 ((c.toNat : Nat) : Int) 31)) rfl
 · exact oE 7 rfl (I6 (IntKind.i64.wrap (andI .u8 ((c.toNat : Nat) : Int) 31))) (I6 ((c.toNat % 32 : Nat) : Int)) (congrArg (Value.int .i64) (low5_any c)) rfl
 · exact oQ 8 rfl (I6 ((c.toNat / 32 : Nat) : Int)) rfl
 refine zq 1 (zn (zs (sx_block (zQ 3 (zn (sx_F' (decide (((c.toNat % 32 : Nat) : Int) < 24)) hk1 ?_))))))
 refine zQ 3 (sx_E 52 (.bool (((c.toNat % 32 : Nat) : Int) == 31)) (.bool false) (congrArg Value.bool hk2) ?_)
 refine zq 4 (zn (sx_F (zQ 3 (zn (sx_T' (decide (((c.toNat % 32 : Nat) : Int) ≥ 28)) hk3 ?_)))))
 refine zQ 1 (sx_MI 0 (bK r [(St s),(I6 0),(I6 (-1)),(I6 0),(I6 0)] 297) 241 #[(Pt r 0),(I6 2)] (fun v _ σ' => v = resV [] ∧ σ' = [(r,((Rd.new s).fail 2).O)]) (fun W hM => rFail_any (Rd.new s) 2 r hM) (fun v0 V0 s0 hV0 hP0 => ?_))
 obtain ⟨rfl,rfl⟩ := hP0
 refine zn (zQ 3 (zn (sx_ret (sx_Z [2,3,4] [(I6 0),(U6 0),(.bool false)] (fun W' hM => ?_)))))
 exact retM_eq (σ' := [(bK r [(St s),(I6 0),(I6 0),(I6 2),(I6 0)] 297)]) hM hV0 ⟨rfl,rfl⟩
set_option maxHeartbeats 16000000 in
theorem head_1 (s : List UInt8) (r : Nat) (c : UInt8) (hc : s[0]? = some c) (hs : (s == []) = false) (hk : c.toNat % 32 = 24) (hlen : s.length ≤ R47) {W0 : Cx} {U : View} {σF : Blks} {W : World} (hM : Mem W0 U ([(r, (Rd.new s).O)] ++ σF) W) : Calls Tryz.prog 238 #[.pointer (some ⟨r, 0, none⟩)] W (RetM W0 U σF (HdIs r s (hd2 s (c.toNat / 32) 1))) := by
 have hcl := c.toNat_lt
 unfold R47 at hlen
 have hjl : joinN 0 ((s.drop 1).take 1) < W64 := by
  have h := joinN_lt ((s.drop 1).take 1) 0 0 (by simp)
  have h2 : 256 ^ (0 + ((s.drop 1).take 1).length) ≤ 256 ^ 8 := Nat.pow_le_pow_right (by decide) (by rw [List.length_take]; omega)
  have h3 : (256 : Nat) ^ 8 = W64 := by decide
  exact Nat.lt_of_lt_of_le h (Nat.le_trans h2 (Nat.le_of_eq h3))
 have hM2 : Mem W0 U ([(bK r [(St s),(I6 0),(I6 (-1)),(I6 0),(I6 0)] 297)] ++ σF) W := hM.eqv (by kernel_rfl)
 refine sx_enterM (f := 238) 104 U Tryz.func238 rfl rfl rfl hM2 ?_
 refine zQ 3 (zn (zs (zB [0,0,0,1,0] [(r,1)] (zn (sx_F (zk (zs (sx_W 8 2 3 [15,16,17,18,19,20,21,22] [.val (Pt r 0),.val (Pt r 0),.val (Pt r 0),.val (St s),.val (Pt r 0),.val (Pt r 0),.val (Pt r 1),.val (I6 0)] ⟨?_,?_,?_,?_,?_,?_,?_,?_,trivial⟩ ?_))))))))
 · exact oQ 0 rfl (Pt r 0) rfl
 · exact oQ 1 rfl (Pt r 0) rfl
 · exact oQ 2 rfl (Pt r 0) rfl
 · exact oL 3 0 r 1 [(St s),(I6 0),(I6 (-1)),(I6 0),(I6 0)] 297 rfl (St s) rfl
 · exact oQ 4 rfl (Pt r 0) rfl
 · exact oQ 5 rfl (Pt r 0) rfl
 · exact oQ 6 rfl (Pt r 1) rfl
 · exact oL 7 0 r 1 [(St s),(I6 0),(I6 (-1)),(I6 0),(I6 0)] 297 rfl (I6 0) rfl
 refine sx_R (St s) (run_ss 9 _ (some _) none rfl s 0 s.length s (by kernel_rfl) (show evS _ _ = _ by kernel_rfl) rfl (by first | exact Nat.zero_le _ | exact Nat.le_refl _ | assumption | omega | (simp only [List.length_append,List.length_cons,List.length_nil,List.length_drop,List.length_take]; omega)) (by first | exact Nat.zero_le _ | exact Nat.le_refl _ | assumption | omega | (simp only [List.length_append,List.length_cons,List.length_nil,List.length_drop,List.length_take]; omega)) (by simp) Tryz.underlying9) ?_
 refine zq 1 (zn (zs (zQ 1 (sx_R (.bool (s == [])) (run_streq _ _ _ _ rfl s [] (by kernel_rfl) (by kernel_rfl)) ?_))))
 refine zn (sx_F' (s == []) hs ?_)
 refine zk (zs (sx_W 9 1 0 [28,29,30,31,32,33,34,35,6] [.val (St s),.val (.int .u8 ((c.toNat : Nat) : Int)),.val (.int .u8 ((((c.toNat : Nat) : Int)).fdiv (2 ^ 5))),.val (I6 ((c.toNat / 32 : Nat) : Int)),.val (St s),.val (.int .u8 ((c.toNat : Nat) : Int)),.val (.int .u8 (andI .u8 ((c.toNat : Nat) : Int) 31)),.val (I6 24),.val (I6 ((c.toNat / 32 : Nat) : Int))] ⟨?_,?_,?_,?_,?_,?_,?_,?_,?_,trivial⟩ ?_))
 · exact oQ 0 rfl (St s) rfl
 · exact obR 1 rfl (.int .u8 ((c.toNat : Nat) : Int)) rfl (by kernel_rfl) (run_ib 9 _ _ rfl s 0 .i64 c (by kernel_rfl) (by kernel_rfl) hc Tryz.underlying9) (by kernel_rfl)
 · exact oQ 2 rfl (.int .u8 ((((c.toNat : Nat) : Int)).fdiv (2 ^ 5))) rfl
 · exact oE 3 rfl (I6 (IntKind.i64.wrap ((((c.toNat : Nat) : Int)).fdiv (2 ^ 5)))) (I6 ((c.toNat / 32 : Nat) : Int)) (congrArg (Value.int .i64) (high3_any c)) rfl
 · exact oQ 4 rfl (St s) rfl
 · exact obR 5 rfl (.int .u8 ((c.toNat : Nat) : Int)) rfl (by kernel_rfl) (run_ib 9 _ _ rfl s 0 .i64 c (by kernel_rfl) (by kernel_rfl) hc Tryz.underlying9) (by kernel_rfl)
 · exact oQ 6 rfl (.int .u8 (andI .u8 ((c.toNat : Nat) : Int) 31)) rfl
 · exact oE 7 rfl (I6 (IntKind.i64.wrap (andI .u8 ((c.toNat : Nat) : Int) 31))) (I6 24) (congrArg (Value.int .i64) (by rw [low5_any,hk]; rfl)) rfl
 · exact oQ 8 rfl (I6 ((c.toNat / 32 : Nat) : Int)) rfl
 refine zq 1 (zn (zs (sx_block (zQ 3 (zn (sx_F (zQ 7 (zn (sx_F (zQ 3 (zn (sx_F (zk (zQ 4 (zn (zs (zQ 5 (zn (sx_D (decide ((((s).length : Nat) : Int) < 2)) (fun h0 => ?_) (fun h0 => ?_))))))))))))))))))))
 ·
  refine zQ 1 (sx_MI 0 (bK r [(St s),(I6 0),(I6 (-1)),(I6 0),(I6 0)] 297) 241 #[(Pt r 0),(I6 2)] (fun v _ σ' => v = resV [] ∧ σ' = [(r,((Rd.new s).fail 2).O)]) (fun W hM => rFail_any (Rd.new s) 2 r hM) (fun v0 V0 s0 hV0 hP0 => ?_))
  obtain ⟨rfl,rfl⟩ := hP0
  refine zn (zQ 3 (zn (sx_ret (sx_Z [2,3,4] [(I6 0),(U6 0),(.bool false)] (fun W' hM => ?_)))))
  have hA : decide (((s.length : Nat) : Int) < ((1 + 1 : Nat) : Int)) = true := h0
  refine retM_eq (σ' := [(bK r [(St s),(I6 0),(I6 0),(I6 2),(I6 0)] 297)]) hM hV0 ?_
  unfold hd2
  rw [if_pos hA]
  exact ⟨rfl,rfl⟩
 ·
  have h0d := of_decide_eq_false h0
  refine zk (zQ 3 (sx_R (St ((s.drop 1).take 1)) (run_ss 9 _ (some _) (some _) rfl s 1 2 ((s.drop 1).take 1) (by kernel_rfl) (show evS _ _ = _ by kernel_rfl) (show evS _ _ = _ by kernel_rfl) (by first | exact Nat.zero_le _ | exact Nat.le_refl _ | assumption | omega | (simp only [List.length_append,List.length_cons,List.length_nil,List.length_drop,List.length_take]; omega)) (by first | exact Nat.zero_le _ | exact Nat.le_refl _ | assumption | omega | (simp only [List.length_append,List.length_cons,List.length_nil,List.length_drop,List.length_take]; omega)) rfl Tryz.underlying9) ?_))
  refine sx_C 249 #[(St ((s.drop 1).take 1))] (U6 ((joinN 0 ((s.drop 1).take 1) : Nat) : Int)) (fun W hM => join_any ((s.drop 1).take 1) W (by rw [List.length_take]; omega)) ?_
  refine zq 1 (zn (zs (zQ 2 (sx_C 144 #[(I6 ((c.toNat / 32 : Nat) : Int)),(U6 ((joinN 0 ((s.drop 1).take 1) : Nat) : Int))] (St (Itm.headB (c.toNat / 32) (joinN 0 ((s.drop 1).take 1)))) (fun W hM => cHead_any (c.toNat / 32) (joinN 0 ((s.drop 1).take 1)) W (by omega) hjl) ?_))))
  refine zq 4 (zn (sx_D (((((Itm.headB (c.toNat / 32) (joinN 0 ((s.drop 1).take 1)))).length : Nat) : Int) != 2) (fun h1 => ?_) (fun h1 => ?_)))
  ·
   refine zQ 1 (sx_MI 0 (bK r [(St s),(I6 0),(I6 (-1)),(I6 0),(I6 0)] 297) 241 #[(Pt r 0),(I6 2)] (fun v _ σ' => v = resV [] ∧ σ' = [(r,((Rd.new s).fail 2).O)]) (fun W hM => rFail_any (Rd.new s) 2 r hM) (fun v1 V1 s1 hV1 hP1 => ?_))
   obtain ⟨rfl,rfl⟩ := hP1
   refine zn (zQ 3 (zn (sx_ret (sx_Z [2,3,4] [(I6 0),(U6 0),(.bool false)] (fun W' hM => ?_)))))
   have hA : decide (((s.length : Nat) : Int) < ((1 + 1 : Nat) : Int)) = false := h0
   have hB : (((Itm.headB (c.toNat / 32) (joinN 0 ((s.drop 1).take 1))).length : Int) != ((1 + 1 : Nat) : Int)) = true := h1
   refine retM_eq (σ' := [(bK r [(St s),(I6 0),(I6 0),(I6 2),(I6 0)] 297)]) hM hV1 ?_
   unfold hd2
   rw [if_neg (by rw [hA]; exact Bool.false_ne_true)]
   rw [if_pos hB]
   exact ⟨rfl,rfl⟩
  ·
   refine zk (zB [0,0,0,1,0,0,0,0,0] [(r,1)] (sx_S 0 r (zn (zQ 5 (zn (sx_ret (sx_Z [2,3,4] [(I6 ((c.toNat / 32 : Nat) : Int)),(U6 ((joinN 0 ((s.drop 1).take 1) : Nat) : Int)),(.bool false)] (fun W' hM => ?_))))))))
   have hA : decide (((s.length : Nat) : Int) < ((1 + 1 : Nat) : Int)) = false := h0
   have hB : (((Itm.headB (c.toNat / 32) (joinN 0 ((s.drop 1).take 1))).length : Int) != ((1 + 1 : Nat) : Int)) = false := h1
   refine retM_eq (σ' := [(bK r [(St s),(I6 2),(I6 (-1)),(I6 0),(I6 0)] 297)]) hM (View.le_refl _) ?_
   unfold hd2
   rw [if_neg (by rw [hA]; exact Bool.false_ne_true)]
   rw [if_neg (by rw [hB]; exact Bool.false_ne_true)]
   exact ⟨rfl,rfl⟩
set_option maxHeartbeats 16000000 in
theorem head_2 (s : List UInt8) (r : Nat) (c : UInt8) (hc : s[0]? = some c) (hs : (s == []) = false) (hk : c.toNat % 32 = 25) (hlen : s.length ≤ R47) {W0 : Cx} {U : View} {σF : Blks} {W : World} (hM : Mem W0 U ([(r, (Rd.new s).O)] ++ σF) W) : Calls Tryz.prog 238 #[.pointer (some ⟨r, 0, none⟩)] W (RetM W0 U σF (HdIs r s (hd2 s (c.toNat / 32) 2))) := by
 have hcl := c.toNat_lt
 unfold R47 at hlen
 have hjl : joinN 0 ((s.drop 1).take 2) < W64 := by
  have h := joinN_lt ((s.drop 1).take 2) 0 0 (by simp)
  have h2 : 256 ^ (0 + ((s.drop 1).take 2).length) ≤ 256 ^ 8 := Nat.pow_le_pow_right (by decide) (by rw [List.length_take]; omega)
  have h3 : (256 : Nat) ^ 8 = W64 := by decide
  exact Nat.lt_of_lt_of_le h (Nat.le_trans h2 (Nat.le_of_eq h3))
 have hM2 : Mem W0 U ([(bK r [(St s),(I6 0),(I6 (-1)),(I6 0),(I6 0)] 297)] ++ σF) W := hM.eqv (by kernel_rfl)
 refine sx_enterM (f := 238) 104 U Tryz.func238 rfl rfl rfl hM2 ?_
 refine zQ 3 (zn (zs (zB [0,0,0,1,0] [(r,1)] (zn (sx_F (zk (zs (sx_W 8 2 3 [15,16,17,18,19,20,21,22] [.val (Pt r 0),.val (Pt r 0),.val (Pt r 0),.val (St s),.val (Pt r 0),.val (Pt r 0),.val (Pt r 1),.val (I6 0)] ⟨?_,?_,?_,?_,?_,?_,?_,?_,trivial⟩ ?_))))))))
 · exact oQ 0 rfl (Pt r 0) rfl
 · exact oQ 1 rfl (Pt r 0) rfl
 · exact oQ 2 rfl (Pt r 0) rfl
 · exact oL 3 0 r 1 [(St s),(I6 0),(I6 (-1)),(I6 0),(I6 0)] 297 rfl (St s) rfl
 · exact oQ 4 rfl (Pt r 0) rfl
 · exact oQ 5 rfl (Pt r 0) rfl
 · exact oQ 6 rfl (Pt r 1) rfl
 · exact oL 7 0 r 1 [(St s),(I6 0),(I6 (-1)),(I6 0),(I6 0)] 297 rfl (I6 0) rfl
 refine sx_R (St s) (run_ss 9 _ (some _) none rfl s 0 s.length s (by kernel_rfl) (show evS _ _ = _ by kernel_rfl) rfl (by first | exact Nat.zero_le _ | exact Nat.le_refl _ | assumption | omega | (simp only [List.length_append,List.length_cons,List.length_nil,List.length_drop,List.length_take]; omega)) (by first | exact Nat.zero_le _ | exact Nat.le_refl _ | assumption | omega | (simp only [List.length_append,List.length_cons,List.length_nil,List.length_drop,List.length_take]; omega)) (by simp) Tryz.underlying9) ?_
 refine zq 1 (zn (zs (zQ 1 (sx_R (.bool (s == [])) (run_streq _ _ _ _ rfl s [] (by kernel_rfl) (by kernel_rfl)) ?_))))
 refine zn (sx_F' (s == []) hs ?_)
 refine zk (zs (sx_W 9 1 0 [28,29,30,31,32,33,34,35,6] [.val (St s),.val (.int .u8 ((c.toNat : Nat) : Int)),.val (.int .u8 ((((c.toNat : Nat) : Int)).fdiv (2 ^ 5))),.val (I6 ((c.toNat / 32 : Nat) : Int)),.val (St s),.val (.int .u8 ((c.toNat : Nat) : Int)),.val (.int .u8 (andI .u8 ((c.toNat : Nat) : Int) 31)),.val (I6 25),.val (I6 ((c.toNat / 32 : Nat) : Int))] ⟨?_,?_,?_,?_,?_,?_,?_,?_,?_,trivial⟩ ?_))
 · exact oQ 0 rfl (St s) rfl
 · exact obR 1 rfl (.int .u8 ((c.toNat : Nat) : Int)) rfl (by kernel_rfl) (run_ib 9 _ _ rfl s 0 .i64 c (by kernel_rfl) (by kernel_rfl) hc Tryz.underlying9) (by kernel_rfl)
 · exact oQ 2 rfl (.int .u8 ((((c.toNat : Nat) : Int)).fdiv (2 ^ 5))) rfl
 · exact oE 3 rfl (I6 (IntKind.i64.wrap ((((c.toNat : Nat) : Int)).fdiv (2 ^ 5)))) (I6 ((c.toNat / 32 : Nat) : Int)) (congrArg (Value.int .i64) (high3_any c)) rfl
 · exact oQ 4 rfl (St s) rfl
 · exact obR 5 rfl (.int .u8 ((c.toNat : Nat) : Int)) rfl (by kernel_rfl) (run_ib 9 _ _ rfl s 0 .i64 c (by kernel_rfl) (by kernel_rfl) hc Tryz.underlying9) (by kernel_rfl)
 · exact oQ 6 rfl (.int .u8 (andI .u8 ((c.toNat : Nat) : Int) 31)) rfl
 · exact oE 7 rfl (I6 (IntKind.i64.wrap (andI .u8 ((c.toNat : Nat) : Int) 31))) (I6 25) (congrArg (Value.int .i64) (by rw [low5_any,hk]; rfl)) rfl
 · exact oQ 8 rfl (I6 ((c.toNat / 32 : Nat) : Int)) rfl
 refine zq 1 (zn (zs (sx_block (zQ 3 (zn (sx_F (zQ 7 (zn (sx_F (zQ 3 (zn (sx_F (zk (zQ 4 (zn (zs (zQ 5 (zn (sx_D (decide ((((s).length : Nat) : Int) < 3)) (fun h0 => ?_) (fun h0 => ?_))))))))))))))))))))
 ·
  refine zQ 1 (sx_MI 0 (bK r [(St s),(I6 0),(I6 (-1)),(I6 0),(I6 0)] 297) 241 #[(Pt r 0),(I6 2)] (fun v _ σ' => v = resV [] ∧ σ' = [(r,((Rd.new s).fail 2).O)]) (fun W hM => rFail_any (Rd.new s) 2 r hM) (fun v0 V0 s0 hV0 hP0 => ?_))
  obtain ⟨rfl,rfl⟩ := hP0
  refine zn (zQ 3 (zn (sx_ret (sx_Z [2,3,4] [(I6 0),(U6 0),(.bool false)] (fun W' hM => ?_)))))
  have hA : decide (((s.length : Nat) : Int) < ((1 + 2 : Nat) : Int)) = true := h0
  refine retM_eq (σ' := [(bK r [(St s),(I6 0),(I6 0),(I6 2),(I6 0)] 297)]) hM hV0 ?_
  unfold hd2
  rw [if_pos hA]
  exact ⟨rfl,rfl⟩
 ·
  have h0d := of_decide_eq_false h0
  refine zk (zQ 3 (sx_R (St ((s.drop 1).take 2)) (run_ss 9 _ (some _) (some _) rfl s 1 3 ((s.drop 1).take 2) (by kernel_rfl) (show evS _ _ = _ by kernel_rfl) (show evS _ _ = _ by kernel_rfl) (by first | exact Nat.zero_le _ | exact Nat.le_refl _ | assumption | omega | (simp only [List.length_append,List.length_cons,List.length_nil,List.length_drop,List.length_take]; omega)) (by first | exact Nat.zero_le _ | exact Nat.le_refl _ | assumption | omega | (simp only [List.length_append,List.length_cons,List.length_nil,List.length_drop,List.length_take]; omega)) rfl Tryz.underlying9) ?_))
  refine sx_C 249 #[(St ((s.drop 1).take 2))] (U6 ((joinN 0 ((s.drop 1).take 2) : Nat) : Int)) (fun W hM => join_any ((s.drop 1).take 2) W (by rw [List.length_take]; omega)) ?_
  refine zq 1 (zn (zs (zQ 2 (sx_C 144 #[(I6 ((c.toNat / 32 : Nat) : Int)),(U6 ((joinN 0 ((s.drop 1).take 2) : Nat) : Int))] (St (Itm.headB (c.toNat / 32) (joinN 0 ((s.drop 1).take 2)))) (fun W hM => cHead_any (c.toNat / 32) (joinN 0 ((s.drop 1).take 2)) W (by omega) hjl) ?_))))
  refine zq 4 (zn (sx_D (((((Itm.headB (c.toNat / 32) (joinN 0 ((s.drop 1).take 2)))).length : Nat) : Int) != 3) (fun h1 => ?_) (fun h1 => ?_)))
  ·
   refine zQ 1 (sx_MI 0 (bK r [(St s),(I6 0),(I6 (-1)),(I6 0),(I6 0)] 297) 241 #[(Pt r 0),(I6 2)] (fun v _ σ' => v = resV [] ∧ σ' = [(r,((Rd.new s).fail 2).O)]) (fun W hM => rFail_any (Rd.new s) 2 r hM) (fun v1 V1 s1 hV1 hP1 => ?_))
   obtain ⟨rfl,rfl⟩ := hP1
   refine zn (zQ 3 (zn (sx_ret (sx_Z [2,3,4] [(I6 0),(U6 0),(.bool false)] (fun W' hM => ?_)))))
   have hA : decide (((s.length : Nat) : Int) < ((1 + 2 : Nat) : Int)) = false := h0
   have hB : (((Itm.headB (c.toNat / 32) (joinN 0 ((s.drop 1).take 2))).length : Int) != ((1 + 2 : Nat) : Int)) = true := h1
   refine retM_eq (σ' := [(bK r [(St s),(I6 0),(I6 0),(I6 2),(I6 0)] 297)]) hM hV1 ?_
   unfold hd2
   rw [if_neg (by rw [hA]; exact Bool.false_ne_true)]
   rw [if_pos hB]
   exact ⟨rfl,rfl⟩
  ·
   refine zk (zB [0,0,0,1,0,0,0,0,0] [(r,1)] (sx_S 0 r (zn (zQ 5 (zn (sx_ret (sx_Z [2,3,4] [(I6 ((c.toNat / 32 : Nat) : Int)),(U6 ((joinN 0 ((s.drop 1).take 2) : Nat) : Int)),(.bool false)] (fun W' hM => ?_))))))))
   have hA : decide (((s.length : Nat) : Int) < ((1 + 2 : Nat) : Int)) = false := h0
   have hB : (((Itm.headB (c.toNat / 32) (joinN 0 ((s.drop 1).take 2))).length : Int) != ((1 + 2 : Nat) : Int)) = false := h1
   refine retM_eq (σ' := [(bK r [(St s),(I6 3),(I6 (-1)),(I6 0),(I6 0)] 297)]) hM (View.le_refl _) ?_
   unfold hd2
   rw [if_neg (by rw [hA]; exact Bool.false_ne_true)]
   rw [if_neg (by rw [hB]; exact Bool.false_ne_true)]
   exact ⟨rfl,rfl⟩
set_option maxHeartbeats 16000000 in
theorem head_4 (s : List UInt8) (r : Nat) (c : UInt8) (hc : s[0]? = some c) (hs : (s == []) = false) (hk : c.toNat % 32 = 26) (hlen : s.length ≤ R47) {W0 : Cx} {U : View} {σF : Blks} {W : World} (hM : Mem W0 U ([(r, (Rd.new s).O)] ++ σF) W) : Calls Tryz.prog 238 #[.pointer (some ⟨r, 0, none⟩)] W (RetM W0 U σF (HdIs r s (hd2 s (c.toNat / 32) 4))) := by
 have hcl := c.toNat_lt
 unfold R47 at hlen
 have hjl : joinN 0 ((s.drop 1).take 4) < W64 := by
  have h := joinN_lt ((s.drop 1).take 4) 0 0 (by simp)
  have h2 : 256 ^ (0 + ((s.drop 1).take 4).length) ≤ 256 ^ 8 := Nat.pow_le_pow_right (by decide) (by rw [List.length_take]; omega)
  have h3 : (256 : Nat) ^ 8 = W64 := by decide
  exact Nat.lt_of_lt_of_le h (Nat.le_trans h2 (Nat.le_of_eq h3))
 have hM2 : Mem W0 U ([(bK r [(St s),(I6 0),(I6 (-1)),(I6 0),(I6 0)] 297)] ++ σF) W := hM.eqv (by kernel_rfl)
 refine sx_enterM (f := 238) 104 U Tryz.func238 rfl rfl rfl hM2 ?_
 refine zQ 3 (zn (zs (zB [0,0,0,1,0] [(r,1)] (zn (sx_F (zk (zs (sx_W 8 2 3 [15,16,17,18,19,20,21,22] [.val (Pt r 0),.val (Pt r 0),.val (Pt r 0),.val (St s),.val (Pt r 0),.val (Pt r 0),.val (Pt r 1),.val (I6 0)] ⟨?_,?_,?_,?_,?_,?_,?_,?_,trivial⟩ ?_))))))))
 · exact oQ 0 rfl (Pt r 0) rfl
 · exact oQ 1 rfl (Pt r 0) rfl
 · exact oQ 2 rfl (Pt r 0) rfl
 · exact oL 3 0 r 1 [(St s),(I6 0),(I6 (-1)),(I6 0),(I6 0)] 297 rfl (St s) rfl
 · exact oQ 4 rfl (Pt r 0) rfl
 · exact oQ 5 rfl (Pt r 0) rfl
 · exact oQ 6 rfl (Pt r 1) rfl
 · exact oL 7 0 r 1 [(St s),(I6 0),(I6 (-1)),(I6 0),(I6 0)] 297 rfl (I6 0) rfl
 refine sx_R (St s) (run_ss 9 _ (some _) none rfl s 0 s.length s (by kernel_rfl) (show evS _ _ = _ by kernel_rfl) rfl (by first | exact Nat.zero_le _ | exact Nat.le_refl _ | assumption | omega | (simp only [List.length_append,List.length_cons,List.length_nil,List.length_drop,List.length_take]; omega)) (by first | exact Nat.zero_le _ | exact Nat.le_refl _ | assumption | omega | (simp only [List.length_append,List.length_cons,List.length_nil,List.length_drop,List.length_take]; omega)) (by simp) Tryz.underlying9) ?_
 refine zq 1 (zn (zs (zQ 1 (sx_R (.bool (s == [])) (run_streq _ _ _ _ rfl s [] (by kernel_rfl) (by kernel_rfl)) ?_))))
 refine zn (sx_F' (s == []) hs ?_)
 refine zk (zs (sx_W 9 1 0 [28,29,30,31,32,33,34,35,6] [.val (St s),.val (.int .u8 ((c.toNat : Nat) : Int)),.val (.int .u8 ((((c.toNat : Nat) : Int)).fdiv (2 ^ 5))),.val (I6 ((c.toNat / 32 : Nat) : Int)),.val (St s),.val (.int .u8 ((c.toNat : Nat) : Int)),.val (.int .u8 (andI .u8 ((c.toNat : Nat) : Int) 31)),.val (I6 26),.val (I6 ((c.toNat / 32 : Nat) : Int))] ⟨?_,?_,?_,?_,?_,?_,?_,?_,?_,trivial⟩ ?_))
 · exact oQ 0 rfl (St s) rfl
 · exact obR 1 rfl (.int .u8 ((c.toNat : Nat) : Int)) rfl (by kernel_rfl) (run_ib 9 _ _ rfl s 0 .i64 c (by kernel_rfl) (by kernel_rfl) hc Tryz.underlying9) (by kernel_rfl)
 · exact oQ 2 rfl (.int .u8 ((((c.toNat : Nat) : Int)).fdiv (2 ^ 5))) rfl
 · exact oE 3 rfl (I6 (IntKind.i64.wrap ((((c.toNat : Nat) : Int)).fdiv (2 ^ 5)))) (I6 ((c.toNat / 32 : Nat) : Int)) (congrArg (Value.int .i64) (high3_any c)) rfl
 · exact oQ 4 rfl (St s) rfl
 · exact obR 5 rfl (.int .u8 ((c.toNat : Nat) : Int)) rfl (by kernel_rfl) (run_ib 9 _ _ rfl s 0 .i64 c (by kernel_rfl) (by kernel_rfl) hc Tryz.underlying9) (by kernel_rfl)
 · exact oQ 6 rfl (.int .u8 (andI .u8 ((c.toNat : Nat) : Int) 31)) rfl
 · exact oE 7 rfl (I6 (IntKind.i64.wrap (andI .u8 ((c.toNat : Nat) : Int) 31))) (I6 26) (congrArg (Value.int .i64) (by rw [low5_any,hk]; rfl)) rfl
 · exact oQ 8 rfl (I6 ((c.toNat / 32 : Nat) : Int)) rfl
 refine zq 1 (zn (zs (sx_block (zQ 3 (zn (sx_F (zQ 7 (zn (sx_F (zQ 3 (zn (sx_F (zk (zQ 4 (zn (zs (zQ 5 (zn (sx_D (decide ((((s).length : Nat) : Int) < 5)) (fun h0 => ?_) (fun h0 => ?_))))))))))))))))))))
 ·
  refine zQ 1 (sx_MI 0 (bK r [(St s),(I6 0),(I6 (-1)),(I6 0),(I6 0)] 297) 241 #[(Pt r 0),(I6 2)] (fun v _ σ' => v = resV [] ∧ σ' = [(r,((Rd.new s).fail 2).O)]) (fun W hM => rFail_any (Rd.new s) 2 r hM) (fun v0 V0 s0 hV0 hP0 => ?_))
  obtain ⟨rfl,rfl⟩ := hP0
  refine zn (zQ 3 (zn (sx_ret (sx_Z [2,3,4] [(I6 0),(U6 0),(.bool false)] (fun W' hM => ?_)))))
  have hA : decide (((s.length : Nat) : Int) < ((1 + 4 : Nat) : Int)) = true := h0
  refine retM_eq (σ' := [(bK r [(St s),(I6 0),(I6 0),(I6 2),(I6 0)] 297)]) hM hV0 ?_
  unfold hd2
  rw [if_pos hA]
  exact ⟨rfl,rfl⟩
 ·
  have h0d := of_decide_eq_false h0
  refine zk (zQ 3 (sx_R (St ((s.drop 1).take 4)) (run_ss 9 _ (some _) (some _) rfl s 1 5 ((s.drop 1).take 4) (by kernel_rfl) (show evS _ _ = _ by kernel_rfl) (show evS _ _ = _ by kernel_rfl) (by first | exact Nat.zero_le _ | exact Nat.le_refl _ | assumption | omega | (simp only [List.length_append,List.length_cons,List.length_nil,List.length_drop,List.length_take]; omega)) (by first | exact Nat.zero_le _ | exact Nat.le_refl _ | assumption | omega | (simp only [List.length_append,List.length_cons,List.length_nil,List.length_drop,List.length_take]; omega)) rfl Tryz.underlying9) ?_))
  refine sx_C 249 #[(St ((s.drop 1).take 4))] (U6 ((joinN 0 ((s.drop 1).take 4) : Nat) : Int)) (fun W hM => join_any ((s.drop 1).take 4) W (by rw [List.length_take]; omega)) ?_
  refine zq 1 (zn (zs (zQ 2 (sx_C 144 #[(I6 ((c.toNat / 32 : Nat) : Int)),(U6 ((joinN 0 ((s.drop 1).take 4) : Nat) : Int))] (St (Itm.headB (c.toNat / 32) (joinN 0 ((s.drop 1).take 4)))) (fun W hM => cHead_any (c.toNat / 32) (joinN 0 ((s.drop 1).take 4)) W (by omega) hjl) ?_))))
  refine zq 4 (zn (sx_D (((((Itm.headB (c.toNat / 32) (joinN 0 ((s.drop 1).take 4)))).length : Nat) : Int) != 5) (fun h1 => ?_) (fun h1 => ?_)))
  ·
   refine zQ 1 (sx_MI 0 (bK r [(St s),(I6 0),(I6 (-1)),(I6 0),(I6 0)] 297) 241 #[(Pt r 0),(I6 2)] (fun v _ σ' => v = resV [] ∧ σ' = [(r,((Rd.new s).fail 2).O)]) (fun W hM => rFail_any (Rd.new s) 2 r hM) (fun v1 V1 s1 hV1 hP1 => ?_))
   obtain ⟨rfl,rfl⟩ := hP1
   refine zn (zQ 3 (zn (sx_ret (sx_Z [2,3,4] [(I6 0),(U6 0),(.bool false)] (fun W' hM => ?_)))))
   have hA : decide (((s.length : Nat) : Int) < ((1 + 4 : Nat) : Int)) = false := h0
   have hB : (((Itm.headB (c.toNat / 32) (joinN 0 ((s.drop 1).take 4))).length : Int) != ((1 + 4 : Nat) : Int)) = true := h1
   refine retM_eq (σ' := [(bK r [(St s),(I6 0),(I6 0),(I6 2),(I6 0)] 297)]) hM hV1 ?_
   unfold hd2
   rw [if_neg (by rw [hA]; exact Bool.false_ne_true)]
   rw [if_pos hB]
   exact ⟨rfl,rfl⟩
  ·
   refine zk (zB [0,0,0,1,0,0,0,0,0] [(r,1)] (sx_S 0 r (zn (zQ 5 (zn (sx_ret (sx_Z [2,3,4] [(I6 ((c.toNat / 32 : Nat) : Int)),(U6 ((joinN 0 ((s.drop 1).take 4) : Nat) : Int)),(.bool false)] (fun W' hM => ?_))))))))
   have hA : decide (((s.length : Nat) : Int) < ((1 + 4 : Nat) : Int)) = false := h0
   have hB : (((Itm.headB (c.toNat / 32) (joinN 0 ((s.drop 1).take 4))).length : Int) != ((1 + 4 : Nat) : Int)) = false := h1
   refine retM_eq (σ' := [(bK r [(St s),(I6 5),(I6 (-1)),(I6 0),(I6 0)] 297)]) hM (View.le_refl _) ?_
   unfold hd2
   rw [if_neg (by rw [hA]; exact Bool.false_ne_true)]
   rw [if_neg (by rw [hB]; exact Bool.false_ne_true)]
   exact ⟨rfl,rfl⟩
set_option maxHeartbeats 16000000 in
theorem head_8 (s : List UInt8) (r : Nat) (c : UInt8) (hc : s[0]? = some c) (hs : (s == []) = false) (hk : c.toNat % 32 = 27) (hlen : s.length ≤ R47) {W0 : Cx} {U : View} {σF : Blks} {W : World} (hM : Mem W0 U ([(r, (Rd.new s).O)] ++ σF) W) : Calls Tryz.prog 238 #[.pointer (some ⟨r, 0, none⟩)] W (RetM W0 U σF (HdIs r s (hd2 s (c.toNat / 32) 8))) := by
 have hcl := c.toNat_lt
 unfold R47 at hlen
 have hjl : joinN 0 ((s.drop 1).take 8) < W64 := by
  have h := joinN_lt ((s.drop 1).take 8) 0 0 (by simp)
  have h2 : 256 ^ (0 + ((s.drop 1).take 8).length) ≤ 256 ^ 8 := Nat.pow_le_pow_right (by decide) (by rw [List.length_take]; omega)
  have h3 : (256 : Nat) ^ 8 = W64 := by decide
  exact Nat.lt_of_lt_of_le h (Nat.le_trans h2 (Nat.le_of_eq h3))
 have hM2 : Mem W0 U ([(bK r [(St s),(I6 0),(I6 (-1)),(I6 0),(I6 0)] 297)] ++ σF) W := hM.eqv (by kernel_rfl)
 refine sx_enterM (f := 238) 104 U Tryz.func238 rfl rfl rfl hM2 ?_
 refine zQ 3 (zn (zs (zB [0,0,0,1,0] [(r,1)] (zn (sx_F (zk (zs (sx_W 8 2 3 [15,16,17,18,19,20,21,22] [.val (Pt r 0),.val (Pt r 0),.val (Pt r 0),.val (St s),.val (Pt r 0),.val (Pt r 0),.val (Pt r 1),.val (I6 0)] ⟨?_,?_,?_,?_,?_,?_,?_,?_,trivial⟩ ?_))))))))
 · exact oQ 0 rfl (Pt r 0) rfl
 · exact oQ 1 rfl (Pt r 0) rfl
 · exact oQ 2 rfl (Pt r 0) rfl
 · exact oL 3 0 r 1 [(St s),(I6 0),(I6 (-1)),(I6 0),(I6 0)] 297 rfl (St s) rfl
 · exact oQ 4 rfl (Pt r 0) rfl
 · exact oQ 5 rfl (Pt r 0) rfl
 · exact oQ 6 rfl (Pt r 1) rfl
 · exact oL 7 0 r 1 [(St s),(I6 0),(I6 (-1)),(I6 0),(I6 0)] 297 rfl (I6 0) rfl
 refine sx_R (St s) (run_ss 9 _ (some _) none rfl s 0 s.length s (by kernel_rfl) (show evS _ _ = _ by kernel_rfl) rfl (by first | exact Nat.zero_le _ | exact Nat.le_refl _ | assumption | omega | (simp only [List.length_append,List.length_cons,List.length_nil,List.length_drop,List.length_take]; omega)) (by first | exact Nat.zero_le _ | exact Nat.le_refl _ | assumption | omega | (simp only [List.length_append,List.length_cons,List.length_nil,List.length_drop,List.length_take]; omega)) (by simp) Tryz.underlying9) ?_
 refine zq 1 (zn (zs (zQ 1 (sx_R (.bool (s == [])) (run_streq _ _ _ _ rfl s [] (by kernel_rfl) (by kernel_rfl)) ?_))))
 refine zn (sx_F' (s == []) hs ?_)
 refine zk (zs (sx_W 9 1 0 [28,29,30,31,32,33,34,35,6] [.val (St s),.val (.int .u8 ((c.toNat : Nat) : Int)),.val (.int .u8 ((((c.toNat : Nat) : Int)).fdiv (2 ^ 5))),.val (I6 ((c.toNat / 32 : Nat) : Int)),.val (St s),.val (.int .u8 ((c.toNat : Nat) : Int)),.val (.int .u8 (andI .u8 ((c.toNat : Nat) : Int) 31)),.val (I6 27),.val (I6 ((c.toNat / 32 : Nat) : Int))] ⟨?_,?_,?_,?_,?_,?_,?_,?_,?_,trivial⟩ ?_))
 · exact oQ 0 rfl (St s) rfl
 · exact obR 1 rfl (.int .u8 ((c.toNat : Nat) : Int)) rfl (by kernel_rfl) (run_ib 9 _ _ rfl s 0 .i64 c (by kernel_rfl) (by kernel_rfl) hc Tryz.underlying9) (by kernel_rfl)
 · exact oQ 2 rfl (.int .u8 ((((c.toNat : Nat) : Int)).fdiv (2 ^ 5))) rfl
 · exact oE 3 rfl (I6 (IntKind.i64.wrap ((((c.toNat : Nat) : Int)).fdiv (2 ^ 5)))) (I6 ((c.toNat / 32 : Nat) : Int)) (congrArg (Value.int .i64) (high3_any c)) rfl
 · exact oQ 4 rfl (St s) rfl
 · exact obR 5 rfl (.int .u8 ((c.toNat : Nat) : Int)) rfl (by kernel_rfl) (run_ib 9 _ _ rfl s 0 .i64 c (by kernel_rfl) (by kernel_rfl) hc Tryz.underlying9) (by kernel_rfl)
 · exact oQ 6 rfl (.int .u8 (andI .u8 ((c.toNat : Nat) : Int) 31)) rfl
 · exact oE 7 rfl (I6 (IntKind.i64.wrap (andI .u8 ((c.toNat : Nat) : Int) 31))) (I6 27) (congrArg (Value.int .i64) (by rw [low5_any,hk]; rfl)) rfl
 · exact oQ 8 rfl (I6 ((c.toNat / 32 : Nat) : Int)) rfl
 refine zq 1 (zn (zs (sx_block (zQ 3 (zn (sx_F (zQ 7 (zn (sx_F (zQ 3 (zn (sx_F (zk (zQ 4 (zn (zs (zQ 5 (zn (sx_D (decide ((((s).length : Nat) : Int) < 9)) (fun h0 => ?_) (fun h0 => ?_))))))))))))))))))))
 ·
  refine zQ 1 (sx_MI 0 (bK r [(St s),(I6 0),(I6 (-1)),(I6 0),(I6 0)] 297) 241 #[(Pt r 0),(I6 2)] (fun v _ σ' => v = resV [] ∧ σ' = [(r,((Rd.new s).fail 2).O)]) (fun W hM => rFail_any (Rd.new s) 2 r hM) (fun v0 V0 s0 hV0 hP0 => ?_))
  obtain ⟨rfl,rfl⟩ := hP0
  refine zn (zQ 3 (zn (sx_ret (sx_Z [2,3,4] [(I6 0),(U6 0),(.bool false)] (fun W' hM => ?_)))))
  have hA : decide (((s.length : Nat) : Int) < ((1 + 8 : Nat) : Int)) = true := h0
  refine retM_eq (σ' := [(bK r [(St s),(I6 0),(I6 0),(I6 2),(I6 0)] 297)]) hM hV0 ?_
  unfold hd2
  rw [if_pos hA]
  exact ⟨rfl,rfl⟩
 ·
  have h0d := of_decide_eq_false h0
  refine zk (zQ 3 (sx_R (St ((s.drop 1).take 8)) (run_ss 9 _ (some _) (some _) rfl s 1 9 ((s.drop 1).take 8) (by kernel_rfl) (show evS _ _ = _ by kernel_rfl) (show evS _ _ = _ by kernel_rfl) (by first | exact Nat.zero_le _ | exact Nat.le_refl _ | assumption | omega | (simp only [List.length_append,List.length_cons,List.length_nil,List.length_drop,List.length_take]; omega)) (by first | exact Nat.zero_le _ | exact Nat.le_refl _ | assumption | omega | (simp only [List.length_append,List.length_cons,List.length_nil,List.length_drop,List.length_take]; omega)) rfl Tryz.underlying9) ?_))
  refine sx_C 249 #[(St ((s.drop 1).take 8))] (U6 ((joinN 0 ((s.drop 1).take 8) : Nat) : Int)) (fun W hM => join_any ((s.drop 1).take 8) W (by rw [List.length_take]; omega)) ?_
  refine zq 1 (zn (zs (zQ 2 (sx_C 144 #[(I6 ((c.toNat / 32 : Nat) : Int)),(U6 ((joinN 0 ((s.drop 1).take 8) : Nat) : Int))] (St (Itm.headB (c.toNat / 32) (joinN 0 ((s.drop 1).take 8)))) (fun W hM => cHead_any (c.toNat / 32) (joinN 0 ((s.drop 1).take 8)) W (by omega) hjl) ?_))))
  refine zq 4 (zn (sx_D (((((Itm.headB (c.toNat / 32) (joinN 0 ((s.drop 1).take 8)))).length : Nat) : Int) != 9) (fun h1 => ?_) (fun h1 => ?_)))
  ·
   refine zQ 1 (sx_MI 0 (bK r [(St s),(I6 0),(I6 (-1)),(I6 0),(I6 0)] 297) 241 #[(Pt r 0),(I6 2)] (fun v _ σ' => v = resV [] ∧ σ' = [(r,((Rd.new s).fail 2).O)]) (fun W hM => rFail_any (Rd.new s) 2 r hM) (fun v1 V1 s1 hV1 hP1 => ?_))
   obtain ⟨rfl,rfl⟩ := hP1
   refine zn (zQ 3 (zn (sx_ret (sx_Z [2,3,4] [(I6 0),(U6 0),(.bool false)] (fun W' hM => ?_)))))
   have hA : decide (((s.length : Nat) : Int) < ((1 + 8 : Nat) : Int)) = false := h0
   have hB : (((Itm.headB (c.toNat / 32) (joinN 0 ((s.drop 1).take 8))).length : Int) != ((1 + 8 : Nat) : Int)) = true := h1
   refine retM_eq (σ' := [(bK r [(St s),(I6 0),(I6 0),(I6 2),(I6 0)] 297)]) hM hV1 ?_
   unfold hd2
   rw [if_neg (by rw [hA]; exact Bool.false_ne_true)]
   rw [if_pos hB]
   exact ⟨rfl,rfl⟩
  ·
   refine zk (zB [0,0,0,1,0,0,0,0,0] [(r,1)] (sx_S 0 r (zn (zQ 5 (zn (sx_ret (sx_Z [2,3,4] [(I6 ((c.toNat / 32 : Nat) : Int)),(U6 ((joinN 0 ((s.drop 1).take 8) : Nat) : Int)),(.bool false)] (fun W' hM => ?_))))))))
   have hA : decide (((s.length : Nat) : Int) < ((1 + 8 : Nat) : Int)) = false := h0
   have hB : (((Itm.headB (c.toNat / 32) (joinN 0 ((s.drop 1).take 8))).length : Int) != ((1 + 8 : Nat) : Int)) = false := h1
   refine retM_eq (σ' := [(bK r [(St s),(I6 9),(I6 (-1)),(I6 0),(I6 0)] 297)]) hM (View.le_refl _) ?_
   unfold hd2
   rw [if_neg (by rw [hA]; exact Bool.false_ne_true)]
   rw [if_neg (by rw [hB]; exact Bool.false_ne_true)]
   exact ⟨rfl,rfl⟩
theorem head_any (s : List UInt8) (r : Nat) (hlen : s.length ≤ R47) {W0 : Cx} {U : View} {σF : Blks} {W : World} (hM : Mem W0 U ([(r, (Rd.new s).O)] ++ σF) W) : Calls Tryz.prog 238 #[.pointer (some ⟨r, 0, none⟩)] W (RetM W0 U σF (HdIs r s (hdF s))) := by
 unfold hdF
 cases hc : s[0]? with
 | none =>
  have : s = [] := by cases s with
   | nil => rfl
   | cons a l => simp at hc
  exact head_nil s r (by rw [this]; rfl) hM
 | some c =>
  have hs : (s == []) = false := by cases s with
   | nil => simp at hc
   | cons a l => rfl
  have hcl := c.toNat_lt
  simp only
  unfold hd1
  by_cases h1 : c.toNat % 32 < 24
  ·
   rw [if_pos h1]
   exact head_small s r c hc hs h1 hM
  ·
   rw [if_neg h1]
   by_cases h31 : c.toNat % 32 = 31
   ·
    cases ho : opensB ((c.toNat / 32 : Nat) : Int) with
    | true =>
     rw [if_pos ⟨h31, rfl⟩]
     exact head_open s r c hc hs h31 ho hM
    | false =>
     rw [if_neg (fun h => by cases h.2), if_pos (by omega)]
     exact head_bad1 s r c hc hs h31 ho hM
   ·
    rw [if_neg (fun h => h31 h.1)]
    by_cases h28 : 28 ≤ c.toNat % 32
    ·
     rw [if_pos h28]
     exact head_bad2 s r c hc hs h28 h31 hM
    ·
     rw [if_neg h28]
     rcases (by omega : c.toNat % 32 = 24 ∨ c.toNat % 32 = 25 ∨ c.toNat % 32 = 26 ∨ c.toNat % 32 = 27) with h | h | h | h
     · have := head_1 s r c hc hs h hlen hM; rw [h]; exact this
     · have := head_2 s r c hc hs h hlen hM; rw [h]; exact this
     · have := head_4 s r c hc hs h hlen hM; rw [h]; exact this
     · have := head_8 s r c hc hs h hlen hM; rw [h]; exact this
theorem rHead_no (s : List UInt8) (r : Nat) (hx : hdF s = none) (hlen : s.length ≤ R47) {W0 : Cx} {U : View} {σF : Blks} {W : World} (hM : Mem W0 U ([(r, (Rd.new s).O)] ++ σF) W) : Calls Tryz.prog 212 #[.pointer (some ⟨r, 0, none⟩)] W (RetM W0 U σF (HdIs r s (none))) := by
 have hM2 : Mem W0 U ([(bK r [(St s),(I6 0),(I6 (-1)),(I6 0),(I6 0)] 297)] ++ σF) W := hM.eqv (by kernel_rfl)
 refine sx_enterM (f := 212) 17 U Tryz.func212 rfl rfl rfl hM2 ?_
 refine zQ 3 (zn (zB [0,0,0,0,1,0,0] [(r,1)] (sx_S 0 r (zn (zQ 1 (sx_MI 0 (bK r [(St s),(I6 0),(I6 (-1)),(I6 0),(I6 0)] 297) 238 #[(Pt r 0)] (HdIs r s (none)) (fun W hM => hx ▸ head_any s r hlen hM) (fun v0 V0 s0 hV0 hP0 => ?_)))))))
 obtain ⟨rfl,rfl⟩ := hP0
 refine zq 6 (zn (sx_ret (sx_Z [2,3,4] [(I6 0),(U6 0),(.bool false)] (fun W' hM => ?_))))
 exact retM_eq (σ' := [(bK r [(St s),(I6 0),(I6 0),(I6 2),(I6 0)] 297)]) hM hV0 ⟨rfl,rfl⟩
theorem rHead_ok (s : List UInt8) (r : Nat) (m n z : Nat) (o : Bool) (hx : hdF s = some (m, n, o, z)) (hlen : s.length ≤ R47) {W0 : Cx} {U : View} {σF : Blks} {W : World} (hM : Mem W0 U ([(r, (Rd.new s).O)] ++ σF) W) : Calls Tryz.prog 212 #[.pointer (some ⟨r, 0, none⟩)] W (RetM W0 U σF (HdIs r s (some (m, n, o, z)))) := by
 have hM2 : Mem W0 U ([(bK r [(St s),(I6 0),(I6 (-1)),(I6 0),(I6 0)] 297)] ++ σF) W := hM.eqv (by kernel_rfl)
 refine sx_enterM (f := 212) 17 U Tryz.func212 rfl rfl rfl hM2 ?_
 refine zQ 3 (zn (zB [0,0,0,0,1,0,0] [(r,1)] (sx_S 0 r (zn (zQ 1 (sx_MI 0 (bK r [(St s),(I6 0),(I6 (-1)),(I6 0),(I6 0)] 297) 238 #[(Pt r 0)] (HdIs r s (some (m,n,o,z))) (fun W hM => hx ▸ head_any s r hlen hM) (fun v0 V0 s0 hV0 hP0 => ?_)))))))
 obtain ⟨rfl,rfl⟩ := hP0
 refine zq 6 (zn (sx_ret (sx_Z [2,3,4] [(I6 (m : Int)),(N6 n),(.bool o)] (fun W' hM => ?_))))
 exact retM_eq (σ' := [(bK r [(St s),(I6 (z : Int)),(I6 (-1)),(I6 0),(I6 0)] 297)]) hM hV0 ⟨rfl,rfl⟩
theorem rHead_any (s : List UInt8) (r : Nat) (hlen : s.length ≤ R47) {W0 : Cx} {U : View} {σF : Blks} {W : World} (hM : Mem W0 U ([(r, (Rd.new s).O)] ++ σF) W) : Calls Tryz.prog 212 #[.pointer (some ⟨r, 0, none⟩)] W (RetM W0 U σF (HdIs r s (hdF s))) := by
 cases hx : hdF s with
 | none => exact rHead_no s r hx hlen hM
 | some p => obtain ⟨m, n, o, z⟩ := p; exact rHead_ok s r m n z o hx hlen hM
theorem rArray_open (s : List UInt8) (r n z : Nat) (hx : hdF s = some (4, n, true, z)) (hlen : s.length ≤ R47) {W0 : Cx} {U : View} {σF : Blks} {W : World} (hM : Mem W0 U ([(r, (Rd.new s).O)] ++ σF) W) : Calls Tryz.prog 216 #[.pointer (some ⟨r, 0, none⟩)] W (RetM W0 U σF fun v _ σ' => v = .int .i64 (-1) ∧ σ' = [(r, (⟨s, z, -1, 0, 0⟩ : Rd).O)]) := by
 have hM2 : Mem W0 U ([(bK r [(St s),(I6 0),(I6 (-1)),(I6 0),(I6 0)] 297)] ++ σF) W := hM.eqv (by kernel_rfl)
 refine sx_enterM (f := 216) 32 U Tryz.func216 rfl rfl rfl hM2 ?_
 refine zQ 1 (zn (zQ 1 (sx_MI 0 (bK r [(St s),(I6 0),(I6 (-1)),(I6 0),(I6 0)] 297) 212 #[(Pt r 0)] (HdIs r s (some (4,n,true,z))) (fun W hM => hx ▸ rHead_any s r hlen hM) (fun v0 V0 s0 hV0 hP0 => ?_))))
 obtain ⟨rfl,rfl⟩ := hP0
 refine zq 7 (zn (zs (sx_block (zB [0,0,0,1,0,0] [(r,1)] (zn (sx_F (zQ 3 (zn (sx_F (zQ 2 (zn (sx_T (zQ 1 (zn (sx_ret (sx_Z [2] [(I6 (-1))] (fun W' hM => ?_)))))))))))))))))
 exact retM_eq (σ' := [(bK r [(St s),(I6 (z : Int)),(I6 (-1)),(I6 0),(I6 0)] 297)]) hM hV0 ⟨rfl,rfl⟩
theorem rArray_long (s : List UInt8) (r n z : Nat) (hx : hdF s = some (4, n, false, z)) (hlen : s.length ≤ R47) (hn : decide ((n : Int) > 1000) = true) {W0 : Cx} {U : View} {σF : Blks} {W : World} (hM : Mem W0 U ([(r, (Rd.new s).O)] ++ σF) W) : Calls Tryz.prog 216 #[.pointer (some ⟨r, 0, none⟩)] W (RetM W0 U σF fun v _ σ' => v = .int .i64 0 ∧ σ' = [(r, (⟨s, 0, 0, 4, 0⟩ : Rd).O)]) := by
 have hM2 : Mem W0 U ([(bK r [(St s),(I6 0),(I6 (-1)),(I6 0),(I6 0)] 297)] ++ σF) W := hM.eqv (by kernel_rfl)
 refine sx_enterM (f := 216) 32 U Tryz.func216 rfl rfl rfl hM2 ?_
 refine zQ 1 (zn (zQ 1 (sx_MI 0 (bK r [(St s),(I6 0),(I6 (-1)),(I6 0),(I6 0)] 297) 212 #[(Pt r 0)] (HdIs r s (some (4,n,false,z))) (fun W hM => hx ▸ rHead_any s r hlen hM) (fun v0 V0 s0 hV0 hP0 => ?_))))
 obtain ⟨rfl,rfl⟩ := hP0
 refine zq 7 (zn (zs (sx_block (zB [0,0,0,1,0,0] [(r,1)] (zn (sx_F (zQ 3 (zn (sx_F (zQ 2 (zn (sx_F (zQ 3 (zn (sx_T' (decide ((n : Int) > 1000)) hn ?_)))))))))))))))
 refine zQ 1 (sx_MI 0 (bK r [(St s),(I6 (z : Int)),(I6 (-1)),(I6 0),(I6 0)] 297) 241 #[(Pt r 0),(I6 4)] (fun v _ σ' => v = resV [] ∧ σ' = [(r,((⟨s,z,-1,0,0⟩ : Rd).fail 4).O)]) (fun W hM => rFail_any ⟨s,z,-1,0,0⟩ 4 r (hM.eqv (by kernel_rfl))) (fun v1 V1 s1 hV1 hP1 => ?_))
 obtain ⟨rfl,rfl⟩ := hP1
 refine zn (zQ 1 (zn (sx_ret (sx_Z [2] [(I6 0)] (fun W' hM => ?_)))))
 exact retM_eq (σ' := [(bK r [(St s),(I6 0),(I6 0),(I6 4),(I6 0)] 297)]) hM (View.le_trans hV0 hV1) ⟨rfl,rfl⟩
theorem rArray_ok (s : List UInt8) (r n z : Nat) (hx : hdF s = some (4, n, false, z)) (hlen : s.length ≤ R47) (hn : decide ((n : Int) > 1000) = false) {W0 : Cx} {U : View} {σF : Blks} {W : World} (hM : Mem W0 U ([(r, (Rd.new s).O)] ++ σF) W) : Calls Tryz.prog 216 #[.pointer (some ⟨r, 0, none⟩)] W (RetM W0 U σF fun v _ σ' => v = .int .i64 (n : Int) ∧ σ' = [(r, (⟨s, z, -1, 0, 0⟩ : Rd).O)]) := by
 have hn' := of_decide_eq_false hn
 have hw : IntKind.i64.wrap (n : Int) = (n : Int) := IntWalk.i64_in _ (by omega)
 have hM2 : Mem W0 U ([(bK r [(St s),(I6 0),(I6 (-1)),(I6 0),(I6 0)] 297)] ++ σF) W := hM.eqv (by kernel_rfl)
 refine sx_enterM (f := 216) 32 U Tryz.func216 rfl rfl rfl hM2 ?_
 refine zQ 1 (zn (zQ 1 (sx_MI 0 (bK r [(St s),(I6 0),(I6 (-1)),(I6 0),(I6 0)] 297) 212 #[(Pt r 0)] (HdIs r s (some (4,n,false,z))) (fun W hM => hx ▸ rHead_any s r hlen hM) (fun v0 V0 s0 hV0 hP0 => ?_))))
 obtain ⟨rfl,rfl⟩ := hP0
 refine zq 7 (zn (zs (sx_block (zB [0,0,0,1,0,0] [(r,1)] (zn (sx_F (zQ 3 (zn (sx_F (zQ 2 (zn (sx_F (zQ 3 (zn (sx_F' (decide ((n : Int) > 1000)) hn ?_)))))))))))))))
 refine zk (zQ 2 (sx_E 31 (I6 (IntKind.i64.wrap (n : Int))) (I6 (n : Int)) (congrArg (Value.int .i64) hw) ?_))
 refine zq 1 (zn (sx_ret (sx_Z [2] [(I6 (n : Int))] (fun W' hM => ?_))))
 exact retM_eq (σ' := [(bK r [(St s),(I6 (z : Int)),(I6 (-1)),(I6 0),(I6 0)] 297)]) hM hV0 ⟨rfl,rfl⟩
theorem hd2_len {s : List UInt8} {m z m' n z' : Nat} {o : Bool} (h : hd2 s m z = some (m', n, o, z')) : z' ≤ s.length ∧ m' = m ∧ o = false ∧ z' = 1 + z := by
 unfold hd2 at h
 split at h
 · cases h
 ·
  next h1 =>
  simp only [decide_eq_true_eq] at h1
  split at h
  · cases h
  ·
   simp only [Option.some.injEq, Prod.mk.injEq] at h
   obtain ⟨rfl, rfl, rfl, rfl⟩ := h
   exact ⟨by omega, rfl, rfl, rfl⟩
theorem hdF_len {s : List UInt8} {m n z : Nat} {o : Bool} (h : hdF s = some (m, n, o, z)) : z ≤ s.length ∧ 1 ≤ z := by
 unfold hdF at h
 split at h
 · cases h
 ·
  next c hc =>
  have hl := (List.getElem?_eq_some_iff.1 hc).1
  unfold hd1 at h
  split at h
  ·
   simp only [Option.some.injEq, Prod.mk.injEq] at h
   omega
  ·
   split at h
   ·
    simp only [Option.some.injEq, Prod.mk.injEq] at h
    omega
   ·
    split at h
    · cases h
    ·
     obtain ⟨h1, _, _, h2⟩ := hd2_len h
     exact ⟨h1, by rw [h2]; exact Nat.le_add_right _ _⟩
theorem rStr_open (s : List UInt8) (r k n z most : Nat) (hx : hdF s = some (k, n, true, z)) (hlen : s.length ≤ R47) (hmost : most ≤ 2000000000) {W0 : Cx} {U : View} {σF : Blks} {W : World} (hM : Mem W0 U ([(r, (Rd.new s).O)] ++ σF) W) : Calls Tryz.prog 250 #[.pointer (some ⟨r, 0, none⟩), .int .i64 (k : Int), .int .i64 (most : Int)] W (RetM W0 U σF fun v _ σ' => v = .string (B []) ∧ σ' = [(r, (⟨s, 0, 0, 2, 0⟩ : Rd).O)]) := by
 obtain ⟨hz,hz1⟩ := hdF_len hx
 have hlen' := hlen
 unfold R47 at hlen'
 have hkk : ((k : Int) != (k : Int)) = false := by simp
 have hm0 : decide ((most : Int) < 0) = false := decide_eq_false (by omega)
 have hM2 : Mem W0 U ([(bK r [(St s),(I6 0),(I6 (-1)),(I6 0),(I6 0)] 297)] ++ σF) W := hM.eqv (by kernel_rfl)
 refine sx_enterM (f := 250) 84 U Tryz.func250 rfl rfl rfl hM2 ?_
 refine zQ 1 (zn (zQ 1 (sx_MI 0 (bK r [(St s),(I6 0),(I6 (-1)),(I6 0),(I6 0)] 297) 212 #[(Pt r 0)] (HdIs r s (some (k,n,true,z))) (fun W hM => hx ▸ rHead_any s r hlen hM) (fun v0 V0 s0 hV0 hP0 => ?_))))
 obtain ⟨rfl,rfl⟩ := hP0
 refine zq 7 (zn (zs (sx_block (zB [0,0,0,1,0,0] [(r,1)] (zn (sx_F (zs (sx_W 19 3 8 [24,25,26,27,28,29,30,31,32,33,34,35,36,37,38,39,40,41,42] [.val (I6 (k : Int)),.val (I6 (k : Int)),.val (.bool false),.val (.bool false),.val (.bool true),.val (.bool true),.val (.bool true),.val undef,.val undef,.val undef,.val undef,.val undef,.val undef,.val undef,.val undef,.val undef,.val undef,.val undef,.val undef] ⟨?_,?_,?_,?_,?_,?_,?_,?_,?_,?_,?_,?_,?_,?_,?_,?_,?_,?_,?_,trivial⟩ ?_))))))))
 · exact oQ 0 rfl (I6 (k : Int)) rfl
 · exact oQ 1 rfl (I6 (k : Int)) rfl
 · exact oE 2 rfl (.bool ((k : Int) != (k : Int))) (.bool false) (congrArg Value.bool hkk) rfl
 · exact oQ 3 rfl (.bool false) rfl
 · exact oQ 4 rfl (.bool true) rfl
 · exact oQ 5 rfl (.bool true) rfl
 · exact oQ 6 rfl (.bool true) rfl
 · exact obS 7 rfl rfl (by kernel_rfl)
 · exact obS 8 rfl rfl (by kernel_rfl)
 · exact obS 9 rfl rfl (by kernel_rfl)
 · exact obS 10 rfl rfl (by kernel_rfl)
 · exact obS 11 rfl rfl (by kernel_rfl)
 · exact obS 12 rfl rfl (by kernel_rfl)
 · exact obS 13 rfl rfl (by kernel_rfl)
 · exact obS 14 rfl rfl (by kernel_rfl)
 · exact obS 15 rfl rfl (by kernel_rfl)
 · exact obS 16 rfl rfl (by kernel_rfl)
 · exact obS 17 rfl rfl (by kernel_rfl)
 · exact obS 18 rfl rfl (by kernel_rfl)
 refine zq 3 (zn (sx_T (zQ 1 (sx_MI 0 (bK r [(St s),(I6 (z : Int)),(I6 (-1)),(I6 0),(I6 0)] 297) 241 #[(Pt r 0),(I6 2)] (fun v _ σ' => v = resV [] ∧ σ' = [(r,((⟨s,z,-1,0,0⟩ : Rd).fail 2).O)]) (fun W hM => rFail_any ⟨s,z,-1,0,0⟩ 2 r (hM.eqv (by kernel_rfl))) (fun v1 V1 s1 hV1 hP1 => ?_)))))
 obtain ⟨rfl,rfl⟩ := hP1
 refine zn (zQ 1 (zn (sx_ret (sx_Z [6] [(St [])] (fun W' hM => ?_)))))
 exact retM_eq (σ' := [(bK r [(St s),(I6 0),(I6 0),(I6 2),(I6 0)] 297)]) hM (View.le_trans hV0 hV1) ⟨rfl,rfl⟩
theorem rStr_short (s : List UInt8) (r k n z most : Nat) (hx : hdF s = some (k, n, false, z)) (hlen : s.length ≤ R47) (hmost : most ≤ 2000000000) (h1 : (decide ((n : Int) > ((((s).length : Nat) : Int) - (z : Int)))) = true) {W0 : Cx} {U : View} {σF : Blks} {W : World} (hM : Mem W0 U ([(r, (Rd.new s).O)] ++ σF) W) : Calls Tryz.prog 250 #[.pointer (some ⟨r, 0, none⟩), .int .i64 (k : Int), .int .i64 (most : Int)] W (RetM W0 U σF fun v _ σ' => v = .string (B []) ∧ σ' = [(r, (⟨s, 0, 0, 2, 0⟩ : Rd).O)]) := by
 obtain ⟨hz,hz1⟩ := hdF_len hx
 have hlen' := hlen
 unfold R47 at hlen'
 have hkk : ((k : Int) != (k : Int)) = false := by simp
 have hm0 : decide ((most : Int) < 0) = false := decide_eq_false (by omega)
 have hM2 : Mem W0 U ([(bK r [(St s),(I6 0),(I6 (-1)),(I6 0),(I6 0)] 297)] ++ σF) W := hM.eqv (by kernel_rfl)
 refine sx_enterM (f := 250) 84 U Tryz.func250 rfl rfl rfl hM2 ?_
 refine zQ 1 (zn (zQ 1 (sx_MI 0 (bK r [(St s),(I6 0),(I6 (-1)),(I6 0),(I6 0)] 297) 212 #[(Pt r 0)] (HdIs r s (some (k,n,false,z))) (fun W hM => hx ▸ rHead_any s r hlen hM) (fun v0 V0 s0 hV0 hP0 => ?_))))
 obtain ⟨rfl,rfl⟩ := hP0
 refine zq 7 (zn (zs (sx_block (zB [0,0,0,1,0,0] [(r,1)] (zn (sx_F (zs (sx_W 19 3 8 [24,25,26,27,28,29,30,31,32,33,34,35,36,37,38,39,40,41,42] [.val (I6 (k : Int)),.val (I6 (k : Int)),.val (.bool false),.val (.bool false),.val (.bool false),.val (.bool false),.val (.bool false),.val (N6 n),.val (Pt r 0),.val (Pt r 0),.val (Pt r 0),.val (St s),.val (I6 (((s).length : Nat) : Int)),.val (Pt r 0),.val (Pt r 0),.val (Pt r 1),.val (I6 (z : Int)),.val (I6 ((((s).length : Nat) : Int) - (z : Int))),.val (U6 ((((s).length : Nat) : Int) - (z : Int)))] ⟨?_,?_,?_,?_,?_,?_,?_,?_,?_,?_,?_,?_,?_,?_,?_,?_,?_,?_,?_,trivial⟩ ?_))))))))
 · exact oQ 0 rfl (I6 (k : Int)) rfl
 · exact oQ 1 rfl (I6 (k : Int)) rfl
 · exact oE 2 rfl (.bool ((k : Int) != (k : Int))) (.bool false) (congrArg Value.bool hkk) rfl
 · exact oQ 3 rfl (.bool false) rfl
 · exact oQ 4 rfl (.bool false) rfl
 · exact oQ 5 rfl (.bool false) rfl
 · exact oQ 6 rfl (.bool false) rfl
 · exact oQ 7 rfl (N6 n) rfl
 · exact oQ 8 rfl (Pt r 0) rfl
 · exact oQ 9 rfl (Pt r 0) rfl
 · exact oQ 10 rfl (Pt r 0) rfl
 · exact oL 11 0 r 1 [(St s),(I6 (z : Int)),(I6 (-1)),(I6 0),(I6 0)] 297 rfl (St s) rfl
 · exact oQ 12 rfl (I6 (((s).length : Nat) : Int)) rfl
 · exact oQ 13 rfl (Pt r 0) rfl
 · exact oQ 14 rfl (Pt r 0) rfl
 · exact oQ 15 rfl (Pt r 1) rfl
 · exact oL 16 0 r 1 [(St s),(I6 (z : Int)),(I6 (-1)),(I6 0),(I6 0)] 297 rfl (I6 (z : Int)) rfl
 · exact oE 17 rfl (I6 (IntKind.i64.wrap ((((s).length : Nat) : Int) - (z : Int)))) (I6 ((((s).length : Nat) : Int) - (z : Int))) i6v rfl
 · exact oE 18 rfl (U6 (IntKind.u64.wrap ((((s).length : Nat) : Int) - (z : Int)))) (U6 ((((s).length : Nat) : Int) - (z : Int))) (congrArg (Value.int .u64) (u64_in (by omega) (by omega))) rfl
 refine zq 3 (zn (sx_T' (decide ((n : Int) > ((((s).length : Nat) : Int) - (z : Int)))) h1 ?_))
 refine zQ 1 (sx_MI 0 (bK r [(St s),(I6 (z : Int)),(I6 (-1)),(I6 0),(I6 0)] 297) 241 #[(Pt r 0),(I6 2)] (fun v _ σ' => v = resV [] ∧ σ' = [(r,((⟨s,z,-1,0,0⟩ : Rd).fail 2).O)]) (fun W hM => rFail_any ⟨s,z,-1,0,0⟩ 2 r (hM.eqv (by kernel_rfl))) (fun v1 V1 s1 hV1 hP1 => ?_))
 obtain ⟨rfl,rfl⟩ := hP1
 refine zn (zQ 1 (zn (sx_ret (sx_Z [6] [(St [])] (fun W' hM => ?_)))))
 exact retM_eq (σ' := [(bK r [(St s),(I6 0),(I6 0),(I6 2),(I6 0)] 297)]) hM (View.le_trans hV0 hV1) ⟨rfl,rfl⟩
theorem rStr_long (s : List UInt8) (r k n z most : Nat) (hx : hdF s = some (k, n, false, z)) (hlen : s.length ≤ R47) (hmost : most ≤ 2000000000) (h1 : (decide ((n : Int) > ((((s).length : Nat) : Int) - (z : Int)))) = false) (h2 : (decide ((n : Int) > (most : Int))) = true) {W0 : Cx} {U : View} {σF : Blks} {W : World} (hM : Mem W0 U ([(r, (Rd.new s).O)] ++ σF) W) : Calls Tryz.prog 250 #[.pointer (some ⟨r, 0, none⟩), .int .i64 (k : Int), .int .i64 (most : Int)] W (RetM W0 U σF fun v _ σ' => v = .string (B []) ∧ σ' = [(r, (⟨s, 0, 0, 4, 0⟩ : Rd).O)]) := by
 obtain ⟨hz,hz1⟩ := hdF_len hx
 have hlen' := hlen
 unfold R47 at hlen'
 have hkk : ((k : Int) != (k : Int)) = false := by simp
 have hm0 : decide ((most : Int) < 0) = false := decide_eq_false (by omega)
 have hM2 : Mem W0 U ([(bK r [(St s),(I6 0),(I6 (-1)),(I6 0),(I6 0)] 297)] ++ σF) W := hM.eqv (by kernel_rfl)
 refine sx_enterM (f := 250) 84 U Tryz.func250 rfl rfl rfl hM2 ?_
 refine zQ 1 (zn (zQ 1 (sx_MI 0 (bK r [(St s),(I6 0),(I6 (-1)),(I6 0),(I6 0)] 297) 212 #[(Pt r 0)] (HdIs r s (some (k,n,false,z))) (fun W hM => hx ▸ rHead_any s r hlen hM) (fun v0 V0 s0 hV0 hP0 => ?_))))
 obtain ⟨rfl,rfl⟩ := hP0
 refine zq 7 (zn (zs (sx_block (zB [0,0,0,1,0,0] [(r,1)] (zn (sx_F (zs (sx_W 19 3 8 [24,25,26,27,28,29,30,31,32,33,34,35,36,37,38,39,40,41,42] [.val (I6 (k : Int)),.val (I6 (k : Int)),.val (.bool false),.val (.bool false),.val (.bool false),.val (.bool false),.val (.bool false),.val (N6 n),.val (Pt r 0),.val (Pt r 0),.val (Pt r 0),.val (St s),.val (I6 (((s).length : Nat) : Int)),.val (Pt r 0),.val (Pt r 0),.val (Pt r 1),.val (I6 (z : Int)),.val (I6 ((((s).length : Nat) : Int) - (z : Int))),.val (U6 ((((s).length : Nat) : Int) - (z : Int)))] ⟨?_,?_,?_,?_,?_,?_,?_,?_,?_,?_,?_,?_,?_,?_,?_,?_,?_,?_,?_,trivial⟩ ?_))))))))
 · exact oQ 0 rfl (I6 (k : Int)) rfl
 · exact oQ 1 rfl (I6 (k : Int)) rfl
 · exact oE 2 rfl (.bool ((k : Int) != (k : Int))) (.bool false) (congrArg Value.bool hkk) rfl
 · exact oQ 3 rfl (.bool false) rfl
 · exact oQ 4 rfl (.bool false) rfl
 · exact oQ 5 rfl (.bool false) rfl
 · exact oQ 6 rfl (.bool false) rfl
 · exact oQ 7 rfl (N6 n) rfl
 · exact oQ 8 rfl (Pt r 0) rfl
 · exact oQ 9 rfl (Pt r 0) rfl
 · exact oQ 10 rfl (Pt r 0) rfl
 · exact oL 11 0 r 1 [(St s),(I6 (z : Int)),(I6 (-1)),(I6 0),(I6 0)] 297 rfl (St s) rfl
 · exact oQ 12 rfl (I6 (((s).length : Nat) : Int)) rfl
 · exact oQ 13 rfl (Pt r 0) rfl
 · exact oQ 14 rfl (Pt r 0) rfl
 · exact oQ 15 rfl (Pt r 1) rfl
 · exact oL 16 0 r 1 [(St s),(I6 (z : Int)),(I6 (-1)),(I6 0),(I6 0)] 297 rfl (I6 (z : Int)) rfl
 · exact oE 17 rfl (I6 (IntKind.i64.wrap ((((s).length : Nat) : Int) - (z : Int)))) (I6 ((((s).length : Nat) : Int) - (z : Int))) i6v rfl
 · exact oE 18 rfl (U6 (IntKind.u64.wrap ((((s).length : Nat) : Int) - (z : Int)))) (U6 ((((s).length : Nat) : Int) - (z : Int))) (congrArg (Value.int .u64) (u64_in (by omega) (by omega))) rfl
 refine zq 3 (zn (sx_F' (decide ((n : Int) > ((((s).length : Nat) : Int) - (z : Int)))) h1 ?_))
 refine zQ 3 (sx_E 50 (.bool (decide ((most : Int) < 0))) (.bool false) (congrArg Value.bool hm0) ?_)
 refine zq 3 (sx_E 53 (U6 (IntKind.u64.wrap (most : Int))) (N6 most) (congrArg (Value.int .u64) (u64_in (by omega) (by omega))) ?_)
 refine zq 3 (zn (sx_T' (decide ((n : Int) > (most : Int))) h2 ?_))
 refine zQ 1 (sx_MI 0 (bK r [(St s),(I6 (z : Int)),(I6 (-1)),(I6 0),(I6 0)] 297) 241 #[(Pt r 0),(I6 4)] (fun v _ σ' => v = resV [] ∧ σ' = [(r,((⟨s,z,-1,0,0⟩ : Rd).fail 4).O)]) (fun W hM => rFail_any ⟨s,z,-1,0,0⟩ 4 r (hM.eqv (by kernel_rfl))) (fun v1 V1 s1 hV1 hP1 => ?_))
 obtain ⟨rfl,rfl⟩ := hP1
 refine zn (zQ 1 (zn (sx_ret (sx_Z [6] [(St [])] (fun W' hM => ?_)))))
 exact retM_eq (σ' := [(bK r [(St s),(I6 0),(I6 0),(I6 4),(I6 0)] 297)]) hM (View.le_trans hV0 hV1) ⟨rfl,rfl⟩
set_option maxHeartbeats 16000000 in
theorem rStr_ok (s : List UInt8) (r k n z most : Nat) (hx : hdF s = some (k, n, false, z)) (hlen : s.length ≤ R47) (hmost : most ≤ 2000000000) (h1 : (decide ((n : Int) > ((((s).length : Nat) : Int) - (z : Int)))) = false) (h2 : (decide ((n : Int) > (most : Int))) = false) {W0 : Cx} {U : View} {σF : Blks} {W : World} (hM : Mem W0 U ([(r, (Rd.new s).O)] ++ σF) W) : Calls Tryz.prog 250 #[.pointer (some ⟨r, 0, none⟩), .int .i64 (k : Int), .int .i64 (most : Int)] W (RetM W0 U σF fun v _ σ' => v = .string (B ((s.drop z).take n)) ∧ σ' = [(r, (⟨s, z + n, -1, 0, 0⟩ : Rd).O)]) := by
 obtain ⟨hz,hz1⟩ := hdF_len hx
 have hlen' := hlen
 unfold R47 at hlen'
 have hkk : ((k : Int) != (k : Int)) = false := by simp
 have hm0 : decide ((most : Int) < 0) = false := decide_eq_false (by omega)
 have h1' := of_decide_eq_false h1
 have h2' := of_decide_eq_false h2
 have hM2 : Mem W0 U ([(bK r [(St s),(I6 0),(I6 (-1)),(I6 0),(I6 0)] 297)] ++ σF) W := hM.eqv (by kernel_rfl)
 refine sx_enterM (f := 250) 84 U Tryz.func250 rfl rfl rfl hM2 ?_
 refine zQ 1 (zn (zQ 1 (sx_MI 0 (bK r [(St s),(I6 0),(I6 (-1)),(I6 0),(I6 0)] 297) 212 #[(Pt r 0)] (HdIs r s (some (k,n,false,z))) (fun W hM => hx ▸ rHead_any s r hlen hM) (fun v0 V0 s0 hV0 hP0 => ?_))))
 obtain ⟨rfl,rfl⟩ := hP0
 refine zq 7 (zn (zs (sx_block (zB [0,0,0,1,0,0] [(r,1)] (zn (sx_F (zs (sx_W 19 3 8 [24,25,26,27,28,29,30,31,32,33,34,35,36,37,38,39,40,41,42] [.val (I6 (k : Int)),.val (I6 (k : Int)),.val (.bool false),.val (.bool false),.val (.bool false),.val (.bool false),.val (.bool false),.val (N6 n),.val (Pt r 0),.val (Pt r 0),.val (Pt r 0),.val (St s),.val (I6 (((s).length : Nat) : Int)),.val (Pt r 0),.val (Pt r 0),.val (Pt r 1),.val (I6 (z : Int)),.val (I6 ((((s).length : Nat) : Int) - (z : Int))),.val (U6 ((((s).length : Nat) : Int) - (z : Int)))] ⟨?_,?_,?_,?_,?_,?_,?_,?_,?_,?_,?_,?_,?_,?_,?_,?_,?_,?_,?_,trivial⟩ ?_))))))))
 · exact oQ 0 rfl (I6 (k : Int)) rfl
 · exact oQ 1 rfl (I6 (k : Int)) rfl
 · exact oE 2 rfl (.bool ((k : Int) != (k : Int))) (.bool false) (congrArg Value.bool hkk) rfl
 · exact oQ 3 rfl (.bool false) rfl
 · exact oQ 4 rfl (.bool false) rfl
 · exact oQ 5 rfl (.bool false) rfl
 · exact oQ 6 rfl (.bool false) rfl
 · exact oQ 7 rfl (N6 n) rfl
 · exact oQ 8 rfl (Pt r 0) rfl
 · exact oQ 9 rfl (Pt r 0) rfl
 · exact oQ 10 rfl (Pt r 0) rfl
 · exact oL 11 0 r 1 [(St s),(I6 (z : Int)),(I6 (-1)),(I6 0),(I6 0)] 297 rfl (St s) rfl
 · exact oQ 12 rfl (I6 (((s).length : Nat) : Int)) rfl
 · exact oQ 13 rfl (Pt r 0) rfl
 · exact oQ 14 rfl (Pt r 0) rfl
 · exact oQ 15 rfl (Pt r 1) rfl
 · exact oL 16 0 r 1 [(St s),(I6 (z : Int)),(I6 (-1)),(I6 0),(I6 0)] 297 rfl (I6 (z : Int)) rfl
 · exact oE 17 rfl (I6 (IntKind.i64.wrap ((((s).length : Nat) : Int) - (z : Int)))) (I6 ((((s).length : Nat) : Int) - (z : Int))) i6v rfl
 · exact oE 18 rfl (U6 (IntKind.u64.wrap ((((s).length : Nat) : Int) - (z : Int)))) (U6 ((((s).length : Nat) : Int) - (z : Int))) (congrArg (Value.int .u64) (u64_in (by omega) (by omega))) rfl
 refine zq 3 (zn (sx_F' (decide ((n : Int) > ((((s).length : Nat) : Int) - (z : Int)))) h1 ?_))
 refine zQ 3 (sx_E 50 (.bool (decide ((most : Int) < 0))) (.bool false) (congrArg Value.bool hm0) ?_)
 refine zq 3 (sx_E 53 (U6 (IntKind.u64.wrap (most : Int))) (N6 most) (congrArg (Value.int .u64) (u64_in (by omega) (by omega))) ?_)
 refine zq 3 (zn (sx_F' (decide ((n : Int) > (most : Int))) h2 ?_))
 refine zk (zs (sx_W 15 2 4 [58,59,60,61,62,63,64,65,66,67,68,69,70,71,72] [.val (Pt r 0),.val (Pt r 0),.val (Pt r 0),.val (St s),.val (Pt r 0),.val (Pt r 0),.val (Pt r 1),.val (I6 (z : Int)),.val (Pt r 0),.val (Pt r 0),.val (Pt r 1),.val (I6 (z : Int)),.val (N6 n),.val (I6 (n : Int)),.val (I6 ((z : Int) + (n : Int)))] ⟨?_,?_,?_,?_,?_,?_,?_,?_,?_,?_,?_,?_,?_,?_,?_,trivial⟩ ?_))
 · exact oQ 0 rfl (Pt r 0) rfl
 · exact oQ 1 rfl (Pt r 0) rfl
 · exact oQ 2 rfl (Pt r 0) rfl
 · exact oL 3 0 r 1 [(St s),(I6 (z : Int)),(I6 (-1)),(I6 0),(I6 0)] 297 rfl (St s) rfl
 · exact oQ 4 rfl (Pt r 0) rfl
 · exact oQ 5 rfl (Pt r 0) rfl
 · exact oQ 6 rfl (Pt r 1) rfl
 · exact oL 7 0 r 1 [(St s),(I6 (z : Int)),(I6 (-1)),(I6 0),(I6 0)] 297 rfl (I6 (z : Int)) rfl
 · exact oQ 8 rfl (Pt r 0) rfl
 · exact oQ 9 rfl (Pt r 0) rfl
 · exact oQ 10 rfl (Pt r 1) rfl
 · exact oL 11 0 r 1 [(St s),(I6 (z : Int)),(I6 (-1)),(I6 0),(I6 0)] 297 rfl (I6 (z : Int)) rfl
 · exact oQ 12 rfl (N6 n) rfl
 · exact oE 13 rfl (I6 (IntKind.i64.wrap (n : Int))) (I6 (n : Int)) i6v rfl
 · exact oE 14 rfl (I6 (IntKind.i64.wrap ((z : Int) + (n : Int)))) (I6 ((z : Int) + (n : Int))) i6v rfl
 refine sx_R (St ((s.drop z).take ((z + n) - z))) (run_ss 9 _ (some _) (some _) rfl s z (z + n) ((s.drop z).take ((z + n) - z)) (by kernel_rfl) (show evS _ _ = _ by kernel_rfl) (show evS _ _ = _ by kernel_rfl) (by first | exact Nat.zero_le _ | exact Nat.le_refl _ | assumption | omega | (simp only [List.length_append,List.length_cons,List.length_nil,List.length_drop,List.length_take]; omega)) (by first | exact Nat.zero_le _ | exact Nat.le_refl _ | assumption | omega | (simp only [List.length_append,List.length_cons,List.length_nil,List.length_drop,List.length_take]; omega)) rfl Tryz.underlying9) ?_
 refine zq 1 (zn (zB [0,0,0,1,0,0] [(r,1)] (sx_E 79 (I6 (IntKind.i64.wrap (n : Int))) (I6 (n : Int)) i6v ?_)))
 refine zq 1 (sx_E 80 (I6 (IntKind.i64.wrap ((z : Int) + (n : Int)))) (I6 ((z : Int) + (n : Int))) i6v ?_)
 refine zq 2 (sx_S 0 r (zn (zQ 2 (zn (sx_ret (sx_Z [6] [(St ((s.drop z).take ((z + n) - z)))] (fun W' hM => ?_)))))))
 exact retM_eq (σ' := [(bK r [(St s),(I6 ((z : Int) + (n : Int))),(I6 (-1)),(I6 0),(I6 0)] 297)]) hM hV0 ⟨by show Value.string (B ((s.drop z).take (z + n - z))) = _; rw [Nat.add_sub_cancel_left],by kernel_rfl⟩
structure Ps where
 b : List UInt8
 at_ : Nat
 e : Int
def Ps.cs (p : Ps) : List Value := [.string (B p.b), .int .i64 (p.at_ : Int), .int .i64 p.e]
def Ps.O (p : Ps) : Obj := .cells p.cs.toArray 245 (0, 0)
def Ps.rest (p : Ps) : List UInt8 := p.b.drop p.at_
structure Ps.ok (p : Ps) : Prop where
 le : p.at_ ≤ p.b.length
 len : p.b.length ≤ R47
theorem Ps.rest_len {p : Ps} (h : p.ok) : p.rest.length ≤ R47 := by
 unfold Ps.rest
 rw [List.length_drop]
 have := h.len
 omega
theorem pReader_any (ps : Ps) (p : Nat) (hp : ps.ok) {W0 : Cx} {U : View} {σF : Blks} {W : World} (hM : Mem W0 U ([(p, ps.O)] ++ σF) W) : Calls Tryz.prog 211 #[.pointer (some ⟨p, 0, none⟩)] W (RetM W0 U σF fun v _ σ' => ∃ r, v = .pointer (some ⟨r, 0, none⟩) ∧ σ' = [(r, (Rd.new ps.rest).O), (p, ps.O)]) := by
 have hle := hp.le
 have hM2 : Mem W0 U ([(bK p [(St ps.b),(I6 (ps.at_ : Int)),(I6 ps.e)] 245)] ++ σF) W := hM.eqv (by kernel_rfl)
 refine sx_enterM (f := 211) 13 U Tryz.func211 rfl rfl rfl hM2 ?_
 refine zQ 1 (zn (zs (sx_W 8 3 4 [3,4,5,6,7,8,9,10] [.val (Pt p 0),.val (Pt p 0),.val (Pt p 0),.val (St ps.b),.val (Pt p 0),.val (Pt p 0),.val (Pt p 1),.val (I6 (ps.at_ : Int))] ⟨?_,?_,?_,?_,?_,?_,?_,?_,trivial⟩ ?_)))
 · exact oQ 0 rfl (Pt p 0) rfl
 · exact oQ 1 rfl (Pt p 0) rfl
 · exact oQ 2 rfl (Pt p 0) rfl
 · exact oL 3 0 p 1 [(St ps.b),(I6 (ps.at_ : Int)),(I6 ps.e)] 245 rfl (St ps.b) rfl
 · exact oQ 4 rfl (Pt p 0) rfl
 · exact oQ 5 rfl (Pt p 0) rfl
 · exact oQ 6 rfl (Pt p 1) rfl
 · exact oL 7 0 p 1 [(St ps.b),(I6 (ps.at_ : Int)),(I6 ps.e)] 245 rfl (I6 (ps.at_ : Int)) rfl
 refine sx_R (St (ps.b.drop ps.at_)) (run_ss 9 _ (some _) none rfl ps.b ps.at_ ps.b.length (ps.b.drop ps.at_) (by kernel_rfl) (show evS _ _ = _ by kernel_rfl) rfl (by first | exact Nat.zero_le _ | exact Nat.le_refl _ | assumption | omega | (simp only [List.length_append,List.length_cons,List.length_nil,List.length_drop,List.length_take]; omega)) (by first | exact Nat.zero_le _ | exact Nat.le_refl _ | assumption | omega | (simp only [List.length_append,List.length_cons,List.length_nil,List.length_drop,List.length_take]; omega)) (take_all_drop _ _) Tryz.underlying9) ?_
 refine sx_M0 237 #[(St (ps.b.drop ps.at_))] (fun v _ σ' => RdAt (Rd.new (ps.b.drop ps.at_)) v σ') (fun W hM => newReader_any (ps.b.drop ps.at_) hM) (fun v0 V0 s0 hV0 hP0 => ?_)
 obtain ⟨r0,rfl,rfl⟩ := hP0
 refine zq 1 (zn (sx_ret (sx_Z [2] [(Pt r0 0)] (fun W' hM => ?_))))
 exact retM_eq (σ' := [(r0,(Rd.new (ps.b.drop ps.at_)).O),(bK p [(St ps.b),(I6 (ps.at_ : Int)),(I6 ps.e)] 245)]) hM hV0 ⟨_,rfl,rfl⟩
theorem retM_drop {W0 : Cx} {U V : View} {σ σF : Blks} {Φ : Value → View → Blks → Prop} {v : Value} {W' : World} (σ' σd : Blks) (hM : Mem W0 V σ W') (e : σ = (σ' ++ σd) ++ σF) (hl : View.le U V) (h : Φ v V σ') : RetM W0 U σF Φ (.returned v) W' := by
 subst e
 exact ⟨v, V, σ', rfl, hl, hM.sub (List.Sublist.append (List.sublist_append_left σ' σd) (List.Sublist.refl σF)), h⟩
def Ps.fail (p : Ps) (at_ : Nat) (e : Int) : Ps := if p.e == 0 then ⟨p.b, at_, e⟩ else p
def itZ : Value := .agg #[.int .i64 0, .int .u64 0, .string (B []), .slice none 0 0, .bool false]
theorem pFail_any (ps : Ps) (p at_ : Nat) (e : Int) {W0 : Cx} {U : View} {σF : Blks} {W : World} (hM : Mem W0 U ([(p, ps.O)] ++ σF) W) : Calls Tryz.prog 182 #[.pointer (some ⟨p, 0, none⟩), .int .i64 (at_ : Int), .int .i64 e] W (RetM W0 U σF fun v _ σ' => v = itZ ∧ σ' = [(p, (ps.fail at_ e).O)]) := by
 have hM2 : Mem W0 U ([(bK p [(St ps.b),(I6 (ps.at_ : Int)),(I6 ps.e)] 245)] ++ σF) W := hM.eqv (by kernel_rfl)
 refine sx_enterM (f := 182) 21 U Tryz.func182 rfl rfl rfl hM2 ?_
 refine zs (zr (sx_NI 1 (fun b0 => ?_)))
 refine zn (zs (zB [0,0,0,1,0] [(p,1)] (zn (sx_D (ps.e == 0) (fun h0 => ?_) (fun h0 => ?_)))))
 ·
  refine zr (zq 6 (sx_S 0 p (zq 2 (sx_S 0 p (zn (zQ 1 (sx_S 1 b0 (zn (sx_ret ?_)))))))))
  refine sx_ret_any [.cell 6 89] [(.agg #[(I6 0),(U6 0),(St []),S0,(.bool false)])] rfl ⟨(retK' 1 b0 5),trivial⟩ (fun W' hM => ?_)
  exact retM_drop [(bK p [(St ps.b),(I6 (at_ : Int)),(I6 e)] 245)] [(b0,.cells [(I6 0),(U6 0),(St []),S0,(.bool false)].toArray 89 (0,0))] hM (by kernel_rfl) (View.le_refl _) ⟨rfl,by simp only [Ps.fail,h0,if_true,Bool.false_eq_true,if_false]; rfl⟩
 ·
  refine zk (zQ 1 (sx_S 1 b0 (zn (sx_ret ?_))))
  refine sx_ret_any [.cell 6 89] [(.agg #[(I6 0),(U6 0),(St []),S0,(.bool false)])] rfl ⟨(retK' 1 b0 5),trivial⟩ (fun W' hM => ?_)
  exact retM_drop [(bK p [(St ps.b),(I6 (ps.at_ : Int)),(I6 ps.e)] 245)] [(b0,.cells [(I6 0),(U6 0),(St []),S0,(.bool false)].toArray 89 (0,0))] hM (by kernel_rfl) (View.le_refl _) ⟨rfl,by simp only [Ps.fail,h0,if_true,Bool.false_eq_true,if_false]; rfl⟩
def brkB (s : List UInt8) : Bool := match hdF s with
 | some (m, _, o, _) => ((m : Int) == 7) && o
 | none => false
theorem pBroken_no (ps : Ps) (p : Nat) (hp : ps.ok) (hx : hdF ps.rest = none) {W0 : Cx} {U : View} {σF : Blks} {W : World} (hM : Mem W0 U ([(p, ps.O)] ++ σF) W) : Calls Tryz.prog 242 #[.pointer (some ⟨p, 0, none⟩)] W (RetM W0 U σF fun v _ σ' => v = .bool (brkB ps.rest) ∧ σ' = [(p, ps.O)]) := by
 have hM2 : Mem W0 U ([(bK p [(St ps.b),(I6 (ps.at_ : Int)),(I6 ps.e)] 245)] ++ σF) W := hM.eqv (by kernel_rfl)
 refine sx_enterM (f := 242) 18 U Tryz.func242 rfl rfl rfl hM2 ?_
 refine zQ 1 (zn (zQ 1 (sx_MI 0 (bK p [(St ps.b),(I6 (ps.at_ : Int)),(I6 ps.e)] 245) 211 #[(Pt p 0)] (fun v _ σ' => ∃ r,v = .pointer (some ⟨r,0,none⟩) ∧ σ' = [(r,(Rd.new ps.rest).O),(p,ps.O)]) (fun W hM => pReader_any ps p hp hM) (fun v0 V0 s0 hV0 hP0 => ?_))))
 obtain ⟨r0,rfl,rfl⟩ := hP0
 refine sx_MI 0 (r0,(Rd.new ps.rest).O) 212 #[(Pt r0 0)] (HdIs r0 ps.rest (none)) (fun W hM => hx ▸ rHead_any ps.rest r0 (Ps.rest_len hp) hM) (fun v1 V1 s1 hV1 hP1 => ?_)
 obtain ⟨rfl,rfl⟩ := hP1
 refine zq 7 (zn (zQ 6 (zn (sx_ret (sx_Z [2] [(.bool false)] (fun W' hM => ?_))))))
 have hM3 := hM.perm (List.Perm.swap _ _ _)
 exact retM_drop [(bK p [(St ps.b),(I6 (ps.at_ : Int)),(I6 ps.e)] 245)] [(r0,(hdR ps.rest (none)).O)] hM3 (by kernel_rfl) (View.le_trans hV0 hV1) ⟨by simp only [brkB,hx,resV,bs,if_true,if_false,cond_true,cond_false,reduceIte],by kernel_rfl⟩
theorem pBroken_ok (ps : Ps) (p : Nat) (m n z : Nat) (o : Bool) (hp : ps.ok) (hx : hdF ps.rest = some (m, n, o, z)) {W0 : Cx} {U : View} {σF : Blks} {W : World} (hM : Mem W0 U ([(p, ps.O)] ++ σF) W) : Calls Tryz.prog 242 #[.pointer (some ⟨p, 0, none⟩)] W (RetM W0 U σF fun v _ σ' => v = .bool (brkB ps.rest) ∧ σ' = [(p, ps.O)]) := by
 have hM2 : Mem W0 U ([(bK p [(St ps.b),(I6 (ps.at_ : Int)),(I6 ps.e)] 245)] ++ σF) W := hM.eqv (by kernel_rfl)
 refine sx_enterM (f := 242) 18 U Tryz.func242 rfl rfl rfl hM2 ?_
 refine zQ 1 (zn (zQ 1 (sx_MI 0 (bK p [(St ps.b),(I6 (ps.at_ : Int)),(I6 ps.e)] 245) 211 #[(Pt p 0)] (fun v _ σ' => ∃ r,v = .pointer (some ⟨r,0,none⟩) ∧ σ' = [(r,(Rd.new ps.rest).O),(p,ps.O)]) (fun W hM => pReader_any ps p hp hM) (fun v0 V0 s0 hV0 hP0 => ?_))))
 obtain ⟨r0,rfl,rfl⟩ := hP0
 refine sx_MI 0 (r0,(Rd.new ps.rest).O) 212 #[(Pt r0 0)] (HdIs r0 ps.rest (some (m,n,o,z))) (fun W hM => hx ▸ rHead_any ps.rest r0 (Ps.rest_len hp) hM) (fun v1 V1 s1 hV1 hP1 => ?_)
 obtain ⟨rfl,rfl⟩ := hP1
 refine zq 7 (zn (zQ 3 (sx_BL 15 ((m : Int) == 7) (fun h0 => ?_) (fun h0 => ?_))))
 ·
  refine zq 3 (zn (sx_ret (sx_Z [2] [(.bool o)] (fun W' hM => ?_))))
  have hM3 := hM.perm (List.Perm.swap _ _ _)
  exact retM_drop [(bK p [(St ps.b),(I6 (ps.at_ : Int)),(I6 ps.e)] 245)] [(r0,(hdR ps.rest (some (m,n,o,z))).O)] hM3 (by kernel_rfl) (View.le_trans hV0 hV1) ⟨by simp only [brkB,hx,resV,h0,bs,if_true,if_false,cond_true,cond_false,reduceIte],by kernel_rfl⟩
 ·
  refine zq 3 (zn (sx_ret (sx_Z [2] [(.bool false)] (fun W' hM => ?_))))
  have hM3 := hM.perm (List.Perm.swap _ _ _)
  exact retM_drop [(bK p [(St ps.b),(I6 (ps.at_ : Int)),(I6 ps.e)] 245)] [(r0,(hdR ps.rest (some (m,n,o,z))).O)] hM3 (by kernel_rfl) (View.le_trans hV0 hV1) ⟨by simp only [brkB,hx,resV,h0,bs,if_true,if_false,cond_true,cond_false,reduceIte],by kernel_rfl⟩
theorem rAtU_any (rd : Rd) (r : Nat) (w : World) {U : View} (hU : ∀ a v, U a = some v → w.cell? a = some v) (hr : U.range r 0 rd.cs) : Calls Tryz.prog 214 #[.pointer (some ⟨r, 0, none⟩)] w (Ret (.int .i64 (rd.at_ : Int)) w) := by
 refine sx_enter (f := 214) 7 U Tryz.func214 rfl rfl rfl hU ?_
 refine zQ 1 (zn (zQ 3 (zV r (0 + 1) (I6 (rd.at_ : Int)) (hr 1 _ rfl) 3 (.tmp 5) _ Tryz.underlying3 rfl ?_)))
 refine zq 1 (zn (sx_ret (sx_Z [2] [(I6 (rd.at_ : Int))] (fun W' hM => ?_))))
 exact ⟨rfl,hM.below⟩
def strF (s : List UInt8) (n z : Nat) (o : Bool) (most : Nat) : List UInt8 × Rd :=
 if o then ([], ⟨s, 0, 0, 2, 0⟩) else if decide ((n : Int) > (((s).length : Nat) : Int) - (z : Int)) then ([], ⟨s, 0, 0, 2, 0⟩) else if decide ((n : Int) > (most : Int)) then ([], ⟨s, 0, 0, 4, 0⟩) else ((s.drop z).take n, ⟨s, z + n, -1, 0, 0⟩)
def StrIs (r : Nat) (x : List UInt8 × Rd) (v : Value) (_ : View) (σ : Blks) : Prop := v = .string (B x.1) ∧ σ = [(r, x.2.O)]
theorem rStr_any (s : List UInt8) (r k n z most : Nat) (o : Bool) (hx : hdF s = some (k, n, o, z)) (hlen : s.length ≤ R47) (hmost : most ≤ 2000000000) {W0 : Cx} {U : View} {σF : Blks} {W : World} (hM : Mem W0 U ([(r, (Rd.new s).O)] ++ σF) W) :
  Calls Tryz.prog 250 #[.pointer (some ⟨r, 0, none⟩), .int .i64 (k : Int), .int .i64 (most : Int)] W (RetM W0 U σF (StrIs r (strF s n z o most))) := by
 unfold strF
 cases o with
 | true => exact rStr_open s r k n z most hx hlen hmost hM
 | false =>
  cases h1 : decide ((n : Int) > (((s).length : Nat) : Int) - (z : Int)) with
  | true => exact rStr_short s r k n z most hx hlen hmost h1 hM
  | false =>
   cases h2 : decide ((n : Int) > (most : Int)) with
   | true => exact rStr_long s r k n z most hx hlen hmost h1 h2 hM
   | false => exact rStr_ok s r k n z most hx hlen hmost h1 h2 hM
theorem rBytes_any (s : List UInt8) (r n z most : Nat) (o : Bool) (hx : hdF s = some (2, n, o, z)) (hlen : s.length ≤ R47) (hmost : most ≤ 2000000000) {W0 : Cx} {U : View} {σF : Blks} {W : World} (hM : Mem W0 U ([(r, (Rd.new s).O)] ++ σF) W) : Calls Tryz.prog 239 #[.pointer (some ⟨r, 0, none⟩), .int .i64 (most : Int)] W (RetM W0 U σF (StrIs r (strF s n z o most))) := by
 refine sx_enterM (f := 239) 8 U Tryz.func239 rfl rfl rfl hM ?_
 refine zQ 1 (zn (zQ 2 (sx_MI 0 (r,(Rd.new s).O) 250 #[(Pt r 0),(I6 2),(I6 (most : Int))] (StrIs r (strF s n z o most)) (fun W hM => rStr_any s r 2 n z most o hx hlen hmost hM) (fun v0 V0 s0 hV0 hP0 => ?_))))
 obtain ⟨rfl,rfl⟩ := hP0
 refine zq 1 (zn (sx_ret (sx_Z [4] [(St (strF s n z o most).1)] (fun W' hM => ?_))))
 exact retM_eq (σ' := [(r,(strF s n z o most).2.O)]) hM hV0 ⟨rfl,rfl⟩
theorem rText_any (s : List UInt8) (r n z most : Nat) (o : Bool) (hx : hdF s = some (3, n, o, z)) (hlen : s.length ≤ R47) (hmost : most ≤ 2000000000) {W0 : Cx} {U : View} {σF : Blks} {W : World} (hM : Mem W0 U ([(r, (Rd.new s).O)] ++ σF) W) : Calls Tryz.prog 240 #[.pointer (some ⟨r, 0, none⟩), .int .i64 (most : Int)] W (RetM W0 U σF (StrIs r (strF s n z o most))) := by
 refine sx_enterM (f := 240) 8 U Tryz.func240 rfl rfl rfl hM ?_
 refine zQ 1 (zn (zQ 2 (sx_MI 0 (r,(Rd.new s).O) 250 #[(Pt r 0),(I6 3),(I6 (most : Int))] (StrIs r (strF s n z o most)) (fun W hM => rStr_any s r 3 n z most o hx hlen hmost hM) (fun v0 V0 s0 hV0 hP0 => ?_))))
 obtain ⟨rfl,rfl⟩ := hP0
 refine zq 1 (zn (sx_ret (sx_Z [4] [(St (strF s n z o most).1)] (fun W' hM => ?_))))
 exact retM_eq (σ' := [(r,(strF s n z o most).2.O)]) hM hV0 ⟨rfl,rfl⟩
end Go.Proofs.YtcdjakemdlinhaaGreatDoor.Sx
