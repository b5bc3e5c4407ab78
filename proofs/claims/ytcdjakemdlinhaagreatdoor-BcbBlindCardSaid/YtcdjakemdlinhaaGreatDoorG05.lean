/-
  Several texts in one: SxJ Sx11 Shelf Cln1 Rep Pri2 Sum1 Blk1 Sum2 Pri3 Blk2.
  Conditions: named at each.
-/
import Derived.Test.YtcdjakemdlinhaaGreatDoorG04
import Derived.Shelf.Strings.Builder1
import Derived.Shelf.Strings.Builder2
import Derived.Shelf.Strings.OnBuilder
import Derived.Shelf.Strings.BuilderF
import Derived.Shelf.Strings.BuilderK
import Derived.Shelf.Strings.Builder2Cap
import Derived.Shelf.Strings.Prefix
import Derived.Shelf.Bits.Mul64
import Derived.Shelf.Strings.Repeat
import Derived.Test.YtcdjakemdlinhaaGreatDoorProg
set_option linter.unusedSimpArgs false
set_option linter.unusedVariables false
set_option linter.unusedSectionVars false
namespace Go.Proofs.YtcdjakemdlinhaaGreatDoor.Sx
open Go.ChangeShapes Go.WideShapes Go.ChangeAt Go.RowKit Go.Deep
section
variable {P : Program} {n : Nat} {W0 : Cx} {Q : XQ} {s : Slots} {U : View} {σ : Blks} {ops : Array Oper} {l : List Oper} {o : Oper}
theorem sx_M (f : FuncId) (args : Array Value) (own σF : Blks) (Φ : Value → View → Blks → Prop) (hσ : σ.Perm (own ++ σF)) (hc : ∀ W, Mem W0 U (own ++ σF) W → Calls P f args W (RetM W0 U σF Φ))
  (h : ∀ v V σ', View.le U V → Φ v V σ' → SXL P n W0 Q ops l (putS o v s) V (σ' ++ σF)) (he : enters P s o = some (f, args) := by kernel_rfl) (hd : dstOk n o = true := by kernel_rfl) (hw : wantS ops s o = some true := by kernel_rfl) : SXL P n W0 Q ops (o :: l) s U σ :=
 sx_callM f args own σF Φ hσ he hc hd hw h
theorem permK {W : World} {A B : Blks} (hp : A.Perm B) (hM : Mem W0 U σ W) (e : σ = A := by kernel_rfl) : Mem W0 U B W := (hM.eqv e).perm hp
theorem take_dropB (k : Nat) (σ : Blks) : σ = σ.take k ++ σ.drop k := (List.take_append_drop k σ).symm
theorem sx_NI (k : Nat) (h : ∀ b, SXL P n W0 Q ops l (putS o (nwV P s o b) s) U ((σ.take k ++ [(b, nwX P s o)]) ++ σ.drop k)) (hm : makes P s o = some (nwX P s o, fun r => some (nwV P s o r)) := by kernel_rfl) (hd : dstOk n o = true := by kernel_rfl) (hw : wantS ops s o = some true := by kernel_rfl) : SXL P n W0 Q ops (o :: l) s U σ :=
 sx_newR _ _ (take_dropB k σ) _ _ hm hd hw h
theorem pick_at : ∀ (k : Nat) (σ : Blks) (x : Nat × Obj), σ[k]? = some x → σ.Perm ([x] ++ σ.eraseIdx k)
 | _, [], x, h => by simp at h
 | 0, y :: σ, x, h => by
  simp only [List.getElem?_cons_zero, Option.some.injEq] at h
  subst h
  exact List.Perm.refl _
 | k + 1, y :: σ, x, h => by
  have := pick_at k σ x (by simpa using h)
  exact (this.cons y).trans (List.Perm.swap x y _)
theorem sx_MI (k : Nat) (x : Nat × Obj) (f : FuncId) (args : Array Value) (Φ : Value → View → Blks → Prop) (hc : ∀ W, Mem W0 U ([x] ++ σ.eraseIdx k) W → Calls P f args W (RetM W0 U (σ.eraseIdx k) Φ))
  (h : ∀ v V σ', View.le U V → Φ v V σ' → SXL P n W0 Q ops l (putS o v s) V (σ' ++ σ.eraseIdx k)) (hx : σ[k]? = some x := by kernel_rfl) (he : enters P s o = some (f, args) := by kernel_rfl) (hd : dstOk n o = true := by kernel_rfl) (hw : wantS ops s o = some true := by kernel_rfl) : SXL P n W0 Q ops (o :: l) s U σ :=
 sx_callM f args [x] _ Φ (pick_at k σ x hx) he hc hd hw h
theorem sx_M0 (f : FuncId) (args : Array Value) (Φ : Value → View → Blks → Prop) (hc : ∀ W, Mem W0 U ([] ++ σ) W → Calls P f args W (RetM W0 U σ Φ))
  (h : ∀ v V σ', View.le U V → Φ v V σ' → SXL P n W0 Q ops l (putS o v s) V (σ' ++ σ)) (he : enters P s o = some (f, args) := by kernel_rfl) (hd : dstOk n o = true := by kernel_rfl) (hw : wantS ops s o = some true := by kernel_rfl) : SXL P n W0 Q ops (o :: l) s U σ :=
 sx_callM f args [] _ Φ (List.Perm.refl _) he hc hd hw h
theorem retM_eq {V : View} {σ' σF : Blks} {Φ : Value → View → Blks → Prop} {v : Value} {W' : World} (hM : Mem W0 V σ W') (hl : View.le U V) (h : Φ v V σ') (hσ : σ = σ' ++ σF := by kernel_rfl) : RetM W0 U σF Φ (.returned v) W' := ⟨v, V, σ', rfl, hl, hM.eqv hσ, h⟩
theorem retM_at {V : View} {σF : Blks} {Φ : Value → View → Blks → Prop} {v : Value} {W' : World} (k m : Nat) (x : Nat × Obj) (hM : Mem W0 V σ W') (hl : View.le U V) (h : Φ v V [x]) (hx : (σ.take m)[k]? = some x := by kernel_rfl) (hF : σ.drop m = σF := by kernel_rfl) : RetM W0 U σF Φ (.returned v) W' := by
 subst hF
 refine ⟨v, V, [x], rfl, hl, hM.sub ?_, h⟩
 have h1 : [x].Sublist (σ.take m) := List.singleton_sublist.2 (List.mem_of_getElem? hx)
 have h2 := List.Sublist.append h1 (List.Sublist.refl (σ.drop m))
 rwa [List.take_append_drop] at h2
theorem sx_NR (σ1 ρ : Blks) (h : ∀ b, SXL P n W0 Q ops l (putS o (nwV P s o b) s) U ((σ1 ++ [(b, nwX P s o)]) ++ ρ)) (hσ : σ = σ1 ++ ρ := by kernel_rfl) (hm : makes P s o = some (nwX P s o, fun r => some (nwV P s o r)) := by kernel_rfl) (hd : dstOk n o = true := by kernel_rfl) (hw : wantS ops s o = some true := by kernel_rfl) : SXL P n W0 Q ops (o :: l) s U σ :=
 sx_newR σ1 ρ hσ _ _ hm hd hw h
end
theorem run_range {P : Program} {W : World} {b f z n : Nat} {ys : List Value} (h : W.rangeAt b f ys) (hl : ys.length = n * z) (c c' : Nat) : (Builtin.firstCells z n (.slice (some ⟨b, f, none⟩) c c')).run P W = .ok ys.toArray W := by
 have := run_loadCells_list (P := P) (w := W) ⟨b, f, none⟩ ys (fun j v hv => by
  have hadd : (⟨b, f, none⟩ : Addr).add j = ⟨b, f + j, none⟩ := by unfold Addr.add; split <;> simp_all
  rw [hadd]
  exact h j v hv)
 unfold Builtin.firstCells
 rw [← hl]
 exact this
theorem run_storeOwn {P : Program} {W : World} {b off : Nat} {cs ys : List Value} {t : TypeId} (hb : W.heap[b]? = some (.cells cs.toArray t (0, 0))) (hl : off + ys.length ≤ cs.length) (h1 : ∀ u ∈ ys, u.oneCell' = true) : (storeCells ⟨b, off, none⟩ ys).run P W = .ok () (W.setCells b off ys) := by
 have ht := setCells_there hb hl
 have := run_storeCells_cells (P := P) b off ys 0 W (fun j hj => by simpa using (ht j hj).1) (fun j hj => by simpa using (ht j hj).2) h1
 simpa using this
theorem add_mid (b f k : Nat) : (⟨b, f, none⟩ : Addr).add k = ⟨b, f + k, none⟩ := by unfold Addr.add; split <;> simp_all
section
variable {P : Program} {n : Nat} {W0 : Cx} {Q : XQ} {s : Slots} {U : View} {σ : Blks} {ops : Array Oper} {l : List Oper} {o : Oper}
theorem size_run {P : Program} {e : TypeId} {z : Nat} (hs : (P.info? e).map (·.size) = some z) (W : World) : (sizeOf e).run P W = .ok z W := by
 cases hq : P.info? e with
 | none => rw [hq] at hs; cases hs
 | some i =>
  rw [hq] at hs
  simp only [Option.map_some, Option.some.injEq] at hs
  simp [sizeOf, typeInfo, hq, hs]
theorem sx_cp (k b f n1 c b2 f2 n2 c2 m z : Nat) (cs ys : List Value) (e t t2 te : TypeId) (x y : Operand) (ho : o.op = .call { callee := .builtin .copy, args := #[x, y], argTypes := #[t, t2] }) (hx : evS s x = some (.slice (some ⟨b, f, none⟩) n1 c)) (hy : evS s y = some (.slice (some ⟨b2, f2, none⟩) n2 c2))
  (hk : σ[k]? = some (b, .cells cs.toArray te (0, 0))) (hm : Nat.min n2 n1 = m) (hr : ∀ W, Mem W0 U σ W → W.rangeAt b2 f2 ys) (hl : ys.length = m * z) (h1 : ∀ u ∈ ys, u.oneCell' = true) (hfit : f + ys.length ≤ cs.length)
  (hu : P.underlying t = some (.slice e)) (hs : (P.info? e).map (·.size) = some z) (hd : dstOk n o = true) (hw : wantS ops s o = some true)
  (h : SXL P n W0 Q ops l (putS o (goInt m) s) U (σ.set k (b, .cells (stCells cs f ys).toArray te (0, 0)))) : SXL P n W0 Q ops (o :: l) s U σ := by
 refine sx_op hd hw fun a W ha hM K hK => ?_
 have hb := (hM.own k b _ hk).1
 have hrun := run_range (P := P) (hr W hM) hl n2 c2
 have hst := run_storeOwn (P := P) hb hfit h1
 obtain ⟨q1, q2, q3, q4, q5, q6⟩ := setCells_heap b ys f W cs te hb hfit
 have happ : (Builtin.copy_ #[t, t2] o.type #[.slice (some ⟨b, f, none⟩) n1 c, .slice (some ⟨b2, f2, none⟩) n2 c2]).run P W = .ok (goInt m) (W.setCells b f ys) := by
  simp [Builtin.copy_, run_underlying hu, size_run hs, Builtin.lenOf, hm, hrun, hst, Result.andThen]
 unfold Oper.wp execOp
 simp only [ho, resolve, invoke, builtin, Sem.run_bind, Sem.run_pure, Result.andThen_ok, List.map_toArray, List.map_cons, List.map_nil, ev_rep ha hx, ev_rep ha hy, happ]
 exact hK _ _ _ _ _ h (putS_rep ha hd) (hM.set k b _ _ hk q4 q5 q6 q3 q1 q2)
theorem sx_clr (k b f n1 c z : Nat) (cs : List Value) (zv : Value) (e t te : TypeId) (x : Operand) (ho : o.op = .call { callee := .builtin .clear, args := #[x], argTypes := #[t] }) (hx : evS s x = some (.slice (some ⟨b, f, none⟩) (n1 + 1) c))
  (hk : σ[k]? = some (b, .cells cs.toArray te (0, 0))) (hz : ∀ W : World, (zeroValue e).run P W = .ok zv W) (hzs : zv.cells.size = z) (h1 : zv.cells.all (·.oneCell') = true) (hfit : f + (n1 + 1) * z ≤ cs.length)
  (hu : P.underlying t = some (.slice e)) (hd : dstOk n o = true) (hw : wantS ops s o = some true)
  (h : ∀ ys : List Value, ys.length = (n1 + 1) * z → SXL P n W0 Q ops l (putS o (.tuple #[]) s) U (σ.set k (b, .cells (stCells cs f ys).toArray te (0, 0)))) : SXL P n W0 Q ops (o :: l) s U σ := by
 refine sx_op hd hw fun a W ha hM K hK => ?_
 have hb := (hM.own k b _ hk).1
 have hlen : (Builtin.zeroCells zv.cells (n1 + 1)).toList.length = (n1 + 1) * z := by simp [Builtin.zeroCells, hzs]
 have hst := run_storeOwn (P := P) hb (ys := (Builtin.zeroCells zv.cells (n1 + 1)).toList) (by rw [hlen]; exact hfit) (fun u hu => by
  simp only [Builtin.zeroCells, Array.toList_map, List.mem_map] at hu
  obtain ⟨i, hi, rfl⟩ := hu
  have hi' : i < (n1 + 1) * z := by
   have := Array.mem_toList_iff.1 hi
   simp at this
   rw [hzs] at this
   exact this
  have hz0 : 0 < z := by
   rcases Nat.eq_zero_or_pos z with h | h
   · rw [h] at hi'; omega
   · exact h
  have hlt : i % zv.cells.size < zv.cells.size := Nat.mod_lt _ (by omega)
  rw [getElem!_pos zv.cells _ hlt]
  exact Array.all_eq_true.1 h1 _ hlt)
 obtain ⟨q1, q2, q3, q4, q5, q6⟩ := setCells_heap b _ f W cs te hb (by rw [hlen]; exact hfit)
 have happ : (Builtin.clear_ #[t] o.type #[.slice (some ⟨b, f, none⟩) (n1 + 1) c]).run P W = .ok (.tuple #[]) (W.setCells b f (Builtin.zeroCells zv.cells (n1 + 1)).toList) := by
  simp [Builtin.clear_, run_underlying hu, hz, hst, Result.andThen]
 unfold Oper.wp execOp
 simp only [ho, resolve, invoke, builtin, Sem.run_bind, Sem.run_pure, Result.andThen_ok, List.map_toArray, List.map_cons, List.map_nil, ev_rep ha hx, happ]
 exact hK _ _ _ _ _ (h _ hlen) (putS_rep ha hd) (hM.set k b _ _ hk q4 q5 q6 q3 q1 q2)
end
def bndIs (s : Slots) (x : Option Operand) (d v : Nat) : Prop := match x with
 | some y => evS s y = some (.int .i64 (v : Int))
 | none => v = d
theorem run_sl {P : Program} {s : Slots} {o : Oper} (t e : TypeId) (x : Operand) (lo hi mx : Option Operand) (ho : o.op = .slice t x lo hi mx) (b f len cap l h m z n' c' f' : Nat) (hx : evS s x = some (.slice (some ⟨b, f, none⟩) len cap))
  (hl : bndIs s lo 0 l) (hh : bndIs s hi len h) (hm : bndIs s mx cap m) (hn : mx.isSome = true → hi.isSome = true) (h1 : l ≤ h) (h2 : h ≤ m) (h3 : m ≤ cap) (en : h - l = n') (ec : m - l = c') (ef : (if m = l then f else f + l * z) = f')
  (hu : P.underlying t = some (.slice e)) (hs : (P.info? e).map (·.size) = some z) (W : World) : (execOp (ev s) o).run P W = .ok (.value (.slice (some ⟨b, f', none⟩) n' c')) W := by
 have hz := size_run hs W
 have bd : ∀ (v y : Nat) (c : BoundsCode), v ≤ y → (Instr.sliceBound (.int .i64 (v : Int)) y c).run P W = .ok v W := fun v y c hv => by
  simp [Instr.sliceBound, asIntOf, Result.andThen]
  intro hc
  omega
 have key : (Instr.slice t (.slice (some ⟨b, f, none⟩) len cap) (lo.map (ev s)) (hi.map (ev s)) (mx.map (ev s))).run P W = .ok (.slice (some ⟨b, f', none⟩) n' c') W := by
  have hb : (Instr.sliceBounds true len cap (lo.map (ev s)) (hi.map (ev s)) (mx.map (ev s))).run P W = .ok (l, h, m) W := by
   unfold bndIs at hl hh hm
   cases mx with
   | some mo =>
    cases hi with
    | none => exact absurd (hn rfl) (by simp)
    | some ho' =>
     cases lo with
     | some lo' => simp [Instr.sliceBounds, ev_of hl, ev_of hh, ev_of hm, bd _ _ _ h1, bd _ _ _ h2, bd _ _ _ h3, Result.andThen]
     | none => simp only at hl; subst hl; simp [Instr.sliceBounds, ev_of hh, ev_of hm, bd _ _ _ h2, bd _ _ _ h3, Result.andThen]
   | none =>
    simp only at hm
    subst hm
    cases hi with
    | none =>
     simp only at hh
     subst hh
     cases lo with
     | some lo' => simp [Instr.sliceBounds, ev_of hl, bd _ _ _ h1, Result.andThen]
     | none => simp only at hl; subst hl; simp [Instr.sliceBounds, Result.andThen]
    | some ho' =>
     cases lo with
     | some lo' => simp [Instr.sliceBounds, ev_of hl, ev_of hh, bd _ _ _ h1, bd _ _ _ h2, Result.andThen]
     | none => simp only at hl; subst hl; simp [Instr.sliceBounds, ev_of hh, bd _ _ _ h2, Result.andThen]
  simp only [Instr.slice, Sem.run_bind, run_underlying hu, Result.andThen_ok, hb, hz, Sem.run_pure]
  subst en ec ef
  split <;> simp [add_mid]
 have key2 : (Instr.sliceAt t (.slice (some ⟨b, f, none⟩) len cap) (lo.map (ev s)) (hi.map (ev s)) (mx.map (ev s))).run P W = .ok (.slice (some ⟨b, f', none⟩) n' c') W := by
  simp only [Instr.sliceAt, Sem.run_bind, run_underlying hu, Result.andThen_ok, key]
 unfold execOp
 simp only [ho, ev_of hx, Sem.run_bind, key2, Result.andThen_ok, Sem.run_pure]
theorem Mem.freezeHead {W0 : Cx} {U : View} {σF : Blks} {W : World} {b : Nat} {cs : List Value} {t : TypeId} (h : Mem W0 U ((b, .cells cs.toArray t (0, 0)) :: σF) W) : ∃ V, View.le U V ∧ V.range b 0 cs ∧ Mem W0 V σF W := by
 have hs : Mem W0 U σF W := h.sub (List.sublist_cons_self _ _)
 obtain ⟨q1, q2, _⟩ := h.own 0 b _ rfl
 exact hs.addView q1 q2 fun k x hx he => by
  have := h.apart 0 (k + 1) (b, .cells cs.toArray t (0, 0)) x rfl (by simpa using hx) he.symm
  cases this
end Go.Proofs.YtcdjakemdlinhaaGreatDoor.Sx
namespace Go.Proofs
open Go.Shelf
def Tryz.lays105_ren : Go.Shelf.Ren := ⟨fun | 105 => 246 | 212 => 253 | 99 => 254 | 165 => 255 | 166 => 256 | 170 => 257 | 169 => 258 | 263 => 263 | 264 => 264 | 206 => 236 | 240 => 265 | 241 => 266 | 276 => 269 | 277 => 270 | n => n, fun | 9 => 9 | 3 => 3 | 4 => 4 | 20 => 20 | 0 => 0 | 46 => 248 | 109 => 317 | 5 => 5 | 72 => 321 | 76 => 252 | 51 => 263 | 146 => 328 | 53 => 22 | 148 => 330 | 70 => 319 | 37 => 160 | 75 => 208 | 127 => 332 | 164 => 335 | 80 => 324 | n => n, fun | n => n⟩
theorem Tryz.lays105 : Go.Proofs.Lays.n105 Tryz.prog Tryz.lays105_ren := {
 mixed := by kernel_rfl
 f99 := Tryz.func254.trans (congrArg some (by kernel_rfl))
 f105 := Tryz.func246.trans (congrArg some (by kernel_rfl))
 f165 := Tryz.func255.trans (congrArg some (by kernel_rfl))
 f166 := Tryz.func256.trans (congrArg some (by kernel_rfl))
 f169 := Tryz.func258.trans (congrArg some (by kernel_rfl))
 f170 := Tryz.func257.trans (congrArg some (by kernel_rfl))
 f206 := Tryz.func236.trans (congrArg some (by kernel_rfl))
 f212 := Tryz.func253.trans (congrArg some (by kernel_rfl))
 f240 := Tryz.func265.trans (congrArg some (by kernel_rfl))
 f241 := Tryz.func266.trans (congrArg some (by kernel_rfl))
 f263 := Tryz.func263.trans (congrArg some (by kernel_rfl))
 f264 := Tryz.func264.trans (congrArg some (by kernel_rfl))
 f276 := Tryz.func269.trans (congrArg some (by kernel_rfl))
 f277 := Tryz.func270.trans (congrArg some (by kernel_rfl))
 t0 := Tryz.underlying0
 a0 := Tryz.isAgg0
 z0 := Tryz.sizeOf0
 v0 := Tryz.zeroValue0
 t3 := Tryz.underlying3
 a3 := Tryz.isAgg3
 z3 := Tryz.sizeOf3
 v3 := Tryz.zeroValue3
 t4 := Tryz.underlying4
 a4 := Tryz.isAgg4
 z4 := Tryz.sizeOf4
 v4 := Tryz.zeroValue4
 t5 := Tryz.underlying5
 a5 := Tryz.isAgg5
 z5 := Tryz.sizeOf5
 v5 := Tryz.zeroValue5
 t9 := Tryz.underlying9
 a9 := Tryz.isAgg9
 z9 := Tryz.sizeOf9
 v9 := Tryz.zeroValue9
 t20 := Tryz.underlying20
 a20 := Tryz.isAgg20
 z20 := Tryz.sizeOf20
 v20 := Tryz.zeroValue20
 t37 := Tryz.underlying160
 a37 := Tryz.isAgg160
 z37 := Tryz.sizeOf160
 v37 := Tryz.zeroValue160
 t46 := Tryz.underlying248
 a46 := Tryz.isAgg248
 z46 := Tryz.sizeOf248
 v46 := Tryz.zeroValue248
 t51 := Tryz.underlying263
 a51 := Tryz.isAgg263
 z51 := Tryz.sizeOf263
 v51 := Tryz.zeroValue263
 t53 := Tryz.underlying22
 a53 := Tryz.isAgg22
 z53 := Tryz.sizeOf22
 v53 := Tryz.zeroValue22
 t70 := Tryz.underlying319
 a70 := Tryz.isAgg319
 z70 := Tryz.sizeOf319
 v70 := Tryz.zeroValue319
 t72 := Tryz.underlying321
 a72 := Tryz.isAgg321
 z72 := Tryz.sizeOf321
 v72 := Tryz.zeroValue321
 t75 := Tryz.underlying208
 a75 := Tryz.isAgg208
 z75 := Tryz.sizeOf208
 v75 := Tryz.zeroValue208
 t76 := Tryz.underlying252
 a76 := Tryz.isAgg252
 z76 := Tryz.sizeOf252
 v76 := Tryz.zeroValue252
 t109 := Tryz.underlying317
 a109 := Tryz.isAgg317
 z109 := Tryz.sizeOf317
 v109 := Tryz.zeroValue317
 t127 := Tryz.underlying332
 a127 := Tryz.isAgg332
 z127 := Tryz.sizeOf332
 v127 := Tryz.zeroValue332
 t146 := Tryz.underlying328
 a146 := Tryz.isAgg328
 z146 := Tryz.sizeOf328
 v146 := Tryz.zeroValue328
 t148 := Tryz.underlying330
 a148 := Tryz.isAgg330
 z148 := Tryz.sizeOf330
 v148 := Tryz.zeroValue330
 t164 := Tryz.underlying335
 a164 := Tryz.isAgg335
 z164 := Tryz.sizeOf335
 v164 := Tryz.zeroValue335 }
theorem Tryz.Builder_Extra_105 : Builder.Extra Tryz.prog Tryz.lays105_ren := {
 sizeBuilder := by kernel_rfl
 liesBuilder := by kernel_rfl
 t5 := Tryz.underlying5
 a5 := Tryz.isAgg5
 z5 := Tryz.sizeOf5
 v5 := Tryz.zeroValue5
 infoByte := by kernel_rfl
 cellsByte := by kernel_rfl
 sizeByte := by kernel_rfl
 neB5 := by decide }
open Go.RowKit Go.Lib in
theorem Tryz.strings_Repeat (s : ByteArray) (c : Nat) (w : World) (hc : c ≤ 9223372036854775807) (hlen : s.size * c ≤ 140737488355328) :
  Calls Tryz.prog 246 #[.string s, .int .i64 c] w fun e w' => e = .returned (.string ⟨(Lib.repeatL s.data.toList c).toArray⟩) ∧ Below w.heap.size w w' := Any.strings_Repeat Tryz.lays105 Tryz.Builder_Extra_105 s c w hc hlen
end Go.Proofs
namespace Go.Proofs.YtcdjakemdlinhaaGreatDoor.Sx
open Go.ChangeShapes Go.WideShapes Go.ChangeAt Go.RowKit Go.Deep
theorem cloneIt_any {U : View} {w : World} (hU : ∀ a v, U a = some v → w.cell? a = some v) (b f n c : Nat) (xs : List Value) (hr : U.range b f xs) (hl : xs.length = n * 5) (h1 : ∀ u ∈ xs, u.oneCell' = true) (hn : 0 < n) (h47 : n * 64 ≤ 140737488355328) :
    Calls Tryz.prog 251 #[.slice (some ⟨b, f, none⟩) n c] w (RetR w 89 5 n xs) := by
 refine sx_enter (f := 251) 8 U Tryz.func251 rfl rfl rfl hU ?_
 refine zQ 1 (zn (zs (zQ 1 (sx_R (.bool false) (run_nileq _ _ _ _ rfl (some ⟨b,f,none⟩) n c 89 (by kernel_rfl) (by kernel_rfl) (by kernel_rfl)) ?_))))
 refine zn (sx_F (zk (zs (zr (sx_N (fun b0 => (zq 1 ?_)))))))
 refine sx_appE (Rw.row b0 0 []) [] 0 [] 89 87 5 64 n (by kernel_rfl) ⟨rfl,rfl,Nat.le_refl _,by decide⟩ (.tmp 5) (.tmp 6) rfl (by kernel_rfl) b f c xs (by kernel_rfl) (fun W hM => View.range_of hr hM.view) hl h1 hn (by unfold maxLen; omega) (by omega) (by kernel_rfl) (by kernel_rfl) (by kernel_rfl) (by kernel_rfl) (by kernel_rfl) (fun r1 hr1 => ?_)
 refine zq 1 (zn (sx_ret (sx_Z [2] [(r1.V (0 + n))] (fun W' hM => ?_))))
 have := retR_of hM hr1 (by omega)
 simp only [resV]
 rw [Nat.zero_add,List.nil_append] at this
 rw [Nat.zero_add]
 exact this
theorem cloneBk_any {U : View} {w : World} (hU : ∀ a v, U a = some v → w.cell? a = some v) (b f n c : Nat) (xs : List Value) (hr : U.range b f xs) (hl : xs.length = n * 5) (h1 : ∀ u ∈ xs, u.oneCell' = true) (hn : 0 < n) (h47 : n * 48 ≤ 140737488355328) :
    Calls Tryz.prog 92 #[.slice (some ⟨b, f, none⟩) n c] w (RetR w 38 5 n xs) := by
 refine sx_enter (f := 92) 8 U Tryz.func92 rfl rfl rfl hU ?_
 refine zQ 1 (zn (zs (zQ 1 (sx_R (.bool false) (run_nileq _ _ _ _ rfl (some ⟨b,f,none⟩) n c 38 (by kernel_rfl) (by kernel_rfl) (by kernel_rfl)) ?_))))
 refine zn (sx_F (zk (zs (zr (sx_N (fun b0 => (zq 1 ?_)))))))
 refine sx_appE (Rw.row b0 0 []) [] 0 [] 38 27 5 48 n (by kernel_rfl) ⟨rfl,rfl,Nat.le_refl _,by decide⟩ (.tmp 5) (.tmp 6) rfl (by kernel_rfl) b f c xs (by kernel_rfl) (fun W hM => View.range_of hr hM.view) hl h1 hn (by unfold maxLen; omega) (by omega) (by kernel_rfl) (by kernel_rfl) (by kernel_rfl) (by kernel_rfl) (by kernel_rfl) (fun r1 hr1 => ?_)
 refine zq 1 (zn (sx_ret (sx_Z [2] [(r1.V (0 + n))] (fun W' hM => ?_))))
 have := retR_of hM hr1 (by omega)
 simp only [resV]
 rw [Nat.zero_add,List.nil_append] at this
 rw [Nat.zero_add]
 exact this
def Z (n : Nat) : List UInt8 := List.replicate n 0
theorem Z_length (n : Nat) : (Z n).length = n := List.length_replicate
theorem repeat_Z (c : Nat) : Lib.repeatL [0] c = Z c := by
 unfold Z
 induction c with
 | zero => rfl
 | succ n ih => simp [Lib.repeatL, ih, List.replicate_succ]
theorem Repeat_any (c : Nat) (w : World) (hc : c ≤ 1000) : Calls Tryz.prog 246 #[.string (B [0]), .int .i64 c] w (Ret (.string (B (Z c))) w) := by
 have h := Tryz.strings_Repeat ⟨#[0]⟩ c w (by omega) (by show 1 * c ≤ _; omega)
 rw [show (⟨#[0]⟩ : ByteArray).data.toList = [0] from rfl, repeat_Z] at h
 exact h
theorem TsAt.ofRow {V : View} {a : Option Addr} {xs : List Value} (L : List (Itm.Tr × List Value)) (hr : RowAt V a xs) (hxs : xs = L.flatMap Prod.snd) (h : AllTV V L) (l : List Itm.Tr) (hl : L.map Prod.fst = l) (hlen : l.length ≤ R47) : TsAt V a l := by
 subst hxs hl
 refine ⟨fun i x hx => ?_, hlen⟩
 have hne : L.flatMap Prod.snd ≠ [] := by
  intro he
  have := h.flat_len
  rw [he] at this
  cases L with
  | nil => simp at hx
  | cons p r => simp at this
 obtain ⟨b, rfl, hR⟩ := hr.at_ hne
 obtain ⟨cs, h1, h2⟩ := h.get hR i x hx
 exact ⟨b, 0, cs, rfl, h1, h2⟩
def ItemOf (t : Itm.Tr) : Value → View → Prop := fun v V => ∃ cs, v = .agg cs.toArray ∧ TV V t cs
def isFrag (f : Nat) : Bool := andI .u64 f 1 != 0
def prItems (p : Pr) (sum : List UInt8) : List Itm.Tr :=
 [Itm.numT 7, Itm.numT p.f, Itm.numT p.c.toNat, p.dst.tree, p.src.tree, p.rpt.tree, Itm.arrT [Itm.numT p.time, Itm.numT p.seq], Itm.numT p.life] ++ (if isFrag p.f then [Itm.numT p.off, Itm.numT p.tot] else []) ++ (if p.c != 0 then [strT sum] else [])
set_option maxHeartbeats 16000000 in
theorem pParts_any (p : Pr) (sum : List UInt8) (w : World) {U : View} (hU : ∀ a v, U a = some v → w.cell? a = some v) (hp : p.ok) (hs : sum.length ≤ R47) (hc0 : 0 ≤ p.c) (hc2 : p.c ≤ 2) (hd : eiRight p.dst = true) (hr : eiRight p.src = true) (ht : eiRight p.rpt = true) :
    Calls Tryz.prog 245 #[p.V, .string (B sum)] w (RetN w U (ItemOf (Itm.arrT (prItems p sum)))) := by
 have hf := hp.f
 have h1 := hp.time
 have h2 := hp.seq
 have h3 := hp.life
 have h4 := hp.off
 have h5 := hp.tot
 have hcw : IntKind.u64.wrap p.c = (p.c.toNat : Int) := by
  have := u64_in (x := p.c) (by omega) (by omega)
  omega
 have hcn : p.c.toNat < W64 := by unfold W64; omega
 refine sx_enter (f := 245) 76 U Tryz.func245 rfl rfl rfl hU ?_
 refine zs (zr (sx_N (fun b0 => (sx_N (fun b1 => (zn (zB [0,1] [(b0,4)] (sx_O 177 #[(.agg #[(I6 p.dst.s),(St p.dst.l),(N6 p.dst.n),(N6 p.dst.v)])] (ItemIs p.dst.tree 0) (fun W hM => eItem_any p.dst W hM.view hp.dst hd) (fun v2 V2 hV2 hP2 => ?_)))))))))
 obtain ⟨cs2,rfl,ht2⟩ := hP2
 obtain ⟨a2,c2,rfl,hts2,hn2,hs2,hl2⟩ := ht2.form
 refine zq 3 (sx_N (fun b3 => (sx_S 2 b3 (zq 1 (zn (zB [0,1] [(b0,4)] (sx_O 177 #[(.agg #[(I6 p.src.s),(St p.src.l),(N6 p.src.n),(N6 p.src.v)])] (ItemIs p.src.tree 0) (fun W hM => eItem_any p.src W hM.view hp.src hr) (fun v4 V4 hV4 hP4 => ?_))))))))
 have k6 := ht2.le hV4
 obtain ⟨cs4,rfl,ht4⟩ := hP4
 obtain ⟨a4,c4,rfl,hts4,hn4,hs4,hl4⟩ := ht4.form
 refine zq 3 (sx_N (fun b7 => (sx_S 3 b7 (zq 1 (zn (zB [0,1] [(b0,4)] (sx_O 177 #[(.agg #[(I6 p.rpt.s),(St p.rpt.l),(N6 p.rpt.n),(N6 p.rpt.v)])] (ItemIs p.rpt.tree 0) (fun W hM => eItem_any p.rpt W hM.view hp.rpt ht) (fun v8 V8 hV8 hP8 => ?_))))))))
 have k11 := k6.le hV8
 have k12 := ht4.le hV8
 obtain ⟨cs8,rfl,ht8⟩ := hP8
 obtain ⟨a8,c8,rfl,hts8,hn8,hs8,hl8⟩ := ht8.form
 refine zq 3 (sx_N (fun b13 => (sx_S 4 b13 (zq 1 (zn (zs ?_))))))
 refine sx_drawnQ 22 2 4 [30,31,32,33,34,35,36,37,38,39,40,41,42,43,44,45,46,47,48,49,50,51] [.val (.agg #[(I6 0),(U6 7),(St []),S0,(.bool false)]),.val (Pt b0 0),.val (N6 p.f),.val (.agg #[(I6 0),(N6 p.f),(St []),S0,(.bool false)]),.val (Pt b0 1),.val (I6 p.c),.val (N6 p.c.toNat),.val (.agg #[(I6 0),(N6 p.c.toNat),(St []),S0,(.bool false)]),.val (.agg #[(I6 p.dst.tree.k),(N6 p.dst.tree.n),(St p.dst.tree.s),(.slice a2 p.dst.tree.l.length c2),(.bool p.dst.tree.o)]),.val (.agg #[(I6 p.src.tree.k),(N6 p.src.tree.n),(St p.src.tree.s),(.slice a4 p.src.tree.l.length c4),(.bool p.src.tree.o)]),.val (.agg #[(I6 p.rpt.tree.k),(N6 p.rpt.tree.n),(St p.rpt.tree.s),(.slice a8 p.rpt.tree.l.length c8),(.bool p.rpt.tree.o)]),.val (Pt b0 14),.val (N6 p.time),.val (.agg #[(I6 0),(N6 p.time),(St []),S0,(.bool false)]),.val (Pt b0 15),.val (N6 p.seq),.val (.agg #[(I6 0),(N6 p.seq),(St []),S0,(.bool false)]),.mem (fun v V => ∃ g,v = (Sl g 0 2 2) ∧ TsAt V (some ⟨g,0,none⟩) [(Itm.numT p.time),(Itm.numT p.seq)]),.mem (fun v V => ∃ g,v = (.agg #[.int .i64 4,.int .u64 0,.string (B []),.slice (some ⟨g,0,none⟩) 2 2,.bool false]) ∧ TsAt V (some ⟨g,0,none⟩) [(Itm.numT p.time),(Itm.numT p.seq)]),.val (Pt b0 16),.val (N6 p.life),.val (.agg #[(I6 0),(N6 p.life),(St []),S0,(.bool false)])] (by kernel_rfl) rfl rfl (by kernel_rfl) (by kernel_rfl) (by kernel_rfl) (by kernel_rfl) (by kernel_rfl) (by kernel_rfl) (by simp only [List.forall_mem_cons]; exact ⟨trivial,trivial,trivial,trivial,trivial,trivial,trivial,trivial,trivial,trivial,trivial,trivial,trivial,trivial,trivial,trivial,trivial,by intro v V V2 hV2 hP; (first | exact PhiMono.go hP hV2 | (obtain ⟨g,e,hP⟩ := hP; exact ⟨g,e,hP.le hV2⟩)),by intro v V V2 hV2 hP; (first | exact PhiMono.go hP hV2 | (obtain ⟨g,e,hP⟩ := hP; exact ⟨g,e,hP.le hV2⟩)),trivial,trivial,trivial,fun _ h => by cases h⟩) ⟨?_,?_,?_,?_,?_,?_,?_,?_,?_,?_,?_,?_,?_,?_,?_,?_,?_,?_,?_,?_,?_,?_,trivial⟩ [1,2,4,30,33,37,38,39,40,48,51] (fun u => [(St sum),(Pt b0 0),(Pt b1 0),(.agg #[(I6 0),(U6 7),(St []),S0,(.bool false)]),(.agg #[(I6 0),(N6 p.f),(St []),S0,(.bool false)]),(.agg #[(I6 0),(N6 p.c.toNat),(St []),S0,(.bool false)]),(.agg #[(I6 p.dst.tree.k),(N6 p.dst.tree.n),(St p.dst.tree.s),(.slice a2 p.dst.tree.l.length c2),(.bool p.dst.tree.o)]),(.agg #[(I6 p.src.tree.k),(N6 p.src.tree.n),(St p.src.tree.s),(.slice a4 p.src.tree.l.length c4),(.bool p.src.tree.o)]),(.agg #[(I6 p.rpt.tree.k),(N6 p.rpt.tree.n),(St p.rpt.tree.s),(.slice a8 p.rpt.tree.l.length c8),(.bool p.rpt.tree.o)]),u 18,(.agg #[(I6 0),(N6 p.life),(St []),S0,(.bool false)])]) (fun u => by kernel_rfl) ?_
 ·
  refine oqV 0 40 rfl rfl (.agg #[(I6 0),(U6 7),(St []),S0,(.bool false)]) rfl [] (fun u => []) (fun u => by kernel_rfl) (fun u V hV hd => ?_)
  refine ⟨#[(U6 7)],by kernel_rfl,fun W hW => ?_⟩
  exact iNum_any _ W
 · exact oqQ 1 rfl (Pt b0 0) (Pt b0 0) rfl rfl (fun u => by kernel_rfl) (fun u => by kernel_rfl)
 · exact oqL 2 0 b0 1 p.cs 26 rfl (N6 p.f) rfl (by kernel_rfl) (fun u => by kernel_rfl) (fun u => by kernel_rfl)
 ·
  refine oqV 3 40 rfl rfl (.agg #[(I6 0),(N6 p.f),(St []),S0,(.bool false)]) rfl [32] (fun u => [(N6 p.f)]) (fun u => by kernel_rfl) (fun u V hV hd => ?_)
  refine ⟨#[(N6 p.f)],by kernel_rfl,fun W hW => ?_⟩
  exact iNum_any _ W
 · exact oqQ 4 rfl (Pt b0 1) (Pt b0 1) rfl rfl (fun u => by kernel_rfl) (fun u => by kernel_rfl)
 · exact oqL 5 0 b0 1 p.cs 26 rfl (I6 p.c) rfl (by kernel_rfl) (fun u => by kernel_rfl) (fun u => by kernel_rfl)
 · exact oqQ 6 rfl (U6 (IntKind.u64.wrap p.c)) (N6 p.c.toNat) (congrArg (Value.int .u64) hcw) rfl (fun u => by kernel_rfl) (fun u => by kernel_rfl)
 ·
  refine oqV 7 40 rfl rfl (.agg #[(I6 0),(N6 p.c.toNat),(St []),S0,(.bool false)]) rfl [36] (fun u => [(N6 p.c.toNat)]) (fun u => by kernel_rfl) (fun u V hV hd => ?_)
  refine ⟨#[(N6 p.c.toNat)],by kernel_rfl,fun W hW => ?_⟩
  exact iNum_any _ W
 · exact oqL 8 2 b3 5 [(I6 p.dst.tree.k),(N6 p.dst.tree.n),(St p.dst.tree.s),(.slice a2 p.dst.tree.l.length c2),(.bool p.dst.tree.o)] 89 rfl (.agg #[(I6 p.dst.tree.k),(N6 p.dst.tree.n),(St p.dst.tree.s),(.slice a2 p.dst.tree.l.length c2),(.bool p.dst.tree.o)]) rfl (by kernel_rfl) (fun u => by kernel_rfl) (fun u => by kernel_rfl)
 · exact oqL 9 3 b7 5 [(I6 p.src.tree.k),(N6 p.src.tree.n),(St p.src.tree.s),(.slice a4 p.src.tree.l.length c4),(.bool p.src.tree.o)] 89 rfl (.agg #[(I6 p.src.tree.k),(N6 p.src.tree.n),(St p.src.tree.s),(.slice a4 p.src.tree.l.length c4),(.bool p.src.tree.o)]) rfl (by kernel_rfl) (fun u => by kernel_rfl) (fun u => by kernel_rfl)
 · exact oqL 10 4 b13 5 [(I6 p.rpt.tree.k),(N6 p.rpt.tree.n),(St p.rpt.tree.s),(.slice a8 p.rpt.tree.l.length c8),(.bool p.rpt.tree.o)] 89 rfl (.agg #[(I6 p.rpt.tree.k),(N6 p.rpt.tree.n),(St p.rpt.tree.s),(.slice a8 p.rpt.tree.l.length c8),(.bool p.rpt.tree.o)]) rfl (by kernel_rfl) (fun u => by kernel_rfl) (fun u => by kernel_rfl)
 · exact oqQ 11 rfl (Pt b0 14) (Pt b0 14) rfl rfl (fun u => by kernel_rfl) (fun u => by kernel_rfl)
 · exact oqL 12 0 b0 1 p.cs 26 rfl (N6 p.time) rfl (by kernel_rfl) (fun u => by kernel_rfl) (fun u => by kernel_rfl)
 ·
  refine oqV 13 40 rfl rfl (.agg #[(I6 0),(N6 p.time),(St []),S0,(.bool false)]) rfl [42] (fun u => [(N6 p.time)]) (fun u => by kernel_rfl) (fun u V hV hd => ?_)
  refine ⟨#[(N6 p.time)],by kernel_rfl,fun W hW => ?_⟩
  exact iNum_any _ W
 · exact oqQ 14 rfl (Pt b0 15) (Pt b0 15) rfl rfl (fun u => by kernel_rfl) (fun u => by kernel_rfl)
 · exact oqL 15 0 b0 1 p.cs 26 rfl (N6 p.seq) rfl (by kernel_rfl) (fun u => by kernel_rfl) (fun u => by kernel_rfl)
 ·
  refine oqV 16 40 rfl rfl (.agg #[(I6 0),(N6 p.seq),(St []),S0,(.bool false)]) rfl [45] (fun u => [(N6 p.seq)]) (fun u => by kernel_rfl) (fun u V hV hd => ?_)
  refine ⟨#[(N6 p.seq)],by kernel_rfl,fun W hW => ?_⟩
  exact iNum_any _ W
 ·
  refine oqN 17 rfl rfl (fun v V => ∃ g,v = (Sl g 0 2 2) ∧ TsAt V (some ⟨g,0,none⟩) [(Itm.numT p.time),(Itm.numT p.seq)]) rfl [43,46] (fun u => [(.agg #[(I6 0),(N6 p.time),(St []),S0,(.bool false)]),(.agg #[(I6 0),(N6 p.seq),(St []),S0,(.bool false)])]) (fun u => by kernel_rfl) (fun u V hV hd => ?_)
  refine ⟨[(I6 0),(N6 p.time),(St []),S0,(.bool false),(I6 0),(N6 p.seq),(St []),S0,(.bool false)],89,fun r => (Sl r 0 2 2),?_,fun g V' hV' hR => ?_⟩
  · kernel_rfl
  exact ⟨g,rfl,TsAt.lit [((Itm.numT p.time),[(I6 0),(N6 p.time),(St []),S0,(.bool false)]),((Itm.numT p.seq),[(I6 0),(N6 p.seq),(St []),S0,(.bool false)])] hR ⟨((TV.num _ p.time (by first | assumption | decide | (unfold W64; omega))).le hV).le hV',((TV.num _ p.seq (by first | assumption | decide | (unfold W64; omega))).le hV).le hV',trivial⟩ (show 2 ≤ R47 by decide)⟩
 ·
  refine oqM 18 178 rfl rfl (fun v V => ∃ g,v = (.agg #[.int .i64 4,.int .u64 0,.string (B []),.slice (some ⟨g,0,none⟩) 2 2,.bool false]) ∧ TsAt V (some ⟨g,0,none⟩) [(Itm.numT p.time),(Itm.numT p.seq)]) rfl [47] (fun u => [u 17]) (fun u => by kernel_rfl) (fun u V hV hd => ?_)
  have e17 : (fun v V => ∃ g,v = (Sl g 0 2 2) ∧ TsAt V (some ⟨g,0,none⟩) [(Itm.numT p.time),(Itm.numT p.seq)]) (u 17) V := hd 17 (by kernel_rfl)
  obtain ⟨g17,q17,t17⟩ := e17
  refine ⟨#[u 17],by kernel_rfl,fun W hW => ?_⟩
  rw [q17]
  exact Calls.retN hW (iList_any _ _ _ W) ⟨g17,rfl,t17⟩
 · exact oqQ 19 rfl (Pt b0 16) (Pt b0 16) rfl rfl (fun u => by kernel_rfl) (fun u => by kernel_rfl)
 · exact oqL 20 0 b0 1 p.cs 26 rfl (N6 p.life) rfl (by kernel_rfl) (fun u => by kernel_rfl) (fun u => by kernel_rfl)
 ·
  refine oqV 21 40 rfl rfl (.agg #[(I6 0),(N6 p.life),(St []),S0,(.bool false)]) rfl [50] (fun u => [(N6 p.life)]) (fun u => by kernel_rfl) (fun u V hV hd => ?_)
  refine ⟨#[(N6 p.life)],by kernel_rfl,fun W hW => ?_⟩
  exact iNum_any _ W
 intro u14 V14 hV14 hd14
 have k18 := k11.le hV14
 have k19 := k12.le hV14
 have k20 := ht8.le hV14
 have k21 := (TV.num _ 7 (by first | assumption | decide | (unfold W64; omega))).le hV14
 have k22 := (TV.num _ p.f (by first | assumption | decide | (unfold W64; omega))).le hV14
 have k23 := (TV.num _ p.c.toNat (by first | assumption | decide | (unfold W64; omega))).le hV14
 have k26 := (TV.num _ p.life (by first | assumption | decide | (unfold W64; omega))).le hV14
 have e18_14 : (fun v V => ∃ g,v = (.agg #[.int .i64 4,.int .u64 0,.string (B []),.slice (some ⟨g,0,none⟩) 2 2,.bool false]) ∧ TsAt V (some ⟨g,0,none⟩) [(Itm.numT p.time),(Itm.numT p.seq)]) (u14 18) V14 := hd14 18 (by decide)
 obtain ⟨g18_14,q18_14,t18_14⟩ := e18_14
 rw [q18_14]
 refine sx_N (fun b27 => ?_)
 have hAb27 : AllTV V14 [((Itm.numT 7),[(I6 0),(U6 7),(St []),S0,(.bool false)]),((Itm.numT p.f),[(I6 0),(N6 p.f),(St []),S0,(.bool false)]),((Itm.numT p.c.toNat),[(I6 0),(N6 p.c.toNat),(St []),S0,(.bool false)]),(p.dst.tree,[(I6 p.dst.tree.k),(N6 p.dst.tree.n),(St p.dst.tree.s),(.slice a2 p.dst.tree.l.length c2),(.bool p.dst.tree.o)]),(p.src.tree,[(I6 p.src.tree.k),(N6 p.src.tree.n),(St p.src.tree.s),(.slice a4 p.src.tree.l.length c4),(.bool p.src.tree.o)]),(p.rpt.tree,[(I6 p.rpt.tree.k),(N6 p.rpt.tree.n),(St p.rpt.tree.s),(.slice a8 p.rpt.tree.l.length c8),(.bool p.rpt.tree.o)]),((Itm.arrT [(Itm.numT p.time),(Itm.numT p.seq)]),[(I6 4),(U6 0),(St []),(Sl g18_14 0 2 2),(.bool false)]),((Itm.numT p.life),[(I6 0),(N6 p.life),(St []),S0,(.bool false)])] := ⟨k21,k22,k23,k18,k19,k20,(TV.list 2 t18_14),k26,trivial⟩
 refine zq 1 (zn (zs (zB [0,1,0,0] [(b0,1)] (zn (sx_D ((andI .u64 (p.f : Int) 1) != 0) (fun h0 => ?_) (fun h0 => ?_))))))
 ·
  have h0d := bne_iff_ne.1 h0
  refine sx_drawnQ 8 2 3 [57,58,59,60,61,62,63,64] [.val ((Rw.row b27 8 []).V 8),.val (Pt b0 17),.val (N6 p.off),.val (.agg #[(I6 0),(N6 p.off),(St []),S0,(.bool false)]),.val (Pt b0 18),.val (N6 p.tot),.val (.agg #[(I6 0),(N6 p.tot),(St []),S0,(.bool false)]),.mem (fun v V => ∃ g,v = (Sl g 0 2 2) ∧ TsAt V (some ⟨g,0,none⟩) [(Itm.numT p.off),(Itm.numT p.tot)])] (by kernel_rfl) rfl rfl (by kernel_rfl) (by kernel_rfl) (by kernel_rfl) (by kernel_rfl) (by kernel_rfl) (by kernel_rfl) (by simp only [List.forall_mem_cons]; exact ⟨trivial,trivial,trivial,trivial,trivial,trivial,trivial,by intro v V V2 hV2 hP; (first | exact PhiMono.go hP hV2 | (obtain ⟨g,e,hP⟩ := hP; exact ⟨g,e,hP.le hV2⟩)),fun _ h => by cases h⟩) ⟨?_,?_,?_,?_,?_,?_,?_,?_,trivial⟩ [1,2,4,11,57,64] (fun u => [(St sum),(Pt b0 0),(Pt b1 0),((Rw.row b27 8 []).V 8),((Rw.row b27 8 []).V 8),u 7]) (fun u => by kernel_rfl) ?_
  · exact oqQ 0 rfl ((Rw.row b27 8 []).V 8) ((Rw.row b27 8 []).V 8) rfl rfl (fun u => by kernel_rfl) (fun u => by kernel_rfl)
  · exact oqQ 1 rfl (Pt b0 17) (Pt b0 17) rfl rfl (fun u => by kernel_rfl) (fun u => by kernel_rfl)
  · exact oqL 2 0 b0 1 p.cs 26 rfl (N6 p.off) rfl (by kernel_rfl) (fun u => by kernel_rfl) (fun u => by kernel_rfl)
  ·
   refine oqV 3 40 rfl rfl (.agg #[(I6 0),(N6 p.off),(St []),S0,(.bool false)]) rfl [59] (fun u => [(N6 p.off)]) (fun u => by kernel_rfl) (fun u V hV hd => ?_)
   refine ⟨#[(N6 p.off)],by kernel_rfl,fun W hW => ?_⟩
   exact iNum_any _ W
  · exact oqQ 4 rfl (Pt b0 18) (Pt b0 18) rfl rfl (fun u => by kernel_rfl) (fun u => by kernel_rfl)
  · exact oqL 5 0 b0 1 p.cs 26 rfl (N6 p.tot) rfl (by kernel_rfl) (fun u => by kernel_rfl) (fun u => by kernel_rfl)
  ·
   refine oqV 6 40 rfl rfl (.agg #[(I6 0),(N6 p.tot),(St []),S0,(.bool false)]) rfl [62] (fun u => [(N6 p.tot)]) (fun u => by kernel_rfl) (fun u V hV hd => ?_)
   refine ⟨#[(N6 p.tot)],by kernel_rfl,fun W hW => ?_⟩
   exact iNum_any _ W
  ·
   refine oqN 7 rfl rfl (fun v V => ∃ g,v = (Sl g 0 2 2) ∧ TsAt V (some ⟨g,0,none⟩) [(Itm.numT p.off),(Itm.numT p.tot)]) rfl [60,63] (fun u => [(.agg #[(I6 0),(N6 p.off),(St []),S0,(.bool false)]),(.agg #[(I6 0),(N6 p.tot),(St []),S0,(.bool false)])]) (fun u => by kernel_rfl) (fun u V hV hd => ?_)
   refine ⟨[(I6 0),(N6 p.off),(St []),S0,(.bool false),(I6 0),(N6 p.tot),(St []),S0,(.bool false)],89,fun r => (Sl r 0 2 2),?_,fun g V' hV' hR => ?_⟩
   · kernel_rfl
   exact ⟨g,rfl,TsAt.lit [((Itm.numT p.off),[(I6 0),(N6 p.off),(St []),S0,(.bool false)]),((Itm.numT p.tot),[(I6 0),(N6 p.tot),(St []),S0,(.bool false)])] hR ⟨((TV.num _ p.off (by first | assumption | decide | (unfold W64; omega))).le hV).le hV',((TV.num _ p.tot (by first | assumption | decide | (unfold W64; omega))).le hV).le hV',trivial⟩ (show 2 ≤ R47 by decide)⟩
  intro u28 V28 hV28 hd28
  have k44 := hAb27.le hV28
  have e7_28 : (fun v V => ∃ g,v = (Sl g 0 2 2) ∧ TsAt V (some ⟨g,0,none⟩) [(Itm.numT p.off),(Itm.numT p.tot)]) (u28 7) V28 := hd28 7 (by decide)
  obtain ⟨g7_28,q7_28,t7_28⟩ := e7_28
  rw [q7_28]
  obtain ⟨bb45,ff45,L45,e45,hF45,hA45,hG45⟩ := t7_28.open (by simp)
  cases e45
  have hN45 : L45.length = 2 := by rw [← List.length_map (f := Prod.fst),hF45]; rfl
  refine sx_appE (Rw.row b27 8 []) [(I6 0),(U6 7),(St []),S0,(.bool false),(I6 0),(N6 p.f),(St []),S0,(.bool false),(I6 0),(N6 p.c.toNat),(St []),S0,(.bool false),(I6 p.dst.tree.k),(N6 p.dst.tree.n),(St p.dst.tree.s),(.slice a2 p.dst.tree.l.length c2),(.bool p.dst.tree.o),(I6 p.src.tree.k),(N6 p.src.tree.n),(St p.src.tree.s),(.slice a4 p.src.tree.l.length c4),(.bool p.src.tree.o),(I6 p.rpt.tree.k),(N6 p.rpt.tree.n),(St p.rpt.tree.s),(.slice a8 p.rpt.tree.l.length c8),(.bool p.rpt.tree.o),(I6 4),(U6 0),(St []),(Sl g18_14 0 2 2),(.bool false),(I6 0),(N6 p.life),(St []),S0,(.bool false)] 8 [(bK b0 p.cs 26),(b1,.cells [(I6 0),(U6 0),(St []),S0,(.bool false)].toArray 89 (0,0)),(bK b3 [(I6 p.dst.tree.k),(N6 p.dst.tree.n),(St p.dst.tree.s),(.slice a2 p.dst.tree.l.length c2),(.bool p.dst.tree.o)] 89),(bK b7 [(I6 p.src.tree.k),(N6 p.src.tree.n),(St p.src.tree.s),(.slice a4 p.src.tree.l.length c4),(.bool p.src.tree.o)] 89),(bK b13 [(I6 p.rpt.tree.k),(N6 p.rpt.tree.n),(St p.rpt.tree.s),(.slice a8 p.rpt.tree.l.length c8),(.bool p.rpt.tree.o)] 89)] 89 87 5 64 2 (by kernel_rfl) ⟨rfl,rfl,Nat.le_refl _,by decide⟩ (.tmp 57) (.tmp 64) rfl (by kernel_rfl) g7_28 0 2 (L45.flatMap Prod.snd) (by kernel_rfl) (fun W hM => View.range_of hG45 hM.view) (by rw [hA45.flat_len,hN45]) hA45.one (by decide) (by unfold maxLen; omega) (by omega) (by kernel_rfl) (by kernel_rfl) (by kernel_rfl) (by kernel_rfl) (by kernel_rfl) (fun r46 hr46 => ?_)
  refine zq 1 (zn (zs (zB [0,1,0] [(b0,1)] (zn (sx_D (p.c != 0) (fun h1 => ?_) (fun h1 => ?_))))))
  ·
   have h1d := bne_iff_ne.1 h1
   refine zr (zq 2 (sx_C 42 #[(St sum)] (.agg #[(I6 2),(U6 0),(St sum),S0,(.bool false)]) (fun W hM => iStr_any sum W) ?_))
   refine sx_newV [(I6 2),(U6 0),(St sum),S0,(.bool false)] 89 (fun r => (Sl r 0 1 1)) (by kernel_rfl) (by kernel_rfl) (by kernel_rfl) (fun g47 V47 hV47 hR47 => ?_)
   have k63 := (TV.str _ sum (by first | assumption | decide | (unfold R47; omega))).le hV47
   have k64 := k44.le hV47
   have k65 := hA45.le hV47
   have hT47 : TsAt V47 (some ⟨g47,0,none⟩) [(strT sum)] := TsAt.lit [((strT sum),[(I6 2),(U6 0),(St sum),S0,(.bool false)])] hR47 ⟨k63,trivial⟩ (show 1 ≤ R47 by decide)
   obtain ⟨bb66,ff66,L66,e66,hF66,hA66,hG66⟩ := hT47.open (by simp)
   cases e66
   have hN66 : L66.length = 1 := by rw [← List.length_map (f := Prod.fst),hF66]; rfl
   refine sx_appE r46 ([(I6 0),(U6 7),(St []),S0,(.bool false),(I6 0),(N6 p.f),(St []),S0,(.bool false),(I6 0),(N6 p.c.toNat),(St []),S0,(.bool false),(I6 p.dst.tree.k),(N6 p.dst.tree.n),(St p.dst.tree.s),(.slice a2 p.dst.tree.l.length c2),(.bool p.dst.tree.o),(I6 p.src.tree.k),(N6 p.src.tree.n),(St p.src.tree.s),(.slice a4 p.src.tree.l.length c4),(.bool p.src.tree.o),(I6 p.rpt.tree.k),(N6 p.rpt.tree.n),(St p.rpt.tree.s),(.slice a8 p.rpt.tree.l.length c8),(.bool p.rpt.tree.o),(I6 4),(U6 0),(St []),(Sl g18_14 0 2 2),(.bool false),(I6 0),(N6 p.life),(St []),S0,(.bool false)] ++ (L45.flatMap Prod.snd)) (8 + 2) [(bK b0 p.cs 26),(b1,.cells [(I6 0),(U6 0),(St []),S0,(.bool false)].toArray 89 (0,0)),(bK b3 [(I6 p.dst.tree.k),(N6 p.dst.tree.n),(St p.dst.tree.s),(.slice a2 p.dst.tree.l.length c2),(.bool p.dst.tree.o)] 89),(bK b7 [(I6 p.src.tree.k),(N6 p.src.tree.n),(St p.src.tree.s),(.slice a4 p.src.tree.l.length c4),(.bool p.src.tree.o)] 89),(bK b13 [(I6 p.rpt.tree.k),(N6 p.rpt.tree.n),(St p.rpt.tree.s),(.slice a8 p.rpt.tree.l.length c8),(.bool p.rpt.tree.o)] 89)] 89 87 5 64 1 (by kernel_rfl) hr46 (.tmp 69) (.tmp 72) rfl (by kernel_rfl) g47 0 1 (L66.flatMap Prod.snd) (by kernel_rfl) (fun W hM => View.range_of hG66 hM.view) (by rw [hA66.flat_len,hN66]) hA66.one (by decide) (by unfold maxLen; omega) (by omega) (by kernel_rfl) (by kernel_rfl) (by kernel_rfl) (by kernel_rfl) (by kernel_rfl) (fun r67 hr67 => ?_)
   refine zq 1 (zn (zQ 1 ?_))
   refine sx_fz 74 r67 (([(I6 0),(U6 7),(St []),S0,(.bool false),(I6 0),(N6 p.f),(St []),S0,(.bool false),(I6 0),(N6 p.c.toNat),(St []),S0,(.bool false),(I6 p.dst.tree.k),(N6 p.dst.tree.n),(St p.dst.tree.s),(.slice a2 p.dst.tree.l.length c2),(.bool p.dst.tree.o),(I6 p.src.tree.k),(N6 p.src.tree.n),(St p.src.tree.s),(.slice a4 p.src.tree.l.length c4),(.bool p.src.tree.o),(I6 p.rpt.tree.k),(N6 p.rpt.tree.n),(St p.rpt.tree.s),(.slice a8 p.rpt.tree.l.length c8),(.bool p.rpt.tree.o),(I6 4),(U6 0),(St []),(Sl g18_14 0 2 2),(.bool false),(I6 0),(N6 p.life),(St []),S0,(.bool false)] ++ (L45.flatMap Prod.snd)) ++ (L66.flatMap Prod.snd)) 5 ((8 + 2) + 1) [(bK b0 p.cs 26),(b1,.cells [(I6 0),(U6 0),(St []),S0,(.bool false)].toArray 89 (0,0)),(bK b3 [(I6 p.dst.tree.k),(N6 p.dst.tree.n),(St p.dst.tree.s),(.slice a2 p.dst.tree.l.length c2),(.bool p.dst.tree.o)] 89),(bK b7 [(I6 p.src.tree.k),(N6 p.src.tree.n),(St p.src.tree.s),(.slice a4 p.src.tree.l.length c4),(.bool p.src.tree.o)] 89),(bK b13 [(I6 p.rpt.tree.k),(N6 p.rpt.tree.n),(St p.rpt.tree.s),(.slice a8 p.rpt.tree.l.length c8),(.bool p.rpt.tree.o)] 89)] 89 (by kernel_rfl) hr67 (by kernel_rfl) (fun a68 c68 V68 hV68 hR68 hE68 => ?_)
   have k85 := k64.le hV68
   have k86 := k65.le hV68
   have k87 := hA66.le hV68
   have hT68 : TsAt V68 a68 ([(Itm.numT 7),(Itm.numT p.f),(Itm.numT p.c.toNat),p.dst.tree,p.src.tree,p.rpt.tree,(Itm.arrT [(Itm.numT p.time),(Itm.numT p.seq)]),(Itm.numT p.life)] ++ [(Itm.numT p.off),(Itm.numT p.tot)] ++ [(strT sum)]) := TsAt.ofRow ([((Itm.numT 7),[(I6 0),(U6 7),(St []),S0,(.bool false)]),((Itm.numT p.f),[(I6 0),(N6 p.f),(St []),S0,(.bool false)]),((Itm.numT p.c.toNat),[(I6 0),(N6 p.c.toNat),(St []),S0,(.bool false)]),(p.dst.tree,[(I6 p.dst.tree.k),(N6 p.dst.tree.n),(St p.dst.tree.s),(.slice a2 p.dst.tree.l.length c2),(.bool p.dst.tree.o)]),(p.src.tree,[(I6 p.src.tree.k),(N6 p.src.tree.n),(St p.src.tree.s),(.slice a4 p.src.tree.l.length c4),(.bool p.src.tree.o)]),(p.rpt.tree,[(I6 p.rpt.tree.k),(N6 p.rpt.tree.n),(St p.rpt.tree.s),(.slice a8 p.rpt.tree.l.length c8),(.bool p.rpt.tree.o)]),((Itm.arrT [(Itm.numT p.time),(Itm.numT p.seq)]),[(I6 4),(U6 0),(St []),(Sl g18_14 0 2 2),(.bool false)]),((Itm.numT p.life),[(I6 0),(N6 p.life),(St []),S0,(.bool false)])] ++ L45 ++ L66) hR68 (by first | rfl | (simp only [List.flatMap_append]; rfl)) (AllTV.app (AllTV.app k85 k86) k87) _ (by first | rfl | (simp only [List.map_append,hF45,hF66]; rfl)) (show ((8 + 2) + 1) ≤ R47 by decide)
   refine sx_C 178 #[(.slice a68 ((8 + 2) + 1) c68)] (.agg #[(I6 4),(U6 0),(St []),(.slice a68 ((8 + 2) + 1) c68),(.bool false)]) (fun W hM => iList_any _ _ _ W) ?_
   refine sx_S 1 b1 (zn (sx_ret ?_))
   refine sx_ret_any [.cell 4 89] [(.agg #[(I6 4),(U6 0),(St []),(.slice a68 ((8 + 2) + 1) c68),(.bool false)])] rfl ⟨(retK' 1 b1 5),trivial⟩ (fun W' hM => ?_)
   exact retN_of hM (View.le_trans (View.le_trans (View.le_trans (View.le_trans (View.le_trans (View.le_trans hV2 hV4) hV8) hV14) hV28) hV47) hV68) ⟨[(I6 4),(U6 0),(St []),(.slice a68 ((8 + 2) + 1) c68),(.bool false)],rfl,((TV.list c68 hT68)).cast (by simp only [prItems,isFrag,h0,h1,bs,if_true,if_false,cond_true,cond_false,reduceIte,List.append_nil])⟩
  ·
   refine zk (zQ 1 ?_)
   refine sx_fz 74 r46 ([(I6 0),(U6 7),(St []),S0,(.bool false),(I6 0),(N6 p.f),(St []),S0,(.bool false),(I6 0),(N6 p.c.toNat),(St []),S0,(.bool false),(I6 p.dst.tree.k),(N6 p.dst.tree.n),(St p.dst.tree.s),(.slice a2 p.dst.tree.l.length c2),(.bool p.dst.tree.o),(I6 p.src.tree.k),(N6 p.src.tree.n),(St p.src.tree.s),(.slice a4 p.src.tree.l.length c4),(.bool p.src.tree.o),(I6 p.rpt.tree.k),(N6 p.rpt.tree.n),(St p.rpt.tree.s),(.slice a8 p.rpt.tree.l.length c8),(.bool p.rpt.tree.o),(I6 4),(U6 0),(St []),(Sl g18_14 0 2 2),(.bool false),(I6 0),(N6 p.life),(St []),S0,(.bool false)] ++ (L45.flatMap Prod.snd)) 5 (8 + 2) [(bK b0 p.cs 26),(b1,.cells [(I6 0),(U6 0),(St []),S0,(.bool false)].toArray 89 (0,0)),(bK b3 [(I6 p.dst.tree.k),(N6 p.dst.tree.n),(St p.dst.tree.s),(.slice a2 p.dst.tree.l.length c2),(.bool p.dst.tree.o)] 89),(bK b7 [(I6 p.src.tree.k),(N6 p.src.tree.n),(St p.src.tree.s),(.slice a4 p.src.tree.l.length c4),(.bool p.src.tree.o)] 89),(bK b13 [(I6 p.rpt.tree.k),(N6 p.rpt.tree.n),(St p.rpt.tree.s),(.slice a8 p.rpt.tree.l.length c8),(.bool p.rpt.tree.o)] 89)] 89 (by kernel_rfl) hr46 (by kernel_rfl) (fun a88 c88 V88 hV88 hR88 hE88 => ?_)
   have k104 := k44.le hV88
   have k105 := hA45.le hV88
   have hT88 : TsAt V88 a88 ([(Itm.numT 7),(Itm.numT p.f),(Itm.numT p.c.toNat),p.dst.tree,p.src.tree,p.rpt.tree,(Itm.arrT [(Itm.numT p.time),(Itm.numT p.seq)]),(Itm.numT p.life)] ++ [(Itm.numT p.off),(Itm.numT p.tot)]) := TsAt.ofRow ([((Itm.numT 7),[(I6 0),(U6 7),(St []),S0,(.bool false)]),((Itm.numT p.f),[(I6 0),(N6 p.f),(St []),S0,(.bool false)]),((Itm.numT p.c.toNat),[(I6 0),(N6 p.c.toNat),(St []),S0,(.bool false)]),(p.dst.tree,[(I6 p.dst.tree.k),(N6 p.dst.tree.n),(St p.dst.tree.s),(.slice a2 p.dst.tree.l.length c2),(.bool p.dst.tree.o)]),(p.src.tree,[(I6 p.src.tree.k),(N6 p.src.tree.n),(St p.src.tree.s),(.slice a4 p.src.tree.l.length c4),(.bool p.src.tree.o)]),(p.rpt.tree,[(I6 p.rpt.tree.k),(N6 p.rpt.tree.n),(St p.rpt.tree.s),(.slice a8 p.rpt.tree.l.length c8),(.bool p.rpt.tree.o)]),((Itm.arrT [(Itm.numT p.time),(Itm.numT p.seq)]),[(I6 4),(U6 0),(St []),(Sl g18_14 0 2 2),(.bool false)]),((Itm.numT p.life),[(I6 0),(N6 p.life),(St []),S0,(.bool false)])] ++ L45) hR88 (by first | rfl | (simp only [List.flatMap_append]; rfl)) (AllTV.app k104 k105) _ (by first | rfl | (simp only [List.map_append,hF45]; rfl)) (show (8 + 2) ≤ R47 by decide)
   refine sx_C 178 #[(.slice a88 (8 + 2) c88)] (.agg #[(I6 4),(U6 0),(St []),(.slice a88 (8 + 2) c88),(.bool false)]) (fun W hM => iList_any _ _ _ W) ?_
   refine sx_S 1 b1 (zn (sx_ret ?_))
   refine sx_ret_any [.cell 4 89] [(.agg #[(I6 4),(U6 0),(St []),(.slice a88 (8 + 2) c88),(.bool false)])] rfl ⟨(retK' 1 b1 5),trivial⟩ (fun W' hM => ?_)
   exact retN_of hM (View.le_trans (View.le_trans (View.le_trans (View.le_trans (View.le_trans hV2 hV4) hV8) hV14) hV28) hV88) ⟨[(I6 4),(U6 0),(St []),(.slice a88 (8 + 2) c88),(.bool false)],rfl,((TV.list c88 hT88)).cast (by simp only [prItems,isFrag,h0,h1,bs,if_true,if_false,cond_true,cond_false,reduceIte,List.append_nil])⟩
 ·
  have h0d := bne_eq_false_iff_eq.1 h0
  refine zk (zs (zB [0,1,0] [(b0,1)] (zn (sx_D (p.c != 0) (fun h2 => ?_) (fun h2 => ?_)))))
  ·
   have h2d := bne_iff_ne.1 h2
   refine zr (zq 2 (sx_C 42 #[(St sum)] (.agg #[(I6 2),(U6 0),(St sum),S0,(.bool false)]) (fun W hM => iStr_any sum W) ?_))
   refine sx_newV [(I6 2),(U6 0),(St sum),S0,(.bool false)] 89 (fun r => (Sl r 0 1 1)) (by kernel_rfl) (by kernel_rfl) (by kernel_rfl) (fun g106 V106 hV106 hR106 => ?_)
   have k120 := (TV.str _ sum (by first | assumption | decide | (unfold R47; omega))).le hV106
   have k121 := hAb27.le hV106
   have hT106 : TsAt V106 (some ⟨g106,0,none⟩) [(strT sum)] := TsAt.lit [((strT sum),[(I6 2),(U6 0),(St sum),S0,(.bool false)])] hR106 ⟨k120,trivial⟩ (show 1 ≤ R47 by decide)
   obtain ⟨bb122,ff122,L122,e122,hF122,hA122,hG122⟩ := hT106.open (by simp)
   cases e122
   have hN122 : L122.length = 1 := by rw [← List.length_map (f := Prod.fst),hF122]; rfl
   refine sx_appE (Rw.row b27 8 []) [(I6 0),(U6 7),(St []),S0,(.bool false),(I6 0),(N6 p.f),(St []),S0,(.bool false),(I6 0),(N6 p.c.toNat),(St []),S0,(.bool false),(I6 p.dst.tree.k),(N6 p.dst.tree.n),(St p.dst.tree.s),(.slice a2 p.dst.tree.l.length c2),(.bool p.dst.tree.o),(I6 p.src.tree.k),(N6 p.src.tree.n),(St p.src.tree.s),(.slice a4 p.src.tree.l.length c4),(.bool p.src.tree.o),(I6 p.rpt.tree.k),(N6 p.rpt.tree.n),(St p.rpt.tree.s),(.slice a8 p.rpt.tree.l.length c8),(.bool p.rpt.tree.o),(I6 4),(U6 0),(St []),(Sl g18_14 0 2 2),(.bool false),(I6 0),(N6 p.life),(St []),S0,(.bool false)] 8 [(bK b0 p.cs 26),(b1,.cells [(I6 0),(U6 0),(St []),S0,(.bool false)].toArray 89 (0,0)),(bK b3 [(I6 p.dst.tree.k),(N6 p.dst.tree.n),(St p.dst.tree.s),(.slice a2 p.dst.tree.l.length c2),(.bool p.dst.tree.o)] 89),(bK b7 [(I6 p.src.tree.k),(N6 p.src.tree.n),(St p.src.tree.s),(.slice a4 p.src.tree.l.length c4),(.bool p.src.tree.o)] 89),(bK b13 [(I6 p.rpt.tree.k),(N6 p.rpt.tree.n),(St p.rpt.tree.s),(.slice a8 p.rpt.tree.l.length c8),(.bool p.rpt.tree.o)] 89)] 89 87 5 64 1 (by kernel_rfl) ⟨rfl,rfl,Nat.le_refl _,by decide⟩ (.tmp 69) (.tmp 72) rfl (by kernel_rfl) g106 0 1 (L122.flatMap Prod.snd) (by kernel_rfl) (fun W hM => View.range_of hG122 hM.view) (by rw [hA122.flat_len,hN122]) hA122.one (by decide) (by unfold maxLen; omega) (by omega) (by kernel_rfl) (by kernel_rfl) (by kernel_rfl) (by kernel_rfl) (by kernel_rfl) (fun r123 hr123 => ?_)
   refine zq 1 (zn (zQ 1 ?_))
   refine sx_fz 74 r123 ([(I6 0),(U6 7),(St []),S0,(.bool false),(I6 0),(N6 p.f),(St []),S0,(.bool false),(I6 0),(N6 p.c.toNat),(St []),S0,(.bool false),(I6 p.dst.tree.k),(N6 p.dst.tree.n),(St p.dst.tree.s),(.slice a2 p.dst.tree.l.length c2),(.bool p.dst.tree.o),(I6 p.src.tree.k),(N6 p.src.tree.n),(St p.src.tree.s),(.slice a4 p.src.tree.l.length c4),(.bool p.src.tree.o),(I6 p.rpt.tree.k),(N6 p.rpt.tree.n),(St p.rpt.tree.s),(.slice a8 p.rpt.tree.l.length c8),(.bool p.rpt.tree.o),(I6 4),(U6 0),(St []),(Sl g18_14 0 2 2),(.bool false),(I6 0),(N6 p.life),(St []),S0,(.bool false)] ++ (L122.flatMap Prod.snd)) 5 (8 + 1) [(bK b0 p.cs 26),(b1,.cells [(I6 0),(U6 0),(St []),S0,(.bool false)].toArray 89 (0,0)),(bK b3 [(I6 p.dst.tree.k),(N6 p.dst.tree.n),(St p.dst.tree.s),(.slice a2 p.dst.tree.l.length c2),(.bool p.dst.tree.o)] 89),(bK b7 [(I6 p.src.tree.k),(N6 p.src.tree.n),(St p.src.tree.s),(.slice a4 p.src.tree.l.length c4),(.bool p.src.tree.o)] 89),(bK b13 [(I6 p.rpt.tree.k),(N6 p.rpt.tree.n),(St p.rpt.tree.s),(.slice a8 p.rpt.tree.l.length c8),(.bool p.rpt.tree.o)] 89)] 89 (by kernel_rfl) hr123 (by kernel_rfl) (fun a124 c124 V124 hV124 hR124 hE124 => ?_)
   have k139 := k121.le hV124
   have k140 := hA122.le hV124
   have hT124 : TsAt V124 a124 ([(Itm.numT 7),(Itm.numT p.f),(Itm.numT p.c.toNat),p.dst.tree,p.src.tree,p.rpt.tree,(Itm.arrT [(Itm.numT p.time),(Itm.numT p.seq)]),(Itm.numT p.life)] ++ [(strT sum)]) := TsAt.ofRow ([((Itm.numT 7),[(I6 0),(U6 7),(St []),S0,(.bool false)]),((Itm.numT p.f),[(I6 0),(N6 p.f),(St []),S0,(.bool false)]),((Itm.numT p.c.toNat),[(I6 0),(N6 p.c.toNat),(St []),S0,(.bool false)]),(p.dst.tree,[(I6 p.dst.tree.k),(N6 p.dst.tree.n),(St p.dst.tree.s),(.slice a2 p.dst.tree.l.length c2),(.bool p.dst.tree.o)]),(p.src.tree,[(I6 p.src.tree.k),(N6 p.src.tree.n),(St p.src.tree.s),(.slice a4 p.src.tree.l.length c4),(.bool p.src.tree.o)]),(p.rpt.tree,[(I6 p.rpt.tree.k),(N6 p.rpt.tree.n),(St p.rpt.tree.s),(.slice a8 p.rpt.tree.l.length c8),(.bool p.rpt.tree.o)]),((Itm.arrT [(Itm.numT p.time),(Itm.numT p.seq)]),[(I6 4),(U6 0),(St []),(Sl g18_14 0 2 2),(.bool false)]),((Itm.numT p.life),[(I6 0),(N6 p.life),(St []),S0,(.bool false)])] ++ L122) hR124 (by first | rfl | (simp only [List.flatMap_append]; rfl)) (AllTV.app k139 k140) _ (by first | rfl | (simp only [List.map_append,hF122]; rfl)) (show (8 + 1) ≤ R47 by decide)
   refine sx_C 178 #[(.slice a124 (8 + 1) c124)] (.agg #[(I6 4),(U6 0),(St []),(.slice a124 (8 + 1) c124),(.bool false)]) (fun W hM => iList_any _ _ _ W) ?_
   refine sx_S 1 b1 (zn (sx_ret ?_))
   refine sx_ret_any [.cell 4 89] [(.agg #[(I6 4),(U6 0),(St []),(.slice a124 (8 + 1) c124),(.bool false)])] rfl ⟨(retK' 1 b1 5),trivial⟩ (fun W' hM => ?_)
   exact retN_of hM (View.le_trans (View.le_trans (View.le_trans (View.le_trans (View.le_trans hV2 hV4) hV8) hV14) hV106) hV124) ⟨[(I6 4),(U6 0),(St []),(.slice a124 (8 + 1) c124),(.bool false)],rfl,((TV.list c124 hT124)).cast (by simp only [prItems,isFrag,h0,h2,bs,if_true,if_false,cond_true,cond_false,reduceIte,List.append_nil])⟩
  ·
   refine zk (zQ 1 ?_)
   refine sx_fz 74 (Rw.row b27 8 []) [(I6 0),(U6 7),(St []),S0,(.bool false),(I6 0),(N6 p.f),(St []),S0,(.bool false),(I6 0),(N6 p.c.toNat),(St []),S0,(.bool false),(I6 p.dst.tree.k),(N6 p.dst.tree.n),(St p.dst.tree.s),(.slice a2 p.dst.tree.l.length c2),(.bool p.dst.tree.o),(I6 p.src.tree.k),(N6 p.src.tree.n),(St p.src.tree.s),(.slice a4 p.src.tree.l.length c4),(.bool p.src.tree.o),(I6 p.rpt.tree.k),(N6 p.rpt.tree.n),(St p.rpt.tree.s),(.slice a8 p.rpt.tree.l.length c8),(.bool p.rpt.tree.o),(I6 4),(U6 0),(St []),(Sl g18_14 0 2 2),(.bool false),(I6 0),(N6 p.life),(St []),S0,(.bool false)] 5 8 [(bK b0 p.cs 26),(b1,.cells [(I6 0),(U6 0),(St []),S0,(.bool false)].toArray 89 (0,0)),(bK b3 [(I6 p.dst.tree.k),(N6 p.dst.tree.n),(St p.dst.tree.s),(.slice a2 p.dst.tree.l.length c2),(.bool p.dst.tree.o)] 89),(bK b7 [(I6 p.src.tree.k),(N6 p.src.tree.n),(St p.src.tree.s),(.slice a4 p.src.tree.l.length c4),(.bool p.src.tree.o)] 89),(bK b13 [(I6 p.rpt.tree.k),(N6 p.rpt.tree.n),(St p.rpt.tree.s),(.slice a8 p.rpt.tree.l.length c8),(.bool p.rpt.tree.o)] 89)] 89 (by kernel_rfl) ⟨rfl,rfl,Nat.le_refl _,by decide⟩ (by kernel_rfl) (fun a141 c141 V141 hV141 hR141 hE141 => ?_)
   have k155 := hAb27.le hV141
   have hT141 : TsAt V141 a141 ([(Itm.numT 7),(Itm.numT p.f),(Itm.numT p.c.toNat),p.dst.tree,p.src.tree,p.rpt.tree,(Itm.arrT [(Itm.numT p.time),(Itm.numT p.seq)]),(Itm.numT p.life)]) := TsAt.ofRow ([((Itm.numT 7),[(I6 0),(U6 7),(St []),S0,(.bool false)]),((Itm.numT p.f),[(I6 0),(N6 p.f),(St []),S0,(.bool false)]),((Itm.numT p.c.toNat),[(I6 0),(N6 p.c.toNat),(St []),S0,(.bool false)]),(p.dst.tree,[(I6 p.dst.tree.k),(N6 p.dst.tree.n),(St p.dst.tree.s),(.slice a2 p.dst.tree.l.length c2),(.bool p.dst.tree.o)]),(p.src.tree,[(I6 p.src.tree.k),(N6 p.src.tree.n),(St p.src.tree.s),(.slice a4 p.src.tree.l.length c4),(.bool p.src.tree.o)]),(p.rpt.tree,[(I6 p.rpt.tree.k),(N6 p.rpt.tree.n),(St p.rpt.tree.s),(.slice a8 p.rpt.tree.l.length c8),(.bool p.rpt.tree.o)]),((Itm.arrT [(Itm.numT p.time),(Itm.numT p.seq)]),[(I6 4),(U6 0),(St []),(Sl g18_14 0 2 2),(.bool false)]),((Itm.numT p.life),[(I6 0),(N6 p.life),(St []),S0,(.bool false)])]) hR141 (by first | rfl | (simp only [List.flatMap_append]; rfl)) k155 _ (by first | rfl | (simp only [List.map_append]; rfl)) (show 8 ≤ R47 by decide)
   refine sx_C 178 #[(.slice a141 8 c141)] (.agg #[(I6 4),(U6 0),(St []),(.slice a141 8 c141),(.bool false)]) (fun W hM => iList_any _ _ _ W) ?_
   refine sx_S 1 b1 (zn (sx_ret ?_))
   refine sx_ret_any [.cell 4 89] [(.agg #[(I6 4),(U6 0),(St []),(.slice a141 8 c141),(.bool false)])] rfl ⟨(retK' 1 b1 5),trivial⟩ (fun W' hM => ?_)
   exact retN_of hM (View.le_trans (View.le_trans (View.le_trans (View.le_trans hV2 hV4) hV8) hV14) hV141) ⟨[(I6 4),(U6 0),(St []),(.slice a141 8 c141),(.bool false)],rfl,((TV.list c141 hT141)).cast (by simp only [prItems,isFrag,h0,h2,bs,if_true,if_false,cond_true,cond_false,reduceIte,List.append_nil])⟩
theorem flat_set {V : View} : ∀ {L : List (Itm.Tr × List Value)}, AllTV V L → ∀ (i : Nat) (p : Itm.Tr × List Value) (j : List Value), i < L.length → p.2.length = 5 → stCells (L.flatMap Prod.snd ++ j) (i * 5) p.2 = (L.set i p).flatMap Prod.snd ++ j
 | [], _, i, p, j, hi, _ => by simp at hi
 | q :: r, ⟨h1, h2⟩, 0, p, j, _, hp => by
  have h5 := h1.len5
  rw [List.set_cons_zero, List.flatMap_cons, List.flatMap_cons, List.append_assoc, List.append_assoc]
  unfold stCells
  rw [Nat.zero_mul, Nat.zero_add, hp, List.take_zero, List.nil_append, List.drop_append_of_le_length (by omega), List.drop_of_length_le (by omega), List.nil_append]
 | q :: r, ⟨h1, h2⟩, i + 1, p, j, hi, hp => by
  have h5 := h1.len5
  have ih := flat_set h2 i p j (by simpa using hi) hp
  rw [List.set_cons_succ, List.flatMap_cons, List.flatMap_cons, List.append_assoc, List.append_assoc, ← ih]
  unfold stCells
  rw [hp, show (i + 1) * 5 = q.2.length + i * 5 by omega, List.take_append, List.take_of_length_le (by omega), show q.2.length + i * 5 - q.2.length = i * 5 by omega, show q.2.length + i * 5 + 5 = q.2.length + (i * 5 + 5) by omega, List.drop_append, List.drop_of_length_le (by omega), List.nil_append, show q.2.length + (i * 5 + 5) - q.2.length = i * 5 + 5 by omega]
  simp only [List.append_assoc]
theorem AllTV.set {V : View} : ∀ {L : List (Itm.Tr × List Value)}, AllTV V L → ∀ (i : Nat) (p : Itm.Tr × List Value), TV V p.1 p.2 → AllTV V (L.set i p)
 | [], _, _, _, _ => trivial
 | _ :: _, ⟨_, h2⟩, 0, _, hp => ⟨hp, h2⟩
 | _ :: _, ⟨h1, h2⟩, i + 1, p, hp => ⟨h1, h2.set i p hp⟩
def sumT (k : Int) (l : List Itm.Tr) : Itm.Tr := if k == 0 then Itm.arrT l else Itm.arrT (l.set (l.length - 1) (strT (crcB k (Itm.bytesB (Itm.arrT l)))))
theorem pSummed_any (k : Int) (l : List Itm.Tr) (w : World) {U : View} (hU : ∀ a v, U a = some v → w.cell? a = some v) (a : Option Addr) (c : Nat) (hts : TsAt U a l) (hk0 : 0 ≤ k) (hk2 : k ≤ 2) (hr : Itm.rightT 8 (Itm.arrT l) = true) (hsz : Itm.szT (Itm.arrT l) ≤ 1000000000) (hne : l ≠ []) (hle : l.length ≤ 1000) :
    Calls Tryz.prog 244 #[.int .i64 k, .agg #[.int .i64 4, .int .u64 0, .string (B []), .slice a l.length c, .bool false]] w (RetN w U (ItemOf (sumT k l))) := by
 have hb := Itm.bytesB_len (Itm.arrT l)
 have hcl := crcB_len (Itm.bytesB (Itm.arrT l)) hk0 hk2
 have hpos : 0 < l.length := List.length_pos_iff.2 hne
 have hwl : IntKind.i64.wrap (((l.length : Nat) : Int) - 1) = ((l.length - 1 : Nat) : Int) := by
  rw [IntWalk.i64_in _ (by omega)]
  omega
 have hT0 : TV U (Itm.arrT l) [.int .i64 4,.int .u64 0,.string (B []),.slice a l.length c,.bool false] := TV.list c hts
 refine sx_enter (f := 244) 30 U Tryz.func244 rfl rfl rfl hU ?_
 refine zs (zr (sx_N (fun b0 => (sx_N (fun b1 => (zn (zs (zQ 2 (zn (sx_D (k == 0) (fun h0 => ?_) (fun h0 => ?_)))))))))))
 ·
  refine zB [1] [(b0,5)] (sx_S 1 b1 (zn (sx_ret ?_)))
  refine sx_ret_any [.cell 4 89] [(.agg #[(I6 4),(U6 0),(St []),(.slice a l.length c),(.bool false)])] rfl ⟨(retK' 1 b1 5),trivial⟩ (fun W' hM => ?_)
  exact retN_of hM (View.le_refl _) ⟨[(I6 4),(U6 0),(St []),(.slice a l.length c),(.bool false)],rfl,(hT0).cast (by simp only [sumT,h0,bs,if_true,if_false,cond_true,cond_false,reduceIte,List.append_nil])⟩
 ·
  have h0d := beq_eq_false_iff_ne.1 h0
  refine zk (zB [1] [(b0,5)] (sx_C 136 #[(.agg #[(I6 4),(U6 0),(St []),(.slice a l.length c),(.bool false)])] (.tuple #[(St (Itm.bytesB (Itm.arrT l))),(I6 0)]) (fun W hM => iBuild_any _ _ hM.view hT0 hr (by unfold sz50; omega)) ?_))
  refine zq 5 (zn (zB [0,1] [(b0,1)] ?_))
  obtain ⟨bb2,ff2,L2,rfl,hF2,hA2,hG2⟩ := hts.open hne
  refine sx_callR 251 #[(Sl bb2 ff2 l.length c)] 89 5 l.length (L2.flatMap Prod.snd) (by kernel_rfl) (fun W hM => cloneIt_any hM.view bb2 ff2 l.length _ _ hG2 (by rw [hA2.flat_len,← List.length_map (f := Prod.fst),hF2]) hA2.one hpos (by omega)) (by kernel_rfl) (by kernel_rfl) (fun b3 c3 j3 hJ3 => ?_)
  refine zq 1 (zn (zQ 4 (sx_E 22 (I6 (IntKind.i64.wrap ((((l.length : Nat)) : Int) - 1))) (I6 ((l.length - 1 : Nat) : Int)) (congrArg (Value.int .i64) hwl) ?_)))
  refine zq 2 (sx_C 252 #[(I6 k),(St (Itm.bytesB (Itm.arrT l)))] (St (crcB k (Itm.bytesB (Itm.arrT l)))) (fun W hM => cSum_any k _ W (by unfold R47; omega)) ?_)
  refine sx_C 42 #[(St (crcB k (Itm.bytesB (Itm.arrT l))))] (.agg #[(I6 2),(U6 0),(St (crcB k (Itm.bytesB (Itm.arrT l)))),S0,(.bool false)]) (fun W hM => iStr_any (crcB k (Itm.bytesB (Itm.arrT l))) W) ?_
  refine sx_R (.pointer (some ⟨b3,0 + (l.length - 1) * 5,none⟩)) (rIx 89 rfl b3 0 l.length c3 (l.length - 1) 5) ?_
  have hL2 : L2.length = l.length := by rw [← List.length_map (f := Prod.fst),hF2]
  refine sx_sP 2 b3 (0 + (l.length - 1) * 5) 5 (L2.flatMap Prod.snd ++ j3) 89 89 (.agg #[(I6 2),(U6 0),(St (crcB k (Itm.bytesB (Itm.arrT l)))),S0,(.bool false)]) (.tmp 27) (.tmp 26) rfl (by kernel_rfl) (by kernel_rfl) (by kernel_rfl) (by kernel_rfl) (by rw [List.length_append,hA2.flat_len]; omega) rfl (by kernel_rfl) ?_
  refine sx_freeze [(b0,.cells [(I6 4),(U6 0),(St []),(Sl bb2 ff2 l.length c),(.bool false)].toArray 89 (0,0)),(b1,.cells [(I6 0),(U6 0),(St []),S0,(.bool false)].toArray 89 (0,0))] [] b3 (stCells (L2.flatMap Prod.snd ++ j3) (0 + (l.length - 1) * 5) [(I6 2),(U6 0),(St (crcB k (Itm.bytesB (Itm.arrT l)))),S0,(.bool false)]) 89 (by kernel_rfl) (fun V2 hV2 hR2 => ?_)
  have k6 := (TV.str _ (crcB k (Itm.bytesB (Itm.arrT l))) (by first | assumption | decide | (unfold R47; omega))).le hV2
  rw [Nat.zero_add,flat_set hA2 (l.length - 1) ((strT (crcB k (Itm.bytesB (Itm.arrT l)))),[(I6 2),(U6 0),(St (crcB k (Itm.bytesB (Itm.arrT l)))),S0,(.bool false)]) j3 (by omega) rfl] at hR2
  have hT2 : TsAt V2 (some ⟨b3,0,none⟩) (l.set (l.length - 1) (strT (crcB k (Itm.bytesB (Itm.arrT l))))) := TsAt.ofRow (L2.set (l.length - 1) ((strT (crcB k (Itm.bytesB (Itm.arrT l)))),[(I6 2),(U6 0),(St (crcB k (Itm.bytesB (Itm.arrT l)))),S0,(.bool false)])) ⟨fun _ => ⟨b3,rfl,(range_append hR2).1⟩⟩ rfl ((hA2.le (by first | exact hV2 | exact View.le_trans ‹_› hV2)).set _ _ k6) _ (by rw [List.map_set,hF2]) (by rw [List.length_set]; unfold R47; omega)
  have hX2 : TV V2 (Itm.arrT (l.set (l.length - 1) (strT (crcB k (Itm.bytesB (Itm.arrT l)))))) [(I6 4),(U6 0),(St []),(Sl b3 0 l.length c3),(.bool false)] := by
   have := TV.list c3 hT2
   rw [List.length_set] at this
   exact this
  refine zn (zQ 1 (sx_C 178 #[(Sl b3 0 l.length c3)] (.agg #[(I6 4),(U6 0),(St []),(Sl b3 0 l.length c3),(.bool false)]) (fun W hM => iList_any _ _ _ W) ?_))
  refine sx_S 1 b1 (zn (sx_ret ?_))
  refine sx_ret_any [.cell 4 89] [(.agg #[(I6 4),(U6 0),(St []),(Sl b3 0 l.length c3),(.bool false)])] rfl ⟨(retK' 1 b1 5),trivial⟩ (fun W' hM => ?_)
  exact retN_of hM hV2 ⟨[(I6 4),(U6 0),(St []),(Sl b3 0 l.length c3),(.bool false)],rfl,(hX2).cast (by simp only [sumT,h0,bs,if_true,if_false,cond_true,cond_false,reduceIte,List.append_nil])⟩
def codedB (x : Int) : Bool := decide (x ≥ 1) && decide (x ≤ 65535)
theorem coded_any (x : Int) (w : World) : Calls Tryz.prog 225 #[.int .i64 x] w (Ret (.bool (codedB x)) w) := by
 refine sx_enter (f := 225) 9 View.no Tryz.func225 rfl rfl rfl (fun _ _ h => by cases h) ?_
 refine zQ 1 (zn (zQ 3 (sx_BL 5 (decide (x ≥ 1)) (fun h0 => ?_) (fun h0 => ?_))))
 ·
  refine zq 4 (zn (sx_ret (sx_Z [2] [(.bool (decide (x ≤ 65535)))] (fun W' hM => ?_))))
  exact ⟨by simp only [resV,codedB,h0,bs,if_true,if_false,cond_true,cond_false,reduceIte],hM.below⟩
 ·
  refine zq 4 (zn (sx_ret (sx_Z [2] [(.bool false)] (fun W' hM => ?_))))
  exact ⟨by simp only [resV,codedB,h0,bs,if_true,if_false,cond_true,cond_false,reduceIte],hM.below⟩
def bkRight (b : Bk) : Int := if !codedB b.t || !codedB b.n || decide ((b.f : Int) > 255) || decide (b.c < 0) || decide (b.c > 2) then 1 else if decide (((b.d.length : Nat) : Int) > 4000) then 4 else if !((b.t == 1) == (b.n == 1)) then 8 else 0
theorem bRight_any (x : Bk) (w : World) : Calls Tryz.prog 193 #[x.V] w (Ret (.int .i64 (bkRight x)) w) := by
 refine sx_enter (f := 193) 42 View.no Tryz.func193 rfl rfl rfl (fun _ _ h => by cases h) ?_
 refine zs (zr (sx_N (fun b0 => (zq 1 (zn (zs (sx_block (zB [0,1] [(b0,1)] (sx_C 225 #[(I6 x.t)] (.bool (codedB x.t)) (fun W hM => coded_any _ W) ?_)))))))))
 refine zq 2 (sx_BL 8 (!(codedB x.t)) (fun h0 => ?_) (fun h0 => ?_))
 ·
  refine zq 21 (zn (sx_T (zQ 1 (zn (sx_ret (sx_Z [2] [(I6 1)] (fun W' hM => ?_)))))))
  exact ⟨by simp only [resV,bkRight,h0,bs,if_true,if_false,cond_true,cond_false,reduceIte],hM.below⟩
 ·
  refine sx_B [0,1] [(b0,1)] (sx_C 225 #[(I6 x.n)] (.bool (codedB x.n)) (fun W hM => coded_any _ W) ?_)
  refine zq 3 (sx_BL 14 (!(codedB x.n)) (fun h1 => ?_) (fun h1 => ?_))
  ·
   refine zq 15 (zn (sx_T (zQ 1 (zn (sx_ret (sx_Z [2] [(I6 1)] (fun W' hM => ?_)))))))
   exact ⟨by simp only [resV,bkRight,h0,h1,bs,if_true,if_false,cond_true,cond_false,reduceIte],hM.below⟩
  ·
   refine sx_B [0,1,0,0,0] [(b0,1)] (sx_BL 19 (decide ((x.f : Int) > 255)) (fun h2 => ?_) (fun h2 => ?_))
   ·
    refine zq 10 (zn (sx_T (zQ 1 (zn (sx_ret (sx_Z [2] [(I6 1)] (fun W' hM => ?_)))))))
    exact ⟨by simp only [resV,bkRight,h0,h1,h2,bs,if_true,if_false,cond_true,cond_false,reduceIte],hM.below⟩
   ·
    refine sx_B [0,1,0,0,0] [(b0,1)] (sx_BL 24 (decide (x.c < 0)) (fun h3 => ?_) (fun h3 => ?_))
    ·
     refine zq 5 (zn (sx_T (zQ 1 (zn (sx_ret (sx_Z [2] [(I6 1)] (fun W' hM => ?_)))))))
     exact ⟨by simp only [resV,bkRight,h0,h1,h2,h3,bs,if_true,if_false,cond_true,cond_false,reduceIte],hM.below⟩
    ·
     refine sx_B [0,1,0,0,0] [(b0,1)] (zn (sx_D (decide (x.c > 2)) (fun h4 => ?_) (fun h4 => ?_)))
     ·
      refine zQ 1 (zn (sx_ret (sx_Z [2] [(I6 1)] (fun W' hM => ?_))))
      exact ⟨by simp only [resV,bkRight,h0,h1,h2,h3,h4,bs,if_true,if_false,cond_true,cond_false,reduceIte],hM.below⟩
     ·
      refine zB [0,1,0,0,0] [(b0,1)] (zn (sx_D (decide ((((x.d).length : Nat) : Int) > 4000)) (fun h5 => ?_) (fun h5 => ?_)))
      ·
       refine zQ 1 (zn (sx_ret (sx_Z [2] [(I6 4)] (fun W' hM => ?_))))
       exact ⟨by simp only [resV,bkRight,h0,h1,h2,h3,h4,h5,bs,if_true,if_false,cond_true,cond_false,reduceIte],hM.below⟩
      ·
       refine zB [0,1,0,0,1,0,0,0] [(b0,1),(b0,1)] (zn (sx_D (!((x.t == 1) == (x.n == 1))) (fun h6 => ?_) (fun h6 => ?_)))
       ·
        refine zQ 1 (zn (sx_ret (sx_Z [2] [(I6 8)] (fun W' hM => ?_))))
        exact ⟨by simp only [resV,bkRight,h0,h1,h2,h3,h4,h5,h6,bs,if_true,if_false,cond_true,cond_false,reduceIte],hM.below⟩
       ·
        refine zk (zQ 1 (zn (sx_ret (sx_Z [2] [(I6 0)] (fun W' hM => ?_)))))
        exact ⟨by simp only [resV,bkRight,h0,h1,h2,h3,h4,h5,h6,bs,if_true,if_false,cond_true,cond_false,reduceIte],hM.below⟩
theorem Mem.peek {W0 : Cx} {U : View} {σ : Blks} {W : World} (h : Mem W0 U σ W) (k b : Nat) (cs : List Value) (t : TypeId) (hk : σ[k]? = some (b, .cells cs.toArray t (0, 0))) : ∃ V, View.le U V ∧ V.range b 0 cs ∧ ∀ a v, V a = some v → W.cell? a = some v := by
 obtain ⟨q1, _, q3⟩ := h.own k b _ hk
 let C : View := fun a => if a.block = b ∧ a.spot = none then cs[a.off]? else none
 refine ⟨U.or C, View.le_or _ _, fun j v hj => View.or_r ?_ (q3 _ rfl), fun a v hv => ?_⟩
 ·
  show (if b = b ∧ none = none then cs[0 + j]? else none) = some v
  rw [if_pos ⟨rfl, rfl⟩, Nat.zero_add]; exact hj
 ·
  unfold View.or at hv
  cases hx : U a with
  | some u => rw [hx] at hv; exact h.view a v (by rw [hx]; exact hv)
  | none =>
   rw [hx, Option.none_or] at hv
   have hv' : (if a.block = b ∧ a.spot = none then cs[a.off]? else none) = some v := hv
   split at hv'
   ·
    next hc =>
    have ea : a = ⟨b, a.off, none⟩ := by
     obtain ⟨a1, a2, a3⟩ := a
     simp only at hc ⊢
     rw [hc.1, hc.2]
    rw [ea, cell_of_row _ _ _ _ _ _ q1]
    simpa using hv'
   · cases hv'
def bkItems (x : Bk) (sum : List UInt8) : List Itm.Tr := [Itm.numT x.t.toNat, Itm.numT x.n.toNat, Itm.numT x.f, Itm.numT x.c.toNat, strT x.d] ++ (if x.c != 0 then [strT sum] else [])
set_option maxHeartbeats 16000000 in
theorem bWith_any (x : Bk) (sum : List UInt8) (w : World) {U : View} (hU : ∀ a v, U a = some v → w.cell? a = some v) (hx : x.ok) (hs : sum.length ≤ R47) (ht : codedB x.t = true) (hn : codedB x.n = true) (hc0 : 0 ≤ x.c) (hc2 : x.c ≤ 2) :
    Calls Tryz.prog 260 #[x.V, .string (B sum)] w (RetN w U (ItemOf (Itm.arrT (bkItems x sum)))) := by
 have hf := hx.f
 have hd := hx.d
 unfold codedB at ht hn
 simp only [Bool.and_eq_true,decide_eq_true_eq] at ht hn
 have w1 : IntKind.u64.wrap x.t = (x.t.toNat : Int) := by have := u64_in (x := x.t) (by omega) (by omega); omega
 have w2 : IntKind.u64.wrap x.n = (x.n.toNat : Int) := by have := u64_in (x := x.n) (by omega) (by omega); omega
 have w3 : IntKind.u64.wrap x.c = (x.c.toNat : Int) := by have := u64_in (x := x.c) (by omega) (by omega); omega
 have n1 : x.t.toNat < W64 := by unfold W64; omega
 have n2 : x.n.toNat < W64 := by unfold W64; omega
 have n3 : x.c.toNat < W64 := by unfold W64; omega
 refine sx_enter (f := 260) 35 U Tryz.func260 rfl rfl rfl hU ?_
 refine zs (zr (sx_N (fun b0 => (sx_N (fun b1 => (zn (zs ?_)))))))
 refine sx_drawnQ 17 3 6 [6,7,8,9,10,11,12,13,14,15,16,17,18,19,20,21,22] [.val (Pt b0 0),.val (I6 x.t),.val (N6 x.t.toNat),.val (.agg #[(I6 0),(N6 x.t.toNat),(St []),S0,(.bool false)]),.val (Pt b0 1),.val (I6 x.n),.val (N6 x.n.toNat),.val (.agg #[(I6 0),(N6 x.n.toNat),(St []),S0,(.bool false)]),.val (Pt b0 2),.val (N6 x.f),.val (.agg #[(I6 0),(N6 x.f),(St []),S0,(.bool false)]),.val (Pt b0 3),.val (I6 x.c),.val (N6 x.c.toNat),.val (.agg #[(I6 0),(N6 x.c.toNat),(St []),S0,(.bool false)]),.val (Pt b0 4),.val (St x.d)] (by kernel_rfl) rfl rfl (by kernel_rfl) (by kernel_rfl) (by kernel_rfl) (by kernel_rfl) (by kernel_rfl) (by kernel_rfl) (by simp only [List.forall_mem_cons]; exact ⟨trivial,trivial,trivial,trivial,trivial,trivial,trivial,trivial,trivial,trivial,trivial,trivial,trivial,trivial,trivial,trivial,trivial,fun _ h => by cases h⟩) ⟨?_,?_,?_,?_,?_,?_,?_,?_,?_,?_,?_,?_,?_,?_,?_,?_,?_,trivial⟩ [1,2,4,9,13,16,20,22] (fun u => [(St sum),(Pt b0 0),(Pt b1 0),(.agg #[(I6 0),(N6 x.t.toNat),(St []),S0,(.bool false)]),(.agg #[(I6 0),(N6 x.n.toNat),(St []),S0,(.bool false)]),(.agg #[(I6 0),(N6 x.f),(St []),S0,(.bool false)]),(.agg #[(I6 0),(N6 x.c.toNat),(St []),S0,(.bool false)]),(St x.d)]) (fun u => by kernel_rfl) ?_
 · exact oqQ 0 rfl (Pt b0 0) (Pt b0 0) rfl rfl (fun u => by kernel_rfl) (fun u => by kernel_rfl)
 · exact oqL 1 0 b0 1 x.cs 38 rfl (I6 x.t) rfl (by kernel_rfl) (fun u => by kernel_rfl) (fun u => by kernel_rfl)
 · exact oqQ 2 rfl (U6 (IntKind.u64.wrap x.t)) (N6 x.t.toNat) (congrArg (Value.int .u64) w1) rfl (fun u => by kernel_rfl) (fun u => by kernel_rfl)
 ·
  refine oqV 3 40 rfl rfl (.agg #[(I6 0),(N6 x.t.toNat),(St []),S0,(.bool false)]) rfl [8] (fun u => [(N6 x.t.toNat)]) (fun u => by kernel_rfl) (fun u V hV hd => ?_)
  refine ⟨#[(N6 x.t.toNat)],by kernel_rfl,fun W hW => ?_⟩
  exact iNum_any _ W
 · exact oqQ 4 rfl (Pt b0 1) (Pt b0 1) rfl rfl (fun u => by kernel_rfl) (fun u => by kernel_rfl)
 · exact oqL 5 0 b0 1 x.cs 38 rfl (I6 x.n) rfl (by kernel_rfl) (fun u => by kernel_rfl) (fun u => by kernel_rfl)
 · exact oqQ 6 rfl (U6 (IntKind.u64.wrap x.n)) (N6 x.n.toNat) (congrArg (Value.int .u64) w2) rfl (fun u => by kernel_rfl) (fun u => by kernel_rfl)
 ·
  refine oqV 7 40 rfl rfl (.agg #[(I6 0),(N6 x.n.toNat),(St []),S0,(.bool false)]) rfl [12] (fun u => [(N6 x.n.toNat)]) (fun u => by kernel_rfl) (fun u V hV hd => ?_)
  refine ⟨#[(N6 x.n.toNat)],by kernel_rfl,fun W hW => ?_⟩
  exact iNum_any _ W
 · exact oqQ 8 rfl (Pt b0 2) (Pt b0 2) rfl rfl (fun u => by kernel_rfl) (fun u => by kernel_rfl)
 · exact oqL 9 0 b0 1 x.cs 38 rfl (N6 x.f) rfl (by kernel_rfl) (fun u => by kernel_rfl) (fun u => by kernel_rfl)
 ·
  refine oqV 10 40 rfl rfl (.agg #[(I6 0),(N6 x.f),(St []),S0,(.bool false)]) rfl [15] (fun u => [(N6 x.f)]) (fun u => by kernel_rfl) (fun u V hV hd => ?_)
  refine ⟨#[(N6 x.f)],by kernel_rfl,fun W hW => ?_⟩
  exact iNum_any _ W
 · exact oqQ 11 rfl (Pt b0 3) (Pt b0 3) rfl rfl (fun u => by kernel_rfl) (fun u => by kernel_rfl)
 · exact oqL 12 0 b0 1 x.cs 38 rfl (I6 x.c) rfl (by kernel_rfl) (fun u => by kernel_rfl) (fun u => by kernel_rfl)
 · exact oqQ 13 rfl (U6 (IntKind.u64.wrap x.c)) (N6 x.c.toNat) (congrArg (Value.int .u64) w3) rfl (fun u => by kernel_rfl) (fun u => by kernel_rfl)
 ·
  refine oqV 14 40 rfl rfl (.agg #[(I6 0),(N6 x.c.toNat),(St []),S0,(.bool false)]) rfl [19] (fun u => [(N6 x.c.toNat)]) (fun u => by kernel_rfl) (fun u V hV hd => ?_)
  refine ⟨#[(N6 x.c.toNat)],by kernel_rfl,fun W hW => ?_⟩
  exact iNum_any _ W
 · exact oqQ 15 rfl (Pt b0 4) (Pt b0 4) rfl rfl (fun u => by kernel_rfl) (fun u => by kernel_rfl)
 · exact oqL 16 0 b0 1 x.cs 38 rfl (St x.d) rfl (by kernel_rfl) (fun u => by kernel_rfl) (fun u => by kernel_rfl)
 intro u2 V2 hV2 hd2
 have k3 := (TV.num _ x.t.toNat (by first | assumption | decide | (unfold W64; omega))).le hV2
 have k4 := (TV.num _ x.n.toNat (by first | assumption | decide | (unfold W64; omega))).le hV2
 have k5 := (TV.num _ x.f (by first | assumption | decide | (unfold W64; omega))).le hV2
 have k6 := (TV.num _ x.c.toNat (by first | assumption | decide | (unfold W64; omega))).le hV2
 refine sx_C 42 #[(St x.d)] (.agg #[(I6 2),(U6 0),(St x.d),S0,(.bool false)]) (fun W hM => iStr_any x.d W) ?_
 refine sx_N (fun b7 => ?_)
 have hAb7 : AllTV V2 [((Itm.numT x.t.toNat),[(I6 0),(N6 x.t.toNat),(St []),S0,(.bool false)]),((Itm.numT x.n.toNat),[(I6 0),(N6 x.n.toNat),(St []),S0,(.bool false)]),((Itm.numT x.f),[(I6 0),(N6 x.f),(St []),S0,(.bool false)]),((Itm.numT x.c.toNat),[(I6 0),(N6 x.c.toNat),(St []),S0,(.bool false)]),((strT x.d),[(I6 2),(U6 0),(St x.d),S0,(.bool false)])] := ⟨k3,k4,k5,k6,(TV.str _ x.d (by first | assumption | decide | (unfold R47; omega))),trivial⟩
 refine zq 1 (zn (zs (zB [0,1,0] [(b0,1)] (zn (sx_D (x.c != 0) (fun h0 => ?_) (fun h0 => ?_))))))
 ·
  have h0d := bne_iff_ne.1 h0
  refine zr (zq 2 (sx_C 42 #[(St sum)] (.agg #[(I6 2),(U6 0),(St sum),S0,(.bool false)]) (fun W hM => iStr_any sum W) ?_))
  refine sx_newV [(I6 2),(U6 0),(St sum),S0,(.bool false)] 89 (fun r => (Sl r 0 1 1)) (by kernel_rfl) (by kernel_rfl) (by kernel_rfl) (fun g8 V8 hV8 hR8 => ?_)
  have k14 := (TV.str _ sum (by first | assumption | decide | (unfold R47; omega))).le hV8
  have k15 := hAb7.le hV8
  have hT8 : TsAt V8 (some ⟨g8,0,none⟩) [(strT sum)] := TsAt.lit [((strT sum),[(I6 2),(U6 0),(St sum),S0,(.bool false)])] hR8 ⟨k14,trivial⟩ (show 1 ≤ R47 by decide)
  obtain ⟨bb16,ff16,L16,e16,hF16,hA16,hG16⟩ := hT8.open (by simp)
  cases e16
  have hN16 : L16.length = 1 := by rw [← List.length_map (f := Prod.fst),hF16]; rfl
  refine sx_appE (Rw.row b7 5 []) [(I6 0),(N6 x.t.toNat),(St []),S0,(.bool false),(I6 0),(N6 x.n.toNat),(St []),S0,(.bool false),(I6 0),(N6 x.f),(St []),S0,(.bool false),(I6 0),(N6 x.c.toNat),(St []),S0,(.bool false),(I6 2),(U6 0),(St x.d),S0,(.bool false)] 5 [(bK b0 x.cs 38),(b1,.cells [(I6 0),(U6 0),(St []),S0,(.bool false)].toArray 89 (0,0))] 89 87 5 64 1 (by kernel_rfl) ⟨rfl,rfl,Nat.le_refl _,by decide⟩ (.tmp 28) (.tmp 31) rfl (by kernel_rfl) g8 0 1 (L16.flatMap Prod.snd) (by kernel_rfl) (fun W hM => View.range_of hG16 hM.view) (by rw [hA16.flat_len,hN16]) hA16.one (by decide) (by unfold maxLen; omega) (by omega) (by kernel_rfl) (by kernel_rfl) (by kernel_rfl) (by kernel_rfl) (by kernel_rfl) (fun r17 hr17 => ?_)
  refine zq 1 (zn (zQ 1 ?_))
  refine sx_fz 33 r17 ([(I6 0),(N6 x.t.toNat),(St []),S0,(.bool false),(I6 0),(N6 x.n.toNat),(St []),S0,(.bool false),(I6 0),(N6 x.f),(St []),S0,(.bool false),(I6 0),(N6 x.c.toNat),(St []),S0,(.bool false),(I6 2),(U6 0),(St x.d),S0,(.bool false)] ++ (L16.flatMap Prod.snd)) 5 (5 + 1) [(bK b0 x.cs 38),(b1,.cells [(I6 0),(U6 0),(St []),S0,(.bool false)].toArray 89 (0,0))] 89 (by kernel_rfl) hr17 (by kernel_rfl) (fun a18 c18 V18 hV18 hR18 hE18 => ?_)
  have k25 := k15.le hV18
  have k26 := hA16.le hV18
  have hT18 : TsAt V18 a18 ([(Itm.numT x.t.toNat),(Itm.numT x.n.toNat),(Itm.numT x.f),(Itm.numT x.c.toNat),(strT x.d)] ++ [(strT sum)]) := TsAt.ofRow ([((Itm.numT x.t.toNat),[(I6 0),(N6 x.t.toNat),(St []),S0,(.bool false)]),((Itm.numT x.n.toNat),[(I6 0),(N6 x.n.toNat),(St []),S0,(.bool false)]),((Itm.numT x.f),[(I6 0),(N6 x.f),(St []),S0,(.bool false)]),((Itm.numT x.c.toNat),[(I6 0),(N6 x.c.toNat),(St []),S0,(.bool false)]),((strT x.d),[(I6 2),(U6 0),(St x.d),S0,(.bool false)])] ++ L16) hR18 (by first | rfl | (simp only [List.flatMap_append]; rfl)) (AllTV.app k25 k26) _ (by first | rfl | (simp only [List.map_append,hF16]; rfl)) (show (5 + 1) ≤ R47 by decide)
  refine sx_C 178 #[(.slice a18 (5 + 1) c18)] (.agg #[(I6 4),(U6 0),(St []),(.slice a18 (5 + 1) c18),(.bool false)]) (fun W hM => iList_any _ _ _ W) ?_
  refine sx_S 1 b1 (zn (sx_ret ?_))
  refine sx_ret_any [.cell 4 89] [(.agg #[(I6 4),(U6 0),(St []),(.slice a18 (5 + 1) c18),(.bool false)])] rfl ⟨(retK' 1 b1 5),trivial⟩ (fun W' hM => ?_)
  exact retN_of hM (View.le_trans (View.le_trans hV2 hV8) hV18) ⟨[(I6 4),(U6 0),(St []),(.slice a18 (5 + 1) c18),(.bool false)],rfl,((TV.list c18 hT18)).cast (by simp only [bkItems,h0,bs,if_true,if_false,cond_true,cond_false,reduceIte,List.append_nil])⟩
 ·
  refine zk (zQ 1 ?_)
  refine sx_fz 33 (Rw.row b7 5 []) [(I6 0),(N6 x.t.toNat),(St []),S0,(.bool false),(I6 0),(N6 x.n.toNat),(St []),S0,(.bool false),(I6 0),(N6 x.f),(St []),S0,(.bool false),(I6 0),(N6 x.c.toNat),(St []),S0,(.bool false),(I6 2),(U6 0),(St x.d),S0,(.bool false)] 5 5 [(bK b0 x.cs 38),(b1,.cells [(I6 0),(U6 0),(St []),S0,(.bool false)].toArray 89 (0,0))] 89 (by kernel_rfl) ⟨rfl,rfl,Nat.le_refl _,by decide⟩ (by kernel_rfl) (fun a27 c27 V27 hV27 hR27 hE27 => ?_)
  have k33 := hAb7.le hV27
  have hT27 : TsAt V27 a27 ([(Itm.numT x.t.toNat),(Itm.numT x.n.toNat),(Itm.numT x.f),(Itm.numT x.c.toNat),(strT x.d)]) := TsAt.ofRow ([((Itm.numT x.t.toNat),[(I6 0),(N6 x.t.toNat),(St []),S0,(.bool false)]),((Itm.numT x.n.toNat),[(I6 0),(N6 x.n.toNat),(St []),S0,(.bool false)]),((Itm.numT x.f),[(I6 0),(N6 x.f),(St []),S0,(.bool false)]),((Itm.numT x.c.toNat),[(I6 0),(N6 x.c.toNat),(St []),S0,(.bool false)]),((strT x.d),[(I6 2),(U6 0),(St x.d),S0,(.bool false)])]) hR27 (by first | rfl | (simp only [List.flatMap_append]; rfl)) k33 _ (by first | rfl | (simp only [List.map_append]; rfl)) (show 5 ≤ R47 by decide)
  refine sx_C 178 #[(.slice a27 5 c27)] (.agg #[(I6 4),(U6 0),(St []),(.slice a27 5 c27),(.bool false)]) (fun W hM => iList_any _ _ _ W) ?_
  refine sx_S 1 b1 (zn (sx_ret ?_))
  refine sx_ret_any [.cell 4 89] [(.agg #[(I6 4),(U6 0),(St []),(.slice a27 5 c27),(.bool false)])] rfl ⟨(retK' 1 b1 5),trivial⟩ (fun W' hM => ?_)
  exact retN_of hM (View.le_trans hV2 hV27) ⟨[(I6 4),(U6 0),(St []),(.slice a27 5 c27),(.bool false)],rfl,((TV.list c27 hT27)).cast (by simp only [bkItems,h0,bs,if_true,if_false,cond_true,cond_false,reduceIte,List.append_nil])⟩
def zsum (k : Int) (l : List Itm.Tr) : List UInt8 := crcB k (Itm.bytesB (Itm.arrT (l.set (l.length - 1) (strT (Z (2 * k.toNat))))))
def sumZ (k : Int) (l : List Itm.Tr) : Itm.Tr := if k == 0 then Itm.arrT l else Itm.arrT (l.set (l.length - 1) (strT (zsum k l)))
set_option maxHeartbeats 16000000 in
theorem bSummed_any (k : Int) (l : List Itm.Tr) (w : World) {U : View} (hU : ∀ a v, U a = some v → w.cell? a = some v) (a : Option Addr) (c : Nat) (hts : TsAt U a l) (hk0 : 0 ≤ k) (hk2 : k ≤ 2) (hr : Itm.rightT 8 (Itm.arrT (l.set (l.length - 1) (strT (Z (2 * k.toNat))))) = true) (hsz : Itm.szT (Itm.arrT (l.set (l.length - 1) (strT (Z (2 * k.toNat))))) ≤ 1000000000) (hne : l ≠ []) (hle : l.length ≤ 1000) :
    Calls Tryz.prog 259 #[.int .i64 k, .agg #[.int .i64 4, .int .u64 0, .string (B []), .slice a l.length c, .bool false]] w (RetN w U (ItemOf (sumZ k l))) := by
 have hb := Itm.bytesB_len (Itm.arrT (l.set (l.length - 1) (strT (Z (2 * k.toNat)))))
 have hcl := crcB_len (Itm.bytesB (Itm.arrT (l.set (l.length - 1) (strT (Z (2 * k.toNat)))))) hk0 hk2
 have hzl := Z_length (2 * k.toNat)
 have hpos : 0 < l.length := List.length_pos_iff.2 hne
 have hk2n : 2 * k = ((2 * k.toNat : Nat) : Int) := by omega
 have hwl : IntKind.i64.wrap (((l.length : Nat) : Int) - 1) = ((l.length - 1 : Nat) : Int) := by
  rw [IntWalk.i64_in _ (by omega)]
  omega
 have hT0 : TV U (Itm.arrT l) [.int .i64 4,.int .u64 0,.string (B []),.slice a l.length c,.bool false] := TV.list c hts
 refine sx_enter (f := 259) 40 U Tryz.func259 rfl rfl rfl hU ?_
 refine zs (zr (sx_N (fun b0 => (sx_N (fun b1 => (zn (zs (zQ 2 (zn (sx_D (k == 0) (fun h0 => ?_) (fun h0 => ?_)))))))))))
 ·
  refine zB [1] [(b0,5)] (sx_S 1 b1 (zn (sx_ret ?_)))
  refine sx_ret_any [.cell 4 89] [(.agg #[(I6 4),(U6 0),(St []),(.slice a l.length c),(.bool false)])] rfl ⟨(retK' 1 b1 5),trivial⟩ (fun W' hM => ?_)
  exact retN_of hM (View.le_refl _) ⟨[(I6 4),(U6 0),(St []),(.slice a l.length c),(.bool false)],rfl,(hT0).cast (by simp only [sumZ,zsum,h0,bs,if_true,if_false,cond_true,cond_false,reduceIte,List.append_nil])⟩
 ·
  have h0d := beq_eq_false_iff_ne.1 h0
  refine zk (zB [0,1] [(b0,1)] ?_)
  obtain ⟨bb2,ff2,L2,rfl,hF2,hA2,hG2⟩ := hts.open hne
  refine sx_callR 251 #[(Sl bb2 ff2 l.length c)] 89 5 l.length (L2.flatMap Prod.snd) (by kernel_rfl) (fun W hM => cloneIt_any hM.view bb2 ff2 l.length _ _ hG2 (by rw [hA2.flat_len,← List.length_map (f := Prod.fst),hF2]) hA2.one hpos (by omega)) (by kernel_rfl) (by kernel_rfl) (fun b3 c3 j3 hJ3 => ?_)
  refine zq 1 (zn (zQ 4 (sx_E 17 (I6 (IntKind.i64.wrap ((((l.length : Nat)) : Int) - 1))) (I6 ((l.length - 1 : Nat) : Int)) (congrArg (Value.int .i64) hwl) ?_)))
  refine zq 1 (sx_C 247 #[(I6 k)] (I6 ((2 * k.toNat : Nat) : Int)) (fun W hM => (hk2n ▸ cSize_any k W hk0 hk2)) ?_)
  refine sx_C 246 #[(St [0]),(I6 ((2 * k.toNat : Nat) : Int))] (St (Z (2 * k.toNat))) (fun W hM => Repeat_any (2 * k.toNat) W (by omega)) ?_
  refine sx_C 42 #[(St (Z (2 * k.toNat)))] (.agg #[(I6 2),(U6 0),(St (Z (2 * k.toNat))),S0,(.bool false)]) (fun W hM => iStr_any (Z (2 * k.toNat)) W) ?_
  refine sx_R (.pointer (some ⟨b3,0 + (l.length - 1) * 5,none⟩)) (rIx 89 rfl b3 0 l.length c3 (l.length - 1) 5) ?_
  have hL2 : L2.length = l.length := by rw [← List.length_map (f := Prod.fst),hF2]
  refine sx_sP 2 b3 (0 + (l.length - 1) * 5) 5 (L2.flatMap Prod.snd ++ j3) 89 89 (.agg #[(I6 2),(U6 0),(St (Z (2 * k.toNat))),S0,(.bool false)]) (.tmp 22) (.tmp 21) rfl (by kernel_rfl) (by kernel_rfl) (by kernel_rfl) (by kernel_rfl) (by rw [List.length_append,hA2.flat_len,hL2]; omega) rfl (by kernel_rfl) ?_
  have e2_1 : stCells (L2.flatMap Prod.snd ++ j3) (0 + (l.length - 1) * 5) [(I6 2),(U6 0),(St (Z (2 * k.toNat))),S0,(.bool false)] = (L2.set (l.length - 1) ((strT (Z (2 * k.toNat))),[(I6 2),(U6 0),(St (Z (2 * k.toNat))),S0,(.bool false)])).flatMap Prod.snd ++ j3 := by rw [Nat.zero_add,flat_set hA2 (l.length - 1) ((strT (Z (2 * k.toNat))),[(I6 2),(U6 0),(St (Z (2 * k.toNat))),S0,(.bool false)]) j3 (by omega) rfl]
  refine sx_mem _ [(b0,.cells [(I6 4),(U6 0),(St []),(Sl bb2 ff2 l.length c),(.bool false)].toArray 89 (0,0)),(b1,.cells [(I6 0),(U6 0),(St []),S0,(.bool false)].toArray 89 (0,0)),(b3,.cells ((L2.set (l.length - 1) ((strT (Z (2 * k.toNat))),[(I6 2),(U6 0),(St (Z (2 * k.toNat))),S0,(.bool false)])).flatMap Prod.snd ++ j3).toArray 89 (0,0))] (fun W h => h.eqv ((show _ = ([(b0,.cells [(I6 4),(U6 0),(St []),(Sl bb2 ff2 l.length c),(.bool false)].toArray 89 (0,0)),(b1,.cells [(I6 0),(U6 0),(St []),S0,(.bool false)].toArray 89 (0,0)),(b3,.cells (stCells (L2.flatMap Prod.snd ++ j3) (0 + (l.length - 1) * 5) [(I6 2),(U6 0),(St (Z (2 * k.toNat))),S0,(.bool false)]).toArray 89 (0,0))] : Blks) from by kernel_rfl).trans (by rw [e2_1]))) ?_
  have hA2_1 := hA2.set (l.length - 1) ((strT (Z (2 * k.toNat))),[(I6 2),(U6 0),(St (Z (2 * k.toNat))),S0,(.bool false)]) (TV.str _ (Z (2 * k.toNat)) (by first | assumption | decide | (unfold R47; omega)))
  have hL2_1 : (L2.set (l.length - 1) ((strT (Z (2 * k.toNat))),[(I6 2),(U6 0),(St (Z (2 * k.toNat))),S0,(.bool false)])).length = l.length := by rw [List.length_set,hL2]
  refine zn (zQ 1 (sx_C 178 #[(Sl b3 0 l.length c3)] (.agg #[(I6 4),(U6 0),(St []),(Sl b3 0 l.length c3),(.bool false)]) (fun W hM => iList_any _ _ _ W) ?_))
  refine sx_C 136 #[(.agg #[(I6 4),(U6 0),(St []),(Sl b3 0 l.length c3),(.bool false)])] (.tuple #[(St (Itm.bytesB (Itm.arrT (l.set (l.length - 1) (strT (Z (2 * k.toNat))))))),(I6 0)]) (fun W hM => (by obtain ⟨V9,v1,v2,v3⟩ := hM.peek 2 b3 ((L2.set (l.length - 1) ((strT (Z (2 * k.toNat))),[(I6 2),(U6 0),(St (Z (2 * k.toNat))),S0,(.bool false)])).flatMap Prod.snd ++ j3) 89 (by kernel_rfl); have ht := TV.list c3 (TsAt.ofRow (L2.set (l.length - 1) ((strT (Z (2 * k.toNat))),[(I6 2),(U6 0),(St (Z (2 * k.toNat))),S0,(.bool false)])) ⟨fun _ => ⟨b3,rfl,(range_append v2).1⟩⟩ rfl (hA2_1.le v1) (l.set (l.length - 1) (strT (Z (2 * k.toNat)))) (by rw [List.map_set,hF2]) (by rw [List.length_set]; unfold R47; omega)); rw [List.length_set] at ht; exact iBuild_any _ _ v3 ht hr (by unfold sz50; omega))) ?_
  refine zq 5 (zn (zQ 4 (sx_E 32 (I6 (IntKind.i64.wrap ((((l.length : Nat)) : Int) - 1))) (I6 ((l.length - 1 : Nat) : Int)) (congrArg (Value.int .i64) hwl) ?_)))
  refine zq 2 (sx_C 252 #[(I6 k),(St (Itm.bytesB (Itm.arrT (l.set (l.length - 1) (strT (Z (2 * k.toNat)))))))] (St (crcB k (Itm.bytesB (Itm.arrT (l.set (l.length - 1) (strT (Z (2 * k.toNat)))))))) (fun W hM => cSum_any k _ W (by unfold R47; omega)) ?_)
  refine sx_C 42 #[(St (crcB k (Itm.bytesB (Itm.arrT (l.set (l.length - 1) (strT (Z (2 * k.toNat))))))))] (.agg #[(I6 2),(U6 0),(St (crcB k (Itm.bytesB (Itm.arrT (l.set (l.length - 1) (strT (Z (2 * k.toNat)))))))),S0,(.bool false)]) (fun W hM => iStr_any (crcB k (Itm.bytesB (Itm.arrT (l.set (l.length - 1) (strT (Z (2 * k.toNat))))))) W) ?_
  refine sx_R (.pointer (some ⟨b3,0 + (l.length - 1) * 5,none⟩)) (rIx 89 rfl b3 0 l.length c3 (l.length - 1) 5) ?_
  refine sx_sP 2 b3 (0 + (l.length - 1) * 5) 5 ((L2.set (l.length - 1) ((strT (Z (2 * k.toNat))),[(I6 2),(U6 0),(St (Z (2 * k.toNat))),S0,(.bool false)])).flatMap Prod.snd ++ j3) 89 89 (.agg #[(I6 2),(U6 0),(St (crcB k (Itm.bytesB (Itm.arrT (l.set (l.length - 1) (strT (Z (2 * k.toNat)))))))),S0,(.bool false)]) (.tmp 37) (.tmp 36) rfl (by kernel_rfl) (by kernel_rfl) (by kernel_rfl) (by kernel_rfl) (by rw [List.length_append,hA2_1.flat_len,hL2_1]; omega) rfl (by kernel_rfl) ?_
  have e2_2 : stCells ((L2.set (l.length - 1) ((strT (Z (2 * k.toNat))),[(I6 2),(U6 0),(St (Z (2 * k.toNat))),S0,(.bool false)])).flatMap Prod.snd ++ j3) (0 + (l.length - 1) * 5) [(I6 2),(U6 0),(St (crcB k (Itm.bytesB (Itm.arrT (l.set (l.length - 1) (strT (Z (2 * k.toNat)))))))),S0,(.bool false)] = ((L2.set (l.length - 1) ((strT (Z (2 * k.toNat))),[(I6 2),(U6 0),(St (Z (2 * k.toNat))),S0,(.bool false)])).set (l.length - 1) ((strT (crcB k (Itm.bytesB (Itm.arrT (l.set (l.length - 1) (strT (Z (2 * k.toNat)))))))),[(I6 2),(U6 0),(St (crcB k (Itm.bytesB (Itm.arrT (l.set (l.length - 1) (strT (Z (2 * k.toNat)))))))),S0,(.bool false)])).flatMap Prod.snd ++ j3 := by rw [Nat.zero_add,flat_set hA2_1 (l.length - 1) ((strT (crcB k (Itm.bytesB (Itm.arrT (l.set (l.length - 1) (strT (Z (2 * k.toNat)))))))),[(I6 2),(U6 0),(St (crcB k (Itm.bytesB (Itm.arrT (l.set (l.length - 1) (strT (Z (2 * k.toNat)))))))),S0,(.bool false)]) j3 (by omega) rfl]
  refine sx_mem _ [(b0,.cells [(I6 4),(U6 0),(St []),(Sl bb2 ff2 l.length c),(.bool false)].toArray 89 (0,0)),(b1,.cells [(I6 0),(U6 0),(St []),S0,(.bool false)].toArray 89 (0,0)),(b3,.cells (((L2.set (l.length - 1) ((strT (Z (2 * k.toNat))),[(I6 2),(U6 0),(St (Z (2 * k.toNat))),S0,(.bool false)])).set (l.length - 1) ((strT (crcB k (Itm.bytesB (Itm.arrT (l.set (l.length - 1) (strT (Z (2 * k.toNat)))))))),[(I6 2),(U6 0),(St (crcB k (Itm.bytesB (Itm.arrT (l.set (l.length - 1) (strT (Z (2 * k.toNat)))))))),S0,(.bool false)])).flatMap Prod.snd ++ j3).toArray 89 (0,0))] (fun W h => h.eqv ((show _ = ([(b0,.cells [(I6 4),(U6 0),(St []),(Sl bb2 ff2 l.length c),(.bool false)].toArray 89 (0,0)),(b1,.cells [(I6 0),(U6 0),(St []),S0,(.bool false)].toArray 89 (0,0)),(b3,.cells (stCells ((L2.set (l.length - 1) ((strT (Z (2 * k.toNat))),[(I6 2),(U6 0),(St (Z (2 * k.toNat))),S0,(.bool false)])).flatMap Prod.snd ++ j3) (0 + (l.length - 1) * 5) [(I6 2),(U6 0),(St (crcB k (Itm.bytesB (Itm.arrT (l.set (l.length - 1) (strT (Z (2 * k.toNat)))))))),S0,(.bool false)]).toArray 89 (0,0))] : Blks) from by kernel_rfl).trans (by rw [e2_2]))) ?_
  have hA2_2 := hA2_1.set (l.length - 1) ((strT (crcB k (Itm.bytesB (Itm.arrT (l.set (l.length - 1) (strT (Z (2 * k.toNat)))))))),[(I6 2),(U6 0),(St (crcB k (Itm.bytesB (Itm.arrT (l.set (l.length - 1) (strT (Z (2 * k.toNat)))))))),S0,(.bool false)]) (TV.str _ (crcB k (Itm.bytesB (Itm.arrT (l.set (l.length - 1) (strT (Z (2 * k.toNat))))))) (by first | assumption | decide | (unfold R47; omega)))
  have hL2_2 : ((L2.set (l.length - 1) ((strT (Z (2 * k.toNat))),[(I6 2),(U6 0),(St (Z (2 * k.toNat))),S0,(.bool false)])).set (l.length - 1) ((strT (crcB k (Itm.bytesB (Itm.arrT (l.set (l.length - 1) (strT (Z (2 * k.toNat)))))))),[(I6 2),(U6 0),(St (crcB k (Itm.bytesB (Itm.arrT (l.set (l.length - 1) (strT (Z (2 * k.toNat)))))))),S0,(.bool false)])).length = l.length := by rw [List.length_set,hL2_1]
  refine zn (zQ 1 ?_)
  refine sx_freeze [(b0,.cells [(I6 4),(U6 0),(St []),(Sl bb2 ff2 l.length c),(.bool false)].toArray 89 (0,0)),(b1,.cells [(I6 0),(U6 0),(St []),S0,(.bool false)].toArray 89 (0,0))] [] b3 (((L2.set (l.length - 1) ((strT (Z (2 * k.toNat))),[(I6 2),(U6 0),(St (Z (2 * k.toNat))),S0,(.bool false)])).set (l.length - 1) ((strT (crcB k (Itm.bytesB (Itm.arrT (l.set (l.length - 1) (strT (Z (2 * k.toNat)))))))),[(I6 2),(U6 0),(St (crcB k (Itm.bytesB (Itm.arrT (l.set (l.length - 1) (strT (Z (2 * k.toNat)))))))),S0,(.bool false)])).flatMap Prod.snd ++ j3) 89 (by kernel_rfl) (fun V2 hV2 hR2 => ?_)
  have hX2 := TV.list c3 (TsAt.ofRow ((L2.set (l.length - 1) ((strT (Z (2 * k.toNat))),[(I6 2),(U6 0),(St (Z (2 * k.toNat))),S0,(.bool false)])).set (l.length - 1) ((strT (crcB k (Itm.bytesB (Itm.arrT (l.set (l.length - 1) (strT (Z (2 * k.toNat)))))))),[(I6 2),(U6 0),(St (crcB k (Itm.bytesB (Itm.arrT (l.set (l.length - 1) (strT (Z (2 * k.toNat)))))))),S0,(.bool false)])) ⟨fun _ => ⟨b3,rfl,(range_append hR2).1⟩⟩ rfl (hA2_2.le hV2) (l.set (l.length - 1) (strT (crcB k (Itm.bytesB (Itm.arrT (l.set (l.length - 1) (strT (Z (2 * k.toNat))))))))) (by rw [List.map_set,List.map_set,hF2,List.set_set]) (by rw [List.length_set]; unfold R47; omega))
  rw [List.length_set] at hX2
  refine sx_C 178 #[(Sl b3 0 l.length c3)] (.agg #[(I6 4),(U6 0),(St []),(Sl b3 0 l.length c3),(.bool false)]) (fun W hM => iList_any _ _ _ W) ?_
  refine sx_S 1 b1 (zn (sx_ret ?_))
  refine sx_ret_any [.cell 4 89] [(.agg #[(I6 4),(U6 0),(St []),(Sl b3 0 l.length c3),(.bool false)])] rfl ⟨(retK' 1 b1 5),trivial⟩ (fun W' hM => ?_)
  exact retN_of hM hV2 ⟨[(I6 4),(U6 0),(St []),(Sl b3 0 l.length c3),(.bool false)],rfl,(hX2).cast (by simp only [sumZ,zsum,h0,bs,if_true,if_false,cond_true,cond_false,reduceIte,List.append_nil])⟩
theorem ei_len {e : Ei} (h : eiRight e = true) : e.l.length ≤ 60 := by
 unfold eiRight Eid.rightB at h
 split at h
 ·
  rw [Bool.and_eq_true] at h
  by_cases hl : e.l.length ≤ 60
  · exact hl
  ·
   have := Eid.namedB_long e.l (by omega)
   rw [this] at h
   cases h.2
 ·
  split at h
  ·
   rw [decide_eq_true_eq] at h
   rw [h.1]
   exact Nat.zero_le _
  · cases h
theorem tree_right (e : Ei) (d : Nat) : Itm.rightT (d + 3) e.tree = true := by
 unfold Ei.tree
 split
 · simp [Itm.rightT, Itm.arrT, Itm.numT, Itm.okN, Itm.Tr.k, Itm.Tr.n, Itm.Tr.s, Itm.Tr.l, Itm.Tr.o]
 ·
  split
  · simp [Itm.rightT, Itm.arrT, Itm.numT, Itm.okN, Itm.Tr.k, Itm.Tr.n, Itm.Tr.s, Itm.Tr.l, Itm.Tr.o]
  · simp [Itm.rightT, Itm.arrT, Itm.numT, txtT, Itm.okN, Itm.Tr.k, Itm.Tr.n, Itm.Tr.s, Itm.Tr.l, Itm.Tr.o]
theorem tree_sz {e : Ei} (h : eiRight e = true) : Itm.szT e.tree ≤ 70 := by
 have := ei_len h
 unfold Ei.tree
 split
 · simp [Itm.szT, Itm.szL, Itm.arrT, Itm.numT]
 ·
  split
  · simp [Itm.szT, Itm.szL, Itm.arrT, Itm.numT]
  · simp [Itm.szT, Itm.szL, Itm.arrT, Itm.numT, txtT]; omega
theorem num_right (n d : Nat) : Itm.rightT (d + 1) (Itm.numT n) = true := by simp [Itm.rightT, Itm.numT, Itm.okN, Itm.Tr.k, Itm.Tr.n, Itm.Tr.s, Itm.Tr.l, Itm.Tr.o]
theorem str_right (l : List UInt8) (d : Nat) : Itm.rightT (d + 1) (strT l) = true := by simp [Itm.rightT, strT, Itm.okN, Itm.Tr.k, Itm.Tr.n, Itm.Tr.s, Itm.Tr.l, Itm.Tr.o]
theorem arr_right {l : List Itm.Tr} {d : Nat} (h : l.all (Itm.rightT d) = true) (hl : l.length ≤ 1000) : Itm.rightT (d + 1) (Itm.arrT l) = true := by simp [Itm.rightT, Itm.arrT, Itm.okN, Itm.Tr.k, Itm.Tr.n, Itm.Tr.s, Itm.Tr.l, Itm.Tr.o, hl]; simpa using h
theorem prItems_right (p : Pr) (s : List UInt8) : Itm.rightT 8 (Itm.arrT (prItems p s)) = true := by
 refine arr_right ?_ ?_
 ·
  unfold prItems
  simp only [List.all_append, List.all_cons, List.all_nil, num_right, tree_right p.dst 4, tree_right p.src 4, tree_right p.rpt 4, Bool.and_true, Bool.true_and, Bool.and_eq_true]
  refine ⟨⟨arr_right (by simp [num_right]) (by simp), ?_⟩, ?_⟩
  · split <;> simp [num_right]
  · split <;> simp [str_right]
 ·
  unfold prItems
  simp only [List.length_append, List.length_cons, List.length_nil]
  split <;> split <;> simp
theorem szL_app (a b : List Itm.Tr) : Itm.szL (a ++ b) = Itm.szL a + Itm.szL b := Itm.szL_append a b
theorem prItems_sz {p : Pr} (s : List UInt8) (hd : eiRight p.dst = true) (hs : eiRight p.src = true) (hr : eiRight p.rpt = true) : Itm.szT (Itm.arrT (prItems p s)) ≤ 300 + s.length := by
 have h1 := tree_sz hd
 have h2 := tree_sz hs
 have h3 := tree_sz hr
 rw [Itm.arrT, Itm.szT]
 unfold prItems
 simp only [szL_app]
 have e1 : ∀ n, Itm.szT (Itm.numT n) = 1 := fun n => by simp [Itm.szT, Itm.numT, Itm.szL]
 have e2 : Itm.szT (strT s) = 1 + s.length := by simp [Itm.szT, strT, Itm.szL]
 have e3 : ∀ a b, Itm.szT (Itm.arrT [Itm.numT a, Itm.numT b]) = 3 := fun a b => by simp [Itm.szT, Itm.arrT, Itm.numT, Itm.szL]
 have a1 : Itm.szL (if isFrag p.f then [Itm.numT p.off, Itm.numT p.tot] else []) ≤ 2 := by split <;> simp [Itm.szL, e1]
 have a2 : Itm.szL (if p.c != 0 then [strT s] else []) ≤ 1 + s.length := by split <;> simp [Itm.szL, e2]
 simp only [Itm.szL, e1, e3, List.length_nil] at a1 a2 ⊢
 omega
theorem prItems_len (p : Pr) (s : List UInt8) : prItems p s ≠ [] ∧ (prItems p s).length ≤ 1000 := by
 unfold prItems
 refine ⟨by simp, ?_⟩
 simp only [List.length_append, List.length_cons, List.length_nil]
 split <;> split <;> simp
def prZ (p : Pr) : List Itm.Tr := prItems p (Z (2 * p.c.toNat))
def Pr.tree (p : Pr) : Itm.Tr := sumT p.c (prZ p)
theorem prRight_parts {p : Pr} (h : prRight p = 0) : prRanged p = true := by
 unfold prRight at h
 cases hr : prRanged p with
 | true => rfl
 | false => rw [hr] at h; simp at h
theorem prRanged_parts {p : Pr} (h : prRanged p = true) : eiRight p.dst = true ∧ eiRight p.src = true ∧ eiRight p.rpt = true ∧ 0 ≤ p.c ∧ p.c ≤ 2 := by
 unfold prRanged at h
 simp only [Bool.and_eq_true, decide_eq_true_eq] at h
 obtain ⟨⟨⟨⟨⟨⟨_, h1⟩, h2⟩, h3⟩, h4⟩, h5⟩, _⟩ := h
 exact ⟨h1, h2, h3, h4, h5⟩
theorem sumT_right {k : Int} {l : List Itm.Tr} (h : Itm.rightT 8 (Itm.arrT l) = true) : Itm.rightT 8 (sumT k l) = true := by
 unfold sumT
 split
 · exact h
 ·
  have h' := h
  unfold Itm.rightT at h'
  simp only [Itm.arrT, Itm.Tr.l, Itm.Tr.k, Itm.Tr.n, Itm.Tr.s, Itm.Tr.o, Bool.and_eq_true] at h'
  refine arr_right (List.all_eq_true.2 fun x hx => ?_) ?_
  ·
   rcases List.mem_or_eq_of_mem_set hx with hx | rfl
   · exact List.all_eq_true.1 h'.2 x hx
   · exact str_right _ 6
  ·
   rw [List.length_set]
   have := h'.1
   simp [Itm.okN] at this
   exact this
theorem szL_set (l : List Itm.Tr) (i : Nat) (x : Itm.Tr) : Itm.szL (l.set i x) ≤ Itm.szL l + Itm.szT x := by
 induction l generalizing i with
 | nil => simp [Itm.szL]
 | cons y l ih =>
  cases i with
  | zero => rw [List.set_cons_zero, Itm.szL, Itm.szL]; omega
  | succ i =>
   have := ih i
   rw [List.set_cons_succ, Itm.szL, Itm.szL]
   omega
theorem sumT_sz {k : Int} {l : List Itm.Tr} (h0 : 0 ≤ k) (h2 : k ≤ 2) : Itm.szT (sumT k l) ≤ Itm.szT (Itm.arrT l) + 5 := by
 have hl := crcB_len (Itm.bytesB (Itm.arrT l)) h0 h2
 unfold sumT
 split
 · omega
 ·
  have := szL_set l (l.length - 1) (strT (crcB k (Itm.bytesB (Itm.arrT l))))
  have e2 : Itm.szT (strT (crcB k (Itm.bytesB (Itm.arrT l)))) = 1 + (crcB k (Itm.bytesB (Itm.arrT l))).length := by simp [Itm.szT, strT, Itm.szL]
  simp only [Itm.arrT, Itm.szT] at *
  omega
theorem pItem_ok (p : Pr) (w : World) {U : View} (hU : ∀ a v, U a = some v → w.cell? a = some v) (hp : p.ok) (h : (prRight p != 0) = false) : Calls Tryz.prog 224 #[p.V] w (RetN w U (ItemIs p.tree 0)) := by
 have hr0 : prRight p = 0 := by simpa using h
 obtain ⟨hd,hs,hr,hc0,hc2⟩ := prRanged_parts (prRight_parts hr0)
 have hk2n : 2 * p.c = ((2 * p.c.toNat : Nat) : Int) := by omega
 have hmx : (if (0 : Int) > ((2 * p.c.toNat : Nat) : Int) then (0 : Int) else ((2 * p.c.toNat : Nat) : Int)) = ((2 * p.c.toNat : Nat) : Int) := if_neg (by omega)
 have hzl := Z_length (2 * p.c.toNat)
 have hsz := prItems_sz (p := p) (Z (2 * p.c.toNat)) hd hs hr
 refine sx_enter (f := 224) 21 U Tryz.func224 rfl rfl rfl hU ?_
 refine zs (zr (sx_N (fun b0 => (sx_N (fun b1 => (zq 1 (zn (zs (zB [1] [(b0,19)] (sx_C 191 #[(p.V)] (I6 (prRight p)) (fun W hM => pRight_any p W hp) ?_))))))))))
 refine zq 1 (zn (zQ 2 (zn (sx_F' ((prRight p) != 0) h ?_))))
 refine zk (zs ?_)
 refine sx_drawnQ 9 3 4 [11,12,13,14,15,16,17,18,19] [.val (Pt b0 1),.val (I6 p.c),.val (p.V),.val (Pt b0 1),.val (I6 p.c),.val (I6 ((2 * p.c.toNat : Nat) : Int)),.val (I6 ((2 * p.c.toNat : Nat) : Int)),.val (St (Z (2 * p.c.toNat))),.mem (ItemOf (Itm.arrT (prZ p)))] (by kernel_rfl) rfl rfl (by kernel_rfl) (by kernel_rfl) (by kernel_rfl) (by kernel_rfl) (by kernel_rfl) (by kernel_rfl) (by simp only [List.forall_mem_cons]; exact ⟨trivial,trivial,trivial,trivial,trivial,trivial,trivial,trivial,by intro v V V2 hV2 hP; (first | exact PhiMono.go hP hV2 | (obtain ⟨g,e,hP⟩ := hP; exact ⟨g,e,hP.le hV2⟩)),fun _ h => by cases h⟩) ⟨?_,?_,?_,?_,?_,?_,?_,?_,?_,trivial⟩ [2,3,12,19] (fun u => [(Pt b1 0),(I6 0),(I6 p.c),u 8]) (fun u => by kernel_rfl) ?_
 · exact oqQ 0 rfl (Pt b0 1) (Pt b0 1) rfl rfl (fun u => by kernel_rfl) (fun u => by kernel_rfl)
 · exact oqL 1 0 b0 1 p.cs 26 rfl (I6 p.c) rfl (by kernel_rfl) (fun u => by kernel_rfl) (fun u => by kernel_rfl)
 · exact oqL 2 0 b0 19 p.cs 26 rfl (p.V) rfl (by kernel_rfl) (fun u => by kernel_rfl) (fun u => by kernel_rfl)
 · exact oqQ 3 rfl (Pt b0 1) (Pt b0 1) rfl rfl (fun u => by kernel_rfl) (fun u => by kernel_rfl)
 · exact oqL 4 0 b0 1 p.cs 26 rfl (I6 p.c) rfl (by kernel_rfl) (fun u => by kernel_rfl) (fun u => by kernel_rfl)
 ·
  refine oqV 5 247 rfl rfl (I6 ((2 * p.c.toNat : Nat) : Int)) rfl [15] (fun u => [(I6 p.c)]) (fun u => by kernel_rfl) (fun u V hV hdq => ?_)
  refine ⟨#[(I6 p.c)],by kernel_rfl,fun W hW => ?_⟩
  exact (hk2n ▸ cSize_any p.c W hc0 hc2)
 · exact oqQ 6 rfl (I6 (if 0 > ((2 * p.c.toNat : Nat) : Int) then 0 else ((2 * p.c.toNat : Nat) : Int))) (I6 ((2 * p.c.toNat : Nat) : Int)) (congrArg (Value.int .i64) hmx) rfl (fun u => by kernel_rfl) (fun u => by kernel_rfl)
 ·
  refine oqV 7 246 rfl rfl (St (Z (2 * p.c.toNat))) rfl [17] (fun u => [(I6 ((2 * p.c.toNat : Nat) : Int))]) (fun u => by kernel_rfl) (fun u V hV hdq => ?_)
  refine ⟨#[(St [0]),(I6 ((2 * p.c.toNat : Nat) : Int))],by kernel_rfl,fun W hW => ?_⟩
  exact Repeat_any (2 * p.c.toNat) W (by omega)
 ·
  refine oqM 8 245 rfl rfl (ItemOf (Itm.arrT (prZ p))) rfl [13,18] (fun u => [(p.V),(St (Z (2 * p.c.toNat)))]) (fun u => by kernel_rfl) (fun u V hV hdq => ?_)
  refine ⟨#[(p.V),(St (Z (2 * p.c.toNat)))],by kernel_rfl,fun W hW => ?_⟩
  exact pParts_any p _ W hW hp (by unfold R47; omega) hc0 hc2 hd hs hr
 intro u2 V2 hV2 hdq2
 have e8_2 : (ItemOf (Itm.arrT (prZ p))) (u2 8) V2 := hdq2 8 (by decide)
 obtain ⟨cs8_2,q8_2,ht8_2⟩ := e8_2
 obtain ⟨a8_2,c8_2,rfl,hts8_2,hn8_2,hs8_2,hl8_2⟩ := ht8_2.form
 rw [q8_2]
 refine sx_O 244 #[(I6 p.c),(.agg #[(I6 4),(U6 0),(St []),(.slice a8_2 (prZ p).length c8_2),(.bool false)])] (ItemOf (sumT p.c (prZ p))) (fun W hM => pSummed_any p.c (prZ p) W hM.view _ _ hts8_2 hc0 hc2 (prItems_right p _) (by unfold prZ; omega) (prItems_len p _).1 (prItems_len p _).2) (fun v3 V3 hV3 hP3 => ?_)
 obtain ⟨cs3,rfl,ht3⟩ := hP3
 obtain ⟨a3,c3,rfl,hts3,hn3,hs3,hl3⟩ := ht3.form
 refine sx_S 1 b1 (zq 1 (zn (sx_ret ?_)))
 refine sx_ret_any [.cell 2 89,.tmp 3] [(.agg #[(I6 (sumT p.c (prZ p)).k),(N6 (sumT p.c (prZ p)).n),(St (sumT p.c (prZ p)).s),(.slice a3 (sumT p.c (prZ p)).l.length c3),(.bool (sumT p.c (prZ p)).o)]),(I6 0)] rfl ⟨(retK' 1 b1 5),retT',trivial⟩ (fun W' hM => ?_)
 exact retN_of hM (View.le_trans hV2 hV3) ⟨[(I6 (sumT p.c (prZ p)).k),(N6 (sumT p.c (prZ p)).n),(St (sumT p.c (prZ p)).s),(.slice a3 (sumT p.c (prZ p)).l.length c3),(.bool (sumT p.c (prZ p)).o)],rfl,ht3⟩
def prBytes (p : Pr) : List UInt8 := Itm.bytesB p.tree
theorem pBuild_any (p : Pr) (w : World) (hp : p.ok) (h : prRight p = 0) : Calls Tryz.prog 192 #[p.V] w (Ret (.tuple #[.string (B (prBytes p)), .int .i64 0]) w) := by
 have h' : (prRight p != 0) = false := by simp [h]
 obtain ⟨hd,hs,hr,hc0,hc2⟩ := prRanged_parts (prRight_parts h)
 have hzl := Z_length (2 * p.c.toNat)
 have hsz := prItems_sz (p := p) (Z (2 * p.c.toNat)) hd hs hr
 have hsz2 := sumT_sz (l := prZ p) hc0 hc2
 refine sx_enter (f := 192) 18 View.no Tryz.func192 rfl rfl rfl (fun _ _ h => by cases h) ?_
 refine zs (zr (sx_N (fun b0 => (zq 2 (zn (zB [1] [(b0,19)] (sx_O 224 #[(p.V)] (ItemIs p.tree 0) (fun W hM => pItem_ok p W hM.view hp h') (fun v1 V1 hV1 hP1 => ?_))))))))
 obtain ⟨cs1,rfl,ht1⟩ := hP1
 obtain ⟨a1,c1,rfl,hts1,hn1,hs1,hl1⟩ := ht1.form
 refine zq 3 (sx_N (fun b2 => (sx_S 1 b2 (zq 1 (zn (zs (zQ 2 (zn (sx_F (zk (zB [2] [(b2,5)] (sx_C 136 #[(.agg #[(I6 p.tree.k),(N6 p.tree.n),(St p.tree.s),(.slice a1 p.tree.l.length c1),(.bool p.tree.o)])] (.tuple #[(St (Itm.bytesB p.tree)),(I6 0)]) (fun W hM => iBuild_any _ _ hM.view ht1 (sumT_right (prItems_right p _)) (by unfold Pr.tree prZ sz50 at *; omega)) ?_))))))))))))
 refine zq 4 (zn (sx_ret (sx_Z [2,3] [(St (Itm.bytesB p.tree)),(I6 0)] (fun W' hM => ?_))))
 exact ⟨rfl,hM.below⟩
def Pr.bare (p : Pr) : Pr := ⟨p.f, 0, p.dst, p.src, p.rpt, p.time, p.seq, p.life, p.off, p.tot⟩
theorem bare_right {p : Pr} (h : prRight p = 0) : prRight p.bare = 0 := by
 have hr := prRight_parts h
 have hb : prRanged p.bare = true := by
  have e : prRanged p.bare = (prRanged ⟨p.f, 0, p.dst, p.src, p.rpt, p.time, p.seq, p.life, p.off, p.tot⟩) := rfl
  rw [e]
  simp only [prRanged, Bool.and_eq_true, decide_eq_true_eq] at hr ⊢
  obtain ⟨⟨⟨⟨⟨⟨h0, h1⟩, h2⟩, h3⟩, h4⟩, h5⟩, h6⟩ := hr
  exact ⟨⟨⟨⟨⟨⟨h0, h1⟩, h2⟩, h3⟩, Int.le_refl 0⟩, by omega⟩, h6⟩
 unfold prRight at h ⊢
 rw [hr] at h
 rw [hb]
 exact h
theorem bare_ok {p : Pr} (h : p.ok) : p.bare.ok := ⟨h.f, h.dst, h.src, h.rpt, h.time, h.seq, h.life, h.off, h.tot⟩
theorem pPlain_any (p : Pr) (w : World) (hp : p.ok) (h : prRight p = 0) : Calls Tryz.prog 141 #[p.V] w (Ret (.tuple #[.string (B (prBytes p.bare)), .int .i64 0]) w) := by
 have h' : (prRight p != 0) = false := by simp [h]
 refine sx_enter (f := 141) 15 View.no Tryz.func141 rfl rfl rfl (fun _ _ h => by cases h) ?_
 refine zs (zr (sx_N (fun b0 => (zq 2 (zn (zs (zB [1] [(b0,19)] (sx_C 191 #[(p.V)] (I6 (prRight p)) (fun W hM => pRight_any p W hp) ?_))))))))
 refine zq 1 (zn (zQ 2 (zn (sx_F' ((prRight p) != 0) h' ?_))))
 refine zk (zQ 1 (sx_S 0 b0 (zn (zB [1] [(b0,19)] (sx_C 192 #[(.agg #[(N6 p.f),(I6 0),(I6 p.dst.s),(St p.dst.l),(N6 p.dst.n),(N6 p.dst.v),(I6 p.src.s),(St p.src.l),(N6 p.src.n),(N6 p.src.v),(I6 p.rpt.s),(St p.rpt.l),(N6 p.rpt.n),(N6 p.rpt.v),(N6 p.time),(N6 p.seq),(N6 p.life),(N6 p.off),(N6 p.tot)])] (.tuple #[(St (prBytes p.bare)),(I6 0)]) (fun W hM => pBuild_any p.bare W (bare_ok hp) (bare_right h)) ?_)))))
 refine zq 4 (zn (sx_ret (sx_Z [2,3] [(St (prBytes p.bare)),(I6 0)] (fun W' hM => ?_))))
 exact ⟨rfl,hM.below⟩
theorem bkRight_parts {x : Bk} (h : bkRight x = 0) : codedB x.t = true ∧ codedB x.n = true ∧ 0 ≤ x.c ∧ x.c ≤ 2 ∧ x.f ≤ 255 ∧ x.d.length ≤ 4000 := by
 unfold bkRight at h
 split at h
 · cases h
 ·
  next h1 =>
  split at h
  · cases h
  ·
   next h2 =>
   simp only [Bool.or_eq_true, Bool.not_eq_true', decide_eq_true_eq, not_or, Bool.not_eq_false] at h1 h2
   exact ⟨h1.1.1.1.1, h1.1.1.1.2, by omega, by omega, by omega, by omega⟩
theorem bkItems_right (x : Bk) (s : List UInt8) : Itm.rightT 8 (Itm.arrT (bkItems x s)) = true := by
 refine arr_right ?_ ?_
 ·
  unfold bkItems
  simp only [List.all_append, List.all_cons, List.all_nil, num_right, str_right, Bool.and_true, Bool.true_and]
  split <;> simp [str_right]
 ·
  unfold bkItems
  simp only [List.length_append, List.length_cons, List.length_nil]
  split <;> simp
theorem bkItems_sz (x : Bk) (s : List UInt8) : Itm.szT (Itm.arrT (bkItems x s)) ≤ 10 + x.d.length + s.length := by
 rw [Itm.arrT, Itm.szT]
 unfold bkItems
 simp only [szL_app]
 have e1 : ∀ n, Itm.szT (Itm.numT n) = 1 := fun n => by simp [Itm.szT, Itm.numT, Itm.szL]
 have e2 : ∀ t, Itm.szT (strT t) = 1 + t.length := fun t => by simp [Itm.szT, strT, Itm.szL]
 have a1 : Itm.szL (if x.c != 0 then [strT s] else []) ≤ 1 + s.length := by split <;> simp [Itm.szL, e2]
 simp only [Itm.szL, e1, e2, List.length_nil] at a1 ⊢
 omega
theorem bkItems_len (x : Bk) (s : List UInt8) : bkItems x s ≠ [] ∧ (bkItems x s).length ≤ 1000 := by
 unfold bkItems
 refine ⟨by simp, ?_⟩
 simp only [List.length_append, List.length_cons, List.length_nil]
 split <;> simp
def Bk.tree (x : Bk) : Itm.Tr := sumZ x.c (bkItems x [])
theorem sumZ_right {k : Int} {l : List Itm.Tr} (h : Itm.rightT 8 (Itm.arrT l) = true) : Itm.rightT 8 (sumZ k l) = true := by
 unfold sumZ
 split
 · exact h
 ·
  have h' := h
  unfold Itm.rightT at h'
  simp only [Itm.arrT, Itm.Tr.l, Itm.Tr.k, Itm.Tr.n, Itm.Tr.s, Itm.Tr.o, Bool.and_eq_true] at h'
  refine arr_right (List.all_eq_true.2 fun x hx => ?_) ?_
  ·
   rcases List.mem_or_eq_of_mem_set hx with hx | rfl
   · exact List.all_eq_true.1 h'.2 x hx
   · exact str_right _ 6
  ·
   rw [List.length_set]
   have := h'.1
   simp [Itm.okN] at this
   exact this
theorem setR {l : List Itm.Tr} (s : List UInt8) (i : Nat) (h : Itm.rightT 8 (Itm.arrT l) = true) : Itm.rightT 8 (Itm.arrT (l.set i (strT s))) = true := by
 have h' := h
 unfold Itm.rightT at h'
 simp only [Itm.arrT, Itm.Tr.l, Itm.Tr.k, Itm.Tr.n, Itm.Tr.s, Itm.Tr.o, Bool.and_eq_true] at h'
 refine arr_right (List.all_eq_true.2 fun x hx => ?_) ?_
 ·
  rcases List.mem_or_eq_of_mem_set hx with hx | rfl
  · exact List.all_eq_true.1 h'.2 x hx
  · exact str_right _ 6
 ·
  rw [List.length_set]
  have := h'.1
  simp [Itm.okN] at this
  exact this
theorem setS {l : List Itm.Tr} (s : List UInt8) (i : Nat) : Itm.szT (Itm.arrT (l.set i (strT s))) ≤ Itm.szT (Itm.arrT l) + 1 + s.length := by
 have := szL_set l i (strT s)
 have e2 : Itm.szT (strT s) = 1 + s.length := by simp [Itm.szT, strT, Itm.szL]
 simp only [Itm.arrT, Itm.szT] at *
 omega
theorem sumZ_sz {k : Int} {l : List Itm.Tr} (h0 : 0 ≤ k) (h2 : k ≤ 2) : Itm.szT (sumZ k l) ≤ Itm.szT (Itm.arrT l) + 5 := by
 have hl := crcB_len (Itm.bytesB (Itm.arrT (l.set (l.length - 1) (strT (Z (2 * k.toNat)))))) h0 h2
 unfold sumZ zsum
 split
 · omega
 ·
  have := setS (l := l) (crcB k (Itm.bytesB (Itm.arrT (l.set (l.length - 1) (strT (Z (2 * k.toNat))))))) (l.length - 1)
  omega
theorem bItem_ok (x : Bk) (w : World) {U : View} (hU : ∀ a v, U a = some v → w.cell? a = some v) (hp : x.ok) (h : (bkRight x != 0) = false) : Calls Tryz.prog 248 #[x.V] w (RetN w U (ItemIs x.tree 0)) := by
 have hr0 : bkRight x = 0 := by simpa using h
 obtain ⟨ht,hn,hc0,hc2,hf,hdl⟩ := bkRight_parts hr0
 have hsz := bkItems_sz x []
 have hss := setS (l := bkItems x []) (Z (2 * x.c.toNat)) ((bkItems x []).length - 1)
 have hzl := Z_length (2 * x.c.toNat)
 refine sx_enter (f := 248) 16 U Tryz.func248 rfl rfl rfl hU ?_
 refine zs (zr (sx_N (fun b0 => (sx_N (fun b1 => (zq 1 (zn (zs (zB [1] [(b0,5)] (sx_C 193 #[(x.V)] (I6 (bkRight x)) (fun W hM => bRight_any x W) ?_))))))))))
 refine zq 1 (zn (zQ 2 (zn (sx_F' ((bkRight x) != 0) h ?_))))
 refine zk (zs ?_)
 refine sx_drawnQ 4 3 1 [11,12,13,14] [.val (Pt b0 3),.val (I6 x.c),.val (x.V),.mem (ItemOf (Itm.arrT (bkItems x [])))] (by kernel_rfl) rfl rfl (by kernel_rfl) (by kernel_rfl) (by kernel_rfl) (by kernel_rfl) (by kernel_rfl) (by kernel_rfl) (by simp only [List.forall_mem_cons]; exact ⟨trivial,trivial,trivial,by intro v V V2 hV2 hP; (first | exact PhiMono.go hP hV2 | (obtain ⟨g,e,hP⟩ := hP; exact ⟨g,e,hP.le hV2⟩)),fun _ h => by cases h⟩) ⟨?_,?_,?_,?_,trivial⟩ [2,3,12,14] (fun u => [(Pt b1 0),(I6 0),(I6 x.c),u 3]) (fun u => by kernel_rfl) ?_
 · exact oqQ 0 rfl (Pt b0 3) (Pt b0 3) rfl rfl (fun u => by kernel_rfl) (fun u => by kernel_rfl)
 · exact oqL 1 0 b0 1 x.cs 38 rfl (I6 x.c) rfl (by kernel_rfl) (fun u => by kernel_rfl) (fun u => by kernel_rfl)
 · exact oqL 2 0 b0 5 x.cs 38 rfl (x.V) rfl (by kernel_rfl) (fun u => by kernel_rfl) (fun u => by kernel_rfl)
 ·
  refine oqM 3 260 rfl rfl (ItemOf (Itm.arrT (bkItems x []))) rfl [13] (fun u => [(x.V)]) (fun u => by kernel_rfl) (fun u V hV hdq => ?_)
  refine ⟨#[(x.V),(St [])],by kernel_rfl,fun W hW => ?_⟩
  exact bWith_any x [] _ hW hp (by unfold R47; simp) ht hn hc0 hc2
 intro u2 V2 hV2 hdq2
 have e3_2 : (ItemOf (Itm.arrT (bkItems x []))) (u2 3) V2 := hdq2 3 (by decide)
 obtain ⟨cs3_2,q3_2,ht3_2⟩ := e3_2
 obtain ⟨a3_2,c3_2,rfl,hts3_2,hn3_2,hs3_2,hl3_2⟩ := ht3_2.form
 rw [q3_2]
 refine sx_O 259 #[(I6 x.c),(.agg #[(I6 4),(U6 0),(St []),(.slice a3_2 (bkItems x []).length c3_2),(.bool false)])] (ItemOf (sumZ x.c (bkItems x []))) (fun W hM => bSummed_any x.c (bkItems x []) W hM.view _ _ hts3_2 hc0 hc2 (setR _ _ (bkItems_right x _)) (by simp only [List.length_nil] at hsz; omega) (bkItems_len x _).1 (bkItems_len x _).2) (fun v3 V3 hV3 hP3 => ?_)
 obtain ⟨cs3,rfl,ht3⟩ := hP3
 obtain ⟨a3,c3,rfl,hts3,hn3,hs3,hl3⟩ := ht3.form
 refine sx_S 1 b1 (zq 1 (zn (sx_ret ?_)))
 refine sx_ret_any [.cell 2 89,.tmp 3] [(.agg #[(I6 (sumZ x.c (bkItems x [])).k),(N6 (sumZ x.c (bkItems x [])).n),(St (sumZ x.c (bkItems x [])).s),(.slice a3 (sumZ x.c (bkItems x [])).l.length c3),(.bool (sumZ x.c (bkItems x [])).o)]),(I6 0)] rfl ⟨(retK' 1 b1 5),retT',trivial⟩ (fun W' hM => ?_)
 exact retN_of hM (View.le_trans hV2 hV3) ⟨[(I6 (sumZ x.c (bkItems x [])).k),(N6 (sumZ x.c (bkItems x [])).n),(St (sumZ x.c (bkItems x [])).s),(.slice a3 (sumZ x.c (bkItems x [])).l.length c3),(.bool (sumZ x.c (bkItems x [])).o)],rfl,ht3⟩
def bkBytes (x : Bk) : List UInt8 := Itm.bytesB x.tree
theorem bBuild_any (x : Bk) (w : World) (hp : x.ok) (h : bkRight x = 0) : Calls Tryz.prog 233 #[x.V] w (Ret (.tuple #[.string (B (bkBytes x)), .int .i64 0]) w) := by
 have h' : (bkRight x != 0) = false := by simp [h]
 obtain ⟨ht,hn,hc0,hc2,hf,hdl⟩ := bkRight_parts h
 have hsz := bkItems_sz x []
 have hsz2 := sumZ_sz (l := bkItems x []) hc0 hc2
 refine sx_enter (f := 233) 18 View.no Tryz.func233 rfl rfl rfl (fun _ _ h => by cases h) ?_
 refine zs (zr (sx_N (fun b0 => (zq 2 (zn (zB [1] [(b0,5)] (sx_O 248 #[(x.V)] (ItemIs x.tree 0) (fun W hM => bItem_ok x W hM.view hp h') (fun v1 V1 hV1 hP1 => ?_))))))))
 obtain ⟨cs1,rfl,ht1⟩ := hP1
 obtain ⟨a1,c1,rfl,hts1,hn1,hs1,hl1⟩ := ht1.form
 refine zq 3 (sx_N (fun b2 => (sx_S 1 b2 (zq 1 (zn (zs (zQ 2 (zn (sx_F (zk (zB [2] [(b2,5)] (sx_C 136 #[(.agg #[(I6 x.tree.k),(N6 x.tree.n),(St x.tree.s),(.slice a1 x.tree.l.length c1),(.bool x.tree.o)])] (.tuple #[(St (Itm.bytesB x.tree)),(I6 0)]) (fun W hM => iBuild_any _ _ hM.view ht1 (sumZ_right (bkItems_right x _)) (by simp only [List.length_nil] at hsz; unfold Bk.tree sz50 at *; omega)) ?_))))))))))))
 refine zq 4 (zn (sx_ret (sx_Z [2,3] [(St (Itm.bytesB x.tree)),(I6 0)] (fun W' hM => ?_))))
 exact ⟨rfl,hM.below⟩
def headB (x : Bk) : List UInt8 := Itm.headB 0 x.t.toNat ++ Itm.headB 0 x.n.toNat ++ Itm.headB 0 x.f
theorem bHeader_no (x : Bk) (w : World) (h : (bkRight x != 0) = true) : Calls Tryz.prog 142 #[x.V] w (Ret (.tuple #[.string (B []), .int .i64 (bkRight x)]) w) := by
 refine sx_enter (f := 142) 23 View.no Tryz.func142 rfl rfl rfl (fun _ _ h => by cases h) ?_
 refine zs (zr (sx_N (fun b0 => (zq 2 (zn (zs (zB [1] [(b0,5)] (sx_C 193 #[(x.V)] (I6 (bkRight x)) (fun W hM => bRight_any x W) ?_))))))))
 refine zq 1 (zn (zQ 2 (zn (sx_T' ((bkRight x) != 0) h ?_))))
 refine zQ 3 (zn (sx_ret (sx_Z [2,3] [(St []),(I6 (bkRight x))] (fun W' hM => ?_))))
 exact ⟨rfl,hM.below⟩
theorem bHeader_any (x : Bk) (w : World) (hp : x.ok) (h : bkRight x = 0) : Calls Tryz.prog 142 #[x.V] w (Ret (.tuple #[.string (B (headB x)), .int .i64 0]) w) := by
 have h' : (bkRight x != 0) = false := by simp [h]
 have hf := hp.f
 obtain ⟨ht,hn,hc0,hc2,hf2,hdl⟩ := bkRight_parts h
 unfold codedB at ht hn
 simp only [Bool.and_eq_true,decide_eq_true_eq] at ht hn
 have w1 : IntKind.u64.wrap x.t = (x.t.toNat : Int) := by have := u64_in (x := x.t) (by omega) (by omega); omega
 have w2 : IntKind.u64.wrap x.n = (x.n.toNat : Int) := by have := u64_in (x := x.n) (by omega) (by omega); omega
 have n1 : x.t.toNat < W64 := by unfold W64; omega
 have n2 : x.n.toNat < W64 := by unfold W64; omega
 have g1 := (Itm.headB_length 0 x.t.toNat).2
 have g2 := (Itm.headB_length 0 x.n.toNat).2
 have g3 := (Itm.headB_length 0 x.f).2
 refine sx_enter (f := 142) 23 View.no Tryz.func142 rfl rfl rfl (fun _ _ h => by cases h) ?_
 refine zs (zr (sx_N (fun b0 => (zq 2 (zn (zs (zB [1] [(b0,5)] (sx_C 193 #[(x.V)] (I6 (bkRight x)) (fun W hM => bRight_any x W) ?_))))))))
 refine zq 1 (zn (zQ 2 (zn (sx_F' ((bkRight x) != 0) h' ?_))))
 refine zk (zs (sx_W 12 3 4 [10,11,12,13,14,15,16,17,18,19,20,21] [.val (Pt b0 0),.val (I6 x.t),.val (N6 x.t.toNat),.val (St (Itm.headB 0 x.t.toNat)),.val (Pt b0 1),.val (I6 x.n),.val (N6 x.n.toNat),.val (St (Itm.headB 0 x.n.toNat)),.val (St ((Itm.headB 0 x.t.toNat) ++ (Itm.headB 0 x.n.toNat))),.val (Pt b0 2),.val (N6 x.f),.val (St (Itm.headB 0 x.f))] ⟨?_,?_,?_,?_,?_,?_,?_,?_,?_,?_,?_,?_,trivial⟩ ?_))
 · exact oQ 0 rfl (Pt b0 0) rfl
 · exact oL 1 0 b0 1 x.cs 38 rfl (I6 x.t) rfl
 · exact oE 2 rfl (U6 (IntKind.u64.wrap x.t)) (N6 x.t.toNat) (congrArg (Value.int .u64) w1) rfl
 · exact obC 3 144 #[(I6 0),(N6 x.t.toNat)] rfl (St (Itm.headB 0 x.t.toNat)) rfl (by kernel_rfl) (fun W hM => cHead_any 0 x.t.toNat W (by omega) (by first | assumption | (unfold W64; omega) | decide)) (by kernel_rfl)
 · exact oQ 4 rfl (Pt b0 1) rfl
 · exact oL 5 0 b0 1 x.cs 38 rfl (I6 x.n) rfl
 · exact oE 6 rfl (U6 (IntKind.u64.wrap x.n)) (N6 x.n.toNat) (congrArg (Value.int .u64) w2) rfl
 · exact obC 7 144 #[(I6 0),(N6 x.n.toNat)] rfl (St (Itm.headB 0 x.n.toNat)) rfl (by kernel_rfl) (fun W hM => cHead_any 0 x.n.toNat W (by omega) (by first | assumption | (unfold W64; omega) | decide)) (by kernel_rfl)
 · exact obR 8 rfl (St ((Itm.headB 0 x.t.toNat) ++ (Itm.headB 0 x.n.toNat))) rfl (by kernel_rfl) (run_cat _ _ _ _ rfl (Itm.headB 0 x.t.toNat) (Itm.headB 0 x.n.toNat) (by kernel_rfl) (by kernel_rfl) (by first | omega | (simp only [List.length_append,List.length_cons,List.length_nil]; omega))) (by kernel_rfl)
 · exact oQ 9 rfl (Pt b0 2) rfl
 · exact oL 10 0 b0 1 x.cs 38 rfl (N6 x.f) rfl
 · exact obC 11 144 #[(I6 0),(N6 x.f)] rfl (St (Itm.headB 0 x.f)) rfl (by kernel_rfl) (fun W hM => cHead_any 0 x.f W (by omega) (by first | assumption | (unfold W64; omega) | decide)) (by kernel_rfl)
 refine sx_R (St (((Itm.headB 0 x.t.toNat) ++ (Itm.headB 0 x.n.toNat)) ++ (Itm.headB 0 x.f))) (run_cat _ _ _ _ rfl ((Itm.headB 0 x.t.toNat) ++ (Itm.headB 0 x.n.toNat)) (Itm.headB 0 x.f) (by kernel_rfl) (by kernel_rfl) (by first | omega | (simp only [List.length_append,List.length_cons,List.length_nil]; omega))) ?_
 refine zq 2 (zn (sx_ret (sx_Z [2,3] [(St (((Itm.headB 0 x.t.toNat) ++ (Itm.headB 0 x.n.toNat)) ++ (Itm.headB 0 x.f))),(I6 0)] (fun W' hM => ?_))))
 exact ⟨rfl,hM.below⟩
end Go.Proofs.YtcdjakemdlinhaaGreatDoor.Sx
