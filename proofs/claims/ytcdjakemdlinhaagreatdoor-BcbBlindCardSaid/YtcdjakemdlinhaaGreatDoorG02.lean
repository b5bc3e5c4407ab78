/-
  Several texts in one: Sx5 Sx6 SxI Sxd Eid Eid2 Pri1 Open Open2 Slc Stp Itm Itm2 Itm3.
  Conditions: named at each.
-/
import Derived.Test.YtcdjakemdlinhaaGreatDoorG01
import Derived.Deep.AppendLies
import Derived.Deep.Slices
import Derived.Deep.MidRow
import Derived.SizedLaws
import Derived.Deep.CutRange
set_option linter.unusedSimpArgs false
set_option linter.unusedVariables false
set_option linter.unusedSectionVars false
namespace Go.Proofs.YtcdjakemdlinhaaGreatDoor.Sx
open Go.ChangeShapes Go.WideShapes Go.ChangeAt Go.RowKit Go.Deep
theorem View.le_refl (U : View) : View.le U U := fun _ _ h => h
theorem View.le_trans {U V T : View} (h : View.le U V) (k : View.le V T) : View.le U T := fun a v hv => k a v (h a v hv)
def View.or (U V : View) : View := fun a => (U a).or (V a)
theorem View.le_or (U V : View) : View.le U (U.or V) := fun a v h => by unfold View.or; rw [h]; rfl
theorem View.or_r {U V : View} {a : Addr} {v : Value} (h : V a = some v) (hn : U a = none) : U.or V a = some v := by unfold View.or; rw [hn, h]; rfl
def RetN (w : World) (U : View) (Φ : Value → View → Prop) : Ending → World → Prop := fun e w' => ∃ v V, e = .returned v ∧ Below w.heap.size w w' ∧ View.le U V ∧ (∀ a u, V a = some u → w'.cell? a = some u) ∧ (∀ a u, V a = some u → a.block < w.heap.size → U a = some u) ∧ Φ v V
theorem retN_of {w W' : World} {U V : View} {σ : Blks} {Φ : Value → View → Prop} {v : Value} (hM : Mem ⟨w, U⟩ V σ W') (hl : View.le U V) (h : Φ v V) : RetN w U Φ (.returned v) W' := ⟨v, V, rfl, hM.below, hl, hM.view, hM.old, h⟩
section
variable {P : Program} {n : Nat} {W0 : Cx} {Q : XQ} {s : Slots} {U : View} {σ : Blks} {ops : Array Oper} {l : List Oper} {o : Oper}
theorem Mem.retN {W W' : World} {V : View} (hM : Mem W0 U σ W) (hb : Below W.heap.size W W') (hl : View.le U V) (hv : ∀ a u, V a = some u → W'.cell? a = some u) (ho : ∀ a u, V a = some u → a.block < W.heap.size → U a = some u) : Mem W0 V σ W' := by
 have h := hM.call hb
 refine h.grow (fun a v hu hlt => hM.old a v (ho a v hu (Nat.lt_of_lt_of_le hlt hM.below.size)) hlt) hv fun k b x hk a ha => ?_
 obtain ⟨q1, q2, q3⟩ := hM.own k b x hk
 cases hu : V a with
 | none => rfl
 | some v =>
  have h1 := ho a v hu (by rw [ha]; exact lt_of_heap q1)
  rw [q3 a ha] at h1; cases h1
theorem sx_callN (f : FuncId) (args : Array Value) (Φ : Value → View → Prop) (he : enters P s o = some (f, args)) (hc : ∀ W, Mem W0 U σ W → Calls P f args W (RetN W U Φ)) (hd : dstOk n o = true) (hw : wantS ops s o = some true)
  (h : ∀ v V, View.le U V → Φ v V → SXL P n W0 Q ops l (putS o v s) V σ) : SXL P n W0 Q ops (o :: l) s U σ :=
 sx_callX f args he hd hw fun W hM => (hc W hM).mono fun _ W' ⟨v, V, he, hb, hl, hv, ho, hΦ⟩ => ⟨v, _, V, σ, he, hM.retN hb hl hv ho, rfl, h v V hl hΦ⟩
end
def andI (k : IntKind) (x y : Int) : Int := k.wrap (BitVec.ofInt k.bits x &&& BitVec.ofInt k.bits y).toNat
def notI (k : IntKind) (x : Int) : Int := k.wrap (BitVec.ofInt k.bits (if k.signed then -1 else k.max) ^^^ BitVec.ofInt k.bits x).toNat
def xorI (k : IntKind) (x y : Int) : Int := k.wrap (BitVec.ofInt k.bits x ^^^ BitVec.ofInt k.bits y).toNat
def orI (k : IntKind) (x y : Int) : Int := k.wrap (BitVec.ofInt k.bits x ||| BitVec.ofInt k.bits y).toNat
theorem View.sub {U : View} {b f : Nat} {cs ds : List Value} (h : U.range b f cs) (o n : Nat) (hd : (cs.drop o).take n = ds) : U.range b (f + o) ds := fun j v hj => by
 rw [← hd, List.getElem?_take] at hj
 split at hj
 ·
  rw [List.getElem?_drop] at hj
  rw [Nat.add_assoc]
  exact h _ _ hj
 · cases hj
theorem obQE {P : Program} {n : Nat} {W0 : Cx} {s : Slots} {U : View} {σ : Blks} {ops : Array Oper} {ds : List Nat} {vs : List Sp} (i : Nat) {o : Oper} (hi : ops[i]? = some o) (v v' : Value) (he : v = v') (hvi : vs[i]? = some (.val v')) (hw : wantS ops (depS ops ds vs i ++ minusS s ds) o = some true) (hq : quiet P (depS ops ds vs i ++ minusS s ds) o = some v) : Ob P n W0 U σ ops ds vs s i :=
 obQ i hi v' hvi hw (he ▸ hq)
set_option maxHeartbeats 1600000 in
set_option maxRecDepth 100000 in
theorem run_eqEi {s : Slots} {o : Oper} (yt : TypeId) (x y : Operand) (ho : o.op = .binOp .eql 24 x y yt) (a1 a3 a4 b1 b3 b4 : Int) (a2 b2 : List UInt8)
  (hx : evS s x = some (.agg #[.int .i64 a1, .string (B a2), .int .u64 a3, .int .u64 a4])) (hy : evS s y = some (.agg #[.int .i64 b1, .string (B b2), .int .u64 b3, .int .u64 b4])) (W : World) :
  (execOp (ev s) o).run Tryz.prog W = .ok (.value (.bool (decide (a1 = b1 ∧ a2 = b2 ∧ a3 = b3 ∧ a4 = b4)))) W := by
 unfold execOp
 simp only [ho, ev_of hx, ev_of hy]
 go_simp
 (repeat' split) <;> simp_all [B_inj]
inductive Rw where
 | nil
 | row (b cap : Nat) (junk : List Value)
def Rw.V : Rw → Nat → Value
 | .nil, _ => .slice none 0 0
 | .row b cap _, n => .slice (some ⟨b, 0, none⟩) n cap
def Rw.B : Rw → TypeId → List Value → Blks
 | .nil, _, _ => []
 | .row b _ junk, e, xs => [(b, .cells (xs ++ junk).toArray e (0, 0))]
def Rw.ok : Rw → Nat → Nat → List Value → Prop
 | .nil, _, n, xs => n = 0 ∧ xs = []
 | .row _ cap junk, z, n, xs => xs.length = n * z ∧ (xs ++ junk).length = cap * z ∧ n ≤ cap ∧ cap ≤ maxLen
theorem Rw.ok_nil (z : Nat) : Rw.nil.ok z 0 [] := ⟨rfl, rfl⟩
def Rw.W : Rw → List Value → View
 | .nil, _ => View.no
 | .row b _ _, xs => fun a => if a.block = b ∧ a.spot = none then xs[a.off]? else none
section
variable {P : Program} {n : Nat} {W0 : Cx} {Q : XQ} {s : Slots} {U : View} {σ : Blks} {ops : Array Oper} {l : List Oper} {o : Oper}
theorem getElem?_mid {α : Type} (a b c : List α) (i : Nat) (x : α) (h : b[i]? = some x) : (a ++ (b ++ c))[a.length + i]? = some x := by
 rw [List.getElem?_append_right (by omega), Nat.add_sub_cancel_left, List.getElem?_append_left (List.getElem?_eq_some_iff.1 h).1, h]
theorem Mem.swap {W W' : World} {σ1 σ2 B B' : Blks} (hM : Mem W0 U (σ1 ++ (B ++ σ2)) W) (hb : Below W0.w.heap.size W0.w W')
  (hold : ∀ (k : Nat) (x : Nat × Obj), (σ1 ++ σ2)[k]? = some x → W'.heap[x.1]? = W.heap[x.1]?) (hview : ∀ a v, U a = some v → W'.cell? a = some v)
  (hnew : B' = [] ∨ ∃ b o, B' = [(b, o)] ∧ W'.heap[b]? = some o ∧ W0.w.heap.size ≤ b ∧ (∀ a, a.block = b → U a = none) ∧ ∀ (k : Nat) (x : Nat × Obj), (σ1 ++ σ2)[k]? = some x → x.1 ≠ b) : Mem W0 U (σ1 ++ (B' ++ σ2)) W' := by
 have hs : Mem W0 U (σ1 ++ σ2) W := hM.sub (List.Sublist.append (List.Sublist.refl _) (List.sublist_append_right _ _))
 have h12 : Mem W0 U (σ1 ++ σ2) W' := ⟨hb, hM.old, hview, fun k b o hk => by
  obtain ⟨q1, q2, q3⟩ := hs.own k b o hk
  exact ⟨by rw [hold k (b, o) hk]; exact q1, q2, q3⟩, hs.apart⟩
 rcases hnew with rfl | ⟨b, o, rfl, hbo, hge, hU, hne⟩
 · simpa using h12
 ·
  have hmem : ∀ (k : Nat) (x : Nat × Obj), (σ1 ++ ([(b, o)] ++ σ2))[k]? = some x → (k = σ1.length ∧ x = (b, o)) ∨ ∃ j, (σ1 ++ σ2)[j]? = some x ∧ (j = k ∧ k < σ1.length ∨ j + 1 = k ∧ σ1.length < k) := by
   intro k x hk
   rcases Nat.lt_trichotomy k σ1.length with h | h | h
   ·
    rw [List.getElem?_append_left h] at hk
    exact .inr ⟨k, by rw [List.getElem?_append_left h]; exact hk, .inl ⟨rfl, h⟩⟩
   ·
    rw [List.getElem?_append_right (by omega), h, Nat.sub_self] at hk
    simp at hk
    exact .inl ⟨h, hk.symm⟩
   ·
    rw [List.getElem?_append_right (by omega), List.getElem?_append_right (by simp; omega)] at hk
    refine .inr ⟨k - 1, ?_, .inr ⟨by omega, h⟩⟩
    rw [List.getElem?_append_right (by omega)]
    rw [← hk]
    congr 1
    simp; omega
  refine ⟨hb, hM.old, hview, fun k c x hk => ?_, fun j k x y hj hk e => ?_⟩
  ·
   rcases hmem k _ hk with ⟨_, h⟩ | ⟨j, hj, _⟩
   ·
    simp only [Prod.mk.injEq] at h
    obtain ⟨rfl, rfl⟩ := h
    exact ⟨hbo, hge, hU⟩
   · exact h12.own j c x hj
  ·
   rcases hmem j x hj with ⟨h1, rfl⟩ | ⟨j', hj', hj2⟩ <;> rcases hmem k y hk with ⟨h3, rfl⟩ | ⟨k', hk', hk2⟩
   · omega
   · exact absurd e.symm (hne k' y hk')
   · exact absurd e (hne j' x hj')
   ·
    have := h12.apart j' k' x y hj' hk' e
    omega
theorem sx_app (r : Rw) (xs : List Value) (m : Nat) (σ1 σ2 : Blks) (e : TypeId) (t : TypeId) (z bytes k : Nat) (hσ : σ = σ1 ++ (r.B e xs ++ σ2)) (hok : r.ok z m xs) (x y : Operand) (ho : o.op = .call { callee := .builtin .append, args := #[x, y], argTypes := #[t, t] }) (hx : evS s x = some (r.V m))
  (b f c : Nat) (news : List Value) (hy : evS s y = some (.slice (some ⟨b, f, none⟩) k c)) (hnews : ∀ W, Mem W0 U σ W → W.rangeAt b f news) (hl : news.length = k * z) (h1 : (news.all fun u => u.oneCell') = true) (hk : 0 < k) (h63 : m + k ≤ maxLen) (hby : (m + k) * bytes ≤ 140737488355328)
  (i : TypeInfo) (zv : Value) (ht : P.underlying t = some (.slice e)) (hi : P.info? e = some i) (hz : i.zero = some zv) (hsize : i.size = z) (hbyt : i.bytes = bytes) (hzs : zv.cells.size = z) (hz0 : 0 < z)
  (hd : dstOk n o = true) (hw : wantS ops s o = some true)
  (h : ∀ r' : Rw, r'.ok z (m + k) (xs ++ news) → SXL P n W0 Q ops l (putS o (r'.V (m + k)) s) U (σ1 ++ (r'.B e (xs ++ news) ++ σ2))) : SXL P n W0 Q ops (o :: l) s U σ := by
 subst hσ
 refine sx_op hd hw fun a W ha hM K hK => ?_
 have hn := hnews W hM
 have hown : W.ownsRow W0.w.heap.size e z (r.V m) m xs := by
  cases r with
  | nil => obtain ⟨rfl, rfl⟩ := hok; exact ⟨by simp, .inl ⟨rfl, rfl⟩⟩
  | row g cap junk =>
   obtain ⟨q1, q2, q3, q4⟩ := hok
   have hg := hM.own (σ1.length + 0) g (.cells (xs ++ junk).toArray e (0, 0)) (getElem?_mid σ1 _ σ2 0 _ rfl)
   exact ⟨q1, .inr ⟨g, cap, (xs ++ junk).toArray, rfl, hg.2.1, hg.1, q3, q4, by simpa using q2, by rw [← q1]; simp⟩⟩
 refine wp_append_lies W x y t ho W0.w.heap.size e i zv z bytes ht hi hz hsize hbyt hzs hz0 (r.V m) m xs (ev_rep ha hx) hown ⟨b, f, none⟩ k c news (ev_rep ha hy) hl (fun j u hu => by rw [Addr.add_mid]; exact hn j u hu) (fun u hu => List.all_eq_true.1 h1 u hu) hk h63 hby hM.below.size _ rfl ?_
 intro g cap w' hown' hgr hgo hglt
 obtain ⟨hlen, h2⟩ := hown'
 rcases h2 with ⟨h2, _⟩ | ⟨g', cap', cur, hv, hge, hh, hle, hcm, hcs, htk⟩
 · cases h2
 ·
  simp only [Value.slice.injEq, Option.some.injEq, Addr.mk.injEq, and_true, true_and] at hv
  obtain ⟨rfl, rfl⟩ := hv
  have hcur : cur = ((xs ++ news) ++ cur.toList.drop ((m + k) * z)).toArray := by
   rw [← htk, List.take_append_drop]
  have hrow : r.ok z m xs := hok
  have key := h (.row g cap (cur.toList.drop ((m + k) * z))) ⟨hlen, by rw [← htk, List.take_append_drop]; simpa using hcs, hle, hcm⟩
  have hoth : ∀ (j : Nat) (q : Nat × Obj), (σ1 ++ σ2)[j]? = some q → some q.1 ≠ (r.V m).ownBlock ∧ q.1 < W.heap.size := by
   intro j q hj
   have hs : Mem W0 U (σ1 ++ σ2) W := hM.sub (List.Sublist.append (List.Sublist.refl _) (List.sublist_append_right _ _))
   refine ⟨?_, lt_of_heap (hs.own j q.1 q.2 hj).1⟩
   cases r with
   | nil => intro he; cases he
   | row g0 cap0 junk0 =>
    intro he
    have hq : q.1 = g0 := Option.some.inj he
    have hin : ∃ i, (σ1 ++ (Rw.B (.row g0 cap0 junk0) e xs ++ σ2))[i]? = some q ∧ i ≠ σ1.length := by
     by_cases hjl : j < σ1.length
     · exact ⟨j, by rw [List.getElem?_append_left hjl] at hj ⊢; exact hj, by omega⟩
     ·
      refine ⟨j + 1, ?_, by omega⟩
      rw [List.getElem?_append_right (by omega)] at hj
      rw [List.getElem?_append_right (by omega), List.getElem?_append_right (by simp [Rw.B]; omega), ← hj]
      congr 1
      simp [Rw.B]; omega
    obtain ⟨i', hi1, hi2⟩ := hin
    have := hM.apart i' (σ1.length + 0) q _ hi1 (getElem?_mid σ1 _ σ2 0 (g0, .cells (xs ++ junk0).toArray e (0, 0)) rfl) hq
    omega
  have hviewb : ∀ a v, U a = some v → a.block < W.heap.size ∧ some a.block ≠ (r.V m).ownBlock := by
   intro a v hu
   refine ⟨cell_lt (hM.view a v hu), ?_⟩
   cases r with
   | nil => intro he; cases he
   | row g0 cap0 junk0 =>
    intro he
    have := (hM.own (σ1.length + 0) g0 _ (getElem?_mid σ1 _ σ2 0 (g0, .cells (xs ++ junk0).toArray e (0, 0)) rfl)).2.2 a (Option.some.inj he)
    rw [hu] at this; cases this
  refine hK _ _ _ _ _ key (putS_rep ha hd) ?_
  refine hM.swap ?_ (fun j q hj => ?_) (fun a v hu => ?_) (.inr ⟨g, _, rfl, ?_, hge, fun a ha => ?_, fun j q hj => ?_⟩)
  ·
   refine hM.below.grown hgr hM.below.size fun j hj => ?_
   cases r with
   | nil => cases hj
   | row g0 cap0 junk0 =>
    obtain rfl : g0 = j := Option.some.inj hj
    exact (hM.own (σ1.length + 0) g0 _ (getElem?_mid σ1 _ σ2 0 (g0, .cells (xs ++ junk0).toArray e (0, 0)) rfl)).2.1
  ·
   obtain ⟨q1, q2⟩ := hoth j q hj
   exact hgr.block q.1 q2 q1
  ·
   obtain ⟨q1, q2⟩ := hviewb a v hu
   rw [World.cell?_of_block (w := W) (hgr.block a.block q1 q2)]
   exact hM.view a v hu
  · rw [hh]; exact congrArg (fun q => some (Obj.cells q e (0, 0))) hcur
  ·
   cases hu : U a with
   | none => rfl
   | some v =>
    obtain ⟨q1, q2⟩ := hviewb a v hu
    rcases hgo with hgo | hgo
    · rw [hgo, ha] at q2; exact absurd rfl q2
    · omega
  ·
   obtain ⟨q1, q2⟩ := hoth j q hj
   intro he
   rcases hgo with hgo | hgo
   · rw [hgo, he] at q1; exact absurd rfl q1
   · omega
theorem Mem.freeze {W : World} {σ1 σ2 : Blks} {r : Rw} {e : TypeId} {xs : List Value} (hM : Mem W0 U (σ1 ++ (r.B e xs ++ σ2)) W) : Mem W0 (U.or (r.W xs)) (σ1 ++ σ2) W := by
 have hs : Mem W0 U (σ1 ++ σ2) W := hM.sub (List.Sublist.append (List.Sublist.refl _) (List.sublist_append_right _ _))
 cases r with
 | nil =>
  have : U.or (Rw.W .nil xs) = U := by funext a; simp [View.or, Rw.W, View.no]
  rw [this]; exact hs
 | row b cap junk =>
  obtain ⟨q1, q2, q3⟩ := hM.own (σ1.length + 0) b (.cells (xs ++ junk).toArray e (0, 0)) (getElem?_mid σ1 _ σ2 0 _ rfl)
  have hor : ∀ a v, U.or (Rw.W (.row b cap junk) xs) a = some v → U a = some v ∨ (a.block = b ∧ a.spot = none ∧ xs[a.off]? = some v) := by
   intro a v h
   unfold View.or at h
   cases hu : U a with
   | some u => rw [hu] at h; exact .inl h
   | none =>
    rw [hu, Option.none_or] at h
    simp only [Rw.W] at h
    split at h
    · next hc => exact .inr ⟨hc.1, hc.2, h⟩
    · cases h
  refine hs.grow (fun a v h hlt => ?_) (fun a v h => ?_) (fun k c o hk a ha => ?_)
  ·
   rcases hor a v h with h | ⟨h, _, _⟩
   · exact hM.old a v h hlt
   · omega
  ·
   rcases hor a v h with h | ⟨h1, h2, h3⟩
   · exact hM.view a v h
   ·
    have : a = ⟨b, a.off, none⟩ := by
     obtain ⟨a1, a2, a3⟩ := a
     simp only at h1 h2 ⊢
     subst h1 h2
     rfl
    rw [this, cell_of_row _ _ _ _ _ _ q1]
    have hlt := (List.getElem?_eq_some_iff.1 h3).1
    simp only [List.getElem?_toArray]
    rw [List.getElem?_append_left hlt, h3]
  ·
   cases hu : (U.or (Rw.W (.row b cap junk) xs)) a with
   | none => rfl
   | some v =>
    rcases hor a v hu with h | ⟨h, _, _⟩
    · have := (hs.own k c o hk).2.2 a ha; rw [this] at h; cases h
    ·
     exfalso
     have hcb : c = b := ha.symm.trans h
     subst hcb
     have hin : ∃ i, (σ1 ++ (Rw.B (.row c cap junk) e xs ++ σ2))[i]? = some (c, o) ∧ i ≠ σ1.length := by
      by_cases hjl : k < σ1.length
      · exact ⟨k, by rw [List.getElem?_append_left hjl] at hk ⊢; exact hk, by omega⟩
      ·
       refine ⟨k + 1, ?_, by omega⟩
       rw [List.getElem?_append_right (by omega)] at hk
       rw [List.getElem?_append_right (by omega), List.getElem?_append_right (by simp [Rw.B]; omega), ← hk]
       congr 1
       simp [Rw.B]; omega
     obtain ⟨i', hi1, hi2⟩ := hin
     have := hM.apart i' (σ1.length + 0) _ _ hi1 (getElem?_mid σ1 _ σ2 0 (c, .cells (xs ++ junk).toArray e (0, 0)) rfl) rfl
     omega
end
def byV (c : UInt8) : Value := .int .u8 (c.toNat : Int)
def inV (x : Int) : Value := .int .i64 x
theorem rng_by {U : View} {b f : Nat} {l : List UInt8} (h : U.range b f (l.map byV)) {i : Nat} {y : UInt8} (hy : l[i]? = some y) : U ⟨b, f + i, none⟩ = some (.int .u8 (y.toNat : Int)) := h i _ (by rw [List.getElem?_map, hy]; rfl)
theorem rng_in {U : View} {b f : Nat} {l : List Int} (h : U.range b f (l.map inV)) {i : Nat} {y : Int} (hy : l[i]? = some y) : U ⟨b, f + i, none⟩ = some (.int .i64 y) := h i _ (by rw [List.getElem?_map, hy]; rfl)
structure InsAt (U : View) (a : Option Addr) (l : List Int) : Prop where
 at_ : l ≠ [] → ∃ b f, a = some ⟨b, f, none⟩ ∧ U.range b f (l.map inV)
 len : l.length ≤ R47
theorem InsAt.le {U V : View} (h : View.le U V) {a : Option Addr} {l : List Int} (hl : InsAt U a l) : InsAt V a l :=
 ⟨fun hne => by obtain ⟨b, f, e, hr⟩ := hl.at_ hne; exact ⟨b, f, e, View.range_le h hr⟩, hl.len⟩
theorem InsAt.one {U : View} {a : Option Addr} {l : List Int} (hl : InsAt U a l) {i : Nat} {y : Int} (hy : l[i]? = some y) : ∃ b f, a = some ⟨b, f, none⟩ ∧ U ⟨b, f + i, none⟩ = some (.int .i64 y) := by
 obtain ⟨b, f, e, hr⟩ := hl.at_ (fun h => by rw [h] at hy; simp at hy)
 exact ⟨b, f, e, rng_in hr hy⟩
structure BysAt (U : View) (a : Option Addr) (l : List UInt8) : Prop where
 at_ : l ≠ [] → ∃ b f, a = some ⟨b, f, none⟩ ∧ U.range b f (l.map byV)
 len : l.length ≤ R47
theorem BysAt.one {U : View} {a : Option Addr} {l : List UInt8} (hl : BysAt U a l) {i : Nat} {y : UInt8} (hy : l[i]? = some y) : ∃ b f, a = some ⟨b, f, none⟩ ∧ U ⟨b, f + i, none⟩ = some (.int .u8 ((y.toNat : Nat) : Int)) := by
 obtain ⟨b, f, e, hr⟩ := hl.at_ (fun h => by rw [h] at hy; simp at hy)
 exact ⟨b, f, e, rng_by hr hy⟩
theorem BysAt.of {U : View} {b f : Nat} {l : List UInt8} (h : U.range b f (l.map byV)) (hl : l.length ≤ 140737488355328) : BysAt U (some ⟨b, f, none⟩) l := ⟨fun _ => ⟨b, f, rfl, h⟩, hl⟩
section
variable {P : Program} {n : Nat} {W0 : Cx} {Q : XQ} {s : Slots} {U : View} {σ : Blks} {ops : Array Oper} {l : List Oper} {o : Oper}
theorem run_ix1 (t e : TypeId) (x ix : Operand) (ho : o.op = .indexAddr t x ix) (b f len cap i : Nat) (k : IntKind) (hx : evS s x = some (.slice (some ⟨b, f, none⟩) len cap)) (hi : evS s ix = some (.int k (i : Int))) (hlt : i < len)
  (hu : P.underlying t = some (.slice e)) (hs : (P.info? e).map (·.size) = some 1) (W : World) : (execOp (ev s) o).run P W = .ok (.value (.pointer (some ⟨b, f + i, none⟩))) W := by
 have := run_ix (o := o) t e x ix ho b f len cap i 1 k hx hi hlt hu hs W
 rw [Nat.mul_one] at this
 exact this
theorem sx_bytes (src dst e : TypeId) (x : Operand) (ho : o.op = .convert src dst x) (bs : List UInt8) (hx : evS s x = some (.string (B bs))) (hs : P.underlying src = some .string) (hdt : P.underlying dst = some (.slice e)) (he : P.underlying e = some (.int .u8))
  (hd : dstOk n o = true) (hw : wantS ops s o = some true)
  (h : ∀ (b cap : Nat) (V : View), View.le U V → V.range b 0 (bs.map byV) → bs.length ≤ cap → SXL P n W0 Q ops l (putS o (.slice (some ⟨b, 0, none⟩) bs.length cap) s) V σ) : SXL P n W0 Q ops (o :: l) s U σ := by
 refine sx_op hd hw fun a W ha hM K hK => ?_
 obtain ⟨cap, w', hrun, hcap, hb, hsz, hcell, _⟩ := bytes_conv (P := P) W src dst e bs hs hdt he
 unfold Oper.wp execOp
 simp only [ho, ev_rep ha hx, Sem.run_bind, hrun, Result.andThen_ok, Sem.run_pure]
 let V : View := fun a => if a.block = W.heap.size ∧ a.spot = none then (bs.map byV)[a.off]? else U a
 have hUn : ∀ a : Addr, a.block = W.heap.size → U a = none := by
  intro a ha
  cases hu : U a with
  | none => rfl
  | some v => have := cell_lt (hM.view a v hu); omega
 have hle : View.le U V := by
  intro a v hu
  show (if a.block = W.heap.size ∧ a.spot = none then (bs.map byV)[a.off]? else U a) = some v
  rw [if_neg (fun hc => by rw [hUn a hc.1] at hu; cases hu)]
  exact hu
 have hVr : V.range W.heap.size 0 (bs.map byV) := by
  intro j v hj
  show (if _ ∧ _ then (bs.map byV)[0 + j]? else _) = some v
  rw [if_pos ⟨rfl, rfl⟩, Nat.zero_add]
  exact hj
 refine hK _ _ _ _ _ (h W.heap.size cap V hle hVr hcap) (putS_rep ha hd) (hM.retN hb hle (fun a u hu => ?_) (fun a u hu hlt => ?_))
 ·
  have hu' : (if a.block = W.heap.size ∧ a.spot = none then (bs.map byV)[a.off]? else U a) = some u := hu
  split at hu'
  ·
   next hc =>
   have ea : a = ⟨W.heap.size, a.off, none⟩ := by
    obtain ⟨a1, a2, a3⟩ := a
    simp only at hc ⊢
    rw [hc.1, hc.2]
   rw [List.getElem?_map, Option.map_eq_some_iff] at hu'
   obtain ⟨c, hc2, rfl⟩ := hu'
   obtain ⟨hlt, rfl⟩ := List.getElem?_eq_some_iff.1 hc2
   exact (congrArg w'.cell? ea).trans (hcell a.off hlt)
  ·
   next hc =>
   have h1 := hM.view a u hu'
   rw [hb.cell (cell_lt h1)]; exact h1
 ·
  have hu' : (if a.block = W.heap.size ∧ a.spot = none then (bs.map byV)[a.off]? else U a) = some u := hu
  rw [if_neg (fun hc => by omega)] at hu'
  exact hu'
end
section
variable {P : Program} {n : Nat} {W0 : Cx} {Q : XQ} {s : Slots} {U : View} {σ : Blks} {ops : Array Oper} {l : List Oper} {o : Oper}
def kN : List Nat → List (Option Nat)
 | [] => []
 | 0 :: r => none :: kN r
 | (k + 1) :: r => some k :: kN r
theorem kN_len : ∀ ks : List Nat, (kN ks).length = ks.length
 | [] => rfl
 | 0 :: r => by rw [kN, List.length_cons, List.length_cons, kN_len]
 | (k + 1) :: r => by rw [kN, List.length_cons, List.length_cons, kN_len]
abbrev I6 (x : Int) : Value := .int .i64 x
abbrev U6 (x : Int) : Value := .int .u64 x
abbrev N6 (x : Nat) : Value := .int .u64 (x : Int)
abbrev L6 (x : Nat) : Value := .int .i64 (x : Int)
abbrev St (l : List UInt8) : Value := .string (B l)
abbrev Pt (b o : Nat) : Value := .pointer (some ⟨b, o, none⟩)
abbrev Sl (b o n c : Nat) : Value := .slice (some ⟨b, o, none⟩) n c
abbrev S0 : Value := .slice none 0 0
abbrev oK (cs : List Value) (t : TypeId) : Obj := .cells cs.toArray t (0, 0)
abbrev bK (b : Nat) (cs : List Value) (t : TypeId) : Nat × Obj := (b, .cells cs.toArray t (0, 0))
theorem bs : (∀ b : Bool, (b || true) = true) ∧ (∀ b : Bool, (true || b) = true) ∧ (∀ b : Bool, (false || b) = b) ∧ (∀ b : Bool, (b || false) = b) ∧ (∀ b : Bool, (b && true) = b) ∧ (∀ b : Bool, (true && b) = b) ∧ (∀ b : Bool, (false && b) = false) ∧ (∀ b : Bool, (b && false) = false) ∧ ((!true) = false) ∧ ((!false) = true) ∧ ((false = true) = False) :=
 ⟨Bool.or_true, Bool.true_or, Bool.false_or, Bool.or_false, Bool.and_true, Bool.true_and, Bool.false_and, Bool.and_false, rfl, rfl, by simp⟩
def nxS (P : Program) (n : Nat) (ops : Array Oper) (σ : Blks) (ks : List Nat) (l : List Oper) (s : Slots) : Slots := match runB P n ops σ (kN ks) l s with
 | some (s', _, _) => s'
 | none => []
def nxT (P : Program) (n : Nat) (ops : Array Oper) (σ : Blks) (ks : List Nat) (l : List Oper) (s : Slots) : Option (List (Nat × Option Nat) × List (Nat × Option Nat)) := match runB P n ops σ (kN ks) l s with
 | some (_, x, y) => some (x, y)
 | none => none
theorem sx_B (ks : List Nat) (T : List (Nat × Nat)) (hn : SXL P n W0 Q ops (l.drop ks.length) (nxS P n ops σ ks l s) U σ) (h : nxT P n ops σ ks l s = some (tt T, tt T) := by kernel_rfl) : SXL P n W0 Q ops l s U σ := by
 unfold nxT at h
 unfold nxS at hn
 split at h
 ·
  next s' x y hs =>
  simp only [Option.some.injEq, Prod.mk.injEq] at h
  obtain ⟨rfl, rfl⟩ := h
  rw [hs] at hn
  rw [← kN_len ks] at hn
  exact sx_runB (kN ks) l s s' _ hs hn
 · cases h
def stX (P : Program) (σ : Blks) (k : Nat) (s : Slots) (o : Oper) : Obj := match stK P σ k s o with
 | some (_, _, x) => x
 | none => .cells #[] 0 (0, 0)
theorem sx_S (k b : Nat) (hn : SXL P n W0 Q ops l s U (σ.set k (b, stX P σ k s o))) (h : stK P σ k s o = some (b, b, stX P σ k s o) := by kernel_rfl) (hd : o.dst = none := by rfl) (hw : wantS ops s o = some true := by kernel_rfl) : SXL P n W0 Q ops (o :: l) s U σ :=
 sx_s k b _ h hd hw hn
def nwX (P : Program) (s : Slots) (o : Oper) : Obj := match makes P s o with
 | some (x, _) => x
 | none => .cells #[] 0 (0, 0)
def nwV (P : Program) (s : Slots) (o : Oper) (r : Nat) : Value := match makes P s o with
 | some (_, f) => (f r).getD undef
 | none => undef
theorem sx_N (h : ∀ b, SXL P n W0 Q ops l (putS o (nwV P s o b) s) U (σ ++ [(b, nwX P s o)])) (hm : makes P s o = some (nwX P s o, fun r => some (nwV P s o r)) := by kernel_rfl) (hd : dstOk n o = true := by kernel_rfl) (hw : wantS ops s o = some true := by kernel_rfl) : SXL P n W0 Q ops (o :: l) s U σ :=
 sx_new _ _ hm hd hw h
theorem sx_C (f : FuncId) (args : Array Value) (v : Value) (hc : ∀ W, Mem W0 U σ W → Calls P f args W fun e W' => e = .returned v ∧ Below W.heap.size W W') (h : SXL P n W0 Q ops l (putS o v s) U σ) (he : enters P s o = some (f, args) := by kernel_rfl) (hd : dstOk n o = true := by kernel_rfl) (hw : wantS ops s o = some true := by kernel_rfl) : SXL P n W0 Q ops (o :: l) s U σ :=
 sx_call f args v he hc hd hw h
theorem sx_R (v : Value) (hrun : ∀ W : World, (execOp (ev s) o).run P W = .ok (.value v) W) (hn : SXL P n W0 Q ops l (putS o v s) U σ) (hk : known s o = true := by kernel_rfl) (hd : dstOk n o = true := by kernel_rfl) (hw : wantS ops s o = some true := by kernel_rfl) : SXL P n W0 Q ops (o :: l) s U σ :=
 sx_run v hk hrun hd hw hn
theorem sx_E (t : Nat) (v v' : Value) (he : v = v') (h : SXL P n W0 Q ops l ((t, v') :: s) U σ) (hl : look s t = some v := by kernel_rfl) : SXL P n W0 Q ops l s U σ := sx_eq t v v' hl he h
theorem sx_D {c : Operand} {x y : Code} (t : Bool) (h1 : t = true → SXC P n W0 Q x s U σ) (h2 : t = false → SXC P n W0 Q y s U σ) (hc : evS s c = some (.bool t) := by kernel_rfl) : SXC P n W0 Q (.cond c x y) s U σ := sx_cond t hc h1 h2
theorem sx_T {c : Operand} {x y : Code} (h1 : SXC P n W0 Q x s U σ) (hc : evS s c = some (.bool true) := by kernel_rfl) : SXC P n W0 Q (.cond c x y) s U σ := sx_condT true hc rfl h1
theorem sx_F {c : Operand} {x y : Code} (h1 : SXC P n W0 Q y s U σ) (hc : evS s c = some (.bool false) := by kernel_rfl) : SXC P n W0 Q (.cond c x y) s U σ := sx_condF false hc rfl h1
theorem sx_T' {c : Operand} {x y : Code} (t : Bool) (ht : t = true) (h1 : SXC P n W0 Q x s U σ) (hc : evS s c = some (.bool t) := by kernel_rfl) : SXC P n W0 Q (.cond c x y) s U σ := sx_condT t hc ht h1
theorem sx_F' {c : Operand} {x y : Code} (t : Bool) (ht : t = false) (h1 : SXC P n W0 Q y s U σ) (hc : evS s c = some (.bool t) := by kernel_rfl) : SXC P n W0 Q (.cond c x y) s U σ := sx_condF t hc ht h1
theorem retTs {P : Program} {s : Slots} {σ : Blks} : ∀ {ts : List Nat} {vs : List Value}, (ts.map fun t => look s t) = vs.map some → RetAll P s σ (ts.map .tmp) vs
 | [], [], _ => trivial
 | t :: ts, v :: vs, h => by
  simp only [List.map_cons, List.cons.injEq] at h
  exact ⟨retT h.1, retTs h.2⟩
 | [], v :: vs, h => by simp at h
 | t :: ts, [], h => by simp at h
theorem sx_Z {fn : Func} {R : Ending → World → Prop} (ts : List Nat) (vs : List Value) (h : ∀ W, Mem W0 U σ W → R (.returned (resV vs)) W) (hv : (ts.map fun t => look s t) = vs.map some := by kernel_rfl) (hr : fn.results.toList = ts.map .tmp := by rfl) : retX P n W0 fn R .ret s U σ :=
 sx_ret_any _ vs hr (retTs hv) h
theorem sx_O (f : FuncId) (args : Array Value) (Φ : Value → View → Prop) (hc : ∀ W, Mem W0 U σ W → Calls P f args W (RetN W U Φ))
  (h : ∀ v V, View.le U V → Φ v V → SXL P n W0 Q ops l (putS o v s) V σ) (he : enters P s o = some (f, args) := by kernel_rfl) (hd : dstOk n o = true := by kernel_rfl) (hw : wantS ops s o = some true := by kernel_rfl) : SXL P n W0 Q ops (o :: l) s U σ :=
 sx_callN f args Φ he hc hd hw h
theorem retT' {s : Slots} {σ : Blks} {t : Nat} {v : Value} (h : look s t = some v := by kernel_rfl) : RetOne P s σ (.tmp t) v := h
theorem retK' {s : Slots} {σ : Blks} {x : Nat} {ty : TypeId} {v : Value} (k b m : Nat) (h : rdVarK P σ k s x ty = some (v, List.replicate m (b, none), b) := by kernel_rfl) : RetOne P s σ (.cell x ty) v := ⟨k, b, m, h⟩
section
variable {ds : List Nat} {vs : List Sp}
theorem oQ (i : Nat) {o : Oper} (hi : ops[i]? = some o) (v : Value) (hvi : vs[i]? = some (.val v)) (hw : wantS ops (depS ops ds vs i ++ minusS s ds) o = some true := by kernel_rfl) (hq : quiet P (depS ops ds vs i ++ minusS s ds) o = some v := by kernel_rfl) : Ob P n W0 U σ ops ds vs s i := obQ i hi v hvi hw hq
theorem oL (i k b m : Nat) (cs : List Value) (t : TypeId) {o : Oper} (hi : ops[i]? = some o) (v : Value) (hvi : vs[i]? = some (.val v)) (hk : σ[k]? = some (b, .cells cs.toArray t (0, 0)) := by kernel_rfl) (hw : wantS ops (depS ops ds vs i ++ minusS s ds) o = some true := by kernel_rfl)
  (hq : reads P cs (depS ops ds vs i ++ minusS s ds) o = some (v, List.replicate m (b, none)) := by kernel_rfl) : Ob P n W0 U σ ops ds vs s i := obL i k b m cs t hi v hvi hk hw hq
theorem oE (i : Nat) {o : Oper} (hi : ops[i]? = some o) (v v' : Value) (he : v = v') (hvi : vs[i]? = some (.val v')) (hw : wantS ops (depS ops ds vs i ++ minusS s ds) o = some true := by kernel_rfl) (hq : quiet P (depS ops ds vs i ++ minusS s ds) o = some v := by kernel_rfl) : Ob P n W0 U σ ops ds vs s i := obQE i hi v v' he hvi hw hq
end
theorem sx_W {id : Nat} {l : List Oper} {Q : XQ} (m f r : Nat) (ds : List Nat) (vs : List Sp) (obs : Go.Proofs.YtcdjakemdlinhaaGreatDoor.Steps (Ob P n W0 U σ l.toArray ds vs s) 0 m)
  (h : SXL P n W0 Q l.toArray (l.drop m) (endS ds vs ++ minusS s ds) U σ) (hm : P.follows .mixedOrders = true := by kernel_rfl) (hsz : l.length = m + f := by rfl) (hlen : ds.length = m := by rfl)
  (hds : dstsOk l.toArray ds = true := by kernel_rfl) (hnd : nodupB ds = true := by kernel_rfl) (hlt : (ds.all fun d => Nat.blt d n) = true := by kernel_rfl) (hedge : edgesOk .any l.toArray m = true := by kernel_rfl) (htail : tailOk .any l.toArray m r = true := by kernel_rfl) (hchain : chainOk l.toArray m f = true := by kernel_rfl) : SXC P n W0 Q (.region id l.toArray true) s U σ :=
 sx_drawn m f r ds vs hm hsz hlen hds hnd hlt hedge htail hchain obs h
theorem sx_BL (t : Nat) (x : Bool) (h1 : x = true → SXL P n W0 Q ops l ((t, .bool true) :: s) U σ) (h2 : x = false → SXL P n W0 Q ops l ((t, .bool false) :: s) U σ) (hl : look s t = some (.bool x) := by kernel_rfl) : SXL P n W0 Q ops l s U σ := sx_bool t x hl h1 h2
theorem Mem.nilE {W : World} {A : Blks} (h : Mem W0 U σ W) (e : σ = A := by kernel_rfl) : Mem W0 U (A ++ []) W := h.eqv (e.trans (List.append_nil A).symm)
theorem zE {y : Operand} {k : Nat} {a : Option Addr} {c : Nat} (hz : k = 0) (h : evS s y = some (.slice a k c) := by kernel_rfl) : evS s y = some (.slice a 0 c) := by subst hz; exact h
theorem zE' {y : Operand} {k : Nat} {v : Value} {a : Option Addr} {c : Nat} (yv : v = .slice a k c) (hz : k = 0) (h : evS s y = some v := by kernel_rfl) : evS s y = some (.slice a 0 c) := by subst hz; rw [h, yv]
theorem zX {y : Operand} {v w : Value} (e : v = w) (h : evS s y = some v := by kernel_rfl) : evS s y = some w := e ▸ h
theorem permE {A B : Blks} (h : A = B := by kernel_rfl) : A.Perm B := h ▸ List.Perm.refl _
theorem nilB {A B : Blks} (h : A = B := by kernel_rfl) : A = B ++ [] := h.trans (List.append_nil B).symm
theorem zs {x y : Code} (h : SXC P n W0 (thenX (fun s U σ => SXC P n W0 Q y s U σ) Q) x s U σ) : SXC P n W0 Q (.seq x y) s U σ := sx_seq h
theorem zr {id : Nat} {l : List Oper} (h : SXL P n W0 Q l.toArray l s U σ) : SXC P n W0 Q (.region id l.toArray false) s U σ := sx_region h
theorem zn (h : Q .normal s U σ) : SXL P n W0 Q ops [] s U σ := sx_nil h
theorem zk (h : Q .normal s U σ) : SXC P n W0 Q .skip s U σ := sx_skip h
theorem zq (k : Nat) (hn : SXL P n W0 Q ops (l.drop k) (nxS P n ops σ (List.replicate k 0) l s) U σ) (h : nxT P n ops σ (List.replicate k 0) l s = some (tt [], tt []) := by kernel_rfl) : SXL P n W0 Q ops l s U σ := sx_B _ [] (by rw [List.length_replicate]; exact hn) h
theorem zB {id : Nat} {y : Code} {l : List Oper} (ks : List Nat) (T : List (Nat × Nat)) (hn : SXL P n W0 (thenX (fun s U σ => SXC P n W0 Q y s U σ) Q) l.toArray (l.drop ks.length) (nxS P n l.toArray σ ks l s) U σ) (h : nxT P n l.toArray σ ks l s = some (tt T, tt T) := by kernel_rfl) : SXC P n W0 Q (.seq (.region id l.toArray false) y) s U σ := sx_seq (sx_region (sx_B ks T hn h))
theorem zQ {id : Nat} {y : Code} {l : List Oper} (k : Nat) (hn : SXL P n W0 (thenX (fun s U σ => SXC P n W0 Q y s U σ) Q) l.toArray (l.drop k) (nxS P n l.toArray σ (List.replicate k 0) l s) U σ) (h : nxT P n l.toArray σ (List.replicate k 0) l s = some (tt [], tt []) := by kernel_rfl) : SXC P n W0 Q (.seq (.region id l.toArray false) y) s U σ := sx_seq (sx_region (zq k hn h))
theorem rIx {t : TypeId} (e : TypeId) {x ix : Operand} (ho : o.op = .indexAddr t x ix) (b f len cap i sz : Nat) (hlt : i < len := by first | assumption | omega) (hx : evS s x = some (.slice (some ⟨b, f, none⟩) len cap) := by kernel_rfl) (hi : evS s ix = some (.int .i64 (i : Int)) := by kernel_rfl)
  (hu : P.underlying t = some (.slice e) := by kernel_rfl) (hs : (P.info? e).map (·.size) = some sz := by kernel_rfl) : ∀ W : World, (execOp (ev s) o).run P W = .ok (.value (.pointer (some ⟨b, f + i * sz, none⟩))) W := run_ix t e x ix ho b f len cap i sz .i64 hx hi hlt hu hs
theorem i6v {x : Int} (h : -9223372036854775808 ≤ x ∧ x ≤ 9223372036854775807 := by first | omega | (simp only [go_num]; omega)) : Value.int .i64 (IntKind.i64.wrap x) = .int .i64 x := congrArg (Value.int .i64) (IntWalk.i64_in _ h)
theorem zU (b f : Nat) (cs : List Value) (hU : U.range b f cs) (ty : TypeId) (x : Operand) (d : TypeDesc) (hu : P.underlying ty = some d) (hrow : d.isRow = true)
  (h : SXL P n W0 Q ops l (putS o (.agg cs.toArray) s) U σ) (ho : o.op = .load ty x := by rfl) (hx : evS s x = some (.pointer (some ⟨b, f, none⟩)) := by kernel_rfl) (hi : (P.info? ty).map (·.size) = some cs.length := by kernel_rfl) (hd : dstOk n o = true := by kernel_rfl) (hw : wantS ops s o = some true := by kernel_rfl) : SXL P n W0 Q ops (o :: l) s U σ := sx_ldU b f cs hU ty x ho hx d hu hrow hi hd hw h
theorem zV (b f : Nat) (v : Value) (hU : U ⟨b, f, none⟩ = some v) (ty : TypeId) (x : Operand) (d : TypeDesc) (hu : P.underlying ty = some d) (hrow : d.isRow = false)
  (h : SXL P n W0 Q ops l (putS o v s) U σ) (ho : o.op = .load ty x := by rfl) (hx : evS s x = some (.pointer (some ⟨b, f, none⟩)) := by kernel_rfl) (hd : dstOk n o = true := by kernel_rfl) (hw : wantS ops s o = some true := by kernel_rfl) : SXL P n W0 Q ops (o :: l) s U σ := sx_ldU1 b f v hU ty x ho hx d hu hrow hd hw h
end
inductive Sq where
 | val (v : Value)
 | mem (Φ : Value → View → Prop)
def sqOk (W0 : Cx) (U : View) (σ : Blks) (W : World) (v : Value) : Sq → Prop
 | .val u => v = u
 | .mem Φ => ∃ V, View.le U V ∧ Mem W0 V σ W ∧ Φ v V
def sqMono : Sq → Prop
 | .val _ => True
 | .mem Φ => ∀ v V V', View.le V V' → Φ v V → Φ v V'
theorem Mem.join {W0 : Cx} {U V : View} {σ : Blks} {W : World} (h : Mem W0 U σ W) (k : Mem W0 V σ W) : Mem W0 (U.or V) σ W ∧ View.le U (U.or V) ∧ View.le V (U.or V) := by
 have hor : ∀ a v, U.or V a = some v → U a = some v ∨ V a = some v := by
  intro a v hu
  unfold View.or at hu
  cases hx : U a with
  | some u => rw [hx] at hu; exact .inl hu
  | none => rw [hx] at hu; exact .inr hu
 refine ⟨h.grow (fun a v hu hlt => ?_) (fun a v hu => ?_) (fun j b o hk a ha => ?_), View.le_or _ _, fun a v hv => ?_⟩
 ·
  rcases hor a v hu with hu | hu
  · exact h.old a v hu hlt
  · exact k.old a v hu hlt
 ·
  rcases hor a v hu with hu | hu
  · exact h.view a v hu
  · exact k.view a v hu
 ·
  have h1 := (h.own j b o hk).2.2 a ha
  have h2 := (k.own j b o hk).2.2 a ha
  unfold View.or
  rw [h1, h2]; rfl
 ·
  unfold View.or
  cases hx : U a with
  | some u =>
   have h1 := h.view a u hx
   have h2 := k.view a v hv
   rw [h1] at h2
   simpa using h2
  | none => simpa using hv
theorem Mem.addView {W0 : Cx} {U : View} {σ : Blks} {W : World} (h : Mem W0 U σ W) {g : Nat} {cs : List Value} {t : TypeId} (hg : W.heap[g]? = some (.cells cs.toArray t (0, 0))) (hge : W0.w.heap.size ≤ g) (hne : ∀ (k : Nat) (x : Nat × Obj), σ[k]? = some x → x.1 ≠ g) :
  ∃ V, View.le U V ∧ V.range g 0 cs ∧ Mem W0 V σ W := by
 let C : View := fun a => if a.block = g ∧ a.spot = none then cs[a.off]? else none
 have hC : ∀ a v, C a = some v → a.block = g ∧ W.cell? a = some v := by
  intro a v hv
  have hv' : (if a.block = g ∧ a.spot = none then cs[a.off]? else none) = some v := hv
  split at hv'
  ·
   next hc =>
   have ea : a = ⟨g, a.off, none⟩ := by
    obtain ⟨a1, a2, a3⟩ := a
    simp only at hc ⊢
    rw [hc.1, hc.2]
   refine ⟨hc.1, ?_⟩
   rw [ea, cell_of_row _ _ _ _ _ _ hg]
   simpa using hv'
  · cases hv'
 have hor : ∀ a v, U.or C a = some v → U a = some v ∨ C a = some v := by
  intro a v hu
  unfold View.or at hu
  cases hx : U a with
  | some u => rw [hx] at hu; exact .inl hu
  | none => rw [hx] at hu; exact .inr hu
 refine ⟨U.or C, View.le_or _ _, fun j v hj => ?_, h.grow (fun a v hu hlt => ?_) (fun a v hu => ?_) (fun k b o hk a ha => ?_)⟩
 ·
  have hc : C ⟨g, 0 + j, none⟩ = some v := by
   show (if g = g ∧ none = none then cs[0 + j]? else none) = some v
   rw [if_pos ⟨rfl, rfl⟩, Nat.zero_add]; exact hj
  unfold View.or
  cases hx : U ⟨g, 0 + j, none⟩ with
  | some u =>
   have h1 := h.view _ _ hx
   have h2 := (hC _ _ hc).2
   rw [h1] at h2
   simpa using h2
  | none => simpa using hc
 ·
  rcases hor a v hu with hu | hu
  · exact h.old a v hu hlt
  ·
   have := (hC a v hu).1
   omega
 ·
  rcases hor a v hu with hu | hu
  · exact h.view a v hu
  · exact (hC a v hu).2
 ·
  have h1 := (h.own k b o hk).2.2 a ha
  unfold View.or
  rw [h1]
  cases hx : C a with
  | none => rfl
  | some v => exact absurd (ha.symm.trans (hC a v hx).1) (hne k _ hk)
def depQ (ops : Array Oper) (ds : List Nat) (vs : List Sq) (u : Nat → Value) (i : Nat) : Slots := (List.range ds.length).filterMap fun j => match waitsOn .any ops i j, vs[j]? with
 | true, some (.val v) => some (ds.getD j 0, v)
 | true, some (.mem _) => some (ds.getD j 0, u j)
 | _, _ => none
def endQ (u : Nat → Value) : Nat → List Nat → List Sq → Slots
 | j, d :: ds, .val v :: vs => (d, v) :: endQ u (j + 1) ds vs
 | j, d :: ds, .mem _ :: vs => (d, u j) :: endQ u (j + 1) ds vs
 | _, _, _ => []
def PhiAt (vs : List Sq) (j : Nat) (v : Value) (V : View) : Prop := match vs[j]? with
 | some (.mem Φ) => Φ v V
 | _ => True
theorem endQ_mem (u : Nat → Value) : ∀ (k : Nat) (ds : List Nat) (vs : List Sq) (t : Nat) (v : Value), (t, v) ∈ endQ u k ds vs → ∃ (j : Nat) (q : Sq), ds[j]? = some t ∧ vs[j]? = some q ∧ (match q with | .val w => v = w | .mem _ => v = u (k + j))
 | k, [], vs, t, v, h => by simp [endQ] at h
 | k, d :: ds, [], t, v, h => by simp [endQ] at h
 | k, d :: ds, .val w :: vs, t, v, h => by
  simp only [endQ, List.mem_cons, Prod.mk.injEq] at h
  rcases h with ⟨rfl, rfl⟩ | h
  · exact ⟨0, .val v, rfl, rfl, rfl⟩
  ·
   obtain ⟨j, q, h1, h2, h3⟩ := endQ_mem u (k + 1) ds vs t v h
   refine ⟨j + 1, q, by simpa using h1, by simpa using h2, ?_⟩
   cases q with
   | val w => exact h3
   | mem _ => simp only at h3 ⊢; rw [h3]; congr 1; omega
 | k, d :: ds, .mem Φ :: vs, t, v, h => by
  simp only [endQ, List.mem_cons, Prod.mk.injEq] at h
  rcases h with ⟨rfl, rfl⟩ | h
  · exact ⟨0, .mem Φ, rfl, rfl, rfl⟩
  ·
   obtain ⟨j, q, h1, h2, h3⟩ := endQ_mem u (k + 1) ds vs t v h
   refine ⟨j + 1, q, by simpa using h1, by simpa using h2, ?_⟩
   cases q with
   | val w => exact h3
   | mem _ => simp only at h3 ⊢; rw [h3]; congr 1; omega
def IsQ (W0 : Cx) (U : View) (σ : Blks) (vs : List Sq) : Nat → Value → World → Prop := fun j v W => ∃ q, vs[j]? = some q ∧ sqOk W0 U σ W v q
theorem IsQ.keep {W0 : Cx} {U : View} {σ : Blks} {vs : List Sq} {j : Nat} {v : Value} {W W' : World} (h : BelowE W W') (hv : IsQ W0 U σ vs j v W) : IsQ W0 U σ vs j v W' := by
 obtain ⟨q, hq, hs⟩ := hv
 refine ⟨q, hq, ?_⟩
 cases q with
 | val u => exact hs
 | mem Φ =>
  obtain ⟨V, h1, h2, h3⟩ := hs
  exact ⟨V, h1, h2.call h, h3⟩
theorem join_all {W0 : Cx} {U : View} {σ : Blks} {W : World} {vs : List Sq} {u : Nat → Value} (hmono : ∀ q ∈ vs, sqMono q) (hM : Mem W0 U σ W) : ∀ (l : List Nat), (∀ j ∈ l, IsQ W0 U σ vs j (u j) W) → ∃ V, View.le U V ∧ Mem W0 V σ W ∧ ∀ j ∈ l, PhiAt vs j (u j) V
 | [], _ => ⟨U, View.le_refl _, hM, fun j hj => by simp at hj⟩
 | j :: l, h => by
  obtain ⟨V, h1, h2, h3⟩ := join_all hmono hM l fun k hk => h k (List.mem_cons_of_mem _ hk)
  obtain ⟨q, hq, hs⟩ := h j (List.mem_cons_self ..)
  cases q with
  | val w =>
   refine ⟨V, h1, h2, fun k hk => ?_⟩
   rcases List.mem_cons.1 hk with rfl | hk
   · unfold PhiAt; rw [hq]; trivial
   · exact h3 k hk
  | mem Φ =>
   obtain ⟨V', k1, k2, k3⟩ := hs
   obtain ⟨m1, m2, m3⟩ := h2.join k2
   refine ⟨V.or V', View.le_trans h1 m2, m1, fun k hk => ?_⟩
   have hup : ∀ k, PhiAt vs k (u k) V → PhiAt vs k (u k) (V.or V') := by
    intro k hk
    unfold PhiAt at hk ⊢
    cases hqk : vs[k]? with
    | none => trivial
    | some q =>
     cases q with
     | val _ => trivial
     | mem Ψ =>
      rw [hqk] at hk
      exact hmono _ (List.mem_of_getElem? hqk) _ _ _ m2 hk
   rcases List.mem_cons.1 hk with rfl | hk
   ·
    unfold PhiAt
    rw [hq]
    exact hmono _ (List.mem_of_getElem? hq) _ _ _ m3 k3
   · exact hup k (h3 k hk)
theorem rep_fillQ {n : Nat} {s : Slots} {a0 : Act} {ops : Array Oper} {ds : List Nat} {vs : List Sq} {u : Nat → Value} {W0 : Cx} {U : View} {σ : Blks} {W : World} (i : Nat) (ha : RepA n s a0) (hn : ds.Nodup) (hd : ∀ d ∈ ds, d < n)
  (hu : ∀ j, waitsOn .any ops i j = true → IsQ W0 U σ vs j (u j) W) : RepA n (depQ ops ds vs u i ++ minusS s ds) (fillL ds 0 u a0) := by
 have hg := fun t => fillL_get ds 0 u a0 t hn (by rw [ha.size]; exact hd)
 refine ⟨by rw [(hg 0).2.2.1, ha.size], by rw [(hg 0).2.2.2, ha.defers], fun t v hv => ?_⟩
 rcases look_append _ _ _ _ hv with h | ⟨_, h⟩
 ·
  have hm := look_mem _ _ _ h
  unfold depQ at hm
  obtain ⟨j, hj, he⟩ := List.mem_filterMap.1 hm
  have hjl : j < ds.length := List.mem_range.1 hj
  have hdj : ∀ t', ds.getD j 0 = t' → ds[j]? = some t' := fun t' e => by
   rw [List.getElem?_eq_getElem hjl, ← e]
   simp [List.getD, hjl]
  split at he
  ·
   next x hw hx =>
   simp only [Option.some.injEq, Prod.mk.injEq] at he
   obtain ⟨he1, he2⟩ := he
   rw [(hg t).1 j (hdj t he1), Nat.zero_add]
   obtain ⟨q, hq, hs⟩ := hu j hw
   rw [hx] at hq
   simp only [Option.some.injEq] at hq
   subst hq
   simp only [sqOk] at hs
   rw [hs, he2]
  ·
   next x hw hx =>
   simp only [Option.some.injEq, Prod.mk.injEq] at he
   obtain ⟨he1, he2⟩ := he
   rw [(hg t).1 j (hdj t he1), Nat.zero_add, he2]
  · cases he
 ·
  obtain ⟨h1, h2⟩ := look_minus _ _ _ _ h
  rw [(hg t).2.1 h1]
  exact ha.slots t v h2
structure Oq (P : Program) (n : Nat) (W0 : Cx) (U : View) (σ : Blks) (ops : Array Oper) (ds : List Nat) (vs : List Sq) (s : Slots) (i : Nat) : Prop where
 go : ∀ (a0 : Act) (Q : Exit → Act → World → Prop), RepA n s a0 → ds.Nodup → (∀ d ∈ ds, d < n) → (∀ q ∈ vs, sqMono q) → RelStep P .any ops Q (Mem W0 U σ) BelowE (IsQ W0 U σ vs) ds a0 i
def memDeps (ops : Array Oper) (vs : List Sq) (i : Nat) : List Nat := (List.range vs.length).filter fun j => waitsOn .any ops i j
theorem Calls.retN {P : Program} {f : FuncId} {args : Array Value} {w : World} {U : View} {v : Value} {Φ : Value → View → Prop} (hU : ∀ a u, U a = some u → w.cell? a = some u) (h : Calls P f args w (Ret v w)) (hΦ : Φ v U) : Calls P f args w (RetN w U Φ) :=
 h.mono fun e W' ⟨he, hb⟩ => ⟨v, U, he, hb, View.le_refl _, fun a u hu => by
  have := hU a u hu
  rw [hb.cell (cell_lt this)]; exact this, fun _ _ hu _ => hu, hΦ⟩
section
variable {P : Program} {n : Nat} {W0 : Cx} {s : Slots} {U : View} {σ : Blks} {ops : Array Oper} {ds : List Nat} {vs : List Sq}
theorem Oq.op (i : Nat) {o : Oper} (hi : ops[i]? = some o) (q : Sq) (hvi : vs[i]? = some q)
  (h : ∀ (u : Nat → Value) (V : View), View.le U V → (∀ j, waitsOn .any ops i j = true → PhiAt vs j (u j) V) → wantS ops (depQ ops ds vs u i ++ minusS s ds) o = some true ∧
   ∀ a W, RepA n (depQ ops ds vs u i ++ minusS s ds) a → Mem W0 V σ W → ∀ (Q : Exit → Act → World → Prop) (K : Act → World → Prop), (∀ v W', Mem W0 V σ W' → sqOk W0 V σ W' v q → Below W.heap.size W W' → K (a.put o.dst v) W') → o.wp P a W K Q) : Oq P n W0 U σ ops ds vs s i := by
 refine ⟨fun a0 Q ha hn hd hmo => ⟨fun u W hM hu K hK => ?_⟩⟩
 have hr := rep_fillQ (u := u) (W := W) i ha hn hd hu
 have hlt : ∀ j, waitsOn .any ops i j = true → j < vs.length := fun j hj => by
  obtain ⟨q, hq, _⟩ := hu j hj
  exact (List.getElem?_eq_some_iff.1 hq).1
 obtain ⟨V, h1, h2, h3⟩ := join_all hmo hM (memDeps ops vs i) fun j hj => hu j (List.mem_filter.1 hj).2
 obtain ⟨hw, hgo⟩ := h u V h1 fun j hj => h3 j (List.mem_filter.2 ⟨List.mem_range.2 (hlt j hj), hj⟩)
 unfold wpOp
 simp only [hi, want_rep hr hw, if_true]
 left
 refine hgo _ W hr h2 Q K fun v W' hM' hs hb => ?_
 have := hK v W' (hM'.weak h1) hb ⟨q, hvi, by
  cases q with
  | val w => exact hs
  | mem Φ =>
   obtain ⟨V', k1, k2, k3⟩ := hs
   exact ⟨V', View.le_trans h1 k1, k2, k3⟩⟩
 rw [hi] at this
 exact this
theorem oqQ (i : Nat) {o : Oper} (hi : ops[i]? = some o) (v v' : Value) (he : v = v') (hvi : vs[i]? = some (.val v')) (hw : ∀ u, wantS ops (depQ ops ds vs u i ++ minusS s ds) o = some true) (hq : ∀ u, quiet P (depQ ops ds vs u i ++ minusS s ds) o = some v) : Oq P n W0 U σ ops ds vs s i :=
 Oq.op i hi _ hvi fun u V _ _ => ⟨hw u, fun a W ha hM Q K hK => by
  unfold Oper.wp
  rw [quiet_run ha (hq u)]
  exact hK v W hM he (Below.refl _ _)⟩
theorem oqL (i k b m : Nat) (cs : List Value) (t : TypeId) {o : Oper} (hi : ops[i]? = some o) (v : Value) (hvi : vs[i]? = some (.val v)) (hk : σ[k]? = some (b, .cells cs.toArray t (0, 0))) (hw : ∀ u, wantS ops (depQ ops ds vs u i ++ minusS s ds) o = some true)
  (hq : ∀ u, reads P cs (depQ ops ds vs u i ++ minusS s ds) o = some (v, List.replicate m (b, none))) : Oq P n W0 U σ ops ds vs s i :=
 Oq.op i hi _ hvi fun u V _ _ => ⟨hw u, fun a W ha hM Q K hK => by
  have hq := hq u
  unfold reads at hq
  split at hq
  ·
   next hkn =>
   split at hq
   ·
    next x rs hp =>
    simp only [Option.some.injEq, Prod.mk.injEq] at hq
    obtain ⟨rfl, has⟩ := hq
    unfold Oper.wp
    rw [known_rep ha hkn, reads_own hM hk hp has]
    exact hK _ W hM rfl (Below.refl _ _)
   · cases hq
  · cases hq⟩
theorem rep_zip {a : Act} {s' : Slots} (ts : List Nat) (vals : List Value) (ha : RepA n s' a) (h : (ts.map fun t => look s' t) = vals.map some) : RepA n (ts.zip vals) a :=
 ⟨ha.size, ha.defers, fun t v hv => ha.slots t v (look_zip ts vals h t v hv)⟩
theorem oqM (i : Nat) (f : FuncId) {o : Oper} (hi : ops[i]? = some o) (hg : o.guard = none) (Φ : Value → View → Prop) (hvi : vs[i]? = some (.mem Φ)) (ts : List Nat) (vals : (Nat → Value) → List Value) (hsl : ∀ u, (ts.map fun t => look (depQ ops ds vs u i ++ minusS s ds) t) = (vals u).map some)
  (h : ∀ (u : Nat → Value) (V : View), View.le U V → (∀ j, waitsOn .any ops i j = true → PhiAt vs j (u j) V) → ∃ args, enters P (ts.zip (vals u)) o = some (f, args) ∧
   ∀ W, (∀ a v, V a = some v → W.cell? a = some v) → Calls P f args W (RetN W V Φ)) : Oq P n W0 U σ ops ds vs s i :=
 Oq.op i hi _ hvi fun u V hV hd => by
  obtain ⟨args, he, hc⟩ := h u V hV hd
  refine ⟨by unfold wantS; rw [hg], fun a W ha hM Q K hK => ?_⟩
  unfold Oper.wp
  rw [enters_run (rep_zip ts _ ha (hsl u)) he]
  refine (hc W hM.view).mono ?_
  rintro _ W' ⟨v, V', rfl, hb, hl, hv, ho, hΦ⟩
  exact hK v W' (hM.call hb) ⟨V', hl, hM.retN hb hl hv ho, hΦ⟩ hb
theorem oqV (i : Nat) (f : FuncId) {o : Oper} (hi : ops[i]? = some o) (hg : o.guard = none) (v : Value) (hvi : vs[i]? = some (.val v)) (ts : List Nat) (vals : (Nat → Value) → List Value) (hsl : ∀ u, (ts.map fun t => look (depQ ops ds vs u i ++ minusS s ds) t) = (vals u).map some)
  (h : ∀ (u : Nat → Value) (V : View), View.le U V → (∀ j, waitsOn .any ops i j = true → PhiAt vs j (u j) V) → ∃ args, enters P (ts.zip (vals u)) o = some (f, args) ∧
   ∀ W, (∀ a v, V a = some v → W.cell? a = some v) → Calls P f args W (Ret v W)) : Oq P n W0 U σ ops ds vs s i :=
 Oq.op i hi _ hvi fun u V hV hd => by
  obtain ⟨args, he, hc⟩ := h u V hV hd
  refine ⟨by unfold wantS; rw [hg], fun a W ha hM Q K hK => ?_⟩
  unfold Oper.wp
  rw [enters_run (rep_zip ts _ ha (hsl u)) he]
  refine (hc W hM.view).mono ?_
  rintro _ W' ⟨rfl, hb⟩
  exact hK v W' (hM.call hb) rfl hb
theorem oqN (i : Nat) {o : Oper} (hi : ops[i]? = some o) (hg : o.guard = none) (Φ : Value → View → Prop) (hvi : vs[i]? = some (.mem Φ)) (ts : List Nat) (vals : (Nat → Value) → List Value) (hsl : ∀ u, (ts.map fun t => look (depQ ops ds vs u i ++ minusS s ds) t) = (vals u).map some)
  (h : ∀ (u : Nat → Value) (V : View), View.le U V → (∀ j, waitsOn .any ops i j = true → PhiAt vs j (u j) V) → ∃ (cs : List Value) (t : TypeId) (vf : Nat → Value), makes P (ts.zip (vals u)) o = some (.cells cs.toArray t (0, 0), fun r => some (vf r)) ∧
   ∀ g V', View.le V V' → V'.range g 0 cs → Φ (vf g) V') : Oq P n W0 U σ ops ds vs s i :=
 Oq.op i hi _ hvi fun u V hV hd => by
  obtain ⟨cs, t, vf, hm, hΦ⟩ := h u V hV hd
  refine ⟨by unfold wantS; rw [hg], fun a W ha hM Q K hK => ?_⟩
  unfold Oper.wp
  rw [makes_run (rep_zip ts _ ha (hsl u)) hm]
  have hb : Below W.heap.size W (W.alloc (.cells cs.toArray t (0, 0))) := (Below.refl _ _).alloc (Nat.le_refl _) _
  have hM' := hM.call hb
  obtain ⟨V', h1, h2, h3⟩ := hM'.addView (heap_alloc_last W (.cells cs.toArray t (0, 0))) hM.below.size fun k x hx => by
   have := lt_of_heap (hM.own k x.1 x.2 hx).1
   omega
  exact hK _ _ hM' ⟨V', h1, h3, hΦ _ _ h1 h2⟩ hb
theorem oqP (i : Nat) {o : Oper} (hi : ops[i]? = some o) (hg : o.guard = none) (Φ : Value → View → Prop) (hvi : vs[i]? = some (.mem Φ)) (ts : List Nat) (vals : (Nat → Value) → List Value) (hsl : ∀ u, (ts.map fun t => look (depQ ops ds vs u i ++ minusS s ds) t) = (vals u).map some)
  (h : ∀ (u : Nat → Value) (V : View), View.le U V → (∀ j, waitsOn .any ops i j = true → PhiAt vs j (u j) V) → ∃ v, quiet P (ts.zip (vals u)) o = some v ∧ Φ v V) : Oq P n W0 U σ ops ds vs s i :=
 Oq.op i hi _ hvi fun u V hV hd => by
  obtain ⟨v, hq, hΦ⟩ := h u V hV hd
  refine ⟨by unfold wantS; rw [hg], fun a W ha hM Q K hK => ?_⟩
  unfold Oper.wp
  rw [quiet_run (rep_zip ts _ ha (hsl u)) hq]
  exact hK v W hM ⟨V, View.le_refl _, hM, hΦ⟩ (Below.refl _ _)
theorem sx_drawnQ {id : Nat} {l : List Oper} {Q : XQ} (m f r : Nat) (ds : List Nat) (vs : List Sq) (hm : P.follows .mixedOrders = true) (hsz : l.length = m + f) (hlen : ds.length = m)
  (hds : dstsOk l.toArray ds = true) (hnd : nodupB ds = true) (hlt : (ds.all fun d => Nat.blt d n) = true) (hedge : edgesOk .any l.toArray m = true) (htail : tailOk .any l.toArray m r = true) (hchain : chainOk l.toArray m f = true) (hmo : ∀ q ∈ vs, sqMono q)
  (obs : Go.Proofs.YtcdjakemdlinhaaGreatDoor.Steps (Oq P n W0 U σ l.toArray ds vs s) 0 m)
  (ts : List Nat) (vals : (Nat → Value) → List Value) (hsl : ∀ u, (ts.map fun t => look (endQ u 0 ds vs ++ minusS s ds) t) = (vals u).map some)
  (h : ∀ (u : Nat → Value) (V : View), View.le U V → (∀ j, j < m → PhiAt vs j (u j) V) → SXL P n W0 Q l.toArray (l.drop m) (ts.zip (vals u)) V σ) : SXC P n W0 Q (.region id l.toArray true) s U σ := by
 refine ⟨fun a W ha hM => ?_⟩
 have hn := nodup_of hnd
 have hd : ∀ d ∈ ds, d < n := fun d hd => by have := List.all_eq_true.1 hlt d hd; simpa [Nat.blt_eq] using this
 refine wp_region_rel m f r (Mem W0 U σ) ds (IsQ W0 U σ vs) BelowE hm (by simpa using hsz) hlen hds hnd hedge htail (fun i v w w' h hv => hv.keep h) hM.drew ?_ ?_
 ·
  have : ∀ (c i : Nat), Go.Proofs.YtcdjakemdlinhaaGreatDoor.Steps (Oq P n W0 U σ l.toArray ds vs s) i c → Go.Proofs.YtcdjakemdlinhaaGreatDoor.Steps (RelStep P .any l.toArray (up n W0 Q) (Mem W0 U σ) BelowE (IsQ W0 U σ vs) ds a) i c := by
   intro c
   induction c with
   | zero => intro i _; trivial
   | succ c ih => intro i h; exact ⟨h.1.go a _ ha hn hd hmo, ih (i + 1) h.2⟩
  exact this m 0 obs
 ·
  intro u W' hM' hv
  refine wpAny_tail f m _ W' (by simpa using hsz.symm) hchain ?_
  have hg := fun t => fillL_get ds 0 u a t hn (by rw [ha.size]; exact hd)
  obtain ⟨V, h1, h2, h3⟩ := join_all (u := u) hmo hM' (List.range m) fun j hj => hv j (List.mem_range.1 hj)
  refine (h u V h1 fun j hj => h3 j (List.mem_range.2 hj)).go _ W' (rep_zip ts _ (s' := endQ u 0 ds vs ++ minusS s ds) ⟨by rw [(hg 0).2.2.1, ha.size], by rw [(hg 0).2.2.2, ha.defers], fun t v hl => ?_⟩ (hsl u)) h2
  rcases look_append _ _ _ _ hl with hl | ⟨_, hl⟩
  ·
   have hmem := look_mem _ _ _ hl
   obtain ⟨j, q, hd2, hvj, hq⟩ := endQ_mem u 0 _ _ _ _ hmem
   have hjl : j < ds.length := (List.getElem?_eq_some_iff.1 hd2).1
   obtain ⟨q', hq', hs⟩ := hv j (by omega)
   rw [hvj] at hq'
   simp only [Option.some.injEq] at hq'
   subst hq'
   rw [(hg t).1 j hd2, Nat.zero_add]
   cases q with
   | val w => simp only [sqOk] at hs; simp only at hq; rw [hs, hq]
   | mem Φ => simp only [Nat.zero_add] at hq; rw [hq]
  ·
   obtain ⟨h1, h2⟩ := look_minus _ _ _ _ hl
   rw [(hg t).2.1 h1]
   exact ha.slots t v h2
theorem sx_newV {Q : XQ} {l : List Oper} {o : Oper} (cs : List Value) (t : TypeId) (vf : Nat → Value) (hm : makes P s o = some (.cells cs.toArray t (0, 0), fun r => some (vf r))) (hd : dstOk n o = true) (hw : wantS ops s o = some true)
  (h : ∀ g V, View.le U V → V.range g 0 cs → SXL P n W0 Q ops l (putS o (vf g) s) V σ) : SXL P n W0 Q ops (o :: l) s U σ := by
 refine sx_op hd hw fun a W ha hM K hK => ?_
 unfold Oper.wp
 rw [makes_run ha hm]
 have hb : Below W.heap.size W (W.alloc (.cells cs.toArray t (0, 0))) := (Below.refl _ _).alloc (Nat.le_refl _) _
 have hM' := hM.call hb
 obtain ⟨V', h1, h2, h3⟩ := hM'.addView (heap_alloc_last W (.cells cs.toArray t (0, 0))) hM.below.size fun k x hx => by
  have := lt_of_heap (hM.own k x.1 x.2 hx).1
  omega
 exact hK _ _ _ _ _ (h _ _ h1 h2) (putS_rep ha hd) h3
end
end Go.Proofs.YtcdjakemdlinhaaGreatDoor.Sx
namespace Go.Proofs.YtcdjakemdlinhaaGreatDoor.Eid
open Go.ChangeShapes Go.WideShapes Go.ChangeAt Go.RowKit

theorem HasPrefix_any (l p : List UInt8) (w : World) : Calls Tryz.prog 236 #[.string (B l), .string (B p)] w fun e w' => e = .returned (.bool (pre p l)) ∧ w = w' := by
 have h := pre_of_take l p
 have H := Lib.hid h
 clear h
 go_enter Tryz.func236, Tryz.ntmps236
 go_wp2
 all_goals
  go_ret
  exact ⟨by rw [← H.out]; refine ret_bool ?_; simp_all; try omega, rfl⟩
theorem CutPrefix'_any (l p : List UInt8) (w : World) : Calls Tryz.prog 207 #[.string (B l), .string (B p)] w fun e w' => e = .returned (.tuple #[.string (B (cutp p l)), .bool (pre p l)]) ∧ w = w' := by
 cases hp : pre p l
 ·
  have hc := cutp_false hp
  have H := Lib.hid hp
  have HC := Lib.hid hc
  clear hp hc
  go_enter Tryz.func207, Tryz.ntmps207
  go_wp2_with (go_at_call 236; refine (HasPrefix_any _ _ _).mono ?_; rw [H.out]; rintro e w' ⟨rfl, rfl⟩)
  go_ret2
  exact ⟨by rw [HC.out]; rfl, rfl⟩
 ·
  have hle := pre_length hp
  have hc := cutp_true hp
  have H := Lib.hid hp
  have HC := Lib.hid hc
  clear hp hc
  go_enter Tryz.func207, Tryz.ntmps207
  go_wp2_with (go_at_call 236; refine (HasPrefix_any _ _ _).mono ?_; rw [H.out]; rintro e w' ⟨rfl, rfl⟩)
  go_ret2
  exact ⟨by rw [HC.out]; rfl, rfl⟩
theorem CutPrefix_any (l p : List UInt8) (w : World) : Calls Tryz.prog 169 #[.string (B l), .string (B p)] w fun e w' => e = .returned (.tuple #[.string (B (cutp p l)), .bool (pre p l)]) ∧ w = w' := by
 go_enter Tryz.func169, Tryz.ntmps169
 go_wp2_with (go_at_call 207; refine (CutPrefix'_any _ _ _).mono ?_; rintro e w' ⟨rfl, rfl⟩)
 go_ret2
 exact ⟨rfl, rfl⟩

def nb (c : Int) : Bool := decide (97 ≤ c ∧ c ≤ 122 ∨ 48 ≤ c ∧ c ≤ 57 ∨ c = 45 ∨ c = 46)
theorem nodeByte_any (c : Int) (w : World) : Calls Tryz.prog 170 #[.int .i32 c] w fun e w' => e = .returned (.bool (nb c)) ∧ w = w' := by
 go_enter Tryz.func170, Tryz.ntmps170
 go_wp2
 all_goals
  go_ret
  exact ⟨ret_bool (by simp [nb] <;> omega), rfl⟩

def scan : List UInt8 → Nat → Nat
 | [], _ => 0
 | c :: r, i => if nb c.toNat then scan r (i + 1) else if c.toNat = 47 ∧ 0 < i then i + 3 else 0
def nodeN (l : List UInt8) : Nat := if pre [47, 47] l ∧ l.length ≤ 60 then scan (l.drop 2) 0 else 0

theorem node_any (l : List UInt8) (w : World) (hl : l.length ≤ maxLen) : Calls Tryz.prog 132 #[.string (B l)] w fun e w' => e = .returned (.int .i64 (nodeN l)) ∧ Below w.heap.size w w' := by
 unfold maxLen at hl
 go_enter Tryz.func132, Tryz.ntmps132
 go_wp2_with fail
 refine (CutPrefix_any _ [47, 47] _).mono ?_; rintro e w1 ⟨rfl, rfl⟩
 cases hp : pre [47, 47] l
 ·
  have H := Lib.hid hp
  clear hp
  go_wp2
  go_ret
  exact ⟨by unfold nodeN; rw [H.out]; rfl, Below.refl _ _⟩
 ·
  have hc := cutp_true hp
  have H := Lib.hid hp
  rw [hc]
  clear hp hc
  by_cases h60 : l.length ≤ 60
  ·
   have hn : nodeN l = scan (l.drop 2) 0 := by unfold nodeN; rw [if_pos ⟨H.out, h60⟩]
   have hm : (l.drop 2).length ≤ 60 := by simp; omega
   generalize l.drop 2 = m at hn hm
   have HN := Lib.hid hn
   clear hn
   go_wp2
   go_loopw [] (fun wr => ∃ k : Nat, k ≤ m.length ∧ wr = w.iter (B m) k ∧ nodeN l = scan (m.drop k) k) (fun wr => m.length - wr.iterPos w.heap.size)
   case atStart => exact ⟨0, Nat.zero_le _, rfl, HN.out⟩
   case round =>
    obtain ⟨k, hk, rfl, hs⟩ := hrel
    by_cases hlt : k < m.length
    ·
     have hB : k < (B m).size := by rw [B_size]; exact hlt
     have hd : m.drop k = m[k] :: m.drop (k + 1) := List.drop_eq_getElem_cons hlt
     rw [hd] at hs
     have HS := Lib.hid hs
     clear hs hd
     by_cases ha : m[k].toNat < 128
     ·
      have hnx : ∀ ty, (Instr.next (.pointer (some ⟨w.heap.size, 0, none⟩)) true ty).run Tryz.prog (w.iter (B m) k) = .ok (.tuple #[.bool true, .int .i64 k, .int .i32 m[k].toNat]) (w.iter (B m) (k + 1)) := fun ty => run_next_ascii w (B m) k ty hB ha
      generalize hc : m[k].toNat = c at *
      cases hb : nb c
      ·
       have Hb := Lib.hid hb
       by_cases h47 : c = 47
       ·
        by_cases h0 : 0 < k
        ·
         have e : nodeN l = k + 3 := by rw [HS.out]; unfold scan; rw [hc, if_neg (by rw [hb]; decide), if_pos ⟨h47, h0⟩]
         have HE := Lib.hid e
         have hb7 : nb 47 = false := by decide
         have Hb7 := Lib.hid hb7
         clear e hb hb7
         subst h47
         go_wp2_with (go_at_call 170; refine (nodeByte_any _ _).mono ?_; rw [Hb7.out]; rintro e w' ⟨rfl, rfl⟩)
         go_ret
         exact ⟨by rw [HE.out]; exact ret_int (by omega), (Below.refl _ _).alloc (Nat.le_refl _) _⟩
        ·
         have e : nodeN l = 0 := by rw [HS.out]; unfold scan; rw [hc, if_neg (by rw [hb]; decide), if_neg (by omega)]
         have HE := Lib.hid e
         obtain rfl : k = 0 := by omega
         have hb7 : nb 47 = false := by decide
         have Hb7 := Lib.hid hb7
         clear e hb h0 hb7
         subst h47
         go_wp2_with (go_at_call 170; refine (nodeByte_any _ _).mono ?_; rw [Hb7.out]; rintro e w' ⟨rfl, rfl⟩)
         go_ret
         exact ⟨by rw [HE.out]; rfl, (Below.refl _ _).alloc (Nat.le_refl _) _⟩
       ·
        have e : nodeN l = 0 := by rw [HS.out]; unfold scan; rw [hc, if_neg (by rw [hb]; decide), if_neg (by omega)]
        have HE := Lib.hid e
        have hne : ((c : Int) == 47) = false := by rw [beq_eq_false_iff_ne]; omega
        clear e hb
        go_wp2_with (go_at_call 170; refine (nodeByte_any _ _).mono ?_; rw [Hb.out]; rintro e w' ⟨rfl, rfl⟩)
        go_ret
        exact ⟨by rw [HE.out]; rfl, (Below.refl _ _).alloc (Nat.le_refl _) _⟩
      ·
       have e : nodeN l = scan (m.drop (k + 1)) (k + 1) := by
        rw [HS.out]
        conv => lhs; unfold scan
        rw [hc, if_pos hb]
       have HE := Lib.hid e
       have Hb := Lib.hid hb
       clear e hb
       go_wp2_with (go_at_call 170; refine (nodeByte_any _ _).mono ?_; rw [Hb.out]; rintro e w' ⟨rfl, rfl⟩)
       go_roundw
       case rel => exact ⟨k + 1, by omega, rfl, HE.out⟩
       case measure => simp; omega
     ·
      have hnx : ∀ ty, (Instr.next (.pointer (some ⟨w.heap.size, 0, none⟩)) true ty).run Tryz.prog (w.iter (B m) k) = _ := fun ty => run_next_any w (B m) k ty hB
      obtain ⟨h1, h2⟩ := decode_high (B m) k hB (by rw [B_get]; omega)
      generalize Utf8.decode (B m) k = dd at hnx h1 h2
      obtain ⟨r, d⟩ := dd
      have hnb : nb r = false := by unfold nb; simp at h1 ⊢; omega
      have e : nodeN l = 0 := by rw [HS.out]; unfold scan; rw [if_neg (by unfold nb; simp; omega), if_neg (by omega)]
      have HE := Lib.hid e
      have Hb := Lib.hid hnb
      have hne : ((r : Int) == 47) = false := by rw [beq_eq_false_iff_ne]; simp at h1; omega
      clear e hnb h1 h2
      go_wp2_with (go_at_call 170; refine (nodeByte_any _ _).mono ?_; rw [Hb.out]; rintro e w' ⟨rfl, rfl⟩)
      go_ret
      exact ⟨by rw [HE.out]; rfl, (Below.refl _ _).alloc (Nat.le_refl _) _⟩
    ·
     have hnx : ∀ ty, (Instr.next (.pointer (some ⟨w.heap.size, 0, none⟩)) true ty).run Tryz.prog (w.iter (B m) k) = _ := fun ty => run_next_end w (B m) k ty (by rw [B_size]; exact hlt)
     have e : nodeN l = 0 := by rw [hs, List.drop_of_length_le (by omega)]; rfl
     have HE := Lib.hid e
     clear e hs
     go_wp2
     go_ret
     exact ⟨by rw [HE.out]; rfl, (Below.refl _ _).alloc (Nat.le_refl _) _⟩
  ·
   go_wp2
   go_ret
   exact ⟨by unfold nodeN; rw [if_neg (by omega)]; rfl, Below.refl _ _⟩

theorem scan_le : ∀ (l : List UInt8) (i : Nat), scan l i ≤ i + l.length + 2
 | [], i => by simp [scan]
 | c :: r, i => by
  unfold scan
  have := scan_le r (i + 1)
  split
  · simp at this ⊢; omega
  · split <;> simp <;> omega
theorem nodeN_le (l : List UInt8) : nodeN l ≤ l.length := by
 unfold nodeN
 split
 ·
  rename_i h
  have h1 := pre_length h.1
  have := scan_le (l.drop 2) 0
  simp at this h1
  omega
 · omega
def visible (c : UInt8) : Bool := decide (33 ≤ c.toNat ∧ c.toNat ≤ 126)
def namedB (l : List UInt8) : Bool := l == [110, 111, 110, 101] || (nodeN l != 0 && (l.drop (nodeN l)).all visible)
set_option maxRecDepth 100000 in
theorem named_any (l : List UInt8) (w : World) (hl : l.length ≤ maxLen) : Calls Tryz.prog 86 #[.string (B l)] w fun e w' => e = .returned (.bool (namedB l)) ∧ Below w.heap.size w w' := by
  have hle := nodeN_le l
  have hl0 := hl
  unfold maxLen at hl
  go_enter Tryz.func86, Tryz.ntmps86
  cases hn : (l == [110, 111, 110, 101])
  · have HN := Lib.hid hn
    go_wp2_with fail
    refine (node_any _ _ hl0).mono ?_; rintro e w1 ⟨rfl, hb⟩
    cases h0 : ((nodeN l : Int) == 0)
    · have e : namedB l = (l.drop (nodeN l)).all visible := by
        unfold namedB
        rw [HN.out]
        have : (nodeN l != 0) = true := by rw [bne_iff_ne]; rw [beq_eq_false_iff_ne] at h0; omega
        simp [this]
      obtain ⟨cap, w2, hconv, hcap, hb2, hz2, hc2, -⟩ := bytes_conv (P := Tryz.prog) w1 9 160 5 (l.drop (nodeN l)) Tryz.underlying9 Tryz.underlying160 Tryz.underlying5
      have hb3 : Below w.heap.size w w2 := hb.trans (hb2.mono hb.size)
      have hm : (l.drop (nodeN l)).length ≤ 9223372036854775807 := by simp; omega
      generalize nodeN l = n at *
      generalize hmm : l.drop n = m at *
      have htk : m.take (l.length - n) = m := List.take_of_length_le (by rw [← hmm]; simp)
      have HZ := Lib.hid hz2
      have HE := Lib.hid e
      have HC := Lib.hid hc2
      clear hz2 e hc2 hn
      go_wp2
      clear hmm htk
      go_loop [17] (fun i => ∃ k : Nat, k ≤ m.length ∧ i = .int .i64 k ∧ m.all visible = (m.drop k).all visible) (fun i => m.length - (intOf i).toNat)
      case atStart => exact ⟨0, Nat.zero_le _, rfl, rfl⟩
      case round =>
        obtain ⟨k, hk, rfl, hv⟩ := hrel
        by_cases hlt : k < m.length
        · have hcell := HC.out k hlt
          rw [List.drop_eq_getElem_cons hlt, List.all_cons] at hv
          have HV := Lib.hid hv
          clear hv
          go_wp2
          all_goals first
            | (go_ret; exact ⟨ret_bool (by rw [HE.out, HV.out]; simp [visible]; omega), hb3⟩)
            | (go_round
               case rel => exact ⟨k + 1, by omega, by go_num, by rw [HV.out]; simp [visible]; omega⟩
               case measure => simp [intOf]; omega)
        · go_wp2
          go_ret
          exact ⟨ret_bool (by rw [HE.out, hv, List.drop_of_length_le (by omega)]; simp), hb3⟩
    · have e : namedB l = false := by
        unfold namedB
        rw [HN.out]
        rw [beq_iff_eq] at h0
        have : nodeN l = 0 := by omega
        simp [this]
      have HE := Lib.hid e
      clear e
      go_wp2
      go_ret
      exact ⟨by rw [HE.out]; rfl, hb⟩
  · have e : namedB l = true := by unfold namedB; rw [hn]; rfl
    have HE := Lib.hid e
    clear e
    go_wp2
    go_ret
    exact ⟨by rw [HE.out]; rfl, Below.refl _ _⟩

def rightB (s : Int) (l : List UInt8) (n v : Int) : Bool :=
 if s = 1 then decide (n = 0 ∧ v = 0) && namedB l else if s = 2 then decide (l = [] ∧ n ≤ 4294967295 ∧ v ≤ 4294967295) else false
theorem Right_any (s : Int) (l : List UInt8) (n v : Int) (w : World) (hl : l.length ≤ maxLen) : Calls Tryz.prog 37 #[.agg #[.int .i64 s, .string (B l), .int .u64 n, .int .u64 v]] w fun e w' => e = .returned (.bool (rightB s l n v)) ∧ Below w.heap.size w w' := by
 go_enter Tryz.func37, Tryz.ntmps37
 by_cases h1 : s = 1
 ·
  subst h1
  have e : rightB 1 l n v = (decide (n = 0 ∧ v = 0) && namedB l) := rfl
  have HE := Lib.hid e
  clear e
  cases hn : (n == 0)
  ·
   go_wp2
   go_ret
   exact ⟨by rw [HE.out]; rw [beq_eq_false_iff_ne] at hn; simp [hn], (Below.refl _ _).alloc (Nat.le_refl _) _⟩
  ·
   cases hv : (v == 0)
   ·
    go_wp2
    go_ret
    exact ⟨by rw [HE.out]; rw [beq_eq_false_iff_ne] at hv; simp [hv], (Below.refl _ _).alloc (Nat.le_refl _) _⟩
   ·
    go_wp2_with (go_at_call 86; refine (named_any _ _ hl).mono ?_; rintro e w1 ⟨rfl, hb⟩)
    go_ret
    exact ⟨by rw [HE.out]; rw [beq_iff_eq] at hn hv; simp [hn, hv], ((Below.refl _ _).alloc (Nat.le_refl _) _).trans (hb.mono (by simp))⟩
 ·
  by_cases h2 : s = 2
  ·
   subst h2
   go_wp2
   all_goals
    go_ret
    exact ⟨ret_bool (by simp [rightB, *]; try omega), (Below.refl _ _).alloc (Nat.le_refl _) _⟩
  ·
   go_wp2
   go_ret
   exact ⟨by unfold rightB; rw [if_neg h1, if_neg h2]; rfl, (Below.refl _ _).alloc (Nat.le_refl _) _⟩
theorem None_any (w : World) : Calls Tryz.prog 223 #[] w fun e w' => e = .returned (.agg #[.int .i64 1, .string (B [110, 111, 110, 101]), .int .u64 0, .int .u64 0]) ∧ Below w.heap.size w w' := by
 go_enter Tryz.func223, Tryz.ntmps223
 go_wp2
 exact bodyPost_ret (v := .agg #[.int .i64 1, .string (B [110, 111, 110, 101]), .int .u64 0, .int .u64 0]) (by simp [results, Tryz.results223, go_sem]; rfl) rfl ⟨rfl, by ((repeat' (with_reducible first | exact Below.refl _ _ | assumption | refine Below.drew ?_ | refine below_drewN ?_ _ | refine Below.setCell ?_ ?_ _ | refine Below.alloc ?_ ?_ _ | refine Below.ext ?_ ?_ _ | refine Below.trans ?_ (Below.mono ‹_› ?_))) <;> first | omega | (simp; done) | (simp; omega))⟩
end Go.Proofs.YtcdjakemdlinhaaGreatDoor.Eid
namespace Go.Proofs.YtcdjakemdlinhaaGreatDoor.Sx
open Go.ChangeShapes Go.WideShapes Go.ChangeAt Go.RowKit Go.Deep
def eiRight (e : Ei) : Bool := Eid.rightB e.s e.l e.n e.v
theorem eRight_any (e : Ei) (w : World) (h : e.l.length ≤ R47) : Calls Tryz.prog 37 #[e.V] w (Ret (.bool (eiRight e)) w) := Eid.Right_any _ _ _ _ w (by unfold R47 at h; unfold maxLen; omega)
def Ei.none : Ei := ⟨1, [110, 111, 110, 101], 0, 0⟩
theorem eNone_any (w : World) : Calls Tryz.prog 223 #[] w (Ret Ei.none.V w) := Eid.None_any w
def big (n : Nat) : Bool := decide ((n : Int) > 1099511627776)
def prRanged (p : Pr) : Bool := !big p.time && !big p.seq && !big p.life && !big p.off && !big p.tot && eiRight p.dst && eiRight p.src && eiRight p.rpt && decide (p.c ≥ 0) && decide (p.c ≤ 2) && decide ((p.f : Int) < 2097152)
set_option maxHeartbeats 16000000 in
theorem pRanged_any (p : Pr) (w : World) (h : p.ok) : Calls Tryz.prog 222 #[p.V] w (Ret (.bool (prRanged p)) w) := by
 refine sx_enter (f := 222) 52 View.no Tryz.func222 rfl rfl rfl (fun _ _ h => by cases h) ?_
 refine zs (zr (sx_N (fun b0 => (zq 1 (zn (zs (zB [0,1,0,1,0,1,0,1,0,1] [(b0,1),(b0,1),(b0,1),(b0,1),(b0,1)] (sx_N (fun b1 => (zq 2 (zn (sx_block ?_))))))))))))
 refine sx_loop (α := Nat) (fun x => match x with | 0 => [1,2,15,16,17].zip [(Pt b0 0),(.bool false),(Sl b1 0 5 5),(I6 5),(I6 0)] | 1 => [1,2,15,16,17].zip [(Pt b0 0),(.bool false),(Sl b1 0 5 5),(I6 5),(I6 1)] | 2 => [1,2,15,16,17].zip [(Pt b0 0),(.bool false),(Sl b1 0 5 5),(I6 5),(I6 2)] | 3 => [1,2,15,16,17].zip [(Pt b0 0),(.bool false),(Sl b1 0 5 5),(I6 5),(I6 3)] | 4 => [1,2,15,16,17].zip [(Pt b0 0),(.bool false),(Sl b1 0 5 5),(I6 5),(I6 4)] | _ => [1,2,15,16,17].zip [(Pt b0 0),(.bool false),(Sl b1 0 5 5),(I6 5),(I6 5)]) (fun _ => View.no) (fun x => [(bK b0 p.cs 26),(bK b1 [(N6 p.time),(N6 p.seq),(N6 p.life),(N6 p.off),(N6 p.tot)] 22)]) (fun x => x ≤ 5 ∧ (0 < x → (decide ((p.time : Int) > 1099511627776)) = false) ∧ (1 < x → (decide ((p.seq : Int) > 1099511627776)) = false) ∧ (2 < x → (decide ((p.life : Int) > 1099511627776)) = false) ∧ (3 < x → (decide ((p.off : Int) > 1099511627776)) = false) ∧ (4 < x → (decide ((p.tot : Int) > 1099511627776)) = false)) (fun x => 5 - x) 0 ⟨by omega,fun h => absurd h (by omega),fun h => absurd h (by omega),fun h => absurd h (by omega),fun h => absurd h (by omega),fun h => absurd h (by omega)⟩ (look_zip _ _ (by kernel_rfl)) (fun _ h => h.eqv (by kernel_rfl)) ?_
 rintro x ⟨hx,hc0_0,hc1_0,hc2_0,hc3_0,hc4_0⟩
 rcases (by omega : x = 0 ∨ x = 1 ∨ x = 2 ∨ x = 3 ∨ x = 4 ∨ x = 5) with rfl | rfl | rfl | rfl | rfl | rfl
 ·
  refine zQ 1 (zn (zs (sx_T (zk (zs (sx_block (zB [0,2,0] [(b1,1)] (zn (zQ 2 (zn (sx_D (decide ((p.time : Int) > 1099511627776)) (fun h0 => ?_) (fun h0 => ?_))))))))))))
  ·
   refine zQ 1 (zn (sx_ret (sx_Z [2] [(.bool false)] (fun W' hM => ?_))))
   exact ⟨by simp only [resV,prRanged,big,h0,bs,if_true,if_false,cond_true,cond_false,reduceIte],hM.below⟩
  ·
   have h0d := of_decide_eq_false h0
   refine zk (zr (zq 2 (zn ?_)))
   refine ⟨1,⟨by omega,fun _ => h0,fun h => absurd h (by omega),fun h => absurd h (by omega),fun h => absurd h (by omega),fun h => absurd h (by omega)⟩,by show 5 - 1 < 5 - 0; omega,look_zip _ _ (by kernel_rfl),fun _ h => h.eqv (by kernel_rfl)⟩
 ·
  refine zQ 1 (zn (zs (sx_T (zk (zs (sx_block (zB [0,2,0] [(b1,1)] (zn (zQ 2 (zn (sx_D (decide ((p.seq : Int) > 1099511627776)) (fun h1 => ?_) (fun h1 => ?_))))))))))))
  ·
   have h1d := of_decide_eq_true h1
   refine zQ 1 (zn (sx_ret (sx_Z [2] [(.bool false)] (fun W' hM => ?_))))
   exact ⟨by simp only [resV,prRanged,big,(hc0_0 (by omega)),h1,bs,if_true,if_false,cond_true,cond_false,reduceIte],hM.below⟩
  ·
   have h1d := of_decide_eq_false h1
   refine zk (zr (zq 2 (zn ?_)))
   refine ⟨2,⟨by omega,fun _ => hc0_0 (by omega),fun _ => h1,fun h => absurd h (by omega),fun h => absurd h (by omega),fun h => absurd h (by omega)⟩,by show 5 - 2 < 5 - 1; omega,look_zip _ _ (by kernel_rfl),fun _ h => h.eqv (by kernel_rfl)⟩
 ·
  refine zQ 1 (zn (zs (sx_T (zk (zs (sx_block (zB [0,2,0] [(b1,1)] (zn (zQ 2 (zn (sx_D (decide ((p.life : Int) > 1099511627776)) (fun h2 => ?_) (fun h2 => ?_))))))))))))
  ·
   have h2d := of_decide_eq_true h2
   refine zQ 1 (zn (sx_ret (sx_Z [2] [(.bool false)] (fun W' hM => ?_))))
   exact ⟨by simp only [resV,prRanged,big,(hc0_0 (by omega)),(hc1_0 (by omega)),h2,bs,if_true,if_false,cond_true,cond_false,reduceIte],hM.below⟩
  ·
   have h2d := of_decide_eq_false h2
   refine zk (zr (zq 2 (zn ?_)))
   refine ⟨3,⟨by omega,fun _ => hc0_0 (by omega),fun _ => hc1_0 (by omega),fun _ => h2,fun h => absurd h (by omega),fun h => absurd h (by omega)⟩,by show 5 - 3 < 5 - 2; omega,look_zip _ _ (by kernel_rfl),fun _ h => h.eqv (by kernel_rfl)⟩
 ·
  refine zQ 1 (zn (zs (sx_T (zk (zs (sx_block (zB [0,2,0] [(b1,1)] (zn (zQ 2 (zn (sx_D (decide ((p.off : Int) > 1099511627776)) (fun h3 => ?_) (fun h3 => ?_))))))))))))
  ·
   have h3d := of_decide_eq_true h3
   refine zQ 1 (zn (sx_ret (sx_Z [2] [(.bool false)] (fun W' hM => ?_))))
   exact ⟨by simp only [resV,prRanged,big,(hc0_0 (by omega)),(hc1_0 (by omega)),(hc2_0 (by omega)),h3,bs,if_true,if_false,cond_true,cond_false,reduceIte],hM.below⟩
  ·
   have h3d := of_decide_eq_false h3
   refine zk (zr (zq 2 (zn ?_)))
   refine ⟨4,⟨by omega,fun _ => hc0_0 (by omega),fun _ => hc1_0 (by omega),fun _ => hc2_0 (by omega),fun _ => h3,fun h => absurd h (by omega)⟩,by show 5 - 4 < 5 - 3; omega,look_zip _ _ (by kernel_rfl),fun _ h => h.eqv (by kernel_rfl)⟩
 ·
  refine zQ 1 (zn (zs (sx_T (zk (zs (sx_block (zB [0,2,0] [(b1,1)] (zn (zQ 2 (zn (sx_D (decide ((p.tot : Int) > 1099511627776)) (fun h4 => ?_) (fun h4 => ?_))))))))))))
  ·
   have h4d := of_decide_eq_true h4
   refine zQ 1 (zn (sx_ret (sx_Z [2] [(.bool false)] (fun W' hM => ?_))))
   exact ⟨by simp only [resV,prRanged,big,(hc0_0 (by omega)),(hc1_0 (by omega)),(hc2_0 (by omega)),(hc3_0 (by omega)),h4,bs,if_true,if_false,cond_true,cond_false,reduceIte],hM.below⟩
  ·
   have h4d := of_decide_eq_false h4
   refine zk (zr (zq 2 (zn ?_)))
   refine ⟨5,⟨by omega,fun _ => hc0_0 (by omega),fun _ => hc1_0 (by omega),fun _ => hc2_0 (by omega),fun _ => hc3_0 (by omega),fun _ => h4⟩,by show 5 - 5 < 5 - 4; omega,look_zip _ _ (by kernel_rfl),fun _ h => h.eqv (by kernel_rfl)⟩
 ·
  refine zQ 1 (zn (zs (sx_F (sx_exit (zB [0,1] [(b0,4)] (sx_C 37 #[(.agg #[(I6 p.dst.s),(St p.dst.l),(N6 p.dst.n),(N6 p.dst.v)])] (.bool (eiRight p.dst)) (fun W hM => eRight_any p.dst W h.dst.l) ?_))))))
  refine zq 1 (sx_BL 27 (eiRight p.dst) (fun h5 => ?_) (fun h5 => ?_))
  ·
   refine sx_B [0,1] [(b0,4)] (sx_C 37 #[(.agg #[(I6 p.src.s),(St p.src.l),(N6 p.src.n),(N6 p.src.v)])] (.bool (eiRight p.src)) (fun W hM => eRight_any p.src W h.src.l) ?_)
   refine zq 2 (sx_BL 32 (eiRight p.src) (fun h6 => ?_) (fun h6 => ?_))
   ·
    refine sx_B [0,1] [(b0,4)] (sx_C 37 #[(.agg #[(I6 p.rpt.s),(St p.rpt.l),(N6 p.rpt.n),(N6 p.rpt.v)])] (.bool (eiRight p.rpt)) (fun W hM => eRight_any p.rpt W h.rpt.l) ?_)
    refine zq 2 (sx_BL 37 (eiRight p.rpt) (fun h7 => ?_) (fun h7 => ?_))
    ·
     refine sx_B [0,1,0,0,0] [(b0,1)] (sx_BL 42 (decide (p.c ≥ 0)) (fun h8 => ?_) (fun h8 => ?_))
     ·
      have h8d := of_decide_eq_true h8
      refine sx_B [0,1,0,0,0] [(b0,1)] (sx_BL 47 (decide (p.c ≤ 2)) (fun h9 => ?_) (fun h9 => ?_))
      ·
       have h9d := of_decide_eq_true h9
       refine sx_B [0,1,0,0,0] [(b0,1)] (zn (sx_ret (sx_Z [2] [(.bool (decide ((p.f : Int) < 2097152)))] (fun W' hM => ?_))))
       exact ⟨by simp only [resV,prRanged,big,(hc0_0 (by omega)),(hc1_0 (by omega)),(hc2_0 (by omega)),(hc3_0 (by omega)),(hc4_0 (by omega)),h5,h6,h7,h8,h9,bs,if_true,if_false,cond_true,cond_false,reduceIte],hM.below⟩
      ·
       have h9d := of_decide_eq_false h9
       refine zq 5 (zn (sx_ret (sx_Z [2] [(.bool false)] (fun W' hM => ?_))))
       exact ⟨by simp only [resV,prRanged,big,(hc0_0 (by omega)),(hc1_0 (by omega)),(hc2_0 (by omega)),(hc3_0 (by omega)),(hc4_0 (by omega)),h5,h6,h7,h8,h9,bs,if_true,if_false,cond_true,cond_false,reduceIte],hM.below⟩
     ·
      have h8d := of_decide_eq_false h8
      refine zq 10 (zn (sx_ret (sx_Z [2] [(.bool false)] (fun W' hM => ?_))))
      exact ⟨by simp only [resV,prRanged,big,(hc0_0 (by omega)),(hc1_0 (by omega)),(hc2_0 (by omega)),(hc3_0 (by omega)),(hc4_0 (by omega)),h5,h6,h7,h8,bs,if_true,if_false,cond_true,cond_false,reduceIte],hM.below⟩
    ·
     refine zq 15 (zn (sx_ret (sx_Z [2] [(.bool false)] (fun W' hM => ?_))))
     exact ⟨by simp only [resV,prRanged,big,(hc0_0 (by omega)),(hc1_0 (by omega)),(hc2_0 (by omega)),(hc3_0 (by omega)),(hc4_0 (by omega)),h5,h6,h7,bs,if_true,if_false,cond_true,cond_false,reduceIte],hM.below⟩
   ·
    refine zq 20 (zn (sx_ret (sx_Z [2] [(.bool false)] (fun W' hM => ?_))))
    exact ⟨by simp only [resV,prRanged,big,(hc0_0 (by omega)),(hc1_0 (by omega)),(hc2_0 (by omega)),(hc3_0 (by omega)),(hc4_0 (by omega)),h5,h6,bs,if_true,if_false,cond_true,cond_false,reduceIte],hM.below⟩
  ·
   refine zq 25 (zn (sx_ret (sx_Z [2] [(.bool false)] (fun W' hM => ?_))))
   exact ⟨by simp only [resV,prRanged,big,(hc0_0 (by omega)),(hc1_0 (by omega)),(hc2_0 (by omega)),(hc3_0 (by omega)),(hc4_0 (by omega)),h5,bs,if_true,if_false,cond_true,cond_false,reduceIte],hM.below⟩
def prRight (p : Pr) : Int :=
 if !prRanged p then 1
 else if (andI .u64 p.f 1 != 0) && (andI .u64 p.f 4 != 0) then 8
 else if (!(andI .u64 p.f 1 != 0)) && (((p.off : Int) != 0) || ((p.tot : Int) != 0)) then 8
 else if (andI .u64 p.f 1 != 0) && decide ((p.off : Int) ≥ (p.tot : Int)) then 8
 else if decide (p.src.s = 1 ∧ p.src.l = [110, 111, 110, 101] ∧ (p.src.n : Int) = 0 ∧ (p.src.v : Int) = 0) && ((andI .u64 p.f 278528 != 0) || (andI .u64 p.f 4 == 0)) then 8
 else if (andI .u64 p.f 278528 != 0) && (andI .u64 p.f 2 != 0) then 8 else 0
set_option maxHeartbeats 16000000 in
theorem pRight_any (p : Pr) (w : World) (h : p.ok) : Calls Tryz.prog 191 #[p.V] w (Ret (.int .i64 (prRight p)) w) := by
 refine sx_enter (f := 191) 68 View.no Tryz.func191 rfl rfl rfl (fun _ _ h => by cases h) ?_
 refine zs (zr (sx_N (fun b0 => (zq 1 (zn (zs (sx_W 9 1 0 [5,6,7,8,9,10,11,12,3] [.val (Pt b0 0),.val (N6 p.f),.val (U6 (andI .u64 (p.f : Int) 1)),.val (.bool ((andI .u64 (p.f : Int) 1) != 0)),.val (Pt b0 0),.val (N6 p.f),.val (U6 (andI .u64 (p.f : Int) 278528)),.val (.bool ((andI .u64 (p.f : Int) 278528) != 0)),.val (.bool ((andI .u64 (p.f : Int) 1) != 0))] ⟨?_,?_,?_,?_,?_,?_,?_,?_,?_,trivial⟩ ?_)))))))
 · exact oQ 0 rfl (Pt b0 0) rfl
 · exact oL 1 0 b0 1 p.cs 26 rfl (N6 p.f) rfl
 · exact oQ 2 rfl (U6 (andI .u64 (p.f : Int) 1)) rfl
 · exact oQ 3 rfl (.bool ((andI .u64 (p.f : Int) 1) != 0)) rfl
 · exact oQ 4 rfl (Pt b0 0) rfl
 · exact oL 5 0 b0 1 p.cs 26 rfl (N6 p.f) rfl
 · exact oQ 6 rfl (U6 (andI .u64 (p.f : Int) 278528)) rfl
 · exact oQ 7 rfl (.bool ((andI .u64 (p.f : Int) 278528) != 0)) rfl
 · exact oQ 8 rfl (.bool ((andI .u64 (p.f : Int) 1) != 0)) rfl
 refine zq 1 (zn (zs (sx_block (zB [1] [(b0,19)] (sx_C 222 #[(p.V)] (.bool (prRanged p)) (fun W hM => pRanged_any p W h) ?_)))))
 refine zq 2 (zn (sx_D (!(prRanged p)) (fun h0 => ?_) (fun h0 => ?_)))
 ·
  refine zQ 1 (zn (sx_ret (sx_Z [2] [(I6 1)] (fun W' hM => ?_))))
  exact ⟨by simp only [resV,prRight,h0,bs,if_true,if_false,cond_true,cond_false,reduceIte],hM.below⟩
 ·
  refine zQ 2 (sx_BL 19 ((andI .u64 (p.f : Int) 1) != 0) (fun h1 => ?_) (fun h1 => ?_))
  ·
   refine sx_B [0,1,0,0,0,0] [(b0,1)] (zn (sx_D ((andI .u64 (p.f : Int) 4) != 0) (fun h2 => ?_) (fun h2 => ?_)))
   ·
    refine zQ 1 (zn (sx_ret (sx_Z [2] [(I6 8)] (fun W' hM => ?_))))
    exact ⟨by simp only [resV,prRight,h0,h1,h2,bs,if_true,if_false,cond_true,cond_false,reduceIte],hM.below⟩
   ·
    refine zs (zQ 3 (sx_E 28 (.bool (!((andI .u64 (p.f : Int) 1) != 0))) (.bool false) (congrArg Value.bool (by rw [h1]; rfl)) ?_))
    refine zq 10 (zn (sx_F (zr (zq 2 (sx_E 39 (.bool ((andI .u64 (p.f : Int) 1) != 0)) (.bool true) (congrArg Value.bool h1) ?_)))))
    refine sx_B [0,1,0,1,0,0,0] [(b0,1),(b0,1)] (zn (sx_D (decide ((p.off : Int) ≥ (p.tot : Int))) (fun h3 => ?_) (fun h3 => ?_)))
    ·
     refine zQ 1 (zn (sx_ret (sx_Z [2] [(I6 8)] (fun W' hM => ?_))))
     exact ⟨by simp only [resV,prRight,h0,h1,h2,h3,bs,if_true,if_false,cond_true,cond_false,reduceIte],hM.below⟩
    ·
     refine zs (sx_W 3 11 4 [47,48,49] [.val (Pt b0 6),.val (.agg #[(I6 p.src.s),(St p.src.l),(N6 p.src.n),(N6 p.src.v)]),.val (.agg #[(I6 1),(St [110,111,110,101]),(U6 0),(U6 0)])] ⟨?_,?_,?_,trivial⟩ ?_)
     · exact oQ 0 rfl (Pt b0 6) rfl
     · exact oL 1 0 b0 4 p.cs 26 rfl (.agg #[(I6 p.src.s),(St p.src.l),(N6 p.src.n),(N6 p.src.v)]) rfl
     · exact obC 2 223 #[] rfl (.agg #[(I6 1),(St [110,111,110,101]),(U6 0),(U6 0)]) rfl (by kernel_rfl) (fun W hM => eNone_any W) (by kernel_rfl)
     refine sx_R (.bool (decide (p.src.s = 1 ∧ p.src.l = [110,111,110,101] ∧ (p.src.n : Int) = 0 ∧ (p.src.v : Int) = 0))) (run_eqEi _ _ _ rfl _ _ _ _ _ _ _ _ (by kernel_rfl) (by kernel_rfl)) ?_
     refine zq 1 (sx_BL 51 (decide (p.src.s = 1 ∧ p.src.l = [110,111,110,101] ∧ (p.src.n : Int) = 0 ∧ (p.src.v : Int) = 0)) (fun h4 => ?_) (fun h4 => ?_))
     ·
      refine zq 2 (sx_BL 53 ((andI .u64 (p.f : Int) 278528) != 0) (fun h5 => ?_) (fun h5 => ?_))
      ·
       refine zq 7 (zn (sx_T (zQ 1 (zn (sx_ret (sx_Z [2] [(I6 8)] (fun W' hM => ?_)))))))
       exact ⟨by simp only [resV,prRight,h0,h1,h2,h3,h4,h5,bs,if_true,if_false,cond_true,cond_false,reduceIte],hM.below⟩
      ·
       refine sx_B [0,1,0,0,0,0,0] [(b0,1)] (zn (sx_D ((andI .u64 (p.f : Int) 4) == 0) (fun h6 => ?_) (fun h6 => ?_)))
       ·
        refine zQ 1 (zn (sx_ret (sx_Z [2] [(I6 8)] (fun W' hM => ?_))))
        exact ⟨by simp only [resV,prRight,h0,h1,h2,h3,h4,h5,h6,bs,if_true,if_false,cond_true,cond_false,reduceIte],hM.below⟩
       ·
        refine zQ 2 (sx_E 62 (.bool ((andI .u64 (p.f : Int) 278528) != 0)) (.bool false) (congrArg Value.bool h5) ?_)
        refine zq 6 (zn (sx_F (zk (zQ 1 (zn (sx_ret (sx_Z [2] [(I6 0)] (fun W' hM => ?_))))))))
        exact ⟨by simp only [resV,prRight,h0,h1,h2,h3,h4,h5,h6,bs,if_true,if_false,cond_true,cond_false,reduceIte],hM.below⟩
     ·
      refine zq 9 (zn (sx_F (zQ 2 (sx_BL 62 ((andI .u64 (p.f : Int) 278528) != 0) (fun h7 => ?_) (fun h7 => ?_)))))
      ·
       refine sx_B [0,1,0,0,0,0] [(b0,1)] (zn (sx_D ((andI .u64 (p.f : Int) 2) != 0) (fun h8 => ?_) (fun h8 => ?_)))
       ·
        refine zQ 1 (zn (sx_ret (sx_Z [2] [(I6 8)] (fun W' hM => ?_))))
        exact ⟨by simp only [resV,prRight,h0,h1,h2,h3,h4,h7,h8,bs,if_true,if_false,cond_true,cond_false,reduceIte],hM.below⟩
       ·
        refine zk (zQ 1 (zn (sx_ret (sx_Z [2] [(I6 0)] (fun W' hM => ?_)))))
        exact ⟨by simp only [resV,prRight,h0,h1,h2,h3,h4,h7,h8,bs,if_true,if_false,cond_true,cond_false,reduceIte],hM.below⟩
      ·
       refine zq 6 (zn (sx_F (zk (zQ 1 (zn (sx_ret (sx_Z [2] [(I6 0)] (fun W' hM => ?_))))))))
       exact ⟨by simp only [resV,prRight,h0,h1,h2,h3,h4,h7,bs,if_true,if_false,cond_true,cond_false,reduceIte],hM.below⟩
  ·
   refine zq 6 (zn (sx_F (zs (zQ 3 (sx_E 28 (.bool (!((andI .u64 (p.f : Int) 1) != 0))) (.bool true) (congrArg Value.bool (by rw [h1]; rfl)) ?_)))))
   refine sx_B [0,1,0,0] [(b0,1)] (sx_BL 32 ((p.off : Int) != 0) (fun h9 => ?_) (fun h9 => ?_))
   ·
    refine zq 6 (zn (sx_T (zk (sx_T (zQ 1 (zn (sx_ret (sx_Z [2] [(I6 8)] (fun W' hM => ?_)))))))))
    exact ⟨by simp only [resV,prRight,h0,h1,h9,bs,if_true,if_false,cond_true,cond_false,reduceIte],hM.below⟩
   ·
    refine sx_B [0,1,0,0,0,0] [(b0,1)] (zn (sx_D ((p.tot : Int) != 0) (fun h10 => ?_) (fun h10 => ?_)))
    ·
     refine zk (sx_T' ((p.tot : Int) != 0) h10 ?_)
     refine zQ 1 (zn (sx_ret (sx_Z [2] [(I6 8)] (fun W' hM => ?_))))
     exact ⟨by simp only [resV,prRight,h0,h1,h10,h9,bs,if_true,if_false,cond_true,cond_false,reduceIte],hM.below⟩
    ·
     refine zr (zq 2 (sx_E 39 (.bool ((andI .u64 (p.f : Int) 1) != 0)) (.bool false) (congrArg Value.bool h1) ?_))
     refine zq 7 (zn (sx_F (zs (sx_W 3 11 4 [47,48,49] [.val (Pt b0 6),.val (.agg #[(I6 p.src.s),(St p.src.l),(N6 p.src.n),(N6 p.src.v)]),.val (.agg #[(I6 1),(St [110,111,110,101]),(U6 0),(U6 0)])] ⟨?_,?_,?_,trivial⟩ ?_))))
     · exact oQ 0 rfl (Pt b0 6) rfl
     · exact oL 1 0 b0 4 p.cs 26 rfl (.agg #[(I6 p.src.s),(St p.src.l),(N6 p.src.n),(N6 p.src.v)]) rfl
     · exact obC 2 223 #[] rfl (.agg #[(I6 1),(St [110,111,110,101]),(U6 0),(U6 0)]) rfl (by kernel_rfl) (fun W hM => eNone_any W) (by kernel_rfl)
     refine sx_R (.bool (decide (p.src.s = 1 ∧ p.src.l = [110,111,110,101] ∧ (p.src.n : Int) = 0 ∧ (p.src.v : Int) = 0))) (run_eqEi _ _ _ rfl _ _ _ _ _ _ _ _ (by kernel_rfl) (by kernel_rfl)) ?_
     refine zq 1 (sx_BL 51 (decide (p.src.s = 1 ∧ p.src.l = [110,111,110,101] ∧ (p.src.n : Int) = 0 ∧ (p.src.v : Int) = 0)) (fun h11 => ?_) (fun h11 => ?_))
     ·
      refine zq 2 (sx_BL 53 ((andI .u64 (p.f : Int) 278528) != 0) (fun h12 => ?_) (fun h12 => ?_))
      ·
       refine zq 7 (zn (sx_T (zQ 1 (zn (sx_ret (sx_Z [2] [(I6 8)] (fun W' hM => ?_)))))))
       exact ⟨by simp only [resV,prRight,h0,h1,h10,h11,h12,h9,bs,if_true,if_false,cond_true,cond_false,reduceIte],hM.below⟩
      ·
       refine sx_B [0,1,0,0,0,0,0] [(b0,1)] (zn (sx_D ((andI .u64 (p.f : Int) 4) == 0) (fun h13 => ?_) (fun h13 => ?_)))
       ·
        refine zQ 1 (zn (sx_ret (sx_Z [2] [(I6 8)] (fun W' hM => ?_))))
        exact ⟨by simp only [resV,prRight,h0,h1,h10,h11,h12,h13,h9,bs,if_true,if_false,cond_true,cond_false,reduceIte],hM.below⟩
       ·
        refine zQ 2 (sx_E 62 (.bool ((andI .u64 (p.f : Int) 278528) != 0)) (.bool false) (congrArg Value.bool h12) ?_)
        refine zq 6 (zn (sx_F (zk (zQ 1 (zn (sx_ret (sx_Z [2] [(I6 0)] (fun W' hM => ?_))))))))
        exact ⟨by simp only [resV,prRight,h0,h1,h10,h11,h12,h13,h9,bs,if_true,if_false,cond_true,cond_false,reduceIte],hM.below⟩
     ·
      refine zq 9 (zn (sx_F (zQ 2 (sx_BL 62 ((andI .u64 (p.f : Int) 278528) != 0) (fun h14 => ?_) (fun h14 => ?_)))))
      ·
       refine sx_B [0,1,0,0,0,0] [(b0,1)] (zn (sx_D ((andI .u64 (p.f : Int) 2) != 0) (fun h15 => ?_) (fun h15 => ?_)))
       ·
        refine zQ 1 (zn (sx_ret (sx_Z [2] [(I6 8)] (fun W' hM => ?_))))
        exact ⟨by simp only [resV,prRight,h0,h1,h10,h11,h14,h15,h9,bs,if_true,if_false,cond_true,cond_false,reduceIte],hM.below⟩
       ·
        refine zk (zQ 1 (zn (sx_ret (sx_Z [2] [(I6 0)] (fun W' hM => ?_)))))
        exact ⟨by simp only [resV,prRight,h0,h1,h10,h11,h14,h15,h9,bs,if_true,if_false,cond_true,cond_false,reduceIte],hM.below⟩
      ·
       refine zq 6 (zn (sx_F (zk (zQ 1 (zn (sx_ret (sx_Z [2] [(I6 0)] (fun W' hM => ?_))))))))
       exact ⟨by simp only [resV,prRight,h0,h1,h10,h11,h14,h9,bs,if_true,if_false,cond_true,cond_false,reduceIte],hM.below⟩
end Go.Proofs.YtcdjakemdlinhaaGreatDoor.Sx
namespace Go.Proofs.YtcdjakemdlinhaaGreatDoor
open Go.ChangeShapes Go.WideShapes Go.ChangeAt Go.RowKit

def All2 {A C : Type} (R : A → C → Prop) : List A → List C → Prop
 | [], cs => cs = []
 | a :: l, cs => ∃ c r, cs = c :: r ∧ R a c ∧ All2 R l r
def leafAt (P : Program) : Nat → TypeId → Nat → Option TypeId
 | 0, _, _ => none
 | d + 1, t, o =>
  match P.underlying t with
  | some (.struct fs) => (fs.toList.find? fun f => decide (f.offset ≤ o ∧ o < f.offset + P.cellsOf f.type)).bind fun f => leafAt P d f.type (o - f.offset)
  | some (.array n e) => if o / P.cellsOf e < n ∧ 0 < P.cellsOf e then leafAt P d e (o % P.cellsOf e) else none
  | some _ => if o = 0 then some t else none
  | none => none

section
variable {H : Type} {enc : TypeId × Value → H} {P : Program} {w : World} {base : Nat} {spare : Nat → Bool} {held : Bool}

theorem trod_one {fuel : Nat} {t : TypeId} {cs : List Value} {y : DataW H × List MemPlace} (h : DataW.trod enc P w base spare held fuel t cs = some y)
  (h1 : ∀ fs, P.underlying t ≠ some (.struct fs)) (h2 : ∀ n e, P.underlying t ≠ some (.array n e)) : ∃ c, cs = [c] := by
 cases fuel with
 | zero => simp [DataW.trod] at h
 | succ n =>
  unfold DataW.trod at h
  split at h <;> first | exact ⟨_, rfl⟩ | (rename_i hu; exact absurd hu (h1 _)) | (rename_i hu; exact absurd hu (h2 _ _)) | cases h

theorem sub_flat {y : DataW H × List MemPlace} {xs : List (DataW H × List MemPlace)} (h : y ∈ xs) : ∀ p ∈ y.2, p ∈ xs.flatMap (·.2) := fun _p hp => List.mem_flatMap.2 ⟨y, h, hp⟩

theorem trod_leaf : ∀ (d : Nat) {fuel : Nat} {t u : TypeId} {o : Nat} {cs : List Value} {y : DataW H × List MemPlace}, leafAt P d t o = some u → DataW.trod enc P w base spare held fuel t cs = some y →
  ∃ n c z, (cs.drop o).take 1 = [c] ∧ DataW.trod enc P w base spare held n u [c] = some z ∧ ∀ p ∈ z.2, p ∈ y.2
 | 0, _, _, _, _, _, _, hl, _ => by simp [leafAt] at hl
 | d + 1, fuel, t, u, o, cs, y, hl, h => by
  unfold leafAt at hl
  split at hl
  ·
   rename_i fs hs
   obtain ⟨f, hf, hl⟩ := Option.bind_eq_some_iff.1 hl
   have hp := List.find?_some hf
   have hm := List.mem_of_find?_eq_some hf
   simp only [decide_eq_true_eq] at hp
   obtain ⟨i, hi⟩ := List.mem_iff_getElem?.1 hm
   obtain ⟨xs, n, rfl, rfl, hlen, hxs, hall⟩ := DataW.trod_struct hs h
   have hr := hall i f (by simpa using hi)
   have hx : ∃ z, xs[i]? = some z := by
    have : i < fs.toList.length := (List.getElem?_eq_some_iff.1 hi).1
    have hlt : i < xs.length := by rw [hxs]; simpa using this
    exact ⟨xs[i], List.getElem?_eq_getElem hlt⟩
   obtain ⟨z, hz⟩ := hx
   rw [hz] at hr
   obtain ⟨m, c, z', hc, hr', hsub⟩ := trod_leaf d hl hr
   refine ⟨m, c, z', ?_, hr', fun p hp' => sub_flat (List.mem_of_getElem? hz) p (hsub p hp')⟩
   rw [← hc, List.drop_take, List.drop_drop, List.take_take]
   rw [show f.offset + (o - f.offset) = o by omega, show min 1 (P.cellsOf f.type - (o - f.offset)) = 1 by omega]
  ·
   rename_i n e hs
   split at hl
   ·
    rename_i hn
    obtain ⟨hn, hpos⟩ := hn
    obtain ⟨xs, m, rfl, rfl, hlen, hxs, hall⟩ := DataW.trod_array hs h
    have hr := hall (o / P.cellsOf e) hn
    have hlt : o / P.cellsOf e < xs.length := by rw [hxs]; exact hn
    rw [List.getElem?_eq_getElem hlt] at hr
    obtain ⟨m', c, z', hc, hr', hsub⟩ := trod_leaf d hl hr
    refine ⟨m', c, z', ?_, hr', fun p hp' => sub_flat (List.getElem_mem hlt) p (hsub p hp')⟩
    have hmod : o % P.cellsOf e < P.cellsOf e := Nat.mod_lt _ hpos
    have hdm : o / P.cellsOf e * P.cellsOf e + o % P.cellsOf e = o := by rw [Nat.mul_comm]; exact Nat.div_add_mod _ _
    rw [← hc, List.drop_take, List.drop_drop, List.take_take, hdm, show min 1 (P.cellsOf e - o % P.cellsOf e) = 1 by omega]
   · cases hl
  ·
   rename_i desc h1 h2 hs
   split at hl
   ·
    rename_i ho
    subst ho
    cases hl
    obtain ⟨c, rfl⟩ := trod_one h (fun fs hf => h1 fs (by rw [hs] at hf; exact Option.some.inj hf)) (fun n e hf => h2 n e (by rw [hs] at hf; exact Option.some.inj hf))
    exact ⟨fuel, c, y, rfl, h, fun p hp => hp⟩
   · cases hl
  · cases hl
end

def LeafOk {H : Type} (enc : TypeId × Value → H) (P : Program) (w : World) (u : TypeId) (v : Value) : Prop :=
 ∃ n z, DataW.trod enc P w 0 (fun _ => true) true n u [v] = some z ∧ ∀ p ∈ z.2, p.block < w.heap.size

section
variable {H : Type} {enc : TypeId × Value → H} {P : Program} {w : World}
theorem leaves_go {fuel : Nat} {t : TypeId} {cs : List Value} {y : DataW H × List MemPlace} (h : DataW.trod enc P w 0 (fun _ => true) true fuel t cs = some y) (hlt : ∀ p ∈ y.2, p.block < w.heap.size) :
  ∀ (us : List TypeId) (k : Nat), (∀ i u, us[i]? = some u → leafAt P 9 t (k + i) = some u) → cs.length = k + us.length → All2 (LeafOk enc P w) us (cs.drop k)
 | [], k, _, hlen => List.drop_of_length_le (by simp at hlen; omega)
 | u :: us, k, hall, hlen => by
  have hk : k < cs.length := by simp at hlen; omega
  obtain ⟨n, c, z, hc, hz, hsub⟩ := trod_leaf 9 (hall 0 u rfl) h
  have hc' : cs[k] = c := by
   rw [Nat.add_zero, List.drop_eq_getElem_cons hk, List.take_succ_cons, List.take_zero] at hc
   exact (List.cons.inj hc).1
  refine ⟨c, cs.drop (k + 1), by rw [List.drop_eq_getElem_cons hk, hc'], ⟨n, z, hz, fun p hp => hlt p (hsub p hp)⟩, ?_⟩
  refine leaves_go h hlt us (k + 1) (fun i u' hi => ?_) (by simp at hlen ⊢; omega)
  have := hall (i + 1) u' (by simpa using hi)
  rwa [show k + 1 + i = k + (i + 1) by omega]
theorem leaves {fuel : Nat} {t : TypeId} {cs : List Value} {y : DataW H × List MemPlace} (us : List TypeId) (h : DataW.trod enc P w 0 (fun _ => true) true fuel t cs = some y) (hlt : ∀ p ∈ y.2, p.block < w.heap.size)
  (hus : (List.range us.length).map (leafAt P 9 t) = us.map some) (hlen : cs.length = us.length) : All2 (LeafOk enc P w) us cs := by
 have := leaves_go h hlt us 0 (fun i u hi => by
  have hl : i < us.length := (List.getElem?_eq_some_iff.1 hi).1
  have e := congrArg (fun l => l[i]?) hus
  simp [hl] at e
  rw [Nat.zero_add, e, ← hi, List.getElem?_eq_getElem hl]) (by simpa using hlen)
 simpa using this
theorem open_flat {t : TypeId} {v : Value} {d : DataW H} {ps : List MemPlace} {base : Nat} (us : List TypeId) (hv : Value.okWide P w .any base t v) (h : DataW.Trod enc P w 0 (fun _ => true) true t v d ps) (hlt : ∀ p ∈ ps, p.block < w.heap.size)
  (hs : (match P.underlying t with | some (.struct _) | some (.array _ _) => true | _ => false) = true)
  (hus : (List.range us.length).map (leafAt P 9 t) = us.map some) (hlen : P.cellsOf t = us.length) : ∃ cs : List Value, v = .agg cs.toArray ∧ All2 (LeafOk enc P w) us cs := by
 have : ∃ cs : Array Value, v = .agg cs ∧ cs.size = P.cellsOf t := by
  unfold Value.okWide at hv
  split at hs
  · rename_i h1; rw [h1] at hv; obtain ⟨cs, e, hsz, _⟩ := hv; exact ⟨cs, e, hsz⟩
  · rename_i h1; rw [h1] at hv; obtain ⟨cs, e, hsz, _⟩ := hv; exact ⟨cs, e, hsz⟩
  · cases hs
 obtain ⟨cs, rfl, hsz⟩ := this
 obtain ⟨fuel, hf⟩ := h
 refine ⟨cs.toList, by simp, leaves us (t := t) (y := (d, ps)) (by simpa [Value.cells] using hf) hlt hus (by simp [hsz, hlen])⟩
theorem LeafOk.int {u : TypeId} {k : IntKind} {v : Value} (hu : P.underlying u = some (.int k)) (h : LeafOk enc P w u v) : ∃ n, v = .int k n ∧ (Lit.int k n).wf = true := by
 obtain ⟨n, z, hz, _⟩ := h
 obtain ⟨m, e, _, hw⟩ := DataW.trod_int hu hz
 cases e
 exact ⟨m, rfl, hw⟩
theorem LeafOk.str {u : TypeId} {v : Value} (hu : P.underlying u = some .string) (h : LeafOk enc P w u v) : ∃ l, v = .string (B l) ∧ l.length ≤ maxLen := by
 obtain ⟨n, z, hz, _⟩ := h
 obtain ⟨s, e, _, hs⟩ := DataW.trod_string hu hz
 cases e
 obtain ⟨l, rfl⟩ := B_of s
 exact ⟨l, rfl, by rwa [B_size] at hs⟩
theorem LeafOk.bool {u : TypeId} {v : Value} (hu : P.underlying u = some .bool) (h : LeafOk enc P w u v) : ∃ b, v = .bool b := by
 obtain ⟨n, z, hz, _⟩ := h
 obtain ⟨b, e, _⟩ := DataW.trod_bool hu hz
 cases e
 exact ⟨b, rfl⟩
theorem open_leaf {t : TypeId} {v : Value} {d : DataW H} {ps : List MemPlace} (h : DataW.Trod enc P w 0 (fun _ => true) true t v d ps) (hlt : ∀ p ∈ ps, p.block < w.heap.size) (hv : v.cells = #[v]) : LeafOk enc P w t v := by
 obtain ⟨fuel, hf⟩ := h
 exact ⟨fuel, (d, ps), by rw [hv] at hf; exact hf, hlt⟩
end
theorem cells_one {P : Program} {w : World} {base : Nat} {t : TypeId} {v : Value} (hv : Value.okWide P w .any base t v) (ht : P.underlying t = some .string ∨ (∃ k, P.underlying t = some (.int k)) ∨ P.underlying t = some .bool ∨ ∃ u, P.underlying t = some (.slice u)) : v.cells = #[v] := by
 cases v with
 | agg cs =>
  exfalso
  unfold Value.okWide at hv
  rcases ht with h | ⟨k, h⟩ | h | ⟨u, h⟩ <;> rw [h] at hv <;> simp [Cell.okWide, Cell.ok, h] at hv
 | _ => rfl
theorem open_str {P : Program} {w : World} {base : Nat} {H : Type} {enc : TypeId × Value → H} {t : TypeId} {v : Value} {d : DataW H} {ps : List MemPlace} (ht : P.underlying t = some .string) (hv : Value.okWide P w .any base t v)
  (h : DataW.Trod enc P w 0 (fun _ => true) true t v d ps) (hlt : ∀ p ∈ ps, p.block < w.heap.size) : ∃ l, v = .string (B l) ∧ l.length ≤ maxLen :=
 (open_leaf h hlt (cells_one hv (.inl ht))).str ht
def RowsAt (w : World) (v : Value) (k : Nat) (css : List (List Value)) : Prop :=
 css.length ≤ maxLen ∧ ∃ a c, v = .slice a css.length c ∧ css.length ≤ c ∧ c ≤ maxLen ∧ (css = [] ∨ ∃ b o, a = some ⟨b, o, none⟩ ∧ b < w.heap.size ∧ ∀ (j : Nat) cs, css[j]? = some cs → ∀ (i : Nat) u, cs[i]? = some u → w.cell? ⟨b, o + (j * k + i), none⟩ = some u)
theorem addr_add {a : Addr} (hs : a.spot = none) (j : Nat) : a.add j = ⟨a.block, a.off + j, none⟩ := by
 unfold Addr.add
 split
 · next hj => subst hj; cases a; simp at hs; subst hs; rfl
 · rfl
theorem spot_none {w : World} {a : Addr} {v : Value} (h : w.cell? a = some v) : a.spot = none := by
 unfold World.cell? at h
 split at h
 ·
  split at h
  · cases h
  · next hs => simpa using hs
 · cases h
theorem rows_of {P : Program} {w : World} {H : Type} {enc : TypeId × Value → H} {t e : TypeId} {v : Value} {x : DataW H × List MemPlace} {fuel : Nat} (us : List TypeId)
  (hf : DataW.trod enc P w 0 (fun _ => true) true fuel t [v] = some x) (hlt : ∀ p ∈ x.2, p.block < w.heap.size) (ht : P.underlying t = some (.slice e))
  (hus : (List.range us.length).map (leafAt P 9 e) = us.map some) (hlen : P.cellsOf e = us.length) (hpos : 0 < us.length) :
  ∃ css, RowsAt w v us.length css ∧ ∀ cs ∈ css, All2 (LeafOk enc P w) us cs := by
 rcases Deep.open_slice ht hf with ⟨hcs, hx⟩ | ⟨a, len, cap, m, n, D, Pl, hcs, _, hl, hm, hmm, hx, hel⟩
 ·
  simp only [List.cons.injEq, and_true] at hcs
  subst hcs
  exact ⟨[], ⟨Nat.zero_le _, none, 0, rfl, Nat.le_refl _, Nat.zero_le _, .inl rfl⟩, fun cs h => by cases h⟩
 ·
  simp only [List.cons.injEq, and_true] at hcs
  subst hcs
  rw [if_pos rfl] at hmm
  subst hmm
  obtain ⟨C, hC⟩ := Deep.choose_lt (α := List Value) (p := fun i cs => w.cells? 0 (a.add (i * P.cellsOf e)) (P.cellsOf e) = some cs ∧ DataW.trod enc P w 0 (fun _ => true) true n e cs = some (D i, Pl i)) hel
  have hL : ((List.range len).map C).length = len := by simp
  refine ⟨(List.range len).map C, ⟨by rw [hL]; omega, some a, m, by rw [hL], by rw [hL]; exact hl, hm, ?_⟩, ?_⟩
  ·
   by_cases h0 : len = 0
   · left; subst h0; rfl
   ·
    right
    obtain ⟨_, hl0, hc0⟩ := World.cells?_some (hC 0 (by omega)).1
    have hc00 := hc0 0 (by rw [hlen]; exact hpos)
    rw [List.getElem?_eq_getElem (by rw [hl0, hlen]; exact hpos)] at hc00
    have hca : w.cell? a = some (C 0)[0] := by simpa [Addr.add] using hc00
    have hsp := spot_none hca
    refine ⟨a.block, a.off, congrArg some (by have h9 := addr_add hsp 0; simpa [Addr.add] using h9), ?_, fun j cs hj i u hi => ?_⟩
    ·
     have := World.block_lt_of_cell? w _ hc00
     simpa [Addr.add] using this
    ·
     rw [List.getElem?_map, Option.map_eq_some_iff] at hj
     obtain ⟨j', hj', rfl⟩ := hj
     have hjl : j < len := by
      have := (List.getElem?_eq_some_iff.1 hj').1
      simpa using this
     rw [List.getElem?_eq_getElem (by simpa using hjl), List.getElem_range] at hj'
     obtain rfl : j = j' := Option.some.inj hj'
     obtain ⟨_, hl1, hc1⟩ := World.cells?_some (hC j (by omega)).1
     have hil : i < us.length := by
      have := (List.getElem?_eq_some_iff.1 hi).1
      omega
     have := hc1 i (by omega)
     rw [Deep.add_add, addr_add hsp, hlen, hi] at this
     exact this
  ·
   intro cs hcs
   obtain ⟨i, hi, rfl⟩ := List.mem_map.1 hcs
   have hi' : i < len := List.mem_range.1 hi
   obtain ⟨h1, h2⟩ := hC i (by omega)
   refine leaves us h2 (fun p hp => hlt p ?_) hus ((World.cells?_some h1).2.1.trans hlen)
   have hps := congrArg Prod.snd hx
   simp only at hps
   rw [hps]
   exact List.mem_append_right _ (List.mem_flatMap.2 ⟨i, List.mem_range.2 (by omega), hp⟩)
theorem stop_load {P : Program} {ops : Array Oper} {rest : List Oper} {o : Oper} {a : Act} {w : World} {Q : Exit → Act → World → Prop} (tp : TypeId) {x : Operand} (_ : o.op = .load tp x) (h : RowKit.Hid (wpList P ops Q (o :: rest) a w)) : wpList P ops Q (o :: rest) a w := h.out
theorem stop_store {P : Program} {ops : Array Oper} {rest : List Oper} {o : Oper} {a : Act} {w : World} {Q : Exit → Act → World → Prop} (tp : TypeId) {x y : Operand} (_ : o.op = .store tp x y) (h : RowKit.Hid (wpList P ops Q (o :: rest) a w)) : wpList P ops Q (o :: rest) a w := h.out
theorem load_mid {P : Program} {ops : Array Oper} {rest : List Oper} {o : Oper} {a : Act} {w : World} {Q : Exit → Act → World → Prop} (ty : TypeId) (x : Operand) (ho : o.op = .load ty x) (hgd : o.guard = none) (dst : Option Tmp) (hdst : o.dst = dst)
  (b f : Nat) (hx : a.eval x = .pointer (some ⟨b, f, none⟩)) (c : Array Value) (hc : w.rangeAt b f c.toList) (d : TypeDesc) (hu : P.underlying ty = some d) (hd : d.isRow = true) (hi : (P.info? ty).map (·.size) = some c.size)
  (h : wpList P ops Q rest (a.put dst (.agg c)) w) : RowKit.Hid (wpList P ops Q (o :: rest) a w) :=
 Lib.hid (wpList_load_mid hgd ty x ho b f hx c.toList d hc hu hd (by simpa using hi) (by subst hdst; simpa using h))
theorem store_row {P : Program} {ops : Array Oper} {rest : List Oper} {o : Oper} {a : Act} {w : World} {Q : Exit → Act → World → Prop} (ty : TypeId) (x y : Operand) (ho : o.op = .store ty x y) (hgd : o.guard = none) (hd : o.dst = none)
  (g : Nat) (c : Array Value) (hx : a.eval x = .pointer (some ⟨g, 0, none⟩)) (hy : a.eval y = .agg c) (t : TypeId) (old : Array Value) (hg : w.heap[g]? = some (.cells old t (0, 0))) (hi : (P.info? ty).map (·.size) = some c.size)
  (hold : old.size = c.size) (h1 : c.all (·.oneCell') = true) (h : wpList P ops Q rest a (w.setRow g c)) : RowKit.Hid (wpList P ops Q (o :: rest) a w) :=
 Lib.hid (wpList_store_rowTo hgd ty x y ho hd g c hx hy t old hg hi hold h1 h)
theorem rangeAt_row {w : World} {b : Nat} {c : Array Value} {t : TypeId} (h : w.heap[b]? = some (.cells c t (0, 0))) : w.rangeAt b 0 c.toList := fun j v hv => by
 rw [Nat.zero_add, cell_of_row w b j c t (0, 0) h]
 simpa using hv
theorem rangeAt_below {B0 : Nat} {w w' : World} {b o : Nat} {cs : List Value} (h : w.rangeAt b o cs) (hb : Below B0 w w') (hl : b < B0) : w'.rangeAt b o cs := fun j v hv => by
 rw [hb.cell (p := ⟨b, o + j, none⟩) hl]; exact h j v hv
theorem results_row_tmp {P : Program} {fn : Func} {p q : Tmp} {ty : TypeId} (h : fn.results = #[.cell p ty, .tmp q]) (tmps : Array Value) (w : World) (g : Nat) (t : TypeId) (cs : Array Value) (fr : Nat × Nat) (d : TypeDesc) (v : Value)
  (hp : tmps.getD p undef = .pointer (some ⟨g, 0, none⟩)) (hq : tmps.getD q undef = v) (hg : w.heap[g]? = some (.cells cs t fr))
  (hu : P.underlying ty = some d) (hd : (match d with | .struct _ | .array _ _ => true | _ => false) = true) (hi : (P.info? ty).map (·.size) = some cs.size) :
  (results fn tmps).run P w = .ok (.tuple #[.agg cs, v]) w := by
 have hp' : tmps[p]?.getD undef = .pointer (some ⟨g, 0, none⟩) := by simpa using hp
 have hq' : tmps[q]?.getD undef = v := by simpa using hq
 simp [results, h, hp', hq', asAddr, run_loadVar_row w g t ty cs fr d hg hu hd hi]
theorem post_row_tmp {P : Program} {fn : Func} {R : Ending → World → Prop} {a : Act} {W : World} {p q : Tmp} {ty : TypeId} (n : Nat) (h : fn.results = #[.cell p ty, .tmp q]) (t : TypeId) (c : Array Value) (d : TypeDesc) (v : Value)
  (hp : a.tmps.getD p undef = .pointer (some ⟨n, 0, none⟩)) (hq : a.tmps.getD q undef = v) (hg : W.heap[n]? = some (.cells c t (0, 0))) (hu : P.underlying ty = some d) (hd : (match d with | .struct _ | .array _ _ => true | _ => false) = true) (hi : (P.info? ty).map (·.size) = some c.size)
  (hdef : a.defers = []) (hR : R (.returned (.tuple #[.agg c, v])) W) : bodyPost P fn R .ret a W :=
 bodyPost_ret (v := .tuple #[.agg c, v]) (results_row_tmp h _ _ n t c (0, 0) d v hp hq hg hu hd hi) hdef hR
theorem heap_below {B0 : Nat} {w w' : World} (h : Below B0 w w') {k : Nat} (hk : k < B0) {x : Option Obj} (e : w.heap[k]? = x) : w'.heap[k]? = x := by
 obtain ⟨_, _, _, _, h5⟩ := h
 rw [h5 k hk]; exact e
theorem load_mid_g {P : Program} {ops : Array Oper} {rest : List Oper} {o : Oper} {a : Act} {w : World} {Q : Exit → Act → World → Prop} (ty : TypeId) (x : Operand) (ho : o.op = .load ty x) (hwt : Region.wanted o (yielded ops a.tmps) = true) (dst : Option Tmp) (hdst : o.dst = dst)
  (b f : Nat) (hx : a.eval x = .pointer (some ⟨b, f, none⟩)) (c : Array Value) (hc : w.rangeAt b f c.toList) (d : TypeDesc) (hu : P.underlying ty = some d) (hd : d.isRow = true) (hi : (P.info? ty).map (·.size) = some c.size)
  (h : wpList P ops Q rest (a.put dst (.agg c)) w) : RowKit.Hid (wpList P ops Q (o :: rest) a w) :=
 Lib.hid (wpList_step fun K hK => by
  rw [if_pos hwt]
  exact wp_load_mid ty x ho b f hx c.toList d hc hu hd (by simpa using hi) (hK _ _ (by subst hdst; simpa using h)))
end Go.Proofs.YtcdjakemdlinhaaGreatDoor
namespace Go.Proofs.YtcdjakemdlinhaaGreatDoor.Itm
open Go.ChangeShapes Go.WideShapes Go.ChangeAt Go.RowKit
inductive Tr where
 | mk (k : Int) (n : Nat) (s : List UInt8) (l : List Tr) (o : Bool)
def Tr.k : Tr → Int | .mk k _ _ _ _ => k
def Tr.n : Tr → Nat | .mk _ n _ _ _ => n
def Tr.s : Tr → List UInt8 | .mk _ _ s _ _ => s
def Tr.l : Tr → List Tr | .mk _ _ _ l _ => l
def Tr.o : Tr → Bool | .mk _ _ _ _ o => o
def W64 : Nat := 18446744073709551616
def R47 : Nat := 140737488355328
inductive TAt (w : World) : Tr → List Value → Prop
 | mk (k : Int) (n : Nat) (s : List UInt8) (l : List Tr) (o : Bool) (a : Option Addr) (c : Nat) (C : Nat → List Value) (hn : n < W64) (hs : s.length ≤ R47) (hl : l.length ≤ R47)
   (hat : ∀ i, i < l.length → ∃ b f, a = some ⟨b, f, none⟩ ∧ b < w.heap.size ∧ w.rangeAt b (f + i * 5) (C i))
   (hel : ∀ i t, l[i]? = some t → TAt w t (C i)) : TAt w (.mk k n s l o) [.int .i64 k, .int .u64 n, .string (B s), .slice a l.length c, .bool o]
theorem TAt.keep {w w' : World} {n0 : Nat} (hb : Below n0 w w') (hn0 : w.heap.size ≤ n0) {t : Tr} {cs : List Value} (h : TAt w t cs) : TAt w' t cs := by
 induction h with
 | mk k n s l o a c C hn hs hl hat hel ih =>
  refine .mk k n s l o a c C hn hs hl (fun i hi => ?_) ih
  obtain ⟨b, f, rfl, hbl, hr⟩ := hat i hi
  exact ⟨b, f, rfl, Nat.lt_of_lt_of_le hbl hb.size, rangeAt_below hr hb (Nat.lt_of_lt_of_le hbl hn0)⟩
theorem TAt.form {w : World} {t : Tr} {cs : List Value} (h : TAt w t cs) : ∃ (a : Option Addr) (c : Nat) (C : Nat → List Value), cs = [.int .i64 t.k, .int .u64 t.n, .string (B t.s), .slice a t.l.length c, .bool t.o] ∧ t.n < W64 ∧ t.s.length ≤ R47 ∧ t.l.length ≤ R47 ∧
  (∀ i, i < t.l.length → ∃ b f, a = some ⟨b, f, none⟩ ∧ b < w.heap.size ∧ w.rangeAt b (f + i * 5) (C i)) ∧ ∀ i x, t.l[i]? = some x → TAt w x (C i) := by
 cases h with
 | mk k n s l o a c C hn hs hl hat hel => exact ⟨a, c, C, rfl, hn, hs, hl, hat, hel⟩
section
variable {H : Type} {enc : TypeId × Value → H} {W : World}
end
def deepB : Nat → Tr → Nat
 | 0, _ => 1
 | m + 1, t => t.l.foldl (fun n x => max n (deepB m x)) 0 + 1
theorem infoI : (Tryz.prog.info? 89).map (·.size) = some 5 := by kernel_rfl
theorem box_item {w : World} {t : Tr} {cs : List Value} (h : TAt w t cs) : ∃ (a : Option Addr) (c : Nat) (C : Nat → List Value), cs = [.int .i64 t.k, .int .u64 t.n, .string (B t.s), .slice a t.l.length c, .bool t.o] ∧ t.n < W64 ∧ t.s.length ≤ R47 ∧ t.l.length ≤ R47 ∧
  (∀ i x, t.l[i]? = some x → ∃ b f, a = some ⟨b, f, none⟩ ∧ b < w.heap.size ∧ w.rangeAt b (f + i * 5) (C i) ∧ TAt w x (C i) ∧ (C i).length = 5) := by
 obtain ⟨a, c, C, rfl, hn, hs, hl, hat, hel⟩ := h.form
 refine ⟨a, c, C, rfl, hn, hs, hl, fun i x hx => ?_⟩
 obtain ⟨b, f, hb, hbl, hr⟩ := hat i (List.getElem?_eq_some_iff.1 hx).1
 refine ⟨b, f, hb, hbl, hr, hel i x hx, ?_⟩
 obtain ⟨_, _, _, hc, _⟩ := (hel i x hx).form
 rw [hc]; rfl
mutual
def szT : Tr → Nat
 | .mk _ _ s l _ => 1 + s.length + szL l
def szL : List Tr → Nat
 | [] => 0
 | t :: ts => szT t + szL ts
end
theorem szL_append : ∀ a b, szL (a ++ b) = szL a + szL b
 | [], b => by simp [szL]
 | x :: a, b => by rw [List.cons_append, szL, szL, szL_append a b]; omega
theorem szL_take {l : List Tr} {i : Nat} {x : Tr} (h : l[i]? = some x) : szL (l.take (i + 1)) = szL (l.take i) + szT x := by
 rw [List.take_add_one, h, szL_append]
 simp [szL]
def okN (k : Int) (n : Nat) (s : List UInt8) (len : Nat) (o : Bool) : Bool :=
 if k = 0 then decide (s = []) && decide (len = 0) && !o
 else if k = 2 ∨ k = 3 then decide (n = 0) && decide (len = 0) && !o
 else if k = 4 then decide (n = 0) && decide (s = []) && decide (len ≤ 1000)
 else false
theorem okN_true {k : Int} {n : Nat} {s : List UInt8} {len : Nat} {o : Bool} (h : okN k n s len o = true) :
  (k = 0 ∧ s = [] ∧ len = 0 ∧ o = false) ∨ (k = 2 ∧ n = 0 ∧ len = 0 ∧ o = false) ∨ (k = 3 ∧ n = 0 ∧ len = 0 ∧ o = false) ∨ (k = 4 ∧ n = 0 ∧ s = [] ∧ len ≤ 1000) := by
 unfold okN at h
 split at h
 · next h0 => simp at h; exact .inl ⟨h0, h.1.1, h.1.2, h.2⟩
 ·
  split at h
  ·
   next h0 h1 =>
   simp at h
   rcases h1 with h1 | h1
   · exact .inr (.inl ⟨h1, h.1.1, h.1.2, h.2⟩)
   · exact .inr (.inr (.inl ⟨h1, h.1.1, h.1.2, h.2⟩))
  ·
   split at h
   · next h0 h1 h2 => simp at h; exact .inr (.inr (.inr ⟨h2, h.1.1, h.1.2, h.2⟩))
   · cases h
mutual
def plainB : Tr → Bool
 | .mk k n s l o => okN k n s l.length o && plainL l
def plainL : List Tr → Bool
 | [] => true
 | t :: ts => plainB t && plainL ts
end
theorem plainL_eq : ∀ l : List Tr, plainL l = l.all plainB
 | [] => by simp [plainL]
 | t :: ts => by rw [plainL, List.all_cons, plainL_eq ts]
theorem plainB_eq (t : Tr) : plainB t = (okN t.k t.n t.s t.l.length t.o && t.l.all plainB) := by
 obtain ⟨k, n, s, l, o⟩ := t
 rw [plainB, plainL_eq]
 rfl
def rightT : Nat → Tr → Bool
 | 0, _ => false
 | d + 1, t => okN t.k t.n t.s t.l.length t.o && t.l.all (rightT d)
theorem fold_lt {f : Tr → Nat} {b : Nat} : ∀ (l : List Tr) (n : Nat), l.foldl (fun n x => max n (f x)) n ≤ b ↔ n ≤ b ∧ ∀ x ∈ l, f x ≤ b
 | [], n => by simp
 | x :: l, n => by
  rw [List.foldl_cons, fold_lt l]
  simp only [List.mem_cons, forall_eq_or_imp]
  constructor
  · intro ⟨h1, h2⟩; exact ⟨by omega, by omega, h2⟩
  · intro ⟨h1, h2, h3⟩; exact ⟨by omega, h3⟩
theorem rightT_eq : ∀ d t, rightT d t = (decide (deepB (d + 1) t ≤ d) && plainB t)
 | 0, t => by
  have : ¬ deepB 1 t ≤ 0 := by unfold deepB; omega
  rw [decide_eq_false this]
  rfl
 | d + 1, t => by
  rw [plainB_eq t]
  have hd : deepB (d + 2) t ≤ d + 1 ↔ ∀ x ∈ t.l, deepB (d + 1) x ≤ d := by
   show t.l.foldl (fun n x => max n (deepB (d + 1) x)) 0 + 1 ≤ d + 1 ↔ _
   rw [Nat.add_le_add_iff_right, fold_lt]
   simp
  rw [Bool.eq_iff_iff]
  simp only [rightT, Bool.and_eq_true, List.all_eq_true, decide_eq_true_eq, hd]
  constructor
  ·
   intro ⟨h1, h2⟩
   have h3 := fun x hx => by have := h2 x hx; rw [rightT_eq d x, Bool.and_eq_true, decide_eq_true_eq] at this; exact this
   exact ⟨fun x hx => (h3 x hx).1, h1, fun x hx => (h3 x hx).2⟩
  ·
   intro ⟨h1, h2, h3⟩
   exact ⟨h2, fun x hx => by rw [rightT_eq d x, Bool.and_eq_true, decide_eq_true_eq]; exact ⟨h1 x hx, h3 x hx⟩⟩
theorem all_take {f : Tr → Bool} {l : List Tr} {i : Nat} {x : Tr} (h : l[i]? = some x) (ha : (l.take i).all f = true) : (f x = true → (l.take (i + 1)).all f = true) ∧ (f x = false → l.all f = false) := by
 constructor
 ·
  intro hf
  rw [List.take_add_one, h, List.all_append, ha]
  simp [hf]
 ·
  intro hf
  rw [List.all_eq_false]
  exact ⟨x, List.mem_of_getElem? h, by simp [hf]⟩
end Go.Proofs.YtcdjakemdlinhaaGreatDoor.Itm
