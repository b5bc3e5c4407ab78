/-
  Several texts in one: Sx5 Sx6 Open Open2 Slc Stp Itm SxI Sxd Eid Eid2 Pri1 Itm2.
  Conditions: named at each.
-/
import Derived.Test.YtcdjakemdlinhaaGreatDoorG01
import Derived.Deep.AppendLies
import Derived.Deep.Slices
import Derived.Deep.MidRow
import Derived.SizedLaws
set_option maxHeartbeats 16000000
set_option linter.unusedSimpArgs false
set_option linter.unusedVariables false
set_option linter.unusedSectionVars false
namespace Go.Proofs.YtcdjakemdlinhaaGreatDoor.Sx
open Go.ChangeShapes Go.WideShapes Go.ChangeAt Go.RowKit Go.Deep
theorem View.le_refl (U : View) : View.le U U := fun _ _ h => h
theorem View.le_trans {U V T : View} (h : View.le U V) (k : View.le V T) : View.le U T := fun a v hv => k a v (h a v hv)
def View.or (U V : View) : View := fun a => (U a).or (V a)
theorem View.le_or (U V : View) : View.le U (U.or V) := fun a v h => by unfold View.or; rw [h]; rfl
theorem View.or_r {U V : View} {a : Addr} {v : Value} (h : V a = some v) (hn : U a = none) : U.or V a = some v := by unfold View.or; rw [hn, h]; rfl
def rO (w : World) (U : View) (Φ : Value → View → Prop) : Ending → World → Prop := fun e w' => ∃ v V, e = .returned v ∧ Below w.heap.size w w' ∧ View.le U V ∧ (∀ a u, V a = some u → w'.cell? a = some u) ∧ (∀ a u, V a = some u → a.block < w.heap.size → U a = some u) ∧ Φ v V
theorem cF {w W' : World} {U V : View} {σ : aF} {Φ : Value → View → Prop} {v : Value} (hM : Mem ⟨w, U⟩ V σ W') (hl : View.le U V) (h : Φ v V) : rO w U Φ (.returned v) W' := ⟨v, V, rfl, hM.below, hl, hM.view, hM.old, h⟩
section
variable {P : Program} {n : Nat} {W0 : Cx} {Q : XQ} {s : cB} {U : View} {σ : aF} {ops : Array Oper} {l : List Oper} {o : Oper}
theorem Mem.retN {W W' : World} {V : View} (hM : Mem W0 U σ W) (hb : Below W.heap.size W W') (hl : View.le U V) (hv : ∀ a u, V a = some u → W'.cell? a = some u) (ho : ∀ a u, V a = some u → a.block < W.heap.size → U a = some u) : Mem W0 V σ W' := by
 have h := hM.call hb
 refine h.grow (fun a v hu hlt => hM.old a v (ho a v hu (Nat.lt_of_lt_of_le hlt hM.below.size)) hlt) hv fun k b x hk a ha => ?_
 obtain ⟨q1, q2, q3⟩ := hM.own k b x hk
 cases hu : V a with
 | none => rfl
 | some v =>
  have h1 := ho a v hu (by rw [ha]; exact fU q1)
  rw [q3 a ha] at h1; cases h1
theorem aFP (f : FuncId) (args : Array Value) (Φ : Value → View → Prop) (he : enters P s o = some (f, args)) (hc : ∀ W, Mem W0 U σ W → Calls P f args W (rO W U Φ)) (hd : eL n o = true) (hw : cZ ops s o = some true)
  (h : ∀ v V, View.le U V → Φ v V → SXL P n W0 Q ops l (jX o v s) V σ) : SXL P n W0 Q ops (o :: l) s U σ :=
 sA f args he hd hw fun W hM => (hc W hM).mono fun _ W' ⟨v, V, he, hb, hl, hv, ho, hΦ⟩ => ⟨v, _, V, σ, he, hM.retN hb hl hv ho, rfl, h v V hl hΦ⟩
end
def gC (k : IntKind) (x y : Int) : Int := k.wrap (BitVec.ofInt k.bits x &&& BitVec.ofInt k.bits y).toNat
def aOh (k : IntKind) (x : Int) : Int := k.wrap (BitVec.ofInt k.bits (if k.signed then -1 else k.max) ^^^ BitVec.ofInt k.bits x).toNat
def aJ8 (k : IntKind) (x y : Int) : Int := k.wrap (BitVec.ofInt k.bits x ^^^ BitVec.ofInt k.bits y).toNat
def orI (k : IntKind) (x y : Int) : Int := k.wrap (BitVec.ofInt k.bits x ||| BitVec.ofInt k.bits y).toNat
theorem View.sub {U : View} {b f : Nat} {cs ds : List Value} (h : U.range b f cs) (o n : Nat) (hd : (cs.drop o).take n = ds) : U.range b (f + o) ds := fun j v hj => by
 rw [← hd, List.getElem?_take] at hj
 split at hj
 ·
  rw [List.getElem?_drop] at hj
  rw [Nat.add_assoc]
  exact h _ _ hj
 · cases hj
set_option maxHeartbeats 1600000 in
set_option maxRecDepth 100000 in
theorem aFW {s : cB} {o : Oper} (yt : TypeId) (x y : Operand) (ho : o.op = .binOp .eql 24 x y yt) (a1 a3 a4 b1 b3 b4 : Int) (a2 b2 : List UInt8)
  (hx : evS s x = some (.agg #[.int .i64 a1, .string (B a2), .int .u64 a3, .int .u64 a4])) (hy : evS s y = some (.agg #[.int .i64 b1, .string (B b2), .int .u64 b3, .int .u64 b4])) (W : World) :
  (execOp (ev s) o).run Tryz.prog W = .ok (.value (.bool (decide (a1 = b1 ∧ a2 = b2 ∧ a3 = b3 ∧ a4 = b4)))) W := by
 unfold execOp
 simp only [ho, eF hx, eF hy]
 go_simp
 (repeat' split) <;> simp_all [aNP]
inductive Rw where
 | nil
 | row (b cap : Nat) (junk : List Value)
def Rw.V : Rw → Nat → Value
 | .nil, _ => .slice none 0 0
 | .row b cap _, n => .slice (some ⟨b, 0, none⟩) n cap
def Rw.B : Rw → TypeId → List Value → aF
 | .nil, _, _ => []
 | .row b _ junk, e, xs => [(b, .cells (xs ++ junk).toArray e (0, 0))]
def Rw.ok : Rw → Nat → Nat → List Value → Prop
 | .nil, _, n, xs => n = 0 ∧ xs = []
 | .row _ cap junk, z, n, xs => xs.length = n * z ∧ (xs ++ junk).length = cap * z ∧ n ≤ cap ∧ cap ≤ maxLen
theorem Rw.ok_nil (z : Nat) : Rw.nil.ok z 0 [] := ⟨rfl, rfl⟩
def Rw.W : Rw → List Value → View
 | .nil, _ => View.no
 | .row b _ _, xs => fun a => if a.block = b ∧ a.spot = none then xs[a.off]? else none
section
variable {P : Program} {n : Nat} {W0 : Cx} {Q : XQ} {s : cB} {U : View} {σ : aF} {ops : Array Oper} {l : List Oper} {o : Oper}
theorem getElem?_mid {α : Type} (a b c : List α) (i : Nat) (x : α) (h : b[i]? = some x) : (a ++ (b ++ c))[a.length + i]? = some x := by
 rw [List.getElem?_append_right oW, Nat.add_sub_cancel_left, List.getElem?_append_left (List.getElem?_eq_some_iff.1 h).1, h]
theorem Mem.swap {W W' : World} {σ1 σ2 B B' : aF} (hM : Mem W0 U (σ1 ++ (B ++ σ2)) W) (hb : Below W0.w.heap.size W0.w W')
  (hold : ∀ (k : Nat) (x : Nat × Obj), (σ1 ++ σ2)[k]? = some x → W'.heap[x.1]? = W.heap[x.1]?) (hview : ∀ a v, U a = some v → W'.cell? a = some v)
  (hnew : B' = [] ∨ ∃ b o, B' = [(b, o)] ∧ W'.heap[b]? = some o ∧ W0.w.heap.size ≤ b ∧ (∀ a, a.block = b → U a = none) ∧ ∀ (k : Nat) (x : Nat × Obj), (σ1 ++ σ2)[k]? = some x → x.1 ≠ b) : Mem W0 U (σ1 ++ (B' ++ σ2)) W' := by
 have hs : Mem W0 U (σ1 ++ σ2) W := hM.sub (List.Sublist.append (List.Sublist.refl _) (List.sublist_append_right _ _))
 have h12 : Mem W0 U (σ1 ++ σ2) W' := ⟨hb, hM.old, hview, fun k b o hk => by
  obtain ⟨q1, q2, q3⟩ := hs.own k b o hk
  exact ⟨by rw [hold k (b, o) hk]; exact q1, q2, q3⟩, hs.apart⟩
 rcases hnew with rfl | ⟨b, o, rfl, hbo, hge, hU, hne⟩
 · simpa using h12
 ·
  have hmem : ∀ (k : Nat) (x : Nat × Obj), (σ1 ++ ([(b, o)] ++ σ2))[k]? = some x → (k = σ1.length ∧ x = (b, o)) ∨ ∃ j, (σ1 ++ σ2)[j]? = some x ∧ (j = k ∧ k < σ1.length ∨ j + 1 = k ∧ σ1.length < k) := by
   intro k x hk
   rcases Nat.lt_trichotomy k σ1.length with h | h | h
   ·
    rw [List.getElem?_append_left h] at hk
    exact .inr ⟨k, by rw [List.getElem?_append_left h]; exact hk, .inl ⟨rfl, h⟩⟩
   ·
    rw [List.getElem?_append_right oW, h, Nat.sub_self] at hk
    simp at hk
    exact .inl ⟨h, hk.symm⟩
   ·
    rw [List.getElem?_append_right oW, List.getElem?_append_right (by simp; omega)] at hk
    refine .inr ⟨k - 1, ?_, .inr ⟨by omega, h⟩⟩
    rw [List.getElem?_append_right oW]
    rw [← hk]
    congr 1
    simp; omega
  refine ⟨hb, hM.old, hview, fun k c x hk => ?_, fun j k x y hj hk e => ?_⟩
  ·
   rcases hmem k _ hk with ⟨_, h⟩ | ⟨j, hj, _⟩
   ·
    simp only [Prod.mk.injEq] at h
    obtain ⟨rfl, rfl⟩ := h
    exact ⟨hbo, hge, hU⟩
   · exact h12.own j c x hj
  ·
   rcases hmem j x hj with ⟨h1, rfl⟩ | ⟨j', hj', hj2⟩ <;> rcases hmem k y hk with ⟨h3, rfl⟩ | ⟨k', hk', hk2⟩
   · omega
   · exact absurd e.symm (hne k' y hk')
   · exact absurd e (hne j' x hj')
   ·
    have := h12.apart j' k' x y hj' hk' e
    omega
theorem aKE {a : Act} {W : World} {K : Act → World → Prop} {Q : Exit → Act → World → Prop} (ha : pD n s a) (hM : Mem W0 U σ W) (r : Rw) (xs : List Value) (m : Nat) (σ1 σ2 : aF) (e : TypeId) (t : TypeId) (z bytes k : Nat) (hσ : σ = σ1 ++ (r.B e xs ++ σ2)) (hok : r.ok z m xs) (x y : Operand) (ho : o.op = .call { callee := .builtin .append, args := #[x, y], argTypes := #[t, t] }) (hx : evS s x = some (r.V m))
  (b f c : Nat) (news : List Value) (hy : evS s y = some (.slice (some ⟨b, f, none⟩) k c)) (hnews : ∀ W, Mem W0 U σ W → W.rangeAt b f news) (hl : news.length = k * z) (h1 : (news.all fun u => u.oneCell') = true) (hk : 0 < k) (h63 : m + k ≤ maxLen) (hby : (m + k) * bytes ≤ 140737488355328)
  (i : TypeInfo) (zv : Value) (ht : P.underlying t = some (.slice e)) (hi : P.info? e = some i) (hz : i.zero = some zv) (hsize : i.size = z) (hbyt : i.bytes = bytes) (hzs : zv.cells.size = z) (hz0 : 0 < z)
  (hK : ∀ (r' : Rw) (W' : World), r'.ok z (m + k) (xs ++ news) → Mem W0 U (σ1 ++ (r'.B e (xs ++ news) ++ σ2)) W' → K (a.put o.dst (r'.V (m + k))) W') : o.wp P a W K Q := by
 subst hσ
 have hn := hnews W hM
 have hown : W.ownsRow W0.w.heap.size e z (r.V m) m xs := by
  cases r with
  | nil => obtain ⟨rfl, rfl⟩ := hok; exact ⟨by simp, .inl ⟨rfl, rfl⟩⟩
  | row g cap junk =>
   obtain ⟨q1, q2, q3, q4⟩ := hok
   have hg := hM.own (σ1.length + 0) g (.cells (xs ++ junk).toArray e (0, 0)) (getElem?_mid σ1 _ σ2 0 _ rfl)
   exact ⟨q1, .inr ⟨g, cap, (xs ++ junk).toArray, rfl, hg.2.1, hg.1, q3, q4, by simpa using q2, by rw [← q1]; simp⟩⟩
 refine wp_append_lies W x y t ho W0.w.heap.size e i zv z bytes ht hi hz hsize hbyt hzs hz0 (r.V m) m xs (dZ ha hx) hown ⟨b, f, none⟩ k c news (dZ ha hy) hl (fun j u hu => by rw [Addr.add_mid]; exact hn j u hu) (fun u hu => List.all_eq_true.1 h1 u hu) hk h63 hby hM.below.size _ rfl ?_
 intro g cap w' hown' hgr hgo hglt
 obtain ⟨hlen, h2⟩ := hown'
 rcases h2 with ⟨h2, _⟩ | ⟨g', cap', cur, hv, hge, hh, hle, hcm, hcs, htk⟩
 · cases h2
 ·
  simp only [Value.slice.injEq, Option.some.injEq, Addr.mk.injEq, and_true, true_and] at hv
  obtain ⟨rfl, rfl⟩ := hv
  have hcur : cur = ((xs ++ news) ++ cur.toList.drop ((m + k) * z)).toArray := by
   rw [← htk, List.take_append_drop]
  have hrow : r.ok z m xs := hok
  have hoth : ∀ (j : Nat) (q : Nat × Obj), (σ1 ++ σ2)[j]? = some q → some q.1 ≠ (r.V m).ownBlock ∧ q.1 < W.heap.size := by
   intro j q hj
   have hs : Mem W0 U (σ1 ++ σ2) W := hM.sub (List.Sublist.append (List.Sublist.refl _) (List.sublist_append_right _ _))
   refine ⟨?_, fU (hs.own j q.1 q.2 hj).1⟩
   cases r with
   | nil => intro he; cases he
   | row g0 cap0 junk0 =>
    intro he
    have hq : q.1 = g0 := Option.some.inj he
    have hin : ∃ i, (σ1 ++ (Rw.B (.row g0 cap0 junk0) e xs ++ σ2))[i]? = some q ∧ i ≠ σ1.length := by
     by_cases hjl : j < σ1.length
     · exact ⟨j, by rw [List.getElem?_append_left hjl] at hj ⊢; exact hj, by omega⟩
     ·
      refine ⟨j + 1, ?_, by omega⟩
      rw [List.getElem?_append_right oW] at hj
      rw [List.getElem?_append_right oW, List.getElem?_append_right (by simp [Rw.B]; omega), ← hj]
      congr 1
      simp [Rw.B]; omega
    obtain ⟨i', hi1, hi2⟩ := hin
    have := hM.apart i' (σ1.length + 0) q _ hi1 (getElem?_mid σ1 _ σ2 0 (g0, .cells (xs ++ junk0).toArray e (0, 0)) rfl) hq
    omega
  have hviewb : ∀ a v, U a = some v → a.block < W.heap.size ∧ some a.block ≠ (r.V m).ownBlock := by
   intro a v hu
   refine ⟨oT (hM.view a v hu), ?_⟩
   cases r with
   | nil => intro he; cases he
   | row g0 cap0 junk0 =>
    intro he
    have := (hM.own (σ1.length + 0) g0 _ (getElem?_mid σ1 _ σ2 0 (g0, .cells (xs ++ junk0).toArray e (0, 0)) rfl)).2.2 a (Option.some.inj he)
    rw [hu] at this; cases this
  refine hK (.row g cap (cur.toList.drop ((m + k) * z))) _ ⟨hlen, by rw [← htk, List.take_append_drop]; simpa using hcs, hle, hcm⟩ ?_
  refine hM.swap ?_ (fun j q hj => ?_) (fun a v hu => ?_) (.inr ⟨g, _, rfl, ?_, hge, fun a ha => ?_, fun j q hj => ?_⟩)
  ·
   refine hM.below.grown hgr hM.below.size fun j hj => ?_
   cases r with
   | nil => cases hj
   | row g0 cap0 junk0 =>
    obtain rfl : g0 = j := Option.some.inj hj
    exact (hM.own (σ1.length + 0) g0 _ (getElem?_mid σ1 _ σ2 0 (g0, .cells (xs ++ junk0).toArray e (0, 0)) rfl)).2.1
  ·
   obtain ⟨q1, q2⟩ := hoth j q hj
   exact hgr.block q.1 q2 q1
  ·
   obtain ⟨q1, q2⟩ := hviewb a v hu
   rw [World.cell?_of_block (w := W) (hgr.block a.block q1 q2)]
   exact hM.view a v hu
  · rw [hh]; exact congrArg (fun q => some (Obj.cells q e (0, 0))) hcur
  ·
   cases hu : U a with
   | none => rfl
   | some v =>
    obtain ⟨q1, q2⟩ := hviewb a v hu
    rcases hgo with hgo | hgo
    · rw [hgo, ha] at q2; exact absurd rfl q2
    · omega
  ·
   obtain ⟨q1, q2⟩ := hoth j q hj
   intro he
   rcases hgo with hgo | hgo
   · rw [hgo, he] at q1; exact absurd rfl q1
   · omega
theorem aM6 (r : Rw) (xs : List Value) (m : Nat) (σ1 σ2 : aF) (e : TypeId) (t : TypeId) (z bytes k : Nat) (hσ : σ = σ1 ++ (r.B e xs ++ σ2)) (hok : r.ok z m xs) (x y : Operand) (ho : o.op = .call { callee := .builtin .append, args := #[x, y], argTypes := #[t, t] }) (hx : evS s x = some (r.V m))
  (b f c : Nat) (news : List Value) (hy : evS s y = some (.slice (some ⟨b, f, none⟩) k c)) (hnews : ∀ W, Mem W0 U σ W → W.rangeAt b f news) (hl : news.length = k * z) (h1 : (news.all fun u => u.oneCell') = true) (hk : 0 < k) (h63 : m + k ≤ maxLen) (hby : (m + k) * bytes ≤ 140737488355328)
  (i : TypeInfo) (zv : Value) (ht : P.underlying t = some (.slice e)) (hi : P.info? e = some i) (hz : i.zero = some zv) (hsize : i.size = z) (hbyt : i.bytes = bytes) (hzs : zv.cells.size = z) (hz0 : 0 < z)
  (hd : eL n o = true) (hw : cZ ops s o = some true)
  (h : ∀ r' : Rw, r'.ok z (m + k) (xs ++ news) → SXL P n W0 Q ops l (jX o (r'.V (m + k)) s) U (σ1 ++ (r'.B e (xs ++ news) ++ σ2))) : SXL P n W0 Q ops (o :: l) s U σ :=
 oG hd hw fun a W ha hM K hK => aKE ha hM r xs m σ1 σ2 e t z bytes k hσ hok x y ho hx b f c news hy hnews hl h1 hk h63 hby i zv ht hi hz hsize hbyt hzs hz0 fun r' W' h1 h2 => hK _ _ _ _ _ (h r' h1) (eD ha hd) h2
theorem Mem.freeze {W : World} {σ1 σ2 : aF} {r : Rw} {e : TypeId} {xs : List Value} (hM : Mem W0 U (σ1 ++ (r.B e xs ++ σ2)) W) : Mem W0 (U.or (r.W xs)) (σ1 ++ σ2) W := by
 have hs : Mem W0 U (σ1 ++ σ2) W := hM.sub (List.Sublist.append (List.Sublist.refl _) (List.sublist_append_right _ _))
 cases r with
 | nil =>
  have : U.or (Rw.W .nil xs) = U := by funext a; simp [View.or, Rw.W, View.no]
  rw [this]; exact hs
 | row b cap junk =>
  obtain ⟨q1, q2, q3⟩ := hM.own (σ1.length + 0) b (.cells (xs ++ junk).toArray e (0, 0)) (getElem?_mid σ1 _ σ2 0 _ rfl)
  have hor : ∀ a v, U.or (Rw.W (.row b cap junk) xs) a = some v → U a = some v ∨ (a.block = b ∧ a.spot = none ∧ xs[a.off]? = some v) := by
   intro a v h
   unfold View.or at h
   cases hu : U a with
   | some u => rw [hu] at h; exact .inl h
   | none =>
    rw [hu, Option.none_or] at h
    simp only [Rw.W] at h
    split at h
    · next hc => exact .inr ⟨hc.1, hc.2, h⟩
    · cases h
  refine hs.grow (fun a v h hlt => ?_) (fun a v h => ?_) (fun k c o hk a ha => ?_)
  ·
   rcases hor a v h with h | ⟨h, _, _⟩
   · exact hM.old a v h hlt
   · omega
  ·
   rcases hor a v h with h | ⟨h1, h2, h3⟩
   · exact hM.view a v h
   ·
    have : a = ⟨b, a.off, none⟩ := by
     obtain ⟨a1, a2, a3⟩ := a
     simp only at h1 h2 ⊢
     subst h1 h2
     rfl
    rw [this, cell_of_row _ _ _ _ _ _ q1]
    have hlt := (List.getElem?_eq_some_iff.1 h3).1
    simp only [List.getElem?_toArray]
    rw [List.getElem?_append_left hlt, h3]
  ·
   cases hu : (U.or (Rw.W (.row b cap junk) xs)) a with
   | none => rfl
   | some v =>
    rcases hor a v hu with h | ⟨h, _, _⟩
    · have := (hs.own k c o hk).2.2 a ha; rw [this] at h; cases h
    ·
     exfalso
     have hcb : c = b := ha.symm.trans h
     subst hcb
     have hin : ∃ i, (σ1 ++ (Rw.B (.row c cap junk) e xs ++ σ2))[i]? = some (c, o) ∧ i ≠ σ1.length := by
      by_cases hjl : k < σ1.length
      · exact ⟨k, by rw [List.getElem?_append_left hjl] at hk ⊢; exact hk, by omega⟩
      ·
       refine ⟨k + 1, ?_, by omega⟩
       rw [List.getElem?_append_right oW] at hk
       rw [List.getElem?_append_right oW, List.getElem?_append_right (by simp [Rw.B]; omega), ← hk]
       congr 1
       simp [Rw.B]; omega
     obtain ⟨i', hi1, hi2⟩ := hin
     have := hM.apart i' (σ1.length + 0) _ _ hi1 (getElem?_mid σ1 _ σ2 0 (c, .cells (xs ++ junk).toArray e (0, 0)) rfl) rfl
     omega
end
def byV (c : UInt8) : Value := .int .u8 (c.toNat : Int)
def inV (x : Int) : Value := .int .i64 x
theorem aNd {U : View} {b f : Nat} {l : List UInt8} (h : U.range b f (l.map byV)) {i : Nat} {y : UInt8} (hy : l[i]? = some y) : U ⟨b, f + i, none⟩ = some (.int .u8 (y.toNat : Int)) := h i _ (by rw [List.getElem?_map, hy]; rfl)
theorem aNc {U : View} {b f : Nat} {l : List Int} (h : U.range b f (l.map inV)) {i : Nat} {y : Int} (hy : l[i]? = some y) : U ⟨b, f + i, none⟩ = some (.int .i64 y) := h i _ (by rw [List.getElem?_map, hy]; rfl)
structure oD (U : View) (a : Option Addr) (l : List Int) : Prop where
 at_ : l ≠ [] → ∃ b f, a = some ⟨b, f, none⟩ ∧ U.range b f (l.map inV)
 len : l.length ≤ R47
theorem oD.le {U V : View} (h : View.le U V) {a : Option Addr} {l : List Int} (hl : oD U a l) : oD V a l :=
 ⟨fun hne => by obtain ⟨b, f, e, hr⟩ := hl.at_ hne; exact ⟨b, f, e, View.range_le h hr⟩, hl.len⟩
theorem oD.one {U : View} {a : Option Addr} {l : List Int} (hl : oD U a l) {i : Nat} {y : Int} (hy : l[i]? = some y) : ∃ b f, a = some ⟨b, f, none⟩ ∧ U ⟨b, f + i, none⟩ = some (.int .i64 y) := by
 obtain ⟨b, f, e, hr⟩ := hl.at_ (fun h => by rw [h] at hy; simp at hy)
 exact ⟨b, f, e, aNc hr hy⟩
structure aFH (U : View) (a : Option Addr) (l : List UInt8) : Prop where
 at_ : l ≠ [] → ∃ b f, a = some ⟨b, f, none⟩ ∧ U.range b f (l.map byV)
 len : l.length ≤ R47
theorem aFH.one {U : View} {a : Option Addr} {l : List UInt8} (hl : aFH U a l) {i : Nat} {y : UInt8} (hy : l[i]? = some y) : ∃ b f, a = some ⟨b, f, none⟩ ∧ U ⟨b, f + i, none⟩ = some (.int .u8 ((y.toNat : Nat) : Int)) := by
 obtain ⟨b, f, e, hr⟩ := hl.at_ (fun h => by rw [h] at hy; simp at hy)
 exact ⟨b, f, e, aNd hr hy⟩
theorem aFH.of {U : View} {b f : Nat} {l : List UInt8} (h : U.range b f (l.map byV)) (hl : l.length ≤ 140737488355328) : aFH U (some ⟨b, f, none⟩) l := ⟨fun _ => ⟨b, f, rfl, h⟩, hl⟩
section
variable {P : Program} {n : Nat} {W0 : Cx} {Q : XQ} {s : cB} {U : View} {σ : aF} {ops : Array Oper} {l : List Oper} {o : Oper}
theorem fW (t e : TypeId) (x ix : Operand) (ho : o.op = .indexAddr t x ix) (b f len cap i : Nat) (k : IntKind) (hx : evS s x = some (.slice (some ⟨b, f, none⟩) len cap)) (hi : evS s ix = some (.int k (i : Int))) (hlt : i < len)
  (hu : P.underlying t = some (.slice e)) (hs : (P.info? e).map (·.size) = some 1) (W : World) : (execOp (ev s) o).run P W = .ok (.value (.pointer (some ⟨b, f + i, none⟩))) W := by
 have := aDE (o := o) t e x ix ho b f len cap i 1 k hx hi hlt hu hs W
 rw [Nat.mul_one] at this
 exact this
theorem aCR (src dst e : TypeId) (x : Operand) (ho : o.op = .convert src dst x) (bs : List UInt8) (hx : evS s x = some (.string (B bs))) (hs : P.underlying src = some .string) (hdt : P.underlying dst = some (.slice e)) (he : P.underlying e = some (.int .u8))
  (hd : eL n o = true) (hw : cZ ops s o = some true)
  (h : ∀ (b cap : Nat) (V : View), View.le U V → V.range b 0 (bs.map byV) → bs.length ≤ cap → SXL P n W0 Q ops l (jX o (.slice (some ⟨b, 0, none⟩) bs.length cap) s) V σ) : SXL P n W0 Q ops (o :: l) s U σ := by
 refine oG hd hw fun a W ha hM K hK => ?_
 obtain ⟨cap, w', hrun, hcap, hb, hsz, hcell, _⟩ := aCB (P := P) W src dst e bs hs hdt he
 unfold Oper.wp execOp
 simp only [ho, dZ ha hx, Sem.run_bind, hrun, Result.andThen_ok, Sem.run_pure]
 let V : View := fun a => if a.block = W.heap.size ∧ a.spot = none then (bs.map byV)[a.off]? else U a
 have hUn : ∀ a : Addr, a.block = W.heap.size → U a = none := by
  intro a ha
  cases hu : U a with
  | none => rfl
  | some v => have := oT (hM.view a v hu); omega
 have hle : View.le U V := by
  intro a v hu
  show (if a.block = W.heap.size ∧ a.spot = none then (bs.map byV)[a.off]? else U a) = some v
  rw [if_neg (fun hc => by rw [hUn a hc.1] at hu; cases hu)]
  exact hu
 have hVr : V.range W.heap.size 0 (bs.map byV) := by
  intro j v hj
  show (if _ ∧ _ then (bs.map byV)[0 + j]? else _) = some v
  rw [if_pos ⟨rfl, rfl⟩, Nat.zero_add]
  exact hj
 refine hK _ _ _ _ _ (h W.heap.size cap V hle hVr hcap) (eD ha hd) (hM.retN hb hle (fun a u hu => ?_) (fun a u hu hlt => ?_))
 ·
  have hu' : (if a.block = W.heap.size ∧ a.spot = none then (bs.map byV)[a.off]? else U a) = some u := hu
  split at hu'
  ·
   next hc =>
   have ea : a = ⟨W.heap.size, a.off, none⟩ := by
    obtain ⟨a1, a2, a3⟩ := a
    simp only at hc ⊢
    rw [hc.1, hc.2]
   rw [List.getElem?_map, Option.map_eq_some_iff] at hu'
   obtain ⟨c, hc2, rfl⟩ := hu'
   obtain ⟨hlt, rfl⟩ := List.getElem?_eq_some_iff.1 hc2
   exact (congrArg w'.cell? ea).trans (hcell a.off hlt)
  ·
   next hc =>
   have h1 := hM.view a u hu'
   rw [hb.cell (oT h1)]; exact h1
 ·
  have hu' : (if a.block = W.heap.size ∧ a.spot = none then (bs.map byV)[a.off]? else U a) = some u := hu
  rw [if_neg (fun hc => by omega)] at hu'
  exact hu'
end
end Go.Proofs.YtcdjakemdlinhaaGreatDoor.Sx
namespace Go.Proofs.YtcdjakemdlinhaaGreatDoor
open Go.ChangeShapes Go.WideShapes Go.ChangeAt Go.RowKit

def aKe {A C : Type} (R : A → C → Prop) : List A → List C → Prop
 | [], cs => cs = []
 | a :: l, cs => ∃ c r, cs = c :: r ∧ R a c ∧ aKe R l r
def sT (P : Program) : Nat → TypeId → Nat → Option TypeId
 | 0, _, _ => none
 | d + 1, t, o =>
  match P.underlying t with
  | some (.struct fs) => (fs.toList.find? fun f => decide (f.offset ≤ o ∧ o < f.offset + P.cellsOf f.type)).bind fun f => sT P d f.type (o - f.offset)
  | some (.array n e) => if o / P.cellsOf e < n ∧ 0 < P.cellsOf e then sT P d e (o % P.cellsOf e) else none
  | some _ => if o = 0 then some t else none
  | none => none

section
variable {H : Type} {enc : TypeId × Value → H} {P : Program} {w : World} {base : Nat} {spare : Nat → Bool} {held : Bool}

theorem aKi {fuel : Nat} {t : TypeId} {cs : List Value} {y : DataW H × List MemPlace} (h : DataW.trod enc P w base spare held fuel t cs = some y)
  (h1 : ∀ fs, P.underlying t ≠ some (.struct fs)) (h2 : ∀ n e, P.underlying t ≠ some (.array n e)) : ∃ c, cs = [c] := by
 cases fuel with
 | zero => simp [DataW.trod] at h
 | succ n =>
  unfold DataW.trod at h
  split at h <;> first | exact ⟨_, rfl⟩ | (rename_i hu; exact absurd hu (h1 _)) | (rename_i hu; exact absurd hu (h2 _ _)) | cases h

theorem aFQ {y : DataW H × List MemPlace} {xs : List (DataW H × List MemPlace)} (h : y ∈ xs) : ∀ p ∈ y.2, p ∈ xs.flatMap (·.2) := fun _p hp => List.mem_flatMap.2 ⟨y, h, hp⟩

theorem aAS : ∀ (d : Nat) {fuel : Nat} {t u : TypeId} {o : Nat} {cs : List Value} {y : DataW H × List MemPlace}, sT P d t o = some u → DataW.trod enc P w base spare held fuel t cs = some y →
  ∃ n c z, (cs.drop o).take 1 = [c] ∧ DataW.trod enc P w base spare held n u [c] = some z ∧ ∀ p ∈ z.2, p ∈ y.2
 | 0, _, _, _, _, _, _, hl, _ => by simp [sT] at hl
 | d + 1, fuel, t, u, o, cs, y, hl, h => by
  unfold sT at hl
  split at hl
  ·
   rename_i fs hs
   obtain ⟨f, hf, hl⟩ := Option.bind_eq_some_iff.1 hl
   have hp := List.find?_some hf
   have hm := List.mem_of_find?_eq_some hf
   simp only [decide_eq_true_eq] at hp
   obtain ⟨i, hi⟩ := List.mem_iff_getElem?.1 hm
   obtain ⟨xs, n, rfl, rfl, hlen, hxs, hall⟩ := DataW.trod_struct hs h
   have hr := hall i f (by simpa using hi)
   have hx : ∃ z, xs[i]? = some z := by
    have : i < fs.toList.length := (List.getElem?_eq_some_iff.1 hi).1
    have hlt : i < xs.length := by rw [hxs]; simpa using this
    exact ⟨xs[i], List.getElem?_eq_getElem hlt⟩
   obtain ⟨z, hz⟩ := hx
   rw [hz] at hr
   obtain ⟨m, c, z', hc, hr', hsub⟩ := aAS d hl hr
   refine ⟨m, c, z', ?_, hr', fun p hp' => aFQ (List.mem_of_getElem? hz) p (hsub p hp')⟩
   rw [← hc, List.drop_take, List.drop_drop, List.take_take]
   rw [show f.offset + (o - f.offset) = o by omega, show min 1 (P.cellsOf f.type - (o - f.offset)) = 1 by omega]
  ·
   rename_i n e hs
   split at hl
   ·
    rename_i hn
    obtain ⟨hn, hpos⟩ := hn
    obtain ⟨xs, m, rfl, rfl, hlen, hxs, hall⟩ := DataW.trod_array hs h
    have hr := hall (o / P.cellsOf e) hn
    have hlt : o / P.cellsOf e < xs.length := by rw [hxs]; exact hn
    rw [List.getElem?_eq_getElem hlt] at hr
    obtain ⟨m', c, z', hc, hr', hsub⟩ := aAS d hl hr
    refine ⟨m', c, z', ?_, hr', fun p hp' => aFQ (List.getElem_mem hlt) p (hsub p hp')⟩
    have hmod : o % P.cellsOf e < P.cellsOf e := Nat.mod_lt _ hpos
    have hdm : o / P.cellsOf e * P.cellsOf e + o % P.cellsOf e = o := by rw [Nat.mul_comm]; exact Nat.div_add_mod _ _
    rw [← hc, List.drop_take, List.drop_drop, List.take_take, hdm, show min 1 (P.cellsOf e - o % P.cellsOf e) = 1 by omega]
   · cases hl
  ·
   rename_i desc h1 h2 hs
   split at hl
   ·
    rename_i ho
    subst ho
    cases hl
    obtain ⟨c, rfl⟩ := aKi h (fun fs hf => h1 fs (by rw [hs] at hf; exact Option.some.inj hf)) (fun n e hf => h2 n e (by rw [hs] at hf; exact Option.some.inj hf))
    exact ⟨fuel, c, y, rfl, h, fun p hp => hp⟩
   · cases hl
  · cases hl
end

def mD {H : Type} (enc : TypeId × Value → H) (P : Program) (w : World) (u : TypeId) (v : Value) : Prop :=
 ∃ n z, DataW.trod enc P w 0 (fun _ => true) true n u [v] = some z ∧ ∀ p ∈ z.2, p.block < w.heap.size

section
variable {H : Type} {enc : TypeId × Value → H} {P : Program} {w : World}
theorem aD2 {fuel : Nat} {t : TypeId} {cs : List Value} {y : DataW H × List MemPlace} (h : DataW.trod enc P w 0 (fun _ => true) true fuel t cs = some y) (hlt : ∀ p ∈ y.2, p.block < w.heap.size) :
  ∀ (us : List TypeId) (k : Nat), (∀ i u, us[i]? = some u → sT P 9 t (k + i) = some u) → cs.length = k + us.length → aKe (mD enc P w) us (cs.drop k)
 | [], k, _, hlen => List.drop_of_length_le (by simp at hlen; omega)
 | u :: us, k, hall, hlen => by
  have hk : k < cs.length := by simp at hlen; omega
  obtain ⟨n, c, z, hc, hz, hsub⟩ := aAS 9 (hall 0 u rfl) h
  have hc' : cs[k] = c := by
   rw [Nat.add_zero, List.drop_eq_getElem_cons hk, List.take_succ_cons, List.take_zero] at hc
   exact (List.cons.inj hc).1
  refine ⟨c, cs.drop (k + 1), by rw [List.drop_eq_getElem_cons hk, hc'], ⟨n, z, hz, fun p hp => hlt p (hsub p hp)⟩, ?_⟩
  refine aD2 h hlt us (k + 1) (fun i u' hi => ?_) (by simp at hlen ⊢; omega)
  have := hall (i + 1) u' (by simpa using hi)
  rwa [show k + 1 + i = k + (i + 1) by omega]
theorem leaves {fuel : Nat} {t : TypeId} {cs : List Value} {y : DataW H × List MemPlace} (us : List TypeId) (h : DataW.trod enc P w 0 (fun _ => true) true fuel t cs = some y) (hlt : ∀ p ∈ y.2, p.block < w.heap.size)
  (hus : (List.range us.length).map (sT P 9 t) = us.map some) (hlen : cs.length = us.length) : aKe (mD enc P w) us cs := by
 have := aD2 h hlt us 0 (fun i u hi => by
  have hl : i < us.length := (List.getElem?_eq_some_iff.1 hi).1
  have e := congrArg (fun l => l[i]?) hus
  simp [hl] at e
  rw [Nat.zero_add, e, ← hi, List.getElem?_eq_getElem hl]) (by simpa using hlen)
 simpa using this
theorem aDW {t : TypeId} {v : Value} {d : DataW H} {ps : List MemPlace} {base : Nat} (us : List TypeId) (hv : Value.okWide P w .any base t v) (h : DataW.Trod enc P w 0 (fun _ => true) true t v d ps) (hlt : ∀ p ∈ ps, p.block < w.heap.size)
  (hs : (match P.underlying t with | some (.struct _) | some (.array _ _) => true | _ => false) = true)
  (hus : (List.range us.length).map (sT P 9 t) = us.map some) (hlen : P.cellsOf t = us.length) : ∃ cs : List Value, v = .agg cs.toArray ∧ aKe (mD enc P w) us cs := by
 have : ∃ cs : Array Value, v = .agg cs ∧ cs.size = P.cellsOf t := by
  unfold Value.okWide at hv
  split at hs
  · rename_i h1; rw [h1] at hv; obtain ⟨cs, e, hsz, _⟩ := hv; exact ⟨cs, e, hsz⟩
  · rename_i h1; rw [h1] at hv; obtain ⟨cs, e, hsz, _⟩ := hv; exact ⟨cs, e, hsz⟩
  · cases hs
 obtain ⟨cs, rfl, hsz⟩ := this
 obtain ⟨fuel, hf⟩ := h
 refine ⟨cs.toList, by simp, leaves us (t := t) (y := (d, ps)) (by simpa [Value.cells] using hf) hlt hus (by simp [hsz, hlen])⟩
theorem mD.int {u : TypeId} {k : IntKind} {v : Value} (hu : P.underlying u = some (.int k)) (h : mD enc P w u v) : ∃ n, v = .int k n ∧ (Lit.int k n).wf = true := by
 obtain ⟨n, z, hz, _⟩ := h
 obtain ⟨m, e, _, hw⟩ := DataW.trod_int hu hz
 cases e
 exact ⟨m, rfl, hw⟩
theorem mD.str {u : TypeId} {v : Value} (hu : P.underlying u = some .string) (h : mD enc P w u v) : ∃ l, v = .string (B l) ∧ l.length ≤ maxLen := by
 obtain ⟨n, z, hz, _⟩ := h
 obtain ⟨s, e, _, hs⟩ := DataW.trod_string hu hz
 cases e
 obtain ⟨l, rfl⟩ := aOK s
 exact ⟨l, rfl, by rwa [qX] at hs⟩
theorem mD.bool {u : TypeId} {v : Value} (hu : P.underlying u = some .bool) (h : mD enc P w u v) : ∃ b, v = .bool b := by
 obtain ⟨n, z, hz, _⟩ := h
 obtain ⟨b, e, _⟩ := DataW.trod_bool hu hz
 cases e
 exact ⟨b, rfl⟩
theorem aIP {t : TypeId} {v : Value} {d : DataW H} {ps : List MemPlace} (h : DataW.Trod enc P w 0 (fun _ => true) true t v d ps) (hlt : ∀ p ∈ ps, p.block < w.heap.size) (hv : v.cells = #[v]) : mD enc P w t v := by
 obtain ⟨fuel, hf⟩ := h
 exact ⟨fuel, (d, ps), by rw [hv] at hf; exact hf, hlt⟩
end
theorem aJH {P : Program} {w : World} {base : Nat} {t : TypeId} {v : Value} (hv : Value.okWide P w .any base t v) (ht : P.underlying t = some .string ∨ (∃ k, P.underlying t = some (.int k)) ∨ P.underlying t = some .bool ∨ ∃ u, P.underlying t = some (.slice u)) : v.cells = #[v] := by
 cases v with
 | agg cs =>
  exfalso
  unfold Value.okWide at hv
  rcases ht with h | ⟨k, h⟩ | h | ⟨u, h⟩ <;> rw [h] at hv <;> simp [Cell.okWide, Cell.ok, h] at hv
 | _ => rfl
theorem aKX {P : Program} {w : World} {base : Nat} {H : Type} {enc : TypeId × Value → H} {t : TypeId} {v : Value} {d : DataW H} {ps : List MemPlace} (ht : P.underlying t = some .string) (hv : Value.okWide P w .any base t v)
  (h : DataW.Trod enc P w 0 (fun _ => true) true t v d ps) (hlt : ∀ p ∈ ps, p.block < w.heap.size) : ∃ l, v = .string (B l) ∧ l.length ≤ maxLen :=
 (aIP h hlt (aJH hv (.inl ht))).str ht
def aLU (w : World) (v : Value) (k : Nat) (css : List (List Value)) : Prop :=
 css.length ≤ maxLen ∧ ∃ a c, v = .slice a css.length c ∧ css.length ≤ c ∧ c ≤ maxLen ∧ (css = [] ∨ ∃ b o, a = some ⟨b, o, none⟩ ∧ b < w.heap.size ∧ ∀ (j : Nat) cs, css[j]? = some cs → ∀ (i : Nat) u, cs[i]? = some u → w.cell? ⟨b, o + (j * k + i), none⟩ = some u)
theorem aGz {a : Addr} (hs : a.spot = none) (j : Nat) : a.add j = ⟨a.block, a.off + j, none⟩ := by
 unfold Addr.add
 split
 · next hj => subst hj; cases a; simp at hs; subst hs; rfl
 · rfl
theorem aIi {w : World} {a : Addr} {v : Value} (h : w.cell? a = some v) : a.spot = none := by
 unfold World.cell? at h
 split at h
 ·
  split at h
  · cases h
  · next hs => simpa using hs
 · cases h
theorem aMg {P : Program} {w : World} {H : Type} {enc : TypeId × Value → H} {t e : TypeId} {v : Value} {x : DataW H × List MemPlace} {fuel : Nat} (us : List TypeId)
  (hf : DataW.trod enc P w 0 (fun _ => true) true fuel t [v] = some x) (hlt : ∀ p ∈ x.2, p.block < w.heap.size) (ht : P.underlying t = some (.slice e))
  (hus : (List.range us.length).map (sT P 9 e) = us.map some) (hlen : P.cellsOf e = us.length) (hpos : 0 < us.length) :
  ∃ css, aLU w v us.length css ∧ ∀ cs ∈ css, aKe (mD enc P w) us cs := by
 rcases Deep.open_slice ht hf with ⟨hcs, hx⟩ | ⟨a, len, cap, m, n, D, Pl, hcs, _, hl, hm, hmm, hx, hel⟩
 ·
  simp only [List.cons.injEq, and_true] at hcs
  subst hcs
  exact ⟨[], ⟨Nat.zero_le _, none, 0, rfl, Nat.le_refl _, Nat.zero_le _, .inl rfl⟩, fun cs h => by cases h⟩
 ·
  simp only [List.cons.injEq, and_true] at hcs
  subst hcs
  rw [if_pos rfl] at hmm
  subst hmm
  obtain ⟨C, hC⟩ := Deep.choose_lt (α := List Value) (p := fun i cs => w.cells? 0 (a.add (i * P.cellsOf e)) (P.cellsOf e) = some cs ∧ DataW.trod enc P w 0 (fun _ => true) true n e cs = some (D i, Pl i)) hel
  have hL : ((List.range len).map C).length = len := by simp
  refine ⟨(List.range len).map C, ⟨by rw [hL]; omega, some a, m, by rw [hL], by rw [hL]; exact hl, hm, ?_⟩, ?_⟩
  ·
   by_cases h0 : len = 0
   · left; subst h0; rfl
   ·
    right
    obtain ⟨_, hl0, hc0⟩ := World.cells?_some (hC 0 oW).1
    have hc00 := hc0 0 (by rw [hlen]; exact hpos)
    rw [List.getElem?_eq_getElem (by rw [hl0, hlen]; exact hpos)] at hc00
    have hca : w.cell? a = some (C 0)[0] := by simpa [Addr.add] using hc00
    have hsp := aIi hca
    refine ⟨a.block, a.off, congrArg some (by have h9 := aGz hsp 0; simpa [Addr.add] using h9), ?_, fun j cs hj i u hi => ?_⟩
    ·
     have := World.block_lt_of_cell? w _ hc00
     simpa [Addr.add] using this
    ·
     rw [List.getElem?_map, Option.map_eq_some_iff] at hj
     obtain ⟨j', hj', rfl⟩ := hj
     have hjl : j < len := by
      have := (List.getElem?_eq_some_iff.1 hj').1
      simpa using this
     rw [List.getElem?_eq_getElem (by simpa using hjl), List.getElem_range] at hj'
     obtain rfl : j = j' := Option.some.inj hj'
     obtain ⟨_, hl1, hc1⟩ := World.cells?_some (hC j oW).1
     have hil : i < us.length := by
      have := (List.getElem?_eq_some_iff.1 hi).1
      omega
     have := hc1 i oW
     rw [Deep.add_add, aGz hsp, hlen, hi] at this
     exact this
  ·
   intro cs hcs
   obtain ⟨i, hi, rfl⟩ := List.mem_map.1 hcs
   have hi' : i < len := List.mem_range.1 hi
   obtain ⟨h1, h2⟩ := hC i oW
   refine leaves us h2 (fun p hp => hlt p ?_) hus ((World.cells?_some h1).2.1.trans hlen)
   have hps := congrArg Prod.snd hx
   simp only at hps
   rw [hps]
   exact List.mem_append_right _ (List.mem_flatMap.2 ⟨i, List.mem_range.2 oW, hp⟩)
end Go.Proofs.YtcdjakemdlinhaaGreatDoor
namespace Go.Proofs.YtcdjakemdlinhaaGreatDoor.Itm
open Go.ChangeShapes Go.WideShapes Go.ChangeAt Go.RowKit
inductive Tr where
 | mk (k : Int) (n : Nat) (s : List UInt8) (l : List Tr) (o : Bool)
def Tr.k : Tr → Int | .mk k _ _ _ _ => k
def Tr.n : Tr → Nat | .mk _ n _ _ _ => n
def Tr.s : Tr → List UInt8 | .mk _ _ s _ _ => s
def Tr.l : Tr → List Tr | .mk _ _ _ l _ => l
def Tr.o : Tr → Bool | .mk _ _ _ _ o => o
def W64 : Nat := 18446744073709551616
def R47 : Nat := 140737488355328
inductive TAt (w : World) : Tr → List Value → Prop
 | mk (k : Int) (n : Nat) (s : List UInt8) (l : List Tr) (o : Bool) (a : Option Addr) (c : Nat) (C : Nat → List Value) (hn : n < W64) (hs : s.length ≤ R47) (hl : l.length ≤ R47)
   (hat : ∀ i, i < l.length → ∃ b f, a = some ⟨b, f, none⟩ ∧ b < w.heap.size ∧ w.rangeAt b (f + i * 5) (C i))
   (hel : ∀ i t, l[i]? = some t → TAt w t (C i)) : TAt w (.mk k n s l o) [.int .i64 k, .int .u64 n, .string (B s), .slice a l.length c, .bool o]
theorem TAt.form {w : World} {t : Tr} {cs : List Value} (h : TAt w t cs) : ∃ (a : Option Addr) (c : Nat) (C : Nat → List Value), cs = [.int .i64 t.k, .int .u64 t.n, .string (B t.s), .slice a t.l.length c, .bool t.o] ∧ t.n < W64 ∧ t.s.length ≤ R47 ∧ t.l.length ≤ R47 ∧
  (∀ i, i < t.l.length → ∃ b f, a = some ⟨b, f, none⟩ ∧ b < w.heap.size ∧ w.rangeAt b (f + i * 5) (C i)) ∧ ∀ i x, t.l[i]? = some x → TAt w x (C i) := by
 cases h with
 | mk k n s l o a c C hn hs hl hat hel => exact ⟨a, c, C, rfl, hn, hs, hl, hat, hel⟩
section
variable {H : Type} {enc : TypeId × Value → H} {W : World}
end
end Go.Proofs.YtcdjakemdlinhaaGreatDoor.Itm
namespace Go.Proofs.YtcdjakemdlinhaaGreatDoor.Sx
open Go.ChangeShapes Go.WideShapes Go.ChangeAt Go.RowKit Go.Deep
section
variable {P : Program} {n : Nat} {W0 : Cx} {Q : XQ} {s : cB} {U : View} {σ : aF} {ops : Array Oper} {l : List Oper} {o : Oper}
def kN : List Nat → List (Option Nat)
 | [] => []
 | 0 :: r => none :: kN r
 | (k + 1) :: r => some k :: kN r
theorem aI6 : ∀ ks : List Nat, (kN ks).length = ks.length
 | [] => rfl
 | 0 :: r => by rw [kN, List.length_cons, List.length_cons, aI6]
 | (k + 1) :: r => by rw [kN, List.length_cons, List.length_cons, aI6]
abbrev See (U : View) (w : World) : Prop := ∀ a v, U a = some v → w.cell? a = some v
abbrev CP : FuncId → Array Value → World → (Ending → World → Prop) → Prop := Calls Tryz.prog
abbrev I6 (x : Int) : Value := .int .i64 x
abbrev U6 (x : Int) : Value := .int .u64 x
abbrev N6 (x : Nat) : Value := .int .u64 (x : Int)
abbrev L6 (x : Nat) : Value := .int .i64 (x : Int)
abbrev St (l : List UInt8) : Value := .string (B l)
abbrev Pt (b o : Nat) : Value := .pointer (some ⟨b, o, none⟩)
abbrev Sl (b o n c : Nat) : Value := .slice (some ⟨b, o, none⟩) n c
abbrev S0 : Value := .slice none 0 0
abbrev oK (cs : List Value) (t : TypeId) : Obj := .cells cs.toArray t (0, 0)
abbrev bK (b : Nat) (cs : List Value) (t : TypeId) : Nat × Obj := (b, .cells cs.toArray t (0, 0))
abbrev tC (t : Itm.Tr) (a : Option Addr) (c : Nat) : List Value := [I6 t.k, N6 t.n, St t.s, .slice a t.l.length c, .bool t.o]
abbrev tV (t : Itm.Tr) (a : Option Addr) (c : Nat) : Value := .agg #[I6 t.k, N6 t.n, St t.s, .slice a t.l.length c, .bool t.o]
abbrev iN (n : Nat) : List Value := [I6 0, N6 n, St [], S0, .bool false]
abbrev iV (n : Nat) : Value := .agg #[I6 0, N6 n, St [], S0, .bool false]
abbrev Z20 : List Value := [U6 0, I6 0, I6 0, St [], U6 0, U6 0, I6 0, St [], U6 0, U6 0, I6 0, St [], U6 0, U6 0, U6 0, U6 0, U6 0, U6 0, U6 0, S0]
theorem bs : (∀ b : Bool, (b || true) = true) ∧ (∀ b : Bool, (true || b) = true) ∧ (∀ b : Bool, (false || b) = b) ∧ (∀ b : Bool, (b || false) = b) ∧ (∀ b : Bool, (b && true) = b) ∧ (∀ b : Bool, (true && b) = b) ∧ (∀ b : Bool, (false && b) = false) ∧ (∀ b : Bool, (b && false) = false) ∧ ((!true) = false) ∧ ((!false) = true) ∧ ((false = true) = False) :=
 ⟨Bool.or_true, Bool.true_or, Bool.false_or, Bool.or_false, Bool.and_true, Bool.true_and, Bool.false_and, Bool.and_false, rfl, rfl, by simp⟩
def nxS (P : Program) (n : Nat) (ops : Array Oper) (σ : aF) (ks : List Nat) (l : List Oper) (s : cB) : cB := match aKA P n ops σ (kN ks) l s with
 | some (s', _, _) => s'
 | none => []
def nxT (P : Program) (n : Nat) (ops : Array Oper) (σ : aF) (ks : List Nat) (l : List Oper) (s : cB) : Option (List (Nat × Option Nat) × List (Nat × Option Nat)) := match aKA P n ops σ (kN ks) l s with
 | some (_, x, y) => some (x, y)
 | none => none
theorem cU (ks : List Nat) (T : List (Nat × Nat)) (hn : SXL P n W0 Q ops (l.drop ks.length) (nxS P n ops σ ks l s) U σ) (h : nxT P n ops σ ks l s = some (tt T, tt T) := by kernel_rfl) : SXL P n W0 Q ops l s U σ := by
 unfold nxT at h
 unfold nxS at hn
 split at h
 ·
  next s' x y hs =>
  simp only [Option.some.injEq, Prod.mk.injEq] at h
  obtain ⟨rfl, rfl⟩ := h
  rw [hs] at hn
  rw [← aI6 ks] at hn
  exact aAU (kN ks) l s s' _ hs hn
 · cases h
def stX (P : Program) (σ : aF) (k : Nat) (s : cB) (o : Oper) : Obj := match stK P σ k s o with
 | some (_, _, x) => x
 | none => .cells #[] 0 (0, 0)
theorem aY (k b : Nat) (hn : SXL P n W0 Q ops l s U (σ.set k (b, stX P σ k s o))) (h : stK P σ k s o = some (b, b, stX P σ k s o) := by kernel_rfl) (hd : o.dst = none := by rfl) (hw : cZ ops s o = some true := by kernel_rfl) : SXL P n W0 Q ops (o :: l) s U σ :=
 aOs k b _ h hd hw hn
def nwX (P : Program) (s : cB) (o : Oper) : Obj := match makes P s o with
 | some (x, _) => x
 | none => .cells #[] 0 (0, 0)
def nwV (P : Program) (s : cB) (o : Oper) (r : Nat) : Value := match makes P s o with
 | some (_, f) => (f r).getD undef
 | none => undef
theorem cJ (h : ∀ b, SXL P n W0 Q ops l (jX o (nwV P s o b) s) U (σ ++ [(b, nwX P s o)])) (hm : makes P s o = some (nwX P s o, fun r => some (nwV P s o r)) := by kernel_rfl) (hd : eL n o = true := by kernel_rfl) (hw : cZ ops s o = some true := by kernel_rfl) : SXL P n W0 Q ops (o :: l) s U σ :=
 aLI _ _ hm hd hw h
theorem dA (f : FuncId) (args : Array Value) (v : Value) (hc : ∀ W, Mem W0 U σ W → Calls P f args W fun e W' => e = .returned v ∧ Below W.heap.size W W') (h : SXL P n W0 Q ops l (jX o v s) U σ) (he : enters P s o = some (f, args) := by kernel_rfl) (hd : eL n o = true := by kernel_rfl) (hw : cZ ops s o = some true := by kernel_rfl) : SXL P n W0 Q ops (o :: l) s U σ :=
 aH9 f args v he hc hd hw h
theorem cH (v : Value) (hrun : ∀ W : World, (execOp (ev s) o).run P W = .ok (.value v) W) (hn : SXL P n W0 Q ops l (jX o v s) U σ) (hk : known s o = true := by kernel_rfl) (hd : eL n o = true := by kernel_rfl) (hw : cZ ops s o = some true := by kernel_rfl) : SXL P n W0 Q ops (o :: l) s U σ :=
 aM1 v hk hrun hd hw hn
theorem eE (t : Nat) (v v' : Value) (he : v = v') (h : SXL P n W0 Q ops l ((t, v') :: s) U σ) (hl : look s t = some v := by kernel_rfl) : SXL P n W0 Q ops l s U σ := aL7 t v v' hl he h
theorem cD {c : Operand} {x y : Code} (t : Bool) (h1 : t = true → SXC P n W0 Q x s U σ) (h2 : t = false → SXC P n W0 Q y s U σ) (hc : evS s c = some (.bool t) := by kernel_rfl) : SXC P n W0 Q (.cond c x y) s U σ := aL8 t hc h1 h2
theorem dF {c : Operand} {x y : Code} (h1 : SXC P n W0 Q x s U σ) (hc : evS s c = some (.bool true) := by kernel_rfl) : SXC P n W0 Q (.cond c x y) s U σ := aFN true hc rfl h1
theorem dE {c : Operand} {x y : Code} (h1 : SXC P n W0 Q y s U σ) (hc : evS s c = some (.bool false) := by kernel_rfl) : SXC P n W0 Q (.cond c x y) s U σ := aFO false hc rfl h1
theorem gP {c : Operand} {x y : Code} (t : Bool) (ht : t = true) (h1 : SXC P n W0 Q x s U σ) (hc : evS s c = some (.bool t) := by kernel_rfl) : SXC P n W0 Q (.cond c x y) s U σ := aFN t hc ht h1
theorem eS {c : Operand} {x y : Code} (t : Bool) (ht : t = false) (h1 : SXC P n W0 Q y s U σ) (hc : evS s c = some (.bool t) := by kernel_rfl) : SXC P n W0 Q (.cond c x y) s U σ := aFO t hc ht h1
theorem aNe {P : Program} {s : cB} {σ : aF} : ∀ {ts : List Nat} {vs : List Value}, (ts.map fun t => look s t) = vs.map some → aBJ P s σ (ts.map .tmp) vs
 | [], [], _ => trivial
 | t :: ts, v :: vs, h => by
  simp only [List.map_cons, List.cons.injEq] at h
  exact ⟨aOx h.1, aNe h.2⟩
 | [], v :: vs, h => by simp at h
 | t :: ts, [], h => by simp at h
theorem aH {fn : Func} {R : Ending → World → Prop} (ts : List Nat) (vs : List Value) (h : ∀ W, Mem W0 U σ W → R (.returned (cG vs)) W) (hv : (ts.map fun t => look s t) = vs.map some := by kernel_rfl) (hr : fn.results.toList = ts.map .tmp := by rfl) : aJ9 P n W0 fn R .ret s U σ :=
 tQ _ vs hr (aNe hv) h
theorem aAn (f : FuncId) (args : Array Value) (Φ : Value → View → Prop) (hc : ∀ W, Mem W0 U σ W → Calls P f args W (rO W U Φ))
  (h : ∀ v V, View.le U V → Φ v V → SXL P n W0 Q ops l (jX o v s) V σ) (he : enters P s o = some (f, args) := by kernel_rfl) (hd : eL n o = true := by kernel_rfl) (hw : cZ ops s o = some true := by kernel_rfl) : SXL P n W0 Q ops (o :: l) s U σ :=
 aFP f args Φ he hc hd hw h
theorem aOw {s : cB} {σ : aF} {t : Nat} {v : Value} (h : look s t = some v := by kernel_rfl) : aCK P s σ (.tmp t) v := h
theorem aOy {s : cB} {σ : aF} {x : Nat} {ty : TypeId} {v : Value} (k b m : Nat) (h : aDJ P σ k s x ty = some (v, List.replicate m (b, none), b) := by kernel_rfl) : aCK P s σ (.cell x ty) v := ⟨k, b, m, h⟩
theorem aK (t : Nat) (x : Bool) (h1 : x = true → SXL P n W0 Q ops l ((t, .bool true) :: s) U σ) (h2 : x = false → SXL P n W0 Q ops l ((t, .bool false) :: s) U σ) (hl : look s t = some (.bool x) := by kernel_rfl) : SXL P n W0 Q ops l s U σ := aL9 t x hl h1 h2
theorem Mem.nilE {W : World} {A : aF} (h : Mem W0 U σ W) (e : σ = A := by kernel_rfl) : Mem W0 U (A ++ []) W := h.eqv (e.trans (List.append_nil A).symm)
theorem zE {y : Operand} {k : Nat} {a : Option Addr} {c : Nat} (hz : k = 0) (h : evS s y = some (.slice a k c) := by kernel_rfl) : evS s y = some (.slice a 0 c) := by subst hz; exact h
theorem zE' {y : Operand} {k : Nat} {v : Value} {a : Option Addr} {c : Nat} (yv : v = .slice a k c) (hz : k = 0) (h : evS s y = some v := by kernel_rfl) : evS s y = some (.slice a 0 c) := by subst hz; rw [h, yv]
theorem zX {y : Operand} {v w : Value} (e : v = w) (h : evS s y = some v := by kernel_rfl) : evS s y = some w := e ▸ h
theorem aMq {A B : aF} (h : A = B := by kernel_rfl) : A.Perm B := h ▸ List.Perm.refl _
theorem aN5 {A B : aF} (h : A = B := by kernel_rfl) : A = B ++ [] := h.trans (List.append_nil B).symm
theorem zs {x y : Code} (h : SXC P n W0 (aGI (fun s U σ => SXC P n W0 Q y s U σ) Q) x s U σ) : SXC P n W0 Q (.seq x y) s U σ := aH2 h
theorem zr {id : Nat} {l : List Oper} (h : SXL P n W0 Q l.toArray l s U σ) : SXC P n W0 Q (.region id l.toArray false) s U σ := aAV h
theorem zn (h : Q .normal s U σ) : SXL P n W0 Q ops [] s U σ := aM2 h
theorem zk (h : Q .normal s U σ) : SXC P n W0 Q .skip s U σ := aL2 h
theorem zq (k : Nat) (hn : SXL P n W0 Q ops (l.drop k) (nxS P n ops σ (List.replicate k 0) l s) U σ) (h : nxT P n ops σ (List.replicate k 0) l s = some (tt [], tt []) := by kernel_rfl) : SXL P n W0 Q ops l s U σ := cU _ [] (by rw [List.length_replicate]; exact hn) h
theorem zB {id : Nat} {y : Code} {l : List Oper} (ks : List Nat) (T : List (Nat × Nat)) (hn : SXL P n W0 (aGI (fun s U σ => SXC P n W0 Q y s U σ) Q) l.toArray (l.drop ks.length) (nxS P n l.toArray σ ks l s) U σ) (h : nxT P n l.toArray σ ks l s = some (tt T, tt T) := by kernel_rfl) : SXC P n W0 Q (.seq (.region id l.toArray false) y) s U σ := aH2 (aAV (cU ks T hn h))
theorem zQ {id : Nat} {y : Code} {l : List Oper} (k : Nat) (hn : SXL P n W0 (aGI (fun s U σ => SXC P n W0 Q y s U σ) Q) l.toArray (l.drop k) (nxS P n l.toArray σ (List.replicate k 0) l s) U σ) (h : nxT P n l.toArray σ (List.replicate k 0) l s = some (tt [], tt []) := by kernel_rfl) : SXC P n W0 Q (.seq (.region id l.toArray false) y) s U σ := aH2 (aAV (zq k hn h))
theorem rIx {t : TypeId} (e : TypeId) {x ix : Operand} (ho : o.op = .indexAddr t x ix) (b f len cap i sz : Nat) (hlt : i < len := by first | assumption | omega) (hx : evS s x = some (.slice (some ⟨b, f, none⟩) len cap) := by kernel_rfl) (hi : evS s ix = some (.int .i64 (i : Int)) := by kernel_rfl)
  (hu : P.underlying t = some (.slice e) := by kernel_rfl) (hs : (P.info? e).map (·.size) = some sz := by kernel_rfl) : ∀ W : World, (execOp (ev s) o).run P W = .ok (.value (.pointer (some ⟨b, f + i * sz, none⟩))) W := aDE t e x ix ho b f len cap i sz .i64 hx hi hlt hu hs
theorem i6v {x : Int} (h : -9223372036854775808 ≤ x ∧ x ≤ 9223372036854775807 := by first | omega | (simp only [go_num]; omega)) : Value.int .i64 (IntKind.i64.wrap x) = .int .i64 x := congrArg (Value.int .i64) (IntWalk.i64_in _ h)
theorem zU (b f : Nat) (cs : List Value) (hU : U.range b f cs) (ty : TypeId) (x : Operand) (d : TypeDesc) (hu : P.underlying ty = some d) (hrow : d.isRow = true)
  (h : SXL P n W0 Q ops l (jX o (.agg cs.toArray) s) U σ) (ho : o.op = .load ty x := by rfl) (hx : evS s x = some (.pointer (some ⟨b, f, none⟩)) := by kernel_rfl) (hi : (P.info? ty).map (·.size) = some cs.length := by kernel_rfl) (hd : eL n o = true := by kernel_rfl) (hw : cZ ops s o = some true := by kernel_rfl) : SXL P n W0 Q ops (o :: l) s U σ := aM3 b f cs hU ty x ho hx d hu hrow hi hd hw h
theorem zV (b f : Nat) (v : Value) (hU : U ⟨b, f, none⟩ = some v) (ty : TypeId) (x : Operand) (d : TypeDesc) (hu : P.underlying ty = some d) (hrow : d.isRow = false)
  (h : SXL P n W0 Q ops l (jX o v s) U σ) (ho : o.op = .load ty x := by rfl) (hx : evS s x = some (.pointer (some ⟨b, f, none⟩)) := by kernel_rfl) (hd : eL n o = true := by kernel_rfl) (hw : cZ ops s o = some true := by kernel_rfl) : SXL P n W0 Q ops (o :: l) s U σ := aL6 b f v hU ty x ho hx d hu hrow hd hw h
theorem eG {f : FuncId} {fn : Func} {c : Code} {args : List Value} {W : World} {R : Ending → World → Prop} {U : View} (n : Nat) (hf : P.funcs[f]? = some fn) (hU : ∀ a v, U a = some v → W.cell? a = some v) (h : SXC P n ⟨W, U⟩ (aJ9 P n ⟨W, U⟩ fn R) c (aLT 0 args) U [])
  (hb : fn.body = some c := by rfl) (hn : fn.ntmps = n := by rfl) (hle : Nat.ble args.length n = true := by rfl) : Calls P f args.toArray W R := aFM n U hf hb hn hle hU h
theorem dK {f : FuncId} {fn : Func} {c : Code} {args : List Value} {W : World} {R : Ending → World → Prop} (n : Nat) (hf : P.funcs[f]? = some fn) (h : SXC P n ⟨W, View.no⟩ (aJ9 P n ⟨W, View.no⟩ fn R) c (aLT 0 args) View.no [])
  (hb : fn.body = some c := by rfl) (hn : fn.ntmps = n := by rfl) (hle : Nat.ble args.length n = true := by rfl) : Calls P f args.toArray W R := aFM n View.no hf hb hn hle (fun _ _ h => by cases h) h
def aMk (P : Program) (s : cB) (σ : aF) : List ResultVar → List Nat → Option (List Value × List (Nat × Option Nat) × List (Nat × Option Nat))
 | [], [] => some ([], [], [])
 | .tmp t :: rs, 0 :: ks => match look s t, aMk P s σ rs ks with
  | some v, some (vs, x, y) => some (v :: vs, x, y)
  | _, _ => none
 | .cell c ty :: rs, (k + 1) :: ks => match aDJ P σ k s c ty, aMk P s σ rs ks with
  | some (v, r, b), some (vs, x, y) => some (v :: vs, r ++ x, r.map (fun _ => (b, none)) ++ y)
  | _, _ => none
 | _, _ => none
theorem aCU : ∀ (rs : List ResultVar) (ks : List Nat) (vs : List Value) (x : List (Nat × Option Nat)), aMk P s σ rs ks = some (vs, x, x) → aBJ P s σ rs vs
 | [], [], vs, x, h => by
  simp only [aMk, Option.some.injEq, Prod.mk.injEq] at h
  rw [← h.1]
  trivial
 | .tmp t :: rs, 0 :: ks, vs, x, h => by
  simp only [aMk] at h
  split at h
  ·
   next v vs2 x2 y2 hv h2 =>
   simp only [Option.some.injEq, Prod.mk.injEq] at h
   obtain ⟨rfl, rfl, rfl⟩ := h
   exact ⟨hv, aCU rs ks _ _ h2⟩
  · cases h
 | .cell c ty :: rs, (k + 1) :: ks, vs, x, h => by
  simp only [aMk] at h
  split at h
  ·
   next v r b vs2 x2 y2 hv h2 =>
   simp only [Option.some.injEq, Prod.mk.injEq] at h
   obtain ⟨rfl, rfl, he⟩ := h
   obtain ⟨e1, e2⟩ := List.append_inj he (by simp)
   exact ⟨⟨k, b, r.length, by rw [hv]; exact congrArg (fun z => some (v, z, b)) (e1.symm.trans (List.map_const' ..))⟩, aCU rs ks _ x2 (by rw [h2, e2])⟩
  · cases h
 | [], _ :: _, _, _, h => by cases h
 | .tmp _ :: _, [], _, _, h => by cases h
 | .cell _ _ :: _, [], _, _, h => by cases h
 | .tmp _ :: _, (_ + 1) :: _, _, _, h => by cases h
 | .cell _ _ :: _, 0 :: _, _, _, h => by cases h
theorem dU {fn : Func} {R : Ending → World → Prop} (ks : List Nat) (T : List (Nat × Nat)) (vs : List Value) (h : ∀ W, Mem W0 U σ W → R (.returned (cG vs)) W) (hv : aMk P s σ fn.results.toList ks = some (vs, tt T, tt T) := by kernel_rfl) : aJ9 P n W0 fn R .ret s U σ :=
 tQ _ vs rfl (aCU _ ks vs _ hv) h
theorem nx {α : Type} {A B C D : α → Prop} (x : α) (a : A x) (b : B x) (c : C x := by exact sS _ _ kR) (d : D x := by exact fun _ h => h.eqv kR) : ∃ x, A x ∧ B x ∧ C x ∧ D x := ⟨x, a, b, c, d⟩
theorem eV (t : Nat) (x : Int) (h : SXL P n W0 Q ops l ((t, .int .i64 x) :: s) U σ) (hl : look s t = some (.int .i64 (IntKind.i64.wrap x)) := by kernel_rfl) (hr : -9223372036854775808 ≤ x ∧ x ≤ 9223372036854775807 := by first | omega | (simp only [go_num]; omega)) : SXL P n W0 Q ops l s U σ :=
 aL7 t _ _ hl (congrArg (Value.int .i64) (IntWalk.i64_in _ hr)) h
theorem dL {f : FuncId} {args : Array Value} {v : Value} (hc : ∀ W, Mem W0 U σ W → Calls P f args W (Ret v W)) (h : SXL P n W0 Q ops l (jX o v s) U σ) (he : enters P s o = some (f, args) := by kernel_rfl) (hd : eL n o = true := by kernel_rfl) (hw : cZ ops s o = some true := by kernel_rfl) : SXL P n W0 Q ops (o :: l) s U σ :=
 aH9 f args v he hc hd hw h
theorem aED {f : FuncId} {args : Array Value} {Φ : Value → View → Prop} (hc : ∀ W, Mem W0 U σ W → Calls P f args W (rO W U Φ))
  (h : ∀ v V, View.le U V → Φ v V → SXL P n W0 Q ops l (jX o v s) V σ) (he : enters P s o = some (f, args) := by kernel_rfl) (hd : eL n o = true := by kernel_rfl) (hw : cZ ops s o = some true := by kernel_rfl) : SXL P n W0 Q ops (o :: l) s U σ :=
 aFP f args Φ he hc hd hw h
theorem jJ {fn : Func} {v : Value} {w : World} (t : Nat) (hb : ∀ W, Mem W0 U σ W → Below w.heap.size w W := by exact fun _ h => h.below) (hv : look s t = some v := by kernel_rfl) (hr : fn.results.toList = [.tmp t] := by rfl) : aJ9 P n W0 fn (Ret v w) .ret s U σ :=
 tQ [.tmp t] [v] hr ⟨hv, trivial⟩ fun W hM => ⟨rfl, hb W hM⟩
theorem gX {α : Type} {c : Code} (Sf : α → cB) (Uf : α → View) (Of : α → aF) (inv : α → Prop) (μ : α → Nat) (x0 : α) (h0 : inv x0)
  (round : ∀ x, inv x → SXC P n W0 (aGI (fun s' U' σ' => ∃ x', inv x' ∧ μ x' < μ x ∧ (∀ t v, look (Sf x') t = some v → look s' t = some v) ∧ (∀ W, Mem W0 U' σ' W → Mem W0 (Uf x') (Of x') W)) Q) c (Sf x) (Uf x) (Of x))
  (hs : ∀ t v, look (Sf x0) t = some v → look s t = some v := by exact sS _ _ kR) (hm : ∀ W, Mem W0 U σ W → Mem W0 (Uf x0) (Of x0) W := by exact fun _ h => h.eqv kR) : SXC P n W0 Q (.loop c) s U σ := aL5 Sf Uf Of inv μ x0 h0 hs hm round
end
inductive Sq where
 | val (v : Value)
 | mem (Φ : Value → View → Prop)
def aNU (W0 : Cx) (U : View) (σ : aF) (W : World) (v : Value) : Sq → Prop
 | .val u => v = u
 | .mem Φ => ∃ V, View.le U V ∧ Mem W0 V σ W ∧ Φ v V
def oZ : Sq → Prop
 | .val _ => True
 | .mem Φ => ∀ v V V', View.le V V' → Φ v V → Φ v V'
theorem Mem.join {W0 : Cx} {U V : View} {σ : aF} {W : World} (h : Mem W0 U σ W) (k : Mem W0 V σ W) : Mem W0 (U.or V) σ W ∧ View.le U (U.or V) ∧ View.le V (U.or V) := by
 have hor : ∀ a v, U.or V a = some v → U a = some v ∨ V a = some v := by
  intro a v hu
  unfold View.or at hu
  cases hx : U a with
  | some u => rw [hx] at hu; exact .inl hu
  | none => rw [hx] at hu; exact .inr hu
 refine ⟨h.grow (fun a v hu hlt => ?_) (fun a v hu => ?_) (fun j b o hk a ha => ?_), View.le_or _ _, fun a v hv => ?_⟩
 ·
  rcases hor a v hu with hu | hu
  · exact h.old a v hu hlt
  · exact k.old a v hu hlt
 ·
  rcases hor a v hu with hu | hu
  · exact h.view a v hu
  · exact k.view a v hu
 ·
  have h1 := (h.own j b o hk).2.2 a ha
  have h2 := (k.own j b o hk).2.2 a ha
  unfold View.or
  rw [h1, h2]; rfl
 ·
  unfold View.or
  cases hx : U a with
  | some u =>
   have h1 := h.view a u hx
   have h2 := k.view a v hv
   rw [h1] at h2
   simpa using h2
  | none => simpa using hv
theorem Mem.addView {W0 : Cx} {U : View} {σ : aF} {W : World} (h : Mem W0 U σ W) {g : Nat} {cs : List Value} {t : TypeId} (hg : W.heap[g]? = some (.cells cs.toArray t (0, 0))) (hge : W0.w.heap.size ≤ g) (hne : ∀ (k : Nat) (x : Nat × Obj), σ[k]? = some x → x.1 ≠ g) :
  ∃ V, View.le U V ∧ V.range g 0 cs ∧ Mem W0 V σ W := by
 let C : View := fun a => if a.block = g ∧ a.spot = none then cs[a.off]? else none
 have hC : ∀ a v, C a = some v → a.block = g ∧ W.cell? a = some v := by
  intro a v hv
  have hv' : (if a.block = g ∧ a.spot = none then cs[a.off]? else none) = some v := hv
  split at hv'
  ·
   next hc =>
   have ea : a = ⟨g, a.off, none⟩ := by
    obtain ⟨a1, a2, a3⟩ := a
    simp only at hc ⊢
    rw [hc.1, hc.2]
   refine ⟨hc.1, ?_⟩
   rw [ea, cell_of_row _ _ _ _ _ _ hg]
   simpa using hv'
  · cases hv'
 have hor : ∀ a v, U.or C a = some v → U a = some v ∨ C a = some v := by
  intro a v hu
  unfold View.or at hu
  cases hx : U a with
  | some u => rw [hx] at hu; exact .inl hu
  | none => rw [hx] at hu; exact .inr hu
 refine ⟨U.or C, View.le_or _ _, fun j v hj => ?_, h.grow (fun a v hu hlt => ?_) (fun a v hu => ?_) (fun k b o hk a ha => ?_)⟩
 ·
  have hc : C ⟨g, 0 + j, none⟩ = some v := by
   show (if g = g ∧ none = none then cs[0 + j]? else none) = some v
   rw [if_pos ⟨rfl, rfl⟩, Nat.zero_add]; exact hj
  unfold View.or
  cases hx : U ⟨g, 0 + j, none⟩ with
  | some u =>
   have h1 := h.view _ _ hx
   have h2 := (hC _ _ hc).2
   rw [h1] at h2
   simpa using h2
  | none => simpa using hc
 ·
  rcases hor a v hu with hu | hu
  · exact h.old a v hu hlt
  ·
   have := (hC a v hu).1
   omega
 ·
  rcases hor a v hu with hu | hu
  · exact h.view a v hu
  · exact (hC a v hu).2
 ·
  have h1 := (h.own k b o hk).2.2 a ha
  unfold View.or
  rw [h1]
  cases hx : C a with
  | none => rfl
  | some v => exact absurd (ha.symm.trans (hC a v hx).1) (hne k _ hk)
def jZ (ops : Array Oper) (ds : List Nat) (vs : List Sq) (u : Nat → Value) (i : Nat) : cB := (List.range ds.length).filterMap fun j => match cI .any ops i j, vs[j]? with
 | true, some (.val v) => some (ds.getD j 0, v)
 | true, some (.mem _) => some (ds.getD j 0, u j)
 | _, _ => none
def aDh (u : Nat → Value) : Nat → List Nat → List Sq → cB
 | j, d :: ds, .val v :: vs => (d, v) :: aDh u (j + 1) ds vs
 | j, d :: ds, .mem _ :: vs => (d, u j) :: aDh u (j + 1) ds vs
 | _, _, _ => []
def gJ (vs : List Sq) (j : Nat) (v : Value) (V : View) : Prop := match vs[j]? with
 | some (.mem Φ) => Φ v V
 | _ => True
theorem lZ (u : Nat → Value) : ∀ (k : Nat) (ds : List Nat) (vs : List Sq) (t : Nat) (v : Value), (t, v) ∈ aDh u k ds vs → ∃ (j : Nat) (q : Sq), ds[j]? = some t ∧ vs[j]? = some q ∧ (match q with | .val w => v = w | .mem _ => v = u (k + j))
 | k, [], vs, t, v, h => by simp [aDh] at h
 | k, d :: ds, [], t, v, h => by simp [aDh] at h
 | k, d :: ds, .val w :: vs, t, v, h => by
  simp only [aDh, List.mem_cons, Prod.mk.injEq] at h
  rcases h with ⟨rfl, rfl⟩ | h
  · exact ⟨0, .val v, rfl, rfl, rfl⟩
  ·
   obtain ⟨j, q, h1, h2, h3⟩ := lZ u (k + 1) ds vs t v h
   refine ⟨j + 1, q, by simpa using h1, by simpa using h2, ?_⟩
   cases q with
   | val w => exact h3
   | mem _ => simp only at h3 ⊢; rw [h3]; congr 1; omega
 | k, d :: ds, .mem Φ :: vs, t, v, h => by
  simp only [aDh, List.mem_cons, Prod.mk.injEq] at h
  rcases h with ⟨rfl, rfl⟩ | h
  · exact ⟨0, .mem Φ, rfl, rfl, rfl⟩
  ·
   obtain ⟨j, q, h1, h2, h3⟩ := lZ u (k + 1) ds vs t v h
   refine ⟨j + 1, q, by simpa using h1, by simpa using h2, ?_⟩
   cases q with
   | val w => exact h3
   | mem _ => simp only at h3 ⊢; rw [h3]; congr 1; omega
def IsQ (W0 : Cx) (U : View) (σ : aF) (vs : List Sq) : Nat → Value → World → Prop := fun j v W => ∃ q, vs[j]? = some q ∧ aNU W0 U σ W v q
theorem IsQ.keep {W0 : Cx} {U : View} {σ : aF} {vs : List Sq} {j : Nat} {v : Value} {W W' : World} (h : aAw W W') (hv : IsQ W0 U σ vs j v W) : IsQ W0 U σ vs j v W' := by
 obtain ⟨q, hq, hs⟩ := hv
 refine ⟨q, hq, ?_⟩
 cases q with
 | val u => exact hs
 | mem Φ =>
  obtain ⟨V, h1, h2, h3⟩ := hs
  exact ⟨V, h1, h2.call h, h3⟩
theorem aC8 {W0 : Cx} {U : View} {σ : aF} {W : World} {vs : List Sq} {u : Nat → Value} (hmono : ∀ q ∈ vs, oZ q) (hM : Mem W0 U σ W) : ∀ (l : List Nat), (∀ j ∈ l, IsQ W0 U σ vs j (u j) W) → ∃ V, View.le U V ∧ Mem W0 V σ W ∧ ∀ j ∈ l, gJ vs j (u j) V
 | [], _ => ⟨U, View.le_refl _, hM, fun j hj => by simp at hj⟩
 | j :: l, h => by
  obtain ⟨V, h1, h2, h3⟩ := aC8 hmono hM l fun k hk => h k (List.mem_cons_of_mem _ hk)
  obtain ⟨q, hq, hs⟩ := h j (List.mem_cons_self ..)
  cases q with
  | val w =>
   refine ⟨V, h1, h2, fun k hk => ?_⟩
   rcases List.mem_cons.1 hk with rfl | hk
   · unfold gJ; rw [hq]; trivial
   · exact h3 k hk
  | mem Φ =>
   obtain ⟨V', k1, k2, k3⟩ := hs
   obtain ⟨m1, m2, m3⟩ := h2.join k2
   refine ⟨V.or V', View.le_trans h1 m2, m1, fun k hk => ?_⟩
   have hup : ∀ k, gJ vs k (u k) V → gJ vs k (u k) (V.or V') := by
    intro k hk
    unfold gJ at hk ⊢
    cases hqk : vs[k]? with
    | none => trivial
    | some q =>
     cases q with
     | val _ => trivial
     | mem Ψ =>
      rw [hqk] at hk
      exact hmono _ (List.mem_of_getElem? hqk) _ _ _ m2 hk
   rcases List.mem_cons.1 hk with rfl | hk
   ·
    unfold gJ
    rw [hq]
    exact hmono _ (List.mem_of_getElem? hq) _ _ _ m3 k3
   · exact hup k (h3 k hk)
theorem aDH {n : Nat} {s : cB} {a0 : Act} {ops : Array Oper} {ds : List Nat} {vs : List Sq} {u : Nat → Value} {W0 : Cx} {U : View} {σ : aF} {W : World} (i : Nat) (ha : pD n s a0) (hn : ds.Nodup) (hd : ∀ d ∈ ds, d < n)
  (hu : ∀ j, cI .any ops i j = true → IsQ W0 U σ vs j (u j) W) : pD n (jZ ops ds vs u i ++ aV s ds) (eH ds 0 u a0) := by
 have hg := fun t => fP ds 0 u a0 t hn (by rw [ha.size]; exact hd)
 refine ⟨by rw [(hg 0).2.2.1, ha.size], by rw [(hg 0).2.2.2, ha.defers], fun t v hv => ?_⟩
 rcases eP _ _ _ _ hv with h | ⟨_, h⟩
 ·
  have hm := iJ _ _ _ h
  unfold jZ at hm
  obtain ⟨j, hj, he⟩ := List.mem_filterMap.1 hm
  have hjl : j < ds.length := List.mem_range.1 hj
  have hdj : ∀ t', ds.getD j 0 = t' → ds[j]? = some t' := fun t' e => by
   rw [List.getElem?_eq_getElem hjl, ← e]
   simp [List.getD, hjl]
  split at he
  ·
   next x hw hx =>
   simp only [Option.some.injEq, Prod.mk.injEq] at he
   obtain ⟨he1, he2⟩ := he
   rw [(hg t).1 j (hdj t he1), Nat.zero_add]
   obtain ⟨q, hq, hs⟩ := hu j hw
   rw [hx] at hq
   simp only [Option.some.injEq] at hq
   subst hq
   simp only [aNU] at hs
   rw [hs, he2]
  ·
   next x hw hx =>
   simp only [Option.some.injEq, Prod.mk.injEq] at he
   obtain ⟨he1, he2⟩ := he
   rw [(hg t).1 j (hdj t he1), Nat.zero_add, he2]
  · cases he
 ·
  obtain ⟨h1, h2⟩ := eW _ _ _ _ h
  rw [(hg t).2.1 h1]
  exact ha.slots t v h2
structure Oq (P : Program) (n : Nat) (W0 : Cx) (U : View) (σ : aF) (ops : Array Oper) (ds : List Nat) (vs : List Sq) (s : cB) (i : Nat) : Prop where
 go : ∀ (a0 : Act) (Q : Exit → Act → World → Prop), pD n s a0 → ds.Nodup → (∀ d ∈ ds, d < n) → (∀ q ∈ vs, oZ q) → aAk P .any ops Q (Mem W0 U σ) aAw (IsQ W0 U σ vs) ds a0 i
def aMw (ops : Array Oper) (vs : List Sq) (i : Nat) : List Nat := (List.range vs.length).filter fun j => cI .any ops i j
theorem Calls.retN {P : Program} {f : FuncId} {args : Array Value} {w : World} {U : View} {v : Value} {Φ : Value → View → Prop} (hU : ∀ a u, U a = some u → w.cell? a = some u) (h : Calls P f args w (Ret v w)) (hΦ : Φ v U) : Calls P f args w (rO w U Φ) :=
 h.mono fun e W' ⟨he, hb⟩ => ⟨v, U, he, hb, View.le_refl _, fun a u hu => by
  have := hU a u hu
  rw [hb.cell (oT this)]; exact this, fun _ _ hu _ => hu, hΦ⟩
section
variable {P : Program} {n : Nat} {W0 : Cx} {s : cB} {U : View} {σ : aF} {ops : Array Oper} {ds : List Nat} {vs : List Sq}
theorem Oq.op (i : Nat) {o : Oper} (hi : ops[i]? = some o) (q : Sq) (hvi : vs[i]? = some q)
  (h : ∀ (u : Nat → Value) (V : View), View.le U V → (∀ j, cI .any ops i j = true → gJ vs j (u j) V) → cZ ops (jZ ops ds vs u i ++ aV s ds) o = some true ∧
   ∀ a W, pD n (jZ ops ds vs u i ++ aV s ds) a → Mem W0 V σ W → ∀ (Q : Exit → Act → World → Prop) (K : Act → World → Prop), (∀ v W', Mem W0 V σ W' → aNU W0 V σ W' v q → Below W.heap.size W W' → K (a.put o.dst v) W') → o.wp P a W K Q) : Oq P n W0 U σ ops ds vs s i := by
 refine ⟨fun a0 Q ha hn hd hmo => ⟨fun u W hM hu K hK => ?_⟩⟩
 have hr := aDH (u := u) (W := W) i ha hn hd hu
 have hlt : ∀ j, cI .any ops i j = true → j < vs.length := fun j hj => by
  obtain ⟨q, hq, _⟩ := hu j hj
  exact (List.getElem?_eq_some_iff.1 hq).1
 obtain ⟨V, h1, h2, h3⟩ := aC8 hmo hM (aMw ops vs i) fun j hj => hu j (List.mem_filter.1 hj).2
 obtain ⟨hw, hgo⟩ := h u V h1 fun j hj => h3 j (List.mem_filter.2 ⟨List.mem_range.2 (hlt j hj), hj⟩)
 unfold wpOp
 simp only [hi, jS hr hw, if_true]
 left
 refine hgo _ W hr h2 Q K fun v W' hM' hs hb => ?_
 have := hK v W' (hM'.weak h1) hb ⟨q, hvi, by
  cases q with
  | val w => exact hs
  | mem Φ =>
   obtain ⟨V', k1, k2, k3⟩ := hs
   exact ⟨V', View.le_trans h1 k1, k2, k3⟩⟩
 rw [hi] at this
 exact this
theorem oqQ (i : Nat) {o : Oper} (hi : ops[i]? = some o) (v v' : Value) (he : v = v') (hvi : vs[i]? = some (.val v')) (hw : ∀ u, cZ ops (jZ ops ds vs u i ++ aV s ds) o = some true) (hq : ∀ u, quiet P (jZ ops ds vs u i ++ aV s ds) o = some v) : Oq P n W0 U σ ops ds vs s i :=
 Oq.op i hi _ hvi fun u V _ _ => ⟨hw u, fun a W ha hM Q K hK => by
  unfold Oper.wp
  rw [mR ha (hq u)]
  exact hK v W hM he (Below.refl _ _)⟩
theorem oqL (i k b m : Nat) (cs : List Value) (t : TypeId) {o : Oper} (hi : ops[i]? = some o) (v : Value) (hvi : vs[i]? = some (.val v)) (hk : σ[k]? = some (b, .cells cs.toArray t (0, 0))) (hw : ∀ u, cZ ops (jZ ops ds vs u i ++ aV s ds) o = some true)
  (hq : ∀ u, reads P cs (jZ ops ds vs u i ++ aV s ds) o = some (v, List.replicate m (b, none))) : Oq P n W0 U σ ops ds vs s i :=
 Oq.op i hi _ hvi fun u V _ _ => ⟨hw u, fun a W ha hM Q K hK => by
  have hq := hq u
  unfold reads at hq
  split at hq
  ·
   next hkn =>
   split at hq
   ·
    next x rs hp =>
    simp only [Option.some.injEq, Prod.mk.injEq] at hq
    obtain ⟨rfl, has⟩ := hq
    unfold Oper.wp
    rw [fO ha hkn, sI hM hk hp has]
    exact hK _ W hM rfl (Below.refl _ _)
   · cases hq
  · cases hq⟩
theorem fX {a : Act} {s' : cB} (ts : List Nat) (vals : List Value) (ha : pD n s' a) (h : (ts.map fun t => look s' t) = vals.map some) : pD n (ts.zip vals) a :=
 ⟨ha.size, ha.defers, fun t v hv => ha.slots t v (sS ts vals h t v hv)⟩
theorem oqM (i : Nat) (f : FuncId) {o : Oper} (hi : ops[i]? = some o) (hg : o.guard = none) (Φ : Value → View → Prop) (hvi : vs[i]? = some (.mem Φ)) (ts : List Nat) (vals : (Nat → Value) → List Value) (hsl : ∀ u, (ts.map fun t => look (jZ ops ds vs u i ++ aV s ds) t) = (vals u).map some)
  (h : ∀ (u : Nat → Value) (V : View), View.le U V → (∀ j, cI .any ops i j = true → gJ vs j (u j) V) → ∃ args, enters P (ts.zip (vals u)) o = some (f, args) ∧
   ∀ W, (∀ a v, V a = some v → W.cell? a = some v) → Calls P f args W (rO W V Φ)) : Oq P n W0 U σ ops ds vs s i :=
 Oq.op i hi _ hvi fun u V hV hd => by
  obtain ⟨args, he, hc⟩ := h u V hV hd
  refine ⟨by unfold cZ; rw [hg], fun a W ha hM Q K hK => ?_⟩
  unfold Oper.wp
  rw [iU (fX ts _ ha (hsl u)) he]
  refine (hc W hM.view).mono ?_
  rintro _ W' ⟨v, V', rfl, hb, hl, hv, ho, hΦ⟩
  exact hK v W' (hM.call hb) ⟨V', hl, hM.retN hb hl hv ho, hΦ⟩ hb
theorem oqN (i : Nat) {o : Oper} (hi : ops[i]? = some o) (hg : o.guard = none) (Φ : Value → View → Prop) (hvi : vs[i]? = some (.mem Φ)) (ts : List Nat) (vals : (Nat → Value) → List Value) (hsl : ∀ u, (ts.map fun t => look (jZ ops ds vs u i ++ aV s ds) t) = (vals u).map some)
  (h : ∀ (u : Nat → Value) (V : View), View.le U V → (∀ j, cI .any ops i j = true → gJ vs j (u j) V) → ∃ (cs : List Value) (t : TypeId) (vf : Nat → Value), makes P (ts.zip (vals u)) o = some (.cells cs.toArray t (0, 0), fun r => some (vf r)) ∧
   ∀ g V', View.le V V' → V'.range g 0 cs → Φ (vf g) V') : Oq P n W0 U σ ops ds vs s i :=
 Oq.op i hi _ hvi fun u V hV hd => by
  obtain ⟨cs, t, vf, hm, hΦ⟩ := h u V hV hd
  refine ⟨by unfold cZ; rw [hg], fun a W ha hM Q K hK => ?_⟩
  unfold Oper.wp
  rw [mV (fX ts _ ha (hsl u)) hm]
  have hb : Below W.heap.size W (W.alloc (.cells cs.toArray t (0, 0))) := (Below.refl _ _).alloc (Nat.le_refl _) _
  have hM' := hM.call hb
  obtain ⟨V', h1, h2, h3⟩ := hM'.addView (heap_alloc_last W (.cells cs.toArray t (0, 0))) hM.below.size fun k x hx => by
   have := fU (hM.own k x.1 x.2 hx).1
   omega
  exact hK _ _ hM' ⟨V', h1, h3, hΦ _ _ h1 h2⟩ hb
theorem oqP (i : Nat) {o : Oper} (hi : ops[i]? = some o) (hg : o.guard = none) (Φ : Value → View → Prop) (hvi : vs[i]? = some (.mem Φ)) (ts : List Nat) (vals : (Nat → Value) → List Value) (hsl : ∀ u, (ts.map fun t => look (jZ ops ds vs u i ++ aV s ds) t) = (vals u).map some)
  (h : ∀ (u : Nat → Value) (V : View), View.le U V → (∀ j, cI .any ops i j = true → gJ vs j (u j) V) → ∃ v, quiet P (ts.zip (vals u)) o = some v ∧ Φ v V) : Oq P n W0 U σ ops ds vs s i :=
 Oq.op i hi _ hvi fun u V hV hd => by
  obtain ⟨v, hq, hΦ⟩ := h u V hV hd
  refine ⟨by unfold cZ; rw [hg], fun a W ha hM Q K hK => ?_⟩
  unfold Oper.wp
  rw [mR (fX ts _ ha (hsl u)) hq]
  exact hK v W hM ⟨V, View.le_refl _, hM, hΦ⟩ (Below.refl _ _)
theorem aH6 {id : Nat} {l : List Oper} {Q : XQ} (m f r : Nat) (ds : List Nat) (vs : List Sq) (hm : P.follows .mixedOrders = true) (hsz : l.length = m + f) (hlen : ds.length = m)
  (hds : pB l.toArray ds = true) (hnd : nodupB ds = true) (hlt : (ds.all fun d => Nat.blt d n) = true) (hedge : eQ .any l.toArray m = true) (htail : iY .any l.toArray m r = true) (hchain : fY l.toArray m f = true) (hmo : ∀ q ∈ vs, oZ q)
  (obs : Go.Proofs.YtcdjakemdlinhaaGreatDoor.Steps (Oq P n W0 U σ l.toArray ds vs s) 0 m)
  (h : ∀ (u : Nat → Value) (V : View), View.le U V → (∀ j, j < m → gJ vs j (u j) V) → SXL P n W0 Q l.toArray (l.drop m) (aDh u 0 ds vs ++ aV s ds) V σ) : SXC P n W0 Q (.region id l.toArray true) s U σ := by
 refine ⟨fun a W ha hM => ?_⟩
 have hn := iI hnd
 have hd : ∀ d ∈ ds, d < n := fun d hd => by have := List.all_eq_true.1 hlt d hd; simpa [Nat.blt_eq] using this
 refine rS m f r (Mem W0 U σ) ds (IsQ W0 U σ vs) aAw hm (by simpa using hsz) hlen hds hnd hedge htail (fun i v w w' h hv => hv.keep h) hM.drew ?_ ?_
 ·
  have : ∀ (c i : Nat), Go.Proofs.YtcdjakemdlinhaaGreatDoor.Steps (Oq P n W0 U σ l.toArray ds vs s) i c → Go.Proofs.YtcdjakemdlinhaaGreatDoor.Steps (aAk P .any l.toArray (up n W0 Q) (Mem W0 U σ) aAw (IsQ W0 U σ vs) ds a) i c := by
   intro c
   induction c with
   | zero => intro i _; trivial
   | succ c ih => intro i h; exact ⟨h.1.go a _ ha hn hd hmo, ih (i + 1) h.2⟩
  exact this m 0 obs
 ·
  intro u W' hM' hv
  refine gZ f m _ W' (by simpa using hsz.symm) hchain ?_
  have hg := fun t => fP ds 0 u a t hn (by rw [ha.size]; exact hd)
  obtain ⟨V, h1, h2, h3⟩ := aC8 (u := u) hmo hM' (List.range m) fun j hj => hv j (List.mem_range.1 hj)
  refine (h u V h1 fun j hj => h3 j (List.mem_range.2 hj)).go _ W' ⟨by rw [(hg 0).2.2.1, ha.size], by rw [(hg 0).2.2.2, ha.defers], fun t v hl => ?_⟩ h2
  rcases eP _ _ _ _ hl with hl | ⟨_, hl⟩
  ·
   have hmem := iJ _ _ _ hl
   obtain ⟨j, q, hd2, hvj, hq⟩ := lZ u 0 _ _ _ _ hmem
   have hjl : j < ds.length := (List.getElem?_eq_some_iff.1 hd2).1
   obtain ⟨q', hq', hs⟩ := hv j oW
   rw [hvj] at hq'
   simp only [Option.some.injEq] at hq'
   subst hq'
   rw [(hg t).1 j hd2, Nat.zero_add]
   cases q with
   | val w => simp only [aNU] at hs; simp only at hq; rw [hs, hq]
   | mem Φ => simp only [Nat.zero_add] at hq; rw [hq]
  ·
   obtain ⟨h1, h2⟩ := eW _ _ _ _ hl
   rw [(hg t).2.1 h1]
   exact ha.slots t v h2
def dqA (P : Program) (l : List Oper) (σ : aF) (ks : List Nat) (tv : List Sq) (s : cB) (u : Nat → Value) := drX P l.toArray σ (fun acc i => jZ l.toArray (dsO l ks.length) acc u i ++ aV s (dsO l ks.length)) Sq.val ks tv 0 []
def dvQ (P : Program) (l : List Oper) (σ : aF) (ks : List Nat) (tv : List Sq) (s : cB) : List Sq := match dqA P l σ ks tv s (fun _ => undef) with
 | some (vs, _, _) => vs
 | none => []
theorem aLt {u : Nat → Value} (acc r : List Sq) (h : ∀ j, cI .any ops acc.length j = true → j < acc.length) : jZ ops ds (acc ++ r) u acc.length = jZ ops ds acc u acc.length := by
 unfold jZ
 congr 1
 funext j
 cases hw : cI .any ops acc.length j with
 | false => rfl
 | true => rw [List.getElem?_append_left (h j hw)]
theorem aMs {i : Nat} (h : ∀ u, ∃ k, k ≠ 1 ∧ aGw P ops σ (fun acc i => jZ ops ds acc u i ++ aV s ds) Sq.val vs i k) {σ' : aF} (hs : ∀ (k : Nat) (x : Nat × Obj), σ[k]? = some x → σ'[k]? = some x) : Oq P n W0 U σ' ops ds vs s i := by
 refine ⟨fun a0 Q ha hn hd hmo => ⟨fun u W hM hu K hK => ?_⟩⟩
 have hr := aDH (u := u) (W := W) i ha hn hd hu
 obtain ⟨k, hk, hx⟩ := h u
 unfold wpOp
 match k, hk, hx with
 | 0, _, ⟨o, v, h1, h2, h3, h4⟩ =>
  simp only [h1, jS hr h2, if_true]
  left
  unfold Oper.wp
  rw [mR hr h3]
  have := hK v W hM (Below.refl _ _) ⟨_, h4, rfl⟩
  rw [h1] at this
  exact this
 | 1, hk, _ => exact absurd rfl hk
 | 2, _, ⟨o, h1, h2, h3⟩ =>
  simp only [h1, jS hr h2]
  have := hK undef W hM (Below.refl _ _) ⟨_, h3, rfl⟩
  rw [h1] at this
  exact this
 | k + 3, _, ⟨o, v, b, c, t, m, h1, h2, h3, h4, h5⟩ =>
  simp only [h1, jS hr h3, if_true]
  left
  unfold reads at h4
  split at h4
  ·
   next hkn =>
   split at h4
   ·
    next x rs hp =>
    simp only [Option.some.injEq, Prod.mk.injEq] at h4
    obtain ⟨rfl, has⟩ := h4
    unfold Oper.wp
    rw [fO hr hkn, sI hM (cs := c.toList) (by simpa using hs _ _ h2) hp has]
    have := hK x W hM (Below.refl _ _) ⟨_, h5, rfl⟩
    rw [h1] at this
    exact this
   · cases h4
  · cases h4
def aMR : Sq → Value → View → Prop
 | .mem Φ, v, V => Φ v V
 | .val _, _, _ => True
theorem aGD {j : Nat} {t : Sq} {v : Value} {V : View} (h : vs[j]? = some t) (hp : gJ vs j v V) : aMR t v V := by
 unfold gJ at hp
 rw [h] at hp
 cases t with
 | val _ => trivial
 | mem Φ => exact hp
theorem aDy {α : Type} : ∀ {ks : List Nat} {tv : List α} {j : Nat} {t : α}, tlk ks tv j = some t → ks[j]? = some 1 ∧ t ∈ tv
 | [], tv, j, t, h => by cases j <;> cases h
 | 0 :: ks, tv, 0, t, h => by cases h
 | 0 :: ks, tv, j + 1, t, h => aDy (ks := ks) h
 | 1 :: ks, [], 0, t, h => by cases h
 | 1 :: ks, [], j + 1, t, h => aDy (ks := ks) (tv := []) h
 | 1 :: ks, x :: tv, 0, t, h => by cases h; exact ⟨rfl, List.mem_cons_self ..⟩
 | 1 :: ks, x :: tv, j + 1, t, h => ⟨(aDy (ks := ks) h).1, List.mem_cons_of_mem _ (aDy (ks := ks) h).2⟩
 | (k + 2) :: ks, tv, 0, t, h => by cases h
 | (k + 2) :: ks, tv, j + 1, t, h => aDy (ks := ks) h
section
variable {l : List Oper} {ks : List Nat} {T : List (Nat × Nat)} {tv : List Sq}
abbrev DqT (P : Program) (l : List Oper) (σ : aF) (ks : List Nat) (T : List (Nat × Nat)) (tv : List Sq) (s : cB) : Prop := ∀ u, dqA P l σ ks tv s u = some (dvQ P l σ ks tv s, tt T, tt T)
theorem aLq (hT : DqT P l σ ks T tv s) (he : eQ .any l.toArray ks.length = true) (u : Nat → Value) (j k : Nat) (hj : ks[j]? = some k) : (k = 1 ∧ ∃ t, tlk ks tv j = some t ∧ (dvQ P l σ ks tv s)[j]? = some t) ∨ (k ≠ 1 ∧ aGw P l.toArray σ (fun acc i => jZ l.toArray (dsO l ks.length) acc u i ++ aV s (dsO l ks.length)) Sq.val (dvQ P l σ ks tv s) j k) := by
 have := aLR (m := ks.length) (fun acc r hl => ?_) ks tv [] _ (by simp) (hT u) j k hj
 · rwa [show ([] : List Sq).length + j = j from Nat.zero_add j] at this
 ·
  show jZ _ _ (acc ++ r) _ _ ++ _ = jZ _ _ acc _ _ ++ _
  rw [aLt acc r fun j hj => aGn he hl hj]
theorem aNz (hT : DqT P l σ ks T tv s) (he : eQ .any l.toArray ks.length = true) (j : Nat) (t : Sq) (h : tlk ks tv j = some t) : (dvQ P l σ ks tv s)[j]? = some t := by
 rcases aLq hT he (fun _ => undef) j 1 (aDy h).1 with ⟨_, t', h1, h2⟩ | ⟨hk, _⟩
 · rw [h] at h1; cases h1; exact h2
 · exact absurd rfl hk
theorem aMC (hT : DqT P l σ ks T tv s) (he : eQ .any l.toArray ks.length = true) (hlen : (dvQ P l σ ks tv s).length ≤ ks.length) (hmo : ∀ q ∈ tv, oZ q) : ∀ q ∈ dvQ P l σ ks tv s, oZ q := by
 intro q hq
 obtain ⟨j, hj⟩ := List.getElem?_of_mem hq
 have hjl : j < ks.length := Nat.lt_of_lt_of_le (List.getElem?_eq_some_iff.1 hj).1 hlen
 rcases aLq hT he (fun _ => undef) j _ (List.getElem?_eq_getElem hjl) with ⟨_, t, h1, h2⟩ | ⟨hk, ha⟩
 · rw [hj] at h2; cases h2; exact hmo _ (aDy h1).2
 ·
  revert hk ha
  generalize ks[j] = k
  intro hk ha
  match k, hk, ha with
  | 0, _, ⟨o, v, _, _, _, h4⟩ => rw [hj] at h4; cases h4; trivial
  | 1, hk, _ => exact absurd rfl hk
  | 2, _, ⟨o, _, _, h4⟩ => rw [hj] at h4; cases h4; trivial
  | k + 3, _, ⟨o, v, b, c, t, m, _, _, _, _, h4⟩ => rw [hj] at h4; cases h4; trivial
theorem aLp {O : Nat → Prop} (hT : DqT P l σ ks T tv s) (he : eQ .any l.toArray ks.length = true)
  (ha : ∀ j, ks[j]? ≠ some 1 → (∀ σ', (∀ (k : Nat) (x : Nat × Obj), σ[k]? = some x → σ'[k]? = some x) → Oq P n W0 U σ' l.toArray (dsO l ks.length) (dvQ P l σ ks tv s) s j) → O j)
  (ho : obT (fun j t => (dvQ P l σ ks tv s)[j]? = some t → O j) 0 ks tv) : Go.Proofs.YtcdjakemdlinhaaGreatDoor.Steps O 0 ks.length := by
 refine aCS _ _ fun j hj => ?_
 rw [Nat.zero_add]
 by_cases h1 : ks[j]? = some 1
 ·
  rcases aLq hT he (fun _ => undef) j 1 h1 with ⟨_, t, h2, h3⟩ | ⟨hk, _⟩
  ·
   have := tZ ks tv 0 j t ho h2
   rw [Nat.zero_add] at this
   exact this h3
  · exact absurd rfl hk
 ·
  refine ha j h1 fun σ' hs => aMs (fun u => ?_) hs
  have hk := List.getElem?_eq_getElem hj
  rcases aLq hT he u j _ hk with ⟨h2, _⟩ | ⟨h2, h3⟩
  · rw [hk, h2] at h1; exact absurd rfl h1
  · exact ⟨_, h2, h3⟩
def Oqw (P : Program) (n : Nat) (W0 : Cx) (U : View) (σ : aF) (ops : Array Oper) (ds ks : List Nat) (tv vs : List Sq) (s : cB) (i : Nat) (t : Sq) : Prop := (∀ j t, tlk ks tv j = some t → vs[j]? = some t) → vs[i]? = some t → Oq P n W0 U σ ops ds vs s i
theorem aBM {id : Nat} {l : List Oper} {Q : XQ} (r : Nat) (ks : List Nat) (T : List (Nat × Nat)) (tv : List Sq) (hmo : ∀ q ∈ tv, oZ q) (obs : obT (Oqw P n W0 U σ l.toArray (dsO l ks.length) ks tv (dvQ P l σ ks tv s) s) 0 ks tv)
  (h : ∀ (u : Nat → Value) (V : View), View.le U V → (∀ {t : Sq} (j : Nat), tlk ks tv j = some t → aMR t (u j) V) → SXL P n W0 Q l.toArray (l.drop ks.length) (aDh u 0 (dsO l ks.length) (dvQ P l σ ks tv s) ++ aV s (dsO l ks.length)) V σ)
  (hT : DqT P l σ ks T tv s := by intro u; kernel_rfl) (hlen : Nat.ble (dvQ P l σ ks tv s).length ks.length = true := by kernel_rfl) (hk : aNY P n l ks.length r = true := by kernel_rfl) : SXC P n W0 Q (.region id l.toArray true) s U σ := by
 unfold aNY at hk
 simp only [Bool.and_eq_true] at hk
 obtain ⟨⟨⟨⟨⟨⟨⟨k1, k2⟩, k3⟩, k4⟩, k5⟩, k6⟩, k7⟩, k8⟩ := hk
 have k2 := Nat.le_of_ble_eq_true k2
 have ht := aNz hT k6
 refine aH6 ks.length (l.length - ks.length) r (dsO l ks.length) (dvQ P l σ ks tv s) k1 oW (aJC k2) k3 k4 k5 k6 k7 k8 (aMC hT k6 (Nat.le_of_ble_eq_true hlen) hmo) (aLp hT k6 (fun j _ h => h σ fun _ _ h => h) ?_) fun u V h1 h2 => h u V h1 fun {t} j hj => aGD (ht j t hj) (h2 j ((List.getElem?_eq_some_iff.1 (aDy hj).1).1))
 exact sM (fun j t (ho : Oqw ..) => ho ht) _ _ _ obs
end
section
variable {ks : List Nat} {tv : List Sq} {i : Nat} {v : Value} {Φ : Value → View → Prop}
abbrev aNM (ops : Array Oper) (ks : List Nat) (tv : List Sq) (u : Nat → Value) (V : View) (i : Nat) : Prop := ∀ {t : Sq} (j : Nat), cI .any ops i j = true → tlk ks tv j = some t → aMR t (u j) V
theorem aDl {u : Nat → Value} {V : View} (hl : ∀ j t, tlk ks tv j = some t → vs[j]? = some t) (hd : ∀ j, cI .any ops i j = true → gJ vs j (u j) V) : aNM ops ks tv u V i := fun j hj ht => aGD (hl _ _ ht) (hd j hj)
theorem wV (f : FuncId) (args : (Nat → Value) → Array Value) (h : ∀ (u : Nat → Value) (V : View), View.le U V → aNM ops ks tv u V i → ∀ W, (∀ a v, V a = some v → W.cell? a = some v) → Calls P f (args u) W (Ret v W))
  (hi : ops[i]? = some (mY ops i) := by rfl) (hg : (mY ops i).guard = none := by rfl) (he : ∀ u, enters P (jZ ops ds vs u i ++ aV s ds) (mY ops i) = some (f, args u) := by intro u; kernel_rfl) : Oqw P n W0 U σ ops ds ks tv vs s i (.val v) :=
 fun hl hvi => Oq.op i hi _ hvi fun u V hV hd => by
  refine ⟨by unfold cZ; rw [hg], fun a W ha hM Q K hK => ?_⟩
  unfold Oper.wp
  rw [iU ha (he u)]
  refine (h u V hV (aDl hl hd) W hM.view).mono ?_
  rintro _ W' ⟨rfl, hb⟩
  exact hK v W' (hM.call hb) rfl hb
theorem wM (f : FuncId) (args : (Nat → Value) → Array Value) (h : ∀ (u : Nat → Value) (V : View), View.le U V → aNM ops ks tv u V i → ∀ W, (∀ a v, V a = some v → W.cell? a = some v) → Calls P f (args u) W (rO W V Φ))
  (hi : ops[i]? = some (mY ops i) := by rfl) (hg : (mY ops i).guard = none := by rfl) (he : ∀ u, enters P (jZ ops ds vs u i ++ aV s ds) (mY ops i) = some (f, args u) := by intro u; kernel_rfl) : Oqw P n W0 U σ ops ds ks tv vs s i (.mem Φ) :=
 fun hl hvi => Oq.op i hi _ hvi fun u V hV hd => by
  refine ⟨by unfold cZ; rw [hg], fun a W ha hM Q K hK => ?_⟩
  unfold Oper.wp
  rw [iU ha (he u)]
  refine (h u V hV (aDl hl hd) W hM.view).mono ?_
  rintro _ W' ⟨v, V', rfl, hb, hl, hv, ho, hΦ⟩
  exact hK v W' (hM.call hb) ⟨V', hl, hM.retN hb hl hv ho, hΦ⟩ hb
theorem wN (ts : List Nat) (vals : (Nat → Value) → List Value) (h : ∀ (u : Nat → Value) (V : View), View.le U V → aNM ops ks tv u V i → ∃ (cs : List Value) (t : TypeId) (vf : Nat → Value), makes P (ts.zip (vals u)) (mY ops i) = some (.cells cs.toArray t (0, 0), fun r => some (vf r)) ∧ ∀ g V', View.le V V' → V'.range g 0 cs → Φ (vf g) V')
  (hi : ops[i]? = some (mY ops i) := by rfl) (hg : (mY ops i).guard = none := by rfl) (hsl : ∀ u, (ts.map fun t => look (jZ ops ds vs u i ++ aV s ds) t) = (vals u).map some := by intro u; kernel_rfl) : Oqw P n W0 U σ ops ds ks tv vs s i (.mem Φ) :=
 fun hl hvi => oqN i hi hg Φ hvi ts vals hsl fun u V hV hd => h u V hV (aDl hl hd)
theorem wP (ts : List Nat) (vals : (Nat → Value) → List Value) (h : ∀ (u : Nat → Value) (V : View), View.le U V → aNM ops ks tv u V i → ∃ v, quiet P (ts.zip (vals u)) (mY ops i) = some v ∧ Φ v V)
  (hi : ops[i]? = some (mY ops i) := by rfl) (hg : (mY ops i).guard = none := by rfl) (hsl : ∀ u, (ts.map fun t => look (jZ ops ds vs u i ++ aV s ds) t) = (vals u).map some := by intro u; kernel_rfl) : Oqw P n W0 U σ ops ds ks tv vs s i (.mem Φ) :=
 fun hl hvi => oqP i hi hg Φ hvi ts vals hsl fun u V hV hd => h u V hV (aDl hl hd)
theorem wE (v' : Value) (he : v' = v) (hi : ops[i]? = some (mY ops i) := by rfl) (hw : ∀ u, cZ ops (jZ ops ds vs u i ++ aV s ds) (mY ops i) = some true := by intro u; kernel_rfl) (hq : ∀ u, quiet P (jZ ops ds vs u i ++ aV s ds) (mY ops i) = some v' := by intro u; kernel_rfl) : Oqw P n W0 U σ ops ds ks tv vs s i (.val v) :=
 fun _ hvi => oqQ i hi v' v he hvi hw hq
end
theorem gO {Q : XQ} {l : List Oper} {o : Oper} (cs : List Value) (t : TypeId) (vf : Nat → Value) (hm : makes P s o = some (.cells cs.toArray t (0, 0), fun r => some (vf r))) (hd : eL n o = true) (hw : cZ ops s o = some true)
  (h : ∀ g V, View.le U V → V.range g 0 cs → SXL P n W0 Q ops l (jX o (vf g) s) V σ) : SXL P n W0 Q ops (o :: l) s U σ := by
 refine oG hd hw fun a W ha hM K hK => ?_
 unfold Oper.wp
 rw [mV ha hm]
 have hb : Below W.heap.size W (W.alloc (.cells cs.toArray t (0, 0))) := (Below.refl _ _).alloc (Nat.le_refl _) _
 have hM' := hM.call hb
 obtain ⟨V', h1, h2, h3⟩ := hM'.addView (heap_alloc_last W (.cells cs.toArray t (0, 0))) hM.below.size fun k x hx => by
  have := fU (hM.own k x.1 x.2 hx).1
  omega
 exact hK _ _ _ _ _ (h _ _ h1 h2) (eD ha hd) h3
end
theorem aLH {P : Program} {n : Nat} {W0 : Cx} {Q : XQ} {ops : Array Oper} {l : List Oper} {s : cB} {U : View} {σ : aF} (t : Nat) {v v' : Value} (he : v = v') (h : SXL P n W0 Q ops l ((t, v') :: s) U σ) (hl : look s t = some v := by kernel_rfl) : SXL P n W0 Q ops l s U σ := aL7 t v v' hl he h
end Go.Proofs.YtcdjakemdlinhaaGreatDoor.Sx
namespace Go.Proofs.YtcdjakemdlinhaaGreatDoor.Eid
open Go.ChangeShapes Go.WideShapes Go.ChangeAt Go.RowKit

theorem tN (l p : List UInt8) (w : World) : Calls Tryz.prog 236 #[.string (B l), .string (B p)] w fun e w' => e = .returned (.bool (pre p l)) ∧ w = w' := by
 have h := rC l p
 have H := Lib.hid h
 clear h
 go_enter Tryz.func236, Tryz.ntmps236
 go_wp2
 all_goals
  go_ret
  exact ⟨by rw [← H.out]; refine qF ?_; simp_all; try omega, rfl⟩
theorem aBW (l p : List UInt8) (w : World) : Calls Tryz.prog 207 #[.string (B l), .string (B p)] w fun e w' => e = .returned (.tuple #[.string (B (aMX p l)), .bool (pre p l)]) ∧ w = w' := by
 cases hp : pre p l
 ·
  have hc := aHt hp
  have H := Lib.hid hp
  have HC := Lib.hid hc
  clear hp hc
  go_enter Tryz.func207, Tryz.ntmps207
  go_wp2_with (go_at_call 236; refine (tN _ _ _).mono ?_; rw [H.out]; rintro e w' ⟨rfl, rfl⟩)
  go_ret2
  exact ⟨by rw [HC.out]; rfl, rfl⟩
 ·
  have hle := aCa hp
  have hc := aEj hp
  have H := Lib.hid hp
  have HC := Lib.hid hc
  clear hp hc
  go_enter Tryz.func207, Tryz.ntmps207
  go_wp2_with (go_at_call 236; refine (tN _ _ _).mono ?_; rw [H.out]; rintro e w' ⟨rfl, rfl⟩)
  go_ret2
  exact ⟨by rw [HC.out]; rfl, rfl⟩
theorem aDv (l p : List UInt8) (w : World) : Calls Tryz.prog 169 #[.string (B l), .string (B p)] w fun e w' => e = .returned (.tuple #[.string (B (aMX p l)), .bool (pre p l)]) ∧ w = w' := by
 go_enter Tryz.func169, Tryz.ntmps169
 go_wp2_with (go_at_call 207; refine (aBW _ _ _).mono ?_; rintro e w' ⟨rfl, rfl⟩)
 go_ret2
 exact ⟨rfl, rfl⟩

def nb (c : Int) : Bool := decide (97 ≤ c ∧ c ≤ 122 ∨ 48 ≤ c ∧ c ≤ 57 ∨ c = 45 ∨ c = 46)
theorem jC (c : Int) (w : World) : Calls Tryz.prog 170 #[.int .i32 c] w fun e w' => e = .returned (.bool (nb c)) ∧ w = w' := by
 go_enter Tryz.func170, Tryz.ntmps170
 go_wp2
 all_goals
  go_ret
  exact ⟨qF (by simp [nb] <;> omega), rfl⟩

def scan : List UInt8 → Nat → Nat
 | [], _ => 0
 | c :: r, i => if nb c.toNat then scan r (i + 1) else if c.toNat = 47 ∧ 0 < i then i + 3 else 0
def jN (l : List UInt8) : Nat := if pre [47, 47] l ∧ l.length ≤ 60 then scan (l.drop 2) 0 else 0

theorem aK3 (l : List UInt8) (w : World) (hl : l.length ≤ maxLen) : Calls Tryz.prog 132 #[.string (B l)] w fun e w' => e = .returned (.int .i64 (jN l)) ∧ Below w.heap.size w w' := by
 unfold maxLen at hl
 go_enter Tryz.func132, Tryz.ntmps132
 go_wp2_with fail
 refine (aDv _ [47, 47] _).mono ?_; rintro e w1 ⟨rfl, rfl⟩
 cases hp : pre [47, 47] l
 ·
  have H := Lib.hid hp
  clear hp
  go_wp2
  go_ret
  exact ⟨by unfold jN; rw [H.out]; rfl, Below.refl _ _⟩
 ·
  have hc := aEj hp
  have H := Lib.hid hp
  rw [hc]
  clear hp hc
  by_cases h60 : l.length ≤ 60
  ·
   have hn : jN l = scan (l.drop 2) 0 := by unfold jN; rw [if_pos ⟨H.out, h60⟩]
   have hm : (l.drop 2).length ≤ 60 := by simp; omega
   generalize l.drop 2 = m at hn hm
   have HN := Lib.hid hn
   clear hn
   go_wp2
   go_loopw [] (fun wr => ∃ k : Nat, k ≤ m.length ∧ wr = w.iter (B m) k ∧ jN l = scan (m.drop k) k) (fun wr => m.length - wr.iterPos w.heap.size)
   case atStart => exact ⟨0, Nat.zero_le _, rfl, HN.out⟩
   case round =>
    obtain ⟨k, hk, rfl, hs⟩ := hrel
    by_cases hlt : k < m.length
    ·
     have hB : k < (B m).size := by rw [qX]; exact hlt
     have hd : m.drop k = m[k] :: m.drop (k + 1) := List.drop_eq_getElem_cons hlt
     rw [hd] at hs
     have HS := Lib.hid hs
     clear hs hd
     by_cases ha : m[k].toNat < 128
     ·
      have hnx : ∀ ty, (Instr.next (.pointer (some ⟨w.heap.size, 0, none⟩)) true ty).run Tryz.prog (w.iter (B m) k) = .ok (.tuple #[.bool true, .int .i64 k, .int .i32 m[k].toNat]) (w.iter (B m) (k + 1)) := fun ty => run_next_ascii w (B m) k ty hB ha
      generalize hc : m[k].toNat = c at *
      cases hb : nb c
      ·
       have Hb := Lib.hid hb
       by_cases h47 : c = 47
       ·
        by_cases h0 : 0 < k
        ·
         have e : jN l = k + 3 := by rw [HS.out]; unfold scan; rw [hc, if_neg (by rw [hb]; decide), if_pos ⟨h47, h0⟩]
         have HE := Lib.hid e
         have hb7 : nb 47 = false := by decide
         have Hb7 := Lib.hid hb7
         clear e hb hb7
         subst h47
         go_wp2_with (go_at_call 170; refine (jC _ _).mono ?_; rw [Hb7.out]; rintro e w' ⟨rfl, rfl⟩)
         go_ret
         exact ⟨by rw [HE.out]; exact aMj oW, (Below.refl _ _).alloc (Nat.le_refl _) _⟩
        ·
         have e : jN l = 0 := by rw [HS.out]; unfold scan; rw [hc, if_neg (by rw [hb]; decide), if_neg oW]
         have HE := Lib.hid e
         obtain rfl : k = 0 := by omega
         have hb7 : nb 47 = false := by decide
         have Hb7 := Lib.hid hb7
         clear e hb h0 hb7
         subst h47
         go_wp2_with (go_at_call 170; refine (jC _ _).mono ?_; rw [Hb7.out]; rintro e w' ⟨rfl, rfl⟩)
         go_ret
         exact ⟨by rw [HE.out]; rfl, (Below.refl _ _).alloc (Nat.le_refl _) _⟩
       ·
        have e : jN l = 0 := by rw [HS.out]; unfold scan; rw [hc, if_neg (by rw [hb]; decide), if_neg oW]
        have HE := Lib.hid e
        have hne : ((c : Int) == 47) = false := by rw [beq_eq_false_iff_ne]; omega
        clear e hb
        go_wp2_with (go_at_call 170; refine (jC _ _).mono ?_; rw [Hb.out]; rintro e w' ⟨rfl, rfl⟩)
        go_ret
        exact ⟨by rw [HE.out]; rfl, (Below.refl _ _).alloc (Nat.le_refl _) _⟩
      ·
       have e : jN l = scan (m.drop (k + 1)) (k + 1) := by
        rw [HS.out]
        conv => lhs; unfold scan
        rw [hc, if_pos hb]
       have HE := Lib.hid e
       have Hb := Lib.hid hb
       clear e hb
       go_wp2_with (go_at_call 170; refine (jC _ _).mono ?_; rw [Hb.out]; rintro e w' ⟨rfl, rfl⟩)
       go_roundw
       case rel => exact ⟨k + 1, by omega, rfl, HE.out⟩
       case measure => simp; omega
     ·
      have hnx : ∀ ty, (Instr.next (.pointer (some ⟨w.heap.size, 0, none⟩)) true ty).run Tryz.prog (w.iter (B m) k) = _ := fun ty => run_next_any w (B m) k ty hB
      obtain ⟨h1, h2⟩ := decode_high (B m) k hB (by rw [aOe]; omega)
      generalize Utf8.decode (B m) k = dd at hnx h1 h2
      obtain ⟨r, d⟩ := dd
      have hnb : nb r = false := by unfold nb; simp at h1 ⊢; omega
      have e : jN l = 0 := by rw [HS.out]; unfold scan; rw [if_neg (by unfold nb; simp; omega), if_neg oW]
      have HE := Lib.hid e
      have Hb := Lib.hid hnb
      have hne : ((r : Int) == 47) = false := by rw [beq_eq_false_iff_ne]; simp at h1; omega
      clear e hnb h1 h2
      go_wp2_with (go_at_call 170; refine (jC _ _).mono ?_; rw [Hb.out]; rintro e w' ⟨rfl, rfl⟩)
      go_ret
      exact ⟨by rw [HE.out]; rfl, (Below.refl _ _).alloc (Nat.le_refl _) _⟩
    ·
     have hnx : ∀ ty, (Instr.next (.pointer (some ⟨w.heap.size, 0, none⟩)) true ty).run Tryz.prog (w.iter (B m) k) = _ := fun ty => run_next_end w (B m) k ty (by rw [qX]; exact hlt)
     have e : jN l = 0 := by rw [hs, List.drop_of_length_le oW]; rfl
     have HE := Lib.hid e
     clear e hs
     go_wp2
     go_ret
     exact ⟨by rw [HE.out]; rfl, (Below.refl _ _).alloc (Nat.le_refl _) _⟩
  ·
   go_wp2
   go_ret
   exact ⟨by unfold jN; rw [if_neg oW]; rfl, Below.refl _ _⟩

theorem aIq : ∀ (l : List UInt8) (i : Nat), scan l i ≤ i + l.length + 2
 | [], i => by simp [scan]
 | c :: r, i => by
  unfold scan
  have := aIq r (i + 1)
  split
  · simp at this ⊢; omega
  · split <;> simp <;> omega
theorem aK4 (l : List UInt8) : jN l ≤ l.length := by
 unfold jN
 split
 ·
  rename_i h
  have h1 := aCa h.1
  have := aIq (l.drop 2) 0
  simp at this h1
  omega
 · omega
def iP (c : UInt8) : Bool := decide (33 ≤ c.toNat ∧ c.toNat ≤ 126)
def mS (l : List UInt8) : Bool := l == [110, 111, 110, 101] || (jN l != 0 && (l.drop (jN l)).all iP)
set_option maxRecDepth 100000 in
theorem aIV (l : List UInt8) (w : World) (hl : l.length ≤ maxLen) : Calls Tryz.prog 86 #[.string (B l)] w fun e w' => e = .returned (.bool (mS l)) ∧ Below w.heap.size w w' := by
  have hle := aK4 l
  have hl0 := hl
  unfold maxLen at hl
  go_enter Tryz.func86, Tryz.ntmps86
  cases hn : (l == [110, 111, 110, 101])
  · have HN := Lib.hid hn
    go_wp2_with fail
    refine (aK3 _ _ hl0).mono ?_; rintro e w1 ⟨rfl, hb⟩
    cases h0 : ((jN l : Int) == 0)
    · have e : mS l = (l.drop (jN l)).all iP := by
        unfold mS
        rw [HN.out]
        have : (jN l != 0) = true := by rw [bne_iff_ne]; rw [beq_eq_false_iff_ne] at h0; omega
        simp [this]
      obtain ⟨cap, w2, hconv, hcap, hb2, hz2, hc2, -⟩ := aCB (P := Tryz.prog) w1 9 160 5 (l.drop (jN l)) Tryz.underlying9 Tryz.underlying160 Tryz.underlying5
      have hb3 : Below w.heap.size w w2 := hb.trans (hb2.mono hb.size)
      have hm : (l.drop (jN l)).length ≤ 9223372036854775807 := by simp; omega
      generalize jN l = n at *
      generalize hmm : l.drop n = m at *
      have htk : m.take (l.length - n) = m := List.take_of_length_le (by rw [← hmm]; simp)
      have HZ := Lib.hid hz2
      have HE := Lib.hid e
      have HC := Lib.hid hc2
      clear hz2 e hc2 hn
      go_wp2
      clear hmm htk
      go_loop [17] (fun i => ∃ k : Nat, k ≤ m.length ∧ i = .int .i64 k ∧ m.all iP = (m.drop k).all iP) (fun i => m.length - (intOf i).toNat)
      case atStart => exact ⟨0, Nat.zero_le _, rfl, rfl⟩
      case round =>
        obtain ⟨k, hk, rfl, hv⟩ := hrel
        by_cases hlt : k < m.length
        · have hcell := HC.out k hlt
          rw [List.drop_eq_getElem_cons hlt, List.all_cons] at hv
          have HV := Lib.hid hv
          clear hv
          go_wp2
          all_goals first
            | (go_ret; exact ⟨qF (by rw [HE.out, HV.out]; simp [iP]; omega), hb3⟩)
            | (go_round
               case rel => exact ⟨k + 1, by omega, by go_num, by rw [HV.out]; simp [iP]; omega⟩
               case measure => simp [intOf]; omega)
        · go_wp2
          go_ret
          exact ⟨qF (by rw [HE.out, hv, List.drop_of_length_le oW]; simp), hb3⟩
    · have e : mS l = false := by
        unfold mS
        rw [HN.out]
        rw [beq_iff_eq] at h0
        have : jN l = 0 := by omega
        simp [this]
      have HE := Lib.hid e
      clear e
      go_wp2
      go_ret
      exact ⟨by rw [HE.out]; rfl, hb⟩
  · have e : mS l = true := by unfold mS; rw [hn]; rfl
    have HE := Lib.hid e
    clear e
    go_wp2
    go_ret
    exact ⟨by rw [HE.out]; rfl, Below.refl _ _⟩

def gM (s : Int) (l : List UInt8) (n v : Int) : Bool :=
 if s = 1 then decide (n = 0 ∧ v = 0) && mS l else if s = 2 then decide (l = [] ∧ n ≤ 4294967295 ∧ v ≤ 4294967295) else false
theorem aJ3 (s : Int) (l : List UInt8) (n v : Int) (w : World) (hl : l.length ≤ maxLen) : Calls Tryz.prog 37 #[.agg #[.int .i64 s, .string (B l), .int .u64 n, .int .u64 v]] w fun e w' => e = .returned (.bool (gM s l n v)) ∧ Below w.heap.size w w' := by
 go_enter Tryz.func37, Tryz.ntmps37
 by_cases h1 : s = 1
 ·
  subst h1
  have e : gM 1 l n v = (decide (n = 0 ∧ v = 0) && mS l) := rfl
  have HE := Lib.hid e
  clear e
  cases hn : (n == 0)
  ·
   go_wp2
   go_ret
   exact ⟨by rw [HE.out]; rw [beq_eq_false_iff_ne] at hn; simp [hn], (Below.refl _ _).alloc (Nat.le_refl _) _⟩
  ·
   cases hv : (v == 0)
   ·
    go_wp2
    go_ret
    exact ⟨by rw [HE.out]; rw [beq_eq_false_iff_ne] at hv; simp [hv], (Below.refl _ _).alloc (Nat.le_refl _) _⟩
   ·
    go_wp2_with (go_at_call 86; refine (aIV _ _ hl).mono ?_; rintro e w1 ⟨rfl, hb⟩)
    go_ret
    exact ⟨by rw [HE.out]; rw [beq_iff_eq] at hn hv; simp [hn, hv], ((Below.refl _ _).alloc (Nat.le_refl _) _).trans (hb.mono (by simp))⟩
 ·
  by_cases h2 : s = 2
  ·
   subst h2
   go_wp2
   all_goals
    go_ret
    exact ⟨qF (by simp [gM, *]; try omega), (Below.refl _ _).alloc (Nat.le_refl _) _⟩
  ·
   go_wp2
   go_ret
   exact ⟨by unfold gM; rw [if_neg h1, if_neg h2]; rfl, (Below.refl _ _).alloc (Nat.le_refl _) _⟩
theorem aLB (w : World) : Calls Tryz.prog 223 #[] w fun e w' => e = .returned (.agg #[.int .i64 1, .string (B [110, 111, 110, 101]), .int .u64 0, .int .u64 0]) ∧ Below w.heap.size w w' := by
 go_enter Tryz.func223, Tryz.ntmps223
 go_wp2
 exact bodyPost_ret (v := .agg #[.int .i64 1, .string (B [110, 111, 110, 101]), .int .u64 0, .int .u64 0]) (by simp [results, Tryz.results223, go_sem]; rfl) rfl ⟨rfl, by ((repeat' (with_reducible first | exact Below.refl _ _ | assumption | refine Below.drew ?_ | refine below_drewN ?_ _ | refine Below.setCell ?_ ?_ _ | refine Below.alloc ?_ ?_ _ | refine Below.ext ?_ ?_ _ | refine Below.trans ?_ (Below.mono ‹_› ?_))) <;> first | omega | (simp; done) | (simp; omega))⟩
end Go.Proofs.YtcdjakemdlinhaaGreatDoor.Eid
namespace Go.Proofs.YtcdjakemdlinhaaGreatDoor.Sx
open Go.ChangeShapes Go.WideShapes Go.ChangeAt Go.RowKit Go.Deep
def aX (e : Ei) : Bool := Eid.gM e.s e.l e.n e.v
theorem iW (e : Ei) (w : World) (h : e.l.length ≤ R47) : CP 37 #[e.V] w (Ret (.bool (aX e)) w) := Eid.aJ3 _ _ _ _ w (by unfold R47 at h; unfold maxLen; omega)
def Ei.none : Ei := ⟨1, [110, 111, 110, 101], 0, 0⟩
theorem mZ (w : World) : CP 223 #[] w (Ret Ei.none.V w) := Eid.aLB w
def big (n : Nat) : Bool := decide ((n : Int) > 1099511627776)
def dS (p : Pr) : Bool := !big p.time && !big p.seq && !big p.life && !big p.off && !big p.tot && aX p.dst && aX p.src && aX p.rpt && decide (p.c ≥ 0) && decide (p.c ≤ 2) && decide ((p.f : Int) < 2097152)
theorem aFi (p : Pr) (w : World) (h : p.ok) : CP 222 #[p.V] w (Ret (.bool (dS p)) w) := by
 refine dK 52 Tryz.func222 ?_
 refine zs (zr (cJ (fun b0 => (zq 1 (zn (zs (zB [0,1,0,1,0,1,0,1,0,1] [(b0,1),(b0,1),(b0,1),(b0,1),(b0,1)] (cJ (fun b1 => (zq 2 (zn (aB (gX (α := Nat) (fun x => match x with | 0 => [1,2,15,16,17].zip [(Pt b0 0),(.bool false),(Sl b1 0 5 5),(I6 5),(I6 0)] | 1 => [1,2,15,16,17].zip [(Pt b0 0),(.bool false),(Sl b1 0 5 5),(I6 5),(I6 1)] | 2 => [1,2,15,16,17].zip [(Pt b0 0),(.bool false),(Sl b1 0 5 5),(I6 5),(I6 2)] | 3 => [1,2,15,16,17].zip [(Pt b0 0),(.bool false),(Sl b1 0 5 5),(I6 5),(I6 3)] | 4 => [1,2,15,16,17].zip [(Pt b0 0),(.bool false),(Sl b1 0 5 5),(I6 5),(I6 4)] | _ => [1,2,15,16,17].zip [(Pt b0 0),(.bool false),(Sl b1 0 5 5),(I6 5),(I6 5)]) (fun _ => View.no) (fun x => [(bK b0 p.cs 26),(bK b1 [(N6 p.time),(N6 p.seq),(N6 p.life),(N6 p.off),(N6 p.tot)] 22)]) (fun x => x ≤ 5 ∧ (0 < x → (decide ((p.time : Int) > 1099511627776)) = false) ∧ (1 < x → (decide ((p.seq : Int) > 1099511627776)) = false) ∧ (2 < x → (decide ((p.life : Int) > 1099511627776)) = false) ∧ (3 < x → (decide ((p.off : Int) > 1099511627776)) = false) ∧ (4 < x → (decide ((p.tot : Int) > 1099511627776)) = false)) (fun x => 5 - x) 0 ⟨by omega,fun h => absurd h oW,fun h => absurd h oW,fun h => absurd h oW,fun h => absurd h oW,fun h => absurd h oW⟩ ?_)))))))))))))
 rintro x ⟨hx,hc0_0,hc1_0,hc2_0,hc3_0,hc4_0⟩
 rcases (by omega : x = 0 ∨ x = 1 ∨ x = 2 ∨ x = 3 ∨ x = 4 ∨ x = 5) with rfl | rfl | rfl | rfl | rfl | rfl
 ·
  refine zQ 1 (zn (zs (dF (zk (zs (aB (zB [0,2,0] [(b1,1)] (zn (zQ 2 (zn (cD (decide ((p.time : Int) > 1099511627776)) (fun h0 => ?_) (fun h0 => ?_))))))))))))
  ·
   refine zQ 1 (zn (aA (aH [2] [(.bool false)] (fun W' hM => ?_))))
   exact ⟨by simp only [cG,dS,big,h0,bs,bQ,reduceIte],hM.below⟩
  ·
   have h0d := of_decide_eq_false h0
   refine zk (zr (zq 2 (zn ?_)))
   refine nx 1 ⟨by omega,fun _ => h0,fun h => absurd h oW,fun h => absurd h oW,fun h => absurd h oW,fun h => absurd h oW⟩ (by show 5 - 1 < 5 - 0; omega)
 ·
  refine zQ 1 (zn (zs (dF (zk (zs (aB (zB [0,2,0] [(b1,1)] (zn (zQ 2 (zn (cD (decide ((p.seq : Int) > 1099511627776)) (fun h1 => ?_) (fun h1 => ?_))))))))))))
  ·
   have h1d := of_decide_eq_true h1
   refine zQ 1 (zn (aA (aH [2] [(.bool false)] (fun W' hM => ?_))))
   exact ⟨by simp only [cG,dS,big,(hc0_0 oW),h1,bs,bQ,reduceIte],hM.below⟩
  ·
   have h1d := of_decide_eq_false h1
   refine zk (zr (zq 2 (zn ?_)))
   refine nx 2 ⟨by omega,fun _ => hc0_0 oW,fun _ => h1,fun h => absurd h oW,fun h => absurd h oW,fun h => absurd h oW⟩ (by show 5 - 2 < 5 - 1; omega)
 ·
  refine zQ 1 (zn (zs (dF (zk (zs (aB (zB [0,2,0] [(b1,1)] (zn (zQ 2 (zn (cD (decide ((p.life : Int) > 1099511627776)) (fun h2 => ?_) (fun h2 => ?_))))))))))))
  ·
   have h2d := of_decide_eq_true h2
   refine zQ 1 (zn (aA (aH [2] [(.bool false)] (fun W' hM => ?_))))
   exact ⟨by simp only [cG,dS,big,(hc0_0 oW),(hc1_0 oW),h2,bs,bQ,reduceIte],hM.below⟩
  ·
   have h2d := of_decide_eq_false h2
   refine zk (zr (zq 2 (zn ?_)))
   refine nx 3 ⟨by omega,fun _ => hc0_0 oW,fun _ => hc1_0 oW,fun _ => h2,fun h => absurd h oW,fun h => absurd h oW⟩ (by show 5 - 3 < 5 - 2; omega)
 ·
  refine zQ 1 (zn (zs (dF (zk (zs (aB (zB [0,2,0] [(b1,1)] (zn (zQ 2 (zn (cD (decide ((p.off : Int) > 1099511627776)) (fun h3 => ?_) (fun h3 => ?_))))))))))))
  ·
   have h3d := of_decide_eq_true h3
   refine zQ 1 (zn (aA (aH [2] [(.bool false)] (fun W' hM => ?_))))
   exact ⟨by simp only [cG,dS,big,(hc0_0 oW),(hc1_0 oW),(hc2_0 oW),h3,bs,bQ,reduceIte],hM.below⟩
  ·
   have h3d := of_decide_eq_false h3
   refine zk (zr (zq 2 (zn ?_)))
   refine nx 4 ⟨by omega,fun _ => hc0_0 oW,fun _ => hc1_0 oW,fun _ => hc2_0 oW,fun _ => h3,fun h => absurd h oW⟩ (by show 5 - 4 < 5 - 3; omega)
 ·
  refine zQ 1 (zn (zs (dF (zk (zs (aB (zB [0,2,0] [(b1,1)] (zn (zQ 2 (zn (cD (decide ((p.tot : Int) > 1099511627776)) (fun h4 => ?_) (fun h4 => ?_))))))))))))
  ·
   have h4d := of_decide_eq_true h4
   refine zQ 1 (zn (aA (aH [2] [(.bool false)] (fun W' hM => ?_))))
   exact ⟨by simp only [cG,dS,big,(hc0_0 oW),(hc1_0 oW),(hc2_0 oW),(hc3_0 oW),h4,bs,bQ,reduceIte],hM.below⟩
  ·
   have h4d := of_decide_eq_false h4
   refine zk (zr (zq 2 (zn ?_)))
   refine nx 5 ⟨by omega,fun _ => hc0_0 oW,fun _ => hc1_0 oW,fun _ => hc2_0 oW,fun _ => hc3_0 oW,fun _ => h4⟩ (by show 5 - 5 < 5 - 4; omega)
 ·
  refine zQ 1 (zn (zs (dE (aU (zB [0,1] [(b0,4)] (dL (fun W hM => iW p.dst W h.dst.l) (zq 1 (aK 27 (aX p.dst) (fun h5 => ?_) (fun h5 => ?_)))))))))
  ·
   refine cU [0,1] [(b0,4)] (dL (fun W hM => iW p.src W h.src.l) (zq 2 (aK 32 (aX p.src) (fun h6 => ?_) (fun h6 => ?_))))
   ·
    refine cU [0,1] [(b0,4)] (dL (fun W hM => iW p.rpt W h.rpt.l) (zq 2 (aK 37 (aX p.rpt) (fun h7 => ?_) (fun h7 => ?_))))
    ·
     refine cU [0,1,0,0,0] [(b0,1)] (aK 42 (decide (p.c ≥ 0)) (fun h8 => ?_) (fun h8 => ?_))
     ·
      have h8d := of_decide_eq_true h8
      refine cU [0,1,0,0,0] [(b0,1)] (aK 47 (decide (p.c ≤ 2)) (fun h9 => ?_) (fun h9 => ?_))
      ·
       have h9d := of_decide_eq_true h9
       refine cU [0,1,0,0,0] [(b0,1)] (zn (aA (aH [2] [(.bool (decide ((p.f : Int) < 2097152)))] (fun W' hM => ?_))))
       exact ⟨by simp only [cG,dS,big,(hc0_0 oW),(hc1_0 oW),(hc2_0 oW),(hc3_0 oW),(hc4_0 oW),h5,h6,h7,h8,h9,bs,bQ,reduceIte],hM.below⟩
      ·
       have h9d := of_decide_eq_false h9
       refine zq 5 (zn (aA (aH [2] [(.bool false)] (fun W' hM => ?_))))
       exact ⟨by simp only [cG,dS,big,(hc0_0 oW),(hc1_0 oW),(hc2_0 oW),(hc3_0 oW),(hc4_0 oW),h5,h6,h7,h8,h9,bs,bQ,reduceIte],hM.below⟩
     ·
      have h8d := of_decide_eq_false h8
      refine zq 10 (zn (aA (aH [2] [(.bool false)] (fun W' hM => ?_))))
      exact ⟨by simp only [cG,dS,big,(hc0_0 oW),(hc1_0 oW),(hc2_0 oW),(hc3_0 oW),(hc4_0 oW),h5,h6,h7,h8,bs,bQ,reduceIte],hM.below⟩
    ·
     refine zq 15 (zn (aA (aH [2] [(.bool false)] (fun W' hM => ?_))))
     exact ⟨by simp only [cG,dS,big,(hc0_0 oW),(hc1_0 oW),(hc2_0 oW),(hc3_0 oW),(hc4_0 oW),h5,h6,h7,bs,bQ,reduceIte],hM.below⟩
   ·
    refine zq 20 (zn (aA (aH [2] [(.bool false)] (fun W' hM => ?_))))
    exact ⟨by simp only [cG,dS,big,(hc0_0 oW),(hc1_0 oW),(hc2_0 oW),(hc3_0 oW),(hc4_0 oW),h5,h6,bs,bQ,reduceIte],hM.below⟩
  ·
   refine zq 25 (zn (aA (aH [2] [(.bool false)] (fun W' hM => ?_))))
   exact ⟨by simp only [cG,dS,big,(hc0_0 oW),(hc1_0 oW),(hc2_0 oW),(hc3_0 oW),(hc4_0 oW),h5,bs,bQ,reduceIte],hM.below⟩
def aO (p : Pr) : Int :=
 if !dS p then 1
 else if (gC .u64 p.f 1 != 0) && (gC .u64 p.f 4 != 0) then 8
 else if (!(gC .u64 p.f 1 != 0)) && (((p.off : Int) != 0) || ((p.tot : Int) != 0)) then 8
 else if (gC .u64 p.f 1 != 0) && decide ((p.off : Int) ≥ (p.tot : Int)) then 8
 else if decide (p.src.s = 1 ∧ p.src.l = [110, 111, 110, 101] ∧ (p.src.n : Int) = 0 ∧ (p.src.v : Int) = 0) && ((gC .u64 p.f 278528 != 0) || (gC .u64 p.f 4 == 0)) then 8
 else if (gC .u64 p.f 278528 != 0) && (gC .u64 p.f 2 != 0) then 8 else 0
theorem qI (p : Pr) (w : World) (h : p.ok) : CP 191 #[p.V] w (Ret (.int .i64 (aO p)) w) := by
 refine dK 68 Tryz.func191 ?_
 refine zs (zr (cJ (fun b0 => (zq 1 (zn (zs ?_))))))
 refine gU 0 [0,3,0,0,0,3,0,0,0] [(b0,1),(b0,1)] [] trivial ?_
 refine zq 1 (zn (zs (aB (zB [1] [(b0,19)] (dL (fun W hM => aFi p W h) (zq 2 (zn (cD (!(dS p)) (fun h0 => ?_) (fun h0 => ?_)))))))))
 ·
  refine zQ 1 (zn (aA (aH [2] [(I6 1)] (fun W' hM => ?_))))
  exact ⟨by simp only [cG,aO,h0,bs,bQ,reduceIte],hM.below⟩
 ·
  refine zQ 2 (aK 19 ((gC .u64 (p.f : Int) 1) != 0) (fun h1 => ?_) (fun h1 => ?_))
  ·
   refine cU [0,1,0,0,0,0] [(b0,1)] (zn (cD ((gC .u64 (p.f : Int) 4) != 0) (fun h2 => ?_) (fun h2 => ?_)))
   ·
    refine zQ 1 (zn (aA (aH [2] [(I6 8)] (fun W' hM => ?_))))
    exact ⟨by simp only [cG,aO,h0,h1,h2,bs,bQ,reduceIte],hM.below⟩
   ·
    refine zs (zQ 3 (eE 28 (.bool (!((gC .u64 (p.f : Int) 1) != 0))) (.bool false) (congrArg Value.bool (by rw [h1]; rfl)) ?_))
    refine zq 10 (zn (dE (zr (zq 2 (eE 39 (.bool ((gC .u64 (p.f : Int) 1) != 0)) (.bool true) (congrArg Value.bool h1) ?_)))))
    refine cU [0,1,0,1,0,0,0] [(b0,1),(b0,1)] (zn (cD (decide ((p.off : Int) ≥ (p.tot : Int))) (fun h3 => ?_) (fun h3 => ?_)))
    ·
     refine zQ 1 (zn (aA (aH [2] [(I6 8)] (fun W' hM => ?_))))
     exact ⟨by simp only [cG,aO,h0,h1,h2,h3,bs,bQ,reduceIte],hM.below⟩
    ·
     refine zs ?_
     refine gU 4 [0,3,1] [(b0,4)] [.val (.agg #[(I6 1),(St [110,111,110,101]),(U6 0),(U6 0)])] ⟨?_,trivial⟩ ?_
     · exact vC 223 #[] (fun W hM => mZ W)
     refine cH (.bool (decide (p.src.s = 1 ∧ p.src.l = [110,111,110,101] ∧ (p.src.n : Int) = 0 ∧ (p.src.v : Int) = 0))) (aFW _ _ _ rfl _ _ _ _ _ _ _ _ kR kR) ?_
     refine zq 1 (aK 51 (decide (p.src.s = 1 ∧ p.src.l = [110,111,110,101] ∧ (p.src.n : Int) = 0 ∧ (p.src.v : Int) = 0)) (fun h4 => ?_) (fun h4 => ?_))
     ·
      refine zq 2 (aK 53 ((gC .u64 (p.f : Int) 278528) != 0) (fun h5 => ?_) (fun h5 => ?_))
      ·
       refine zq 7 (zn (dF (zQ 1 (zn (aA (aH [2] [(I6 8)] (fun W' hM => ?_)))))))
       exact ⟨by simp only [cG,aO,h0,h1,h2,h3,h4,h5,bs,bQ,reduceIte],hM.below⟩
      ·
       refine cU [0,1,0,0,0,0,0] [(b0,1)] (zn (cD ((gC .u64 (p.f : Int) 4) == 0) (fun h6 => ?_) (fun h6 => ?_)))
       ·
        refine zQ 1 (zn (aA (aH [2] [(I6 8)] (fun W' hM => ?_))))
        exact ⟨by simp only [cG,aO,h0,h1,h2,h3,h4,h5,h6,bs,bQ,reduceIte],hM.below⟩
       ·
        refine zQ 2 (eE 62 (.bool ((gC .u64 (p.f : Int) 278528) != 0)) (.bool false) (congrArg Value.bool h5) ?_)
        refine zq 6 (zn (dE (zk (zQ 1 (zn (aA (aH [2] [(I6 0)] (fun W' hM => ?_))))))))
        exact ⟨by simp only [cG,aO,h0,h1,h2,h3,h4,h5,h6,bs,bQ,reduceIte],hM.below⟩
     ·
      refine zq 9 (zn (dE (zQ 2 (aK 62 ((gC .u64 (p.f : Int) 278528) != 0) (fun h7 => ?_) (fun h7 => ?_)))))
      ·
       refine cU [0,1,0,0,0,0] [(b0,1)] (zn (cD ((gC .u64 (p.f : Int) 2) != 0) (fun h8 => ?_) (fun h8 => ?_)))
       ·
        refine zQ 1 (zn (aA (aH [2] [(I6 8)] (fun W' hM => ?_))))
        exact ⟨by simp only [cG,aO,h0,h1,h2,h3,h4,h7,h8,bs,bQ,reduceIte],hM.below⟩
       ·
        refine zk (zQ 1 (zn (aA (aH [2] [(I6 0)] (fun W' hM => ?_)))))
        exact ⟨by simp only [cG,aO,h0,h1,h2,h3,h4,h7,h8,bs,bQ,reduceIte],hM.below⟩
      ·
       refine zq 6 (zn (dE (zk (zQ 1 (zn (aA (aH [2] [(I6 0)] (fun W' hM => ?_))))))))
       exact ⟨by simp only [cG,aO,h0,h1,h2,h3,h4,h7,bs,bQ,reduceIte],hM.below⟩
  ·
   refine zq 6 (zn (dE (zs (zQ 3 (eE 28 (.bool (!((gC .u64 (p.f : Int) 1) != 0))) (.bool true) (congrArg Value.bool (by rw [h1]; rfl)) ?_)))))
   refine cU [0,1,0,0] [(b0,1)] (aK 32 ((p.off : Int) != 0) (fun h9 => ?_) (fun h9 => ?_))
   ·
    refine zq 6 (zn (dF (zk (dF (zQ 1 (zn (aA (aH [2] [(I6 8)] (fun W' hM => ?_)))))))))
    exact ⟨by simp only [cG,aO,h0,h1,h9,bs,bQ,reduceIte],hM.below⟩
   ·
    refine cU [0,1,0,0,0,0] [(b0,1)] (zn (cD ((p.tot : Int) != 0) (fun h10 => ?_) (fun h10 => ?_)))
    ·
     refine zk (gP ((p.tot : Int) != 0) h10 ?_)
     refine zQ 1 (zn (aA (aH [2] [(I6 8)] (fun W' hM => ?_))))
     exact ⟨by simp only [cG,aO,h0,h1,h10,h9,bs,bQ,reduceIte],hM.below⟩
    ·
     refine zr (zq 2 (eE 39 (.bool ((gC .u64 (p.f : Int) 1) != 0)) (.bool false) (congrArg Value.bool h1) ?_))
     refine zq 7 (zn (dE (zs ?_)))
     refine gU 4 [0,3,1] [(b0,4)] [.val (.agg #[(I6 1),(St [110,111,110,101]),(U6 0),(U6 0)])] ⟨?_,trivial⟩ ?_
     · exact vC 223 #[] (fun W hM => mZ W)
     refine cH (.bool (decide (p.src.s = 1 ∧ p.src.l = [110,111,110,101] ∧ (p.src.n : Int) = 0 ∧ (p.src.v : Int) = 0))) (aFW _ _ _ rfl _ _ _ _ _ _ _ _ kR kR) ?_
     refine zq 1 (aK 51 (decide (p.src.s = 1 ∧ p.src.l = [110,111,110,101] ∧ (p.src.n : Int) = 0 ∧ (p.src.v : Int) = 0)) (fun h11 => ?_) (fun h11 => ?_))
     ·
      refine zq 2 (aK 53 ((gC .u64 (p.f : Int) 278528) != 0) (fun h12 => ?_) (fun h12 => ?_))
      ·
       refine zq 7 (zn (dF (zQ 1 (zn (aA (aH [2] [(I6 8)] (fun W' hM => ?_)))))))
       exact ⟨by simp only [cG,aO,h0,h1,h10,h11,h12,h9,bs,bQ,reduceIte],hM.below⟩
      ·
       refine cU [0,1,0,0,0,0,0] [(b0,1)] (zn (cD ((gC .u64 (p.f : Int) 4) == 0) (fun h13 => ?_) (fun h13 => ?_)))
       ·
        refine zQ 1 (zn (aA (aH [2] [(I6 8)] (fun W' hM => ?_))))
        exact ⟨by simp only [cG,aO,h0,h1,h10,h11,h12,h13,h9,bs,bQ,reduceIte],hM.below⟩
       ·
        refine zQ 2 (eE 62 (.bool ((gC .u64 (p.f : Int) 278528) != 0)) (.bool false) (congrArg Value.bool h12) ?_)
        refine zq 6 (zn (dE (zk (zQ 1 (zn (aA (aH [2] [(I6 0)] (fun W' hM => ?_))))))))
        exact ⟨by simp only [cG,aO,h0,h1,h10,h11,h12,h13,h9,bs,bQ,reduceIte],hM.below⟩
     ·
      refine zq 9 (zn (dE (zQ 2 (aK 62 ((gC .u64 (p.f : Int) 278528) != 0) (fun h14 => ?_) (fun h14 => ?_)))))
      ·
       refine cU [0,1,0,0,0,0] [(b0,1)] (zn (cD ((gC .u64 (p.f : Int) 2) != 0) (fun h15 => ?_) (fun h15 => ?_)))
       ·
        refine zQ 1 (zn (aA (aH [2] [(I6 8)] (fun W' hM => ?_))))
        exact ⟨by simp only [cG,aO,h0,h1,h10,h11,h14,h15,h9,bs,bQ,reduceIte],hM.below⟩
       ·
        refine zk (zQ 1 (zn (aA (aH [2] [(I6 0)] (fun W' hM => ?_)))))
        exact ⟨by simp only [cG,aO,h0,h1,h10,h11,h14,h15,h9,bs,bQ,reduceIte],hM.below⟩
      ·
       refine zq 6 (zn (dE (zk (zQ 1 (zn (aA (aH [2] [(I6 0)] (fun W' hM => ?_))))))))
       exact ⟨by simp only [cG,aO,h0,h1,h10,h11,h14,h9,bs,bQ,reduceIte],hM.below⟩
end Go.Proofs.YtcdjakemdlinhaaGreatDoor.Sx
namespace Go.Proofs.YtcdjakemdlinhaaGreatDoor.Itm
open Go.ChangeShapes Go.WideShapes Go.ChangeAt Go.RowKit
def aFt : Nat → Tr → Nat
 | 0, _ => 1
 | m + 1, t => t.l.foldl (fun n x => max n (aFt m x)) 0 + 1
theorem aAO {w : World} {t : Tr} {cs : List Value} (h : TAt w t cs) : ∃ (a : Option Addr) (c : Nat) (C : Nat → List Value), cs = [.int .i64 t.k, .int .u64 t.n, .string (B t.s), .slice a t.l.length c, .bool t.o] ∧ t.n < W64 ∧ t.s.length ≤ R47 ∧ t.l.length ≤ R47 ∧
  (∀ i x, t.l[i]? = some x → ∃ b f, a = some ⟨b, f, none⟩ ∧ b < w.heap.size ∧ w.rangeAt b (f + i * 5) (C i) ∧ TAt w x (C i) ∧ (C i).length = 5) := by
 obtain ⟨a, c, C, rfl, hn, hs, hl, hat, hel⟩ := h.form
 refine ⟨a, c, C, rfl, hn, hs, hl, fun i x hx => ?_⟩
 obtain ⟨b, f, hb, hbl, hr⟩ := hat i (List.getElem?_eq_some_iff.1 hx).1
 refine ⟨b, f, hb, hbl, hr, hel i x hx, ?_⟩
 obtain ⟨_, _, _, hc, _⟩ := (hel i x hx).form
 rw [hc]; rfl
mutual
def szT : Tr → Nat
 | .mk _ _ s l _ => 1 + s.length + szL l
def szL : List Tr → Nat
 | [] => 0
 | t :: ts => szT t + szL ts
end
theorem qD : ∀ a b, szL (a ++ b) = szL a + szL b
 | [], b => by simp [szL]
 | x :: a, b => by rw [List.cons_append, szL, szL, qD a b]; omega
theorem aKl {l : List Tr} {i : Nat} {x : Tr} (h : l[i]? = some x) : szL (l.take (i + 1)) = szL (l.take i) + szT x := by
 rw [List.take_add_one, h, qD]
 simp [szL]
end Go.Proofs.YtcdjakemdlinhaaGreatDoor.Itm
