/-
  Several texts in one: Rd1 Sx14 Sx15 Sx16 Rel3 Sx17 Sx18 Sx19 Sx20 Rd2 Rd3 Rd4 Rd5 Rd6 Ps1.
  Conditions: named at each.
-/
import Derived.Test.YtcdjakemdlinhaaGreatDoorG05
import Derived.LaidEql
import Derived.Stop.Asserts
import Derived.Stop.IfaceNil
set_option maxHeartbeats 16000000
set_option linter.unusedSimpArgs false
set_option linter.unusedVariables false
set_option linter.unusedSectionVars false
namespace Go.Proofs.YtcdjakemdlinhaaGreatDoor.Sx
open Go.ChangeShapes Go.WideShapes Go.ChangeAt Go.RowKit Go.Deep
structure Rd where
 b : List UInt8
 at_ : Nat
 bad : Int
 e : Int
 frm : Nat
def Rd.cs (r : Rd) : List Value := [.string (B r.b), .int .i64 (r.at_ : Int), .int .i64 r.bad, .int .i64 r.e, .int .i64 (r.frm : Int)]
def Rd.O (r : Rd) : Obj := .cells r.cs.toArray 297 (0, 0)
def Rd.new (b : List UInt8) : Rd := ⟨b, 0, -1, 0, 0⟩
theorem sL {σ : aF} (l1 l2 : aF) (x : Nat × Obj) (e : σ = l1 ++ x :: l2) : σ.Perm ([x] ++ (l1 ++ l2)) := by
 subst e
 exact List.perm_middle
theorem aKB {W0 : Cx} {U V : View} {σ σ' σF : aF} {Φ : Value → View → aF → Prop} {v : Value} {W' : World} (hM : Mem W0 V σ W') (hσ : (σ' ++ σF).Sublist σ) (hl : View.le U V) (h : Φ v V σ') : fN W0 U σF Φ (.returned v) W' := ⟨v, V, σ', rfl, hl, hM.sub hσ, h⟩
def aOm (rd : Rd) (v : Value) (σ : aF) : Prop := ∃ r, v = .pointer (some ⟨r, 0, none⟩) ∧ σ = [(r, rd.O)]
theorem aC2 (l : List UInt8) {W0 : Cx} {U : View} {σF : aF} {W : World} (hM : Mem W0 U ([] ++ σF) W) : CP 237 #[.string (B l)] W (fN W0 U σF fun v V σ' => aOm (Rd.new l) v σ') := by
 refine eC 6 Tryz.func237 hM ?_
 refine zQ 1 (zn (zQ 2 (dN 0 (fun b0 => ?_))))
 refine zq 1 (zn (aA (aH [2] [(Pt b0 0)] (fun W' hM => ?_))))
 exact dJ (σ' := [(bK b0 [(St l),(I6 0),(I6 (-1)),(I6 0),(I6 0)] 297)]) hM (View.le_refl _) ⟨_,rfl,rfl⟩
def Rd.fail (r : Rd) (e : Int) : Rd := if r.e == 0 then ⟨r.b, r.frm, (r.frm : Int), e, r.frm⟩ else r
theorem eN (rd : Rd) (e : Int) (r : Nat) {W0 : Cx} {U : View} {σF : aF} {W : World} (hM : Mem W0 U ([(r, rd.O)] ++ σF) W) : CP 241 #[.pointer (some ⟨r, 0, none⟩), .int .i64 e] W (fN W0 U σF fun v V σ' => v = cG [] ∧ σ' = [(r, (rd.fail e).O)]) := by
 have hM2 : Mem W0 U ([(bK r [(St rd.b),(I6 (rd.at_ : Int)),(I6 rd.bad),(I6 rd.e),(I6 (rd.frm : Int))] 297)] ++ σF) W := hM.eqv kR
 refine eC 27 Tryz.func241 hM2 ?_
 refine zB [0,0,0,1,0] [(r,1)] (zn (cD (rd.e == 0) (fun h0 => ?_) (fun h0 => ?_)))
 ·
  refine zB [0,0,0,0,1,0,0] [(r,1)] (aY 0 r (zn (zr (cU [0,0,0,0,0,1,0,0,0] [(r,1)] (aY 0 r (zq 2 (aY 0 r (zn ?_))))))))
  refine rY [] [] rfl trivial (fun W' hM => ?_)
  exact dJ (σ' := [(bK r [(St rd.b),(I6 (rd.frm : Int)),(I6 (rd.frm : Int)),(I6 e),(I6 (rd.frm : Int))] 297)]) hM (View.le_refl _) ⟨rfl,by simp only [Rd.fail,h0,if_true,Bool.false_eq_true,if_false]; rfl⟩
 ·
  refine zk ?_
  refine rY [] [] rfl trivial (fun W' hM => ?_)
  exact dJ (σ' := [(bK r [(St rd.b),(I6 (rd.at_ : Int)),(I6 rd.bad),(I6 rd.e),(I6 (rd.frm : Int))] 297)]) hM (View.le_refl _) ⟨rfl,by simp only [Rd.fail,h0,if_true,Bool.false_eq_true,if_false]; rfl⟩
theorem aOp (l : List UInt8) : (B l).size = l.length := by simp [B, ByteArray.size]
section
variable {P : Program} {s : cB} {o : Oper}
theorem lK (t : TypeId) (x : Operand) (lo hi : Option Operand) (ho : o.op = .slice t x lo hi none) (l : List UInt8) (a b : Nat) (l' : List UInt8) (hx : evS s x = some (.string (B l)))
  (hl : aFD s lo 0 a) (hh : aFD s hi l.length b) (h1 : a ≤ b) (h2 : b ≤ l.length) (el : (l.drop a).take (b - a) = l') (hu : P.underlying t = some .string) (W : World) : (execOp (ev s) o).run P W = .ok (.value (.string (B l'))) W := by
 have bd : ∀ (v y : Nat) (c : BoundsCode), v ≤ y → (Instr.sliceBound (.int .i64 (v : Int)) y c).run P W = .ok v W := fun v y c hv => by
  simp [Instr.sliceBound, asIntOf, Result.andThen]
  intro hc
  omega
 have hb : (Instr.sliceBounds false (B l).size (B l).size (lo.map (ev s)) (hi.map (ev s)) none).run P W = .ok (a, b, l.length) W := by
  unfold aFD at hl hh
  rw [aOp]
  cases hi with
  | none =>
   simp only at hh
   subst hh
   cases lo with
   | some lo' => simp [Instr.sliceBounds, eF hl, bd _ _ _ h1, Result.andThen]
   | none => simp only at hl; subst hl; simp [Instr.sliceBounds, Result.andThen]
  | some ho' =>
   cases lo with
   | some lo' => simp [Instr.sliceBounds, eF hl, eF hh, bd _ _ _ h1, bd _ _ _ h2, Result.andThen]
   | none => simp only at hl; subst hl; simp [Instr.sliceBounds, eF hh, bd _ _ _ h2, Result.andThen]
 have key : (Instr.slice t (.string (B l)) (lo.map (ev s)) (hi.map (ev s)) none).run P W = .ok (.string (B l')) W := by
  simp only [Instr.slice, Sem.run_bind, run_underlying hu, Result.andThen_ok, hb, Sem.run_pure, Option.isSome_none, Bool.false_eq_true, if_false, aJ7, el]
 have key2 : (Instr.sliceAt t (.string (B l)) (lo.map (ev s)) (hi.map (ev s)) none).run P W = .ok (.string (B l')) W := by
  simp only [Instr.sliceAt, Sem.run_bind, run_underlying hu, Result.andThen_ok, key]
 unfold execOp
 simp only [ho, eF hx, Sem.run_bind, Option.map_none, key2, Result.andThen_ok, Sem.run_pure]
theorem jR (t : TypeId) (x ix : Operand) (ho : o.op = .index t x ix) (l : List UInt8) (i : Nat) (k : IntKind) (c : UInt8) (hx : evS s x = some (.string (B l))) (hi : evS s ix = some (.int k (i : Int))) (hc : l[i]? = some c) (hu : P.underlying t = some .string) (W : World) :
  (execOp (ev s) o).run P W = .ok (.value (.int .u8 (c.toNat : Int))) W := by
 obtain ⟨hlt, rfl⟩ := List.getElem?_eq_some_iff.1 hc
 unfold execOp
 simp [ho, eF hx, eF hi, Instr.index, Instr.indexAt, run_underlying hu, asIntOf, Result.andThen, aOp, hlt]
 first | rfl | (simp [B]; rfl)
end
theorem aOC : ∀ c : Fin 256, IntKind.i64.wrap (gC .u8 (c.val : Int) 31) = ((c.val % 32 : Nat) : Int) := by decide +kernel
theorem aN8 : ∀ c : Fin 256, IntKind.i64.wrap ((c.val : Int).fdiv (2 ^ 5)) = ((c.val / 32 : Nat) : Int) := by decide +kernel
theorem lY (c : UInt8) : IntKind.i64.wrap (gC .u8 (c.toNat : Int) 31) = ((c.toNat % 32 : Nat) : Int) := aOC ⟨c.toNat, c.toNat_lt⟩
theorem jF (c : UInt8) : IntKind.i64.wrap ((c.toNat : Int).fdiv (2 ^ 5)) = ((c.toNat / 32 : Nat) : Int) := aN8 ⟨c.toNat, c.toNat_lt⟩
section
variable {P : Program} {n : Nat} {W0 : Cx} {s : cB} {U : View} {σ0 : aF}
structure aOn (W0 : Cx) (U : View) (own σ : aF) (vs : List Sq) (m i : Nat) (Ψ : Value → View → aF → Prop) (L : Nat → Bool) (u : Nat → Value) (w : World) (V : View) (σ' : aF) : Prop where
 le : View.le U V
 mem : Mem W0 V (σ ++ σ') w
 at_ : ∀ j, j < m → L j = true → qE vs j (u j) V
 own : L i = false → σ' = own
 non : L i = true → Ψ (u i) V σ'
end
theorem Mem.freezeRw {W0 : Cx} {U : View} {W : World} {r : Rw} {xs : List Value} {z m : Nat} {σ1 : aF} {e : TypeId} (hM : Mem W0 U (σ1 ++ r.B e xs) W) (hok : r.ok z m xs) : ∃ a c V, View.le U V ∧ qB V a xs ∧ r.V m = .slice a m c ∧ Mem W0 V σ1 W := by
 obtain ⟨h1, h2⟩ := aLP hM
 obtain ⟨a, c, hv⟩ := Rw.form hok
 refine ⟨a, c, U.or (r.W xs), View.le_or _ _, ⟨fun hne => ?_⟩, hv, h1⟩
 cases r with
 | nil => exact absurd hok.2 hne
 | row b cap junk =>
  simp only [Rw.V, Value.slice.injEq, true_and] at hv
  exact ⟨b, hv.1.symm, h2 b cap junk rfl⟩
section
variable {P : Program} {n : Nat} {W0 : Cx} {s : cB} {U : View} {σ0 : aF}
structure NQ (P : Program) (n : Nat) (W0 : Cx) (U : View) (own σ : aF) (ops : Array Oper) (ds : List Nat) (vs : List Sq) (s : cB) (i : Nat) (Ψ : Value → View → aF → Prop) : Prop where
 go : ∃ (o : Oper), ops[i]? = some o ∧ o.guard = none ∧
  ∀ (u : Nat → Value) (V : View), View.le U V → (∀ j, cI .any ops i j = true → gJ vs j (u j) V) → ∀ (a : Act) (W : World), pD n (jZ ops ds vs u i ++ aV s ds) a → Mem W0 V (own ++ σ) W → ∀ (Q : Exit → Act → World → Prop) (K : Act → World → Prop),
   (∀ v W' V' σ2, View.le V V' → Mem W0 V' (σ2 ++ σ) W' → Ψ v V' σ2 → K (a.put o.dst v) W') → o.wp P a W K Q
def ObN (P : Program) (n : Nat) (W0 : Cx) (U : View) (own σ : aF) (ops : Array Oper) (ds : List Nat) (vs : List Sq) (s : cB) (i : Nat) (Ψ : Value → View → aF → Prop) (k : Nat) : Prop :=
 if k = i then NQ P n W0 U own σ ops ds vs s i Ψ else ∀ σ', Oq P n W0 U (σ ++ σ') ops ds vs s k
theorem ObN.o {own σ : aF} {ops : Array Oper} {ds : List Nat} {vs : List Sq} {i : Nat} {Ψ : Value → View → aF → Prop} (k : Nat) (h1 : k ≠ i) (h : ∀ σ', Oq P n W0 U (σ ++ σ') ops ds vs s k) : ObN P n W0 U own σ ops ds vs s i Ψ k := by
 unfold ObN
 rw [if_neg h1]
 exact h
theorem ObN.make {own σ : aF} {ops : Array Oper} {ds : List Nat} {vs : List Sq} {i : Nat} {Ψ : Value → View → aF → Prop} (h : NQ P n W0 U own σ ops ds vs s i Ψ) : ObN P n W0 U own σ ops ds vs s i Ψ i := by
 unfold ObN
 rw [if_pos rfl]
 exact h
def aAv (vf : Nat → Value) (x : Obj) (v : Value) (_ : View) (σ' : aF) : Prop := ∃ b, v = vf b ∧ σ' = [(b, x)]
theorem aDz {id : Nat} {l : List Oper} {Q : XQ} (m f r : Nat) (ds : List Nat) (vs : List Sq) (i : Nat) (own σ : aF) (Ψ : Value → View → aF → Prop) (hσ : σ0.Perm (own ++ σ)) (hm : P.follows .mixedOrders = true) (hsz : l.length = m + f) (hlen : ds.length = m)
  (hds : pB l.toArray ds = true) (hnd : nodupB ds = true) (hlt : (ds.all fun d => Nat.blt d n) = true) (hedge : eQ .any l.toArray m = true) (htail : iY .any l.toArray m r = true) (hchain : fY l.toArray m f = true) (hmo : ∀ q ∈ vs, oZ q)
  (hji : i < m) (Φi : Value → View → Prop) (hvj : vs[i]? = some (.mem Φi)) (hΦ : ∀ v V σ', Ψ v V σ' → Φi v V) (hΨ : ∀ v V V' σ', View.le V V' → Ψ v V σ' → Ψ v V' σ')
  (obs : Go.Proofs.YtcdjakemdlinhaaGreatDoor.Steps (ObN P n W0 U own σ l.toArray ds vs s i Ψ) 0 m)
  (h : ∀ (u : Nat → Value) (V : View) (σ' : aF), View.le U V → (∀ j, j < m → gJ vs j (u j) V) → Ψ (u i) V σ' → SXL P n W0 Q l.toArray (l.drop m) (aDh u 0 ds vs ++ aV s ds) V (σ' ++ σ)) : SXC P n W0 Q (.region id l.toArray true) s U σ0 := by
 refine ⟨fun a W ha hM => ?_⟩
 have hn := iI hnd
 have hd : ∀ d ∈ ds, d < n := fun d hd => by have := List.all_eq_true.1 hlt d hd; simpa [Nat.blt_eq] using this
 have hM1 : Mem W0 U (σ ++ own) W := hM.perm (hσ.trans List.perm_append_comm)
 refine oE m f r ds (fun L u w => ∃ V σ', aOn W0 U own σ vs m i Ψ L u w V σ') hm (by simpa using hsz) hlen hds hnd hedge htail ?_ ?_ ?_
 ·
  intro u
  exact ⟨U, own, ⟨View.le_refl _, hM1.drew, fun j _ hj => by simp at hj, fun _ => rfl, fun hj => by simp at hj⟩⟩
 ·
  rintro k hkm L u w ⟨V, σ', I⟩ hLk hwt hcl K hK
  have hob := obs.get k (Nat.zero_le _) oW
  unfold ObN at hob
  split at hob
  ·
   next hki =>
   subst hki
   have hσ' : σ' = own := I.own hLk
   subst hσ'
   obtain ⟨o, ho, hgd, hgo⟩ := hob.go
   have hr := mQ (a0 := a) (u := u) (V := V) (vs := vs) (ops := l.toArray) k ha hn hd fun j hj => .inl (I.at_ j (hwt j hj).2 (hwt j hj).1)
   unfold wpOp
   simp only [ho, Region.wanted, hgd, if_true]
   left
   refine hgo u V I.le (fun j hj => (I.at_ j (hwt j hj).2 (hwt j hj).1).phi) _ w hr (I.mem.perm List.perm_append_comm) _ _ fun v w' V' σ2 hl hM' hΦ2 => ?_
   have := hK v w' ⟨V', σ2, ⟨View.le_trans I.le hl, hM'.perm List.perm_append_comm, fun j hj hL => ?_, fun hx => ?_, fun _ => ?_⟩⟩
   ·
    rw [ho] at this
    exact this
   ·
    by_cases e : j = k
    ·
     subst e
     rw [if_pos rfl]
     unfold qE
     rw [hvj]
     exact hΦ _ _ _ hΦ2
    ·
     rw [if_neg e] at hL ⊢
     exact (I.at_ j hj hL).le hmo hl
   ·
    rw [if_pos rfl] at hx
    cases hx
   ·
    rw [if_pos rfl]
    exact hΦ2
  ·
   next hki =>
   have hM0 : Mem W0 U (σ ++ σ') w := I.mem.weak I.le
   refine ((hob σ').go a (up n W0 Q) ha hn hd hmo).step u w hM0 (fun j hj => (I.at_ j (hwt j hj).2 (hwt j hj).1).isQ I.mem I.le) K fun v w' hM' hE hv => ?_
   obtain ⟨V', h1, h2, h3⟩ := hv.at hM'
   obtain ⟨q1, q2, q3⟩ := Mem.join (I.mem.call hE) h2
   refine hK v w' ⟨V.or V', σ', ⟨View.le_trans I.le q2, q1, fun j hj hL => ?_, fun hx => ?_, fun hx => ?_⟩⟩
   ·
    by_cases e : j = k
    ·
     subst e
     rw [if_pos rfl]
     exact h3.le hmo q3
    ·
     rw [if_neg e] at hL ⊢
     exact (I.at_ j hj hL).le hmo q2
   ·
    rw [if_neg (fun e => hki e.symm)] at hx
    exact I.own hx
   ·
    rw [if_neg (fun e => hki e.symm)] at hx ⊢
    exact hΨ _ _ _ _ q2 (I.non hx)
 ·
  rintro L u W' ⟨V, σ', I⟩ hL
  refine gZ f m _ W' (by simpa using hsz.symm) hchain ?_
  have hg := fun t => fP ds 0 u a t hn (by rw [ha.size]; exact hd)
  have hph : ∀ j, j < m → gJ vs j (u j) V := fun j hj => (I.at_ j hj (hL j hj)).phi
  refine (h u V σ' I.le hph (I.non (hL i hji))).go _ W' ⟨by rw [(hg 0).2.2.1, ha.size], by rw [(hg 0).2.2.2, ha.defers], fun x v hl => ?_⟩ (I.mem.perm List.perm_append_comm)
  rcases eP _ _ _ _ hl with hl | ⟨_, hl⟩
  ·
   have hmem := iJ _ _ _ hl
   obtain ⟨j, q, hd2, hvq, hq⟩ := lZ u 0 _ _ _ _ hmem
   have hjl : j < ds.length := (List.getElem?_eq_some_iff.1 hd2).1
   rw [(hg x).1 j hd2, Nat.zero_add]
   cases q with
   | val w =>
    simp only at hq
    have := I.at_ j oW (hL j oW)
    unfold qE at this
    rw [hvq] at this
    simp only at this
    rw [this, hq]
   | mem Φ => simp only [Nat.zero_add] at hq; rw [hq]
  ·
   obtain ⟨h1, h2⟩ := eW _ _ _ _ hl
   rw [(hg x).2.1 h1]
   exact ha.slots x v h2
section
variable {own σ : aF} {Ψ : Value → View → aF → Prop}
theorem aHw {id : Nat} {l : List Oper} {Q : XQ} (r i : Nat) (ks : List Nat) (T : List (Nat × Nat)) (tv : List Sq) (own σ : aF) (Ψ : Value → View → aF → Prop) (hσ : σ0.Perm (own ++ σ)) {Φi : Value → View → Prop} (hvi : tlk ks tv i = some (.mem Φi)) (hΦ : ∀ v V σ', Ψ v V σ' → Φi v V) (hΨ : ∀ v V V' σ', View.le V V' → Ψ v V σ' → Ψ v V' σ') (hmo : ∀ q ∈ tv, oZ q)
  (obs : obT (fun k t => (∀ j t, tlk ks tv j = some t → (dvQ P l σ ks tv s)[j]? = some t) → (dvQ P l σ ks tv s)[k]? = some t → ObN P n W0 U own σ l.toArray (dsO l ks.length) (dvQ P l σ ks tv s) s i Ψ k) 0 ks tv)
  (h : ∀ (u : Nat → Value) (V : View) (σ' : aF), View.le U V → (∀ {t : Sq} (j : Nat), tlk ks tv j = some t → aMR t (u j) V) → Ψ (u i) V σ' → SXL P n W0 Q l.toArray (l.drop ks.length) (aDh u 0 (dsO l ks.length) (dvQ P l σ ks tv s) ++ aV s (dsO l ks.length)) V (σ' ++ σ))
  (hT : DqT P l σ ks T tv s := by intro u; kernel_rfl) (hlen : Nat.ble (dvQ P l σ ks tv s).length ks.length = true := by kernel_rfl) (hk : aNY P n l ks.length r = true := by kernel_rfl) : SXC P n W0 Q (.region id l.toArray true) s U σ0 := by
 unfold aNY at hk
 simp only [Bool.and_eq_true] at hk
 obtain ⟨⟨⟨⟨⟨⟨⟨k1, k2⟩, k3⟩, k4⟩, k5⟩, k6⟩, k7⟩, k8⟩ := hk
 have k2 := Nat.le_of_ble_eq_true k2
 have ht := aNz hT k6
 have hik := (aDy hvi).1
 refine aDz ks.length (l.length - ks.length) r (dsO l ks.length) (dvQ P l σ ks tv s) i own σ Ψ hσ k1 oW (aJC k2) k3 k4 k5 k6 k7 k8 (aMC hT k6 (Nat.le_of_ble_eq_true hlen) hmo) (List.getElem?_eq_some_iff.1 hik).1 Φi (ht i _ hvi) hΦ hΨ (aLp hT k6 (fun j hj h => ObN.o j (fun e => hj (e ▸ hik)) fun σ' => h (σ ++ σ') fun k x hx => by rw [List.getElem?_append_left (List.getElem?_eq_some_iff.1 hx).1]; exact hx) ?_) fun u V σ' h1 h2 h3 => h u V σ' h1 (fun {t} j hj => aGD (ht j t hj) (h2 j ((List.getElem?_eq_some_iff.1 (aDy hj).1).1))) h3
 exact sM (fun j t ho => ho ht) _ _ _ obs
variable {ops : Array Oper} {ds ks : List Nat} {tv vs : List Sq} {i : Nat} {Φi : Value → View → Prop}
theorem nO {k : Nat} {t : Sq} (h : ∀ σ', Oqw P n W0 U (σ ++ σ') ops ds ks tv vs s k t) (hne : k ≠ i := by decide) : (∀ j t, tlk ks tv j = some t → vs[j]? = some t) → vs[k]? = some t → ObN P n W0 U own σ ops ds vs s i Ψ k :=
 fun hl hv => ObN.o k hne fun σ' => h σ' hl hv
theorem nC (f : FuncId) (args : (Nat → Value) → Array Value) (h : ∀ (u : Nat → Value) (V : View), View.le U V → aNM ops ks tv u V i → ∀ W, Mem W0 V (own ++ σ) W → Calls P f (args u) W (fN W0 V σ Ψ)) (hi : ops[i]? = some (mY ops i) := by rfl) (hg : (mY ops i).guard = none := by rfl)
  (he : ∀ u, enters P (jZ ops ds vs u i ++ aV s ds) (mY ops i) = some (f, args u) := by intro u; kernel_rfl) : (∀ j t, tlk ks tv j = some t → vs[j]? = some t) → vs[i]? = some (.mem Φi) → ObN P n W0 U own σ ops ds vs s i Ψ i :=
 fun hl _ => ObN.make ⟨_, hi, hg, fun u V hV hd a W ha hM Q K hK => by
  unfold Oper.wp
  rw [iU ha (he u)]
  refine (h u V hV (aDl hl hd) W hM).mono ?_
  rintro _ w' ⟨v, V', σ2, rfl, hl, hM', hΦ2⟩
  exact hK v w' V' σ2 hl hM' hΦ2⟩
theorem nA {x : Obj} {vf : Nat → Value} (hi : ops[i]? = some (mY ops i) := by rfl) (hg : (mY ops i).guard = none := by rfl) (hm : ∀ u, makes P (jZ ops ds vs u i ++ aV s ds) (mY ops i) = some (x, fun r => some (vf r)) := by intro u; kernel_rfl) : (∀ j t, tlk ks tv j = some t → vs[j]? = some t) → vs[i]? = some (.mem Φi) → ObN P n W0 U [] σ ops ds vs s i (aAv vf x) i :=
 fun _ _ => ObN.make ⟨_, hi, hg, fun u V hV hd a W ha hM Q K hK => by
  unfold Oper.wp
  rw [mV ha (hm u)]
  have hM1 : Mem W0 V σ W := hM
  exact hK _ _ V [(W.heap.size, x)] (View.le_refl _) ((hM1.alloc x).perm List.perm_append_comm) ⟨W.heap.size, rfl, rfl⟩⟩
def aKF (e : TypeId) (z m : Nat) (xs : List Value) (N : List Value → View → Prop) (v : Value) (V : View) (σ' : aF) : Prop := ∃ (r : Rw) (news : List Value), N news V ∧ v = r.V m ∧ r.ok z m (xs ++ news) ∧ σ' = r.B e (xs ++ news)
theorem nP (yv : (Nat → Value) → Value) (e t : TypeId) (z bytes k m : Nat) {r : Rw} {xs : List Value} {N : List Value → View → Prop} {x y : Operand} (hok : r.ok z m xs) (h63 : m + k ≤ maxLen) (hby : (m + k) * bytes ≤ 140737488355328)
  (h : ∀ (u : Nat → Value) (V : View), View.le U V → aNM ops ks tv u V i → ∃ b f c news, yv u = .slice (some ⟨b, f, none⟩) k c ∧ V.range b f news ∧ news.length = k * z ∧ (news.all fun u => u.oneCell') = true ∧ N news V) (hi : ops[i]? = some (mY ops i) := by rfl) (hg : (mY ops i).guard = none := by rfl) (ho : (mY ops i).op = .call { callee := .builtin .append, args := #[x, y], argTypes := #[t, t] } := by rfl)
  (hx : ∀ u, evS (jZ ops ds vs u i ++ aV s ds) x = some (r.V m) := by intro u; kernel_rfl) (hy : ∀ u, evS (jZ ops ds vs u i ++ aV s ds) y = some (yv u) := by intro u; kernel_rfl) (hk : 0 < k := by decide)
  (hinf : (P.info? e).map (fun i => (i.size, i.bytes, i.zero.map (·.cells.size))) = some (z, bytes, some z) := by kernel_rfl) (ht : P.underlying t = some (.slice e) := by kernel_rfl) (hz0 : Nat.blt 0 z = true := by kernel_rfl) : (∀ j t, tlk ks tv j = some t → vs[j]? = some t) → vs[i]? = some (.mem Φi) → ObN P n W0 U (r.B e xs) σ ops ds vs s i (aKF e z (m + k) xs N) i :=
 fun hl2 _ => ObN.make ⟨_, hi, hg, fun u V hV hd a W ha hM Q K hK => by
  obtain ⟨b, f, c, news, hyv, hr, hl, h1, hN⟩ := h u V hV (aDl hl2 hd)
  cases hq : P.info? e with
  | none => rw [hq] at hinf; cases hinf
  | some inf =>
   rw [hq] at hinf
   simp only [Option.map_some, Option.some.injEq, Prod.mk.injEq] at hinf
   obtain ⟨h2, h3, h4⟩ := hinf
   obtain ⟨zv, hz1, hz2⟩ := Option.map_eq_some_iff.1 h4
   exact aKE ha hM r xs m [] σ e t z bytes k rfl hok x y ho (hx u) b f c news (by rw [hy u, hyv]) (fun W hM => View.range_of hr hM.view) hl h1 hk h63 hby inf zv ht hq hz1 h2 h3 hz2 (by simpa [Nat.blt_eq] using hz0) fun r' W' q1 q2 => hK _ _ V _ (View.le_refl _) q2 ⟨r', news, hN, rfl, q1, rfl⟩⟩
end
theorem sX {σ : aF} (A B F : aF) (h : σ = (A ++ B) ++ F) : σ.Perm (B ++ (A ++ F)) := h ▸ ((List.perm_append_comm (l₁ := A) (l₂ := B)).append_right F).trans (by rw [List.append_assoc])
theorem aJn {σ : aF} (A B : aF) (h : σ = A ++ B) : σ.Perm (B ++ A) := h ▸ List.perm_append_comm
theorem aKP (A F X : aF) : ((A ++ F) ++ X).Perm ((A ++ X) ++ F) := by
 rw [List.append_assoc, List.append_assoc]
 exact List.Perm.append_left A List.perm_append_comm
end
class RecOk {α : Type} (R : View → α → List Value → Prop) (z : outParam Nat) : Prop where
 le : ∀ {U V : View} {x : α} {cs : List Value}, View.le U V → R U x cs → R V x cs
 len : ∀ {U : View} {x : α} {cs : List Value}, R U x cs → cs.length = z
 one : ∀ {U : View} {x : α} {cs : List Value}, R U x cs → ∀ u ∈ cs, u.oneCell' = true
theorem View.range1 {U : View} {b f i : Nat} {v : Value} (h : U.range b (f + i * 1) [v]) : U ⟨b, f + i, none⟩ = some v := by
 have := h 0 v rfl
 rwa [Nat.mul_one, Nat.add_zero] at this
structure iM {α : Type} (R : View → α → List Value → Prop) (z : Nat) (U : View) (a : Option Addr) (l : List α) : Prop where
 at_ : ∀ i x, l[i]? = some x → ∃ b f cs, a = some ⟨b, f, none⟩ ∧ U.range b (f + i * z) cs ∧ R U x cs
 len : l.length ≤ R47
def qS {α : Type} (R : View → α → List Value → Prop) (V : View) : List (α × List Value) → Prop
 | [] => True
 | p :: r => R V p.1 p.2 ∧ qS R V r
section
variable {α : Type} {R : View → α → List Value → Prop} {z : Nat}
theorem iM.nil {U : View} {a : Option Addr} : iM R z U a [] := ⟨fun i x hx => by simp at hx, by unfold R47; simp⟩
theorem qS.app {V : View} : ∀ {L M : List (α × List Value)}, qS R V L → qS R V M → qS R V (L ++ M)
 | [], _, _, h => h
 | _ :: _, _, ⟨h1, h2⟩, h => ⟨h1, qS.app h2 h⟩
theorem qS.snoc {V : View} {L : List (α × List Value)} {x : α} {cs : List Value} (h : qS R V L) (hx : R V x cs) : qS R V (L ++ [(x, cs)]) := h.app ⟨hx, trivial⟩
end
section
variable {α : Type} {R : View → α → List Value → Prop} {z : Nat} [hR : RecOk R z]
include hR
theorem iM.le {U V : View} (h : View.le U V) {a : Option Addr} {l : List α} (hl : iM R z U a l) : iM R z V a l :=
 ⟨fun i x hx => by obtain ⟨b, f, cs, e, hr, ht⟩ := hl.at_ i x hx; exact ⟨b, f, cs, e, View.range_le h hr, hR.le h ht⟩, hl.len⟩
theorem qS.le {U V : View} (h : View.le U V) : ∀ {L : List (α × List Value)}, qS R U L → qS R V L
 | [], _ => trivial
 | _ :: _, ⟨h1, h2⟩ => ⟨hR.le h h1, qS.le h h2⟩
theorem qS.flat_len {V : View} : ∀ {L : List (α × List Value)}, qS R V L → (L.flatMap Prod.snd).length = L.length * z
 | [], _ => by simp
 | p :: r, ⟨h1, h2⟩ => by rw [List.flatMap_cons, List.length_append, qS.flat_len h2, hR.len h1, List.length_cons, Nat.add_mul]; omega
theorem qS.one {V : View} : ∀ {L : List (α × List Value)}, qS R V L → ∀ u ∈ L.flatMap Prod.snd, u.oneCell' = true
 | [], _, u, hu => by simp at hu
 | p :: r, ⟨h1, h2⟩, u, hu => by
  rw [List.flatMap_cons, List.mem_append] at hu
  rcases hu with hu | hu
  · exact hR.one h1 u hu
  · exact qS.one h2 u hu
theorem qS.get {V : View} : ∀ {L : List (α × List Value)}, qS R V L → ∀ {b f : Nat}, V.range b f (L.flatMap Prod.snd) → ∀ i x, (L.map Prod.fst)[i]? = some x → ∃ cs, V.range b (f + i * z) cs ∧ R V x cs
 | [], _, b, f, _, i, x, h => by simp at h
 | p :: r, ⟨h1, h2⟩, b, f, hr, i, x, h => by
  rw [List.flatMap_cons] at hr
  obtain ⟨r1, r2⟩ := fD hr
  cases i with
  | zero =>
   simp only [List.map_cons, List.getElem?_cons_zero, Option.some.injEq] at h
   subst h
   exact ⟨p.2, by simpa using r1, h1⟩
  | succ i =>
   simp only [List.map_cons, List.getElem?_cons_succ] at h
   obtain ⟨cs, c1, c2⟩ := qS.get h2 r2 i x h
   refine ⟨cs, ?_, c2⟩
   rw [hR.len h1] at c1
   rw [show f + (i + 1) * z = f + z + i * z by rw [Nat.add_mul]; omega]
   exact c1
theorem iM.lit {V : View} {b f : Nat} (L : List (α × List Value)) (hr : V.range b f (L.flatMap Prod.snd)) (ht : qS R V L) (hl : (L.map Prod.fst).length ≤ R47) : iM R z V (some ⟨b, f, none⟩) (L.map Prod.fst) :=
 ⟨fun i x hx => by obtain ⟨cs, h1, h2⟩ := ht.get hr i x hx; exact ⟨b, f, cs, rfl, h1, h2⟩, hl⟩
theorem iM.ofRow (hz : 0 < z) {V : View} {a : Option Addr} {xs : List Value} (L : List (α × List Value)) (hr : qB V a xs) (hxs : xs = L.flatMap Prod.snd) (h : qS R V L) (l : List α) (hl : L.map Prod.fst = l) (hlen : l.length ≤ R47) : iM R z V a l := by
 subst hxs hl
 refine ⟨fun i x hx => ?_, hlen⟩
 have hne : L.flatMap Prod.snd ≠ [] := by
  intro he
  have := h.flat_len
  rw [he] at this
  cases L with
  | nil => simp at hx
  | cons p r =>
   rw [List.length_cons, Nat.add_mul, List.length_nil] at this
   omega
 obtain ⟨b, rfl, hB⟩ := hr.at_ hne
 obtain ⟨cs, h1, h2⟩ := h.get hB i x hx
 exact ⟨b, 0, cs, rfl, h1, h2⟩
theorem iM.open {U : View} {a : Option Addr} {l : List α} (h : iM R z U a l) (hne : l ≠ []) : ∃ (b f : Nat) (L : List (α × List Value)), a = some ⟨b, f, none⟩ ∧ L.map Prod.fst = l ∧ qS R U L ∧ U.range b f (L.flatMap Prod.snd) := by
 obtain ⟨b, f, cs0, ha, _, _⟩ := h.at_ 0 (l[0]'(by cases l <;> simp_all)) (List.getElem?_eq_getElem _)
 refine ⟨b, f, ?_⟩
 subst ha
 have key : ∀ (l : List α) (f' : Nat), (∀ i x, l[i]? = some x → ∃ cs, U.range b (f' + i * z) cs ∧ R U x cs) → ∃ L : List (α × List Value), L.map Prod.fst = l ∧ qS R U L ∧ U.range b f' (L.flatMap Prod.snd) := by
  intro l
  induction l with
  | nil => intro f' _; exact ⟨[], rfl, trivial, fun j v hj => by simp at hj⟩
  | cons t l ih =>
   intro f' hl
   obtain ⟨cs, h1, h2⟩ := hl 0 t rfl
   rw [Nat.zero_mul, Nat.add_zero] at h1
   obtain ⟨L, k1, k2, k3⟩ := ih (f' + z) fun i x hx => by
    obtain ⟨cs, q1, q2⟩ := hl (i + 1) x (by simpa using hx)
    exact ⟨cs, by rw [show f' + z + i * z = f' + (i + 1) * z by rw [Nat.add_mul]; omega]; exact q1, q2⟩
   refine ⟨(t, cs) :: L, by simp [k1], ⟨h2, k2⟩, fun j v hj => ?_⟩
   change (cs ++ L.flatMap Prod.snd)[j]? = some v at hj
   by_cases hj5 : j < cs.length
   ·
    rw [List.getElem?_append_left hj5] at hj
    exact h1 j v hj
   ·
    rw [List.getElem?_append_right oW] at hj
    have := k3 (j - cs.length) v hj
    have h5 := hR.len h2
    rw [show f' + j = f' + z + (j - cs.length) by omega]
    exact this
 obtain ⟨L, k1, k2, k3⟩ := key l f fun i x hx => by
  obtain ⟨b', f', cs, he, q1, q2⟩ := h.at_ i x hx
  simp only [Option.some.injEq, Addr.mk.injEq, and_true] at he
  obtain ⟨rfl, rfl⟩ := he
  exact ⟨cs, q1, q2⟩
 exact ⟨L, rfl, k1, k2, k3⟩
structure RwR (R : View → α → List Value → Prop) (z : Nat) (V : View) (r : Rw) (xs : List Value) (m : Nat) (L : List (α × List Value)) : Prop where
 ok : r.ok z m xs
 xs : xs = L.flatMap Prod.snd
 m : m = L.length
 all : qS R V L
theorem RwR.le {U V : View} (h : View.le U V) {r : Rw} {xs : List Value} {m : Nat} {L : List (α × List Value)} (hr : RwR R z U r xs m L) : RwR R z V r xs m L := ⟨hr.ok, hr.xs, hr.m, hr.all.le h⟩
theorem RwR.done (hz : 0 < z) {V V' : View} {r : Rw} {xs : List Value} {m : Nat} {L : List (α × List Value)} (hr : RwR R z V r xs m L) {a : Option Addr} (hA : qB V' a xs) (hl : View.le V V') (h47 : m ≤ R47) : iM R z V' a (L.map Prod.fst) :=
 iM.ofRow hz L hA hr.xs (hr.all.le hl) _ rfl (by rw [List.length_map, ← hr.m]; exact h47)
end
theorem RwR.snoc {α : Type} {R : View → α → List Value → Prop} {z : Nat} {V : View} {r r' : Rw} {xs cs : List Value} {m : Nat} {L : List (α × List Value)} {x : α} (hr : RwR R z V r xs m L) (hx : R V x cs) (hok : r'.ok z (m + 1) (xs ++ cs)) : RwR R z V r' (xs ++ cs) (m + 1) (L ++ [(x, cs)]) :=
 ⟨hok, by rw [hr.xs, List.flatMap_append]; simp, by rw [hr.m]; simp, hr.all.snoc hx⟩
theorem RwR.nil {α : Type} {R : View → α → List Value → Prop} {z : Nat} {V : View} : RwR R z V Rw.nil [] 0 [] := ⟨Rw.ok_nil z, rfl, rfl, trivial⟩
instance tvR : RecOk TV 5 := ⟨fun h ht => ht.le h, fun h => h.len5, fun h => h.one⟩
theorem iM.ts {U : View} {a : Option Addr} {l : List Itm.Tr} (h : iM TV 5 U a l) : fG U a l := ⟨h.at_, h.len⟩
section
variable {P : Program} {n : Nat} {W0 : Cx} {Q : XQ} {s : cB} {U : View} {σ : aF} {ops : Array Oper} {l : List Oper} {o : Oper}
theorem pL (r : Rw) (xs : List Value) (z m : Nat) (σ1 : aF) (e : TypeId) (hσ : σ = σ1 ++ r.B e xs) (hok : r.ok z m xs)
  (h : ∀ a c V, View.le U V → qB V a xs → r.V m = .slice a m c → SXL P n W0 Q ops l s V σ1) : SXL P n W0 Q ops l s U σ := by
 subst hσ
 refine ⟨fun A W ha hM => ?_⟩
 obtain ⟨a, c, V, hl, hA, hv, hM'⟩ := hM.freezeRw hok
 exact (h a c V hl hA hv).go A W ha hM'
end
section
variable {P : Program} {n : Nat} {W0 : Cx} {Q : XQ} {s : cB} {U : View} {σ : aF} {ops : Array Oper} {l : List Oper} {o : Oper}
theorem aL3 (k b off m z : Nat) (r : Rw) (xs : List Value) (hok : r.ok z m xs) (cs : List Value) (t ty : TypeId) (x y : Operand) (ho : o.op = .store ty x y) (hx : evS s x = some (.pointer (some ⟨b, off, none⟩))) (hy : evS s y = some (r.V m))
  (hk : σ[k]? = some (b, .cells cs.toArray t (0, 0))) (hs : ∀ a c, qZ P ty (.slice a m c) 1 = true) (hl : Nat.ble (off + 1) cs.length = true) (hd : o.dst = none) (hw : cZ ops s o = some true)
  (h : SXL P n W0 Q ops l s U (σ.set k (b, .cells (cA cs off [r.V m]).toArray t (0, 0)))) : SXL P n W0 Q ops (o :: l) s U σ := by
 obtain ⟨a, c, hv⟩ := Rw.form hok
 rw [hv] at hy h
 refine aL1 k b off 1 cs t ty _ x y ho hx hy hk (hs a c) hl (by unfold eL; rw [hd]) hw ?_
 unfold jX
 rw [hd]
 exact h
end
theorem RwR.arr {V V' : View} {r : Rw} {xs : List Value} {m : Nat} {L : List (Itm.Tr × List Value)} {a : Option Addr} (c : Nat) (hr : RwR TV 5 V r xs m L) (hA : qB V' a xs) (hl : View.le V V') (hm : m ≤ R47) (o : Bool) : TV V' (.mk 4 0 [] (L.map Prod.fst) o) [.int .i64 4, .int .u64 0, .string (B []), .slice a m c, .bool o] := by
 have hT := (hr.done (by decide) hA hl hm).ts
 rw [show m = (L.map Prod.fst).length by rw [List.length_map]; exact hr.m]
 exact TV.of (t := .mk 4 0 [] (L.map Prod.fst) o) hT (show (0 : Nat) < _ by decide) (show (0 : Nat) ≤ _ by decide)
theorem aNX {W0 : Cx} {U V : View} {σ σF : aF} {Φ : Value → View → aF → Prop} {v : Value} {W' : World} (l1 l2 : aF) (x : Nat × Obj) (hM : Mem W0 V σ W') (e : σ = (l1 ++ x :: l2) ++ σF) (hl : View.le U V) (h : Φ v V [x]) : fN W0 U σF Φ (.returned v) W' := by
 subst e
 refine ⟨v, V, [x], rfl, hl, hM.sub (List.Sublist.append ?_ (List.Sublist.refl σF)), h⟩
 have h2 : [x].Sublist (x :: l2) := List.Sublist.cons_cons x (List.nil_sublist l2)
 exact h2.trans (List.sublist_append_right l1 (x :: l2))
end Go.Proofs.YtcdjakemdlinhaaGreatDoor.Sx
namespace Go.Proofs.YtcdjakemdlinhaaGreatDoor
open Go.ChangeShapes Go.WideShapes Go.ChangeAt Go.RowKit Go.Deep
def aBx (ops : Array Oper) (ds : List Tmp) : Bool := (List.range ds.length).all fun i => decide ((ops[i]?).bind (·.dst) = ds[i]?) || decide ((ops[i]?).bind (·.dst) = none)
section
variable {P : Program} {ops : Array Oper} {Q : Exit → Act → World → Prop} {md : Region.Mode}
theorem aGE (m : Nat) {fuel r : Nat} (ds : List Tmp) (Inv : (Nat → Bool) → (Nat → Value) → World → Prop) {a0 : Act} {w0 : World}
  (hlen : ds.length = m) (hds : aBx ops ds = true) (hnd : nodupB ds = true) (hms : decide (m ≤ ops.size) = true) (hedge : eQ md ops m = true) (htail : iY md ops m r = true)
  (hS : ∀ u, Inv (fun _ => false) u w0)
  (steps : ∀ i, i < m → ∀ (L : Nat → Bool) (u : Nat → Value) (w : World), Inv L u w → L i = false → (∀ j, cI md ops i j = true → L j = true ∧ j < m) → (∀ k j, L k = true → cI md ops k j = true → L j = true) →
   ∀ K : Act → World → Prop, (∀ v w', Inv (fun j => if j = i then true else L j) (fun j => if j = i then (if ((ops[i]?).bind (·.dst)).isSome then v else u i) else u j) w' → K ((eH ds 0 u a0).put ((ops[i]?).bind (·.dst)) v) w') → wpOp P ops Q i K (eH ds 0 u a0) w)
  (fin : ∀ L u w, Inv L u w → (∀ i, i < m → L i = true) → wpAny P md ops Q fuel (firstM m ops.size) (eH ds 0 u a0) w) :
  wpAny P md ops Q (m + fuel) (Array.replicate ops.size false) a0 w0 := by
 have hms' : m ≤ ops.size := by simpa using hms
 have main : ∀ (rem : List Nat) (listed : Array Bool) (L : Nat → Bool) (u : Nat → Value) (w : World), rem.Nodup → (∀ i, i ∈ rem ↔ i < m ∧ listed.getD i false = false) → listed.size = ops.size → (∀ i, m ≤ i → listed.getD i false = false) → (∀ i, listed.getD i false = true → ∀ j, cI md ops i j = true → listed.getD j false = true) →
   (∀ i, listed.getD i false = L i) → Inv L u w → wpAny P md ops Q (rem.length + fuel) listed (eH ds 0 u a0) w := by
  intro rem
  generalize hk : rem.length = k
  induction k generalizing rem with
  | zero =>
   intro listed L u w hn hrem hsz hge hcl hL hI
   obtain rfl := List.length_eq_zero_iff.1 hk
   have hall : ∀ i, i < m → listed.getD i false = true := fun i hi => by
    cases h : listed.getD i false with
    | true => rfl
    | false => have := (hrem i).2 ⟨hi, h⟩; cases this
   have hl : listed = firstM m ops.size := by
    apply Array.ext
    · simp [firstM, hsz]
    ·
     intro i h1 h2
     have e : listed.getD i false = listed[i] := by simp [Array.getD, h1]
     simp only [firstM, List.getElem_toArray, List.getElem_map, List.getElem_range]
     rw [← e]
     by_cases hi : i < m
     · rw [hall i hi, decide_eq_true hi]
     · rw [hge i oW, decide_eq_false hi]
   have hall' : ∀ i, i < m → listed.getD i false = true := hall
   have hl0 : ∀ i, listed.getD i false = listed.getD i false := fun _ => rfl
   rw [hl, Nat.zero_add]
   exact fin L u w hI fun i hi => by rw [← hL i, ← hl0 i]; exact hall' i hi
  | succ k ih =>
   intro listed L u w hn hrem hsz hge hcl hL hI
   have hne : rem ≠ [] := by intro h; rw [h] at hk; cases hk
   have hgd : ∀ i, i < ops.size → listed.getD i true = listed.getD i false := fun i hi => by simp [Array.getD, hsz, hi]
   have hready : ∀ i ∈ Region.ready md ops listed, i < m ∧ i ∈ rem ∧ ∀ j, cI md ops i j = true → listed.getD j false = true := by
    intro i hi
    obtain ⟨h1, o, ho, hed⟩ := mem_ready.1 hi
    have his : i < ops.size := (Array.getElem?_eq_some_iff.1 ho).1
    have hwt : ∀ j, cI md ops i j = true → listed.getD j false = true := by
     intro j hj
     simp only [cI, ho, Option.map_some, Option.getD_some, List.any_eq_true, Bool.and_eq_true, beq_iff_eq] at hj
     obtain ⟨e, he, hb, hon⟩ := hj
     have := hed e (by simpa using he) hb
     rw [hon] at this
     exact this
    have him : i < m := by
     by_cases h : i < m
     · exact h
     ·
      exfalso
      unfold iY at htail
      rw [List.all_eq_true] at htail
      have h2 := htail i (List.mem_range.2 his)
      rw [decide_eq_false h, Bool.false_or, List.all_eq_true] at h2
      obtain ⟨j, hj⟩ := List.exists_mem_of_ne_nil rem hne
      have h3 := (hrem j).1 hj
      have h4 := h2 j (List.mem_range.2 h3.1)
      rw [List.contains_eq_mem, decide_eq_true_eq] at h4
      have := mA (p := fun k => listed.getD k false = true) hcl r _ (fun k hk => hwt k (by
       rw [List.mem_filter] at hk
       exact hk.2)) j h4
      simp only [h3.2] at this
      cases this
    exact ⟨him, (hrem i).2 ⟨him, by rw [← hgd i his]; exact h1⟩, hwt⟩
   rw [show k + 1 + fuel = k + fuel + 1 by omega]
   refine ⟨fun hnil => ?_, fun i hi => ?_⟩
   ·
    exfalso
    obtain ⟨i, hi, hmin⟩ := exists_least (List.exists_mem_of_ne_nil rem hne)
    have him := (hrem i).1 hi
    have : i ∈ Region.ready md ops listed := by
     refine mem_ready.2 ⟨by rw [hgd i oW]; exact him.2, ops[i]'oW, Array.getElem?_eq_getElem oW, fun e he hb => ?_⟩
     unfold eQ at hedge
     rw [List.all_eq_true] at hedge
     have h2 := hedge i (List.mem_range.2 him.1)
     rw [Array.getElem?_eq_getElem (show i < ops.size by omega)] at h2
     simp only [Option.map_some, Option.getD_some, List.all_eq_true, Bool.or_eq_true, Bool.not_eq_true', decide_eq_true_eq] at h2
     have h3 := h2 e (by simpa using he)
     have h4 : e.on < i := by
      rcases h3 with h3 | h3
      · rw [hb] at h3; cases h3
      · exact h3
     cases h5 : listed.getD e.on false with
     | true => rfl
     | false => exact absurd ((hrem e.on).2 ⟨by omega, h5⟩) (hmin e.on h4)
    rw [hnil] at this
    cases this
   ·
    obtain ⟨him, hir, hwt⟩ := hready i hi
    refine steps i him L u w hI (by rw [← hL]; exact ((hrem i).1 hir).2) (fun j hj => ⟨by rw [← hL]; exact hwt j hj, ?_⟩) (fun k j hk hj => by rw [← hL]; exact hcl k (by rw [hL]; exact hk) j hj) _ fun v w' hI' => ?_
    ·
     have hl := hwt j hj
     by_cases h : j < m
     · exact h
     · rw [hge j oW] at hl; cases hl
    ·
     have hd : (ops[i]?).bind (·.dst) = ds[i]? ∨ (ops[i]?).bind (·.dst) = none := by
      unfold aBx at hds
      rw [List.all_eq_true] at hds
      simpa using hds i (List.mem_range.2 oW)
     have hdi : ds[i]? = some (ds[i]'oW) := List.getElem?_eq_getElem oW
     have hfill : (eH ds 0 u a0).put ((ops[i]?).bind (·.dst)) v = eH ds 0 (fun j => if j = i then (if ((ops[i]?).bind (·.dst)).isSome then v else u i) else u j) a0 := by
      rcases hd with hd | hd
      ·
       rw [hd, hdi, tF ds 0 u a0 i _ v (iI hnd) hdi, Nat.zero_add]
       rfl
      ·
       rw [hd]
       have he : (fun j => if j = i then (if (Option.isSome (none : Option Tmp)) then v else u i) else u j) = u := by
        funext j
        split
        · next e => rw [e]; rfl
        · rfl
       rw [he]
       rfl
     rw [hfill]
     have hset : ∀ j, (listed.setIfInBounds i true).getD j false = if j = i then true else listed.getD j false := by
      intro j
      simp only [Array.getD_eq_getD_getElem?, Array.getElem?_setIfInBounds]
      by_cases hj : j = i
      ·
       subst hj
       have hjs : j < listed.size := by omega
       simp [hjs]
      · rw [if_neg (fun h => hj h.symm), if_neg hj]
     refine ih (rem.erase i) (by rw [List.length_erase_of_mem hir, hk]; rfl) _ _ _ w' (hn.erase i) (fun j => ?_) (by simp [hsz]) (fun j hj => ?_) (fun k hk j hj => ?_) (fun j => by rw [hset j, hL j]) hI'
     ·
      rw [hn.mem_erase_iff, hrem j, hset j]
      by_cases hj : j = i
      · subst hj; simp
      · simp [hj]
     ·
      rw [hset j, if_neg oW]
      exact hge j hj
     ·
      rw [hset j]
      by_cases hji : j = i
      · rw [if_pos hji]
      ·
       rw [if_neg hji]
       by_cases hki : k = i
       · subst hki; exact hwt j hj
       ·
        rw [hset k, if_neg hki] at hk
        exact hcl k hk j hj
 have hrp : ∀ i, (Array.replicate ops.size false).getD i false = false := fun i => by
  simp only [Array.getD_eq_getD_getElem?, Array.getElem?_replicate]
  split <;> rfl
 have h := main (List.range m) (Array.replicate ops.size false) (fun _ => false) (fun j => a0.tmps.getD (ds.getD j 0) undef) w0 List.nodup_range (fun i => by
   rw [List.mem_range]
   simp [hrp i]) (by simp) (fun i _ => hrp i) (fun i h => by rw [hrp i] at h; cases h) hrp (hS _)
 rw [qL ds 0 _ a0 (fun j hj => by rw [Nat.zero_add]), List.length_range] at h
 exact h
theorem qT {id : Nat} (m fuel r : Nat) (ds : List Tmp) (Inv : (Nat → Bool) → (Nat → Value) → World → Prop) {a0 : Act} {w : World}
  (hm : P.follows .mixedOrders = true) (hsz : ops.size = m + fuel)
  (hlen : ds.length = m) (hds : aBx ops ds = true) (hnd : nodupB ds = true) (hedge : eQ .any ops m = true) (htail : iY .any ops m r = true)
  (hS : ∀ u, Inv (fun _ => false) u w.drew)
  (steps : ∀ i, i < m → ∀ (L : Nat → Bool) (u : Nat → Value) (w : World), Inv L u w → L i = false → (∀ j, cI .any ops i j = true → L j = true ∧ j < m) → (∀ k j, L k = true → cI .any ops k j = true → L j = true) →
   ∀ K : Act → World → Prop, (∀ v w', Inv (fun j => if j = i then true else L j) (fun j => if j = i then (if ((ops[i]?).bind (·.dst)).isSome then v else u i) else u j) w' → K ((eH ds 0 u a0).put ((ops[i]?).bind (·.dst)) v) w') → wpOp P ops Q i K (eH ds 0 u a0) w)
  (fin : ∀ L u w, Inv L u w → (∀ i, i < m → L i = true) → wpAny P .any ops Q fuel (firstM m ops.size) (eH ds 0 u a0) w) : (Code.region id ops true).wp P Q a0 w := by
 refine wp_region_any hm ?_
 have h := aGE (md := .any) m ds Inv (w0 := w.drew) hlen hds hnd (decide_eq_true oW) hedge htail hS steps fin
 rw [← hsz] at h
 exact h
end
end Go.Proofs.YtcdjakemdlinhaaGreatDoor
namespace Go.Proofs.YtcdjakemdlinhaaGreatDoor.Sx
open Go.ChangeShapes Go.WideShapes Go.ChangeAt Go.RowKit Go.Deep
section
variable {P : Program} {n : Nat} {W0 : Cx} {s : cB} {U : View} {σ0 : aF}
theorem aM9 {σ : aF} {o : Oper} {a : Act} {W : World} {K : Act → World → Prop} {Q : Exit → Act → World → Prop} (k b : Nat) (x : Obj) (h : stK P σ k s o = some (b, b, x)) (hd : o.dst = none) (ha : pD n s a) (hM : Mem W0 U σ W) (hK : ∀ W', Mem W0 U (σ.set k (b, x)) W' → K a W') : o.wp P a W K Q := by
 unfold stK at h
 split at h
 ·
  next ty xo y ho =>
  split at h
  ·
   next pb off v b' c t hx hy hk =>
   split at h
   ·
    next hok =>
    simp only [Option.some.injEq, Prod.mk.injEq] at h
    obtain ⟨rfl, rfl, rfl⟩ := h
    rw [Bool.and_eq_true] at hok
    obtain ⟨hs, hl⟩ := hok
    have hk' : σ[k]? = some (b', .cells c.toList.toArray t (0, 0)) := by simpa using hk
    have hb := (hM.own k b' _ hk').1
    have hl' : off + v.cells.size ≤ c.toList.length := by
     have := Nat.le_of_ble_eq_true hl
     simpa using this
    unfold Oper.wp execOp
    simp only [ho, dZ ha hx, dZ ha hy, Instr.storeAt, Instr.sureAddr, Sem.run_bind, Sem.run_pure, Result.andThen_ok, aAo (mF hb hl') hs]
    obtain ⟨q1, q2, q3, q4, q5, q6⟩ := gK b' v.cells.toList off W c.toList t hb (by simpa using hl')
    have := hK _ (hM.set k b' _ _ hk' q4 q5 q6 q3 q1 q2)
    show K (a.put o.dst undef) _
    rw [hd]
    exact this
   · cases h
  · cases h
 · cases h
structure StQ (P : Program) (n : Nat) (W0 : Cx) (U : View) (σ σ2 : aF) (ops : Array Oper) (ds : List Nat) (vs : List Sq) (s : cB) (i : Nat) : Prop where
 go : ∃ (o : Oper) (ts : List Nat) (vals : (Nat → Value) → List Value), ops[i]? = some o ∧ o.guard = none ∧ o.dst = none ∧ (∀ u, (ts.map fun x => look (jZ ops ds vs u i ++ aV s ds) x) = (vals u).map some) ∧
  ∀ (u : Nat → Value) (V : View), View.le U V → (∀ j, cI .any ops i j = true → gJ vs j (u j) V) → ∀ (a : Act) (W : World), pD n (ts.zip (vals u)) a → Mem W0 V σ W → ∀ (K : Act → World → Prop) (Q : Exit → Act → World → Prop), (∀ W', Mem W0 V σ2 W' → K a W') → o.wp P a W K Q
def ObS (P : Program) (n : Nat) (W0 : Cx) (U : View) (σ σ2 : aF) (ops : Array Oper) (ds : List Nat) (vs : List Sq) (s : cB) (i k : Nat) : Prop :=
 if k = i then StQ P n W0 U σ σ2 ops ds vs s i else Oq P n W0 U σ ops ds vs s k ∧ Oq P n W0 U σ2 ops ds vs s k
theorem ObS.o {σ σ2 : aF} {ops : Array Oper} {ds : List Nat} {vs : List Sq} {i : Nat} (k : Nat) (h1 : k ≠ i) (h : Oq P n W0 U σ ops ds vs s k) (h2 : Oq P n W0 U σ2 ops ds vs s k) : ObS P n W0 U σ σ2 ops ds vs s i k := by
 unfold ObS
 rw [if_neg h1]
 exact ⟨h, h2⟩
theorem ObS.st {σ σ2 : aF} {ops : Array Oper} {ds : List Nat} {vs : List Sq} {i : Nat} {o : Oper} (kb b : Nat) (x : Obj) (hi : ops[i]? = some o) (hg : o.guard = none) (hd : o.dst = none) (ts : List Nat) (vals : (Nat → Value) → List Value) (hsl : ∀ u, (ts.map fun x => look (jZ ops ds vs u i ++ aV s ds) x) = (vals u).map some)
  (h : ∀ u, stK P σ kb (ts.zip (vals u)) o = some (b, b, x)) (hσ : σ.set kb (b, x) = σ2) : ObS P n W0 U σ σ2 ops ds vs s i i := by
 unfold ObS
 rw [if_pos rfl]
 subst hσ
 exact ⟨⟨o, ts, vals, hi, hg, hd, hsl, fun u V _ _ a W ha hM K Q hK => aM9 kb b x (h u) hd ha hM hK⟩⟩
structure aOH (W0 : Cx) (U : View) (σ σ2 : aF) (vs : List Sq) (m i : Nat) (L : Nat → Bool) (u : Nat → Value) (w : World) (V : View) : Prop where
 le : View.le U V
 mem : Mem W0 V (if L i then σ2 else σ) w
 at_ : ∀ j, j < m → L j = true → qE vs j (u j) V
theorem aAW {id : Nat} {l : List Oper} {Q : XQ} (m f r : Nat) (ds : List Nat) (vs : List Sq) (i : Nat) (σ2 : aF) (hm : P.follows .mixedOrders = true) (hsz : l.length = m + f) (hlen : ds.length = m)
  (hds : aBx l.toArray ds = true) (hnd : nodupB ds = true) (hlt : (ds.all fun d => Nat.blt d n) = true) (hedge : eQ .any l.toArray m = true) (htail : iY .any l.toArray m r = true) (hchain : fY l.toArray m f = true) (hmo : ∀ q ∈ vs, oZ q)
  (hsome : ((List.range m).all fun k => decide (k = i) || ((l.toArray[k]?).bind (·.dst)).isSome) = true) (hji : i < m) (hvj : vs[i]? = some (.mem fun _ _ => True))
  (obs : Go.Proofs.YtcdjakemdlinhaaGreatDoor.Steps (ObS P n W0 U σ0 σ2 l.toArray ds vs s i) 0 m)
  (ts : List Nat) (vals : (Nat → Value) → List Value) (hsl : ∀ u, (ts.map fun t => look (aDh u 0 ds vs ++ aV s ds) t) = (vals u).map some)
  (h : ∀ (u : Nat → Value) (V : View), View.le U V → (∀ j, j < m → gJ vs j (u j) V) → SXL P n W0 Q l.toArray (l.drop m) (ts.zip (vals u)) V σ2) : SXC P n W0 Q (.region id l.toArray true) s U σ0 := by
 refine ⟨fun a W ha hM => ?_⟩
 have hn := iI hnd
 have hd : ∀ d ∈ ds, d < n := fun d hd => by have := List.all_eq_true.1 hlt d hd; simpa [Nat.blt_eq] using this
 have htr : ∀ (v : Value) (V : View), qE vs i v V := fun v V => by unfold qE; rw [hvj]; trivial
 refine qT m f r ds (fun L u w => ∃ V, aOH W0 U σ0 σ2 vs m i L u w V) hm (by simpa using hsz) hlen hds hnd hedge htail ?_ ?_ ?_
 ·
  intro u
  exact ⟨U, ⟨View.le_refl _, hM.drew, fun j _ hj => by simp at hj⟩⟩
 ·
  rintro k hkm L u w ⟨V, I⟩ hLk hwt hcl K hK
  have hob := obs.get k (Nat.zero_le _) oW
  unfold ObS at hob
  split at hob
  ·
   next hki =>
   subst hki
   obtain ⟨o, ts, vals, ho, hgd, hdn, hsl, hgo⟩ := hob.go
   have hr := mQ (a0 := a) (u := u) (V := V) (vs := vs) (ops := l.toArray) k ha hn hd fun j hj => .inl (I.at_ j (hwt j hj).2 (hwt j hj).1)
   unfold wpOp
   simp only [ho, Region.wanted, hgd, if_true]
   left
   have hmem := I.mem
   rw [hLk] at hmem
   refine hgo u V I.le (fun j hj => (I.at_ j (hwt j hj).2 (hwt j hj).1).phi) _ w (fX ts _ hr (hsl u)) hmem _ _ fun W' hM' => ?_
   have := hK undef W' ⟨V, ⟨I.le, by rw [if_pos rfl, if_pos rfl]; exact hM', fun j hj hL => ?_⟩⟩
   ·
    rw [ho] at this
    have e : (some o).bind (·.dst) = none := hdn
    rw [e] at this
    exact this
   ·
    by_cases e : j = k
    ·
     subst e
     exact htr _ _
    ·
     rw [if_neg e] at hL ⊢
     exact I.at_ j hj hL
  ·
   next hki =>
   have hsk : ((l.toArray[k]?).bind (·.dst)).isSome = true := by
    have := List.all_eq_true.1 hsome k (List.mem_range.2 hkm)
    rw [decide_eq_false hki, Bool.false_or] at this
    exact this
   have hOq : Oq P n W0 U (if L i then σ2 else σ0) l.toArray ds vs s k := by
    cases L i
    · exact hob.1
    · exact hob.2
   have hM0 : Mem W0 U (if L i then σ2 else σ0) w := I.mem.weak I.le
   refine (hOq.go a (up n W0 Q) ha hn hd hmo).step u w hM0 (fun j hj => (I.at_ j (hwt j hj).2 (hwt j hj).1).isQ I.mem I.le) K fun v w' hM' hE hv => ?_
   obtain ⟨V', h1, h2, h3⟩ := hv.at hM'
   obtain ⟨q1, q2, q3⟩ := Mem.join (I.mem.call hE) h2
   refine hK v w' ⟨V.or V', ⟨View.le_trans I.le q2, by have hik : (if i = k then true else L i) = L i := if_neg (fun e => hki e.symm); simp only [hik]; exact q1, fun j hj hL => ?_⟩⟩
   by_cases e : j = k
   ·
    subst e
    rw [if_pos rfl, if_pos hsk]
    exact h3.le hmo q3
   ·
    rw [if_neg e] at hL ⊢
    exact (I.at_ j hj hL).le hmo q2
 ·
  rintro L u W' ⟨V, I⟩ hL
  refine gZ f m _ W' (by simpa using hsz.symm) hchain ?_
  have hg := fun t => fP ds 0 u a t hn (by rw [ha.size]; exact hd)
  have hph : ∀ j, j < m → gJ vs j (u j) V := fun j hj => (I.at_ j hj (hL j hj)).phi
  have hmem := I.mem
  rw [hL i hji, if_pos rfl] at hmem
  refine (h u V I.le hph).go _ W' (fX ts _ (s' := aDh u 0 ds vs ++ aV s ds) ⟨by rw [(hg 0).2.2.1, ha.size], by rw [(hg 0).2.2.2, ha.defers], fun x v hl => ?_⟩ (hsl u)) hmem
  rcases eP _ _ _ _ hl with hl | ⟨_, hl⟩
  ·
   have hmem := iJ _ _ _ hl
   obtain ⟨j, q, hd2, hvq, hq⟩ := lZ u 0 _ _ _ _ hmem
   have hjl : j < ds.length := (List.getElem?_eq_some_iff.1 hd2).1
   rw [(hg x).1 j hd2, Nat.zero_add]
   cases q with
   | val w =>
    simp only at hq
    have := I.at_ j oW (hL j oW)
    unfold qE at this
    rw [hvq] at this
    simp only at this
    rw [this, hq]
   | mem Φ => simp only [Nat.zero_add] at hq; rw [hq]
  ·
   obtain ⟨h1, h2⟩ := eW _ _ _ _ hl
   rw [(hg x).2.1 h1]
   exact ha.slots x v h2
end
section
variable {P : Program} {n : Nat} {W0 : Cx} {Q : XQ} {s : cB} {U : View} {σ : aF} {ops : Array Oper} {l : List Oper} {o : Oper}
theorem Rw.formC {r : Rw} {z m : Nat} {xs : List Value} (h : r.ok z m xs) : ∃ a c, r.V m = .slice a m c ∧ m ≤ c := by
 cases r with
 | nil => obtain ⟨rfl, _⟩ := h; exact ⟨none, 0, rfl, Nat.le_refl _⟩
 | row b cap junk => exact ⟨_, _, rfl, h.2.2.1⟩
theorem aM5 (t : Nat) (r : Rw) (xs : List Value) (z m : Nat) (σ1 : aF) (e : TypeId) (hσ : σ = σ1 ++ r.B e xs) (hok : r.ok z m xs) (hl : look s t = some (r.V m))
  (h : ∀ a c V, View.le U V → qB V a xs → r.V m = .slice a m c ∧ m ≤ c → SXL P n W0 Q ops l ((t, .slice a m c) :: s) V σ1) : SXL P n W0 Q ops l s U σ := by
 obtain ⟨a', c', hv', hc'⟩ := Rw.formC hok
 refine aAx t r xs z m σ1 e hσ hok hl fun a c V hV hA hv => h a c V hV hA ⟨hv, ?_⟩
 rw [hv] at hv'
 simp only [Value.slice.injEq, true_and] at hv'
 rw [hv'.2]
 exact hc'
end
def InR (_ : View) (n : Int) (cs : List Value) : Prop := cs = [.int .i64 n]
instance inR : RecOk InR 1 := ⟨fun _ h => h, fun h => by rw [h]; rfl, fun h u hu => by
 rw [h] at hu
 obtain rfl := List.mem_singleton.1 hu
 rfl⟩
theorem iM.ins {U : View} {a : Option Addr} {l : List Int} (h : iM InR 1 U a l) : oD U a l := ⟨fun hne => by
 obtain ⟨b, f, L, e, hL, hA, hr⟩ := h.open hne
 refine ⟨b, f, e, ?_⟩
 have hx : ∀ L : List (Int × List Value), qS InR U L → L.flatMap Prod.snd = (L.map Prod.fst).map inV := by
  intro L
  induction L with
  | nil => intro _; rfl
  | cons p r ih =>
   intro ⟨h1, h2⟩
   rw [List.flatMap_cons, ih h2, List.map_cons, List.map_cons]
   rw [show p.2 = [.int .i64 p.1] from h1]
   rfl
 rw [hx L hA, hL] at hr
 exact hr, h.len⟩
structure Gp (α : Type) where
 i : Nat
 r : Rw
 xs : List Value
 L : List (α × List Value)
 V : View
theorem aJ0 {V : View} : ∀ {L : List (Itm.Tr × List Value)}, gL V L → qS TV V L
 | [], _ => trivial
 | _ :: _, ⟨h1, h2⟩ => ⟨h1, aJ0 h2⟩
theorem RwR.app {α : Type} {R : View → α → List Value → Prop} {z : Nat} {V : View} {r r' : Rw} {xs : List Value} {m k : Nat} {L M : List (α × List Value)} (hr : RwR R z V r xs m L) (hM : qS R V M) (hk : M.length = k) (hok : r'.ok z (m + k) (xs ++ M.flatMap Prod.snd)) : RwR R z V r' (xs ++ M.flatMap Prod.snd) (m + k) (L ++ M) :=
 ⟨hok, by rw [hr.xs, List.flatMap_append], by rw [hr.m, List.length_append, hk], hr.all.app hM⟩
theorem eX {α β : Type} {l : List α} {i : Nat} {y : α} (f : α → β) (h : l[i]? = some y) : (l.take (i + 1)).map f = (l.take i).map f ++ [f y] := by
 rw [List.take_add_one, h, List.map_append]
 rfl
theorem rW {α : Type} {l : List α} {i : Nat} {y : α} (f : α → Bool) (h : l[i]? = some y) : (l.take (i + 1)).all f = ((l.take i).all f && f y) := by
 rw [List.take_add_one, h, List.all_append]
 simp
section
variable {P : Program} {n : Nat} {W0 : Cx} {Q : XQ} {s : cB} {U : View} {σ : aF} {ops : Array Oper} {l : List Oper} {o : Oper}
theorem rX (σ1 a b : aF) (hσ : σ = (σ1 ++ a) ++ b) (h : SXL P n W0 Q ops l s U ((σ1 ++ b) ++ a)) : SXL P n W0 Q ops l s U σ := by
 subst hσ
 refine aCQ ?_ h
 rw [List.append_assoc, List.append_assoc]
 exact List.Perm.append_left _ List.perm_append_comm
theorem aFL (l1 l2 : aF) (x : Nat × Obj) (hσ : σ = l1 ++ x :: l2) (h : SXL P n W0 Q ops l s U ((l1 ++ l2) ++ [x])) : SXL P n W0 Q ops l s U σ := by
 subst hσ
 refine aCQ ?_ h
 rw [List.append_assoc]
 refine List.Perm.append_left _ ?_
 exact (List.perm_append_comm (l₁ := [x]) (l₂ := l2))
end
def aOc (l : List Itm.Tr) (v : Value) (V : View) : Prop := ∃ a c, v = .slice a l.length c ∧ fG V a l
structure Gp2 where
 i : Nat
 r : Rw
 xs : List Value
 L : List (Itm.Tr × List Value)
 r2 : Rw
 xs2 : List Value
 L2 : List (Itm.Tr × List Value)
 V : View
theorem aFX {w : World} {U V : View} {W' : World} {σ1 : aF} {e : TypeId} {r : Rw} {xs : List Value} {m : Nat} (hM : Mem ⟨w, U⟩ V (σ1 ++ r.B e xs) W') (hok : r.ok 5 m xs) (hle : View.le U V) (L : List (Itm.Tr × List Value)) (hL : xs = L.flatMap Prod.snd) (hA : gL V L) (l : List Itm.Tr) (hl : L.map Prod.fst = l) (hm : m = l.length) (h47 : m ≤ R47) : rO w U (aOc l) (.returned (r.V m)) W' := by
 obtain ⟨a, c, V', hl', hR, hv, hM'⟩ := hM.freezeRw hok
 rw [hv]
 exact cF hM' (View.le_trans hle hl') ⟨a, c, by rw [hm], fG.ofRow L hR hL (hA.le hl') l hl (by rw [← hm]; exact h47)⟩
end Go.Proofs.YtcdjakemdlinhaaGreatDoor.Sx
namespace Go.Proofs.YtcdjakemdlinhaaGreatDoor.Sx
open Go.ChangeShapes Go.WideShapes Go.ChangeAt Go.RowKit Go.Deep Go.Extern.Stop Go.Stop
section
variable {P : Program} {s : cB} {o : Oper}
theorem aAb {op : BinOp} {t : TypeId} {x y : Operand} {u : TypeId} {v b : Value} (W : World) : (eqGuard op t x y (.iface u v) b).run P W = .ok () W := by
 unfold eqGuard
 cases op <;> rfl
theorem aIt (op : BinOp) (r : Bool) (t yt : TypeId) (x y : Operand) (ho : o.op = .binOp op t x y yt) (hop : (op = .eql ∧ r = false) ∨ (op = .neq ∧ r = true)) (h : P.isIface t = true) (u : TypeId) (v : Value) (hx : evS s x = some (.iface u v)) (hy : evS s y = some .nilIface) (W : World) :
  (execOp (ev s) o).run P W = .ok (.value (.bool r)) W := by
 unfold execOp
 simp only [ho, eF hx, eF hy, Sem.run_bind, aAb, Result.andThen_ok]
 rcases hop with ⟨rfl, rfl⟩ | ⟨rfl, rfl⟩
 · simp only [run_eql_iface_nil W t h u v, Result.andThen_ok, Sem.run_pure]
 · simp only [run_neq_iface_nil W t h u v, Result.andThen_ok, Sem.run_pure]
theorem jV (op : BinOp) (r : Bool) (t yt : TypeId) (x : Operand) (ho : o.op = .binOp op t x (.const .nilIface) yt) (hop : (op = .eql ∧ r = true) ∨ (op = .neq ∧ r = false)) (h : P.isIface t = true) (hx : evS s x = some .nilIface) (W : World) :
  (execOp (ev s) o).run P W = .ok (.value (.bool r)) W := by
 have hg : (eqGuard op t x (.const .nilIface) .nilIface .nilIface).run P W = .ok () W := by
  unfold eqGuard
  cases x <;> cases op <;> rfl
 have hc : ev s (.const .nilIface) = .nilIface := rfl
 unfold execOp
 simp only [ho, eF hx, hc, Sem.run_bind, hg, Result.andThen_ok]
 rcases hop with ⟨rfl, rfl⟩ | ⟨rfl, rfl⟩
 · simp only [run_eql_nil_nil_at W t h, Result.andThen_ok, Sem.run_pure]
 · simp only [run_neq_nil_nil_at W t h, Result.andThen_ok, Sem.run_pure]
theorem aKy {ms : Array (String × TypeId)} (t yt : TypeId) (x y : Operand) (ho : o.op = .binOp .eql t x y yt) (u : TypeId) (v : Value) (hx : evS s x = some .nilIface) (hy : evS s y = some (.iface u v)) (hi : P.underlying t = some (.interface ms)) (W : World) :
  (execOp (ev s) o).run P W = .ok (.value (.bool false)) W := by
 have hg : (eqGuard .eql t x y .nilIface (.iface u v)).run P W = .ok () W := by unfold eqGuard; rfl
 unfold execOp
 simp only [ho, eF hx, eF hy, Sem.run_bind, hg, Result.andThen_ok, run_eql_iface_nil_left W u v hi, Sem.run_pure]
theorem aMe {ms : Array (String × TypeId)} (t yt : TypeId) (x y : Operand) (ho : o.op = .binOp .eql t x y yt) (tx ty : TypeId) (vx vy : Value) (hx : evS s x = some (.iface tx vx)) (hy : evS s y = some (.iface ty vy)) (hi : P.underlying t = some (.interface ms)) (hne : tx ≠ ty) (W : World) :
  (execOp (ev s) o).run P W = .ok (.value (.bool false)) W := by
 unfold execOp
 simp only [ho, eF hx, eF hy, Sem.run_bind, aAb, Result.andThen_ok, run_eql_iface_types tx ty vx vy hi hne, Sem.run_pure]
theorem aMf {ms : Array (String × TypeId)} (t yt : TypeId) (x y : Operand) (ho : o.op = .binOp .eql t x y yt) (tp te : TypeId) (a : Addr) (hx : evS s x = some (.iface tp (.pointer (some a)))) (hy : evS s y = some (.iface tp (.pointer (some a)))) (hi : P.underlying t = some (.interface ms)) (hp : P.underlying tp = some (.pointer te))
  (hc : (P.info? tp).map (·.comparable) = some true) (he : (P.info? te).isSome = true) (W : World) : (execOp (ev s) o).run P W = .ok (.value (.bool true)) W := by
 obtain ⟨i, hi2, hcmp⟩ := Option.map_eq_some_iff.1 hc
 obtain ⟨j, hj⟩ := Option.isSome_iff_exists.1 he
 unfold execOp
 simp only [ho, eF hx, eF hy, Sem.run_bind, aAb, Result.andThen_ok, run_eql_iface_ptr_same W a hi hp hi2 hcmp hj, Sem.run_pure]
theorem aMc {want : Array (String × TypeId)} (x : Operand) (xT asserted : TypeId) (ho : o.op = .typeAssert x xT asserted true) (t : TypeId) (v : Value) (hx : evS s x = some (.iface t v)) (hu : P.underlying asserted = some (.interface want)) (h : (P.info? t).map (fun i => (lacking want i.methods).isEmpty) = some false) (hz : (P.info? asserted).map (·.zero) = some (some .nilIface)) (W : World) :
  (execOp (ev s) o).run P W = .ok (.value (.tuple #[.nilIface, .bool false])) W := by
 unfold execOp
 simp only [ho, eF hx, Sem.run_bind, run_typeAssert_lacksB hu h hz v xT W, Result.andThen_ok, Sem.run_pure]
theorem aMb {want : Array (String × TypeId)} (x : Operand) (xT asserted : TypeId) (ho : o.op = .typeAssert x xT asserted true) (t : TypeId) (v : Value) (hx : evS s x = some (.iface t v)) (hu : P.underlying asserted = some (.interface want)) (h : (P.info? t).map (fun i => (lacking want i.methods).isEmpty) = some true) (W : World) :
  (execOp (ev s) o).run P W = .ok (.value (.tuple #[.iface t v, .bool true])) W := by
 unfold execOp
 simp only [ho, eF hx, Sem.run_bind, run_typeAssert_hasB hu h v xT W, Result.andThen_ok, Sem.run_pure]
end
inductive Er where
 | leaf
 | wrap (s : List UInt8) (e : Er)
def Er.V (a : Addr) : Er → Value
 | .leaf => .iface 338 (.pointer (some a))
 | .wrap s e => .iface 281 (.agg #[.string (B s), e.V a])
def Er.deep : Er → Nat
 | .leaf => 0
 | .wrap _ e => e.deep + 1
theorem Er.form (a : Addr) (e : Er) : ∃ u v, e.V a = .iface u v := by cases e <;> exact ⟨_, _, rfl⟩
theorem qU {P : Program} {s : cB} {o : Oper} (op : BinOp) (r : Bool) (t yt : TypeId) (x y : Operand) (ho : o.op = .binOp op t x y yt) (hop : (op = .eql ∧ r = false) ∨ (op = .neq ∧ r = true)) (h : P.isIface t = true) (a : Addr) (e : Er) (hx : evS s x = some (e.V a)) (hy : evS s y = some .nilIface) (W : World) :
  (execOp (ev s) o).run P W = .ok (.value (.bool r)) W := by
 obtain ⟨u, v, he⟩ := e.form a
 rw [he] at hx
 exact aIt op r t yt x y ho hop h u v hx hy W
def EF (U : View) (a : Addr) : Prop := U ⟨0, 0, none⟩ = some (.iface 338 (.pointer (some a)))
theorem EF.le {U V : View} {a : Addr} (h : View.le U V) (hf : EF U a) : EF V a := h _ _ hf
end Go.Proofs.YtcdjakemdlinhaaGreatDoor.Sx
namespace Go.Proofs.YtcdjakemdlinhaaGreatDoor.Sx
open Go.ChangeShapes Go.WideShapes Go.ChangeAt Go.RowKit Go.Deep
theorem aNm (n c : Nat) (hc : c < 256) (h : n * 256 + c < 18446744073709551616) : orI .u64 (IntKind.u64.wrap ((n : Int) * 2 ^ 8)) (c : Int) = ((n * 256 + c : Nat) : Int) := by
 have hn : n * 256 < 18446744073709551616 := Nat.lt_of_le_of_lt (Nat.le_add_right _ _) h
 have hc2 : c < 18446744073709551616 := Nat.lt_of_le_of_lt (Nat.le_add_left _ _) h
 have e1 : IntKind.u64.wrap ((n : Int) * 2 ^ 8) = ((n * 256 : Nat) : Int) := by rw [show ((n : Int) * 2 ^ 8) = ((n * 256 : Nat) : Int) by omega]; exact u64_in oW oW
 have t : ∀ m : Nat, m < 18446744073709551616 → (BitVec.ofInt IntKind.u64.bits (m : Int)).toNat = m := by
  intro m hm
  rw [BitVec.toNat_ofInt]
  show ((m : Int) % ((18446744073709551616 : Nat) : Int)).toNat = m
  omega
 have h3 := Nat.shiftLeft_add_eq_or_of_lt (i := 8) (b := c) oW n
 rw [Nat.shiftLeft_eq] at h3
 rw [e1]
 unfold orI
 rw [BitVec.toNat_or, t (n * 256) hn, t c hc2, show n * 256 ||| c = n * 256 + c from h3.symm]
 exact u64_in oW oW
def pS (m : Int) : Bool := (decide (m ≥ 2) && decide (m < 6)) || (m == 7)
theorem aDV (m : Int) (w : World) : CP 183 #[.int .i64 m] w (Ret (.bool (pS m)) w) := by
 refine dK 13 Tryz.func183 ?_
 refine zQ 1 (zn (zQ 3 (aK 5 (decide (m ≥ 2)) (fun h0 => ?_) (fun h0 => ?_))))
 ·
  refine zq 4 (aK 9 (decide (m < 6)) (fun h1 => ?_) (fun h1 => ?_))
  ·
   refine zq 4 (zn (aA (aH [2] [(.bool true)] (fun W' hM => ?_))))
   exact ⟨by simp only [cG,pS,h0,h1,bs,bQ,reduceIte],hM.below⟩
  ·
   refine zq 4 (zn (aA (aH [2] [(.bool (m == 7))] (fun W' hM => ?_))))
   exact ⟨by simp only [cG,pS,h0,h1,bs,bQ,reduceIte],hM.below⟩
 ·
  refine zq 8 (zn (aA (aH [2] [(.bool (m == 7))] (fun W' hM => ?_))))
  exact ⟨by simp only [cG,pS,h0,bs,bQ,reduceIte],hM.below⟩
def fJ (n : Nat) (l : List UInt8) : Nat := l.foldl (fun n c => n * 256 + c.toNat) n
theorem aHh {l : List UInt8} {i n : Nat} {y : UInt8} (h : l[i]? = some y) : fJ n (l.drop i) = fJ (n * 256 + y.toNat) (l.drop (i + 1)) := by
 unfold fJ
 rw [cK h, List.foldl_cons]
theorem aAK (l : List UInt8) (w : World) (hl : l.length ≤ 8) : CP 249 #[.string (B l)] w (Ret (.int .u64 ((fJ 0 l : Nat) : Int)) w) := by
 refine dK 20 Tryz.func249 ?_
 refine zQ 1 (zn (zQ 1 (zn (zs (zQ 1 ?_)))))
 refine aCR 9 160 5 (.tmp 6) rfl l kR kR kR kR kR kR (fun b0 c0 V0 hV0 hB0 hC0 => ?_)
 have hY0 := aFH.of hB0 (by first | assumption | omega)
 refine zq 2 (zn (aB (gX (α := Nat × Nat) (fun x => [2,3,7,8,9].zip [(U6 0),(N6 (x.2 : Nat)),(Sl b0 0 l.length c0),(L6 l.length),(L6 x.1)]) (fun x => V0) (fun x => []) (fun x => x.1 ≤ l.length ∧ fJ x.2 (l.drop x.1) = fJ 0 l ∧ x.2 < 256 ^ x.1) (fun x => l.length - x.1) (0,0) ?_ ?_)))
 · exact ⟨Nat.zero_le _,rfl,by simp⟩
 intro x hx
 obtain ⟨hx1,hx2,hx3⟩ := hx
 refine zQ 1 (zn (zs (cD (decide ((x.1 : Int) < (l.length : Int))) (fun h0 => ?_) (fun h0 => ?_))))
 ·
  have h0d := of_decide_eq_true h0
  refine zk (zs (aB (zs (zr ?_))))
  obtain ⟨y1,hy1⟩ : ∃ y,(l)[x.1]? = some y := ⟨(l)[x.1]'oW,List.getElem?_eq_getElem _⟩
  obtain ⟨b1,f1,e1,hU1⟩ := hY0.one hy1
  cases e1
  have hyl := y1.toNat_lt
  have hp : 256 ^ x.1 ≤ 256 ^ 7 := Nat.pow_le_pow_right (by decide) oW
  have hor := aNm x.2 y1.toNat hyl oW
  have hcv : IntKind.u64.wrap (y1.toNat : Int) = (y1.toNat : Int) := u64_in oW oW
  refine cH (Pt b0 (0 + x.1)) (fW _ 5 _ _ rfl b0 0 l.length c0 x.1 .i64 kR kR (by first | assumption | omega) kR kR) ?_
  refine zV b0 (0 + x.1) (.int .u8 (y1.toNat : Int)) hU1 5 (.tmp 11) _ Tryz.underlying5 rfl ?_
  refine zq 1 (zn (zr (zq 4 (eE 16 (U6 (IntKind.u64.wrap (y1.toNat : Int))) (N6 (y1.toNat : Nat)) (congrArg (Value.int .u64) hcv) ?_))))
  refine zq 1 (eE 17 (U6 (orI .u64 (IntKind.u64.wrap ((x.2 : Int) * 2 ^ 8)) (y1.toNat : Int))) (N6 (x.2 * 256 + y1.toNat : Nat)) (congrArg (Value.int .u64) hor) ?_)
  refine zq 1 (zn (zr (zq 1 (eV 18 ((x.1 : Int) + 1) (zq 1 (zn ?_))))))
  refine nx (x.1 + 1,x.2 * 256 + y1.toNat) ?_ ?_
  · exact ⟨by show x.1 + 1 ≤ _; omega,by rw [← hx2,aHh hy1],by have := y1.toNat_lt; rw [Nat.pow_succ]; omega⟩
  · show l.length - (x.1 + 1) < l.length - x.1; omega
 ·
  have h0d := of_decide_eq_false h0
  refine aU (zQ 2 (zn (aA (aH [2] [(N6 (x.2 : Nat))] (fun W' hM => ?_)))))
  refine ⟨?_,hM.below⟩
  rw [show x.1 = l.length by omega,List.drop_length] at hx2
  rw [← hx2]
  rfl
theorem eZ (rd : Rd) (r : Nat) {W0 : Cx} {U : View} {σF : aF} {W : World} (hM : Mem W0 U ([(r, rd.O)] ++ σF) W) : CP 213 #[.pointer (some ⟨r, 0, none⟩)] W (fN W0 U σF fun v V σ' => v = .tuple #[.int .i64 rd.bad, .int .i64 rd.e] ∧ σ' = [(r, rd.O)]) := by
 have hM2 : Mem W0 U ([(bK r [(St rd.b),(I6 (rd.at_ : Int)),(I6 rd.bad),(I6 rd.e),(I6 (rd.frm : Int))] 297)] ++ σF) W := hM.eqv kR
 refine eC 12 Tryz.func213 hM2 ?_
 refine zQ 2 (zn (zs ?_))
 refine gU 0 [0,0,0,3,0,0,0,3,0] [(r,1),(r,1)] [] trivial ?_
 refine zq 1 (zn (aA (aH [2,3] [(I6 rd.bad),(I6 rd.e)] (fun W' hM => ?_))))
 exact dJ (σ' := [(bK r [(St rd.b),(I6 (rd.at_ : Int)),(I6 rd.bad),(I6 rd.e),(I6 (rd.frm : Int))] 297)]) hM (View.le_refl _) ⟨rfl,rfl⟩
theorem qK : ∀ (l : List UInt8) (n k : Nat), n < 256 ^ k → fJ n l < 256 ^ (k + l.length)
 | [], n, k, h => by simpa [fJ] using h
 | c :: l, n, k, h => by
  have hc := c.toNat_lt
  have := qK l (n * 256 + c.toNat) (k + 1) (by rw [Nat.pow_succ]; omega)
  rw [List.length_cons, show k + (l.length + 1) = k + 1 + l.length by omega]
  exact this
def hd2 (s : List UInt8) (m z : Nat) : Option (Nat × Nat × Bool × Nat) :=
 if decide ((s.length : Int) < ((1 + z : Nat) : Int)) then none
 else if (((Itm.aD m (fJ 0 ((s.drop 1).take z))).length : Int) != ((1 + z : Nat) : Int)) then none else some (m, fJ 0 ((s.drop 1).take z), false, 1 + z)
def hd1 (s : List UInt8) (m k : Nat) : Option (Nat × Nat × Bool × Nat) :=
 if k < 24 then some (m, k, false, 1) else if k = 31 ∧ pS (m : Int) = true then some (m, 0, true, 1) else if 28 ≤ k then none else hd2 s m (2 ^ (k - 24))
def hdF (s : List UInt8) : Option (Nat × Nat × Bool × Nat) := match s[0]? with
 | none => none
 | some c => hd1 s (c.toNat / 32) (c.toNat % 32)
def hdV : Option (Nat × Nat × Bool × Nat) → Value
 | none => .tuple #[.int .i64 0, .int .u64 0, .bool false]
 | some (m, n, o, _) => .tuple #[.int .i64 (m : Int), .int .u64 (n : Int), .bool o]
def hdR (s : List UInt8) : Option (Nat × Nat × Bool × Nat) → Rd
 | none => ⟨s, 0, 0, 2, 0⟩
 | some (_, _, _, z) => ⟨s, z, -1, 0, 0⟩
def pH (r : Nat) (s : List UInt8) (x : Option (Nat × Nat × Bool × Nat)) (v : Value) (_ : View) (σ : aF) : Prop := v = hdV x ∧ σ = [(r, (hdR s x).O)]
theorem aLj (s : List UInt8) (r : Nat) (hs : (s == []) = true) {W0 : Cx} {U : View} {σF : aF} {W : World} (hM : Mem W0 U ([(r, (Rd.new s).O)] ++ σF) W) : CP 238 #[.pointer (some ⟨r, 0, none⟩)] W (fN W0 U σF (pH r s (none))) := by
 have hM2 : Mem W0 U ([(bK r [(St s),(I6 0),(I6 (-1)),(I6 0),(I6 0)] 297)] ++ σF) W := hM.eqv kR
 refine eC 104 Tryz.func238 hM2 ?_
 refine zQ 3 (zn (zs (zB [0,0,0,1,0] [(r,1)] (zn (dE (zk (zs ?_)))))))
 refine gU 3 [0,0,0,3,0,0,0,3] [(r,1),(r,1)] [] trivial ?_
 refine cH (St s) (lK 9 _ (some _) none rfl s 0 s.length s kR (show evS _ _ = _ by kernel_rfl) rfl nL nL (by simp) Tryz.underlying9) ?_
 refine zq 1 (zn (zs (zQ 1 (cH (.bool (s == [])) (eJ _ _ _ _ rfl s [] kR kR) ?_))))
 refine zn (gP (s == []) hs ?_)
 refine zQ 1 (dI 0 (fun W hM => eN (Rd.new s) 2 r hM) (fun v0 V0 s0 hV0 hP0 => ?_))
 obtain ⟨rfl,rfl⟩ := hP0
 refine zn (zQ 3 (zn (aA (aH [2,3,4] [(I6 0),(U6 0),(.bool false)] (fun W' hM => ?_)))))
 exact dJ (σ' := [(bK r [(St s),(I6 0),(I6 0),(I6 2),(I6 0)] 297)]) hM hV0 ⟨rfl,rfl⟩
theorem aHo (s : List UInt8) (r : Nat) (c : UInt8) (hc : s[0]? = some c) (hs : (s == []) = false) (hk : c.toNat % 32 < 24) {W0 : Cx} {U : View} {σF : aF} {W : World} (hM : Mem W0 U ([(r, (Rd.new s).O)] ++ σF) W) : CP 238 #[.pointer (some ⟨r, 0, none⟩)] W (fN W0 U σF (pH r s (some (c.toNat / 32, c.toNat % 32, false, 1)))) := by
 have hcl := c.toNat_lt
 have hk1 : decide (((c.toNat % 32 : Nat) : Int) < 24) = true := decide_eq_true oW
 have hw : IntKind.u64.wrap ((c.toNat % 32 : Nat) : Int) = ((c.toNat % 32 : Nat) : Int) := u64_in oW oW
 have hM2 : Mem W0 U ([(bK r [(St s),(I6 0),(I6 (-1)),(I6 0),(I6 0)] 297)] ++ σF) W := hM.eqv kR
 refine eC 104 Tryz.func238 hM2 ?_
 refine zQ 3 (zn (zs (zB [0,0,0,1,0] [(r,1)] (zn (dE (zk (zs ?_)))))))
 refine gU 3 [0,0,0,3,0,0,0,3] [(r,1),(r,1)] [] trivial ?_
 refine cH (St s) (lK 9 _ (some _) none rfl s 0 s.length s kR (show evS _ _ = _ by kernel_rfl) rfl nL nL (by simp) Tryz.underlying9) ?_
 refine zq 1 (zn (zs (zQ 1 (cH (.bool (s == [])) (eJ _ _ _ _ rfl s [] kR kR) ?_))))
 refine zn (eS (s == []) hs ?_)
 refine zk (zs ?_)
 refine gU 0 [0,1,0,1,0,1,0,1,0] [] [.val (.int .u8 (c.toNat : Int)),.val (L6 (c.toNat / 32)),.val (.int .u8 (c.toNat : Int)),.val (L6 (c.toNat % 32))] ⟨?_,?_,?_,?_,trivial⟩ ?_
 · exact vR (jR 9 _ _ rfl s 0 .i64 c kR kR hc Tryz.underlying9)
 · exact vE (I6 (IntKind.i64.wrap (((c.toNat : Int)).fdiv (2 ^ 5)))) (congrArg (Value.int .i64) (jF c))
 · exact vR (jR 9 _ _ rfl s 0 .i64 c kR kR hc Tryz.underlying9)
 · exact vE (I6 (IntKind.i64.wrap (gC .u8 (c.toNat : Int) 31))) (congrArg (Value.int .i64) (lY c))
 refine zq 1 (zn (zs (aB (zQ 3 (zn (gP (decide (((c.toNat % 32 : Nat) : Int) < 24)) hk1 ?_))))))
 refine zB [0,0,0,1,0,0,0] [(r,1)] (aY 0 r (zn (zQ 3 (eE 48 (U6 (IntKind.u64.wrap ((c.toNat % 32 : Nat) : Int))) (N6 (c.toNat % 32 : Nat)) (congrArg (Value.int .u64) hw) ?_))))
 refine zq 3 (zn (aA (aH [2,3,4] [(L6 (c.toNat / 32)),(N6 (c.toNat % 32 : Nat)),(.bool false)] (fun W' hM => ?_))))
 exact dJ (σ' := [(bK r [(St s),(I6 1),(I6 (-1)),(I6 0),(I6 0)] 297)]) hM (View.le_refl _) ⟨rfl,rfl⟩
theorem aJo (s : List UInt8) (r : Nat) (c : UInt8) (hc : s[0]? = some c) (hs : (s == []) = false) (hk : c.toNat % 32 = 31) (ho : pS ((c.toNat / 32 : Nat) : Int) = true) {W0 : Cx} {U : View} {σF : aF} {W : World} (hM : Mem W0 U ([(r, (Rd.new s).O)] ++ σF) W) : CP 238 #[.pointer (some ⟨r, 0, none⟩)] W (fN W0 U σF (pH r s (some (c.toNat / 32, 0, true, 1)))) := by
 have hcl := c.toNat_lt
 have hk1 : decide (((c.toNat % 32 : Nat) : Int) < 24) = false := decide_eq_false oW
 have hk2 : (((c.toNat % 32 : Nat) : Int) == 31) = true := by rw [hk]; rfl
 have hM2 : Mem W0 U ([(bK r [(St s),(I6 0),(I6 (-1)),(I6 0),(I6 0)] 297)] ++ σF) W := hM.eqv kR
 refine eC 104 Tryz.func238 hM2 ?_
 refine zQ 3 (zn (zs (zB [0,0,0,1,0] [(r,1)] (zn (dE (zk (zs ?_)))))))
 refine gU 3 [0,0,0,3,0,0,0,3] [(r,1),(r,1)] [] trivial ?_
 refine cH (St s) (lK 9 _ (some _) none rfl s 0 s.length s kR (show evS _ _ = _ by kernel_rfl) rfl nL nL (by simp) Tryz.underlying9) ?_
 refine zq 1 (zn (zs (zQ 1 (cH (.bool (s == [])) (eJ _ _ _ _ rfl s [] kR kR) ?_))))
 refine zn (eS (s == []) hs ?_)
 refine zk (zs ?_)
 refine gU 0 [0,1,0,1,0,1,0,1,0] [] [.val (.int .u8 (c.toNat : Int)),.val (L6 (c.toNat / 32)),.val (.int .u8 (c.toNat : Int)),.val (L6 (c.toNat % 32))] ⟨?_,?_,?_,?_,trivial⟩ ?_
 · exact vR (jR 9 _ _ rfl s 0 .i64 c kR kR hc Tryz.underlying9)
 · exact vE (I6 (IntKind.i64.wrap (((c.toNat : Int)).fdiv (2 ^ 5)))) (congrArg (Value.int .i64) (jF c))
 · exact vR (jR 9 _ _ rfl s 0 .i64 c kR kR hc Tryz.underlying9)
 · exact vE (I6 (IntKind.i64.wrap (gC .u8 (c.toNat : Int) 31))) (congrArg (Value.int .i64) (lY c))
 refine zq 1 (zn (zs (aB (zQ 3 (zn (eS (decide (((c.toNat % 32 : Nat) : Int) < 24)) hk1 ?_))))))
 refine zQ 3 (eE 52 (.bool (((c.toNat % 32 : Nat) : Int) == 31)) (.bool true) (congrArg Value.bool hk2) ?_)
 refine zq 1 (dL (fun W hM => aDV ((c.toNat / 32 : Nat) : Int) W) (zq 2 (zn (gP (pS ((c.toNat / 32 : Nat) : Int)) ho ?_))))
 refine zB [0,0,0,1,0,0,0] [(r,1)] (aY 0 r (zn (zQ 4 (zn (aA (aH [2,3,4] [(L6 (c.toNat / 32)),(U6 0),(.bool true)] (fun W' hM => ?_)))))))
 exact dJ (σ' := [(bK r [(St s),(I6 1),(I6 (-1)),(I6 0),(I6 0)] 297)]) hM (View.le_refl _) ⟨rfl,rfl⟩
theorem aJq (s : List UInt8) (r : Nat) (c : UInt8) (hc : s[0]? = some c) (hs : (s == []) = false) (hk : c.toNat % 32 = 31) (ho : pS ((c.toNat / 32 : Nat) : Int) = false) {W0 : Cx} {U : View} {σF : aF} {W : World} (hM : Mem W0 U ([(r, (Rd.new s).O)] ++ σF) W) : CP 238 #[.pointer (some ⟨r, 0, none⟩)] W (fN W0 U σF (pH r s (none))) := by
 have hcl := c.toNat_lt
 have hk1 : decide (((c.toNat % 32 : Nat) : Int) < 24) = false := decide_eq_false oW
 have hk2 : (((c.toNat % 32 : Nat) : Int) == 31) = true := by rw [hk]; rfl
 have hk3 : decide (((c.toNat % 32 : Nat) : Int) ≥ 28) = true := decide_eq_true oW
 have hM2 : Mem W0 U ([(bK r [(St s),(I6 0),(I6 (-1)),(I6 0),(I6 0)] 297)] ++ σF) W := hM.eqv kR
 refine eC 104 Tryz.func238 hM2 ?_
 refine zQ 3 (zn (zs (zB [0,0,0,1,0] [(r,1)] (zn (dE (zk (zs ?_)))))))
 refine gU 3 [0,0,0,3,0,0,0,3] [(r,1),(r,1)] [] trivial ?_
 refine cH (St s) (lK 9 _ (some _) none rfl s 0 s.length s kR (show evS _ _ = _ by kernel_rfl) rfl nL nL (by simp) Tryz.underlying9) ?_
 refine zq 1 (zn (zs (zQ 1 (cH (.bool (s == [])) (eJ _ _ _ _ rfl s [] kR kR) ?_))))
 refine zn (eS (s == []) hs ?_)
 refine zk (zs ?_)
 refine gU 0 [0,1,0,1,0,1,0,1,0] [] [.val (.int .u8 (c.toNat : Int)),.val (L6 (c.toNat / 32)),.val (.int .u8 (c.toNat : Int)),.val (L6 (c.toNat % 32))] ⟨?_,?_,?_,?_,trivial⟩ ?_
 · exact vR (jR 9 _ _ rfl s 0 .i64 c kR kR hc Tryz.underlying9)
 · exact vE (I6 (IntKind.i64.wrap (((c.toNat : Int)).fdiv (2 ^ 5)))) (congrArg (Value.int .i64) (jF c))
 · exact vR (jR 9 _ _ rfl s 0 .i64 c kR kR hc Tryz.underlying9)
 · exact vE (I6 (IntKind.i64.wrap (gC .u8 (c.toNat : Int) 31))) (congrArg (Value.int .i64) (lY c))
 refine zq 1 (zn (zs (aB (zQ 3 (zn (eS (decide (((c.toNat % 32 : Nat) : Int) < 24)) hk1 ?_))))))
 refine zQ 3 (eE 52 (.bool (((c.toNat % 32 : Nat) : Int) == 31)) (.bool true) (congrArg Value.bool hk2) ?_)
 refine zq 1 (dL (fun W hM => aDV ((c.toNat / 32 : Nat) : Int) W) (zq 2 (zn (eS (pS ((c.toNat / 32 : Nat) : Int)) ho ?_))))
 refine zQ 3 (zn (gP (decide (((c.toNat % 32 : Nat) : Int) ≥ 28)) hk3 ?_))
 refine zQ 1 (dI 0 (fun W hM => eN (Rd.new s) 2 r hM) (fun v0 V0 s0 hV0 hP0 => ?_))
 obtain ⟨rfl,rfl⟩ := hP0
 refine zn (zQ 3 (zn (aA (aH [2,3,4] [(I6 0),(U6 0),(.bool false)] (fun W' hM => ?_)))))
 exact dJ (σ' := [(bK r [(St s),(I6 0),(I6 0),(I6 2),(I6 0)] 297)]) hM hV0 ⟨rfl,rfl⟩
theorem aJp (s : List UInt8) (r : Nat) (c : UInt8) (hc : s[0]? = some c) (hs : (s == []) = false) (hk : 28 ≤ c.toNat % 32) (h31 : c.toNat % 32 ≠ 31) {W0 : Cx} {U : View} {σF : aF} {W : World} (hM : Mem W0 U ([(r, (Rd.new s).O)] ++ σF) W) : CP 238 #[.pointer (some ⟨r, 0, none⟩)] W (fN W0 U σF (pH r s (none))) := by
 have hcl := c.toNat_lt
 have hk1 : decide (((c.toNat % 32 : Nat) : Int) < 24) = false := decide_eq_false oW
 have hk2 : (((c.toNat % 32 : Nat) : Int) == 31) = false := beq_eq_false_iff_ne.2 oW
 have hk3 : decide (((c.toNat % 32 : Nat) : Int) ≥ 28) = true := decide_eq_true oW
 have hM2 : Mem W0 U ([(bK r [(St s),(I6 0),(I6 (-1)),(I6 0),(I6 0)] 297)] ++ σF) W := hM.eqv kR
 refine eC 104 Tryz.func238 hM2 ?_
 refine zQ 3 (zn (zs (zB [0,0,0,1,0] [(r,1)] (zn (dE (zk (zs ?_)))))))
 refine gU 3 [0,0,0,3,0,0,0,3] [(r,1),(r,1)] [] trivial ?_
 refine cH (St s) (lK 9 _ (some _) none rfl s 0 s.length s kR (show evS _ _ = _ by kernel_rfl) rfl nL nL (by simp) Tryz.underlying9) ?_
 refine zq 1 (zn (zs (zQ 1 (cH (.bool (s == [])) (eJ _ _ _ _ rfl s [] kR kR) ?_))))
 refine zn (eS (s == []) hs ?_)
 refine zk (zs ?_)
 refine gU 0 [0,1,0,1,0,1,0,1,0] [] [.val (.int .u8 (c.toNat : Int)),.val (L6 (c.toNat / 32)),.val (.int .u8 (c.toNat : Int)),.val (L6 (c.toNat % 32))] ⟨?_,?_,?_,?_,trivial⟩ ?_
 · exact vR (jR 9 _ _ rfl s 0 .i64 c kR kR hc Tryz.underlying9)
 · exact vE (I6 (IntKind.i64.wrap (((c.toNat : Int)).fdiv (2 ^ 5)))) (congrArg (Value.int .i64) (jF c))
 · exact vR (jR 9 _ _ rfl s 0 .i64 c kR kR hc Tryz.underlying9)
 · exact vE (I6 (IntKind.i64.wrap (gC .u8 (c.toNat : Int) 31))) (congrArg (Value.int .i64) (lY c))
 refine zq 1 (zn (zs (aB (zQ 3 (zn (eS (decide (((c.toNat % 32 : Nat) : Int) < 24)) hk1 ?_))))))
 refine zQ 3 (eE 52 (.bool (((c.toNat % 32 : Nat) : Int) == 31)) (.bool false) (congrArg Value.bool hk2) ?_)
 refine zq 4 (zn (dE (zQ 3 (zn (gP (decide (((c.toNat % 32 : Nat) : Int) ≥ 28)) hk3 ?_)))))
 refine zQ 1 (dI 0 (fun W hM => eN (Rd.new s) 2 r hM) (fun v0 V0 s0 hV0 hP0 => ?_))
 obtain ⟨rfl,rfl⟩ := hP0
 refine zn (zQ 3 (zn (aA (aH [2,3,4] [(I6 0),(U6 0),(.bool false)] (fun W' hM => ?_)))))
 exact dJ (σ' := [(bK r [(St s),(I6 0),(I6 0),(I6 2),(I6 0)] 297)]) hM hV0 ⟨rfl,rfl⟩
theorem aNv (s : List UInt8) (r : Nat) (c : UInt8) (hc : s[0]? = some c) (hs : (s == []) = false) (hk : c.toNat % 32 = 24) (hlen : s.length ≤ R47) {W0 : Cx} {U : View} {σF : aF} {W : World} (hM : Mem W0 U ([(r, (Rd.new s).O)] ++ σF) W) : CP 238 #[.pointer (some ⟨r, 0, none⟩)] W (fN W0 U σF (pH r s (hd2 s (c.toNat / 32) 1))) := by
 have hcl := c.toNat_lt
 unfold R47 at hlen
 have hjl : fJ 0 ((s.drop 1).take 1) < W64 := by
  have h := qK ((s.drop 1).take 1) 0 0 (by simp)
  have h2 : 256 ^ (0 + ((s.drop 1).take 1).length) ≤ 256 ^ 8 := Nat.pow_le_pow_right (by decide) (by rw [List.length_take]; omega)
  have h3 : (256 : Nat) ^ 8 = W64 := by decide
  exact Nat.lt_of_lt_of_le h (Nat.le_trans h2 (Nat.le_of_eq h3))
 have hM2 : Mem W0 U ([(bK r [(St s),(I6 0),(I6 (-1)),(I6 0),(I6 0)] 297)] ++ σF) W := hM.eqv kR
 refine eC 104 Tryz.func238 hM2 ?_
 refine zQ 3 (zn (zs (zB [0,0,0,1,0] [(r,1)] (zn (dE (zk (zs ?_)))))))
 refine gU 3 [0,0,0,3,0,0,0,3] [(r,1),(r,1)] [] trivial ?_
 refine cH (St s) (lK 9 _ (some _) none rfl s 0 s.length s kR (show evS _ _ = _ by kernel_rfl) rfl nL nL (by simp) Tryz.underlying9) ?_
 refine zq 1 (zn (zs (zQ 1 (cH (.bool (s == [])) (eJ _ _ _ _ rfl s [] kR kR) ?_))))
 refine zn (eS (s == []) hs ?_)
 refine zk (zs ?_)
 refine gU 0 [0,1,0,1,0,1,0,1,0] [] [.val (.int .u8 (c.toNat : Int)),.val (L6 (c.toNat / 32)),.val (.int .u8 (c.toNat : Int)),.val (I6 24)] ⟨?_,?_,?_,?_,trivial⟩ ?_
 · exact vR (jR 9 _ _ rfl s 0 .i64 c kR kR hc Tryz.underlying9)
 · exact vE (I6 (IntKind.i64.wrap (((c.toNat : Int)).fdiv (2 ^ 5)))) (congrArg (Value.int .i64) (jF c))
 · exact vR (jR 9 _ _ rfl s 0 .i64 c kR kR hc Tryz.underlying9)
 · exact vE (I6 (IntKind.i64.wrap (gC .u8 (c.toNat : Int) 31))) (congrArg (Value.int .i64) (by rw [lY,hk]; rfl))
 refine zq 1 (zn (zs (aB (zQ 3 (zn (dE (zQ 7 (zn (dE (zQ 3 (zn (dE (zk (zQ 4 (zn (zs (zQ 5 (zn (cD (decide ((((s).length : Nat) : Int) < 2)) (fun h0 => ?_) (fun h0 => ?_))))))))))))))))))))
 ·
  refine zQ 1 (dI 0 (fun W hM => eN (Rd.new s) 2 r hM) (fun v0 V0 s0 hV0 hP0 => ?_))
  obtain ⟨rfl,rfl⟩ := hP0
  refine zn (zQ 3 (zn (aA (aH [2,3,4] [(I6 0),(U6 0),(.bool false)] (fun W' hM => ?_)))))
  have hA : decide ((s.length : Int) < ((1 + 1 : Nat) : Int)) = true := h0
  refine dJ (σ' := [(bK r [(St s),(I6 0),(I6 0),(I6 2),(I6 0)] 297)]) hM hV0 ?_
  unfold hd2
  rw [if_pos hA]
  exact ⟨rfl,rfl⟩
 ·
  have h0d := of_decide_eq_false h0
  refine zk (zQ 3 (cH (St ((s.drop 1).take 1)) (lK 9 _ (some _) (some _) rfl s 1 2 ((s.drop 1).take 1) kR (show evS _ _ = _ by kernel_rfl) (show evS _ _ = _ by kernel_rfl) nL nL rfl Tryz.underlying9) ?_))
  refine dL (fun W hM => aAK ((s.drop 1).take 1) W (by rw [List.length_take]; omega)) (zq 1 (zn (zs (zQ 2 (dL (fun W hM => fQ (c.toNat / 32) (fJ 0 ((s.drop 1).take 1)) W oW hjl) (zq 4 (zn (cD (((((Itm.aD (c.toNat / 32) (fJ 0 ((s.drop 1).take 1)))).length : Nat) : Int) != 2) (fun h1 => ?_) (fun h1 => ?_)))))))))
  ·
   refine zQ 1 (dI 0 (fun W hM => eN (Rd.new s) 2 r hM) (fun v1 V1 s1 hV1 hP1 => ?_))
   obtain ⟨rfl,rfl⟩ := hP1
   refine zn (zQ 3 (zn (aA (aH [2,3,4] [(I6 0),(U6 0),(.bool false)] (fun W' hM => ?_)))))
   have hA : decide ((s.length : Int) < ((1 + 1 : Nat) : Int)) = false := h0
   have hB : (((Itm.aD (c.toNat / 32) (fJ 0 ((s.drop 1).take 1))).length : Int) != ((1 + 1 : Nat) : Int)) = true := h1
   refine dJ (σ' := [(bK r [(St s),(I6 0),(I6 0),(I6 2),(I6 0)] 297)]) hM hV1 ?_
   unfold hd2
   rw [if_neg (by rw [hA]; exact Bool.false_ne_true)]
   rw [if_pos hB]
   exact ⟨rfl,rfl⟩
  ·
   refine zk (zB [0,0,0,1,0,0,0,0,0] [(r,1)] (aY 0 r (zn (zQ 5 (zn (aA (aH [2,3,4] [(L6 (c.toNat / 32)),(N6 (fJ 0 ((s.drop 1).take 1))),(.bool false)] (fun W' hM => ?_))))))))
   have hA : decide ((s.length : Int) < ((1 + 1 : Nat) : Int)) = false := h0
   have hB : (((Itm.aD (c.toNat / 32) (fJ 0 ((s.drop 1).take 1))).length : Int) != ((1 + 1 : Nat) : Int)) = false := h1
   refine dJ (σ' := [(bK r [(St s),(I6 2),(I6 (-1)),(I6 0),(I6 0)] 297)]) hM (View.le_refl _) ?_
   unfold hd2
   rw [if_neg (by rw [hA]; exact Bool.false_ne_true)]
   rw [if_neg (by rw [hB]; exact Bool.false_ne_true)]
   exact ⟨rfl,rfl⟩
theorem aNu (s : List UInt8) (r : Nat) (c : UInt8) (hc : s[0]? = some c) (hs : (s == []) = false) (hk : c.toNat % 32 = 25) (hlen : s.length ≤ R47) {W0 : Cx} {U : View} {σF : aF} {W : World} (hM : Mem W0 U ([(r, (Rd.new s).O)] ++ σF) W) : CP 238 #[.pointer (some ⟨r, 0, none⟩)] W (fN W0 U σF (pH r s (hd2 s (c.toNat / 32) 2))) := by
 have hcl := c.toNat_lt
 unfold R47 at hlen
 have hjl : fJ 0 ((s.drop 1).take 2) < W64 := by
  have h := qK ((s.drop 1).take 2) 0 0 (by simp)
  have h2 : 256 ^ (0 + ((s.drop 1).take 2).length) ≤ 256 ^ 8 := Nat.pow_le_pow_right (by decide) (by rw [List.length_take]; omega)
  have h3 : (256 : Nat) ^ 8 = W64 := by decide
  exact Nat.lt_of_lt_of_le h (Nat.le_trans h2 (Nat.le_of_eq h3))
 have hM2 : Mem W0 U ([(bK r [(St s),(I6 0),(I6 (-1)),(I6 0),(I6 0)] 297)] ++ σF) W := hM.eqv kR
 refine eC 104 Tryz.func238 hM2 ?_
 refine zQ 3 (zn (zs (zB [0,0,0,1,0] [(r,1)] (zn (dE (zk (zs ?_)))))))
 refine gU 3 [0,0,0,3,0,0,0,3] [(r,1),(r,1)] [] trivial ?_
 refine cH (St s) (lK 9 _ (some _) none rfl s 0 s.length s kR (show evS _ _ = _ by kernel_rfl) rfl nL nL (by simp) Tryz.underlying9) ?_
 refine zq 1 (zn (zs (zQ 1 (cH (.bool (s == [])) (eJ _ _ _ _ rfl s [] kR kR) ?_))))
 refine zn (eS (s == []) hs ?_)
 refine zk (zs ?_)
 refine gU 0 [0,1,0,1,0,1,0,1,0] [] [.val (.int .u8 (c.toNat : Int)),.val (L6 (c.toNat / 32)),.val (.int .u8 (c.toNat : Int)),.val (I6 25)] ⟨?_,?_,?_,?_,trivial⟩ ?_
 · exact vR (jR 9 _ _ rfl s 0 .i64 c kR kR hc Tryz.underlying9)
 · exact vE (I6 (IntKind.i64.wrap (((c.toNat : Int)).fdiv (2 ^ 5)))) (congrArg (Value.int .i64) (jF c))
 · exact vR (jR 9 _ _ rfl s 0 .i64 c kR kR hc Tryz.underlying9)
 · exact vE (I6 (IntKind.i64.wrap (gC .u8 (c.toNat : Int) 31))) (congrArg (Value.int .i64) (by rw [lY,hk]; rfl))
 refine zq 1 (zn (zs (aB (zQ 3 (zn (dE (zQ 7 (zn (dE (zQ 3 (zn (dE (zk (zQ 4 (zn (zs (zQ 5 (zn (cD (decide ((((s).length : Nat) : Int) < 3)) (fun h0 => ?_) (fun h0 => ?_))))))))))))))))))))
 ·
  refine zQ 1 (dI 0 (fun W hM => eN (Rd.new s) 2 r hM) (fun v0 V0 s0 hV0 hP0 => ?_))
  obtain ⟨rfl,rfl⟩ := hP0
  refine zn (zQ 3 (zn (aA (aH [2,3,4] [(I6 0),(U6 0),(.bool false)] (fun W' hM => ?_)))))
  have hA : decide ((s.length : Int) < ((1 + 2 : Nat) : Int)) = true := h0
  refine dJ (σ' := [(bK r [(St s),(I6 0),(I6 0),(I6 2),(I6 0)] 297)]) hM hV0 ?_
  unfold hd2
  rw [if_pos hA]
  exact ⟨rfl,rfl⟩
 ·
  have h0d := of_decide_eq_false h0
  refine zk (zQ 3 (cH (St ((s.drop 1).take 2)) (lK 9 _ (some _) (some _) rfl s 1 3 ((s.drop 1).take 2) kR (show evS _ _ = _ by kernel_rfl) (show evS _ _ = _ by kernel_rfl) nL nL rfl Tryz.underlying9) ?_))
  refine dL (fun W hM => aAK ((s.drop 1).take 2) W (by rw [List.length_take]; omega)) (zq 1 (zn (zs (zQ 2 (dL (fun W hM => fQ (c.toNat / 32) (fJ 0 ((s.drop 1).take 2)) W oW hjl) (zq 4 (zn (cD (((((Itm.aD (c.toNat / 32) (fJ 0 ((s.drop 1).take 2)))).length : Nat) : Int) != 3) (fun h1 => ?_) (fun h1 => ?_)))))))))
  ·
   refine zQ 1 (dI 0 (fun W hM => eN (Rd.new s) 2 r hM) (fun v1 V1 s1 hV1 hP1 => ?_))
   obtain ⟨rfl,rfl⟩ := hP1
   refine zn (zQ 3 (zn (aA (aH [2,3,4] [(I6 0),(U6 0),(.bool false)] (fun W' hM => ?_)))))
   have hA : decide ((s.length : Int) < ((1 + 2 : Nat) : Int)) = false := h0
   have hB : (((Itm.aD (c.toNat / 32) (fJ 0 ((s.drop 1).take 2))).length : Int) != ((1 + 2 : Nat) : Int)) = true := h1
   refine dJ (σ' := [(bK r [(St s),(I6 0),(I6 0),(I6 2),(I6 0)] 297)]) hM hV1 ?_
   unfold hd2
   rw [if_neg (by rw [hA]; exact Bool.false_ne_true)]
   rw [if_pos hB]
   exact ⟨rfl,rfl⟩
  ·
   refine zk (zB [0,0,0,1,0,0,0,0,0] [(r,1)] (aY 0 r (zn (zQ 5 (zn (aA (aH [2,3,4] [(L6 (c.toNat / 32)),(N6 (fJ 0 ((s.drop 1).take 2))),(.bool false)] (fun W' hM => ?_))))))))
   have hA : decide ((s.length : Int) < ((1 + 2 : Nat) : Int)) = false := h0
   have hB : (((Itm.aD (c.toNat / 32) (fJ 0 ((s.drop 1).take 2))).length : Int) != ((1 + 2 : Nat) : Int)) = false := h1
   refine dJ (σ' := [(bK r [(St s),(I6 3),(I6 (-1)),(I6 0),(I6 0)] 297)]) hM (View.le_refl _) ?_
   unfold hd2
   rw [if_neg (by rw [hA]; exact Bool.false_ne_true)]
   rw [if_neg (by rw [hB]; exact Bool.false_ne_true)]
   exact ⟨rfl,rfl⟩
theorem aNt (s : List UInt8) (r : Nat) (c : UInt8) (hc : s[0]? = some c) (hs : (s == []) = false) (hk : c.toNat % 32 = 26) (hlen : s.length ≤ R47) {W0 : Cx} {U : View} {σF : aF} {W : World} (hM : Mem W0 U ([(r, (Rd.new s).O)] ++ σF) W) : CP 238 #[.pointer (some ⟨r, 0, none⟩)] W (fN W0 U σF (pH r s (hd2 s (c.toNat / 32) 4))) := by
 have hcl := c.toNat_lt
 unfold R47 at hlen
 have hjl : fJ 0 ((s.drop 1).take 4) < W64 := by
  have h := qK ((s.drop 1).take 4) 0 0 (by simp)
  have h2 : 256 ^ (0 + ((s.drop 1).take 4).length) ≤ 256 ^ 8 := Nat.pow_le_pow_right (by decide) (by rw [List.length_take]; omega)
  have h3 : (256 : Nat) ^ 8 = W64 := by decide
  exact Nat.lt_of_lt_of_le h (Nat.le_trans h2 (Nat.le_of_eq h3))
 have hM2 : Mem W0 U ([(bK r [(St s),(I6 0),(I6 (-1)),(I6 0),(I6 0)] 297)] ++ σF) W := hM.eqv kR
 refine eC 104 Tryz.func238 hM2 ?_
 refine zQ 3 (zn (zs (zB [0,0,0,1,0] [(r,1)] (zn (dE (zk (zs ?_)))))))
 refine gU 3 [0,0,0,3,0,0,0,3] [(r,1),(r,1)] [] trivial ?_
 refine cH (St s) (lK 9 _ (some _) none rfl s 0 s.length s kR (show evS _ _ = _ by kernel_rfl) rfl nL nL (by simp) Tryz.underlying9) ?_
 refine zq 1 (zn (zs (zQ 1 (cH (.bool (s == [])) (eJ _ _ _ _ rfl s [] kR kR) ?_))))
 refine zn (eS (s == []) hs ?_)
 refine zk (zs ?_)
 refine gU 0 [0,1,0,1,0,1,0,1,0] [] [.val (.int .u8 (c.toNat : Int)),.val (L6 (c.toNat / 32)),.val (.int .u8 (c.toNat : Int)),.val (I6 26)] ⟨?_,?_,?_,?_,trivial⟩ ?_
 · exact vR (jR 9 _ _ rfl s 0 .i64 c kR kR hc Tryz.underlying9)
 · exact vE (I6 (IntKind.i64.wrap (((c.toNat : Int)).fdiv (2 ^ 5)))) (congrArg (Value.int .i64) (jF c))
 · exact vR (jR 9 _ _ rfl s 0 .i64 c kR kR hc Tryz.underlying9)
 · exact vE (I6 (IntKind.i64.wrap (gC .u8 (c.toNat : Int) 31))) (congrArg (Value.int .i64) (by rw [lY,hk]; rfl))
 refine zq 1 (zn (zs (aB (zQ 3 (zn (dE (zQ 7 (zn (dE (zQ 3 (zn (dE (zk (zQ 4 (zn (zs (zQ 5 (zn (cD (decide ((((s).length : Nat) : Int) < 5)) (fun h0 => ?_) (fun h0 => ?_))))))))))))))))))))
 ·
  refine zQ 1 (dI 0 (fun W hM => eN (Rd.new s) 2 r hM) (fun v0 V0 s0 hV0 hP0 => ?_))
  obtain ⟨rfl,rfl⟩ := hP0
  refine zn (zQ 3 (zn (aA (aH [2,3,4] [(I6 0),(U6 0),(.bool false)] (fun W' hM => ?_)))))
  have hA : decide ((s.length : Int) < ((1 + 4 : Nat) : Int)) = true := h0
  refine dJ (σ' := [(bK r [(St s),(I6 0),(I6 0),(I6 2),(I6 0)] 297)]) hM hV0 ?_
  unfold hd2
  rw [if_pos hA]
  exact ⟨rfl,rfl⟩
 ·
  have h0d := of_decide_eq_false h0
  refine zk (zQ 3 (cH (St ((s.drop 1).take 4)) (lK 9 _ (some _) (some _) rfl s 1 5 ((s.drop 1).take 4) kR (show evS _ _ = _ by kernel_rfl) (show evS _ _ = _ by kernel_rfl) nL nL rfl Tryz.underlying9) ?_))
  refine dL (fun W hM => aAK ((s.drop 1).take 4) W (by rw [List.length_take]; omega)) (zq 1 (zn (zs (zQ 2 (dL (fun W hM => fQ (c.toNat / 32) (fJ 0 ((s.drop 1).take 4)) W oW hjl) (zq 4 (zn (cD (((((Itm.aD (c.toNat / 32) (fJ 0 ((s.drop 1).take 4)))).length : Nat) : Int) != 5) (fun h1 => ?_) (fun h1 => ?_)))))))))
  ·
   refine zQ 1 (dI 0 (fun W hM => eN (Rd.new s) 2 r hM) (fun v1 V1 s1 hV1 hP1 => ?_))
   obtain ⟨rfl,rfl⟩ := hP1
   refine zn (zQ 3 (zn (aA (aH [2,3,4] [(I6 0),(U6 0),(.bool false)] (fun W' hM => ?_)))))
   have hA : decide ((s.length : Int) < ((1 + 4 : Nat) : Int)) = false := h0
   have hB : (((Itm.aD (c.toNat / 32) (fJ 0 ((s.drop 1).take 4))).length : Int) != ((1 + 4 : Nat) : Int)) = true := h1
   refine dJ (σ' := [(bK r [(St s),(I6 0),(I6 0),(I6 2),(I6 0)] 297)]) hM hV1 ?_
   unfold hd2
   rw [if_neg (by rw [hA]; exact Bool.false_ne_true)]
   rw [if_pos hB]
   exact ⟨rfl,rfl⟩
  ·
   refine zk (zB [0,0,0,1,0,0,0,0,0] [(r,1)] (aY 0 r (zn (zQ 5 (zn (aA (aH [2,3,4] [(L6 (c.toNat / 32)),(N6 (fJ 0 ((s.drop 1).take 4))),(.bool false)] (fun W' hM => ?_))))))))
   have hA : decide ((s.length : Int) < ((1 + 4 : Nat) : Int)) = false := h0
   have hB : (((Itm.aD (c.toNat / 32) (fJ 0 ((s.drop 1).take 4))).length : Int) != ((1 + 4 : Nat) : Int)) = false := h1
   refine dJ (σ' := [(bK r [(St s),(I6 5),(I6 (-1)),(I6 0),(I6 0)] 297)]) hM (View.le_refl _) ?_
   unfold hd2
   rw [if_neg (by rw [hA]; exact Bool.false_ne_true)]
   rw [if_neg (by rw [hB]; exact Bool.false_ne_true)]
   exact ⟨rfl,rfl⟩
theorem aNs (s : List UInt8) (r : Nat) (c : UInt8) (hc : s[0]? = some c) (hs : (s == []) = false) (hk : c.toNat % 32 = 27) (hlen : s.length ≤ R47) {W0 : Cx} {U : View} {σF : aF} {W : World} (hM : Mem W0 U ([(r, (Rd.new s).O)] ++ σF) W) : CP 238 #[.pointer (some ⟨r, 0, none⟩)] W (fN W0 U σF (pH r s (hd2 s (c.toNat / 32) 8))) := by
 have hcl := c.toNat_lt
 unfold R47 at hlen
 have hjl : fJ 0 ((s.drop 1).take 8) < W64 := by
  have h := qK ((s.drop 1).take 8) 0 0 (by simp)
  have h2 : 256 ^ (0 + ((s.drop 1).take 8).length) ≤ 256 ^ 8 := Nat.pow_le_pow_right (by decide) (by rw [List.length_take]; omega)
  have h3 : (256 : Nat) ^ 8 = W64 := by decide
  exact Nat.lt_of_lt_of_le h (Nat.le_trans h2 (Nat.le_of_eq h3))
 have hM2 : Mem W0 U ([(bK r [(St s),(I6 0),(I6 (-1)),(I6 0),(I6 0)] 297)] ++ σF) W := hM.eqv kR
 refine eC 104 Tryz.func238 hM2 ?_
 refine zQ 3 (zn (zs (zB [0,0,0,1,0] [(r,1)] (zn (dE (zk (zs ?_)))))))
 refine gU 3 [0,0,0,3,0,0,0,3] [(r,1),(r,1)] [] trivial ?_
 refine cH (St s) (lK 9 _ (some _) none rfl s 0 s.length s kR (show evS _ _ = _ by kernel_rfl) rfl nL nL (by simp) Tryz.underlying9) ?_
 refine zq 1 (zn (zs (zQ 1 (cH (.bool (s == [])) (eJ _ _ _ _ rfl s [] kR kR) ?_))))
 refine zn (eS (s == []) hs ?_)
 refine zk (zs ?_)
 refine gU 0 [0,1,0,1,0,1,0,1,0] [] [.val (.int .u8 (c.toNat : Int)),.val (L6 (c.toNat / 32)),.val (.int .u8 (c.toNat : Int)),.val (I6 27)] ⟨?_,?_,?_,?_,trivial⟩ ?_
 · exact vR (jR 9 _ _ rfl s 0 .i64 c kR kR hc Tryz.underlying9)
 · exact vE (I6 (IntKind.i64.wrap (((c.toNat : Int)).fdiv (2 ^ 5)))) (congrArg (Value.int .i64) (jF c))
 · exact vR (jR 9 _ _ rfl s 0 .i64 c kR kR hc Tryz.underlying9)
 · exact vE (I6 (IntKind.i64.wrap (gC .u8 (c.toNat : Int) 31))) (congrArg (Value.int .i64) (by rw [lY,hk]; rfl))
 refine zq 1 (zn (zs (aB (zQ 3 (zn (dE (zQ 7 (zn (dE (zQ 3 (zn (dE (zk (zQ 4 (zn (zs (zQ 5 (zn (cD (decide ((((s).length : Nat) : Int) < 9)) (fun h0 => ?_) (fun h0 => ?_))))))))))))))))))))
 ·
  refine zQ 1 (dI 0 (fun W hM => eN (Rd.new s) 2 r hM) (fun v0 V0 s0 hV0 hP0 => ?_))
  obtain ⟨rfl,rfl⟩ := hP0
  refine zn (zQ 3 (zn (aA (aH [2,3,4] [(I6 0),(U6 0),(.bool false)] (fun W' hM => ?_)))))
  have hA : decide ((s.length : Int) < ((1 + 8 : Nat) : Int)) = true := h0
  refine dJ (σ' := [(bK r [(St s),(I6 0),(I6 0),(I6 2),(I6 0)] 297)]) hM hV0 ?_
  unfold hd2
  rw [if_pos hA]
  exact ⟨rfl,rfl⟩
 ·
  have h0d := of_decide_eq_false h0
  refine zk (zQ 3 (cH (St ((s.drop 1).take 8)) (lK 9 _ (some _) (some _) rfl s 1 9 ((s.drop 1).take 8) kR (show evS _ _ = _ by kernel_rfl) (show evS _ _ = _ by kernel_rfl) nL nL rfl Tryz.underlying9) ?_))
  refine dL (fun W hM => aAK ((s.drop 1).take 8) W (by rw [List.length_take]; omega)) (zq 1 (zn (zs (zQ 2 (dL (fun W hM => fQ (c.toNat / 32) (fJ 0 ((s.drop 1).take 8)) W oW hjl) (zq 4 (zn (cD (((((Itm.aD (c.toNat / 32) (fJ 0 ((s.drop 1).take 8)))).length : Nat) : Int) != 9) (fun h1 => ?_) (fun h1 => ?_)))))))))
  ·
   refine zQ 1 (dI 0 (fun W hM => eN (Rd.new s) 2 r hM) (fun v1 V1 s1 hV1 hP1 => ?_))
   obtain ⟨rfl,rfl⟩ := hP1
   refine zn (zQ 3 (zn (aA (aH [2,3,4] [(I6 0),(U6 0),(.bool false)] (fun W' hM => ?_)))))
   have hA : decide ((s.length : Int) < ((1 + 8 : Nat) : Int)) = false := h0
   have hB : (((Itm.aD (c.toNat / 32) (fJ 0 ((s.drop 1).take 8))).length : Int) != ((1 + 8 : Nat) : Int)) = true := h1
   refine dJ (σ' := [(bK r [(St s),(I6 0),(I6 0),(I6 2),(I6 0)] 297)]) hM hV1 ?_
   unfold hd2
   rw [if_neg (by rw [hA]; exact Bool.false_ne_true)]
   rw [if_pos hB]
   exact ⟨rfl,rfl⟩
  ·
   refine zk (zB [0,0,0,1,0,0,0,0,0] [(r,1)] (aY 0 r (zn (zQ 5 (zn (aA (aH [2,3,4] [(L6 (c.toNat / 32)),(N6 (fJ 0 ((s.drop 1).take 8))),(.bool false)] (fun W' hM => ?_))))))))
   have hA : decide ((s.length : Int) < ((1 + 8 : Nat) : Int)) = false := h0
   have hB : (((Itm.aD (c.toNat / 32) (fJ 0 ((s.drop 1).take 8))).length : Int) != ((1 + 8 : Nat) : Int)) = false := h1
   refine dJ (σ' := [(bK r [(St s),(I6 9),(I6 (-1)),(I6 0),(I6 0)] 297)]) hM (View.le_refl _) ?_
   unfold hd2
   rw [if_neg (by rw [hA]; exact Bool.false_ne_true)]
   rw [if_neg (by rw [hB]; exact Bool.false_ne_true)]
   exact ⟨rfl,rfl⟩
theorem aGf (s : List UInt8) (r : Nat) (hlen : s.length ≤ R47) {W0 : Cx} {U : View} {σF : aF} {W : World} (hM : Mem W0 U ([(r, (Rd.new s).O)] ++ σF) W) : CP 238 #[.pointer (some ⟨r, 0, none⟩)] W (fN W0 U σF (pH r s (hdF s))) := by
 unfold hdF
 cases hc : s[0]? with
 | none =>
  have : s = [] := by cases s with
   | nil => rfl
   | cons a l => simp at hc
  exact aLj s r (by rw [this]; rfl) hM
 | some c =>
  have hs : (s == []) = false := by cases s with
   | nil => simp at hc
   | cons a l => rfl
  have hcl := c.toNat_lt
  simp only
  unfold hd1
  by_cases h1 : c.toNat % 32 < 24
  ·
   rw [if_pos h1]
   exact aHo s r c hc hs h1 hM
  ·
   rw [if_neg h1]
   by_cases h31 : c.toNat % 32 = 31
   ·
    cases ho : pS ((c.toNat / 32 : Nat) : Int) with
    | true =>
     rw [if_pos ⟨h31, rfl⟩]
     exact aJo s r c hc hs h31 ho hM
    | false =>
     rw [if_neg (fun h => by cases h.2), if_pos oW]
     exact aJq s r c hc hs h31 ho hM
   ·
    rw [if_neg (fun h => h31 h.1)]
    by_cases h28 : 28 ≤ c.toNat % 32
    ·
     rw [if_pos h28]
     exact aJp s r c hc hs h28 h31 hM
    ·
     rw [if_neg h28]
     rcases (by omega : c.toNat % 32 = 24 ∨ c.toNat % 32 = 25 ∨ c.toNat % 32 = 26 ∨ c.toNat % 32 = 27) with h | h | h | h
     · have := aNv s r c hc hs h hlen hM; rw [h]; exact this
     · have := aNu s r c hc hs h hlen hM; rw [h]; exact this
     · have := aNt s r c hc hs h hlen hM; rw [h]; exact this
     · have := aNs s r c hc hs h hlen hM; rw [h]; exact this
theorem aKK (s : List UInt8) (r : Nat) (hx : hdF s = none) (hlen : s.length ≤ R47) {W0 : Cx} {U : View} {σF : aF} {W : World} (hM : Mem W0 U ([(r, (Rd.new s).O)] ++ σF) W) : CP 212 #[.pointer (some ⟨r, 0, none⟩)] W (fN W0 U σF (pH r s (none))) := by
 have hM2 : Mem W0 U ([(bK r [(St s),(I6 0),(I6 (-1)),(I6 0),(I6 0)] 297)] ++ σF) W := hM.eqv kR
 refine eC 17 Tryz.func212 hM2 ?_
 refine zQ 3 (zn (zB [0,0,0,0,1,0,0] [(r,1)] (aY 0 r (zn (zQ 1 (gF 0 (bK r [(St s),(I6 0),(I6 (-1)),(I6 0),(I6 0)] 297) 238 #[(Pt r 0)] (pH r s (none)) (fun W hM => hx ▸ aGf s r hlen hM) (fun v0 V0 s0 hV0 hP0 => ?_)))))))
 obtain ⟨rfl,rfl⟩ := hP0
 refine zq 6 (zn (aA (aH [2,3,4] [(I6 0),(U6 0),(.bool false)] (fun W' hM => ?_))))
 exact dJ (σ' := [(bK r [(St s),(I6 0),(I6 0),(I6 2),(I6 0)] 297)]) hM hV0 ⟨rfl,rfl⟩
theorem aKJ (s : List UInt8) (r : Nat) (m n z : Nat) (o : Bool) (hx : hdF s = some (m, n, o, z)) (hlen : s.length ≤ R47) {W0 : Cx} {U : View} {σF : aF} {W : World} (hM : Mem W0 U ([(r, (Rd.new s).O)] ++ σF) W) : CP 212 #[.pointer (some ⟨r, 0, none⟩)] W (fN W0 U σF (pH r s (some (m, n, o, z)))) := by
 have hM2 : Mem W0 U ([(bK r [(St s),(I6 0),(I6 (-1)),(I6 0),(I6 0)] 297)] ++ σF) W := hM.eqv kR
 refine eC 17 Tryz.func212 hM2 ?_
 refine zQ 3 (zn (zB [0,0,0,0,1,0,0] [(r,1)] (aY 0 r (zn (zQ 1 (gF 0 (bK r [(St s),(I6 0),(I6 (-1)),(I6 0),(I6 0)] 297) 238 #[(Pt r 0)] (pH r s (some (m,n,o,z))) (fun W hM => hx ▸ aGf s r hlen hM) (fun v0 V0 s0 hV0 hP0 => ?_)))))))
 obtain ⟨rfl,rfl⟩ := hP0
 refine zq 6 (zn (aA (aH [2,3,4] [(I6 (m : Int)),(N6 n),(.bool o)] (fun W' hM => ?_))))
 exact dJ (σ' := [(bK r [(St s),(I6 (z : Int)),(I6 (-1)),(I6 0),(I6 0)] 297)]) hM hV0 ⟨rfl,rfl⟩
theorem dQ (s : List UInt8) (r : Nat) (hlen : s.length ≤ R47) {W0 : Cx} {U : View} {σF : aF} {W : World} (hM : Mem W0 U ([(r, (Rd.new s).O)] ++ σF) W) : CP 212 #[.pointer (some ⟨r, 0, none⟩)] W (fN W0 U σF (pH r s (hdF s))) := by
 cases hx : hdF s with
 | none => exact aKK s r hx hlen hM
 | some p => obtain ⟨m, n, o, z⟩ := p; exact aKJ s r m n z o hx hlen hM
theorem aFa (s : List UInt8) (r n z : Nat) (hx : hdF s = some (4, n, true, z)) (hlen : s.length ≤ R47) {W0 : Cx} {U : View} {σF : aF} {W : World} (hM : Mem W0 U ([(r, (Rd.new s).O)] ++ σF) W) : CP 216 #[.pointer (some ⟨r, 0, none⟩)] W (fN W0 U σF fun v _ σ' => v = .int .i64 (-1) ∧ σ' = [(r, (⟨s, z, -1, 0, 0⟩ : Rd).O)]) := by
 have hM2 : Mem W0 U ([(bK r [(St s),(I6 0),(I6 (-1)),(I6 0),(I6 0)] 297)] ++ σF) W := hM.eqv kR
 refine eC 32 Tryz.func216 hM2 ?_
 refine zQ 1 (zn (zQ 1 (gF 0 (bK r [(St s),(I6 0),(I6 (-1)),(I6 0),(I6 0)] 297) 212 #[(Pt r 0)] (pH r s (some (4,n,true,z))) (fun W hM => hx ▸ dQ s r hlen hM) (fun v0 V0 s0 hV0 hP0 => ?_))))
 obtain ⟨rfl,rfl⟩ := hP0
 refine zq 7 (zn (zs (aB (zB [0,0,0,1,0,0] [(r,1)] (zn (dE (zQ 3 (zn (dE (zQ 2 (zn (dF (zQ 1 (zn (aA (aH [2] [(I6 (-1))] (fun W' hM => ?_)))))))))))))))))
 exact dJ (σ' := [(bK r [(St s),(I6 (z : Int)),(I6 (-1)),(I6 0),(I6 0)] 297)]) hM hV0 ⟨rfl,rfl⟩
theorem aFb (s : List UInt8) (r n z : Nat) (hx : hdF s = some (4, n, false, z)) (hlen : s.length ≤ R47) (hn : decide ((n : Int) > 1000) = true) {W0 : Cx} {U : View} {σF : aF} {W : World} (hM : Mem W0 U ([(r, (Rd.new s).O)] ++ σF) W) : CP 216 #[.pointer (some ⟨r, 0, none⟩)] W (fN W0 U σF fun v _ σ' => v = .int .i64 0 ∧ σ' = [(r, (⟨s, 0, 0, 4, 0⟩ : Rd).O)]) := by
 have hM2 : Mem W0 U ([(bK r [(St s),(I6 0),(I6 (-1)),(I6 0),(I6 0)] 297)] ++ σF) W := hM.eqv kR
 refine eC 32 Tryz.func216 hM2 ?_
 refine zQ 1 (zn (zQ 1 (gF 0 (bK r [(St s),(I6 0),(I6 (-1)),(I6 0),(I6 0)] 297) 212 #[(Pt r 0)] (pH r s (some (4,n,false,z))) (fun W hM => hx ▸ dQ s r hlen hM) (fun v0 V0 s0 hV0 hP0 => ?_))))
 obtain ⟨rfl,rfl⟩ := hP0
 refine zq 7 (zn (zs (aB (zB [0,0,0,1,0,0] [(r,1)] (zn (dE (zQ 3 (zn (dE (zQ 2 (zn (dE (zQ 3 (zn (gP (decide ((n : Int) > 1000)) hn ?_)))))))))))))))
 refine zQ 1 (dI 0 (x := (bK r [(St s),(I6 (z : Int)),(I6 (-1)),(I6 0),(I6 0)] 297)) (fun W hM => eN ⟨s,z,-1,0,0⟩ 4 r (hM.eqv kR)) (fun v1 V1 s1 hV1 hP1 => ?_))
 obtain ⟨rfl,rfl⟩ := hP1
 refine zn (zQ 1 (zn (aA (aH [2] [(I6 0)] (fun W' hM => ?_)))))
 exact dJ (σ' := [(bK r [(St s),(I6 0),(I6 0),(I6 4),(I6 0)] 297)]) hM (View.le_trans hV0 hV1) ⟨rfl,rfl⟩
theorem aIJ (s : List UInt8) (r n z : Nat) (hx : hdF s = some (4, n, false, z)) (hlen : s.length ≤ R47) (hn : decide ((n : Int) > 1000) = false) {W0 : Cx} {U : View} {σF : aF} {W : World} (hM : Mem W0 U ([(r, (Rd.new s).O)] ++ σF) W) : CP 216 #[.pointer (some ⟨r, 0, none⟩)] W (fN W0 U σF fun v _ σ' => v = .int .i64 (n : Int) ∧ σ' = [(r, (⟨s, z, -1, 0, 0⟩ : Rd).O)]) := by
 have hn' := of_decide_eq_false hn
 have hw : IntKind.i64.wrap (n : Int) = (n : Int) := IntWalk.i64_in _ oW
 have hM2 : Mem W0 U ([(bK r [(St s),(I6 0),(I6 (-1)),(I6 0),(I6 0)] 297)] ++ σF) W := hM.eqv kR
 refine eC 32 Tryz.func216 hM2 ?_
 refine zQ 1 (zn (zQ 1 (gF 0 (bK r [(St s),(I6 0),(I6 (-1)),(I6 0),(I6 0)] 297) 212 #[(Pt r 0)] (pH r s (some (4,n,false,z))) (fun W hM => hx ▸ dQ s r hlen hM) (fun v0 V0 s0 hV0 hP0 => ?_))))
 obtain ⟨rfl,rfl⟩ := hP0
 refine zq 7 (zn (zs (aB (zB [0,0,0,1,0,0] [(r,1)] (zn (dE (zQ 3 (zn (dE (zQ 2 (zn (dE (zQ 3 (zn (eS (decide ((n : Int) > 1000)) hn ?_)))))))))))))))
 refine zk (zQ 2 (eE 31 (I6 (IntKind.i64.wrap (n : Int))) (I6 (n : Int)) (congrArg (Value.int .i64) hw) ?_))
 refine zq 1 (zn (aA (aH [2] [(I6 (n : Int))] (fun W' hM => ?_))))
 exact dJ (σ' := [(bK r [(St s),(I6 (z : Int)),(I6 (-1)),(I6 0),(I6 0)] 297)]) hM hV0 ⟨rfl,rfl⟩
theorem aMA {s : List UInt8} {m z m' n z' : Nat} {o : Bool} (h : hd2 s m z = some (m', n, o, z')) : z' ≤ s.length ∧ m' = m ∧ o = false ∧ z' = 1 + z := by
 unfold hd2 at h
 split at h
 · cases h
 ·
  next h1 =>
  simp only [decide_eq_true_eq] at h1
  split at h
  · cases h
  ·
   simp only [Option.some.injEq, Prod.mk.injEq] at h
   obtain ⟨rfl, rfl, rfl, rfl⟩ := h
   exact ⟨by omega, rfl, rfl, rfl⟩
theorem iT {s : List UInt8} {m n z : Nat} {o : Bool} (h : hdF s = some (m, n, o, z)) : z ≤ s.length ∧ 1 ≤ z := by
 unfold hdF at h
 split at h
 · cases h
 ·
  next c hc =>
  have hl := (List.getElem?_eq_some_iff.1 hc).1
  unfold hd1 at h
  split at h
  ·
   simp only [Option.some.injEq, Prod.mk.injEq] at h
   omega
  ·
   split at h
   ·
    simp only [Option.some.injEq, Prod.mk.injEq] at h
    omega
   ·
    split at h
    · cases h
    ·
     obtain ⟨h1, _, _, h2⟩ := aMA h
     exact ⟨h1, by rw [h2]; exact Nat.le_add_right _ _⟩
theorem aIF (s : List UInt8) (r k n z most : Nat) (hx : hdF s = some (k, n, true, z)) (hlen : s.length ≤ R47) (hmost : most ≤ 2000000000) {W0 : Cx} {U : View} {σF : aF} {W : World} (hM : Mem W0 U ([(r, (Rd.new s).O)] ++ σF) W) : CP 250 #[.pointer (some ⟨r, 0, none⟩), .int .i64 (k : Int), .int .i64 (most : Int)] W (fN W0 U σF fun v _ σ' => v = .string (B []) ∧ σ' = [(r, (⟨s, 0, 0, 2, 0⟩ : Rd).O)]) := by
 obtain ⟨hz,hz1⟩ := iT hx
 have hlen' := hlen
 unfold R47 at hlen'
 have hkk : ((k : Int) != (k : Int)) = false := by simp
 have hm0 : decide ((most : Int) < 0) = false := decide_eq_false oW
 have hM2 : Mem W0 U ([(bK r [(St s),(I6 0),(I6 (-1)),(I6 0),(I6 0)] 297)] ++ σF) W := hM.eqv kR
 refine eC 84 Tryz.func250 hM2 ?_
 refine zQ 1 (zn (zQ 1 (gF 0 (bK r [(St s),(I6 0),(I6 (-1)),(I6 0),(I6 0)] 297) 212 #[(Pt r 0)] (pH r s (some (k,n,true,z))) (fun W hM => hx ▸ dQ s r hlen hM) (fun v0 V0 s0 hV0 hP0 => ?_))))
 obtain ⟨rfl,rfl⟩ := hP0
 refine zq 7 (zn (zs (aB (zB [0,0,0,1,0,0] [(r,1)] (zn (dE (zs ?_)))))))
 refine gU 8 [0,0,1,0,0,0,0,2,2,2,2,2,2,2,2,2,2,2,2] [] [.val (.bool false)] ⟨?_,trivial⟩ ?_
 · exact vE (.bool ((k : Int) != (k : Int))) (congrArg Value.bool hkk)
 refine zq 3 (zn (dF (zQ 1 (dI 0 (x := (bK r [(St s),(I6 (z : Int)),(I6 (-1)),(I6 0),(I6 0)] 297)) (fun W hM => eN ⟨s,z,-1,0,0⟩ 2 r (hM.eqv kR)) (fun v1 V1 s1 hV1 hP1 => ?_)))))
 obtain ⟨rfl,rfl⟩ := hP1
 refine zn (zQ 1 (zn (aA (aH [6] [(St [])] (fun W' hM => ?_)))))
 exact dJ (σ' := [(bK r [(St s),(I6 0),(I6 0),(I6 2),(I6 0)] 297)]) hM (View.le_trans hV0 hV1) ⟨rfl,rfl⟩
theorem aGR (s : List UInt8) (r k n z most : Nat) (hx : hdF s = some (k, n, false, z)) (hlen : s.length ≤ R47) (hmost : most ≤ 2000000000) (h1 : (decide ((n : Int) > ((((s).length : Nat) : Int) - (z : Int)))) = true) {W0 : Cx} {U : View} {σF : aF} {W : World} (hM : Mem W0 U ([(r, (Rd.new s).O)] ++ σF) W) : CP 250 #[.pointer (some ⟨r, 0, none⟩), .int .i64 (k : Int), .int .i64 (most : Int)] W (fN W0 U σF fun v _ σ' => v = .string (B []) ∧ σ' = [(r, (⟨s, 0, 0, 2, 0⟩ : Rd).O)]) := by
 obtain ⟨hz,hz1⟩ := iT hx
 have hlen' := hlen
 unfold R47 at hlen'
 have hkk : ((k : Int) != (k : Int)) = false := by simp
 have hm0 : decide ((most : Int) < 0) = false := decide_eq_false oW
 have hM2 : Mem W0 U ([(bK r [(St s),(I6 0),(I6 (-1)),(I6 0),(I6 0)] 297)] ++ σF) W := hM.eqv kR
 refine eC 84 Tryz.func250 hM2 ?_
 refine zQ 1 (zn (zQ 1 (gF 0 (bK r [(St s),(I6 0),(I6 (-1)),(I6 0),(I6 0)] 297) 212 #[(Pt r 0)] (pH r s (some (k,n,false,z))) (fun W hM => hx ▸ dQ s r hlen hM) (fun v0 V0 s0 hV0 hP0 => ?_))))
 obtain ⟨rfl,rfl⟩ := hP0
 refine zq 7 (zn (zs (aB (zB [0,0,0,1,0,0] [(r,1)] (zn (dE (zs ?_)))))))
 refine gU 8 [0,0,1,0,0,0,0,0,0,0,0,3,0,0,0,0,3,1,1] [(r,1),(r,1)] [.val (.bool false),.val (I6 ((((s).length : Nat) : Int) - (z : Int))),.val (U6 ((((s).length : Nat) : Int) - (z : Int)))] ⟨?_,?_,?_,trivial⟩ ?_
 · exact vE (.bool ((k : Int) != (k : Int))) (congrArg Value.bool hkk)
 · exact vE (I6 (IntKind.i64.wrap ((((s).length : Nat) : Int) - (z : Int)))) i6v
 · exact vE (U6 (IntKind.u64.wrap ((((s).length : Nat) : Int) - (z : Int)))) (congrArg (Value.int .u64) (u64_in oW oW))
 refine zq 3 (zn (gP (decide ((n : Int) > ((((s).length : Nat) : Int) - (z : Int)))) h1 ?_))
 refine zQ 1 (dI 0 (x := (bK r [(St s),(I6 (z : Int)),(I6 (-1)),(I6 0),(I6 0)] 297)) (fun W hM => eN ⟨s,z,-1,0,0⟩ 2 r (hM.eqv kR)) (fun v1 V1 s1 hV1 hP1 => ?_))
 obtain ⟨rfl,rfl⟩ := hP1
 refine zn (zQ 1 (zn (aA (aH [6] [(St [])] (fun W' hM => ?_)))))
 exact dJ (σ' := [(bK r [(St s),(I6 0),(I6 0),(I6 2),(I6 0)] 297)]) hM (View.le_trans hV0 hV1) ⟨rfl,rfl⟩
theorem aIG (s : List UInt8) (r k n z most : Nat) (hx : hdF s = some (k, n, false, z)) (hlen : s.length ≤ R47) (hmost : most ≤ 2000000000) (h1 : (decide ((n : Int) > ((((s).length : Nat) : Int) - (z : Int)))) = false) (h2 : (decide ((n : Int) > (most : Int))) = true) {W0 : Cx} {U : View} {σF : aF} {W : World} (hM : Mem W0 U ([(r, (Rd.new s).O)] ++ σF) W) : CP 250 #[.pointer (some ⟨r, 0, none⟩), .int .i64 (k : Int), .int .i64 (most : Int)] W (fN W0 U σF fun v _ σ' => v = .string (B []) ∧ σ' = [(r, (⟨s, 0, 0, 4, 0⟩ : Rd).O)]) := by
 obtain ⟨hz,hz1⟩ := iT hx
 have hlen' := hlen
 unfold R47 at hlen'
 have hkk : ((k : Int) != (k : Int)) = false := by simp
 have hm0 : decide ((most : Int) < 0) = false := decide_eq_false oW
 have hM2 : Mem W0 U ([(bK r [(St s),(I6 0),(I6 (-1)),(I6 0),(I6 0)] 297)] ++ σF) W := hM.eqv kR
 refine eC 84 Tryz.func250 hM2 ?_
 refine zQ 1 (zn (zQ 1 (gF 0 (bK r [(St s),(I6 0),(I6 (-1)),(I6 0),(I6 0)] 297) 212 #[(Pt r 0)] (pH r s (some (k,n,false,z))) (fun W hM => hx ▸ dQ s r hlen hM) (fun v0 V0 s0 hV0 hP0 => ?_))))
 obtain ⟨rfl,rfl⟩ := hP0
 refine zq 7 (zn (zs (aB (zB [0,0,0,1,0,0] [(r,1)] (zn (dE (zs ?_)))))))
 refine gU 8 [0,0,1,0,0,0,0,0,0,0,0,3,0,0,0,0,3,1,1] [(r,1),(r,1)] [.val (.bool false),.val (I6 ((((s).length : Nat) : Int) - (z : Int))),.val (U6 ((((s).length : Nat) : Int) - (z : Int)))] ⟨?_,?_,?_,trivial⟩ ?_
 · exact vE (.bool ((k : Int) != (k : Int))) (congrArg Value.bool hkk)
 · exact vE (I6 (IntKind.i64.wrap ((((s).length : Nat) : Int) - (z : Int)))) i6v
 · exact vE (U6 (IntKind.u64.wrap ((((s).length : Nat) : Int) - (z : Int)))) (congrArg (Value.int .u64) (u64_in oW oW))
 refine zq 3 (zn (eS (decide ((n : Int) > ((((s).length : Nat) : Int) - (z : Int)))) h1 ?_))
 refine zQ 3 (eE 50 (.bool (decide ((most : Int) < 0))) (.bool false) (congrArg Value.bool hm0) ?_)
 refine zq 3 (eE 53 (U6 (IntKind.u64.wrap (most : Int))) (N6 most) (congrArg (Value.int .u64) (u64_in oW oW)) ?_)
 refine zq 3 (zn (gP (decide ((n : Int) > (most : Int))) h2 ?_))
 refine zQ 1 (dI 0 (x := (bK r [(St s),(I6 (z : Int)),(I6 (-1)),(I6 0),(I6 0)] 297)) (fun W hM => eN ⟨s,z,-1,0,0⟩ 4 r (hM.eqv kR)) (fun v1 V1 s1 hV1 hP1 => ?_))
 obtain ⟨rfl,rfl⟩ := hP1
 refine zn (zQ 1 (zn (aA (aH [6] [(St [])] (fun W' hM => ?_)))))
 exact dJ (σ' := [(bK r [(St s),(I6 0),(I6 0),(I6 4),(I6 0)] 297)]) hM (View.le_trans hV0 hV1) ⟨rfl,rfl⟩
theorem aMl (s : List UInt8) (r k n z most : Nat) (hx : hdF s = some (k, n, false, z)) (hlen : s.length ≤ R47) (hmost : most ≤ 2000000000) (h1 : (decide ((n : Int) > ((((s).length : Nat) : Int) - (z : Int)))) = false) (h2 : (decide ((n : Int) > (most : Int))) = false) {W0 : Cx} {U : View} {σF : aF} {W : World} (hM : Mem W0 U ([(r, (Rd.new s).O)] ++ σF) W) : CP 250 #[.pointer (some ⟨r, 0, none⟩), .int .i64 (k : Int), .int .i64 (most : Int)] W (fN W0 U σF fun v _ σ' => v = .string (B ((s.drop z).take n)) ∧ σ' = [(r, (⟨s, z + n, -1, 0, 0⟩ : Rd).O)]) := by
 obtain ⟨hz,hz1⟩ := iT hx
 have hlen' := hlen
 unfold R47 at hlen'
 have hkk : ((k : Int) != (k : Int)) = false := by simp
 have hm0 : decide ((most : Int) < 0) = false := decide_eq_false oW
 have h1' := of_decide_eq_false h1
 have h2' := of_decide_eq_false h2
 have hM2 : Mem W0 U ([(bK r [(St s),(I6 0),(I6 (-1)),(I6 0),(I6 0)] 297)] ++ σF) W := hM.eqv kR
 refine eC 84 Tryz.func250 hM2 ?_
 refine zQ 1 (zn (zQ 1 (gF 0 (bK r [(St s),(I6 0),(I6 (-1)),(I6 0),(I6 0)] 297) 212 #[(Pt r 0)] (pH r s (some (k,n,false,z))) (fun W hM => hx ▸ dQ s r hlen hM) (fun v0 V0 s0 hV0 hP0 => ?_))))
 obtain ⟨rfl,rfl⟩ := hP0
 refine zq 7 (zn (zs (aB (zB [0,0,0,1,0,0] [(r,1)] (zn (dE (zs ?_)))))))
 refine gU 8 [0,0,1,0,0,0,0,0,0,0,0,3,0,0,0,0,3,1,1] [(r,1),(r,1)] [.val (.bool false),.val (I6 ((((s).length : Nat) : Int) - (z : Int))),.val (U6 ((((s).length : Nat) : Int) - (z : Int)))] ⟨?_,?_,?_,trivial⟩ ?_
 · exact vE (.bool ((k : Int) != (k : Int))) (congrArg Value.bool hkk)
 · exact vE (I6 (IntKind.i64.wrap ((((s).length : Nat) : Int) - (z : Int)))) i6v
 · exact vE (U6 (IntKind.u64.wrap ((((s).length : Nat) : Int) - (z : Int)))) (congrArg (Value.int .u64) (u64_in oW oW))
 refine zq 3 (zn (eS (decide ((n : Int) > ((((s).length : Nat) : Int) - (z : Int)))) h1 ?_))
 refine zQ 3 (eE 50 (.bool (decide ((most : Int) < 0))) (.bool false) (congrArg Value.bool hm0) ?_)
 refine zq 3 (eE 53 (U6 (IntKind.u64.wrap (most : Int))) (N6 most) (congrArg (Value.int .u64) (u64_in oW oW)) ?_)
 refine zq 3 (zn (eS (decide ((n : Int) > (most : Int))) h2 ?_))
 refine zk (zs ?_)
 refine gU 4 [0,0,0,3,0,0,0,3,0,0,0,3,0,1,1] [(r,1),(r,1),(r,1)] [.val (I6 (n : Int)),.val (I6 ((z : Int) + (n : Int)))] ⟨?_,?_,trivial⟩ ?_
 · exact vE (I6 (IntKind.i64.wrap (n : Int))) i6v
 · exact vE (I6 (IntKind.i64.wrap ((z : Int) + (n : Int)))) i6v
 refine cH (St ((s.drop z).take ((z + n) - z))) (lK 9 _ (some _) (some _) rfl s z (z + n) ((s.drop z).take ((z + n) - z)) kR (show evS _ _ = _ by kernel_rfl) (show evS _ _ = _ by kernel_rfl) nL nL rfl Tryz.underlying9) ?_
 refine zq 1 (zn (zB [0,0,0,1,0,0] [(r,1)] (eV 79 (n : Int) (zq 1 (eV 80 ((z : Int) + (n : Int)) (zq 2 (aY 0 r (zn (zQ 2 (zn (aA (aH [6] [(St ((s.drop z).take ((z + n) - z)))] (fun W' hM => ?_)))))))))))))
 exact dJ (σ' := [(bK r [(St s),(I6 ((z : Int) + (n : Int))),(I6 (-1)),(I6 0),(I6 0)] 297)]) hM hV0 ⟨by show Value.string (B ((s.drop z).take (z + n - z))) = _; rw [Nat.add_sub_cancel_left],by kernel_rfl⟩
structure Ps where
 b : List UInt8
 at_ : Nat
 e : Int
def Ps.cs (p : Ps) : List Value := [.string (B p.b), .int .i64 (p.at_ : Int), .int .i64 p.e]
def Ps.O (p : Ps) : Obj := .cells p.cs.toArray 245 (0, 0)
def Ps.rest (p : Ps) : List UInt8 := p.b.drop p.at_
structure Ps.ok (p : Ps) : Prop where
 le : p.at_ ≤ p.b.length
 len : p.b.length ≤ R47
theorem Ps.rest_len {p : Ps} (h : p.ok) : p.rest.length ≤ R47 := by
 unfold Ps.rest
 rw [List.length_drop]
 have := h.len
 omega
theorem dD (ps : Ps) (p : Nat) (hp : ps.ok) {W0 : Cx} {U : View} {σF : aF} {W : World} (hM : Mem W0 U ([(p, ps.O)] ++ σF) W) : CP 211 #[.pointer (some ⟨p, 0, none⟩)] W (fN W0 U σF fun v _ σ' => ∃ r, v = .pointer (some ⟨r, 0, none⟩) ∧ σ' = [(r, (Rd.new ps.rest).O), (p, ps.O)]) := by
 have hle := hp.le
 have hM2 : Mem W0 U ([(bK p [(St ps.b),(I6 (ps.at_ : Int)),(I6 ps.e)] 245)] ++ σF) W := hM.eqv kR
 refine eC 13 Tryz.func211 hM2 ?_
 refine zQ 1 (zn (zs ?_))
 refine gU 4 [0,0,0,3,0,0,0,3] [(p,1),(p,1)] [] trivial ?_
 refine cH (St (ps.b.drop ps.at_)) (lK 9 _ (some _) none rfl ps.b ps.at_ ps.b.length (ps.b.drop ps.at_) kR (show evS _ _ = _ by kernel_rfl) rfl nL nL (aCN _ _) Tryz.underlying9) ?_
 refine aKp 237 #[(St (ps.b.drop ps.at_))] (fun v _ σ' => aOm (Rd.new (ps.b.drop ps.at_)) v σ') (fun W hM => aC2 (ps.b.drop ps.at_) hM) (fun v0 V0 s0 hV0 hP0 => ?_)
 obtain ⟨r0,rfl,rfl⟩ := hP0
 refine zq 1 (zn (aA (aH [2] [(Pt r0 0)] (fun W' hM => ?_))))
 exact dJ (σ' := [(r0,(Rd.new (ps.b.drop ps.at_)).O),(bK p [(St ps.b),(I6 (ps.at_ : Int)),(I6 ps.e)] 245)]) hM hV0 ⟨_,rfl,rfl⟩
theorem pR {W0 : Cx} {U V : View} {σ σF : aF} {Φ : Value → View → aF → Prop} {v : Value} {W' : World} (σ' σd : aF) (hM : Mem W0 V σ W') (e : σ = (σ' ++ σd) ++ σF) (hl : View.le U V) (h : Φ v V σ') : fN W0 U σF Φ (.returned v) W' := by
 subst e
 exact ⟨v, V, σ', rfl, hl, hM.sub (List.Sublist.append (List.sublist_append_left σ' σd) (List.Sublist.refl σF)), h⟩
def Ps.fail (p : Ps) (at_ : Nat) (e : Int) : Ps := if p.e == 0 then ⟨p.b, at_, e⟩ else p
def itZ : Value := .agg #[.int .i64 0, .int .u64 0, .string (B []), .slice none 0 0, .bool false]
theorem gG (ps : Ps) (p at_ : Nat) (e : Int) {W0 : Cx} {U : View} {σF : aF} {W : World} (hM : Mem W0 U ([(p, ps.O)] ++ σF) W) : CP 182 #[.pointer (some ⟨p, 0, none⟩), .int .i64 (at_ : Int), .int .i64 e] W (fN W0 U σF fun v _ σ' => v = itZ ∧ σ' = [(p, (ps.fail at_ e).O)]) := by
 have hM2 : Mem W0 U ([(bK p [(St ps.b),(I6 (ps.at_ : Int)),(I6 ps.e)] 245)] ++ σF) W := hM.eqv kR
 refine eC 21 Tryz.func182 hM2 ?_
 refine zs (zr (dN 1 (fun b0 => ?_)))
 refine zn (zs (zB [0,0,0,1,0] [(p,1)] (zn (cD (ps.e == 0) (fun h0 => ?_) (fun h0 => ?_)))))
 ·
  refine zr (zq 6 (aY 0 p (zq 2 (aY 0 p (zn (zQ 1 (aY 1 b0 (zn (aA (dU [2] [(b0,5)] [(.agg #[(I6 0),(U6 0),(St []),S0,(.bool false)])] (fun W' hM => ?_)))))))))))
  exact pR [(bK p [(St ps.b),(I6 (at_ : Int)),(I6 e)] 245)] [(b0,.cells [(I6 0),(U6 0),(St []),S0,(.bool false)].toArray 89 (0,0))] hM kR (View.le_refl _) ⟨rfl,by simp only [Ps.fail,h0,if_true,Bool.false_eq_true,if_false]; rfl⟩
 ·
  refine zk (zQ 1 (aY 1 b0 (zn (aA (dU [2] [(b0,5)] [(.agg #[(I6 0),(U6 0),(St []),S0,(.bool false)])] (fun W' hM => ?_))))))
  exact pR [(bK p [(St ps.b),(I6 (ps.at_ : Int)),(I6 ps.e)] 245)] [(b0,.cells [(I6 0),(U6 0),(St []),S0,(.bool false)].toArray 89 (0,0))] hM kR (View.le_refl _) ⟨rfl,by simp only [Ps.fail,h0,if_true,Bool.false_eq_true,if_false]; rfl⟩
end Go.Proofs.YtcdjakemdlinhaaGreatDoor.Sx
