/-
  Several texts in one: Ite2 Sx8 Sx9 Rel2 Sx10 SxJ Sx11 Shelf Cln1 Rep Pri2 Sum1 Blk1.
  Conditions: named at each.
-/
import Derived.Test.YtcdjakemdlinhaaGreatDoorG03
import Derived.MapKept
import Derived.ChangeMaps5
import Derived.Shelf.Strings.Builder1
import Derived.Shelf.Strings.Builder2
import Derived.Shelf.Strings.OnBuilder
import Derived.Shelf.Strings.BuilderF
import Derived.Shelf.Strings.BuilderK
import Derived.Shelf.Strings.Builder2Cap
import Derived.Shelf.Strings.Prefix
import Derived.Shelf.Bits.Mul64
import Derived.Shelf.Strings.Repeat
import Derived.Test.YtcdjakemdlinhaaGreatDoorProg
set_option maxHeartbeats 16000000
set_option linter.unusedSimpArgs false
set_option linter.unusedVariables false
set_option linter.unusedSectionVars false
namespace Go.Proofs.YtcdjakemdlinhaaGreatDoor.Sx
open Go.ChangeShapes Go.WideShapes Go.ChangeAt Go.RowKit Go.Deep
theorem aJN (n : Nat) (hn : n < W64) (a : Option Addr) (c : Nat) (w : World) : CP 180 #[.agg #[(.int .i64 0), (.int .u64 (n : Int)), (.string (B [])), (.slice a 0 c), (.bool false)]] w (Ret (.string (B (Itm.aD 0 n))) w) := by
 refine dK 48 Tryz.func180 ?_
 refine zs (zr (cJ (fun b0 => (zq 1 (zn (zs (zB [0,1] [(b0,1)] (zn (aB (zQ 2 (zn (dF (zB [0,1] [(b0,1)] (dL (fun W hM => fQ 0 n W oW (by first | assumption | (unfold W64; omega) | decide)) (zq 1 (zn (aA (jJ 2))))))))))))))))))
theorem aJM (l : List UInt8) (hl : l.length ≤ R47) (a : Option Addr) (c : Nat) (w : World) : CP 180 #[.agg #[(.int .i64 2), (.int .u64 0), (.string (B l)), (.slice a 0 c), (.bool false)]] w (Ret (.string (B (Itm.aD 2 l.length ++ l))) w) := by
 refine dK 48 Tryz.func180 ?_
 refine zs (zr (cJ (fun b0 => (zq 1 (zn (zs (zB [0,1] [(b0,1)] (zn (aB (zQ 2 (zn (dE (zQ 2 (zn (dF (zB [0,1] [(b0,1)] (dL (fun W hM => aCA l W (by first | assumption | (unfold R47; omega))) (zq 1 (zn (aA (jJ 2)))))))))))))))))))))
theorem aJL (l : List UInt8) (hl : l.length ≤ R47) (a : Option Addr) (c : Nat) (w : World) : CP 180 #[.agg #[(.int .i64 3), (.int .u64 0), (.string (B l)), (.slice a 0 c), (.bool false)]] w (Ret (.string (B (Itm.aD 3 l.length ++ l))) w) := by
 refine dK 48 Tryz.func180 ?_
 refine zs (zr (cJ (fun b0 => (zq 1 (zn (zs (zB [0,1] [(b0,1)] (zn (aB (zQ 2 (zn (dE (zQ 2 (zn (dE (zQ 2 (zn (dF (zB [0,1] [(b0,1)] (dL (fun W hM => aJI l W (by first | assumption | (unfold R47; omega))) (zq 1 (zn (aA (jJ 2))))))))))))))))))))))))
theorem gI {l : List Itm.Tr} {i : Nat} {y : Itm.Tr} (h : l[i]? = some y) : Itm.dG (l.drop i) = Itm.aE y ++ Itm.dG (l.drop (i + 1)) := by
 obtain ⟨hl, rfl⟩ := List.getElem?_eq_some_iff.1 h
 rw [List.drop_eq_getElem_cons hl, Itm.dG]
def aAT : Nat := 72057594037927936
theorem aJO (d : Nat) (l : List Itm.Tr) (o : Bool) {U : View} {w : World} (hU : See U w) (a : Option Addr) (c : Nat) (hts : fG U a l)
    (ih : ∀ (t : Itm.Tr) (cs : List Value) {U : View} {w : World}, (∀ a v, U a = some v → w.cell? a = some v) → TV U t cs → Itm.aN d t = true → Itm.szT t ≤ aAT → CP 180 #[.agg cs.toArray] w (Ret (.string (B (Itm.aE t))) w))
    (hr : l.all (Itm.aN d) = true) (hsz : Itm.szL l ≤ aAT) :
    CP 180 #[.agg #[.int .i64 4, .int .u64 0, .string (B []), .slice a l.length c, .bool o]] w (Ret (.string (B ((if o then [159] else Itm.aD 4 l.length) ++ (Itm.dG l ++ (if o then [255] else []))))) w) := by
 have hl47 := hts.len
 unfold R47 at hl47
 have hbl := Itm.lG l
 have hhl := Itm.aW 4 l.length
 have hsz' := hsz
 unfold aAT at hsz'
 refine eG 48 Tryz.func180 hU ?_
 refine zs (zr (cJ (fun b0 => (zq 1 (zn (zs (zB [0,1] [(b0,1)] (zn (aB (zQ 2 (zn (dE (zQ 2 (zn (dE (zQ 2 (zn (dE (zk (zB [0,1,0,0] [(b0,1)] (eE 27 (U6 (IntKind.u64.wrap (l.length : Int))) (N6 ((l.length : Nat))) (congrArg (Value.int .u64) (u64_in oW oW)) ?_)))))))))))))))))))))
 refine dL (fun W hM => fQ 4 l.length W oW (by first | assumption | (unfold W64; omega) | decide)) (zq 2 (zn (zs (zB [0,1] [(b0,1)] (zn (cD o (fun h0 => ?_) (fun h0 => ?_)))))))
 ·
  refine zr (dL (fun W hM => aAd W) (dL (fun W hM => aAc W) (zq 2 (zn (zs (zB [0,1,0,0] [(b0,1)] (zn (aB (gX (α := Nat × List UInt8) (fun x => [2,3,4,34,35,36].zip [(St []),(St x.2),(St [255]),(.slice a l.length c),(L6 l.length),(L6 x.1)]) (fun x => U) (fun x => [(b0,.cells [(I6 4),(U6 0),(St []),(.slice a l.length c),(.bool o)].toArray 89 (0,0))]) (fun x => x.1 ≤ l.length ∧ x.2 ++ Itm.dG (l.drop x.1) = [159] ++ Itm.dG l) (fun x => l.length - x.1) (0,[159]) ?_ ?_)))))))))
  · exact ⟨by simp,rfl⟩
  intro x hx
  obtain ⟨hx1,hx2⟩ := hx
  have hxl := congrArg List.length hx2
  simp only [List.length_append,List.length_cons,List.length_nil] at hxl
  refine zQ 1 (zn (zs (cD (decide ((x.1 : Int) < (l.length : Int))) (fun h1 => ?_) (fun h1 => ?_))))
  ·
   have h1d := of_decide_eq_true h1
   refine zk (zs (aB (zs (zr ?_))))
   obtain ⟨y1,hy1⟩ : ∃ y,(l)[x.1]? = some y := ⟨(l)[x.1]'oW,List.getElem?_eq_getElem _⟩
   obtain ⟨b1,f1,cs1,rfl,hU1,ht1⟩ := hts.at_ x.1 y1 hy1
   obtain ⟨a1,c1,rfl,hts1,hn1,hs1,hl1⟩ := ht1.form
   have hyr := List.all_eq_true.1 hr y1 (List.mem_of_getElem? hy1)
   have hyB := Itm.eM y1
   have hyS := Itm.aCO hy1
   have hyL := gI hy1
   have hyL2 := congrArg List.length hyL
   simp only [List.length_append] at hyL2
   refine cH (Pt b1 (f1 + x.1 * 5)) (rIx 89 rfl b1 f1 l.length c x.1 5) ?_
   refine zU b1 (f1 + x.1 * 5) (tC y1 a1 c1) hU1 89 (.tmp 38) _ Tryz.underlying89 rfl ?_
   refine cJ (fun b2 => (aY 1 b2 (zn (zr (cU [0,2] [(b2,5)] (dA 180 #[(tV y1 a1 c1)] (St (Itm.aE y1)) (fun W hM => ih _ _ hM.view ht1 hyr (by unfold aAT; omega)) ?_))))))
   refine cH (St (x.2 ++ (Itm.aE y1))) (cE _ _ _ _ rfl x.2 (Itm.aE y1) kR kR oA) ?_
   refine zq 1 (zn (zr (zq 1 (eV 44 ((x.1 : Int) + 1) (zq 1 (zn ?_))))))
   refine nx (x.1 + 1,(x.2 ++ (Itm.aE y1))) ?_ ?_ (d := fun _ h => Mem.sub (List.sublist_append_left _ _) (h.eqv (show _ = ([(b0,.cells [(I6 4),(U6 0),(St []),(Sl b1 f1 l.length c),(.bool o)].toArray 89 (0,0))] : aF) ++ ([(bK b2 (tC y1 a1 c1) 89)] : aF) from by kernel_rfl)))
   · exact ⟨by show x.1 + 1 ≤ _; omega,by rw [← hx2,gI hy1,List.append_assoc]⟩
   · show l.length - (x.1 + 1) < l.length - x.1; omega
  ·
   have h1d := of_decide_eq_false h1
   refine aU (zQ 2 (cH (St (x.2 ++ [255])) (cE _ _ _ _ rfl x.2 [255] kR kR oA) ?_))
   refine zq 1 (zn (aA (aH [2] [(St (x.2 ++ [255]))] (fun W' hM => ?_))))
   refine ⟨?_,hM.below⟩
   rw [show x.1 = l.length by omega,List.drop_length] at hx2
   simp only [Itm.dG,List.append_nil] at hx2
   simp only [cG,hx2,h0,if_true,Bool.false_eq_true,if_false,List.append_assoc,List.append_nil]
 ·
  refine zk (zs (zB [0,1,0,0] [(b0,1)] (zn (aB (gX (α := Nat × List UInt8) (fun x => [2,3,4,34,35,36].zip [(St []),(St x.2),(St []),(.slice a l.length c),(L6 l.length),(L6 x.1)]) (fun x => U) (fun x => [(b0,.cells [(I6 4),(U6 0),(St []),(.slice a l.length c),(.bool o)].toArray 89 (0,0))]) (fun x => x.1 ≤ l.length ∧ x.2 ++ Itm.dG (l.drop x.1) = (Itm.aD 4 l.length) ++ Itm.dG l) (fun x => l.length - x.1) (0,(Itm.aD 4 l.length)) ?_ ?_)))))
  · exact ⟨by simp,rfl⟩
  intro x hx
  obtain ⟨hx1,hx2⟩ := hx
  have hxl := congrArg List.length hx2
  simp only [List.length_append,List.length_cons,List.length_nil] at hxl
  refine zQ 1 (zn (zs (cD (decide ((x.1 : Int) < (l.length : Int))) (fun h2 => ?_) (fun h2 => ?_))))
  ·
   have h2d := of_decide_eq_true h2
   refine zk (zs (aB (zs (zr ?_))))
   obtain ⟨y3,hy3⟩ : ∃ y,(l)[x.1]? = some y := ⟨(l)[x.1]'oW,List.getElem?_eq_getElem _⟩
   obtain ⟨b3,f3,cs3,rfl,hU3,ht3⟩ := hts.at_ x.1 y3 hy3
   obtain ⟨a3,c3,rfl,hts3,hn3,hs3,hl3⟩ := ht3.form
   have hyr := List.all_eq_true.1 hr y3 (List.mem_of_getElem? hy3)
   have hyB := Itm.eM y3
   have hyS := Itm.aCO hy3
   have hyL := gI hy3
   have hyL2 := congrArg List.length hyL
   simp only [List.length_append] at hyL2
   refine cH (Pt b3 (f3 + x.1 * 5)) (rIx 89 rfl b3 f3 l.length c x.1 5) ?_
   refine zU b3 (f3 + x.1 * 5) (tC y3 a3 c3) hU3 89 (.tmp 38) _ Tryz.underlying89 rfl ?_
   refine cJ (fun b4 => (aY 1 b4 (zn (zr (cU [0,2] [(b4,5)] (dA 180 #[(tV y3 a3 c3)] (St (Itm.aE y3)) (fun W hM => ih _ _ hM.view ht3 hyr (by unfold aAT; omega)) ?_))))))
   refine cH (St (x.2 ++ (Itm.aE y3))) (cE _ _ _ _ rfl x.2 (Itm.aE y3) kR kR oA) ?_
   refine zq 1 (zn (zr (zq 1 (eV 44 ((x.1 : Int) + 1) (zq 1 (zn ?_))))))
   refine nx (x.1 + 1,(x.2 ++ (Itm.aE y3))) ?_ ?_ (d := fun _ h => Mem.sub (List.sublist_append_left _ _) (h.eqv (show _ = ([(b0,.cells [(I6 4),(U6 0),(St []),(Sl b3 f3 l.length c),(.bool o)].toArray 89 (0,0))] : aF) ++ ([(bK b4 (tC y3 a3 c3) 89)] : aF) from by kernel_rfl)))
   · exact ⟨by show x.1 + 1 ≤ _; omega,by rw [← hx2,gI hy3,List.append_assoc]⟩
   · show l.length - (x.1 + 1) < l.length - x.1; omega
  ·
   have h2d := of_decide_eq_false h2
   refine aU (zQ 2 (cH (St (x.2 ++ [])) (cE _ _ _ _ rfl x.2 [] kR kR oA) ?_))
   refine zq 1 (zn (aA (aH [2] [(St (x.2 ++ []))] (fun W' hM => ?_))))
   refine ⟨?_,hM.below⟩
   rw [show x.1 = l.length by omega,List.drop_length] at hx2
   simp only [Itm.dG,List.append_nil] at hx2
   simp only [cG,hx2,h0,if_true,Bool.false_eq_true,if_false,List.append_assoc,List.append_nil]
theorem aEt : ∀ (d : Nat) (t : Itm.Tr) (cs : List Value) {U : View} {w : World}, (∀ a v, U a = some v → w.cell? a = some v) → TV U t cs → Itm.aN d t = true → Itm.szT t ≤ aAT → CP 180 #[.agg cs.toArray] w (Ret (.string (B (Itm.aE t))) w)
 | 0, t, cs, U, w, _, _, hr, _ => by cases hr
 | d + 1, t, cs, U, w, hU, h, hr, hsz => by
  obtain ⟨a, c, rfl, hts, hn, hs, hl⟩ := h.form
  unfold Itm.aN at hr
  rw [Bool.and_eq_true] at hr
  obtain ⟨hok, hall⟩ := hr
  obtain ⟨k, n, s, l, o⟩ := t
  simp only [Itm.Tr.k, Itm.Tr.n, Itm.Tr.s, Itm.Tr.l, Itm.Tr.o] at *
  rw [Itm.szT] at hsz
  rcases Itm.oQ hok with ⟨rfl, rfl, hlen, rfl⟩ | ⟨rfl, rfl, hlen, rfl⟩ | ⟨rfl, rfl, hlen, rfl⟩ | ⟨rfl, rfl, rfl, hle⟩
  ·
   obtain rfl := List.length_eq_zero_iff.1 hlen
   exact aJN n hn a c w
  ·
   obtain rfl := List.length_eq_zero_iff.1 hlen
   exact aJM s hs a c w
  ·
   obtain rfl := List.length_eq_zero_iff.1 hlen
   exact aJL s hs a c w
  · exact aJO d l o hU a c hts (aEt d) hall oW
theorem mW (t : Itm.Tr) (cs : List Value) {U : View} {w : World} (hU : See U w) (h : TV U t cs) (hr : Itm.aN 8 t = true) (hsz : Itm.szT t ≤ aAT) : CP 136 #[.agg cs.toArray] w (Ret (.tuple #[.string (B (Itm.aE t)), .int .i64 0]) w) := by
 have h0 := h
 obtain ⟨a,c,rfl,hts,hn,hs,hl⟩ := h.form
 refine eG 9 Tryz.func136 hU ?_
 refine zs (zr (cJ (fun b0 => (zq 2 (zn (zs (zB [1] [(b0,5)] (dA 179 #[(tV t a c)] (.bool (Itm.aN 8 t)) (fun W hM => lO t _ W hM.view h0) ?_))))))))
 refine zq 1 (zn (eS (!(Itm.aN 8 t)) (by rw [hr]; rfl) ?_))
 refine zk (zB [1] [(b0,5)] (dA 180 #[(tV t a c)] (St (Itm.aE t)) (fun W hM => aEt 8 t _ hM.view h0 hr hsz) ?_))
 refine zq 2 (zn (aA (aH [2,3] [(St (Itm.aE t)),(I6 0)] (fun W' hM => ?_))))
 exact ⟨rfl,hM.below⟩
theorem Mem.perm {W0 : Cx} {W : World} {U : View} {σ σ' : aF} (hp : σ.Perm σ') (h : Mem W0 U σ W) : Mem W0 U σ' W := by
 obtain ⟨h1, h0, h2, h3, h4⟩ := h
 have hnd : (σ.map Prod.fst).Nodup := by
  refine List.pairwise_iff_getElem.2 fun i j hi hj hij he => ?_
  rw [List.length_map] at hi hj
  rw [List.getElem_map, List.getElem_map] at he
  have := h4 i j _ _ (List.getElem?_eq_getElem hi) (List.getElem?_eq_getElem hj) he
  omega
 have hnd' : (σ'.map Prod.fst).Nodup := (hp.map Prod.fst).nodup_iff.1 hnd
 refine ⟨h1, h0, h2, fun k b o hk => ?_, fun j k x y hj hk e => ?_⟩
 ·
  have hm : (b, o) ∈ σ := hp.mem_iff.2 (List.mem_of_getElem? hk)
  obtain ⟨i, hi⟩ := List.getElem?_of_mem hm
  exact h3 i b o hi
 ·
  have hq := List.pairwise_iff_getElem.1 hnd'
  obtain ⟨hjl, rfl⟩ := List.getElem?_eq_some_iff.1 hj
  obtain ⟨hkl, rfl⟩ := List.getElem?_eq_some_iff.1 hk
  rcases Nat.lt_trichotomy j k with hl | hl | hl
  · exact absurd (by rw [List.getElem_map, List.getElem_map]; exact e) (hq j k (by simpa using hjl) (by simpa using hkl) hl)
  · exact hl
  · exact absurd (by rw [List.getElem_map, List.getElem_map]; exact e.symm) (hq k j (by simpa using hkl) (by simpa using hjl) hl)
section
variable {P : Program} {n : Nat} {W0 : Cx} {Q : XQ} {s : cB} {U : View} {σ : aF} {ops : Array Oper} {l : List Oper} {o : Oper}
theorem aH4 (σ1 ρ : aF) (hσ : σ = σ1 ++ ρ) (x : Obj) (v : Nat → Value) (hm : makes P s o = some (x, fun r => some (v r))) (hd : eL n o = true) (hw : cZ ops s o = some true)
  (h : ∀ b, SXL P n W0 Q ops l (jX o (v b) s) U ((σ1 ++ [(b, x)]) ++ ρ)) : SXL P n W0 Q ops (o :: l) s U σ := by
 subst hσ
 refine aLI x v hm hd hw fun b => lV U _ (fun W hM => hM.perm ?_) (h b)
 rw [List.append_assoc, List.append_assoc]
 exact List.Perm.append (List.Perm.refl _) List.perm_append_comm
theorem fV (r : Rw) (xs : List Value) (m : Nat) (σ1 : aF) (e : TypeId) (t : TypeId) (z bytes k : Nat) (hσ : σ = σ1 ++ r.B e xs) (hok : r.ok z m xs) (x y : Operand) (ho : o.op = .call { callee := .builtin .append, args := #[x, y], argTypes := #[t, t] }) (hx : evS s x = some (r.V m))
  (b f c : Nat) (news : List Value) (hy : evS s y = some (.slice (some ⟨b, f, none⟩) k c)) (hnews : ∀ W, Mem W0 U σ W → W.rangeAt b f news) (hl : news.length = k * z) (h1 : ∀ u ∈ news, u.oneCell' = true) (hk : 0 < k) (h63 : m + k ≤ maxLen) (hby : (m + k) * bytes ≤ 140737488355328)
  (hi : (P.info? e).map (fun i => (i.size, i.bytes, i.zero.map (·.cells.size))) = some (z, bytes, some z)) (ht : P.underlying t = some (.slice e)) (hz0 : Nat.blt 0 z = true)
  (hd : eL n o = true) (hw : cZ ops s o = some true)
  (h : ∀ r' : Rw, r'.ok z (m + k) (xs ++ news) → SXL P n W0 Q ops l (jX o (r'.V (m + k)) s) U (σ1 ++ r'.B e (xs ++ news))) : SXL P n W0 Q ops (o :: l) s U σ := by
 cases hq : P.info? e with
 | none => rw [hq] at hi; cases hi
 | some inf =>
  rw [hq] at hi
  simp only [Option.map_some, Option.some.injEq, Prod.mk.injEq] at hi
  obtain ⟨h2, h3, h4⟩ := hi
  obtain ⟨zv, hz1, hz2⟩ := Option.map_eq_some_iff.1 h4
  refine aM6 r xs m σ1 [] e t z bytes k (by rw [List.append_nil]; exact hσ) hok x y ho hx b f c news hy hnews hl (List.all_eq_true.2 h1) hk h63 hby inf zv ht hq hz1 h2 h3 hz2 (by simpa [Nat.blt_eq] using hz0) hd hw fun r' hr' => ?_
  have := h r' hr'
  rw [List.append_nil]
  exact this
def aNJ (w : World) (e : TypeId) (z n : Nat) (xs : List Value) : Ending → World → Prop := fun en w' => ∃ b cap junk, en = .returned (.slice (some ⟨b, 0, none⟩) n cap) ∧ Below w.heap.size w w' ∧ w.heap.size ≤ b ∧ w'.heap[b]? = some (.cells (xs ++ junk).toArray e (0, 0)) ∧ (Rw.row b cap junk).ok z n xs
theorem sB (f : FuncId) (args : Array Value) (e : TypeId) (z m : Nat) (xs : List Value) (he : enters P s o = some (f, args)) (hc : ∀ W, Mem W0 U σ W → Calls P f args W (aNJ W e z m xs)) (hd : eL n o = true) (hw : cZ ops s o = some true)
  (h : ∀ b cap junk, (Rw.row b cap junk).ok z m xs → SXL P n W0 Q ops l (jX o (.slice (some ⟨b, 0, none⟩) m cap) s) U (σ ++ [(b, .cells (xs ++ junk).toArray e (0, 0))])) : SXL P n W0 Q ops (o :: l) s U σ := by
 refine sA f args he hd hw fun W hM => (hc W hM).mono ?_
 rintro en W' ⟨b, cap, junk, rfl, hb, hge, hat, hok⟩
 refine ⟨_, _, U, _, rfl, ?_, rfl, h b cap junk hok⟩
 have hM' := hM.call hb
 have hs : Mem W0 U (σ ++ ([] ++ [])) W' := by simpa using hM'
 have := hs.swap (B' := [(b, .cells (xs ++ junk).toArray e (0, 0))]) hM'.below (fun _ _ _ => rfl) hM'.view (.inr ⟨b, _, rfl, hat, Nat.le_trans hM.below.size hge, fun a ha => ?_, fun k x hx he => ?_⟩)
 · simpa using this
 ·
  cases hu : U a with
  | none => rfl
  | some v => have := oT (hM.view a v hu); omega
 ·
  have := fU (hM.own k x.1 x.2 (by simpa using hx)).1
  omega
theorem aEY {w W' : World} {U V : View} {σ1 : aF} {r : Rw} {e : TypeId} {z m : Nat} {xs : List Value} (hM : Mem ⟨w, U⟩ V (σ1 ++ r.B e xs) W') (hok : r.ok z m xs) (hm : 0 < m) : aNJ w e z m xs (.returned (r.V m)) W' := by
 cases r with
 | nil => obtain ⟨rfl, _⟩ := hok; omega
 | row b cap junk =>
  obtain ⟨q1, q2, _⟩ := hM.own (σ1.length + 0) b (.cells (xs ++ junk).toArray e (0, 0)) (by
   have := getElem?_mid σ1 [(b, Obj.cells (xs ++ junk).toArray e (0, 0))] [] 0 _ rfl
   rw [List.append_nil] at this
   exact this)
  exact ⟨b, cap, junk, rfl, hM.below, q2, q1, hok⟩
theorem aH3 (k b off m : Nat) (cs : List Value) (t ty : TypeId) (v : Value) (x y : Operand) (ho : o.op = .store ty x y) (hx : evS s x = some (.pointer (some ⟨b, off, none⟩))) (hy : evS s y = some v)
  (hk : σ[k]? = some (b, .cells cs.toArray t (0, 0))) (hs : qZ P ty v m = true) (hl : off + m ≤ cs.length) (hd : o.dst = none) (hw : cZ ops s o = some true)
  (h : SXL P n W0 Q ops l s U (σ.set k (b, .cells (cA cs off v.cells.toList).toArray t (0, 0)))) : SXL P n W0 Q ops (o :: l) s U σ := by
 refine aL1 k b off m cs t ty v x y ho hx hy hk hs (Nat.ble_eq_true_of_le hl) (by unfold eL; rw [hd]) hw ?_
 unfold jX
 rw [hd]
 exact h
theorem aDD (t yt : TypeId) (x y : Operand) (ho : o.op = .binOp .eql t x y yt) (a : Option Addr) (k c : Nat) (e : TypeId) (hx : evS s x = some (.slice a k c)) (hy : evS s y = some (.slice none 0 0)) (hu : P.underlying t = some (.slice e)) (W : World) : (execOp (ev s) o).run P W = .ok (.value (.bool a.isNone)) W := by
 unfold execOp
 simp only [ho, eF hx, eF hy, binOp, eqGuard, Op.equal]
 obtain ⟨d, hm⟩ : ∃ d, Op.maxDepth = d + 1 := ⟨9999, rfl⟩
 rw [hm]
 clear hm
 cases a <;> simp only [Op.equalIn, Sem.run_bind, run_underlying hu W, Result.andThen_ok, Sem.run_pure, show ((BinOp.eql matches .eql | .neq) = true) = True from by simp, Bool.not_true, Bool.not_false, Bool.false_eq_true, if_false, if_true, Option.isNone_none, Option.isNone_some] <;> rfl
theorem iE (σ1 σ2 : aF) (b : Nat) (cs : List Value) (t : TypeId) (hσ : σ = σ1 ++ ((b, .cells cs.toArray t (0, 0)) :: σ2)) (h : ∀ V, View.le U V → V.range b 0 cs → SXL P n W0 Q ops l s V (σ1 ++ σ2)) : SXL P n W0 Q ops l s U σ := by
 subst hσ
 refine ⟨fun a W ha hM => ?_⟩
 have hs : Mem W0 U (σ1 ++ σ2) W := hM.sub (List.Sublist.append (List.Sublist.refl _) (List.sublist_cons_self _ _))
 have hin : (σ1 ++ ((b, Obj.cells cs.toArray t (0, 0)) :: σ2))[σ1.length]? = some (b, .cells cs.toArray t (0, 0)) := by
  rw [List.getElem?_append_right (Nat.le_refl _), Nat.sub_self]; rfl
 obtain ⟨q1, q2, _⟩ := hM.own _ _ _ hin
 obtain ⟨V, h1, h2, h3⟩ := hs.addView q1 q2 fun k x hx he => by
  have hex : ∃ i, (σ1 ++ ((b, Obj.cells cs.toArray t (0, 0)) :: σ2))[i]? = some x ∧ i ≠ σ1.length := by
   by_cases hk : k < σ1.length
   · exact ⟨k, by rw [List.getElem?_append_left hk] at hx ⊢; exact hx, by omega⟩
   ·
    refine ⟨k + 1, ?_, by omega⟩
    rw [List.getElem?_append_right oW] at hx
    rw [List.getElem?_append_right oW, show k + 1 - σ1.length = (k - σ1.length) + 1 by omega, List.getElem?_cons_succ]
    exact hx
  obtain ⟨i, hi, hne⟩ := hex
  exact hne (hM.apart i _ _ _ hi hin he)
 exact (h V h1 h2).go a W ha h3
end
theorem cW {W0 : Cx} {W : World} {U : View} {σ : aF} (hM : Mem W0 U σ W) (k b : Nat) (cs : List Value) (t : TypeId) (hk : σ[k]? = some (b, .cells cs.toArray t (0, 0))) : W.rangeAt b 0 cs := fun j v hj => by
 rw [cell_of_row _ _ _ _ _ _ (hM.own k b _ hk).1, Nat.zero_add]
 simpa using hj
structure qB (V : View) (a : Option Addr) (xs : List Value) : Prop where
 at_ : xs ≠ [] → ∃ b, a = some ⟨b, 0, none⟩ ∧ V.range b 0 xs
theorem qB.le {U V : View} (h : View.le U V) {a : Option Addr} {xs : List Value} (hr : qB U a xs) : qB V a xs := ⟨fun hne => by obtain ⟨b, e, hr⟩ := hr.at_ hne; exact ⟨b, e, View.range_le h hr⟩⟩
section
variable {P : Program} {n : Nat} {W0 : Cx} {Q : XQ} {s : cB} {U : View} {σ : aF} {ops : Array Oper} {l : List Oper} {o : Oper}
theorem Rw.form {r : Rw} {z m : Nat} {xs : List Value} (h : r.ok z m xs) : ∃ a c, r.V m = .slice a m c := by
 cases r with
 | nil => obtain ⟨rfl, _⟩ := h; exact ⟨none, 0, rfl⟩
 | row b cap junk => exact ⟨_, _, rfl⟩
theorem aLP {W : World} {r : Rw} {xs : List Value} {σ1 : aF} {e : TypeId} (hM : Mem W0 U (σ1 ++ r.B e xs) W) : Mem W0 (U.or (r.W xs)) σ1 W ∧ ∀ b cap junk, r = .row b cap junk → (U.or (r.W xs)).range b 0 xs := by
 have hM0 : Mem W0 U (σ1 ++ (r.B e xs ++ [])) W := by rw [List.append_nil]; exact hM
 have hf := Mem.freeze hM0
 rw [List.append_nil] at hf
 refine ⟨hf, fun b cap junk hr j v hj => ?_⟩
 subst hr
 have hn : U ⟨b, 0 + j, none⟩ = none := by
  have h3 := (hM0.own (σ1.length + 0) b (.cells (xs ++ junk).toArray e (0, 0)) (getElem?_mid σ1 _ [] 0 _ rfl)).2.2 ⟨b, 0 + j, none⟩ rfl
  exact h3
 refine View.or_r ?_ hn
 show (if b = b ∧ none = none then xs[0 + j]? else none) = some v
 rw [if_pos ⟨rfl, rfl⟩, Nat.zero_add]
 exact hj
theorem aAx (t : Nat) (r : Rw) (xs : List Value) (z m : Nat) (σ1 : aF) (e : TypeId) (hσ : σ = σ1 ++ r.B e xs) (hok : r.ok z m xs) (hl : look s t = some (r.V m))
  (h : ∀ a c V, View.le U V → qB V a xs → r.V m = .slice a m c → SXL P n W0 Q ops l ((t, .slice a m c) :: s) V σ1) : SXL P n W0 Q ops l s U σ := by
 subst hσ
 refine ⟨fun A W ha hM => ?_⟩
 obtain ⟨h1, h2⟩ := aLP hM
 obtain ⟨a, c, hv⟩ := Rw.form hok
 refine (h a c (U.or (r.W xs)) (View.le_or _ _) ⟨fun hne => ?_⟩ hv).go A W ⟨ha.size, ha.defers, fun u x hx => ?_⟩ h1
 ·
  cases r with
  | nil => exact absurd hok.2 hne
  | row b cap junk =>
   simp only [Rw.V, Value.slice.injEq, true_and] at hv
   exact ⟨b, hv.1.symm, h2 b cap junk rfl⟩
 ·
  simp only [look] at hx
  split at hx
  ·
   next hb =>
   have := Nat.eq_of_beq_eq_true hb
   subst this
   rw [ha.slots t _ hl, hv]; exact hx
  · exact ha.slots u x hx
theorem sG (r : Rw) (z m : Nat) (xs : List Value) (hok : r.ok z m xs) (x : Operand) (t e : TypeId) (ho : o.op = .call { callee := .builtin .len, args := #[x], argTypes := #[t] }) (hx : evS s x = some (r.V m)) (hu : P.underlying t = some (.slice e)) (W : World) : (execOp (ev s) o).run P W = .ok (.value (.int .i64 (m : Int))) W := by
 obtain ⟨a, c, hv⟩ := Rw.form hok
 unfold execOp
 simp only [ho, resolve, invoke, builtin, Sem.run_bind, Sem.run_pure, Result.andThen_ok, List.map_toArray, List.map_cons, List.map_nil, eF hx, hv, Builtin.len_]
 simp [run_underlying hu W, goInt]
end
theorem fG.open {U : View} {a : Option Addr} {l : List Itm.Tr} (h : fG U a l) (hne : l ≠ []) : ∃ (b f : Nat) (L : List (Itm.Tr × List Value)), a = some ⟨b, f, none⟩ ∧ L.map Prod.fst = l ∧ gL U L ∧ U.range b f (L.flatMap Prod.snd) := by
 obtain ⟨b, f, cs0, ha, _, _⟩ := h.at_ 0 (l[0]'(by cases l <;> simp_all)) (List.getElem?_eq_getElem _)
 refine ⟨b, f, ?_⟩
 subst ha
 have key : ∀ (l : List Itm.Tr) (f' : Nat), (∀ i x, l[i]? = some x → ∃ cs, U.range b (f' + i * 5) cs ∧ TV U x cs) → ∃ L : List (Itm.Tr × List Value), L.map Prod.fst = l ∧ gL U L ∧ U.range b f' (L.flatMap Prod.snd) := by
  intro l
  induction l with
  | nil => intro f' _; exact ⟨[], rfl, trivial, fun j v hj => by simp at hj⟩
  | cons t l ih =>
   intro f' hl
   obtain ⟨cs, h1, h2⟩ := hl 0 t rfl
   obtain ⟨L, k1, k2, k3⟩ := ih (f' + 5) fun i x hx => by
    obtain ⟨cs, q1, q2⟩ := hl (i + 1) x (by simpa using hx)
    exact ⟨cs, by rw [show f' + 5 + i * 5 = f' + (i + 1) * 5 by omega]; exact q1, q2⟩
   refine ⟨(t, cs) :: L, by simp [k1], ⟨h2, k2⟩, fun j v hj => ?_⟩
   change (cs ++ L.flatMap Prod.snd)[j]? = some v at hj
   by_cases hj5 : j < cs.length
   ·
    rw [List.getElem?_append_left hj5] at hj
    have := h1 j v hj
    simpa using this
   ·
    rw [List.getElem?_append_right oW] at hj
    have := k3 (j - cs.length) v hj
    have h5 := h2.len5
    rw [show f' + j = f' + 5 + (j - cs.length) by omega]
    exact this
 obtain ⟨L, k1, k2, k3⟩ := key l f fun i x hx => by
  obtain ⟨b', f', cs, he, q1, q2⟩ := h.at_ i x hx
  simp only [Option.some.injEq, Addr.mk.injEq, and_true] at he
  obtain ⟨rfl, rfl⟩ := he
  exact ⟨cs, q1, q2⟩
 exact ⟨L, rfl, k1, k2, k3⟩
theorem gL.flat_len {V : View} : ∀ {L : List (Itm.Tr × List Value)}, gL V L → (L.flatMap Prod.snd).length = L.length * 5
 | [], _ => rfl
 | p :: r, ⟨h1, h2⟩ => by rw [List.flatMap_cons, List.length_append, gL.flat_len h2, h1.len5, List.length_cons]; omega
theorem TV.one {V : View} {t : Itm.Tr} {cs : List Value} (h : TV V t cs) : ∀ u ∈ cs, u.oneCell' = true := by
 obtain ⟨a, c, rfl, _⟩ := h.form
 intro u hu
 simp only [List.mem_cons, List.mem_nil_iff, or_false] at hu
 rcases hu with rfl | rfl | rfl | rfl | rfl <;> rfl
theorem gL.one {V : View} : ∀ {L : List (Itm.Tr × List Value)}, gL V L → ∀ u ∈ L.flatMap Prod.snd, u.oneCell' = true
 | [], _, u, hu => by simp at hu
 | p :: r, ⟨h1, h2⟩, u, hu => by
  rw [List.flatMap_cons, List.mem_append] at hu
  rcases hu with hu | hu
  · exact h1.one u hu
  · exact gL.one h2 u hu
theorem gL.le {U V : View} (h : View.le U V) : ∀ {L : List (Itm.Tr × List Value)}, gL U L → gL V L
 | [], _ => trivial
 | _ :: _, ⟨h1, h2⟩ => ⟨h1.le h, h2.le h⟩
theorem gL.app {V : View} : ∀ {L M : List (Itm.Tr × List Value)}, gL V L → gL V M → gL V (L ++ M)
 | [], _, _, h => h
 | _ :: _, _, ⟨h1, h2⟩, h => ⟨h1, h2.app h⟩
theorem cX.flat {U : View} {b f : Nat} {l : List Bk} (h : ∀ i x, l[i]? = some x → U.range b (f + i * 5) x.cs) : U.range b f (l.flatMap Bk.cs) := by
 induction l generalizing f with
 | nil => intro j v hj; simp at hj
 | cons x l ih =>
  intro j v hj
  rw [List.flatMap_cons] at hj
  have h5 : x.cs.length = 5 := rfl
  by_cases hj5 : j < 5
  ·
   rw [List.getElem?_append_left oW] at hj
   have := h 0 x rfl j v hj
   simpa using this
  ·
   rw [List.getElem?_append_right oW] at hj
   have := ih (f := f + 5) (fun i y hy => by rw [show f + 5 + i * 5 = f + (i + 1) * 5 by omega]; exact h (i + 1) y (by simpa using hy)) (j - 5) v (by rw [h5] at hj; exact hj)
   rw [show f + j = f + 5 + (j - 5) by omega]
   exact this
theorem cX.of {U : View} {b f : Nat} {l : List Bk} (h : U.range b f (l.flatMap Bk.cs)) (hok : ∀ x ∈ l, x.ok) (hlen : l.length ≤ R47) : cX U (some ⟨b, f, none⟩) l := by
 refine ⟨fun i x hx => ⟨b, f, rfl, ?_⟩, hok, hlen⟩
 induction l generalizing f i with
 | nil => simp at hx
 | cons y l ih =>
  rw [List.flatMap_cons] at h
  obtain ⟨h1, h2⟩ := fD h
  cases i with
  | zero => simp only [List.getElem?_cons_zero, Option.some.injEq] at hx; subst hx; simpa using h1
  | succ i =>
   have h5 : y.cs.length = 5 := rfl
   have := ih (f := f + 5) (by rw [h5] at h2; exact h2) (fun z hz => hok z (List.mem_cons_of_mem _ hz)) (by simp at hlen; omega) i (by simpa using hx)
   rw [show f + (i + 1) * 5 = f + 5 + i * 5 by omega]
   exact this
theorem mJ (l : List Bk) : (l.flatMap Bk.cs).length = l.length * 5 := by
 induction l with
 | nil => rfl
 | cons x l ih => rw [List.flatMap_cons, List.length_append, ih, List.length_cons]; show 5 + _ = _; omega
theorem mI (l : List Bk) : ∀ u ∈ l.flatMap Bk.cs, u.oneCell' = true := by
 intro u hu
 obtain ⟨x, _, hx⟩ := List.mem_flatMap.1 hu
 simp only [Bk.cs, List.mem_cons, List.mem_nil_iff, or_false] at hx
 rcases hx with rfl | rfl | rfl | rfl | rfl <;> rfl
end Go.Proofs.YtcdjakemdlinhaaGreatDoor.Sx
namespace Go.Proofs.YtcdjakemdlinhaaGreatDoor.Sx
open Go.ChangeShapes Go.WideShapes Go.ChangeAt Go.RowKit Go.Deep Go.ChangeMaps Go.MapKept
def mEs {α : Type} (key : α → Value) : Nat → List (α × Int) → List MapEntry
 | _, [] => []
 | i, (k, v) :: r => { key := key k, val := .int .i64 v, born := i } :: mEs key (i + 1) r
def mO {α : Type} (key : α → Value) (m : List (α × Int)) : Obj := .map (mEs key 0 m).toArray m.length
def lU {α : Type} [BEq α] (x : α) : Nat → List (α × Int) → Option (Nat × Value)
 | _, [] => none
 | i, (k, v) :: r => if x == k then some (i, .int .i64 v) else lU x (i + 1) r
def lX {α : Type} [BEq α] (x : α) (v : Int) : List (α × Int) → List (α × Int)
 | [] => [(x, v)]
 | (k, u) :: r => if x == k then (k, v) :: r else (k, u) :: lX x v r
def fE {α : Type} [BEq α] (x : α) : List (α × Int) → Int
 | [] => 0
 | (k, v) :: r => if x == k then v else fE x r
theorem aI0 {α : Type} (key : α → Value) : ∀ (i : Nat) (m : List (α × Int)), (mEs key i m).length = m.length
 | _, [] => rfl
 | i, (_, _) :: r => by rw [mEs, List.length_cons, List.length_cons, aI0 key (i + 1) r]
theorem lF {α : Type} [BEq α] (key : α → Value) (x : α) (v : Int) : ∀ (i : Nat) (m : List (α × Int)), lU x i m = none → mEs key i (lX x v m) = mEs key i m ++ [{ key := key x, val := .int .i64 v, born := i + m.length }] ∧ (lX x v m).length = m.length + 1 ∧ fE x m = 0
 | i, [], _ => ⟨rfl, rfl, rfl⟩
 | i, (k, u) :: r, h => by
  unfold lU at h
  split at h
  · cases h
  ·
   next hne =>
   obtain ⟨h1, h2, h3⟩ := lF key x v (i + 1) r h
   refine ⟨?_, ?_, ?_⟩
   ·
    rw [lX, if_neg hne, mEs, h1, mEs, List.length_cons, show i + (r.length + 1) = i + 1 + r.length by omega]
    rfl
   · rw [lX, if_neg hne, List.length_cons, h2, List.length_cons]
   · rw [fE, if_neg hne]; exact h3
theorem aC3 {α : Type} [BEq α] (x : α) : ∀ (i : Nat) (m : List (α × Int)) (j : Nat) (y : Value), lU x i m = some (j, y) → i ≤ j
 | i, [], _, _, h => by cases h
 | i, (k, u) :: r, j, y, h => by
  unfold lU at h
  split at h
  · cases h; exact Nat.le_refl _
  ·
   have := aC3 x (i + 1) r j y h
   omega
theorem mT {α : Type} [BEq α] [LawfulBEq α] (key : α → Value) (x : α) (v : Int) : ∀ (i : Nat) (m : List (α × Int)) (j : Nat) (y : Value), lU x i m = some (j, y) →
  mEs key i (lX x v m) = (mEs key i m).modify (j - i) (fun e => { e with key := key x, val := .int .i64 v }) ∧ (lX x v m).length = m.length ∧ y = .int .i64 (fE x m) ∧ ∃ e, (mEs key i m)[j - i]? = some e ∧ e.key = key x
 | i, [], _, _, h => by cases h
 | i, (k, u) :: r, j, y, h => by
  unfold lU at h
  split at h
  ·
   next he =>
   simp only [Option.some.injEq, Prod.mk.injEq] at h
   obtain ⟨rfl, rfl⟩ := h
   have hxk := eq_of_beq he
   refine ⟨?_, ?_, ?_, ?_⟩
   ·
    rw [lX, if_pos he, Nat.sub_self, mEs, mEs, hxk]
    rfl
   · rw [lX, if_pos he]; rfl
   · rw [fE, if_pos he]
   · refine ⟨_, by rw [Nat.sub_self, mEs]; rfl, by rw [hxk]⟩
  ·
   next hne =>
   have hge := aC3 x _ r j y h
   obtain ⟨h1, h2, h3, e, h4, h5⟩ := mT key x v (i + 1) r j y h
   have hji : j - i = (j - (i + 1)) + 1 := by omega
   refine ⟨?_, ?_, ?_, e, ?_, h5⟩
   ·
    rw [lX, if_neg hne, mEs, h1, mEs, hji]
    rfl
   · rw [lX, if_neg hne, List.length_cons, h2, List.length_cons]
   · rw [fE, if_neg hne]; exact h3
   · rw [mEs, hji]; exact h4
structure qW (P : Program) (T : TypeId) {α : Type} [BEq α] (key : α → Value) : Prop where
 law : ∃ kt et, P.underlying T = some (.map kt et) ∧ (∀ w : World, (zeroValue et).run P w = .ok (.int .i64 0) w) ∧ (∀ (w : World) (b : Bool) (x : α), (Instr.checkKey b 10000 kt (key x)).run P w = .ok () w) ∧
  (∀ (w : World) (x : α) (m : List (α × Int)), (Instr.findKey kt (key x) (mEs key 0 m)).run P w = .ok (lU x 0 m) w) ∧ (∀ (w : World) (x : α), (Instr.keyThatStays (key x) (key x)).run P w = .ok (key x) w)
theorem aBu (x : Int) : ∀ (i : Nat) (m : List (Int × Int)), Instr.findNow (.int .i64) (.int .i64 x) (mEs (fun z => .int .i64 z) i m) i = some (lU x i m)
 | _, [] => rfl
 | i, (k, v) :: r => by
  rw [mEs, Instr.findNow, lU]
  simp only [Instr.sameNow, if_true]
  cases hb : x == k with
  | true => simp
  | false => simp only [Bool.false_eq_true, if_false]; exact aBu x (i + 1) r
abbrev sU : Int → Value := fun z => .int .i64 z
theorem aHb {P : Program} {T kt et : TypeId} (hT : P.underlying T = some (.map kt et)) (hk : P.underlying kt = some (.int .i64)) (hz : ∀ w : World, (zeroValue et).run P w = .ok (.int .i64 0) w) : qW P T sU :=
 ⟨kt, et, hT, hz, fun w b x => Go.MapKept.run_checkKey hk (by simp [IsKey]) b 9999, fun w x m => Go.MapKept.run_findKey hk (aBu x 0 m), fun w x => Go.MapKept.run_keyThatStays (d := .int .i64) (by simp [IsKey])⟩
section
variable {P : Program} {T : TypeId} {α : Type} [BEq α] [LawfulBEq α] {key : α → Value} {w : World} {b : Nat} {m : List (α × Int)}
theorem aIZ (K : qW P T key) (hb : w.heap[b]? = some (mO key m)) (x : α) : (Instr.lookup T (.map (some b)) (key x) false).run P w = .ok (.int .i64 (fE x m)) w := by
 obtain ⟨kt, et, hT, hz, hc, hf, hs⟩ := K.law
 unfold mO at hb
 have hf := hf w x m
 cases hx : lU x 0 m with
 | none =>
  rw [hx] at hf
  obtain ⟨_, _, h3⟩ := lF key x 0 0 m hx
  simp [Instr.lookup, run_underlying hT, Go.MapKept.run_getObj_map hb, hc, hf, hz, Result.andThen, h3]
 | some p =>
  obtain ⟨j, y⟩ := p
  rw [hx] at hf
  obtain ⟨_, _, h3, _⟩ := mT key x 0 0 m j y hx
  simp [Instr.lookup, run_underlying hT, Go.MapKept.run_getObj_map hb, hc, hf, hz, Result.andThen, h3]
theorem aNq (K : qW P T key) (hb : w.heap[b]? = some (mO key m)) (x : α) (v : Int) : (Instr.mapUpdate T (.map (some b)) (key x) (.int .i64 v)).run P w = .ok () (setBlock w b (mO key (lX x v m))) := by
 obtain ⟨kt, et, hT, hz, hc, hf, hs⟩ := K.law
 unfold mO at hb
 have hf := hf w x m
 cases hx : lU x 0 m with
 | none =>
  rw [hx] at hf
  obtain ⟨h1, h2, h3⟩ := lF key x v 0 m hx
  simp [Instr.mapUpdate, run_underlying hT, Go.MapKept.run_getObj_map hb, hc, hf, Go.MapKept.run_setObj_map _ hb, Result.andThen, setBlock, mO, h1, h2]
 | some p =>
  obtain ⟨j, y⟩ := p
  rw [hx] at hf
  obtain ⟨h1, h2, h3, e, h4, h5⟩ := mT key x v 0 m j y hx
  rw [Nat.sub_zero] at h4 h1
  have hks := hs w x
  simp [Instr.mapUpdate, run_underlying hT, Go.MapKept.run_getObj_map hb, hc, hf, h4, h5, hks, Go.MapKept.run_setObj_map _ hb, Result.andThen, setBlock, mO, h1, h2]
end
section
variable {P : Program} {n : Nat} {W0 : Cx} {Q : XQ} {s : cB} {U : View} {σ : aF} {ops : Array Oper} {l : List Oper} {o : Oper} {T : TypeId} {α : Type} [BEq α] [LawfulBEq α] {key : α → Value}
theorem mE (K : qW P T key) (k b : Nat) (m : List (α × Int)) (x : α) (xm xi : Operand) (ho : o.op = .lookup T xm xi false) (hm : evS s xm = some (.map (some b))) (hx : evS s xi = some (key x)) (hk : σ[k]? = some (b, mO key m))
  (hd : eL n o = true) (hw : cZ ops s o = some true) (h : SXL P n W0 Q ops l (jX o (.int .i64 (fE x m)) s) U σ) : SXL P n W0 Q ops (o :: l) s U σ := by
 refine oG hd hw fun a W ha hM K' hK => ?_
 have hb := (hM.own k b _ hk).1
 unfold Oper.wp execOp
 simp only [ho, dZ ha hm, dZ ha hx, aIZ K hb x, Sem.run_bind, Sem.run_pure, Result.andThen_ok]
 exact hK _ _ _ _ _ h (eD ha hd) hM
theorem aEM (K : qW P T key) (k b : Nat) (m : List (α × Int)) (x : α) (v : Int) (xm xi xv : Operand) (ho : o.op = .mapUpdate T xm xi xv) (hm : evS s xm = some (.map (some b))) (hx : evS s xi = some (key x)) (hv : evS s xv = some (.int .i64 v)) (hk : σ[k]? = some (b, mO key m))
  (hd : eL n o = true) (hw : cZ ops s o = some true) (h : SXL P n W0 Q ops l (jX o undef s) U (σ.set k (b, mO key (lX x v m)))) : SXL P n W0 Q ops (o :: l) s U σ := by
 refine oG hd hw fun a W ha hM K' hK => ?_
 have hb := (hM.own k b _ hk).1
 unfold Oper.wp execOp
 simp only [ho, dZ ha hm, dZ ha hx, dZ ha hv, aNq K hb x v, Sem.run_bind, Sem.run_pure, Result.andThen_ok]
 have hlt := (Array.getElem?_eq_some_iff.1 hb).1
 exact hK _ _ _ _ _ h (eD ha hd) (hM.set k b _ _ hk rfl rfl rfl (by simp [setBlock]) (heap_setBlock_same hb _) (fun i hi => heap_setBlock_other hb _ hi))
end
theorem sP {α : Type} [BEq α] [LawfulBEq α] (x y : α) (v : Int) : ∀ m : List (α × Int), fE x (lX y v m) = if x == y then v else fE x m
 | [] => rfl
 | (k, u) :: r => by
  rw [lX]
  cases hk : y == k with
  | true =>
   simp only [if_true, fE]
   rw [eq_of_beq hk]
   cases x == k <;> simp
  | false =>
   simp only [Bool.false_eq_true, if_false, fE, sP x y v r]
   cases hx : x == y with
   | true => rw [eq_of_beq hx, hk]; simp
   | false => simp
end Go.Proofs.YtcdjakemdlinhaaGreatDoor.Sx
namespace Go.Proofs.YtcdjakemdlinhaaGreatDoor
open Go.ChangeShapes Go.WideShapes Go.ChangeAt Go.RowKit Go.Deep
section
variable {P : Program} {ops : Array Oper} {Q : Exit → Act → World → Prop} {md : Region.Mode}
theorem aHP (m : Nat) {fuel r : Nat} (ds : List Tmp) (Inv : (Nat → Bool) → (Nat → Value) → World → Prop) {a0 : Act} {w0 : World}
  (hlen : ds.length = m) (hds : pB ops ds = true) (hnd : nodupB ds = true) (hms : decide (m ≤ ops.size) = true) (hedge : eQ md ops m = true) (htail : iY md ops m r = true)
  (hS : ∀ u, Inv (fun _ => false) u w0)
  (steps : ∀ i, i < m → ∀ (L : Nat → Bool) (u : Nat → Value) (w : World), Inv L u w → L i = false → (∀ j, cI md ops i j = true → L j = true ∧ j < m) → (∀ k j, L k = true → cI md ops k j = true → L j = true) →
   ∀ K : Act → World → Prop, (∀ v w', Inv (fun j => if j = i then true else L j) (fun j => if j = i then v else u j) w' → K ((eH ds 0 u a0).put ((ops[i]?).bind (·.dst)) v) w') → wpOp P ops Q i K (eH ds 0 u a0) w)
  (fin : ∀ L u w, Inv L u w → (∀ i, i < m → L i = true) → wpAny P md ops Q fuel (firstM m ops.size) (eH ds 0 u a0) w) :
  wpAny P md ops Q (m + fuel) (Array.replicate ops.size false) a0 w0 := by
 have hms' : m ≤ ops.size := by simpa using hms
 have main : ∀ (rem : List Nat) (listed : Array Bool) (L : Nat → Bool) (u : Nat → Value) (w : World), rem.Nodup → (∀ i, i ∈ rem ↔ i < m ∧ listed.getD i false = false) → listed.size = ops.size → (∀ i, m ≤ i → listed.getD i false = false) → (∀ i, listed.getD i false = true → ∀ j, cI md ops i j = true → listed.getD j false = true) →
   (∀ i, listed.getD i false = L i) → Inv L u w → wpAny P md ops Q (rem.length + fuel) listed (eH ds 0 u a0) w := by
  intro rem
  generalize hk : rem.length = k
  induction k generalizing rem with
  | zero =>
   intro listed L u w hn hrem hsz hge hcl hL hI
   obtain rfl := List.length_eq_zero_iff.1 hk
   have hall : ∀ i, i < m → listed.getD i false = true := fun i hi => by
    cases h : listed.getD i false with
    | true => rfl
    | false => have := (hrem i).2 ⟨hi, h⟩; cases this
   have hl : listed = firstM m ops.size := by
    apply Array.ext
    · simp [firstM, hsz]
    ·
     intro i h1 h2
     have e : listed.getD i false = listed[i] := by simp [Array.getD, h1]
     simp only [firstM, List.getElem_toArray, List.getElem_map, List.getElem_range]
     rw [← e]
     by_cases hi : i < m
     · rw [hall i hi, decide_eq_true hi]
     · rw [hge i oW, decide_eq_false hi]
   have hall' : ∀ i, i < m → listed.getD i false = true := hall
   have hl0 : ∀ i, listed.getD i false = listed.getD i false := fun _ => rfl
   rw [hl, Nat.zero_add]
   exact fin L u w hI fun i hi => by rw [← hL i, ← hl0 i]; exact hall' i hi
  | succ k ih =>
   intro listed L u w hn hrem hsz hge hcl hL hI
   have hne : rem ≠ [] := by intro h; rw [h] at hk; cases hk
   have hgd : ∀ i, i < ops.size → listed.getD i true = listed.getD i false := fun i hi => by simp [Array.getD, hsz, hi]
   have hready : ∀ i ∈ Region.ready md ops listed, i < m ∧ i ∈ rem ∧ ∀ j, cI md ops i j = true → listed.getD j false = true := by
    intro i hi
    obtain ⟨h1, o, ho, hed⟩ := mem_ready.1 hi
    have his : i < ops.size := (Array.getElem?_eq_some_iff.1 ho).1
    have hwt : ∀ j, cI md ops i j = true → listed.getD j false = true := by
     intro j hj
     simp only [cI, ho, Option.map_some, Option.getD_some, List.any_eq_true, Bool.and_eq_true, beq_iff_eq] at hj
     obtain ⟨e, he, hb, hon⟩ := hj
     have := hed e (by simpa using he) hb
     rw [hon] at this
     exact this
    have him : i < m := by
     by_cases h : i < m
     · exact h
     ·
      exfalso
      unfold iY at htail
      rw [List.all_eq_true] at htail
      have h2 := htail i (List.mem_range.2 his)
      rw [decide_eq_false h, Bool.false_or, List.all_eq_true] at h2
      obtain ⟨j, hj⟩ := List.exists_mem_of_ne_nil rem hne
      have h3 := (hrem j).1 hj
      have h4 := h2 j (List.mem_range.2 h3.1)
      rw [List.contains_eq_mem, decide_eq_true_eq] at h4
      have := mA (p := fun k => listed.getD k false = true) hcl r _ (fun k hk => hwt k (by
       rw [List.mem_filter] at hk
       exact hk.2)) j h4
      simp only [h3.2] at this
      cases this
    exact ⟨him, (hrem i).2 ⟨him, by rw [← hgd i his]; exact h1⟩, hwt⟩
   rw [show k + 1 + fuel = k + fuel + 1 by omega]
   refine ⟨fun hnil => ?_, fun i hi => ?_⟩
   ·
    exfalso
    obtain ⟨i, hi, hmin⟩ := exists_least (List.exists_mem_of_ne_nil rem hne)
    have him := (hrem i).1 hi
    have : i ∈ Region.ready md ops listed := by
     refine mem_ready.2 ⟨by rw [hgd i oW]; exact him.2, ops[i]'oW, Array.getElem?_eq_getElem oW, fun e he hb => ?_⟩
     unfold eQ at hedge
     rw [List.all_eq_true] at hedge
     have h2 := hedge i (List.mem_range.2 him.1)
     rw [Array.getElem?_eq_getElem (show i < ops.size by omega)] at h2
     simp only [Option.map_some, Option.getD_some, List.all_eq_true, Bool.or_eq_true, Bool.not_eq_true', decide_eq_true_eq] at h2
     have h3 := h2 e (by simpa using he)
     have h4 : e.on < i := by
      rcases h3 with h3 | h3
      · rw [hb] at h3; cases h3
      · exact h3
     cases h5 : listed.getD e.on false with
     | true => rfl
     | false => exact absurd ((hrem e.on).2 ⟨by omega, h5⟩) (hmin e.on h4)
    rw [hnil] at this
    cases this
   ·
    obtain ⟨him, hir, hwt⟩ := hready i hi
    refine steps i him L u w hI (by rw [← hL]; exact ((hrem i).1 hir).2) (fun j hj => ⟨by rw [← hL]; exact hwt j hj, ?_⟩) (fun k j hk hj => by rw [← hL]; exact hcl k (by rw [hL]; exact hk) j hj) _ fun v w' hI' => ?_
    ·
     have hl := hwt j hj
     by_cases h : j < m
     · exact h
     · rw [hge j oW] at hl; cases hl
    ·
     have hd : (ops[i]?).bind (·.dst) = ds[i]? := by
      unfold pB at hds
      rw [List.all_eq_true] at hds
      simpa using hds i (List.mem_range.2 oW)
     have hdi : ds[i]? = some (ds[i]'oW) := List.getElem?_eq_getElem oW
     rw [hd, hdi, tF ds 0 u a0 i _ v (iI hnd) hdi, Nat.zero_add]
     have hset : ∀ j, (listed.setIfInBounds i true).getD j false = if j = i then true else listed.getD j false := by
      intro j
      simp only [Array.getD_eq_getD_getElem?, Array.getElem?_setIfInBounds]
      by_cases hj : j = i
      ·
       subst hj
       have hjs : j < listed.size := by omega
       simp [hjs]
      · rw [if_neg (fun h => hj h.symm), if_neg hj]
     refine ih (rem.erase i) (by rw [List.length_erase_of_mem hir, hk]; rfl) _ _ _ w' (hn.erase i) (fun j => ?_) (by simp [hsz]) (fun j hj => ?_) (fun k hk j hj => ?_) (fun j => by rw [hset j, hL j]) hI'
     ·
      rw [hn.mem_erase_iff, hrem j, hset j]
      by_cases hj : j = i
      · subst hj; simp
      · simp [hj]
     ·
      rw [hset j, if_neg oW]
      exact hge j hj
     ·
      rw [hset j]
      by_cases hji : j = i
      · rw [if_pos hji]
      ·
       rw [if_neg hji]
       by_cases hki : k = i
       · subst hki; exact hwt j hj
       ·
        rw [hset k, if_neg hki] at hk
        exact hcl k hk j hj
 have hrp : ∀ i, (Array.replicate ops.size false).getD i false = false := fun i => by
  simp only [Array.getD_eq_getD_getElem?, Array.getElem?_replicate]
  split <;> rfl
 have h := main (List.range m) (Array.replicate ops.size false) (fun _ => false) (fun j => a0.tmps.getD (ds.getD j 0) undef) w0 List.nodup_range (fun i => by
   rw [List.mem_range]
   simp [hrp i]) (by simp) (fun i _ => hrp i) (fun i h => by rw [hrp i] at h; cases h) hrp (hS _)
 rw [qL ds 0 _ a0 (fun j hj => by rw [Nat.zero_add]), List.length_range] at h
 exact h
theorem oE {id : Nat} (m fuel r : Nat) (ds : List Tmp) (Inv : (Nat → Bool) → (Nat → Value) → World → Prop) {a0 : Act} {w : World}
  (hm : P.follows .mixedOrders = true) (hsz : ops.size = m + fuel)
  (hlen : ds.length = m) (hds : pB ops ds = true) (hnd : nodupB ds = true) (hedge : eQ .any ops m = true) (htail : iY .any ops m r = true)
  (hS : ∀ u, Inv (fun _ => false) u w.drew)
  (steps : ∀ i, i < m → ∀ (L : Nat → Bool) (u : Nat → Value) (w : World), Inv L u w → L i = false → (∀ j, cI .any ops i j = true → L j = true ∧ j < m) → (∀ k j, L k = true → cI .any ops k j = true → L j = true) →
   ∀ K : Act → World → Prop, (∀ v w', Inv (fun j => if j = i then true else L j) (fun j => if j = i then v else u j) w' → K ((eH ds 0 u a0).put ((ops[i]?).bind (·.dst)) v) w') → wpOp P ops Q i K (eH ds 0 u a0) w)
  (fin : ∀ L u w, Inv L u w → (∀ i, i < m → L i = true) → wpAny P .any ops Q fuel (firstM m ops.size) (eH ds 0 u a0) w) : (Code.region id ops true).wp P Q a0 w := by
 refine wp_region_any hm ?_
 have h := aHP (md := .any) m ds Inv (w0 := w.drew) hlen hds hnd (decide_eq_true oW) hedge htail hS steps fin
 rw [← hsz] at h
 exact h
end
end Go.Proofs.YtcdjakemdlinhaaGreatDoor
namespace Go.Proofs.YtcdjakemdlinhaaGreatDoor.Sx
open Go.ChangeShapes Go.WideShapes Go.ChangeAt Go.RowKit Go.Deep
def fN (W0 : Cx) (U : View) (σF : aF) (Φ : Value → View → aF → Prop) : Ending → World → Prop := fun e W' => ∃ v V σ', e = .returned v ∧ View.le U V ∧ Mem W0 V (σ' ++ σF) W' ∧ Φ v V σ'
theorem aH5 {P : Program} {f : FuncId} {fn : Func} {c : Code} {args : List Value} {W : World} {R : Ending → World → Prop} {W0 : Cx} {σ : aF} (n : Nat) (U : View) (hf : P.funcs[f]? = some fn) (hb : fn.body = some c) (hn : fn.ntmps = n) (hle : Nat.ble args.length n = true) (hM : Mem W0 U σ W)
  (h : SXC P n W0 (aJ9 P n W0 fn R) c (aLT 0 args) U σ) : Calls P f args.toArray W R := by
 have hle' : args.length ≤ n := Nat.le_of_ble_eq_true hle
 refine calls_of_wp hf hb (wp_mono (h.go _ W ⟨?_, rfl, fun t v ht => ?_⟩ hM) ?_)
 · simp [hn]; omega
 ·
  obtain ⟨_, h2⟩ := aBG args 0 t v ht
  have hlt : t < args.length := (List.getElem?_eq_some_iff.1 h2).1
  simp only [Nat.sub_zero] at h2
  rw [Array.getElem?_append_left (by simpa using hlt)]
  simpa using h2
 ·
  rintro e a W' ⟨s, U', σ, ha, hM, hq⟩
  cases e with
  | normal => obtain ⟨v, h1, h2⟩ := hq a W' ha hM; exact ⟨ha.defers, v, h1, h2⟩
  | ret => obtain ⟨v, h1, h2⟩ := hq a W' ha hM; exact ⟨ha.defers, v, h1, h2⟩
  | _ => exact hq.elim
section
variable {P : Program} {n : Nat} {W0 : Cx} {Q : XQ} {s : cB} {U : View} {σ : aF} {ops : Array Oper} {l : List Oper} {o : Oper}
theorem aAE (f : FuncId) (args : Array Value) (own σF : aF) (Φ : Value → View → aF → Prop) (hσ : σ.Perm (own ++ σF)) (he : enters P s o = some (f, args)) (hc : ∀ W, Mem W0 U (own ++ σF) W → Calls P f args W (fN W0 U σF Φ)) (hd : eL n o = true) (hw : cZ ops s o = some true)
  (h : ∀ v V σ', View.le U V → Φ v V σ' → SXL P n W0 Q ops l (jX o v s) V (σ' ++ σF)) : SXL P n W0 Q ops (o :: l) s U σ :=
 sA f args he hd hw fun W hM => (hc W (hM.perm hσ)).mono fun _ W' ⟨v, V, σ', he, hl, hM', hΦ⟩ => ⟨v, _, V, σ' ++ σF, he, hM', rfl, h v V σ' hl hΦ⟩
theorem aCQ {σ' : aF} (hσ : σ.Perm σ') (h : SXL P n W0 Q ops l s U σ') : SXL P n W0 Q ops l s U σ := ⟨fun a W ha hM => h.go a W ha (hM.perm hσ)⟩
end
def qE (vs : List Sq) (j : Nat) (v : Value) (V : View) : Prop := match vs[j]? with
 | some (.val w) => v = w
 | some (.mem Φ) => Φ v V
 | none => False
theorem qE.phi {vs : List Sq} {j : Nat} {v : Value} {V : View} (h : qE vs j v V) : gJ vs j v V := by
 unfold qE at h
 unfold gJ
 split at h
 · next e => rw [e]; trivial
 · next e => rw [e]; exact h
 · exact h.elim
theorem qE.le {vs : List Sq} (hmono : ∀ q ∈ vs, oZ q) {j : Nat} {v : Value} {V V' : View} (hl : View.le V V') (h : qE vs j v V) : qE vs j v V' := by
 unfold qE at h ⊢
 split at h
 · exact h
 · next Φ e => exact hmono _ (List.mem_of_getElem? e) v V V' hl h
 · exact h
theorem qE.isQ {vs : List Sq} {j : Nat} {v : Value} {V U : View} {W0 : Cx} {σ : aF} {W : World} (hM : Mem W0 V σ W) (hl : View.le U V) (h : qE vs j v V) : IsQ W0 U σ vs j v W := by
 unfold qE at h
 split at h
 · next w e => exact ⟨_, e, h⟩
 · next Φ e => exact ⟨_, e, V, hl, hM, h⟩
 · exact h.elim
theorem IsQ.at {vs : List Sq} {j : Nat} {v : Value} {U : View} {W0 : Cx} {σ : aF} {W : World} (h : IsQ W0 U σ vs j v W) (hM : Mem W0 U σ W) : ∃ V, View.le U V ∧ Mem W0 V σ W ∧ qE vs j v V := by
 obtain ⟨q, hq, hs⟩ := h
 cases q with
 | val w => exact ⟨U, View.le_refl _, hM, by unfold qE; rw [hq]; exact hs⟩
 | mem Φ =>
  obtain ⟨V, h1, h2, h3⟩ := hs
  exact ⟨V, h1, h2, by unfold qE; rw [hq]; exact h3⟩
structure aOd where
 j : Nat
 i : Nat
 Ω : Value → aF → Prop
def aIe (ops : Array Oper) (m : Nat) (t : aOd) : Bool := (List.range m).all fun i => decide (i = t.i) || !cI .any ops i t.j
structure aOU (W0 : Cx) (U : View) (σ : aF) (vs : List Sq) (m : Nat) (t : aOd) (L : Nat → Bool) (u : Nat → Value) (w : World) (V : View) (σ' : aF) : Prop where
 le : View.le U V
 mem : Mem W0 V (σ ++ σ') w
 at_ : ∀ j, j < m → L j = true → j ≠ t.j → qE vs j (u j) V
 own : L t.j = true → L t.i = false → t.Ω (u t.j) σ'
 non : L t.j = false ∨ L t.i = true → σ' = []
section
variable {P : Program} {n : Nat} {W0 : Cx} {s : cB} {U : View} {σ : aF} {ops : Array Oper} {ds : List Nat} {vs : List Sq}
structure aOR (P : Program) (n : Nat) (W0 : Cx) (U : View) (σ : aF) (ops : Array Oper) (ds : List Nat) (vs : List Sq) (s : cB) (t : aOd) : Prop where
 go : ∃ (o : Oper) (f : FuncId) (ts : List Nat) (vals : (Nat → Value) → List Value), ops[t.j]? = some o ∧ o.guard = none ∧ (∀ u, (ts.map fun x => look (jZ ops ds vs u t.j ++ aV s ds) x) = (vals u).map some) ∧
  ∀ (u : Nat → Value) (V : View), View.le U V → (∀ j, cI .any ops t.j j = true → gJ vs j (u j) V) → ∃ args, enters P (ts.zip (vals u)) o = some (f, args) ∧
   ∀ W, Mem W0 V σ W → Calls P f args W fun e W' => ∃ v σ', e = .returned v ∧ Mem W0 V (σ ++ σ') W' ∧ t.Ω v σ'
structure aMJ (P : Program) (n : Nat) (W0 : Cx) (U : View) (σ : aF) (ops : Array Oper) (ds : List Nat) (vs : List Sq) (s : cB) (t : aOd) : Prop where
 go : ∃ (o : Oper) (f : FuncId) (Φ : Value → View → Prop) (ts : List Nat) (vals : (Nat → Value) → List Value), ops[t.i]? = some o ∧ o.guard = none ∧ vs[t.i]? = some (.mem Φ) ∧ cI .any ops t.i t.j = true ∧ (∀ u, (ts.map fun x => look (jZ ops ds vs u t.i ++ aV s ds) x) = (vals u).map some) ∧
  ∀ (u : Nat → Value) (V : View) (σ' : aF), View.le U V → (∀ j, cI .any ops t.i j = true → j ≠ t.j → gJ vs j (u j) V) → t.Ω (u t.j) σ' → ∃ args, enters P (ts.zip (vals u)) o = some (f, args) ∧
   ∀ W, Mem W0 V (σ' ++ σ) W → Calls P f args W (fN W0 V σ fun v V' σ'' => σ'' = [] ∧ Φ v V')
def ObC (P : Program) (n : Nat) (W0 : Cx) (U : View) (σ : aF) (ops : Array Oper) (ds : List Nat) (vs : List Sq) (s : cB) (t : aOd) (i : Nat) : Prop :=
 if i = t.j then aOR P n W0 U σ ops ds vs s t else if i = t.i then aMJ P n W0 U σ ops ds vs s t else ∀ σ', Oq P n W0 U (σ ++ σ') ops ds vs s i
theorem mQ {a0 : Act} {u : Nat → Value} {V : View} (i : Nat) (ha : pD n s a0) (hn : ds.Nodup) (hd : ∀ d ∈ ds, d < n) (hu : ∀ j, cI .any ops i j = true → qE vs j (u j) V ∨ ∃ Φ, vs[j]? = some (.mem Φ)) : pD n (jZ ops ds vs u i ++ aV s ds) (eH ds 0 u a0) := by
 have hg := fun t => fP ds 0 u a0 t hn (by rw [ha.size]; exact hd)
 refine ⟨by rw [(hg 0).2.2.1, ha.size], by rw [(hg 0).2.2.2, ha.defers], fun t v hv => ?_⟩
 rcases eP _ _ _ _ hv with h | ⟨_, h⟩
 ·
  have hm := iJ _ _ _ h
  unfold jZ at hm
  obtain ⟨j, hj, he⟩ := List.mem_filterMap.1 hm
  have hjl : j < ds.length := List.mem_range.1 hj
  have hdj : ∀ t', ds.getD j 0 = t' → ds[j]? = some t' := fun t' e => by
   rw [List.getElem?_eq_getElem hjl, ← e]
   simp [List.getD, hjl]
  split at he
  ·
   next x hw hx =>
   simp only [Option.some.injEq, Prod.mk.injEq] at he
   obtain ⟨he1, he2⟩ := he
   rw [(hg t).1 j (hdj t he1), Nat.zero_add]
   rcases hu j hw with hs | ⟨Φ, hs⟩
   ·
    unfold qE at hs
    rw [hx] at hs
    simp only at hs
    rw [hs, he2]
   ·
    rw [hx] at hs
    cases hs
  ·
   next x hw hx =>
   simp only [Option.some.injEq, Prod.mk.injEq] at he
   obtain ⟨he1, he2⟩ := he
   rw [(hg t).1 j (hdj t he1), Nat.zero_add, ← he2]
  · cases he
 ·
  obtain ⟨h1, h2⟩ := eW _ _ _ _ h
  rw [(hg t).2.1 h1]
  exact ha.slots t v h2
end
section
variable {P : Program} {n : Nat} {W0 : Cx} {s : cB} {U : View} {σ : aF}
theorem aIm {id : Nat} {l : List Oper} {Q : XQ} (m f r : Nat) (ds : List Nat) (vs : List Sq) (t : aOd) (hm : P.follows .mixedOrders = true) (hsz : l.length = m + f) (hlen : ds.length = m)
  (hds : pB l.toArray ds = true) (hnd : nodupB ds = true) (hlt : (ds.all fun d => Nat.blt d n) = true) (hedge : eQ .any l.toArray m = true) (htail : iY .any l.toArray m r = true) (hchain : fY l.toArray m f = true) (hmo : ∀ q ∈ vs, oZ q)
  (htk : aIe l.toArray m t = true) (hji : t.j < m ∧ t.i < m ∧ t.j ≠ t.i) (hvj : vs[t.j]? = some (.mem fun _ _ => True))
  (obs : Go.Proofs.YtcdjakemdlinhaaGreatDoor.Steps (ObC P n W0 U σ l.toArray ds vs s t) 0 m)
  (ts : List Nat) (vals : (Nat → Value) → List Value) (hsl : ∀ u, (ts.map fun t => look (aDh u 0 ds vs ++ aV s ds) t) = (vals u).map some)
  (h : ∀ (u : Nat → Value) (V : View), View.le U V → (∀ j, j < m → gJ vs j (u j) V) → SXL P n W0 Q l.toArray (l.drop m) (ts.zip (vals u)) V σ) : SXC P n W0 Q (.region id l.toArray true) s U σ := by
 refine ⟨fun a W ha hM => ?_⟩
 have hn := iI hnd
 have hd : ∀ d ∈ ds, d < n := fun d hd => by have := List.all_eq_true.1 hlt d hd; simpa [Nat.blt_eq] using this
 refine oE m f r ds (fun L u w => ∃ V σ', aOU W0 U σ vs m t L u w V σ') hm (by simpa using hsz) hlen hds hnd hedge htail ?_ ?_ ?_
 ·
  intro u
  exact ⟨U, [], ⟨View.le_refl _, by rw [List.append_nil]; exact hM.drew, fun j _ hj => by simp at hj, fun hj => by simp at hj, fun _ => rfl⟩⟩
 ·
  rintro i him L u w ⟨V, σ', I⟩ hLi hwt hcl K hK
  have hob := obs.get i (Nat.zero_le _) oW
  unfold ObC at hob
  split at hob
  ·
   next hij =>
   subst hij
   have hσ : σ' = [] := I.non (.inl hLi)
   subst hσ
   obtain ⟨o, g, ts, vals, ho, hgd, hsl, hgo⟩ := hob.go
   have hne : ∀ j, cI .any l.toArray t.j j = true → j ≠ t.j := fun j hj e => by have := (hwt j hj).1; rw [e, hLi] at this; cases this
   have hr := mQ (a0 := a) (u := u) (V := V) (vs := vs) (ops := l.toArray) t.j ha hn hd fun j hj => .inl (I.at_ j (hwt j hj).2 (hwt j hj).1 (hne j hj))
   obtain ⟨args, he, hc⟩ := hgo u V I.le fun j hj => (I.at_ j (hwt j hj).2 (hwt j hj).1 (hne j hj)).phi
   unfold wpOp
   simp only [ho, Region.wanted, hgd, if_true]
   left
   unfold Oper.wp
   rw [iU (fX ts _ hr (hsl u)) he]
   refine (hc w (by have := I.mem; rwa [List.append_nil] at this)).mono ?_
   rintro _ w' ⟨v, σ', rfl, hM', hΩ⟩
   have hLt : L t.i = false := by
    cases hx : L t.i with
    | false => rfl
    | true =>
     obtain ⟨o2, g2, Φ2, ts2, vals2, ho2, hgd2, hvi2, hw2, _⟩ := (show aMJ P n W0 U σ l.toArray ds vs s t from by
      have := obs.get t.i (Nat.zero_le _) oW
      unfold ObC at this
      rwa [if_neg (fun e => hji.2.2 e.symm), if_pos rfl] at this).go
     have := hcl t.i t.j hx hw2
     rw [hLi] at this
     cases this
   have := hK v w' ⟨V, σ', ⟨I.le, hM', fun j hj hL hne' => ?_, fun _ _ => ?_, fun hx => ?_⟩⟩
   ·
    rw [ho] at this
    exact this
   ·
    rw [if_neg hne'] at hL ⊢
    exact I.at_ j hj hL hne'
   ·
    rw [if_pos rfl]
    exact hΩ
   ·
    rw [if_pos rfl, if_neg (fun e => hji.2.2 e.symm)] at hx
    rcases hx with hx | hx
    · cases hx
    · rw [hLt] at hx; cases hx
  ·
   next hij =>
   split at hob
   ·
    next hii =>
    subst hii
    obtain ⟨o, g, Φ, ts, vals, ho, hgd, hvi, hwj, hsl, hgo⟩ := hob.go
    have hLj : L t.j = true := (hwt t.j hwj).1
    have hΩ := I.own hLj hLi
    have hr := mQ (a0 := a) (u := u) (V := V) (vs := vs) (ops := l.toArray) t.i ha hn hd fun j hj => by
     by_cases e : j = t.j
     · subst e; exact .inr ⟨_, hvj⟩
     · exact .inl (I.at_ j (hwt j hj).2 (hwt j hj).1 e)
    obtain ⟨args, he, hc⟩ := hgo u V σ' I.le (fun j hj e => (I.at_ j (hwt j hj).2 (hwt j hj).1 e).phi) hΩ
    unfold wpOp
    simp only [ho, Region.wanted, hgd, if_true]
    left
    unfold Oper.wp
    rw [iU (fX ts _ hr (hsl u)) he]
    refine (hc w (I.mem.perm List.perm_append_comm)).mono ?_
    rintro _ w' ⟨v, V', σ'', rfl, hl, hM', rfl, hΦ⟩
    rw [List.nil_append] at hM'
    have := hK v w' ⟨V', [], ⟨View.le_trans I.le hl, by rw [List.append_nil]; exact hM', fun j hj hL hne' => ?_, fun _ hx => ?_, fun _ => rfl⟩⟩
    ·
     rw [ho] at this
     exact this
    ·
     by_cases e : j = t.i
     ·
      subst e
      rw [if_pos rfl]
      unfold qE
      rw [hvi]
      exact hΦ
     ·
      rw [if_neg e] at hL ⊢
      exact (I.at_ j hj hL hne').le hmo hl
    ·
     rw [if_pos rfl] at hx
     cases hx
   ·
    next hii =>
    have hnj : ∀ j, cI .any l.toArray i j = true → j ≠ t.j := fun j hj e => by
     unfold aIe at htk
     have := List.all_eq_true.1 htk i (List.mem_range.2 him)
     rw [← e, hj, decide_eq_false hii] at this
     cases this
    have hM0 : Mem W0 U (σ ++ σ') w := I.mem.weak I.le
    refine ((hob σ').go a (up n W0 Q) ha hn hd hmo).step u w hM0 (fun j hj => (I.at_ j (hwt j hj).2 (hwt j hj).1 (hnj j hj)).isQ I.mem I.le) K fun v w' hM' hE hv => ?_
    obtain ⟨V', h1, h2, h3⟩ := hv.at hM'
    obtain ⟨q1, q2, q3⟩ := Mem.join (I.mem.call hE) h2
    refine hK v w' ⟨V.or V', σ', ⟨View.le_trans I.le q2, q1, fun j hj hL hne' => ?_, fun hx hy => ?_, fun hx => ?_⟩⟩
    ·
     by_cases e : j = i
     ·
      subst e
      rw [if_pos rfl]
      exact h3.le hmo q3
     ·
      rw [if_neg e] at hL ⊢
      exact (I.at_ j hj hL hne').le hmo q2
    ·
     rw [if_neg (fun e => hij e.symm)] at hx ⊢
     rw [if_neg (fun e => hii e.symm)] at hy
     exact I.own hx hy
    ·
     rw [if_neg (fun e => hij e.symm), if_neg (fun e => hii e.symm)] at hx
     exact I.non hx
 ·
  rintro L u W' ⟨V, σ', I⟩ hL
  have hσ : σ' = [] := I.non (.inr (hL _ hji.2.1))
  subst hσ
  refine gZ f m _ W' (by simpa using hsz.symm) hchain ?_
  have hg := fun t => fP ds 0 u a t hn (by rw [ha.size]; exact hd)
  have hph : ∀ j, j < m → gJ vs j (u j) V := fun j hj => by
   by_cases e : j = t.j
   ·
    unfold gJ
    rw [e, hvj]
    trivial
   · exact (I.at_ j hj (hL j hj) e).phi
  refine (h u V I.le hph).go _ W' (fX ts _ (s' := aDh u 0 ds vs ++ aV s ds) ⟨by rw [(hg 0).2.2.1, ha.size], by rw [(hg 0).2.2.2, ha.defers], fun x v hl => ?_⟩ (hsl u)) (by have := I.mem; rwa [List.append_nil] at this)
  rcases eP _ _ _ _ hl with hl | ⟨_, hl⟩
  ·
   have hmem := iJ _ _ _ hl
   obtain ⟨j, q, hd2, hvq, hq⟩ := lZ u 0 _ _ _ _ hmem
   have hjl : j < ds.length := (List.getElem?_eq_some_iff.1 hd2).1
   rw [(hg x).1 j hd2, Nat.zero_add]
   cases q with
   | val w =>
    simp only at hq
    have hne : j ≠ t.j := fun e => by rw [e, hvj] at hvq; cases hvq
    have := I.at_ j oW (hL j oW) hne
    unfold qE at this
    rw [hvq] at this
    simp only at this
    rw [this, hq]
   | mem Φ => simp only [Nat.zero_add] at hq; rw [hq]
  ·
   obtain ⟨h1, h2⟩ := eW _ _ _ _ hl
   rw [(hg x).2.1 h1]
   exact ha.slots x v h2
end
section
variable {P : Program} {n : Nat} {W0 : Cx} {Q : XQ} {s : cB} {U : View} {σ : aF} {ops : Array Oper} {l : List Oper} {o : Oper}
theorem aON (f : FuncId) (args : Array Value) (own σF : aF) (Φ : Value → View → aF → Prop) (hσ : σ.Perm (own ++ σF)) (hc : ∀ W, Mem W0 U (own ++ σF) W → Calls P f args W (fN W0 U σF Φ))
  (h : ∀ v V σ', View.le U V → Φ v V σ' → SXL P n W0 Q ops l (jX o v s) V (σ' ++ σF)) (he : enters P s o = some (f, args) := by kernel_rfl) (hd : eL n o = true := by kernel_rfl) (hw : cZ ops s o = some true := by kernel_rfl) : SXL P n W0 Q ops (o :: l) s U σ :=
 aAE f args own σF Φ hσ he hc hd hw h
theorem aN2 {W : World} {A B : aF} (hp : A.Perm B) (hM : Mem W0 U σ W) (e : σ = A := by kernel_rfl) : Mem W0 U B W := (hM.eqv e).perm hp
theorem aGJ (k : Nat) (σ : aF) : σ = σ.take k ++ σ.drop k := (List.take_append_drop k σ).symm
theorem dN (k : Nat) (h : ∀ b, SXL P n W0 Q ops l (jX o (nwV P s o b) s) U ((σ.take k ++ [(b, nwX P s o)]) ++ σ.drop k)) (hm : makes P s o = some (nwX P s o, fun r => some (nwV P s o r)) := by kernel_rfl) (hd : eL n o = true := by kernel_rfl) (hw : cZ ops s o = some true := by kernel_rfl) : SXL P n W0 Q ops (o :: l) s U σ :=
 aH4 _ _ (aGJ k σ) _ _ hm hd hw h
theorem aFd : ∀ (k : Nat) (σ : aF) (x : Nat × Obj), σ[k]? = some x → σ.Perm ([x] ++ σ.eraseIdx k)
 | _, [], x, h => by simp at h
 | 0, y :: σ, x, h => by
  simp only [List.getElem?_cons_zero, Option.some.injEq] at h
  subst h
  exact List.Perm.refl _
 | k + 1, y :: σ, x, h => by
  have := aFd k σ x (by simpa using h)
  exact (this.cons y).trans (List.Perm.swap x y _)
theorem gF (k : Nat) (x : Nat × Obj) (f : FuncId) (args : Array Value) (Φ : Value → View → aF → Prop) (hc : ∀ W, Mem W0 U ([x] ++ σ.eraseIdx k) W → Calls P f args W (fN W0 U (σ.eraseIdx k) Φ))
  (h : ∀ v V σ', View.le U V → Φ v V σ' → SXL P n W0 Q ops l (jX o v s) V (σ' ++ σ.eraseIdx k)) (hx : σ[k]? = some x := by kernel_rfl) (he : enters P s o = some (f, args) := by kernel_rfl) (hd : eL n o = true := by kernel_rfl) (hw : cZ ops s o = some true := by kernel_rfl) : SXL P n W0 Q ops (o :: l) s U σ :=
 aAE f args [x] _ Φ (aFd k σ x hx) he hc hd hw h
theorem aKp (f : FuncId) (args : Array Value) (Φ : Value → View → aF → Prop) (hc : ∀ W, Mem W0 U ([] ++ σ) W → Calls P f args W (fN W0 U σ Φ))
  (h : ∀ v V σ', View.le U V → Φ v V σ' → SXL P n W0 Q ops l (jX o v s) V (σ' ++ σ)) (he : enters P s o = some (f, args) := by kernel_rfl) (hd : eL n o = true := by kernel_rfl) (hw : cZ ops s o = some true := by kernel_rfl) : SXL P n W0 Q ops (o :: l) s U σ :=
 aAE f args [] _ Φ (List.Perm.refl _) he hc hd hw h
theorem dJ {V : View} {σ' σF : aF} {Φ : Value → View → aF → Prop} {v : Value} {W' : World} (hM : Mem W0 V σ W') (hl : View.le U V) (h : Φ v V σ') (hσ : σ = σ' ++ σF := by kernel_rfl) : fN W0 U σF Φ (.returned v) W' := ⟨v, V, σ', rfl, hl, hM.eqv hσ, h⟩
theorem dP {V : View} {σF : aF} {Φ : Value → View → aF → Prop} {v : Value} {W' : World} (k m : Nat) (x : Nat × Obj) (hM : Mem W0 V σ W') (hl : View.le U V) (h : Φ v V [x]) (hx : (σ.take m)[k]? = some x := by kernel_rfl) (hF : σ.drop m = σF := by kernel_rfl) : fN W0 U σF Φ (.returned v) W' := by
 subst hF
 refine ⟨v, V, [x], rfl, hl, hM.sub ?_, h⟩
 have h1 : [x].Sublist (σ.take m) := List.singleton_sublist.2 (List.mem_of_getElem? hx)
 have h2 := List.Sublist.append h1 (List.Sublist.refl (σ.drop m))
 rwa [List.take_append_drop] at h2
theorem aOt (σ1 ρ : aF) (h : ∀ b, SXL P n W0 Q ops l (jX o (nwV P s o b) s) U ((σ1 ++ [(b, nwX P s o)]) ++ ρ)) (hσ : σ = σ1 ++ ρ := by kernel_rfl) (hm : makes P s o = some (nwX P s o, fun r => some (nwV P s o r)) := by kernel_rfl) (hd : eL n o = true := by kernel_rfl) (hw : cZ ops s o = some true := by kernel_rfl) : SXL P n W0 Q ops (o :: l) s U σ :=
 aH4 σ1 ρ hσ _ _ hm hd hw h
theorem eC {f : FuncId} {fn : Func} {c : Code} {args : List Value} {R : Ending → World → Prop} {W : World} (n : Nat) (hf : P.funcs[f]? = some fn) (hM : Mem W0 U σ W) (h : SXC P n W0 (aJ9 P n W0 fn R) c (aLT 0 args) U σ)
  (hb : fn.body = some c := by rfl) (hn : fn.ntmps = n := by rfl) (hle : Nat.ble args.length n = true := by rfl) : Calls P f args.toArray W R := aH5 n U hf hb hn hle hM h
theorem dI (k : Nat) {x : Nat × Obj} {f : FuncId} {args : Array Value} {Φ : Value → View → aF → Prop} (hc : ∀ W, Mem W0 U ([x] ++ σ.eraseIdx k) W → Calls P f args W (fN W0 U (σ.eraseIdx k) Φ))
  (h : ∀ v V σ', View.le U V → Φ v V σ' → SXL P n W0 Q ops l (jX o v s) V (σ' ++ σ.eraseIdx k)) (hx : σ[k]? = some x := by kernel_rfl) (he : enters P s o = some (f, args) := by kernel_rfl) (hd : eL n o = true := by kernel_rfl) (hw : cZ ops s o = some true := by kernel_rfl) : SXL P n W0 Q ops (o :: l) s U σ :=
 aAE f args [x] _ Φ (aFd k σ x hx) he hc hd hw h
theorem tT (kσ : Nat) (e t : TypeId) (bytes k c : Nat) {r : Rw} {xs : List Value} {m z b f : Nat} {news : List Value} {x y : Operand} (hok : r.ok z m xs) (hnews : ∀ W, Mem W0 U σ W → W.rangeAt b f news) (hl : news.length = k * z) (h1 : ∀ u ∈ news, u.oneCell' = true) (hk : 0 < k)
  (h : ∀ r' : Rw, r'.ok z (m + k) (xs ++ news) → SXL P n W0 Q ops l (jX o (r'.V (m + k)) s) U (σ.take kσ ++ r'.B e (xs ++ news))) (ho : o.op = .call { callee := .builtin .append, args := #[x, y], argTypes := #[t, t] } := by rfl) (hσ : σ = σ.take kσ ++ r.B e xs := by kernel_rfl) (hx : evS s x = some (r.V m) := by kernel_rfl)
  (hy : evS s y = some (.slice (some ⟨b, f, none⟩) k c) := by kernel_rfl) (h63 : m + k ≤ maxLen := by unfold maxLen; omega) (hby : (m + k) * bytes ≤ 140737488355328 := by omega) (hi : (P.info? e).map (fun i => (i.size, i.bytes, i.zero.map (·.cells.size))) = some (z, bytes, some z) := by kernel_rfl) (ht : P.underlying t = some (.slice e) := by kernel_rfl)
  (hz0 : Nat.blt 0 z = true := by kernel_rfl) (hd : eL n o = true := by kernel_rfl) (hw : cZ ops s o = some true := by kernel_rfl) : SXL P n W0 Q ops (o :: l) s U σ :=
 fV r xs m (σ.take kσ) e t z bytes k hσ hok x y ho hx b f c news hy hnews hl h1 hk h63 hby hi ht hz0 hd hw h
end
theorem aA0 {P : Program} {W : World} {b f z n : Nat} {ys : List Value} (h : W.rangeAt b f ys) (hl : ys.length = n * z) (c c' : Nat) : (Builtin.firstCells z n (.slice (some ⟨b, f, none⟩) c c')).run P W = .ok ys.toArray W := by
 have := run_loadCells_list (P := P) (w := W) ⟨b, f, none⟩ ys (fun j v hv => by
  have hadd : (⟨b, f, none⟩ : Addr).add j = ⟨b, f + j, none⟩ := by unfold Addr.add; split <;> simp_all
  rw [hadd]
  exact h j v hv)
 unfold Builtin.firstCells
 rw [← hl]
 exact this
theorem pP {P : Program} {W : World} {b off : Nat} {cs ys : List Value} {t : TypeId} (hb : W.heap[b]? = some (.cells cs.toArray t (0, 0))) (hl : off + ys.length ≤ cs.length) (h1 : ∀ u ∈ ys, u.oneCell' = true) : (storeCells ⟨b, off, none⟩ ys).run P W = .ok () (W.setCells b off ys) := by
 have ht := mF hb hl
 have := run_storeCells_cells (P := P) b off ys 0 W (fun j hj => by simpa using (ht j hj).1) (fun j hj => by simpa using (ht j hj).2) h1
 simpa using this
theorem add_mid (b f k : Nat) : (⟨b, f, none⟩ : Addr).add k = ⟨b, f + k, none⟩ := by unfold Addr.add; split <;> simp_all
section
variable {P : Program} {n : Nat} {W0 : Cx} {Q : XQ} {s : cB} {U : View} {σ : aF} {ops : Array Oper} {l : List Oper} {o : Oper}
theorem sC {P : Program} {e : TypeId} {z : Nat} (hs : (P.info? e).map (·.size) = some z) (W : World) : (sizeOf e).run P W = .ok z W := by
 cases hq : P.info? e with
 | none => rw [hq] at hs; cases hs
 | some i =>
  rw [hq] at hs
  simp only [Option.map_some, Option.some.injEq] at hs
  simp [sizeOf, typeInfo, hq, hs]
theorem aKo (k b f n1 c b2 f2 n2 c2 m z : Nat) (cs ys : List Value) (e t t2 te : TypeId) (x y : Operand) (ho : o.op = .call { callee := .builtin .copy, args := #[x, y], argTypes := #[t, t2] }) (hx : evS s x = some (.slice (some ⟨b, f, none⟩) n1 c)) (hy : evS s y = some (.slice (some ⟨b2, f2, none⟩) n2 c2))
  (hk : σ[k]? = some (b, .cells cs.toArray te (0, 0))) (hm : Nat.min n2 n1 = m) (hr : ∀ W, Mem W0 U σ W → W.rangeAt b2 f2 ys) (hl : ys.length = m * z) (h1 : ∀ u ∈ ys, u.oneCell' = true) (hfit : f + ys.length ≤ cs.length)
  (hu : P.underlying t = some (.slice e)) (hs : (P.info? e).map (·.size) = some z) (hd : eL n o = true) (hw : cZ ops s o = some true)
  (h : SXL P n W0 Q ops l (jX o (goInt m) s) U (σ.set k (b, .cells (cA cs f ys).toArray te (0, 0)))) : SXL P n W0 Q ops (o :: l) s U σ := by
 refine oG hd hw fun a W ha hM K hK => ?_
 have hb := (hM.own k b _ hk).1
 have hrun := aA0 (P := P) (hr W hM) hl n2 c2
 have hst := pP (P := P) hb hfit h1
 obtain ⟨q1, q2, q3, q4, q5, q6⟩ := gK b ys f W cs te hb hfit
 have happ : (Builtin.copy_ #[t, t2] o.type #[.slice (some ⟨b, f, none⟩) n1 c, .slice (some ⟨b2, f2, none⟩) n2 c2]).run P W = .ok (goInt m) (W.setCells b f ys) := by
  simp [Builtin.copy_, run_underlying hu, sC hs, Builtin.lenOf, hm, hrun, hst, Result.andThen]
 unfold Oper.wp execOp
 simp only [ho, resolve, invoke, builtin, Sem.run_bind, Sem.run_pure, Result.andThen_ok, List.map_toArray, List.map_cons, List.map_nil, dZ ha hx, dZ ha hy, happ]
 exact hK _ _ _ _ _ h (eD ha hd) (hM.set k b _ _ hk q4 q5 q6 q3 q1 q2)
theorem aLJ (k b f n1 c z : Nat) (cs : List Value) (zv : Value) (e t te : TypeId) (x : Operand) (ho : o.op = .call { callee := .builtin .clear, args := #[x], argTypes := #[t] }) (hx : evS s x = some (.slice (some ⟨b, f, none⟩) (n1 + 1) c))
  (hk : σ[k]? = some (b, .cells cs.toArray te (0, 0))) (hz : ∀ W : World, (zeroValue e).run P W = .ok zv W) (hzs : zv.cells.size = z) (h1 : zv.cells.all (·.oneCell') = true) (hfit : f + (n1 + 1) * z ≤ cs.length)
  (hu : P.underlying t = some (.slice e)) (hd : eL n o = true) (hw : cZ ops s o = some true)
  (h : ∀ ys : List Value, ys.length = (n1 + 1) * z → SXL P n W0 Q ops l (jX o (.tuple #[]) s) U (σ.set k (b, .cells (cA cs f ys).toArray te (0, 0)))) : SXL P n W0 Q ops (o :: l) s U σ := by
 refine oG hd hw fun a W ha hM K hK => ?_
 have hb := (hM.own k b _ hk).1
 have hlen : (Builtin.zeroCells zv.cells (n1 + 1)).toList.length = (n1 + 1) * z := by simp [Builtin.zeroCells, hzs]
 have hst := pP (P := P) hb (ys := (Builtin.zeroCells zv.cells (n1 + 1)).toList) (by rw [hlen]; exact hfit) (fun u hu => by
  simp only [Builtin.zeroCells, Array.toList_map, List.mem_map] at hu
  obtain ⟨i, hi, rfl⟩ := hu
  have hi' : i < (n1 + 1) * z := by
   have := Array.mem_toList_iff.1 hi
   simp at this
   rw [hzs] at this
   exact this
  have hz0 : 0 < z := by
   rcases Nat.eq_zero_or_pos z with h | h
   · rw [h] at hi'; omega
   · exact h
  have hlt : i % zv.cells.size < zv.cells.size := Nat.mod_lt _ oW
  rw [getElem!_pos zv.cells _ hlt]
  exact Array.all_eq_true.1 h1 _ hlt)
 obtain ⟨q1, q2, q3, q4, q5, q6⟩ := gK b _ f W cs te hb (by rw [hlen]; exact hfit)
 have happ : (Builtin.clear_ #[t] o.type #[.slice (some ⟨b, f, none⟩) (n1 + 1) c]).run P W = .ok (.tuple #[]) (W.setCells b f (Builtin.zeroCells zv.cells (n1 + 1)).toList) := by
  simp [Builtin.clear_, run_underlying hu, hz, hst, Result.andThen]
 unfold Oper.wp execOp
 simp only [ho, resolve, invoke, builtin, Sem.run_bind, Sem.run_pure, Result.andThen_ok, List.map_toArray, List.map_cons, List.map_nil, dZ ha hx, happ]
 exact hK _ _ _ _ _ (h _ hlen) (eD ha hd) (hM.set k b _ _ hk q4 q5 q6 q3 q1 q2)
end
def aFD (s : cB) (x : Option Operand) (d v : Nat) : Prop := match x with
 | some y => evS s y = some (.int .i64 (v : Int))
 | none => v = d
theorem gD {P : Program} {s : cB} {o : Oper} (t e : TypeId) (x : Operand) (lo hi mx : Option Operand) (ho : o.op = .slice t x lo hi mx) (b f len cap l h m z n' c' f' : Nat) (hx : evS s x = some (.slice (some ⟨b, f, none⟩) len cap))
  (hl : aFD s lo 0 l) (hh : aFD s hi len h) (hm : aFD s mx cap m) (hn : mx.isSome = true → hi.isSome = true) (h1 : l ≤ h) (h2 : h ≤ m) (h3 : m ≤ cap) (en : h - l = n') (ec : m - l = c') (ef : (if m = l then f else f + l * z) = f')
  (hu : P.underlying t = some (.slice e)) (hs : (P.info? e).map (·.size) = some z) (W : World) : (execOp (ev s) o).run P W = .ok (.value (.slice (some ⟨b, f', none⟩) n' c')) W := by
 have hz := sC hs W
 have bd : ∀ (v y : Nat) (c : BoundsCode), v ≤ y → (Instr.sliceBound (.int .i64 (v : Int)) y c).run P W = .ok v W := fun v y c hv => by
  simp [Instr.sliceBound, asIntOf, Result.andThen]
  intro hc
  omega
 have key : (Instr.slice t (.slice (some ⟨b, f, none⟩) len cap) (lo.map (ev s)) (hi.map (ev s)) (mx.map (ev s))).run P W = .ok (.slice (some ⟨b, f', none⟩) n' c') W := by
  have hb : (Instr.sliceBounds true len cap (lo.map (ev s)) (hi.map (ev s)) (mx.map (ev s))).run P W = .ok (l, h, m) W := by
   unfold aFD at hl hh hm
   cases mx with
   | some mo =>
    cases hi with
    | none => exact absurd (hn rfl) (by simp)
    | some ho' =>
     cases lo with
     | some lo' => simp [Instr.sliceBounds, eF hl, eF hh, eF hm, bd _ _ _ h1, bd _ _ _ h2, bd _ _ _ h3, Result.andThen]
     | none => simp only at hl; subst hl; simp [Instr.sliceBounds, eF hh, eF hm, bd _ _ _ h2, bd _ _ _ h3, Result.andThen]
   | none =>
    simp only at hm
    subst hm
    cases hi with
    | none =>
     simp only at hh
     subst hh
     cases lo with
     | some lo' => simp [Instr.sliceBounds, eF hl, bd _ _ _ h1, Result.andThen]
     | none => simp only at hl; subst hl; simp [Instr.sliceBounds, Result.andThen]
    | some ho' =>
     cases lo with
     | some lo' => simp [Instr.sliceBounds, eF hl, eF hh, bd _ _ _ h1, bd _ _ _ h2, Result.andThen]
     | none => simp only at hl; subst hl; simp [Instr.sliceBounds, eF hh, bd _ _ _ h2, Result.andThen]
  simp only [Instr.slice, Sem.run_bind, run_underlying hu, Result.andThen_ok, hb, hz, Sem.run_pure]
  subst en ec ef
  split <;> simp [add_mid]
 have key2 : (Instr.sliceAt t (.slice (some ⟨b, f, none⟩) len cap) (lo.map (ev s)) (hi.map (ev s)) (mx.map (ev s))).run P W = .ok (.slice (some ⟨b, f', none⟩) n' c') W := by
  simp only [Instr.sliceAt, Sem.run_bind, run_underlying hu, Result.andThen_ok, key]
 unfold execOp
 simp only [ho, eF hx, Sem.run_bind, key2, Result.andThen_ok, Sem.run_pure]
theorem Mem.freezeHead {W0 : Cx} {U : View} {σF : aF} {W : World} {b : Nat} {cs : List Value} {t : TypeId} (h : Mem W0 U ((b, .cells cs.toArray t (0, 0)) :: σF) W) : ∃ V, View.le U V ∧ V.range b 0 cs ∧ Mem W0 V σF W := by
 have hs : Mem W0 U σF W := h.sub (List.sublist_cons_self _ _)
 obtain ⟨q1, q2, _⟩ := h.own 0 b _ rfl
 exact hs.addView q1 q2 fun k x hx he => by
  have := h.apart 0 (k + 1) (b, .cells cs.toArray t (0, 0)) x rfl (by simpa using hx) he.symm
  cases this
theorem aNJ.own {W0 : Cx} {V : View} {σ : aF} {W W' : World} {e : TypeId} {z m : Nat} {xs : List Value} {en : Ending} (hM : Mem W0 V σ W) (h : aNJ W e z m xs en W') :
  ∃ v σ', en = .returned v ∧ Mem W0 V (σ ++ σ') W' ∧ ∃ b c j, v = .slice (some ⟨b, 0, none⟩) m c ∧ σ' = [(b, .cells (xs ++ j).toArray e (0, 0))] ∧ (Rw.row b c j).ok z m xs := by
 obtain ⟨b, cap, junk, rfl, hb, hge, hat, hok⟩ := h
 refine ⟨_, _, rfl, ?_, b, cap, junk, rfl, rfl, hok⟩
 have hM' := hM.call hb
 have hs : Mem W0 V (σ ++ ([] ++ [])) W' := by simpa using hM'
 have := hs.swap (B' := [(b, .cells (xs ++ junk).toArray e (0, 0))]) hM'.below (fun _ _ _ => rfl) hM'.view (.inr ⟨b, _, rfl, hat, Nat.le_trans hM.below.size hge, fun a ha => ?_, fun k x hx he => ?_⟩)
 · simpa using this
 ·
  cases hu : V a with
  | none => rfl
  | some v => have := oT (hM.view a v hu); omega
 ·
  have := fU (hM.own k x.1 x.2 (by simpa using hx)).1
  omega
end Go.Proofs.YtcdjakemdlinhaaGreatDoor.Sx
namespace Go.Proofs
open Go.Shelf
def Tryz.lays105_ren : Go.Shelf.Ren := ⟨fun | 105 => 246 | 212 => 253 | 99 => 254 | 165 => 255 | 166 => 256 | 170 => 257 | 169 => 258 | 263 => 263 | 264 => 264 | 206 => 236 | 240 => 265 | 241 => 266 | 276 => 269 | 277 => 270 | n => n, fun | 9 => 9 | 3 => 3 | 4 => 4 | 20 => 20 | 0 => 0 | 46 => 248 | 109 => 317 | 5 => 5 | 72 => 321 | 76 => 252 | 51 => 263 | 146 => 328 | 53 => 22 | 148 => 330 | 70 => 319 | 37 => 160 | 75 => 208 | 127 => 332 | 164 => 335 | 80 => 324 | n => n, fun | n => n⟩
theorem Tryz.lays105 : Go.Proofs.Lays.n105 Tryz.prog Tryz.lays105_ren := {
 mixed := by kernel_rfl
 f99 := Tryz.func254.trans (congrArg some (by kernel_rfl))
 f105 := Tryz.func246.trans (congrArg some (by kernel_rfl))
 f165 := Tryz.func255.trans (congrArg some (by kernel_rfl))
 f166 := Tryz.func256.trans (congrArg some (by kernel_rfl))
 f169 := Tryz.func258.trans (congrArg some (by kernel_rfl))
 f170 := Tryz.func257.trans (congrArg some (by kernel_rfl))
 f206 := Tryz.func236.trans (congrArg some (by kernel_rfl))
 f212 := Tryz.func253.trans (congrArg some (by kernel_rfl))
 f240 := Tryz.func265.trans (congrArg some (by kernel_rfl))
 f241 := Tryz.func266.trans (congrArg some (by kernel_rfl))
 f263 := Tryz.func263.trans (congrArg some (by kernel_rfl))
 f264 := Tryz.func264.trans (congrArg some (by kernel_rfl))
 f276 := Tryz.func269.trans (congrArg some (by kernel_rfl))
 f277 := Tryz.func270.trans (congrArg some (by kernel_rfl))
 t0 := Tryz.underlying0
 a0 := Tryz.isAgg0
 z0 := Tryz.sizeOf0
 v0 := Tryz.zeroValue0
 t3 := Tryz.underlying3
 a3 := Tryz.isAgg3
 z3 := Tryz.sizeOf3
 v3 := Tryz.zeroValue3
 t4 := Tryz.underlying4
 a4 := Tryz.isAgg4
 z4 := Tryz.sizeOf4
 v4 := Tryz.zeroValue4
 t5 := Tryz.underlying5
 a5 := Tryz.isAgg5
 z5 := Tryz.sizeOf5
 v5 := Tryz.zeroValue5
 t9 := Tryz.underlying9
 a9 := Tryz.isAgg9
 z9 := Tryz.sizeOf9
 v9 := Tryz.zeroValue9
 t20 := Tryz.underlying20
 a20 := Tryz.isAgg20
 z20 := Tryz.sizeOf20
 v20 := Tryz.zeroValue20
 t37 := Tryz.underlying160
 a37 := Tryz.isAgg160
 z37 := Tryz.sizeOf160
 v37 := Tryz.zeroValue160
 t46 := Tryz.underlying248
 a46 := Tryz.isAgg248
 z46 := Tryz.sizeOf248
 v46 := Tryz.zeroValue248
 t51 := Tryz.underlying263
 a51 := Tryz.isAgg263
 z51 := Tryz.sizeOf263
 v51 := Tryz.zeroValue263
 t53 := Tryz.underlying22
 a53 := Tryz.isAgg22
 z53 := Tryz.sizeOf22
 v53 := Tryz.zeroValue22
 t70 := Tryz.underlying319
 a70 := Tryz.isAgg319
 z70 := Tryz.sizeOf319
 v70 := Tryz.zeroValue319
 t72 := Tryz.underlying321
 a72 := Tryz.isAgg321
 z72 := Tryz.sizeOf321
 v72 := Tryz.zeroValue321
 t75 := Tryz.underlying208
 a75 := Tryz.isAgg208
 z75 := Tryz.sizeOf208
 v75 := Tryz.zeroValue208
 t76 := Tryz.underlying252
 a76 := Tryz.isAgg252
 z76 := Tryz.sizeOf252
 v76 := Tryz.zeroValue252
 t109 := Tryz.underlying317
 a109 := Tryz.isAgg317
 z109 := Tryz.sizeOf317
 v109 := Tryz.zeroValue317
 t127 := Tryz.underlying332
 a127 := Tryz.isAgg332
 z127 := Tryz.sizeOf332
 v127 := Tryz.zeroValue332
 t146 := Tryz.underlying328
 a146 := Tryz.isAgg328
 z146 := Tryz.sizeOf328
 v146 := Tryz.zeroValue328
 t148 := Tryz.underlying330
 a148 := Tryz.isAgg330
 z148 := Tryz.sizeOf330
 v148 := Tryz.zeroValue330
 t164 := Tryz.underlying335
 a164 := Tryz.isAgg335
 z164 := Tryz.sizeOf335
 v164 := Tryz.zeroValue335 }
theorem Tryz.Builder_Extra_105 : Builder.Extra Tryz.prog Tryz.lays105_ren := {
 sizeBuilder := by kernel_rfl
 liesBuilder := by kernel_rfl
 t5 := Tryz.underlying5
 a5 := Tryz.isAgg5
 z5 := Tryz.sizeOf5
 v5 := Tryz.zeroValue5
 infoByte := by kernel_rfl
 cellsByte := by kernel_rfl
 sizeByte := by kernel_rfl
 neB5 := by decide }
open Go.RowKit Go.Lib in
theorem Tryz.strings_Repeat (s : ByteArray) (c : Nat) (w : World) (hc : c ≤ 9223372036854775807) (hlen : s.size * c ≤ 140737488355328) :
  Calls Tryz.prog 246 #[.string s, .int .i64 c] w fun e w' => e = .returned (.string ⟨(Lib.repeatL s.data.toList c).toArray⟩) ∧ Below w.heap.size w w' := Any.strings_Repeat Tryz.lays105 Tryz.Builder_Extra_105 s c w hc hlen
end Go.Proofs
namespace Go.Proofs.YtcdjakemdlinhaaGreatDoor.Sx
open Go.ChangeShapes Go.WideShapes Go.ChangeAt Go.RowKit Go.Deep
theorem aBA {U : View} {w : World} (hU : See U w) (b f n c : Nat) (xs : List Value) (hr : U.range b f xs) (hl : xs.length = n * 5) (h1 : ∀ u ∈ xs, u.oneCell' = true) (hn : 0 < n) (h47 : n * 64 ≤ 140737488355328) :
    CP 251 #[.slice (some ⟨b, f, none⟩) n c] w (aNJ w 89 5 n xs) := by
 refine eG 8 Tryz.func251 hU ?_
 refine zQ 1 (zn (zs (zQ 1 (cH (.bool false) (aDD _ _ _ _ rfl (some ⟨b,f,none⟩) n c 89 kR kR kR) ?_))))
 refine zn (dE (zk (zs (zr (cJ (fun b0 => (zq 1 ?_)))))))
 refine fV (Rw.row b0 0 []) [] 0 [] 89 87 5 64 n kR ⟨rfl,rfl,Nat.le_refl _,by decide⟩ (.tmp 5) (.tmp 6) rfl kR b f c xs kR (fun W hM => View.range_of hr hM.view) hl h1 hn (by unfold maxLen; omega) oW kR kR kR kR kR (fun r1 hr1 => ?_)
 refine zq 1 (zn (aA (aH [2] [(r1.V (0 + n))] (fun W' hM => ?_))))
 have := aEY hM hr1 oW
 simp only [cG]
 rw [Nat.zero_add,List.nil_append] at this
 rw [Nat.zero_add]
 exact this
theorem aFv {U : View} {w : World} (hU : See U w) (b f n c : Nat) (xs : List Value) (hr : U.range b f xs) (hl : xs.length = n * 5) (h1 : ∀ u ∈ xs, u.oneCell' = true) (hn : 0 < n) (h47 : n * 48 ≤ 140737488355328) :
    CP 92 #[.slice (some ⟨b, f, none⟩) n c] w (aNJ w 38 5 n xs) := by
 refine eG 8 Tryz.func92 hU ?_
 refine zQ 1 (zn (zs (zQ 1 (cH (.bool false) (aDD _ _ _ _ rfl (some ⟨b,f,none⟩) n c 38 kR kR kR) ?_))))
 refine zn (dE (zk (zs (zr (cJ (fun b0 => (zq 1 ?_)))))))
 refine fV (Rw.row b0 0 []) [] 0 [] 38 27 5 48 n kR ⟨rfl,rfl,Nat.le_refl _,by decide⟩ (.tmp 5) (.tmp 6) rfl kR b f c xs kR (fun W hM => View.range_of hr hM.view) hl h1 hn (by unfold maxLen; omega) oW kR kR kR kR kR (fun r1 hr1 => ?_)
 refine zq 1 (zn (aA (aH [2] [(r1.V (0 + n))] (fun W' hM => ?_))))
 have := aEY hM hr1 oW
 simp only [cG]
 rw [Nat.zero_add,List.nil_append] at this
 rw [Nat.zero_add]
 exact this
theorem aFU {U : View} {w : World} (hU : See U w) (b f n c : Nat) (xs : List Value) (hr : U.range b f xs) (hl : xs.length = n * 1) (h1 : ∀ u ∈ xs, u.oneCell' = true) (hn : 0 < n) (h47 : n * 8 ≤ 140737488355328) :
    CP 39 #[.slice (some ⟨b, f, none⟩) n c] w (aNJ w 3 1 n xs) := by
 refine eG 8 Tryz.func39 hU ?_
 refine zQ 1 (zn (zs (zQ 1 (cH (.bool false) (aDD _ _ _ _ rfl (some ⟨b,f,none⟩) n c 3 kR kR kR) ?_))))
 refine zn (dE (zk (zs (zr (cJ (fun b0 => (zq 1 ?_)))))))
 refine fV (Rw.row b0 0 []) [] 0 [] 3 48 1 8 n kR ⟨rfl,rfl,Nat.le_refl _,by decide⟩ (.tmp 5) (.tmp 6) rfl kR b f c xs kR (fun W hM => View.range_of hr hM.view) hl h1 hn (by unfold maxLen; omega) oW kR kR kR kR kR (fun r1 hr1 => ?_)
 refine zq 1 (zn (aA (aH [2] [(r1.V (0 + n))] (fun W' hM => ?_))))
 have := aEY hM hr1 oW
 simp only [cG]
 rw [Nat.zero_add,List.nil_append] at this
 rw [Nat.zero_add]
 exact this
def Z (n : Nat) : List UInt8 := List.replicate n 0
theorem tL (n : Nat) : (Z n).length = n := List.length_replicate
theorem aKC (c : Nat) : Lib.repeatL [0] c = Z c := by
 unfold Z
 induction c with
 | zero => rfl
 | succ n ih => simp [Lib.repeatL, ih, List.replicate_succ]
theorem aCL (c : Nat) (w : World) (hc : c ≤ 1000) : CP 246 #[.string (B [0]), .int .i64 c] w (Ret (.string (B (Z c))) w) := by
 have h := Tryz.strings_Repeat ⟨#[0]⟩ c w oW (by show 1 * c ≤ _; omega)
 rw [show (⟨#[0]⟩ : ByteArray).data.toList = [0] from rfl, aKC] at h
 exact h
theorem fG.ofRow {V : View} {a : Option Addr} {xs : List Value} (L : List (Itm.Tr × List Value)) (hr : qB V a xs) (hxs : xs = L.flatMap Prod.snd) (h : gL V L) (l : List Itm.Tr) (hl : L.map Prod.fst = l) (hlen : l.length ≤ R47) : fG V a l := by
 subst hxs hl
 refine ⟨fun i x hx => ?_, hlen⟩
 have hne : L.flatMap Prod.snd ≠ [] := by
  intro he
  have := h.flat_len
  rw [he] at this
  cases L with
  | nil => simp at hx
  | cons p r => simp at this
 obtain ⟨b, rfl, hR⟩ := hr.at_ hne
 obtain ⟨cs, h1, h2⟩ := h.get hR i x hx
 exact ⟨b, 0, cs, rfl, h1, h2⟩
def qC (t : Itm.Tr) : Value → View → Prop := fun v V => ∃ cs, v = .agg cs.toArray ∧ TV V t cs
def aBt (f : Nat) : Bool := gC .u64 f 1 != 0
def gQ (p : Pr) (sum : List UInt8) : List Itm.Tr :=
 [Itm.cN 7, Itm.cN p.f, Itm.cN p.c.toNat, p.dst.tree, p.src.tree, p.rpt.tree, Itm.dH [Itm.cN p.time, Itm.cN p.seq], Itm.cN p.life] ++ (if aBt p.f then [Itm.cN p.off, Itm.cN p.tot] else []) ++ (if p.c != 0 then [dY sum] else [])
theorem aG3 (p : Pr) (sum : List UInt8) (w : World) {U : View} (hU : See U w) (hp : p.ok) (hs : sum.length ≤ R47) (hc0 : 0 ≤ p.c) (hc2 : p.c ≤ 2) (hd : aX p.dst = true) (hr : aX p.src = true) (ht : aX p.rpt = true) :
    CP 245 #[p.V, .string (B sum)] w (rO w U (qC (Itm.dH (gQ p sum)))) := by
 have hf := hp.f
 have h1 := hp.time
 have h2 := hp.seq
 have h3 := hp.life
 have h4 := hp.off
 have h5 := hp.tot
 have hcw : IntKind.u64.wrap p.c = (p.c.toNat : Int) := by
  have := u64_in (x := p.c) oW oW
  omega
 have hcn : p.c.toNat < W64 := by unfold W64; omega
 refine eG 76 Tryz.func245 hU ?_
 refine zs (zr (cJ (fun b0 => (cJ (fun b1 => (zn (zB [0,1] [(b0,4)] (aED (fun W hM => oB p.dst W hM.view hp.dst hd) (fun v2 V2 hV2 hP2 => ?_)))))))))
 obtain ⟨cs2,rfl,ht2⟩ := hP2
 obtain ⟨a2,c2,rfl,hts2,hn2,hs2,hl2⟩ := ht2.form
 refine zq 3 (cJ (fun b3 => (aY 2 b3 (zq 1 (zn (zB [0,1] [(b0,4)] (aED (fun W hM => oB p.src W hM.view hp.src hr) (fun v4 V4 hV4 hP4 => ?_))))))))
 have k6 := ht2.le hV4
 obtain ⟨cs4,rfl,ht4⟩ := hP4
 obtain ⟨a4,c4,rfl,hts4,hn4,hs4,hl4⟩ := ht4.form
 refine zq 3 (cJ (fun b7 => (aY 3 b7 (zq 1 (zn (zB [0,1] [(b0,4)] (aED (fun W hM => oB p.rpt W hM.view hp.rpt ht) (fun v8 V8 hV8 hP8 => ?_))))))))
 have k11 := k6.le hV8
 have k12 := ht4.le hV8
 obtain ⟨cs8,rfl,ht8⟩ := hP8
 obtain ⟨a8,c8,rfl,hts8,hn8,hs8,hl8⟩ := ht8.form
 refine zq 3 (cJ (fun b13 => (aY 4 b13 (zq 1 (zn (zs ?_))))))
 refine aBM 4 [1,0,3,1,0,3,1,1,5,6,7,0,3,1,0,3,1,1,1,0,3,1] [(b0,1),(b0,1),(b3,5),(b7,5),(b13,5),(b0,1),(b0,1),(b0,1)] [.val (.agg #[(I6 0),(U6 7),(St []),S0,(.bool false)]),.val (iV p.f),.val (N6 p.c.toNat),.val (iV p.c.toNat),.val (iV p.time),.val (iV p.seq),.mem (fun v V => ∃ g,v = (Sl g 0 2 2) ∧ fG V (some ⟨g,0,none⟩) [(Itm.cN p.time),(Itm.cN p.seq)]),.mem (fun v V => ∃ g,v = (.agg #[.int .i64 4,.int .u64 0,.string (B []),.slice (some ⟨g,0,none⟩) 2 2,.bool false]) ∧ fG V (some ⟨g,0,none⟩) [(Itm.cN p.time),(Itm.cN p.seq)]),.val (iV p.life)] (by simp only [List.forall_mem_cons]; exact ⟨trivial,trivial,trivial,trivial,trivial,trivial,by intro v V V2 hV2 hP; (first | trivial | exact PhiMono.go hP hV2 | (obtain ⟨g,e,hP⟩ := hP; exact ⟨g,e,hP.le hV2⟩)),by intro v V V2 hV2 hP; (first | trivial | exact PhiMono.go hP hV2 | (obtain ⟨g,e,hP⟩ := hP; exact ⟨g,e,hP.le hV2⟩)),trivial,fun _ h => by cases h⟩) ⟨?_,?_,?_,?_,?_,?_,?_,?_,?_,trivial⟩ ?_
 ·
  refine wV 40 (fun u => #[(U6 7)]) fun u V hV hdq W hW => ?_
  exact dM _ W
 ·
  refine wV 40 (fun u => #[(N6 p.f)]) fun u V hV hdq W hW => ?_
  exact dM _ W
 · exact wE (U6 (IntKind.u64.wrap p.c)) (congrArg (Value.int .u64) hcw)
 ·
  refine wV 40 (fun u => #[(N6 p.c.toNat)]) fun u V hV hdq W hW => ?_
  exact dM _ W
 ·
  refine wV 40 (fun u => #[(N6 p.time)]) fun u V hV hdq W hW => ?_
  exact dM _ W
 ·
  refine wV 40 (fun u => #[(N6 p.seq)]) fun u V hV hdq W hW => ?_
  exact dM _ W
 ·
  refine wN [43,46] (fun u => [(iV p.time),(iV p.seq)]) fun u V hV hdq => ?_
  refine ⟨[(I6 0),(N6 p.time),(St []),S0,(.bool false),(I6 0),(N6 p.seq),(St []),S0,(.bool false)],89,fun r => (Sl r 0 2 2),?_,fun g V' hV' hR => ?_⟩
  · kernel_rfl
  exact ⟨g,rfl,fG.lit [((Itm.cN p.time),(iN p.time)),((Itm.cN p.seq),(iN p.seq))] hR ⟨((TV.num _ p.time (by first | assumption | decide | (unfold W64; omega))).le hV).le hV',((TV.num _ p.seq (by first | assumption | decide | (unfold W64; omega))).le hV).le hV',trivial⟩ (show 2 ≤ R47 by decide)⟩
 ·
  refine wM 178 (fun u => #[u 17]) fun u V hV hdq W hW => ?_
  have e17 := hdq 17 kR rfl
  obtain ⟨g17,q17,t17⟩ := e17
  rw [q17]
  exact Calls.retN hW (dW _ _ _ W) ⟨g17,rfl,t17⟩
 ·
  refine wV 40 (fun u => #[(N6 p.life)]) fun u V hV hdq W hW => ?_
  exact dM _ W
 intro u14 V14 hV14 hdq14
 have k18 := k11.le hV14
 have k19 := k12.le hV14
 have k20 := ht8.le hV14
 have k21 := (TV.num _ 7 (by first | assumption | decide | (unfold W64; omega))).le hV14
 have k22 := (TV.num _ p.f (by first | assumption | decide | (unfold W64; omega))).le hV14
 have k23 := (TV.num _ p.c.toNat (by first | assumption | decide | (unfold W64; omega))).le hV14
 have k26 := (TV.num _ p.life (by first | assumption | decide | (unfold W64; omega))).le hV14
 have e18_14 := hdq14 18 rfl
 obtain ⟨g18_14,q18_14,t18_14⟩ := e18_14
 refine aLH 48 q18_14 ?_
 refine cJ (fun b27 => ?_)
 have hAb27 : gL V14 [((Itm.cN 7),[(I6 0),(U6 7),(St []),S0,(.bool false)]),((Itm.cN p.f),(iN p.f)),((Itm.cN p.c.toNat),(iN p.c.toNat)),(p.dst.tree,(tC p.dst.tree a2 c2)),(p.src.tree,(tC p.src.tree a4 c4)),(p.rpt.tree,(tC p.rpt.tree a8 c8)),((Itm.dH [(Itm.cN p.time),(Itm.cN p.seq)]),[(I6 4),(U6 0),(St []),(Sl g18_14 0 2 2),(.bool false)]),((Itm.cN p.life),(iN p.life))] := ⟨k21,k22,k23,k18,k19,k20,(TV.list 2 t18_14),k26,trivial⟩
 refine zq 1 (zn (zs (zB [0,1,0,0] [(b0,1)] (zn (cD ((gC .u64 (p.f : Int) 1) != 0) (fun h0 => ?_) (fun h0 => ?_))))))
 ·
  have h0d := bne_iff_ne.1 h0
  refine aBM 3 [0,0,3,1,0,3,1,1] [(b0,1),(b0,1)] [.val (iV p.off),.val (iV p.tot),.mem (fun v V => ∃ g,v = (Sl g 0 2 2) ∧ fG V (some ⟨g,0,none⟩) [(Itm.cN p.off),(Itm.cN p.tot)])] (by simp only [List.forall_mem_cons]; exact ⟨trivial,trivial,by intro v V V2 hV2 hP; (first | trivial | exact PhiMono.go hP hV2 | (obtain ⟨g,e,hP⟩ := hP; exact ⟨g,e,hP.le hV2⟩)),fun _ h => by cases h⟩) ⟨?_,?_,?_,trivial⟩ ?_
  ·
   refine wV 40 (fun u => #[(N6 p.off)]) fun u V hV hdq W hW => ?_
   exact dM _ W
  ·
   refine wV 40 (fun u => #[(N6 p.tot)]) fun u V hV hdq W hW => ?_
   exact dM _ W
  ·
   refine wN [60,63] (fun u => [(iV p.off),(iV p.tot)]) fun u V hV hdq => ?_
   refine ⟨[(I6 0),(N6 p.off),(St []),S0,(.bool false),(I6 0),(N6 p.tot),(St []),S0,(.bool false)],89,fun r => (Sl r 0 2 2),?_,fun g V' hV' hR => ?_⟩
   · kernel_rfl
   exact ⟨g,rfl,fG.lit [((Itm.cN p.off),(iN p.off)),((Itm.cN p.tot),(iN p.tot))] hR ⟨((TV.num _ p.off (by first | assumption | decide | (unfold W64; omega))).le hV).le hV',((TV.num _ p.tot (by first | assumption | decide | (unfold W64; omega))).le hV).le hV',trivial⟩ (show 2 ≤ R47 by decide)⟩
  intro u28 V28 hV28 hdq28
  have k44 := hAb27.le hV28
  have e7_28 := hdq28 7 rfl
  obtain ⟨g7_28,q7_28,t7_28⟩ := e7_28
  refine aLH 64 q7_28 ?_
  obtain ⟨bb45,ff45,L45,e45,hF45,hA45,hG45⟩ := t7_28.open (by simp)
  cases e45
  have hN45 : L45.length = 2 := by rw [← List.length_map (f := Prod.fst),hF45]; rfl
  refine fV (Rw.row b27 8 []) [(I6 0),(U6 7),(St []),S0,(.bool false),(I6 0),(N6 p.f),(St []),S0,(.bool false),(I6 0),(N6 p.c.toNat),(St []),S0,(.bool false),(I6 p.dst.tree.k),(N6 p.dst.tree.n),(St p.dst.tree.s),(.slice a2 p.dst.tree.l.length c2),(.bool p.dst.tree.o),(I6 p.src.tree.k),(N6 p.src.tree.n),(St p.src.tree.s),(.slice a4 p.src.tree.l.length c4),(.bool p.src.tree.o),(I6 p.rpt.tree.k),(N6 p.rpt.tree.n),(St p.rpt.tree.s),(.slice a8 p.rpt.tree.l.length c8),(.bool p.rpt.tree.o),(I6 4),(U6 0),(St []),(Sl g18_14 0 2 2),(.bool false),(I6 0),(N6 p.life),(St []),S0,(.bool false)] 8 [(bK b0 p.cs 26),(b1,.cells [(I6 0),(U6 0),(St []),S0,(.bool false)].toArray 89 (0,0)),(bK b3 (tC p.dst.tree a2 c2) 89),(bK b7 (tC p.src.tree a4 c4) 89),(bK b13 (tC p.rpt.tree a8 c8) 89)] 89 87 5 64 2 kR ⟨rfl,rfl,Nat.le_refl _,by decide⟩ (.tmp 57) (.tmp 64) rfl kR g7_28 0 2 (L45.flatMap Prod.snd) kR (fun W hM => View.range_of hG45 hM.view) (by rw [hA45.flat_len,hN45]) hA45.one (by decide) (by unfold maxLen; omega) oW kR kR kR kR kR (fun r46 hr46 => ?_)
  refine zq 1 (zn (zs (zB [0,1,0] [(b0,1)] (zn (cD (p.c != 0) (fun h1 => ?_) (fun h1 => ?_))))))
  ·
   have h1d := bne_iff_ne.1 h1
   refine zr (zq 2 (dL (fun W hM => jY sum W) ?_))
   refine gO [(I6 2),(U6 0),(St sum),S0,(.bool false)] 89 (fun r => (Sl r 0 1 1)) kR kR kR (fun g47 V47 hV47 hR47 => ?_)
   have k63 := (TV.str _ sum (by first | assumption | decide | (unfold R47; omega))).le hV47
   have k64 := k44.le hV47
   have k65 := hA45.le hV47
   have hT47 : fG V47 (some ⟨g47,0,none⟩) [(dY sum)] := fG.lit [((dY sum),[(I6 2),(U6 0),(St sum),S0,(.bool false)])] hR47 ⟨k63,trivial⟩ (show 1 ≤ R47 by decide)
   obtain ⟨bb66,ff66,L66,e66,hF66,hA66,hG66⟩ := hT47.open (by simp)
   cases e66
   have hN66 : L66.length = 1 := by rw [← List.length_map (f := Prod.fst),hF66]; rfl
   refine tT 5 89 87 64 1 1 hr46 (fun W hM => View.range_of hG66 hM.view) (by rw [hA66.flat_len,hN66]) hA66.one (by decide) (fun r67 hr67 => ?_)
   refine zq 1 (zn (zQ 1 ?_))
   refine aAx 74 r67 (([(I6 0),(U6 7),(St []),S0,(.bool false),(I6 0),(N6 p.f),(St []),S0,(.bool false),(I6 0),(N6 p.c.toNat),(St []),S0,(.bool false),(I6 p.dst.tree.k),(N6 p.dst.tree.n),(St p.dst.tree.s),(.slice a2 p.dst.tree.l.length c2),(.bool p.dst.tree.o),(I6 p.src.tree.k),(N6 p.src.tree.n),(St p.src.tree.s),(.slice a4 p.src.tree.l.length c4),(.bool p.src.tree.o),(I6 p.rpt.tree.k),(N6 p.rpt.tree.n),(St p.rpt.tree.s),(.slice a8 p.rpt.tree.l.length c8),(.bool p.rpt.tree.o),(I6 4),(U6 0),(St []),(Sl g18_14 0 2 2),(.bool false),(I6 0),(N6 p.life),(St []),S0,(.bool false)] ++ (L45.flatMap Prod.snd)) ++ (L66.flatMap Prod.snd)) 5 ((8 + 2) + 1) [(bK b0 p.cs 26),(b1,.cells [(I6 0),(U6 0),(St []),S0,(.bool false)].toArray 89 (0,0)),(bK b3 (tC p.dst.tree a2 c2) 89),(bK b7 (tC p.src.tree a4 c4) 89),(bK b13 (tC p.rpt.tree a8 c8) 89)] 89 kR hr67 kR (fun a68 c68 V68 hV68 hR68 hE68 => ?_)
   have k85 := k64.le hV68
   have k86 := k65.le hV68
   have k87 := hA66.le hV68
   have hT68 : fG V68 a68 ([(Itm.cN 7),(Itm.cN p.f),(Itm.cN p.c.toNat),p.dst.tree,p.src.tree,p.rpt.tree,(Itm.dH [(Itm.cN p.time),(Itm.cN p.seq)]),(Itm.cN p.life)] ++ [(Itm.cN p.off),(Itm.cN p.tot)] ++ [(dY sum)]) := fG.ofRow ([((Itm.cN 7),[(I6 0),(U6 7),(St []),S0,(.bool false)]),((Itm.cN p.f),(iN p.f)),((Itm.cN p.c.toNat),(iN p.c.toNat)),(p.dst.tree,(tC p.dst.tree a2 c2)),(p.src.tree,(tC p.src.tree a4 c4)),(p.rpt.tree,(tC p.rpt.tree a8 c8)),((Itm.dH [(Itm.cN p.time),(Itm.cN p.seq)]),[(I6 4),(U6 0),(St []),(Sl g18_14 0 2 2),(.bool false)]),((Itm.cN p.life),(iN p.life))] ++ L45 ++ L66) hR68 (by first | rfl | (simp only [List.flatMap_append]; rfl)) (gL.app (gL.app k85 k86) k87) _ (by first | rfl | (simp only [List.map_append,hF45,hF66]; rfl)) (show ((8 + 2) + 1) ≤ R47 by decide)
   refine dA 178 #[(.slice a68 ((8 + 2) + 1) c68)] (.agg #[(I6 4),(U6 0),(St []),(.slice a68 ((8 + 2) + 1) c68),(.bool false)]) (fun W hM => dW _ _ _ W) ?_
   refine aY 1 b1 (zn (aA (dU [2] [(b1,5)] [(.agg #[(I6 4),(U6 0),(St []),(.slice a68 ((8 + 2) + 1) c68),(.bool false)])] (fun W' hM => ?_))))
   exact cF hM (View.le_trans (View.le_trans (View.le_trans (View.le_trans (View.le_trans (View.le_trans hV2 hV4) hV8) hV14) hV28) hV47) hV68) ⟨[(I6 4),(U6 0),(St []),(.slice a68 ((8 + 2) + 1) c68),(.bool false)],rfl,((TV.list c68 hT68)).cast (by simp only [gQ,aBt,h0,h1,bs,bQ,reduceIte,List.append_nil])⟩
  ·
   refine zk (zQ 1 ?_)
   refine aAx 74 r46 ([(I6 0),(U6 7),(St []),S0,(.bool false),(I6 0),(N6 p.f),(St []),S0,(.bool false),(I6 0),(N6 p.c.toNat),(St []),S0,(.bool false),(I6 p.dst.tree.k),(N6 p.dst.tree.n),(St p.dst.tree.s),(.slice a2 p.dst.tree.l.length c2),(.bool p.dst.tree.o),(I6 p.src.tree.k),(N6 p.src.tree.n),(St p.src.tree.s),(.slice a4 p.src.tree.l.length c4),(.bool p.src.tree.o),(I6 p.rpt.tree.k),(N6 p.rpt.tree.n),(St p.rpt.tree.s),(.slice a8 p.rpt.tree.l.length c8),(.bool p.rpt.tree.o),(I6 4),(U6 0),(St []),(Sl g18_14 0 2 2),(.bool false),(I6 0),(N6 p.life),(St []),S0,(.bool false)] ++ (L45.flatMap Prod.snd)) 5 (8 + 2) [(bK b0 p.cs 26),(b1,.cells [(I6 0),(U6 0),(St []),S0,(.bool false)].toArray 89 (0,0)),(bK b3 (tC p.dst.tree a2 c2) 89),(bK b7 (tC p.src.tree a4 c4) 89),(bK b13 (tC p.rpt.tree a8 c8) 89)] 89 kR hr46 kR (fun a88 c88 V88 hV88 hR88 hE88 => ?_)
   have k104 := k44.le hV88
   have k105 := hA45.le hV88
   have hT88 : fG V88 a88 ([(Itm.cN 7),(Itm.cN p.f),(Itm.cN p.c.toNat),p.dst.tree,p.src.tree,p.rpt.tree,(Itm.dH [(Itm.cN p.time),(Itm.cN p.seq)]),(Itm.cN p.life)] ++ [(Itm.cN p.off),(Itm.cN p.tot)]) := fG.ofRow ([((Itm.cN 7),[(I6 0),(U6 7),(St []),S0,(.bool false)]),((Itm.cN p.f),(iN p.f)),((Itm.cN p.c.toNat),(iN p.c.toNat)),(p.dst.tree,(tC p.dst.tree a2 c2)),(p.src.tree,(tC p.src.tree a4 c4)),(p.rpt.tree,(tC p.rpt.tree a8 c8)),((Itm.dH [(Itm.cN p.time),(Itm.cN p.seq)]),[(I6 4),(U6 0),(St []),(Sl g18_14 0 2 2),(.bool false)]),((Itm.cN p.life),(iN p.life))] ++ L45) hR88 (by first | rfl | (simp only [List.flatMap_append]; rfl)) (gL.app k104 k105) _ (by first | rfl | (simp only [List.map_append,hF45]; rfl)) (show (8 + 2) ≤ R47 by decide)
   refine dA 178 #[(.slice a88 (8 + 2) c88)] (.agg #[(I6 4),(U6 0),(St []),(.slice a88 (8 + 2) c88),(.bool false)]) (fun W hM => dW _ _ _ W) ?_
   refine aY 1 b1 (zn (aA (dU [2] [(b1,5)] [(.agg #[(I6 4),(U6 0),(St []),(.slice a88 (8 + 2) c88),(.bool false)])] (fun W' hM => ?_))))
   exact cF hM (View.le_trans (View.le_trans (View.le_trans (View.le_trans (View.le_trans hV2 hV4) hV8) hV14) hV28) hV88) ⟨[(I6 4),(U6 0),(St []),(.slice a88 (8 + 2) c88),(.bool false)],rfl,((TV.list c88 hT88)).cast (by simp only [gQ,aBt,h0,h1,bs,bQ,reduceIte,List.append_nil])⟩
 ·
  have h0d := bne_eq_false_iff_eq.1 h0
  refine zk (zs (zB [0,1,0] [(b0,1)] (zn (cD (p.c != 0) (fun h2 => ?_) (fun h2 => ?_)))))
  ·
   have h2d := bne_iff_ne.1 h2
   refine zr (zq 2 (dL (fun W hM => jY sum W) ?_))
   refine gO [(I6 2),(U6 0),(St sum),S0,(.bool false)] 89 (fun r => (Sl r 0 1 1)) kR kR kR (fun g106 V106 hV106 hR106 => ?_)
   have k120 := (TV.str _ sum (by first | assumption | decide | (unfold R47; omega))).le hV106
   have k121 := hAb27.le hV106
   have hT106 : fG V106 (some ⟨g106,0,none⟩) [(dY sum)] := fG.lit [((dY sum),[(I6 2),(U6 0),(St sum),S0,(.bool false)])] hR106 ⟨k120,trivial⟩ (show 1 ≤ R47 by decide)
   obtain ⟨bb122,ff122,L122,e122,hF122,hA122,hG122⟩ := hT106.open (by simp)
   cases e122
   have hN122 : L122.length = 1 := by rw [← List.length_map (f := Prod.fst),hF122]; rfl
   refine fV (Rw.row b27 8 []) [(I6 0),(U6 7),(St []),S0,(.bool false),(I6 0),(N6 p.f),(St []),S0,(.bool false),(I6 0),(N6 p.c.toNat),(St []),S0,(.bool false),(I6 p.dst.tree.k),(N6 p.dst.tree.n),(St p.dst.tree.s),(.slice a2 p.dst.tree.l.length c2),(.bool p.dst.tree.o),(I6 p.src.tree.k),(N6 p.src.tree.n),(St p.src.tree.s),(.slice a4 p.src.tree.l.length c4),(.bool p.src.tree.o),(I6 p.rpt.tree.k),(N6 p.rpt.tree.n),(St p.rpt.tree.s),(.slice a8 p.rpt.tree.l.length c8),(.bool p.rpt.tree.o),(I6 4),(U6 0),(St []),(Sl g18_14 0 2 2),(.bool false),(I6 0),(N6 p.life),(St []),S0,(.bool false)] 8 [(bK b0 p.cs 26),(b1,.cells [(I6 0),(U6 0),(St []),S0,(.bool false)].toArray 89 (0,0)),(bK b3 (tC p.dst.tree a2 c2) 89),(bK b7 (tC p.src.tree a4 c4) 89),(bK b13 (tC p.rpt.tree a8 c8) 89)] 89 87 5 64 1 kR ⟨rfl,rfl,Nat.le_refl _,by decide⟩ (.tmp 69) (.tmp 72) rfl kR g106 0 1 (L122.flatMap Prod.snd) kR (fun W hM => View.range_of hG122 hM.view) (by rw [hA122.flat_len,hN122]) hA122.one (by decide) (by unfold maxLen; omega) oW kR kR kR kR kR (fun r123 hr123 => ?_)
   refine zq 1 (zn (zQ 1 ?_))
   refine aAx 74 r123 ([(I6 0),(U6 7),(St []),S0,(.bool false),(I6 0),(N6 p.f),(St []),S0,(.bool false),(I6 0),(N6 p.c.toNat),(St []),S0,(.bool false),(I6 p.dst.tree.k),(N6 p.dst.tree.n),(St p.dst.tree.s),(.slice a2 p.dst.tree.l.length c2),(.bool p.dst.tree.o),(I6 p.src.tree.k),(N6 p.src.tree.n),(St p.src.tree.s),(.slice a4 p.src.tree.l.length c4),(.bool p.src.tree.o),(I6 p.rpt.tree.k),(N6 p.rpt.tree.n),(St p.rpt.tree.s),(.slice a8 p.rpt.tree.l.length c8),(.bool p.rpt.tree.o),(I6 4),(U6 0),(St []),(Sl g18_14 0 2 2),(.bool false),(I6 0),(N6 p.life),(St []),S0,(.bool false)] ++ (L122.flatMap Prod.snd)) 5 (8 + 1) [(bK b0 p.cs 26),(b1,.cells [(I6 0),(U6 0),(St []),S0,(.bool false)].toArray 89 (0,0)),(bK b3 (tC p.dst.tree a2 c2) 89),(bK b7 (tC p.src.tree a4 c4) 89),(bK b13 (tC p.rpt.tree a8 c8) 89)] 89 kR hr123 kR (fun a124 c124 V124 hV124 hR124 hE124 => ?_)
   have k139 := k121.le hV124
   have k140 := hA122.le hV124
   have hT124 : fG V124 a124 ([(Itm.cN 7),(Itm.cN p.f),(Itm.cN p.c.toNat),p.dst.tree,p.src.tree,p.rpt.tree,(Itm.dH [(Itm.cN p.time),(Itm.cN p.seq)]),(Itm.cN p.life)] ++ [(dY sum)]) := fG.ofRow ([((Itm.cN 7),[(I6 0),(U6 7),(St []),S0,(.bool false)]),((Itm.cN p.f),(iN p.f)),((Itm.cN p.c.toNat),(iN p.c.toNat)),(p.dst.tree,(tC p.dst.tree a2 c2)),(p.src.tree,(tC p.src.tree a4 c4)),(p.rpt.tree,(tC p.rpt.tree a8 c8)),((Itm.dH [(Itm.cN p.time),(Itm.cN p.seq)]),[(I6 4),(U6 0),(St []),(Sl g18_14 0 2 2),(.bool false)]),((Itm.cN p.life),(iN p.life))] ++ L122) hR124 (by first | rfl | (simp only [List.flatMap_append]; rfl)) (gL.app k139 k140) _ (by first | rfl | (simp only [List.map_append,hF122]; rfl)) (show (8 + 1) ≤ R47 by decide)
   refine dA 178 #[(.slice a124 (8 + 1) c124)] (.agg #[(I6 4),(U6 0),(St []),(.slice a124 (8 + 1) c124),(.bool false)]) (fun W hM => dW _ _ _ W) ?_
   refine aY 1 b1 (zn (aA (dU [2] [(b1,5)] [(.agg #[(I6 4),(U6 0),(St []),(.slice a124 (8 + 1) c124),(.bool false)])] (fun W' hM => ?_))))
   exact cF hM (View.le_trans (View.le_trans (View.le_trans (View.le_trans (View.le_trans hV2 hV4) hV8) hV14) hV106) hV124) ⟨[(I6 4),(U6 0),(St []),(.slice a124 (8 + 1) c124),(.bool false)],rfl,((TV.list c124 hT124)).cast (by simp only [gQ,aBt,h0,h2,bs,bQ,reduceIte,List.append_nil])⟩
  ·
   refine zk (zQ 1 ?_)
   refine aAx 74 (Rw.row b27 8 []) [(I6 0),(U6 7),(St []),S0,(.bool false),(I6 0),(N6 p.f),(St []),S0,(.bool false),(I6 0),(N6 p.c.toNat),(St []),S0,(.bool false),(I6 p.dst.tree.k),(N6 p.dst.tree.n),(St p.dst.tree.s),(.slice a2 p.dst.tree.l.length c2),(.bool p.dst.tree.o),(I6 p.src.tree.k),(N6 p.src.tree.n),(St p.src.tree.s),(.slice a4 p.src.tree.l.length c4),(.bool p.src.tree.o),(I6 p.rpt.tree.k),(N6 p.rpt.tree.n),(St p.rpt.tree.s),(.slice a8 p.rpt.tree.l.length c8),(.bool p.rpt.tree.o),(I6 4),(U6 0),(St []),(Sl g18_14 0 2 2),(.bool false),(I6 0),(N6 p.life),(St []),S0,(.bool false)] 5 8 [(bK b0 p.cs 26),(b1,.cells [(I6 0),(U6 0),(St []),S0,(.bool false)].toArray 89 (0,0)),(bK b3 (tC p.dst.tree a2 c2) 89),(bK b7 (tC p.src.tree a4 c4) 89),(bK b13 (tC p.rpt.tree a8 c8) 89)] 89 kR ⟨rfl,rfl,Nat.le_refl _,by decide⟩ kR (fun a141 c141 V141 hV141 hR141 hE141 => ?_)
   have k155 := hAb27.le hV141
   have hT141 : fG V141 a141 ([(Itm.cN 7),(Itm.cN p.f),(Itm.cN p.c.toNat),p.dst.tree,p.src.tree,p.rpt.tree,(Itm.dH [(Itm.cN p.time),(Itm.cN p.seq)]),(Itm.cN p.life)]) := fG.ofRow ([((Itm.cN 7),[(I6 0),(U6 7),(St []),S0,(.bool false)]),((Itm.cN p.f),(iN p.f)),((Itm.cN p.c.toNat),(iN p.c.toNat)),(p.dst.tree,(tC p.dst.tree a2 c2)),(p.src.tree,(tC p.src.tree a4 c4)),(p.rpt.tree,(tC p.rpt.tree a8 c8)),((Itm.dH [(Itm.cN p.time),(Itm.cN p.seq)]),[(I6 4),(U6 0),(St []),(Sl g18_14 0 2 2),(.bool false)]),((Itm.cN p.life),(iN p.life))]) hR141 (by first | rfl | (simp only [List.flatMap_append]; rfl)) k155 _ (by first | rfl | (simp only [List.map_append]; rfl)) (show 8 ≤ R47 by decide)
   refine dA 178 #[(.slice a141 8 c141)] (.agg #[(I6 4),(U6 0),(St []),(.slice a141 8 c141),(.bool false)]) (fun W hM => dW _ _ _ W) ?_
   refine aY 1 b1 (zn (aA (dU [2] [(b1,5)] [(.agg #[(I6 4),(U6 0),(St []),(.slice a141 8 c141),(.bool false)])] (fun W' hM => ?_))))
   exact cF hM (View.le_trans (View.le_trans (View.le_trans (View.le_trans hV2 hV4) hV8) hV14) hV141) ⟨[(I6 4),(U6 0),(St []),(.slice a141 8 c141),(.bool false)],rfl,((TV.list c141 hT141)).cast (by simp only [gQ,aBt,h0,h2,bs,bQ,reduceIte,List.append_nil])⟩
theorem aAM {V : View} : ∀ {L : List (Itm.Tr × List Value)}, gL V L → ∀ (i : Nat) (p : Itm.Tr × List Value) (j : List Value), i < L.length → p.2.length = 5 → cA (L.flatMap Prod.snd ++ j) (i * 5) p.2 = (L.set i p).flatMap Prod.snd ++ j
 | [], _, i, p, j, hi, _ => by simp at hi
 | q :: r, ⟨h1, h2⟩, 0, p, j, _, hp => by
  have h5 := h1.len5
  rw [List.set_cons_zero, List.flatMap_cons, List.flatMap_cons, List.append_assoc, List.append_assoc]
  unfold cA
  rw [Nat.zero_mul, Nat.zero_add, hp, List.take_zero, List.nil_append, List.drop_append_of_le_length oW, List.drop_of_length_le oW, List.nil_append]
 | q :: r, ⟨h1, h2⟩, i + 1, p, j, hi, hp => by
  have h5 := h1.len5
  have ih := aAM h2 i p j (by simpa using hi) hp
  rw [List.set_cons_succ, List.flatMap_cons, List.flatMap_cons, List.append_assoc, List.append_assoc, ← ih]
  unfold cA
  rw [hp, show (i + 1) * 5 = q.2.length + i * 5 by omega, List.take_append, List.take_of_length_le oW, show q.2.length + i * 5 - q.2.length = i * 5 by omega, show q.2.length + i * 5 + 5 = q.2.length + (i * 5 + 5) by omega, List.drop_append, List.drop_of_length_le oW, List.nil_append, show q.2.length + (i * 5 + 5) - q.2.length = i * 5 + 5 by omega]
  simp only [List.append_assoc]
theorem gL.set {V : View} : ∀ {L : List (Itm.Tr × List Value)}, gL V L → ∀ (i : Nat) (p : Itm.Tr × List Value), TV V p.1 p.2 → gL V (L.set i p)
 | [], _, _, _, _ => trivial
 | _ :: _, ⟨_, h2⟩, 0, _, hp => ⟨hp, h2⟩
 | _ :: _, ⟨h1, h2⟩, i + 1, p, hp => ⟨h1, h2.set i p hp⟩
def aId (k : Int) (l : List Itm.Tr) : Itm.Tr := if k == 0 then Itm.dH l else Itm.dH (l.set (l.length - 1) (dY (mB k (Itm.aE (Itm.dH l)))))
theorem aFh (k : Int) (l : List Itm.Tr) (w : World) {U : View} (hU : See U w) (a : Option Addr) (c : Nat) (hts : fG U a l) (hk0 : 0 ≤ k) (hk2 : k ≤ 2) (hr : Itm.aN 8 (Itm.dH l) = true) (hsz : Itm.szT (Itm.dH l) ≤ 1000000000) (hne : l ≠ []) (hle : l.length ≤ 1000) :
    CP 244 #[.int .i64 k, .agg #[.int .i64 4, .int .u64 0, .string (B []), .slice a l.length c, .bool false]] w (rO w U (qC (aId k l))) := by
 have hb := Itm.eM (Itm.dH l)
 have hcl := aAN (Itm.aE (Itm.dH l)) hk0 hk2
 have hpos : 0 < l.length := List.length_pos_iff.2 hne
 have hwl : IntKind.i64.wrap ((l.length : Int) - 1) = ((l.length - 1 : Nat) : Int) := by
  rw [IntWalk.i64_in _ oW]
  omega
 have hT0 : TV U (Itm.dH l) [.int .i64 4,.int .u64 0,.string (B []),.slice a l.length c,.bool false] := TV.list c hts
 refine eG 30 Tryz.func244 hU ?_
 refine zs (zr (cJ (fun b0 => (cJ (fun b1 => (zn (zs (zQ 2 (zn (cD (k == 0) (fun h0 => ?_) (fun h0 => ?_)))))))))))
 ·
  refine zB [1] [(b0,5)] (aY 1 b1 (zn (aA (dU [2] [(b1,5)] [(.agg #[(I6 4),(U6 0),(St []),(.slice a l.length c),(.bool false)])] (fun W' hM => ?_)))))
  exact cF hM (View.le_refl _) ⟨[(I6 4),(U6 0),(St []),(.slice a l.length c),(.bool false)],rfl,(hT0).cast (by simp only [aId,h0,bs,bQ,reduceIte,List.append_nil])⟩
 ·
  have h0d := beq_eq_false_iff_ne.1 h0
  refine zk (zB [1] [(b0,5)] (dA 136 #[(.agg #[(I6 4),(U6 0),(St []),(.slice a l.length c),(.bool false)])] (.tuple #[(St (Itm.aE (Itm.dH l))),(I6 0)]) (fun W hM => mW _ _ hM.view hT0 hr (by unfold aAT; omega)) ?_))
  refine zq 5 (zn (zB [0,1] [(b0,1)] ?_))
  obtain ⟨bb2,ff2,L2,rfl,hF2,hA2,hG2⟩ := hts.open hne
  refine sB 251 #[(Sl bb2 ff2 l.length c)] 89 5 l.length (L2.flatMap Prod.snd) kR (fun W hM => aBA hM.view bb2 ff2 l.length _ _ hG2 (by rw [hA2.flat_len,← List.length_map (f := Prod.fst),hF2]) hA2.one hpos oW) kR kR (fun b3 c3 j3 hJ3 => ?_)
  refine zq 1 (zn (zQ 4 (eE 22 (I6 (IntKind.i64.wrap ((l.length : Int) - 1))) (L6 (l.length - 1)) (congrArg (Value.int .i64) hwl) ?_)))
  refine zq 2 (dA 252 #[(I6 k),(St (Itm.aE (Itm.dH l)))] (St (mB k (Itm.aE (Itm.dH l)))) (fun W hM => aGq k _ W (by unfold R47; omega)) ?_)
  refine dL (fun W hM => jY (mB k (Itm.aE (Itm.dH l))) W) (cH (.pointer (some ⟨b3,0 + (l.length - 1) * 5,none⟩)) (rIx 89 rfl b3 0 l.length c3 (l.length - 1) 5) ?_)
  have hL2 : L2.length = l.length := by rw [← List.length_map (f := Prod.fst),hF2]
  refine aH3 2 b3 (0 + (l.length - 1) * 5) 5 (L2.flatMap Prod.snd ++ j3) 89 89 (.agg #[(I6 2),(U6 0),(St (mB k (Itm.aE (Itm.dH l)))),S0,(.bool false)]) (.tmp 27) (.tmp 26) rfl kR kR kR kR (by rw [List.length_append,hA2.flat_len]; omega) rfl kR ?_
  refine iE [(b0,.cells [(I6 4),(U6 0),(St []),(Sl bb2 ff2 l.length c),(.bool false)].toArray 89 (0,0)),(b1,.cells [(I6 0),(U6 0),(St []),S0,(.bool false)].toArray 89 (0,0))] [] b3 (cA (L2.flatMap Prod.snd ++ j3) (0 + (l.length - 1) * 5) [(I6 2),(U6 0),(St (mB k (Itm.aE (Itm.dH l)))),S0,(.bool false)]) 89 kR (fun V2 hV2 hR2 => ?_)
  have k6 := (TV.str _ (mB k (Itm.aE (Itm.dH l))) (by first | assumption | decide | (unfold R47; omega))).le hV2
  rw [Nat.zero_add,aAM hA2 (l.length - 1) ((dY (mB k (Itm.aE (Itm.dH l)))),[(I6 2),(U6 0),(St (mB k (Itm.aE (Itm.dH l)))),S0,(.bool false)]) j3 oW rfl] at hR2
  have hT2 : fG V2 (some ⟨b3,0,none⟩) (l.set (l.length - 1) (dY (mB k (Itm.aE (Itm.dH l))))) := fG.ofRow (L2.set (l.length - 1) ((dY (mB k (Itm.aE (Itm.dH l)))),[(I6 2),(U6 0),(St (mB k (Itm.aE (Itm.dH l)))),S0,(.bool false)])) ⟨fun _ => ⟨b3,rfl,(fD hR2).1⟩⟩ rfl ((hA2.le (by first | exact hV2 | exact View.le_trans ‹_› hV2)).set _ _ k6) _ (by rw [List.map_set,hF2]) (by rw [List.length_set]; unfold R47; omega)
  have hX2 : TV V2 (Itm.dH (l.set (l.length - 1) (dY (mB k (Itm.aE (Itm.dH l)))))) [(I6 4),(U6 0),(St []),(Sl b3 0 l.length c3),(.bool false)] := by
     have := TV.list c3 hT2
     rw [List.length_set] at this
     exact this
  refine zn (zQ 1 (dA 178 #[(Sl b3 0 l.length c3)] (.agg #[(I6 4),(U6 0),(St []),(Sl b3 0 l.length c3),(.bool false)]) (fun W hM => dW _ _ _ W) ?_))
  refine aY 1 b1 (zn (aA (dU [2] [(b1,5)] [(.agg #[(I6 4),(U6 0),(St []),(Sl b3 0 l.length c3),(.bool false)])] (fun W' hM => ?_))))
  exact cF hM hV2 ⟨[(I6 4),(U6 0),(St []),(Sl b3 0 l.length c3),(.bool false)],rfl,(hX2).cast (by simp only [aId,h0,bs,bQ,reduceIte,List.append_nil])⟩
def iC (x : Int) : Bool := decide (x ≥ 1) && decide (x ≤ 65535)
theorem aEm (x : Int) (w : World) : CP 225 #[.int .i64 x] w (Ret (.bool (iC x)) w) := by
 refine dK 9 Tryz.func225 ?_
 refine zQ 1 (zn (zQ 3 (aK 5 (decide (x ≥ 1)) (fun h0 => ?_) (fun h0 => ?_))))
 ·
  refine zq 4 (zn (aA (aH [2] [(.bool (decide (x ≤ 65535)))] (fun W' hM => ?_))))
  exact ⟨by simp only [cG,iC,h0,bs,bQ,reduceIte],hM.below⟩
 ·
  refine zq 4 (zn (aA (aH [2] [(.bool false)] (fun W' hM => ?_))))
  exact ⟨by simp only [cG,iC,h0,bs,bQ,reduceIte],hM.below⟩
def aG (b : Bk) : Int := if !iC b.t || !iC b.n || decide ((b.f : Int) > 255) || decide (b.c < 0) || decide (b.c > 2) then 1 else if decide ((b.d.length : Int) > 4000) then 4 else if !((b.t == 1) == (b.n == 1)) then 8 else 0
theorem qP (x : Bk) (w : World) : CP 193 #[x.V] w (Ret (.int .i64 (aG x)) w) := by
 refine dK 42 Tryz.func193 ?_
 refine zs (zr (cJ (fun b0 => (zq 1 (zn (zs (aB (zB [0,1] [(b0,1)] (dA 225 #[(I6 x.t)] (.bool (iC x.t)) (fun W hM => aEm _ W) ?_)))))))))
 refine zq 2 (aK 8 (!(iC x.t)) (fun h0 => ?_) (fun h0 => ?_))
 ·
  refine zq 21 (zn (dF (zQ 1 (zn (aA (aH [2] [(I6 1)] (fun W' hM => ?_)))))))
  exact ⟨by simp only [cG,aG,h0,bs,bQ,reduceIte],hM.below⟩
 ·
  refine cU [0,1] [(b0,1)] (dA 225 #[(I6 x.n)] (.bool (iC x.n)) (fun W hM => aEm _ W) ?_)
  refine zq 3 (aK 14 (!(iC x.n)) (fun h1 => ?_) (fun h1 => ?_))
  ·
   refine zq 15 (zn (dF (zQ 1 (zn (aA (aH [2] [(I6 1)] (fun W' hM => ?_)))))))
   exact ⟨by simp only [cG,aG,h0,h1,bs,bQ,reduceIte],hM.below⟩
  ·
   refine cU [0,1,0,0,0] [(b0,1)] (aK 19 (decide ((x.f : Int) > 255)) (fun h2 => ?_) (fun h2 => ?_))
   ·
    refine zq 10 (zn (dF (zQ 1 (zn (aA (aH [2] [(I6 1)] (fun W' hM => ?_)))))))
    exact ⟨by simp only [cG,aG,h0,h1,h2,bs,bQ,reduceIte],hM.below⟩
   ·
    refine cU [0,1,0,0,0] [(b0,1)] (aK 24 (decide (x.c < 0)) (fun h3 => ?_) (fun h3 => ?_))
    ·
     refine zq 5 (zn (dF (zQ 1 (zn (aA (aH [2] [(I6 1)] (fun W' hM => ?_)))))))
     exact ⟨by simp only [cG,aG,h0,h1,h2,h3,bs,bQ,reduceIte],hM.below⟩
    ·
     refine cU [0,1,0,0,0] [(b0,1)] (zn (cD (decide (x.c > 2)) (fun h4 => ?_) (fun h4 => ?_)))
     ·
      refine zQ 1 (zn (aA (aH [2] [(I6 1)] (fun W' hM => ?_))))
      exact ⟨by simp only [cG,aG,h0,h1,h2,h3,h4,bs,bQ,reduceIte],hM.below⟩
     ·
      refine zB [0,1,0,0,0] [(b0,1)] (zn (cD (decide ((((x.d).length : Nat) : Int) > 4000)) (fun h5 => ?_) (fun h5 => ?_)))
      ·
       refine zQ 1 (zn (aA (aH [2] [(I6 4)] (fun W' hM => ?_))))
       exact ⟨by simp only [cG,aG,h0,h1,h2,h3,h4,h5,bs,bQ,reduceIte],hM.below⟩
      ·
       refine zB [0,1,0,0,1,0,0,0] [(b0,1),(b0,1)] (zn (cD (!((x.t == 1) == (x.n == 1))) (fun h6 => ?_) (fun h6 => ?_)))
       ·
        refine zQ 1 (zn (aA (aH [2] [(I6 8)] (fun W' hM => ?_))))
        exact ⟨by simp only [cG,aG,h0,h1,h2,h3,h4,h5,h6,bs,bQ,reduceIte],hM.below⟩
       ·
        refine zk (zQ 1 (zn (aA (aH [2] [(I6 0)] (fun W' hM => ?_)))))
        exact ⟨by simp only [cG,aG,h0,h1,h2,h3,h4,h5,h6,bs,bQ,reduceIte],hM.below⟩
end Go.Proofs.YtcdjakemdlinhaaGreatDoor.Sx
