/-
  A region that draws its order, by relations: what each operation yields is described by a relation that later operations keep; one obligation for each operation, whatever the order.
  Conditions: none.
-/
import Derived.Test.YtlbpodddokhmaaaDoorHeld
namespace Go.Proofs.YtlbpodddokhmaaaDoor
open Go.ChangeShapes Go.WideShapes Go.ChangeAt Go.RowKit Go.Deep
/-- The state with the slots of the first operations filled. -/
def fillL : List Tmp → Nat → (Nat → Value) → Act → Act
  | [], _, _, a => a
  | d :: r, i, u, a => fillL r (i + 1) u (a.put (some d) (u i))
theorem put_put (a : Act) (d : Tmp) (v v' : Value) : (a.put (some d) v).put (some d) v' = a.put (some d) v' := by
  simp [Act.put]
theorem put_swap (a : Act) (d e : Tmp) (v v' : Value) (h : d ≠ e) : (a.put (some d) v).put (some e) v' = (a.put (some e) v').put (some d) v := by
  simp only [Act.put, Act.mk.injEq, and_true]
  exact Array.setIfInBounds_comm _ _ h
theorem fillL_put : ∀ (r : List Tmp) (k : Nat) (u : Nat → Value) (a : Act) (d : Tmp) (v : Value), d ∉ r → (fillL r k u a).put (some d) v = fillL r k u (a.put (some d) v)
  | [], _, _, _, _, _, _ => rfl
  | e :: r, k, u, a, d, v, h => by
    simp only [List.mem_cons, not_or] at h
    rw [fillL, fillL, fillL_put r (k + 1) u _ d v h.2, put_swap _ _ _ _ _ (fun he => h.1 he.symm)]
theorem fillL_congr : ∀ (r : List Tmp) (k : Nat) (u u' : Nat → Value) (a : Act), (∀ j, k ≤ j → u j = u' j) → fillL r k u a = fillL r k u' a
  | [], _, _, _, _, _ => rfl
  | e :: r, k, u, u', a, h => by
    rw [fillL, fillL, h k (Nat.le_refl _), fillL_congr r (k + 1) u u' _ fun j hj => h j (by omega)]
theorem fillL_set : ∀ (r : List Tmp) (k : Nat) (u : Nat → Value) (a : Act) (i : Nat) (d : Tmp) (v : Value), r.Nodup → r[i]? = some d → (fillL r k u a).put (some d) v = fillL r k (fun j => if j = k + i then v else u j) a
  | [], _, _, _, _, _, _, _, h => by simp at h
  | e :: r, k, u, a, i, d, v, hn, h => by
    rw [List.nodup_cons] at hn
    cases i with
    | zero =>
      simp only [List.getElem?_cons_zero, Option.some.injEq] at h
      subst h
      rw [fillL, fillL, fillL_put r _ _ _ _ _ hn.1, put_put]
      simp only [Nat.add_zero, if_true]
      exact fillL_congr r _ _ _ _ fun j hj => by rw [if_neg (by omega)]
    | succ i =>
      simp only [List.getElem?_cons_succ] at h
      rw [fillL, fillL, fillL_set r (k + 1) u _ i d v hn.2 h, if_neg (by omega)]
      exact fillL_congr r _ _ _ _ fun j hj => by simp only [show k + 1 + i = k + (i + 1) by omega]
theorem put_self (a : Act) (d : Tmp) : a.put (some d) (a.tmps.getD d undef) = a := by
  obtain ⟨t, df⟩ := a
  simp only [Act.put, Act.mk.injEq, and_true]
  apply Array.ext_getElem?
  intro i
  simp only [Array.getElem?_setIfInBounds]
  by_cases h : d = i
  · subst h
    by_cases hd : d < t.size
    · simp [hd]
    · simp [hd]
  · simp [h]
theorem fillL_self : ∀ (r : List Tmp) (k : Nat) (u : Nat → Value) (a : Act), (∀ j, j < r.length → u (k + j) = a.tmps.getD (r.getD j 0) undef) → fillL r k u a = a
  | [], _, _, _, _ => rfl
  | d :: r, k, u, a, h => by
    have h0 : u k = a.tmps.getD d undef := h 0 (by simp)
    rw [fillL, h0, put_self]
    refine fillL_self r (k + 1) u a fun j hj => ?_
    have := h (j + 1) (by simp; omega)
    rw [show k + 1 + j = k + (j + 1) by omega, this]
    rfl
/-- Does operation i wait for operation j? -/
def waitsOn (md : Region.Mode) (ops : Array Oper) (i j : Nat) : Bool := ((ops[i]?).map fun o => o.after.toList.any fun e => Region.binds md e && (e.on == j)).getD false
def edgesOk (md : Region.Mode) (ops : Array Oper) (m : Nat) : Bool := (List.range m).all fun i => ((ops[i]?).map fun o => o.after.toList.all fun e => !Region.binds md e || decide (e.on < i)).getD false
/-- What the operations of a list wait for, and these for, r steps deep. -/
def downs (md : Region.Mode) (ops : Array Oper) : Nat → List Nat → List Nat
  | 0, l => l
  | r + 1, l => downs md ops r ((List.range ops.size).filter fun j => l.contains j || l.any fun k => waitsOn md ops k j)
def tailOk (md : Region.Mode) (ops : Array Oper) (m r : Nat) : Bool := (List.range ops.size).all fun i => decide (i < m) || (List.range m).all fun j => (downs md ops r ((List.range ops.size).filter fun j => waitsOn md ops i j)).contains j
theorem downs_closed {md : Region.Mode} {ops : Array Oper} {p : Nat → Prop} (hp : ∀ i, p i → ∀ j, waitsOn md ops i j = true → p j) : ∀ (r : Nat) (l : List Nat), (∀ j ∈ l, p j) → ∀ j ∈ downs md ops r l, p j
  | 0, _, h, j, hj => h j hj
  | r + 1, l, h, j, hj => by
    refine downs_closed hp r _ (fun k hk => ?_) j hj
    simp only [List.mem_filter, Bool.or_eq_true, List.contains_eq_mem, decide_eq_true_eq, List.any_eq_true] at hk
    rcases hk.2 with hk | ⟨i, hi, hw⟩
    · exact h k hk
    · exact hp i (h i hi) k hw
def dstsOk (ops : Array Oper) (ds : List Tmp) : Bool := (List.range ds.length).all fun i => decide ((ops[i]?).bind (·.dst) = ds[i]?)
def nodupB : List Tmp → Bool
  | [] => true
  | d :: r => !r.contains d && nodupB r
theorem nodup_of : ∀ {r : List Tmp}, nodupB r = true → r.Nodup
  | [], _ => List.nodup_nil
  | d :: r, h => by
    simp only [nodupB, Bool.and_eq_true, Bool.not_eq_true', List.contains_eq_mem, decide_eq_false_iff_not] at h
    exact List.nodup_cons.2 ⟨h.1, nodup_of h.2⟩
/-- The first m have come up. -/
def firstM (m n : Nat) : Array Bool := ((List.range n).map fun i => decide (i < m)).toArray
def Steps (f : Nat → Prop) : Nat → Nat → Prop
  | _, 0 => True
  | i, n + 1 => f i ∧ Steps f (i + 1) n
theorem Steps.get {f : Nat → Prop} : ∀ {n i : Nat}, Steps f i n → ∀ j, i ≤ j → j < i + n → f j
  | 0, _, _, j, h1, h2 => by omega
  | n + 1, i, h, j, h1, h2 => by
    by_cases hj : j = i
    · subst hj; exact h.1
    · exact h.2.get j (by omega) (by omega)
theorem exists_least {p : Nat → Prop} (h : ∃ n, p n) : ∃ n, p n ∧ ∀ j, j < n → ¬ p j := by
  obtain ⟨n, hn⟩ := h
  induction n using Nat.strongRecOn with
  | _ n ih =>
    by_cases hx : ∃ j, j < n ∧ p j
    · obtain ⟨j, hj, hp⟩ := hx
      exact ih j hj hp
    · exact ⟨n, hn, fun j hj hp => hx ⟨j, hj, hp⟩⟩
section
variable {P : Program} {ops : Array Oper} {Q : Exit → Act → World → Prop} {md : Region.Mode} {S : World → Prop}
/-- What one operation owes. -/
structure RelStep (P : Program) (md : Region.Mode) (ops : Array Oper) (Q : Exit → Act → World → Prop) (S : World → Prop) (E : World → World → Prop) (V : Nat → Value → World → Prop) (ds : List Tmp) (a0 : Act) (i : Nat) : Prop where
  step : ∀ (u : Nat → Value) (w : World), S w → (∀ j, waitsOn md ops i j = true → V j (u j) w) →
    ∀ K : Act → World → Prop, (∀ v w', S w' → E w w' → V i v w' → K ((fillL ds 0 u a0).put ((ops[i]?).bind (·.dst)) v) w') → wpOp P ops Q i K (fillL ds 0 u a0) w
theorem wpAny_rel (m : Nat) {fuel r : Nat} (ds : List Tmp) (V : Nat → Value → World → Prop) (E : World → World → Prop) {a0 : Act} {w0 : World}
    (hlen : ds.length = m) (hds : dstsOk ops ds = true) (hnd : nodupB ds = true) (hms : decide (m ≤ ops.size) = true) (hedge : edgesOk md ops m = true) (htail : tailOk md ops m r = true)
    (hV : ∀ i v w w', E w w' → V i v w → V i v w') (hS : S w0)
    (steps : Steps (RelStep P md ops Q S E V ds a0) 0 m)
    (fin : ∀ u w, S w → (∀ i, i < m → V i (u i) w) → wpAny P md ops Q fuel (firstM m ops.size) (fillL ds 0 u a0) w) :
    wpAny P md ops Q (m + fuel) (Array.replicate ops.size false) a0 w0 := by
  have hms' : m ≤ ops.size := by simpa using hms
  have main : ∀ (rem : List Nat) (listed : Array Bool) (u : Nat → Value) (w : World), rem.Nodup → (∀ i, i ∈ rem ↔ i < m ∧ listed.getD i false = false) → listed.size = ops.size → (∀ i, m ≤ i → listed.getD i false = false) → (∀ i, listed.getD i false = true → ∀ j, waitsOn md ops i j = true → listed.getD j false = true) →
      S w → (∀ i, i < m → listed.getD i false = true → V i (u i) w) → wpAny P md ops Q (rem.length + fuel) listed (fillL ds 0 u a0) w := by
    intro rem
    generalize hk : rem.length = k
    induction k generalizing rem with
    | zero =>
      intro listed u w hn hrem hsz hge hcl hSw hVw
      obtain rfl := List.length_eq_zero_iff.1 hk
      have hall : ∀ i, i < m → listed.getD i false = true := fun i hi => by
        cases h : listed.getD i false with
        | true => rfl
        | false => have := (hrem i).2 ⟨hi, h⟩; cases this
      have hl : listed = firstM m ops.size := by
        apply Array.ext
        · simp [firstM, hsz]
        · intro i h1 h2
          have e : listed.getD i false = listed[i] := by simp [Array.getD, h1]
          simp only [firstM, List.getElem_toArray, List.getElem_map, List.getElem_range]
          rw [← e]
          by_cases hi : i < m
          · rw [hall i hi, decide_eq_true hi]
          · rw [hge i (by omega), decide_eq_false hi]
      rw [hl, Nat.zero_add]
      exact fin u w hSw fun i hi => hVw i hi (hall i hi)
    | succ k ih =>
      intro listed u w hn hrem hsz hge hcl hSw hVw
      have hne : rem ≠ [] := by intro h; rw [h] at hk; cases hk
      have hgd : ∀ i, i < ops.size → listed.getD i true = listed.getD i false := fun i hi => by simp [Array.getD, hsz, hi]
      have hready : ∀ i ∈ Region.ready md ops listed, i < m ∧ i ∈ rem ∧ ∀ j, waitsOn md ops i j = true → listed.getD j false = true := by
        intro i hi
        obtain ⟨h1, o, ho, hed⟩ := mem_ready.1 hi
        have his : i < ops.size := (Array.getElem?_eq_some_iff.1 ho).1
        have hwt : ∀ j, waitsOn md ops i j = true → listed.getD j false = true := by
          intro j hj
          simp only [waitsOn, ho, Option.map_some, Option.getD_some, List.any_eq_true, Bool.and_eq_true, beq_iff_eq] at hj
          obtain ⟨e, he, hb, hon⟩ := hj
          have := hed e (by simpa using he) hb
          rw [hon] at this
          exact this
        have him : i < m := by
          by_cases h : i < m
          · exact h
          · exfalso
            unfold tailOk at htail
            rw [List.all_eq_true] at htail
            have h2 := htail i (List.mem_range.2 his)
            rw [decide_eq_false h, Bool.false_or, List.all_eq_true] at h2
            obtain ⟨j, hj⟩ := List.exists_mem_of_ne_nil rem hne
            have h3 := (hrem j).1 hj
            have h4 := h2 j (List.mem_range.2 h3.1)
            rw [List.contains_eq_mem, decide_eq_true_eq] at h4
            have := downs_closed (p := fun k => listed.getD k false = true) hcl r _ (fun k hk => hwt k (by
              rw [List.mem_filter] at hk
              exact hk.2)) j h4
            simp only [h3.2] at this
            cases this
        exact ⟨him, (hrem i).2 ⟨him, by rw [← hgd i his]; exact h1⟩, hwt⟩
      rw [show k + 1 + fuel = k + fuel + 1 by omega]
      refine ⟨fun hnil => ?_, fun i hi => ?_⟩
      · exfalso
        obtain ⟨i, hi, hmin⟩ := exists_least (List.exists_mem_of_ne_nil rem hne)
        have him := (hrem i).1 hi
        have : i ∈ Region.ready md ops listed := by
          refine mem_ready.2 ⟨by rw [hgd i (by omega)]; exact him.2, ops[i]'(by omega), Array.getElem?_eq_getElem (by omega), fun e he hb => ?_⟩
          unfold edgesOk at hedge
          rw [List.all_eq_true] at hedge
          have h2 := hedge i (List.mem_range.2 him.1)
          rw [Array.getElem?_eq_getElem (show i < ops.size by omega)] at h2
          simp only [Option.map_some, Option.getD_some, List.all_eq_true, Bool.or_eq_true, Bool.not_eq_true', decide_eq_true_eq] at h2
          have h3 := h2 e (by simpa using he)
          have h4 : e.on < i := by
            rcases h3 with h3 | h3
            · rw [hb] at h3; cases h3
            · exact h3
          cases h5 : listed.getD e.on false with
          | true => rfl
          | false => exact absurd ((hrem e.on).2 ⟨by omega, h5⟩) (hmin e.on h4)
        rw [hnil] at this
        cases this
      · obtain ⟨him, hir, hwt⟩ := hready i hi
        have hst := steps.get i (Nat.zero_le _) (by omega)
        refine hst.step u w hSw (fun j hj => ?_) _ fun v w' hSw' hE hv => ?_
        · have hl := hwt j hj
          have hjm : j < m := by
            by_cases h : j < m
            · exact h
            · rw [hge j (by omega)] at hl; cases hl
          exact hVw j hjm hl
        · have hd : (ops[i]?).bind (·.dst) = ds[i]? := by
            unfold dstsOk at hds
            rw [List.all_eq_true] at hds
            simpa using hds i (List.mem_range.2 (by omega))
          have hdi : ds[i]? = some (ds[i]'(by omega)) := List.getElem?_eq_getElem (by omega)
          rw [hd, hdi, fillL_set ds 0 u a0 i _ v (nodup_of hnd) hdi, Nat.zero_add]
          have hset : ∀ j, (listed.setIfInBounds i true).getD j false = if j = i then true else listed.getD j false := by
            intro j
            simp only [Array.getD_eq_getD_getElem?, Array.getElem?_setIfInBounds]
            by_cases hj : j = i
            · subst hj
              have hjs : j < listed.size := by omega
              simp [hjs]
            · rw [if_neg (fun h => hj h.symm), if_neg hj]
          refine ih (rem.erase i) (by rw [List.length_erase_of_mem hir, hk]; rfl) _ _ w' (hn.erase i) (fun j => ?_) (by simp [hsz]) (fun j hj => ?_) (fun k hk j hj => ?_) hSw' (fun j hj hl => ?_)
          · rw [hn.mem_erase_iff, hrem j, hset j]
            by_cases hj : j = i
            · subst hj; simp
            · simp [hj]
          · rw [hset j, if_neg (by omega)]
            exact hge j hj
          · rw [hset j]
            by_cases hji : j = i
            · rw [if_pos hji]
            · rw [if_neg hji]
              by_cases hki : k = i
              · subst hki; exact hwt j hj
              · rw [hset k, if_neg hki] at hk
                exact hcl k hk j hj
          · by_cases hji : j = i
            · subst hji
              simpa using hv
            · rw [hset j, if_neg hji] at hl
              simp only [if_neg hji]
              exact hV j _ w w' hE (hVw j hj hl)
  have hrp : ∀ i, (Array.replicate ops.size false).getD i false = false := fun i => by
    simp only [Array.getD_eq_getD_getElem?, Array.getElem?_replicate]
    split <;> rfl
  have h := main (List.range m) (Array.replicate ops.size false) (fun j => a0.tmps.getD (ds.getD j 0) undef) w0 List.nodup_range (fun i => by
      rw [List.mem_range]
      simp [hrp i]) (by simp) (fun i _ => hrp i) (fun i h => by rw [hrp i] at h; cases h) hS (fun i _ h => by
      rw [hrp i] at h
      cases h)
  rw [fillL_self ds 0 _ a0 (fun j hj => by rw [Nat.zero_add]), List.length_range] at h
  exact h
theorem wp_region_rel {id : Nat} (m fuel r : Nat) (S : World → Prop) (ds : List Tmp) (V : Nat → Value → World → Prop) (E : World → World → Prop) {a0 : Act} {w : World}
    (hm : P.follows .mixedOrders = true) (hsz : ops.size = m + fuel)
    (hlen : ds.length = m) (hds : dstsOk ops ds = true) (hnd : nodupB ds = true) (hedge : edgesOk .any ops m = true) (htail : tailOk .any ops m r = true)
    (hV : ∀ i v w w', E w w' → V i v w → V i v w') (hS : S w.drew)
    (steps : Steps (RelStep P .any ops Q S E V ds a0) 0 m)
    (fin : ∀ u w, S w → (∀ i, i < m → V i (u i) w) → wpAny P .any ops Q fuel (firstM m ops.size) (fillL ds 0 u a0) w) : (Code.region id ops true).wp P Q a0 w := by
  refine wp_region_any hm ?_
  have h := wpAny_rel (md := .any) m ds V E (w0 := w.drew) hlen hds hnd (decide_eq_true (by omega)) hedge htail hV hS steps fin
  rw [← hsz] at h
  exact h
/-- A relation for each operation, as a list. -/
def relAt (l : List (Value → World → Prop)) (i : Nat) : Value → World → Prop := l.getD i fun _ _ => True
def Mono (E : World → World → Prop) : List (Value → World → Prop) → Prop
  | [] => True
  | r :: l => (∀ v w w', E w w' → r v w → r v w') ∧ Mono E l
theorem Mono.at {E : World → World → Prop} : ∀ {l : List (Value → World → Prop)}, Mono E l → ∀ i v w w', E w w' → relAt l i v w → relAt l i v w'
  | [], _, _, _, _, _, _, _ => trivial
  | r :: l, h, 0, v, w, w', he, hr => h.1 v w w' he hr
  | r :: l, h, i + 1, v, w, w', he, hr => Mono.at h.2 i v w w' he hr
theorem relRun {E : World → World → Prop} {V : Nat → Value → World → Prop} {ds : List Tmp} {a0 : Act} (i : Nat) {oi : Oper} (hi : ops[i]? = some oi) (hg : oi.guard = none)
    (h : ∀ u w, S w → (∀ j, waitsOn md ops i j = true → V j (u j) w) → ∃ v w', (execOp (fillL ds 0 u a0).eval oi).run P w = .ok (.value v) w' ∧ S w' ∧ E w w' ∧ V i v w') : RelStep P md ops Q S E V ds a0 i := by
  constructor
  intro u w hS hd K hK
  obtain ⟨v, w', hrun, hS', hE, hV⟩ := h u w hS hd
  unfold wpOp
  simp only [hi, Region.wanted, hg, if_true]
  left
  unfold Oper.wp
  rw [hrun]
  have := hK v w' hS' hE hV
  rw [hi] at this
  exact this
theorem relQuiet {E : World → World → Prop} {V : Nat → Value → World → Prop} {ds : List Tmp} {a0 : Act} (i : Nat) {oi : Oper} (hi : ops[i]? = some oi) (hg : oi.guard = none) (hE : ∀ w, E w w) (v : Value)
    (hV : ∀ w, V i v w) (h : ∀ u w, S w → (∀ j, waitsOn md ops i j = true → V j (u j) w) → (execOp (fillL ds 0 u a0).eval oi).run P w = .ok (.value v) w) : RelStep P md ops Q S E V ds a0 i :=
  relRun i hi hg fun u w hS hd => ⟨v, w, h u w hS hd, hS, hE w, hV w⟩
theorem relCall {E : World → World → Prop} {V : Nat → Value → World → Prop} {ds : List Tmp} {a0 : Act} (i : Nat) {oi : Oper} (hi : ops[i]? = some oi) (hg : oi.guard = none) (f : FuncId)
    (h : ∀ u w, S w → (∀ j, waitsOn md ops i j = true → V j (u j) w) → ∃ args, (execOp (fillL ds 0 u a0).eval oi).run P w = .ok (.enter f args) w ∧
      Calls P f args w fun e w' => ∃ v, e = .returned v ∧ S w' ∧ E w w' ∧ V i v w') : RelStep P md ops Q S E V ds a0 i := by
  constructor
  intro u w hS hd K hK
  obtain ⟨args, hrun, hc⟩ := h u w hS hd
  unfold wpOp
  simp only [hi, Region.wanted, hg, if_true]
  left
  unfold Oper.wp
  rw [hrun]
  refine hc.mono ?_
  rintro _ w' ⟨v, rfl, hS', hE, hV⟩
  have := hK v w' hS' hE hV
  rw [hi] at this
  exact this
/-- A guarded operation that is wanted, and one that is not. -/
theorem relRunG {E : World → World → Prop} {V : Nat → Value → World → Prop} {ds : List Tmp} {a0 : Act} (i : Nat) {oi : Oper} (hi : ops[i]? = some oi)
    (h : ∀ u w, S w → (∀ j, waitsOn md ops i j = true → V j (u j) w) → Region.wanted oi (yielded ops (fillL ds 0 u a0).tmps) = true ∧ ∃ v w', (execOp (fillL ds 0 u a0).eval oi).run P w = .ok (.value v) w' ∧ S w' ∧ E w w' ∧ V i v w') : RelStep P md ops Q S E V ds a0 i := by
  constructor
  intro u w hS hd K hK
  obtain ⟨hw, v, w', hrun, hS', hE, hV⟩ := h u w hS hd
  unfold wpOp
  simp only [hi, hw, if_true]
  left
  unfold Oper.wp
  rw [hrun]
  have := hK v w' hS' hE hV
  rw [hi] at this
  exact this
theorem relCallG {E : World → World → Prop} {V : Nat → Value → World → Prop} {ds : List Tmp} {a0 : Act} (i : Nat) {oi : Oper} (hi : ops[i]? = some oi) (f : FuncId)
    (h : ∀ u w, S w → (∀ j, waitsOn md ops i j = true → V j (u j) w) → Region.wanted oi (yielded ops (fillL ds 0 u a0).tmps) = true ∧ ∃ args, (execOp (fillL ds 0 u a0).eval oi).run P w = .ok (.enter f args) w ∧
      Calls P f args w fun e w' => ∃ v, e = .returned v ∧ S w' ∧ E w w' ∧ V i v w') : RelStep P md ops Q S E V ds a0 i := by
  constructor
  intro u w hS hd K hK
  obtain ⟨hw, args, hrun, hc⟩ := h u w hS hd
  unfold wpOp
  simp only [hi, hw, if_true]
  left
  unfold Oper.wp
  rw [hrun]
  refine hc.mono ?_
  rintro _ w' ⟨v, rfl, hS', hE, hV⟩
  have := hK v w' hS' hE hV
  rw [hi] at this
  exact this
theorem relSkip {E : World → World → Prop} {V : Nat → Value → World → Prop} {ds : List Tmp} {a0 : Act} (i : Nat) {oi : Oper} (hi : ops[i]? = some oi) (hE : ∀ w, E w w) (hV : ∀ w, V i undef w)
    (h : ∀ u w, S w → (∀ j, waitsOn md ops i j = true → V j (u j) w) → Region.wanted oi (yielded ops (fillL ds 0 u a0).tmps) = false) : RelStep P md ops Q S E V ds a0 i := by
  constructor
  intro u w hS hd K hK
  have hw := h u w hS hd
  unfold wpOp
  simp only [hi, hw]
  have := hK undef w hS (hE w) (hV w)
  rw [hi] at this
  exact this
/-- An operation that yields a value and leaves the world as it is. -/
theorem wpH_same {o : Oper} {a : Act} {w : World} {K : Act → World → Prop} (dst : Option Tmp) (hdst : o.dst = dst) (v : Value) (hrun : (execOp a.eval o).run P w = .ok (.value v) w) (h : K (a.put dst v) w) : o.wp P a w K Q :=
  wpH_run dst hdst v hrun h
end
end Go.Proofs.YtlbpodddokhmaaaDoor
