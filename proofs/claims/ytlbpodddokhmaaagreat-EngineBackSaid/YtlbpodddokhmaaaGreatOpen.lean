/-
  How an argument that reads as data is opened: each cell of a struct or an array, however deep it is nested, reads by itself; integers, bools and strings are then known.
  Conditions: none.
-/
import Derived.Test.YtlbpodddokhmaaaGreatExt
namespace Go.Proofs.YtlbpodddokhmaaaGreat
open Go.ChangeShapes Go.WideShapes Go.ChangeAt Go.RowKit

/-- Each of one list stands to its fellow of the other. -/
def All2 {A C : Type} (R : A → C → Prop) : List A → List C → Prop
  | [], cs => cs = []
  | a :: l, cs => ∃ c r, cs = c :: r ∧ R a c ∧ All2 R l r
theorem All2.mono {A C : Type} {R S : A → C → Prop} (h : ∀ a c, R a c → S a c) : ∀ {l : List A} {cs : List C}, All2 R l cs → All2 S l cs
  | [], _, e => e
  | _ :: _, _, ⟨c, r, e, hr, ht⟩ => ⟨c, r, e, h _ _ hr, All2.mono h ht⟩

/-- Which type the cell number o of a value of type t has. -/
def leafAt (P : Program) : Nat → TypeId → Nat → Option TypeId
  | 0, _, _ => none
  | d + 1, t, o =>
    match P.underlying t with
    | some (.struct fs) => (fs.toList.find? fun f => decide (f.offset ≤ o ∧ o < f.offset + P.cellsOf f.type)).bind fun f => leafAt P d f.type (o - f.offset)
    | some (.array n e) => if o / P.cellsOf e < n ∧ 0 < P.cellsOf e then leafAt P d e (o % P.cellsOf e) else none
    | some _ => if o = 0 then some t else none
    | none => none

section
variable {H : Type} {enc : TypeId × Value → H} {P : Program} {w : World} {base : Nat} {spare : Nat → Bool} {held : Bool}

/-- What is neither a struct nor an array has one cell. -/
theorem trod_one {fuel : Nat} {t : TypeId} {cs : List Value} {y : DataW H × List MemPlace} (h : DataW.trod enc P w base spare held fuel t cs = some y)
    (h1 : ∀ fs, P.underlying t ≠ some (.struct fs)) (h2 : ∀ n e, P.underlying t ≠ some (.array n e)) : ∃ c, cs = [c] := by
  cases fuel with
  | zero => simp [DataW.trod] at h
  | succ n =>
    unfold DataW.trod at h
    split at h <;> first | exact ⟨_, rfl⟩ | (rename_i hu; exact absurd hu (h1 _)) | (rename_i hu; exact absurd hu (h2 _ _)) | cases h

theorem sub_flat {y : DataW H × List MemPlace} {xs : List (DataW H × List MemPlace)} (h : y ∈ xs) : ∀ p ∈ y.2, p ∈ xs.flatMap (·.2) := fun _p hp => List.mem_flatMap.2 ⟨y, h, hp⟩

theorem trod_leaf : ∀ (d : Nat) {fuel : Nat} {t u : TypeId} {o : Nat} {cs : List Value} {y : DataW H × List MemPlace}, leafAt P d t o = some u → DataW.trod enc P w base spare held fuel t cs = some y →
    ∃ n c z, (cs.drop o).take 1 = [c] ∧ DataW.trod enc P w base spare held n u [c] = some z ∧ ∀ p ∈ z.2, p ∈ y.2
  | 0, _, _, _, _, _, _, hl, _ => by simp [leafAt] at hl
  | d + 1, fuel, t, u, o, cs, y, hl, h => by
    unfold leafAt at hl
    split at hl
    · rename_i fs hs
      obtain ⟨f, hf, hl⟩ := Option.bind_eq_some_iff.1 hl
      have hp := List.find?_some hf
      have hm := List.mem_of_find?_eq_some hf
      simp only [decide_eq_true_eq] at hp
      obtain ⟨i, hi⟩ := List.mem_iff_getElem?.1 hm
      obtain ⟨xs, n, rfl, rfl, hlen, hxs, hall⟩ := DataW.trod_struct hs h
      have hr := hall i f (by simpa using hi)
      have hx : ∃ z, xs[i]? = some z := by
        have : i < fs.toList.length := (List.getElem?_eq_some_iff.1 hi).1
        have hlt : i < xs.length := by rw [hxs]; simpa using this
        exact ⟨xs[i], List.getElem?_eq_getElem hlt⟩
      obtain ⟨z, hz⟩ := hx
      rw [hz] at hr
      obtain ⟨m, c, z', hc, hr', hsub⟩ := trod_leaf d hl hr
      refine ⟨m, c, z', ?_, hr', fun p hp' => sub_flat (List.mem_of_getElem? hz) p (hsub p hp')⟩
      rw [← hc, List.drop_take, List.drop_drop, List.take_take]
      rw [show f.offset + (o - f.offset) = o by omega, show min 1 (P.cellsOf f.type - (o - f.offset)) = 1 by omega]
    · rename_i n e hs
      split at hl
      · rename_i hn
        obtain ⟨hn, hpos⟩ := hn
        obtain ⟨xs, m, rfl, rfl, hlen, hxs, hall⟩ := DataW.trod_array hs h
        have hr := hall (o / P.cellsOf e) hn
        have hlt : o / P.cellsOf e < xs.length := by rw [hxs]; exact hn
        rw [List.getElem?_eq_getElem hlt] at hr
        obtain ⟨m', c, z', hc, hr', hsub⟩ := trod_leaf d hl hr
        refine ⟨m', c, z', ?_, hr', fun p hp' => sub_flat (List.getElem_mem hlt) p (hsub p hp')⟩
        have hmod : o % P.cellsOf e < P.cellsOf e := Nat.mod_lt _ hpos
        have hdm : o / P.cellsOf e * P.cellsOf e + o % P.cellsOf e = o := by rw [Nat.mul_comm]; exact Nat.div_add_mod _ _
        rw [← hc, List.drop_take, List.drop_drop, List.take_take, hdm, show min 1 (P.cellsOf e - o % P.cellsOf e) = 1 by omega]
      · cases hl
    · rename_i desc h1 h2 hs
      split at hl
      · rename_i ho
        subst ho
        cases hl
        obtain ⟨c, rfl⟩ := trod_one h (fun fs hf => h1 fs (by rw [hs] at hf; exact Option.some.inj hf)) (fun n e hf => h2 n e (by rw [hs] at hf; exact Option.some.inj hf))
        exact ⟨fuel, c, y, rfl, h, fun p hp => hp⟩
      · cases hl
    · cases hl
end

/-- A value of one cell that reads as data, its places before the heap's end. -/
def LeafOk {H : Type} (enc : TypeId × Value → H) (P : Program) (w : World) (u : TypeId) (v : Value) : Prop :=
  ∃ n z, DataW.trod enc P w 0 (fun _ => true) true n u [v] = some z ∧ ∀ p ∈ z.2, p.block < w.heap.size

section
variable {H : Type} {enc : TypeId × Value → H} {P : Program} {w : World}
theorem leaves_go {fuel : Nat} {t : TypeId} {cs : List Value} {y : DataW H × List MemPlace} (h : DataW.trod enc P w 0 (fun _ => true) true fuel t cs = some y) (hlt : ∀ p ∈ y.2, p.block < w.heap.size) :
    ∀ (us : List TypeId) (k : Nat), (∀ i u, us[i]? = some u → leafAt P 9 t (k + i) = some u) → cs.length = k + us.length → All2 (LeafOk enc P w) us (cs.drop k)
  | [], k, _, hlen => List.drop_of_length_le (by simp at hlen; omega)
  | u :: us, k, hall, hlen => by
    have hk : k < cs.length := by simp at hlen; omega
    obtain ⟨n, c, z, hc, hz, hsub⟩ := trod_leaf 9 (hall 0 u rfl) h
    have hc' : cs[k] = c := by
      rw [Nat.add_zero, List.drop_eq_getElem_cons hk, List.take_succ_cons, List.take_zero] at hc
      exact (List.cons.inj hc).1
    refine ⟨c, cs.drop (k + 1), by rw [List.drop_eq_getElem_cons hk, hc'], ⟨n, z, hz, fun p hp => hlt p (hsub p hp)⟩, ?_⟩
    refine leaves_go h hlt us (k + 1) (fun i u' hi => ?_) (by simp at hlen ⊢; omega)
    have := hall (i + 1) u' (by simpa using hi)
    rwa [show k + 1 + i = k + (i + 1) by omega]
/-- Every cell of a value reads. -/
theorem leaves {fuel : Nat} {t : TypeId} {cs : List Value} {y : DataW H × List MemPlace} (us : List TypeId) (h : DataW.trod enc P w 0 (fun _ => true) true fuel t cs = some y) (hlt : ∀ p ∈ y.2, p.block < w.heap.size)
    (hus : (List.range us.length).map (leafAt P 9 t) = us.map some) (hlen : cs.length = us.length) : All2 (LeafOk enc P w) us cs := by
  have := leaves_go h hlt us 0 (fun i u hi => by
    have hl : i < us.length := (List.getElem?_eq_some_iff.1 hi).1
    have e := congrArg (fun l => l[i]?) hus
    simp [hl] at e
    rw [Nat.zero_add, e, ← hi, List.getElem?_eq_getElem hl]) (by simpa using hlen)
  simpa using this
/-- A struct or an array that came in as an argument. -/
theorem open_flat {t : TypeId} {v : Value} {d : DataW H} {ps : List MemPlace} {base : Nat} (us : List TypeId) (hv : Value.okWide P w .any base t v) (h : DataW.Trod enc P w 0 (fun _ => true) true t v d ps) (hlt : ∀ p ∈ ps, p.block < w.heap.size)
    (hs : (match P.underlying t with | some (.struct _) | some (.array _ _) => true | _ => false) = true)
    (hus : (List.range us.length).map (leafAt P 9 t) = us.map some) (hlen : P.cellsOf t = us.length) : ∃ cs : List Value, v = .agg cs.toArray ∧ All2 (LeafOk enc P w) us cs := by
  have : ∃ cs : Array Value, v = .agg cs ∧ cs.size = P.cellsOf t := by
    unfold Value.okWide at hv
    split at hs
    · rename_i h1; rw [h1] at hv; obtain ⟨cs, e, hsz, _⟩ := hv; exact ⟨cs, e, hsz⟩
    · rename_i h1; rw [h1] at hv; obtain ⟨cs, e, hsz, _⟩ := hv; exact ⟨cs, e, hsz⟩
    · cases hs
  obtain ⟨cs, rfl, hsz⟩ := this
  obtain ⟨fuel, hf⟩ := h
  refine ⟨cs.toList, by simp, leaves us (t := t) (y := (d, ps)) (by simpa [Value.cells] using hf) hlt hus (by simp [hsz, hlen])⟩
theorem LeafOk.int {u : TypeId} {k : IntKind} {v : Value} (hu : P.underlying u = some (.int k)) (h : LeafOk enc P w u v) : ∃ n, v = .int k n ∧ (Lit.int k n).wf = true := by
  obtain ⟨n, z, hz, _⟩ := h
  obtain ⟨m, e, _, hw⟩ := DataW.trod_int hu hz
  cases e
  exact ⟨m, rfl, hw⟩
theorem LeafOk.str {u : TypeId} {v : Value} (hu : P.underlying u = some .string) (h : LeafOk enc P w u v) : ∃ l, v = .string (B l) ∧ l.length ≤ maxLen := by
  obtain ⟨n, z, hz, _⟩ := h
  obtain ⟨s, e, _, hs⟩ := DataW.trod_string hu hz
  cases e
  obtain ⟨l, rfl⟩ := B_of s
  exact ⟨l, rfl, by rwa [B_size] at hs⟩
theorem LeafOk.bool {u : TypeId} {v : Value} (hu : P.underlying u = some .bool) (h : LeafOk enc P w u v) : ∃ b, v = .bool b := by
  obtain ⟨n, z, hz, _⟩ := h
  obtain ⟨b, e, _⟩ := DataW.trod_bool hu hz
  cases e
  exact ⟨b, rfl⟩
/-- An argument of one cell. -/
theorem open_leaf {t : TypeId} {v : Value} {d : DataW H} {ps : List MemPlace} (h : DataW.Trod enc P w 0 (fun _ => true) true t v d ps) (hlt : ∀ p ∈ ps, p.block < w.heap.size) (hv : v.cells = #[v]) : LeafOk enc P w t v := by
  obtain ⟨fuel, hf⟩ := h
  exact ⟨fuel, (d, ps), by rw [hv] at hf; exact hf, hlt⟩
end
end Go.Proofs.YtlbpodddokhmaaaGreat
