/-
  Items as trees: how they lie in memory, how they come in as arguments.
  Conditions: none.
-/
import Derived.Test.YtlbpodddokhmaaaDoorStp
import Derived.SizedLaws
namespace Go.Proofs.YtlbpodddokhmaaaDoor.Itm
open Go.ChangeShapes Go.WideShapes Go.ChangeAt Go.RowKit
inductive Tr where
  | mk (k : Int) (n : Nat) (s : List UInt8) (l : List Tr) (o : Bool)
def Tr.k : Tr → Int | .mk k _ _ _ _ => k
def Tr.n : Tr → Nat | .mk _ n _ _ _ => n
def Tr.s : Tr → List UInt8 | .mk _ _ s _ _ => s
def Tr.l : Tr → List Tr | .mk _ _ _ l _ => l
def Tr.o : Tr → Bool | .mk _ _ _ _ o => o
def W64 : Nat := 18446744073709551616
/-- What a string's or a slice's length stays below: the form's own reach. -/
def R47 : Nat := 140737488355328
/-- The cells of an item in a world. -/
inductive TAt (w : World) : Tr → List Value → Prop
  | mk (k : Int) (n : Nat) (s : List UInt8) (l : List Tr) (o : Bool) (a : Option Addr) (c : Nat) (C : Nat → List Value) (hn : n < W64) (hs : s.length ≤ R47) (hl : l.length ≤ R47)
      (hat : ∀ i, i < l.length → ∃ b f, a = some ⟨b, f, none⟩ ∧ b < w.heap.size ∧ w.rangeAt b (f + i * 5) (C i))
      (hel : ∀ i t, l[i]? = some t → TAt w t (C i)) : TAt w (.mk k n s l o) [.int .i64 k, .int .u64 n, .string (B s), .slice a l.length c, .bool o]
theorem TAt.keep {w w' : World} {n0 : Nat} (hb : Below n0 w w') (hn0 : w.heap.size ≤ n0) {t : Tr} {cs : List Value} (h : TAt w t cs) : TAt w' t cs := by
  induction h with
  | mk k n s l o a c C hn hs hl hat hel ih =>
    refine .mk k n s l o a c C hn hs hl (fun i hi => ?_) ih
    obtain ⟨b, f, rfl, hbl, hr⟩ := hat i hi
    exact ⟨b, f, rfl, Nat.lt_of_lt_of_le hbl hb.size, rangeAt_below hr hb (Nat.lt_of_lt_of_le hbl hn0)⟩
theorem TAt.form {w : World} {t : Tr} {cs : List Value} (h : TAt w t cs) : ∃ (a : Option Addr) (c : Nat) (C : Nat → List Value), cs = [.int .i64 t.k, .int .u64 t.n, .string (B t.s), .slice a t.l.length c, .bool t.o] ∧ t.n < W64 ∧ t.s.length ≤ R47 ∧ t.l.length ≤ R47 ∧
    (∀ i, i < t.l.length → ∃ b f, a = some ⟨b, f, none⟩ ∧ b < w.heap.size ∧ w.rangeAt b (f + i * 5) (C i)) ∧ ∀ i x, t.l[i]? = some x → TAt w x (C i) := by
  cases h with
  | mk k n s l o a c C hn hs hl hat hel => exact ⟨a, c, C, rfl, hn, hs, hl, hat, hel⟩
def itemT : List TypeId := [3, 23, 9, 31, 4]
theorem weightsAll_mem {H : Type} {P : Program} {e : TypeId} : ∀ {l : List (DataW H)} {d : DataW H}, d ∈ l → ∀ n ∈ d.weights P e, n ∈ DataW.weightsAll P e l
  | x :: l, d, h, n, hn => by
    unfold DataW.weightsAll
    rcases List.mem_cons.1 h with rfl | h
    · exact List.mem_append_left _ hn
    · exact List.mem_append_right _ (weightsAll_mem h n hn)
section
variable {H : Type} {enc : TypeId × Value → H} {W : World}
set_option maxRecDepth 100000 in
theorem open_tr : ∀ (fuel : Nat) (cs : List Value) (y : DataW H × List MemPlace), DataW.trod enc Tryd.prog W 0 (fun _ => true) true fuel 33 cs = some y → (∀ p ∈ y.2, p.block < W.heap.size) → (∀ n ∈ y.1.weights Tryd.prog 33, n ≤ reachBytes) → ∃ t, TAt W t cs := by
  intro fuel
  induction fuel using Nat.strongRecOn with
  | _ fuel ih =>
    intro cs y h hlt hwt
    have hc5 : Tryd.prog.cellsOf 33 = 5 := by kernel_rfl
    obtain ⟨xs, n, rfl, rfl, hlen, hxs, hall⟩ := DataW.trod_struct Tryd.underlying33 h
    have hlv := leaves itemT h hlt (by kernel_rfl) (by rw [hlen, hc5]; rfl)
    obtain ⟨c0, _, rfl, h0, c1, _, rfl, h1, c2, _, rfl, h2, c3, _, rfl, h3, c4, _, rfl, h4, rfl⟩ := hlv
    obtain ⟨k, rfl, _⟩ := h0.int Tryd.underlying3
    obtain ⟨m, rfl, hm⟩ := h1.int Tryd.underlying23
    obtain ⟨s, rfl, _⟩ := h2.str Tryd.underlying9
    obtain ⟨o, rfl⟩ := h4.bool Tryd.underlying4
    have hm0 : 0 ≤ m ∧ m < 18446744073709551616 := by
      simp [Lit.wf, IntKind.min, IntKind.max, IntKind.signed, IntKind.bits] at hm
      omega
    obtain ⟨q, rfl⟩ : ∃ q : Nat, m = (q : Int) := ⟨m.toNat, by omega⟩
    have hq : q < W64 := by unfold W64; omega
    have hmemw : ∀ (i : Nat) (u : TypeId) (d : DataW H × List MemPlace), itemT[i]? = some u → xs[i]? = some d → ∀ n ∈ d.1.weights Tryd.prog u, n ≤ reachBytes := fun i u d hu hd n hn => hwt n (by
      have hag : (DataW.agg (xs.map (·.1)) : DataW H).weights Tryd.prog 33 = DataW.weightsEach Tryd.prog itemT (xs.map (·.1)) := by
        unfold DataW.weights
        rw [Tryd.underlying33]
        rfl
      rw [hag]
      exact DataW.weights_mem_each hu (by rw [List.getElem?_map, hd]; rfl) n hn)
    have hs : s.length ≤ R47 := by
      have h2' := hall 2 _ rfl
      have h2'' : DataW.trod enc Tryd.prog W 0 (fun _ => true) true n 9 [.string (B s)] = xs[2]? := h2'
      have hx2 : 2 < xs.length := by rw [hxs]; decide
      rw [List.getElem?_eq_getElem hx2] at h2''
      obtain ⟨s', hs1, hs2, _⟩ := DataW.trod_string Tryd.underlying9 h2''
      have := hmemw 2 9 xs[2] rfl (List.getElem?_eq_getElem hx2) s.length (by
        simp only [List.cons.injEq, and_true, Value.string.injEq] at hs1
        rw [hs2, ← hs1]
        simp [DataW.weights, B])
      unfold reachBytes at this
      unfold R47
      omega
    have hz := hall 3 _ rfl
    have hz' : DataW.trod enc Tryd.prog W 0 (fun _ => true) true n 31 [c3] = xs[3]? := hz
    have hx3 : 3 < xs.length := by rw [hxs]; decide
    rw [List.getElem?_eq_getElem hx3] at hz'
    rcases DataW.trod_slice Tryd.underlying31 hz' with ⟨hcs, hx⟩ | ⟨a, len, cap, elems, rest, n', rfl, hcs, hx, _, hl, hcm, hel, hcell, _, _⟩
    · simp only [List.cons.injEq, and_true] at hcs
      subst hcs
      exact ⟨.mk k q s [] o, .mk k q s [] o none 0 (fun _ => []) hq hs (Nat.zero_le _) (fun i hi => by simp at hi) (fun i t hi => by simp at hi)⟩
    · simp only [List.cons.injEq, and_true] at hcs
      subst hcs
      rw [hc5] at hcell hx
      have hsl3 : ∀ q ∈ (xs[3].1).weights Tryd.prog 31, q ≤ reachBytes := hmemw 3 31 xs[3] rfl (List.getElem?_eq_getElem hx3)
      rw [hx] at hsl3
      simp only at hsl3
      unfold DataW.weights at hsl3
      rw [Tryd.underlying31] at hsl3
      simp only [List.mem_cons, forall_eq_or_imp] at hsl3
      obtain ⟨hcapw, hslw⟩ := hsl3
      have hlenR : len ≤ R47 := by
        rw [List.length_map, List.length_map, hel] at hcapw
        have hby : Tryd.prog.bytesOf 33 = 64 := by kernel_rfl
        rw [hby] at hcapw
        unfold reachBytes at hcapw
        unfold R47
        omega
      have hone : ∀ i, i < len → ∃ p : List Value × Tr, W.cells? 0 (a.add (i * 5)) 5 = some p.1 ∧ TAt W p.2 p.1 := by
        intro i hi
        have hc := hcell i hi
        rw [List.getElem?_eq_getElem (by omega)] at hc
        obtain ⟨cs', h1, h2⟩ := Option.bind_eq_some_iff.1 hc
        obtain ⟨t, ht⟩ := ih n' (by omega) cs' _ h2 (fun p hp => hlt p (by
          refine List.mem_flatMap.2 ⟨xs[3], List.getElem_mem hx3, ?_⟩
          rw [hx]
          exact List.mem_append_right _ (List.mem_flatMap.2 ⟨elems[i], List.mem_append_left _ (List.getElem_mem _), hp⟩))) (fun q hq => hslw q (by
          refine List.mem_append_left _ ?_
          exact weightsAll_mem (List.mem_map.2 ⟨elems[i], List.getElem_mem _, rfl⟩) q hq))
        exact ⟨(cs', t), h1, ht⟩
      have : Inhabited Tr := ⟨.mk 0 0 [] [] false⟩
      obtain ⟨f, hf⟩ := Deep.choose_lt (α := List Value × Tr) hone
      have hll : ((List.range len).map fun i => (f i).2).length = len := by simp
      have key : TAt W (.mk k q s ((List.range len).map fun i => (f i).2) o) [.int .i64 k, .int .u64 q, .string (B s), .slice (some a) ((List.range len).map fun i => (f i).2).length cap, .bool o] := by
        refine .mk k q s _ o (some a) cap (fun i => (f i).1) hq hs (by rw [hll]; exact hlenR) (fun i hi => ?_) (fun i t hi => ?_)
        · rw [hll] at hi
          have hci := (hf i hi).1
          obtain ⟨_, hl5, hcc⟩ := World.cells?_some hci
          have hc0 := hcc 0 (by omega)
          rw [List.getElem?_eq_getElem (by omega)] at hc0
          have hs1 : (a.add (i * 5)).spot = none := by
            have : (a.add (i * 5)).add 0 = a.add (i * 5) := by simp [Addr.add]
            rw [this] at hc0
            exact spot_none hc0
          have hsp : a.spot = none := by
            obtain ⟨_, _, hcc0⟩ := World.cells?_some (hf 0 (by omega)).1
            have h00 := hcc0 0 (by omega)
            rw [List.getElem?_eq_getElem (by have := (World.cells?_some (hf 0 (by omega)).1).2.1; omega)] at h00
            simp only [Nat.zero_mul] at h00
            have : (a.add 0).add 0 = a := by simp [Addr.add]
            rw [this] at h00
            exact spot_none h00
          refine ⟨a.block, a.off, congrArg some (by have h9 := addr_add hsp 0; simpa [Addr.add] using h9), ?_, fun j u hj => ?_⟩
          · have := World.block_lt_of_cell? W _ hc0
            rw [Deep.add_add, addr_add hsp] at this
            exact this
          · have hj5 : j < 5 := by have := (List.getElem?_eq_some_iff.1 hj).1; omega
            have := hcc j hj5
            rw [Deep.add_add, addr_add hsp, hj] at this
            rw [Nat.add_assoc]
            exact this
        · rw [List.getElem?_map, Option.map_eq_some_iff] at hi
          obtain ⟨i', hi', rfl⟩ := hi
          have hil : i < len := by
            have := (List.getElem?_eq_some_iff.1 hi').1
            simpa using this
          rw [List.getElem?_eq_getElem (by simpa using hil), List.getElem_range] at hi'
          obtain rfl := Option.some.inj hi'
          exact (hf i hil).2
      rw [hll] at key
      exact ⟨_, key⟩
set_option maxRecDepth 100000 in
/-- An item that came in. -/
theorem open_item {base : Nat} {v0 : Value} {d0 : DataW H} {p0 : List MemPlace} (hv : Value.okWide Tryd.prog W .any base 33 v0)
    (hr : DataW.Trod enc Tryd.prog W 0 (fun _ => true) true 33 v0 d0 p0) (hlt : ∀ p ∈ p0, p.block < W.heap.size) (hwt : ∀ n ∈ d0.weights Tryd.prog 33, n ≤ reachBytes) : ∃ t cs, v0 = .agg cs.toArray ∧ TAt W t cs := by
  have : ∃ cs : Array Value, v0 = .agg cs := by
    unfold Value.okWide at hv
    rw [Tryd.underlying33] at hv
    obtain ⟨cs, e, _⟩ := hv
    exact ⟨cs, e⟩
  obtain ⟨cs, rfl⟩ := this
  obtain ⟨fuel, hf⟩ := hr
  obtain ⟨t, ht⟩ := open_tr fuel cs.toList _ (by simpa [Value.cells] using hf) hlt hwt
  exact ⟨t, cs.toList, by simp, ht⟩
end
end Go.Proofs.YtlbpodddokhmaaaDoor.Itm
