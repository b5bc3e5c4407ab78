/-
  The frame of a law whose card lists package-level variables: what the listed data give the walk, and the law lifted from its walk.
  Conditions: the two listed variables are sha's.
-/
import Derived.Test.YtpgadpnaekhiaaaDoorShaG
import Derived.LaidMore
import Derived.Handed
import Derived.LaidLaws
import Derived.Stop.Joined
namespace Go.Proofs.YtpgadpnaekhiaaaDoor
open Go.ChangeShapes Go.WideShapes Go.ChangeAt Go.RowKit
open Go.Proofs.YtpgadpnaekhiaaaDoor.Sha (roundsL firstsL GlobAt)
theorem drop_take_one {α : Type} {l : List α} {i : Nat} {v : α} (h : (l.drop i).take 1 = [v]) : l[i]? = some v := by
  have h1 := congrArg (fun l => l[0]?) h
  simpa using h1
theorem cells_of_ints {H : Type} {enc : TypeId × Value → H} {P : Program} {w : World} {base : Nat} {sp : Nat → Bool} {held : Bool} {fuel n : Nat} {t e : TypeId} {cs : List Value} {p : List MemPlace} (ht : P.underlying t = some (.array n e)) (he : P.underlying e = some (.int .u64)) (hc : P.cellsOf e = 1) (l : List Nat)
    (h : DataW.trod enc P w base sp held fuel t cs = some (.agg (l.map fun (k : Nat) => .lit (.int .u64 ((k : Nat) : Int))), p)) : ∀ i, i < n → cs[i]? = some (.int .u64 ((l.getD i 0 : Nat) : Int)) := by
  obtain ⟨xs, m, rfl, hx, -, hn, hel⟩ := DataW.trod_array ht h
  simp only [Prod.mk.injEq, DataW.agg.injEq] at hx
  intro i hi
  have h1 := hel i hi
  rw [hc, Nat.mul_one, List.getElem?_eq_getElem (by omega)] at h1
  obtain ⟨k, e1, e2, _⟩ := DataW.trod_int he h1
  have h2 := congrArg (fun l => l[i]?) hx.1
  simp only [List.getElem?_map, List.getElem?_eq_getElem (show i < xs.length by omega), Option.map_some] at h2
  rw [drop_take_one e1]
  have hli : i < l.length := by
    have := congrArg List.length hx.1
    simp at this
    omega
  rw [List.getElem?_eq_getElem hli] at h2
  rw [e2] at h2
  simp only [Option.map_some, Option.some.injEq, DataW.lit.injEq, Lit.int.injEq, true_and] at h2
  rw [← h2]
  simp [List.getD, hli]
/-- The two variables that the cards list. -/
def laidL : List (String × DataW Unit) := [("dromond/sha.rounds", Rows.laid_dromond_sha_rounds), ("dromond/sha.firsts", Rows.laid_dromond_sha_firsts)]
theorem rounds_data : (Rows.laid_dromond_sha_rounds : DataW Unit) = .agg (roundsL.map fun (k : Nat) => .lit (.int .u64 ((k : Nat) : Int))) := by kernel_rfl
theorem firsts_data : (Rows.laid_dromond_sha_firsts : DataW Unit) = .agg [.agg ((firstsL.take 8).map fun (k : Nat) => .lit (.int .u64 ((k : Nat) : Int))), .agg ((firstsL.drop 8).map fun (k : Nat) => .lit (.int .u64 ((k : Nat) : Int)))] := by kernel_rfl
theorem gRounds : Tryd.prog.globalNamed "dromond/sha.rounds" = some 1 := by kernel_rfl
theorem gFirsts : Tryd.prog.globalNamed "dromond/sha.firsts" = some 0 := by kernel_rfl
theorem tRounds : (Tryd.prog.globals[1]?).map (·.type) = some 65 := by kernel_rfl
theorem tFirsts : (Tryd.prog.globals[0]?).map (·.type) = some 96 := by kernel_rfl
set_option maxRecDepth 100000 in
theorem laid_glob {W : World} (h : laidMetH Tryd.prog laidL W) : GlobAt W := by
  rw [MakeChecks.laidMetH_plain _ _ _ (by kernel_rfl)] at h
  obtain ⟨ps, ⟨g0, t0, cs0, f0, p0, q0, hg0, ht0, hv0, hd0, ⟨g1, t1, cs1, f1, p1, q1, hg1, ht1, hv1, hd1, _, _⟩, _⟩, _, _⟩ := h
  obtain rfl := Option.some.inj (gRounds.symm.trans hg0)
  obtain rfl := Option.some.inj (gFirsts.symm.trans hg1)
  obtain rfl := Option.some.inj (tRounds.symm.trans ht0)
  obtain rfl := Option.some.inj (tFirsts.symm.trans ht1)
  rw [rounds_data] at hd0
  rw [firsts_data] at hd1
  have hc64 : Tryd.prog.cellsOf 45 = 1 := by kernel_rfl
  have hc8 : Tryd.prog.cellsOf 50 = 8 := by kernel_rfl
  refine ⟨fun i hi => ?_, fun i hi => ?_⟩
  · have h1 := cells_of_ints Tryd.underlying65 Tryd.underlying45 hc64 roundsL hd0 i hi
    rw [World.var?_cell hg0 hv0 i]
    simpa using h1
  · obtain ⟨xs, m, rfl, hx, -, hn, hel⟩ := DataW.trod_array Tryd.underlying96 hd1
    simp only [Prod.mk.injEq, DataW.agg.injEq] at hx
    match xs, hn, hx, hel with
    | [x0, x1], _, hx, hel =>
      simp only [List.map_cons, List.map_nil, List.cons.injEq, and_true] at hx
      obtain ⟨⟨hx0, hx1⟩, -⟩ := hx
      rw [World.var?_cell hg1 hv1 i]
      by_cases h8 : i < 8
      · have e0 := hel 0 (by omega)
        rw [hc8] at e0
        have h1 := cells_of_ints Tryd.underlying50 Tryd.underlying45 hc64 (firstsL.take 8) (p := x0.2) (by rw [hx0]; exact e0) i h8
        rw [List.getElem?_take, if_pos h8, List.getElem?_drop] at h1
        have e2 : (firstsL.take 8).getD i 0 = firstsL.getD i 0 := by simp only [List.getD, List.getElem?_take]; rw [if_pos h8]
        rw [e2] at h1
        simpa using h1
      · have e0 := hel 1 (by omega)
        rw [hc8] at e0
        have h1 := cells_of_ints Tryd.underlying50 Tryd.underlying45 hc64 (firstsL.drop 8) (p := x1.2) (by rw [hx1]; exact e0) (i - 8) (by omega)
        rw [List.getElem?_take, if_pos (by omega), List.getElem?_drop, show 1 * 8 + (i - 8) = i by omega] at h1
        have e2 : (firstsL.drop 8).getD (i - 8) 0 = firstsL.getD i 0 := by simp only [List.getD, List.getElem?_drop]; rw [show 8 + (i - 8) = i by omega]
        rw [e2] at h1
        simpa using h1
/-- A law with listed variables is lifted from its walk. -/
theorem law_lift_laid {H : Type} {enc : TypeId × Value → H} {C : Checked} {os : Os} {F : FuncId} {f : Func} {s : ChangeSpec} {apart fresh handsOn : Bool} {tb : TypeId} {L : List (String × DataW Unit)}
    (own : ownKnob C.prog.godebug = none) (started : os.Started) (noInit : C.prog.inits.idxOf? F = none) (hf : C.prog.funcs[F]? = some f)
    (witness : ∃ (w : World) (tape : Tape) (i : Input), w.os = os ∧ (w.forCall tape i).Shaped C.prog ∧ i.vars = [] ∧ Input.okWide C.prog (w.forCall tape i) .any w.heap.size F i ∧
      ((s.pre enc C.prog f [] apart (w.forCall tape i).memory i.args ∧ laidMetH C.prog L (w.forCall tape i).memory) ∧ sizedMet enc C.prog f (OpenSpec.ofChange s) apart (w.forCall tape i).memory i.args) ∧ ({} : Assume).holds C.prog (lone (Frame.enter C.prog F i.args .normal) [] (w.forCall tape i)))
    (hl : laidOutB C.prog = true) (hrd : (f.params.toList.all fun t => C.prog.readableRec t && decide (t < C.prog.types.size)) = true)
    (hvars : s.vars = []) (hr : f.resultTypes = #[tb]) (hbool : C.prog.underlying tb = some .bool)
    (hfn : ∀ ds : List (DataW H), ds.length = f.params.toList.length → (s.fn H ds).results = [.lit (.bool true)] ∧ (s.fn H ds).args = ds ∧ (s.fn H ds).vars = [])
    (walk : ∀ (W : World) (base : Nat) (args : Array Value) (ds : List (DataW H)) (ps : List MemPlace), laidMetH C.prog L W →
      (∀ (j : Nat) t v, f.params[j]? = some t → args[j]? = some v → Value.okWide C.prog W .any base t v) →
      DataW.TrodAll enc C.prog W 0 (fun _ => true) true f.params.toList args.toList ds ps →
      (∀ p ∈ ps, p.block < W.heap.size) →
      Calls C.prog F args W fun e W' => e = .returned (.bool true) ∧ Below W.heap.size W W') :
    ReturnsInHanded {} C os F .any (fun w args => (s.pre enc C.prog f [] apart w args ∧ laidMetH C.prog L w) ∧ sizedMet enc C.prog f (OpenSpec.ofChange s) apart w args) (s.post enc C.prog f apart fresh handsOn false) := by
  refine returnsInHanded_of_change_and (X := fun w _ => laidMetH C.prog L w) (fun _ _ _ hh h => h.of_heap hh) own started noInit hf witness ?_
  intro W base args ds gs before hval hW _ _ hL _
  have hW0 := hW
  obtain ⟨p, q, hA, hV, rfl, _, _⟩ := hW
  refine (walk W base args ds p hL hval hA fun x hx => hW0.lt x (List.mem_append_left _ hx)).mono fun e W' ⟨he, hb⟩ => ?_
  have hlen : ∀ {ts : List TypeId} {vs : List Value} {ds : List (DataW H)} {ps : List MemPlace}, DataW.TrodAll enc C.prog W 0 (fun _ => true) true ts vs ds ps → ds.length = ts.length := by
    intro ts
    induction ts with
    | nil => intro vs ds ps h; obtain ⟨_, rfl, _⟩ := trodAll_nil h; rfl
    | cons t ts ih => intro vs ds ps h; obtain ⟨v, vs', d, ds', p, q, _, rfl, _, _, hrest⟩ := trodAll_cons h; simp [ih hrest]
  exact ⟨_, he, law_post hl hrd hvars hr hbool (hfn ds (hlen hA)) hW0 hb⟩
end Go.Proofs.YtpgadpnaekhiaaaDoor
