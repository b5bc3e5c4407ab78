/-
  The frame of a law whose card lists package-level variables: the law lifted from its walk.
  Conditions: as in Frame.
-/
import Derived.Test.YtlbpodddokhmaaaDoorFrame
import Derived.LaidMore
import Derived.Handed
import Derived.LaidLaws
import Derived.Stop.Joined
namespace Go.Proofs.YtlbpodddokhmaaaDoor
open Go.ChangeShapes Go.WideShapes Go.ChangeAt Go.RowKit
/-- A law with listed variables is lifted from its walk. -/
theorem law_lift_laid {H : Type} {enc : TypeId × Value → H} {C : Checked} {os : Os} {F : FuncId} {f : Func} {s : ChangeSpec} {apart fresh handsOn : Bool} {tb : TypeId} {L : List (String × DataW Unit)}
    (own : ownKnob C.prog.godebug = none) (started : os.Started) (noInit : C.prog.inits.idxOf? F = none) (hf : C.prog.funcs[F]? = some f)
    (witness : ∃ (w : World) (tape : Tape) (i : Input), w.os = os ∧ (w.forCall tape i).Shaped C.prog ∧ i.vars = [] ∧ Input.okWide C.prog (w.forCall tape i) .any w.heap.size F i ∧
      ((s.pre enc C.prog f [] apart (w.forCall tape i).memory i.args ∧ laidMetH C.prog L (w.forCall tape i).memory) ∧ sizedMet enc C.prog f (OpenSpec.ofChange s) apart (w.forCall tape i).memory i.args) ∧ ({} : Assume).holds C.prog (lone (Frame.enter C.prog F i.args .normal) [] (w.forCall tape i)))
    (hl : laidOutB C.prog = true) (hrd : (f.params.toList.all fun t => C.prog.readableRec t && decide (t < C.prog.types.size)) = true)
    (hvars : s.vars = []) (hr : f.resultTypes = #[tb]) (hbool : C.prog.underlying tb = some .bool)
    (hfn : ∀ ds : List (DataW H), ds.length = f.params.toList.length → (s.fn H ds).results = [.lit (.bool true)] ∧ (s.fn H ds).args = ds ∧ (s.fn H ds).vars = [])
    (walk : ∀ (W : World) (base : Nat) (args : Array Value) (ds : List (DataW H)) (ps : List MemPlace), laidMetH C.prog L W →
      (∀ (j : Nat) t v, f.params[j]? = some t → args[j]? = some v → Value.okWide C.prog W .any base t v) →
      DataW.TrodAll enc C.prog W 0 (fun _ => true) true f.params.toList args.toList ds ps →
      (∀ p ∈ ps, p.block < W.heap.size) →
      Calls C.prog F args W fun e W' => e = .returned (.bool true) ∧ Below W.heap.size W W') :
    ReturnsInHanded {} C os F .any (fun w args => (s.pre enc C.prog f [] apart w args ∧ laidMetH C.prog L w) ∧ sizedMet enc C.prog f (OpenSpec.ofChange s) apart w args) (s.post enc C.prog f apart fresh handsOn false) := by
  refine returnsInHanded_of_change_and (X := fun w _ => laidMetH C.prog L w) (fun _ _ _ hh h => h.of_heap hh) own started noInit hf witness ?_
  intro W base args ds gs before hval hW _ _ hL _
  have hW0 := hW
  obtain ⟨p, q, hA, hV, rfl, _, _⟩ := hW
  refine (walk W base args ds p hL hval hA fun x hx => hW0.lt x (List.mem_append_left _ hx)).mono fun e W' ⟨he, hb⟩ => ?_
  have hlen : ∀ {ts : List TypeId} {vs : List Value} {ds : List (DataW H)} {ps : List MemPlace}, DataW.TrodAll enc C.prog W 0 (fun _ => true) true ts vs ds ps → ds.length = ts.length := by
    intro ts
    induction ts with
    | nil => intro vs ds ps h; obtain ⟨_, rfl, _⟩ := trodAll_nil h; rfl
    | cons t ts ih => intro vs ds ps h; obtain ⟨v, vs', d, ds', p, q, _, rfl, _, _, hrest⟩ := trodAll_cons h; simp [ih hrest]
  exact ⟨_, he, law_post hl hrd hvars hr hbool (hfn ds (hlen hA)) hW0 hb⟩
end Go.Proofs.YtlbpodddokhmaaaDoor
