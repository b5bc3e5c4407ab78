/-
  The frame of a law whose statement says nothing of sha's tables: what the start's shape tells of them; a law is lifted from its walk.
  Conditions: the parameters can be read as data; the result is one bool.
-/
import Derived.Test.YtlbpodddokhmaaaGreatFrame
import Derived.Test.YtlbpodddokhmaaaGreatShaG
import Derived.HandedShaped
namespace Go.Proofs.YtlbpodddokhmaaaGreat
open Go.ChangeShapes Go.WideShapes Go.ChangeAt Go.RowKit Go.Deep
open Go.Proofs.YtlbpodddokhmaaaGreat.Sha (GlobAt Tabs roundsL firstsL)

set_option maxRecDepth 100000 in
theorem row_u64 {W : World} {t : TypeId} {cs : Array Value} {n : Nat} (ht : Tryz.prog.cellTypes Tryz.prog.depth t = some (List.replicate n 76)) (hn : 0 < n) (hs : cs.size = n) (hr : Row.ok Tryz.prog W .any 0 t cs) :
    ∃ l : List Nat, (∀ i, l.getD i 0 < 18446744073709551616) ∧ ∀ i, i < n → cs[i]? = some (.int .u64 ((l.getD i 0 : Nat) : Int)) := by
  obtain ⟨ts, hts, _, hall⟩ := hr
  rw [ht] at hts
  obtain rfl := Option.some.inj hts
  have hc : ∀ i, i < n → ∃ m : Nat, m < 18446744073709551616 ∧ cs[i]? = some (.int .u64 (m : Int)) := fun i hi => by
    obtain ⟨v, hv⟩ : ∃ v, cs[i]? = some v := ⟨cs[i], by simp [hs, hi]⟩
    obtain ⟨u, hu, hok⟩ := hall i v hv
    have hu2 : u = 76 := by
      have h1 : i % (List.replicate n 76).length < n := by rw [List.length_replicate]; exact Nat.mod_lt _ hn
      rw [List.getElem?_replicate, if_pos h1] at hu
      exact (Option.some.inj hu).symm
    subst hu2
    unfold Cell.ok at hok
    rw [Tryz.underlying76] at hok
    cases v with
    | int k z =>
      obtain ⟨rfl, hz⟩ := hok
      simp [IntKind.has, IntKind.min, IntKind.max, IntKind.bits, IntKind.signed] at hz
      have hz1 : 0 ≤ z := hz.1
      have hz2 : z ≤ 18446744073709551615 := by have := hz.2; omega
      exact ⟨z.toNat, by omega, by rw [hv, Int.toNat_of_nonneg hz1]⟩
    | _ => exact hok.elim
  refine ⟨(List.range n).map fun i => if h : i < n then (hc i h).choose else 0, fun i => ?_, fun i hi => ?_⟩
  · by_cases hi : i < n
    · simp only [List.getD, List.getElem?_map, List.getElem?_range hi, Option.map_some, Option.getD_some, dif_pos hi]
      exact (hc i hi).choose_spec.1
    · rw [List.getD, List.getElem?_eq_none (by simpa using hi)]; decide
  · simp only [List.getD, List.getElem?_map, List.getElem?_range hi, Option.map_some, Option.getD_some, dif_pos hi]
    exact (hc i hi).choose_spec.2
set_option maxRecDepth 100000 in
theorem glob_open {W : World} (h : W.ShapedOpen Tryz.prog) : ∃ T : Tabs, @GlobAt ⟨T⟩ W := by
  have key : ∀ g n t, g < Tryz.prog.globals.size → (((begin Tryz.prog (fun _ _ => 0) default).world.heap[g]?).bind Obj.row?).map (fun z => (z.1.size, z.2)) = some (n, t) → Tryz.prog.buildable t = true →
      Tryz.prog.cellTypes Tryz.prog.depth t = some (List.replicate n 76) → 0 < n → ∃ l : List Nat, (∀ i, l.getD i 0 < 18446744073709551616) ∧ ∀ i, i < n → W.cell? ⟨g, i, none⟩ = some (.int .u64 ((l.getD i 0 : Nat) : Int)) := fun g n t hg h0 hb ht hn => by
    obtain ⟨⟨zero, t'⟩, hz, he⟩ := Option.map_eq_some_iff.1 h0
    obtain ⟨rfl, rfl⟩ := Prod.mk.inj he
    obtain ⟨cs, hh, hs, hr⟩ := h.1 g zero t' hg hz
    obtain ⟨l, h1, h2⟩ := row_u64 ht hn hs (hr hb)
    exact ⟨l, h1, fun i hi => by simp [World.cell?, hh, h2 i hi]⟩
  obtain ⟨r, r1, r2⟩ := key 1 80 92 (of_decide_eq_true (by kernel_rfl)) (by kernel_rfl) (by kernel_rfl) (by kernel_rfl) (by omega)
  obtain ⟨f, f1, f2⟩ := key 0 16 192 (of_decide_eq_true (by kernel_rfl)) (by kernel_rfl) (by kernel_rfl) (by kernel_rfl) (by omega)
  exact ⟨⟨r, f, r1, f1⟩, r2, f2⟩
/-- A law is lifted from its walk, which may look at the start's shape. -/
theorem law_lift_open {H : Type} {enc : TypeId × Value → H} {C : Checked} {os : Os} {F : FuncId} {f : Func} {s : ChangeSpec} {apart fresh handsOn : Bool} {tb : TypeId}
    (own : ownKnob C.prog.godebug = none) (started : os.Started) (noInit : C.prog.inits.idxOf? F = none) (hf : C.prog.funcs[F]? = some f)
    (witness : ∃ (w : World) (tape : Tape) (i : Input), w.os = os ∧ (w.forCall tape i).Shaped C.prog ∧ i.vars = [] ∧ Input.okWide C.prog (w.forCall tape i) .any w.heap.size F i ∧
      s.pre6 enc C.prog f [] apart (w.forCall tape i).memory i.args ∧ ({} : Assume).holds C.prog (lone (Frame.enter C.prog F i.args .normal) [] (w.forCall tape i)))
    (hl : laidOutB C.prog = true) (hrd : (f.params.toList.all fun t => C.prog.readableRec t && decide (t < C.prog.types.size)) = true)
    (hvars : s.vars = []) (hr : f.resultTypes = #[tb]) (hbool : C.prog.underlying tb = some .bool)
    (hfn : ∀ ds : List (DataW H), ds.length = f.params.toList.length → (s.fn H ds).results = [.lit (.bool true)] ∧ (s.fn H ds).args = ds ∧ (s.fn H ds).vars = [])
    (walk : ∀ (W : World) (base : Nat) (args : Array Value) (ds : List (DataW H)) (ps : List MemPlace), W.ShapedOpen C.prog →
      (∀ (j : Nat) t v, f.params[j]? = some t → args[j]? = some v → Value.okWide C.prog W .any base t v) →
      DataW.TrodAll enc C.prog W 0 (fun _ => true) true f.params.toList args.toList ds ps →
      (∀ p ∈ ps, p.block < W.heap.size) →
      Calls C.prog F args W fun e W' => e = .returned (.bool true) ∧ Below W.heap.size W W') :
    ReturnsInHanded {} C os F .any (s.pre6 enc C.prog f [] apart) (s.post enc C.prog f apart fresh handsOn false) := by
  refine returnsInHanded_of_change_shaped own started noInit hf witness ?_
  intro W base args ds gs before hval hW _ _ hsh _
  have hW0 := hW
  obtain ⟨p, q, hA, hV, rfl, _, _⟩ := hW
  refine (walk W base args ds p hsh hval hA fun x hx => hW0.lt x (List.mem_append_left _ hx)).mono fun e W' ⟨he, hb⟩ => ?_
  have hlen : ∀ {ts : List TypeId} {vs : List Value} {ds : List (DataW H)} {ps : List MemPlace}, DataW.TrodAll enc C.prog W 0 (fun _ => true) true ts vs ds ps → ds.length = ts.length := by
    intro ts
    induction ts with
    | nil => intro vs ds ps h; obtain ⟨_, rfl, _⟩ := trodAll_nil h; rfl
    | cons t ts ih => intro vs ds ps h; obtain ⟨v, vs', d, ds', p, q, _, rfl, _, _, hrest⟩ := trodAll_cons h; simp [ih hrest]
  exact ⟨_, he, law_post hl hrd hvars hr hbool (hfn ds (hlen hA)) hW0 hb⟩
end Go.Proofs.YtlbpodddokhmaaaGreat
