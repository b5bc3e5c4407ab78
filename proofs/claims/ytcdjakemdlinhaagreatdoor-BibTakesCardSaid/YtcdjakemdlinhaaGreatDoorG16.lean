/-
  Several texts in one: BibTakesT.
  Conditions: named at each.
-/
import Derived.Test.YtcdjakemdlinhaaGreatDoorG15
import Derived.Test.YtcdjakemdlinhaaGreatDoorCards
import Derived.SevenTiedAt
set_option maxHeartbeats 16000000
set_option linter.unusedSimpArgs false
set_option linter.unusedVariables false
set_option linter.unusedSectionVars false
namespace Go.Proofs.YtcdjakemdlinhaaGreatDoor.BibTakes
open Go.ChangeShapes Go.WideShapes Go.ChangeAt Go.RowKit Go.Proofs.YtcdjakemdlinhaaGreatDoor.Sx
set_option maxRecDepth 100000 in
theorem walk(W : World)(base : Nat)(d : Array Value){H : Type}{enc : TypeId × Value → H}(ds : List (DataW H))(r : List MemPlace)(E : aNx W)
  (f:∀(j:Nat) t v,Tryz.f5.params[j]? =some t→d[j]? =some v→Value.okWide Tryz.prog W .any base t v)
  (q:DataW.TrodAll enc Tryz.prog W 0 (fun _=>true) true Tryz.f5.params.toList d.toList ds r) (g:∀p∈r,p.block<W.heap.size):
  Calls Tryz.prog 5 d W fun e W'=>e=.returned (.bool true)∧Below W.heap.size W W':=by
 rw[Tryz.params5]at q f;obtain⟨v0,G,d0,I,p0,J,rfl,rfl,rfl,A,B⟩:=trodAll_two q;obtain⟨p,l,a,c,rfl,k,F,D⟩:=Sx.aF3 (f 0 29 v0 rfl rfl) A (fun p k=>g p (by simp[k]));obtain⟨x,y,rfl⟩:=Sx.aId (f 1 62 G rfl rfl) B (fun p k=>g p (by simp[k]));obtain⟨u,C⟩:=E;exact Sx.aDE u p l a c x y W (fun _ _ h=>h) C k F D
set_option maxRecDepth 100000 in
theorem aME(os:Os)(a:Array Value):laidMetH Tryz.prog aMl ((World.doorLaid Tryz.prog 400 os).forCall (fun _ _=>0) ⟨#[],a,[]⟩).memory:=
 laidMetH_of_parts3 (fuel:=8) (laidMet_of_run' 8 kR kR) kR kR
set_option maxRecDepth 100000 in
theorem lifted(os:Os)(c:os.Started)(H:Type)(enc:TypeId×Value→H):
  ReturnsInHanded {} Tryz.checked os 5 .any (fun w a=>(Rows.bibTakesSpec.pre enc Tryz.prog Tryz.f5 [] false w a∧laidMetH Tryz.prog aMl w)∧sizedMet enc Tryz.prog Tryz.f5 (OpenSpec.ofChange Rows.bibTakesSpec) false w a) (Rows.bibTakesSpec.post enc Tryz.prog Tryz.f5 false true false false):=
 aDD (C := Tryz.checked) (tb := 4) kR c kR Tryz.func5
  (ChangeSpec.witness_shaped (enc:=enc) (C:=Tryz.checked) (os:=os) (X:=fun w _=>laidMetH Tryz.prog aMl w) false (World.doorLaid Tryz.prog 400 os) #[.agg #[.int .u64 0,.int .i64 0,.int .i64 0,.string ⟨#[]⟩,.int .u64 0,.int .u64 0,.int .i64 0,.string ⟨#[]⟩,.int .u64 0,.int .u64 0,.int .i64 0,.string ⟨#[]⟩,.int .u64 0,.int .u64 0,.int .u64 0,.int .u64 0,.int .u64 0,.int .u64 0,.int .u64 0,.slice none 0 0],.agg #[.int .i64 0,.int .i64 0]] 8 rfl (World.shaped_of_RefB kR kR) kR kR kR (aME os _))
  kR kR rfl kR Tryz.underlying4 (fun ds h=>by match ds,h with| [_,_],_=>exact⟨rfl,rfl,rfl⟩)
  (fun W base a ds k j d g f=>walk W base a ds k (aKd j) d g f)
theorem aRy{a b:Bool}(c:a=true)(d:b=true):(a&&b)=true:=by rw[c,d];rfl
set_option maxHeartbeats 16000000 in
theorem closed:joinedFacts Tryz.prog 5 Tryz.f5 Rows.bibTakesSpec Rows.bibTakesRow=true:=by
 unfold joinedFacts
 repeat' (with_reducible refine aRy ?_ ?_)
 all_goals(as_aux_lemma=>kernel_rfl)
theorem over:Rows.bibTakesRow.holds Tryz.pinned (OpenSpec.ofChange Rows.bibTakesSpec):=
 OpenClaim.holds_of_wide 5 Tryz.f5 rfl rfl rfl rfl rfl rfl rfl ⟨rfl, rfl, rfl, rfl, rfl⟩ rfl rfl rfl rfl rfl kR Tryz.func5 closed
  (Bj kR) (by unfold Func.isWrapper;rw[An (Au kR)];exact⟨rfl,rfl⟩)
  (fun c a H enc _=>lifted c a H enc)
end Go.Proofs.YtcdjakemdlinhaaGreatDoor.BibTakes
