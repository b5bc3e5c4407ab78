/-
  Several texts in one: PipeStripsT.
  Conditions: named at each.
-/
import Derived.Test.YtkoamlfiijcecaaGreatDoorG18
import Derived.Test.YtkoamlfiijcecaaGreatDoorCards
import Derived.SevenTiedAt
set_option maxHeartbeats 16000000
set_option linter.unusedSimpArgs false
set_option linter.unusedVariables false
set_option linter.unusedSectionVars false
namespace Go.Proofs.YtkoamlfiijcecaaGreatDoor.PipeStrips
open Go.ChangeShapes Go.WideShapes Go.ChangeAt Go.RowKit Go.Proofs.YtkoamlfiijcecaaGreatDoor.Sx
set_option maxRecDepth 100000 in
theorem walk(W : World)(base : Nat)(d : Array Value){H : Type}{enc : TypeId × Value -> H}(ds : List (DataW H))(u : List MemPlace)(F : Li W)
  (f:∀(j:Nat) t v,Tryz.f3.params[j]? =some t->d[j]? =some v->Value.okWide Tryz.prog W .any base t v)
  (r:DataW.TrodAll enc Tryz.prog W 0 (λ_=>true) true Tryz.f3.params.toList d.toList ds u) (g:∀p∈u,p.block<W.heap.size):
  Calls Tryz.prog 3 d W λe W'=>e=.returned (.bool true)/\Below W.heap.size W W':=by
 rw[Tryz.params3]at r f;obtain⟨v0,I,d0,J,p0,K,rfl,rfl,rfl,B,C⟩:=trodAll_two r;obtain⟨p,l,a,c,rfl,k,G,E⟩:=Sx.SY (f 0 29 v0 rfl rfl) B (λp k=>g p (by simp[k]));obtain⟨x,rfl,_⟩:=open_int Tryz.underlying3 (f 1 3 I rfl rfl) C (λp k=>g p (by simp[k]));obtain⟨A,D⟩:=F;exact Sx.GC A p l a c x W (λ_ _ h=>h) D k G E
set_option maxRecDepth 100000 in
theorem Nu(os:Os)(a:Array Value):laidMetH Tryz.prog Ov ((World.doorLaid Tryz.prog 400 os).forCall (λ_ _=>0) ⟨#[],a,[]⟩).memory:=
 laidMetH_of_parts3 (fuel:=8) (laidMet_of_run' 8 kR kR) kR kR
set_option maxRecDepth 100000 in
theorem lifted(os:Os)(d:os.Started)(H:Type)(enc:TypeId×Value->H):
  ReturnsInHanded {} Tryz.checked os 3 .any (λw a=>(Rows.pipeStripsSpec.pre enc Tryz.prog Tryz.f3 [] false w a/\laidMetH Tryz.prog Ov w)/\sizedMet enc Tryz.prog Tryz.f3 (OpenSpec.ofChange Rows.pipeStripsSpec) false w a) (Rows.pipeStripsSpec.post enc Tryz.prog Tryz.f3 false true false false):=
 MH (C := Tryz.checked) (tb := 4) kR d kR Tryz.func3
  (ChangeSpec.witness_shaped (enc:=enc) (C:=Tryz.checked) (os:=os) (X:=λw _=>laidMetH Tryz.prog Ov w) false (World.doorLaid Tryz.prog 400 os) #[.agg #[.int .u64 0,.int .i64 0,.int .i64 0,.string ⟨#[]⟩,.int .u64 0,.int .u64 0,.int .i64 0,.string ⟨#[]⟩,.int .u64 0,.int .u64 0,.int .i64 0,.string ⟨#[]⟩,.int .u64 0,.int .u64 0,.int .u64 0,.int .u64 0,.int .u64 0,.int .u64 0,.int .u64 0,.slice none 0 0],.int .i64 0] 8 rfl (World.shaped_of_RefB kR kR) kR kR kR (Nu os _))
  kR kR rfl kR Tryz.underlying4 (λds h=>by match ds,h with| [_,_],_=>exact⟨rfl,rfl,rfl⟩)
  (λW base a ds r k f j g=>walk W base a ds r (Vs k) f j g)
theorem An{a b:Bool}(d:a=true)(f:b=true):(a&&b)=true:=by rw[d,f];rfl
set_option maxHeartbeats 16000000 in
theorem closed:joinedFacts Tryz.prog 3 Tryz.f3 Rows.pipeStripsSpec Rows.pipeStripsRow=true:=by
 unfold joinedFacts
 repeat' (with_reducible refine An ?_ ?_)
 all_goals(as_aux_lemma=>kernel_rfl)
theorem over:Rows.pipeStripsRow.holds Tryz.pinned (OpenSpec.ofChange Rows.pipeStripsSpec):=
 OpenClaim.holds_of_wide 3 Tryz.f3 rfl rfl rfl rfl rfl rfl rfl ⟨rfl, rfl, rfl, rfl, rfl⟩ rfl rfl rfl rfl rfl kR Tryz.func3 closed
  (P2 kR) (by unfold Func.isWrapper;rw[M5 (O5 kR)];exact⟨rfl,rfl⟩)
  (λd a H enc _=>lifted d a H enc)
end Go.Proofs.YtkoamlfiijcecaaGreatDoor.PipeStrips
