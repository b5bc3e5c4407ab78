/-
  Rules, primaries and blocks as data; which rule is the answer to a question; the choices for a bundle; how they come in as arguments.
  Conditions: none.
-/
import Derived.Test.YthoickghfjgmmaaSlc
import Derived.Test.YthoickghfjgmmaaEid3
namespace Go.Proofs.Ythoickghfjgmmaa.Pol
open Go.ChangeShapes Go.WideShapes Go.ChangeAt Go.RowKit Go.Proofs.Ythoickghfjgmmaa.Eid
structure RuleB where
  role : Int
  op : Int
  sk : Int
  ss : Int
  sl : List UInt8
  sn : Int
  sv : Int
  dk : Int
  ds : Int
  dl : List UInt8
  dn : Int
  dv : Int
  typ : Int
  key : Int
  vrt : Int
  scp : Int
  fl : Int
def RuleB.cells (r : RuleB) : List Value := [.int .i64 r.role, .int .i64 r.op, .int .i64 r.sk, .int .i64 r.ss, .string (B r.sl), .int .u64 r.sn, .int .u64 r.sv, .int .i64 r.dk, .int .i64 r.ds, .string (B r.dl), .int .u64 r.dn, .int .u64 r.dv, .int .i64 r.typ, .int .i64 r.key, .int .i64 r.vrt, .int .i64 r.scp, .int .i64 r.fl]
def RuleB.ok (r : RuleB) : Prop := r.sl.length ≤ maxLen ∧ r.dl.length ≤ maxLen ∧ (Lit.int .i64 r.role).wf = true
def zeroR : RuleB := ⟨0, 0, 0, 0, [], 0, 0, 0, 0, [], 0, 0, 0, 0, 0, 0, 0⟩
structure PrimB where
  flags : Int
  crc : Int
  ds : Int
  dl : List UInt8
  dn : Int
  dv : Int
  ss : Int
  sl : List UInt8
  sn : Int
  sv : Int
  rs : Int
  rl : List UInt8
  rn : Int
  rv : Int
  time : Int
  sq : Int
  life : Int
  off : Int
  total : Int
def PrimB.cells (p : PrimB) : List Value := [.int .u64 p.flags, .int .i64 p.crc, .int .i64 p.ds, .string (B p.dl), .int .u64 p.dn, .int .u64 p.dv, .int .i64 p.ss, .string (B p.sl), .int .u64 p.sn, .int .u64 p.sv, .int .i64 p.rs, .string (B p.rl), .int .u64 p.rn, .int .u64 p.rv, .int .u64 p.time, .int .u64 p.sq, .int .u64 p.life, .int .u64 p.off, .int .u64 p.total]
def PrimB.ok (p : PrimB) : Prop := p.dl.length ≤ maxLen ∧ p.sl.length ≤ maxLen ∧ p.rl.length ≤ maxLen
structure BlkB where
  typ : Int
  num : Int
  flags : Int
  crc : Int
  data : List UInt8
def BlkB.cells (b : BlkB) : List Value := [.int .i64 b.typ, .int .i64 b.num, .int .u64 b.flags, .int .i64 b.crc, .string (B b.data)]
def BlkB.ok (b : BlkB) : Prop := b.data.length ≤ maxLen
def fitsB (r : RuleB) (role op typ : Int) (p : PrimB) : Bool :=
  decide (r.role = role) && decide (r.op = op) && decide (r.typ = typ) && matchB r.sk r.ss r.sl r.sn r.sv p.ss p.sl p.sn p.sv && matchB r.dk r.ds r.dl r.dn r.dv p.ds p.dl p.dn p.dv
def pickB (rs : List RuleB) (role op typ : Int) (p : PrimB) : Option RuleB := rs.find? fun r => fitsB r role op typ p
def pickV : Option RuleB → Value
  | some r => .tuple #[.agg r.cells.toArray, .bool true]
  | none => .tuple #[.agg zeroR.cells.toArray, .bool false]
/-- The choice for one block. -/
def oneB (rs : List RuleB) (role op typ num : Int) (p : PrimB) : List (Int × RuleB) := match pickB rs role op typ p with | some r => [(num, r)] | none => []
def forB (rs : List RuleB) (role op : Int) (p : PrimB) (bs : List BlkB) : List (Int × RuleB) := oneB rs role op 0 0 p ++ bs.flatMap fun b => oneB rs role op b.typ b.num p
def choiceCells (c : Int × RuleB) : List Value := .int .i64 c.1 :: c.2.cells

theorem all_map {α : Type} {f : α → List Value} {ok : α → Prop} : ∀ {css : List (List Value)}, (∀ cs ∈ css, ∃ r, cs = f r ∧ ok r) → ∃ rs : List α, css = rs.map f ∧ ∀ r ∈ rs, ok r
  | [], _ => ⟨[], rfl, fun r h => by cases h⟩
  | cs :: css, h => by
    obtain ⟨r, hr, hok⟩ := h cs (List.mem_cons_self ..)
    obtain ⟨rs, hrs, hoks⟩ := all_map (css := css) fun c hc => h c (List.mem_cons_of_mem _ hc)
    refine ⟨r :: rs, by rw [hr, hrs]; rfl, fun x hx => ?_⟩
    rcases List.mem_cons.1 hx with rfl | hx
    · exact hok
    · exact hoks x hx
section
variable {H : Type} {enc : TypeId × Value → H} {W : World} {base : Nat} {v0 : Value} {d0 : DataW H} {p0 : List MemPlace}
def ruleT : List TypeId := [3, 3, 3, 3, 9, 28, 28, 3, 3, 9, 28, 28, 3, 3, 3, 3, 3]
def primT : List TypeId := [28, 3, 3, 9, 28, 28, 3, 9, 28, 28, 3, 9, 28, 28, 28, 28, 28, 28, 28]
def blkT : List TypeId := [3, 3, 28, 3, 9]
theorem rule_of {cs : List Value} (h : All2 (LeafOk enc Try.prog W) ruleT cs) : ∃ r : RuleB, cs = r.cells ∧ r.ok := by
  obtain ⟨c0, _, rfl, h0, c1, _, rfl, h1, c2, _, rfl, h2, c3, _, rfl, h3, c4, _, rfl, h4, c5, _, rfl, h5, c6, _, rfl, h6, c7, _, rfl, h7, c8, _, rfl, h8, c9, _, rfl, h9, c10, _, rfl, h10, c11, _, rfl, h11, c12, _, rfl, h12, c13, _, rfl, h13, c14, _, rfl, h14, c15, _, rfl, h15, c16, _, rfl, h16, rfl⟩ := h
  obtain ⟨x0, rfl, hw⟩ := h0.int Try.underlying3
  obtain ⟨x1, rfl, _⟩ := h1.int Try.underlying3
  obtain ⟨x2, rfl, _⟩ := h2.int Try.underlying3
  obtain ⟨x3, rfl, _⟩ := h3.int Try.underlying3
  obtain ⟨x4, rfl, hs⟩ := h4.str Try.underlying9
  obtain ⟨x5, rfl, _⟩ := h5.int Try.underlying28
  obtain ⟨x6, rfl, _⟩ := h6.int Try.underlying28
  obtain ⟨x7, rfl, _⟩ := h7.int Try.underlying3
  obtain ⟨x8, rfl, _⟩ := h8.int Try.underlying3
  obtain ⟨x9, rfl, hd⟩ := h9.str Try.underlying9
  obtain ⟨x10, rfl, _⟩ := h10.int Try.underlying28
  obtain ⟨x11, rfl, _⟩ := h11.int Try.underlying28
  obtain ⟨x12, rfl, _⟩ := h12.int Try.underlying3
  obtain ⟨x13, rfl, _⟩ := h13.int Try.underlying3
  obtain ⟨x14, rfl, _⟩ := h14.int Try.underlying3
  obtain ⟨x15, rfl, _⟩ := h15.int Try.underlying3
  obtain ⟨x16, rfl, _⟩ := h16.int Try.underlying3
  exact ⟨⟨x0, x1, x2, x3, x4, x5, x6, x7, x8, x9, x10, x11, x12, x13, x14, x15, x16⟩, rfl, hs, hd, hw⟩
theorem prim_of {cs : List Value} (h : All2 (LeafOk enc Try.prog W) primT cs) : ∃ r : PrimB, cs = r.cells ∧ r.ok := by
  obtain ⟨c0, _, rfl, h0, c1, _, rfl, h1, c2, _, rfl, h2, c3, _, rfl, h3, c4, _, rfl, h4, c5, _, rfl, h5, c6, _, rfl, h6, c7, _, rfl, h7, c8, _, rfl, h8, c9, _, rfl, h9, c10, _, rfl, h10, c11, _, rfl, h11, c12, _, rfl, h12, c13, _, rfl, h13, c14, _, rfl, h14, c15, _, rfl, h15, c16, _, rfl, h16, c17, _, rfl, h17, c18, _, rfl, h18, rfl⟩ := h
  obtain ⟨x0, rfl, _⟩ := h0.int Try.underlying28
  obtain ⟨x1, rfl, _⟩ := h1.int Try.underlying3
  obtain ⟨x2, rfl, _⟩ := h2.int Try.underlying3
  obtain ⟨x3, rfl, hd⟩ := h3.str Try.underlying9
  obtain ⟨x4, rfl, _⟩ := h4.int Try.underlying28
  obtain ⟨x5, rfl, _⟩ := h5.int Try.underlying28
  obtain ⟨x6, rfl, _⟩ := h6.int Try.underlying3
  obtain ⟨x7, rfl, hs⟩ := h7.str Try.underlying9
  obtain ⟨x8, rfl, _⟩ := h8.int Try.underlying28
  obtain ⟨x9, rfl, _⟩ := h9.int Try.underlying28
  obtain ⟨x10, rfl, _⟩ := h10.int Try.underlying3
  obtain ⟨x11, rfl, hr⟩ := h11.str Try.underlying9
  obtain ⟨x12, rfl, _⟩ := h12.int Try.underlying28
  obtain ⟨x13, rfl, _⟩ := h13.int Try.underlying28
  obtain ⟨x14, rfl, _⟩ := h14.int Try.underlying28
  obtain ⟨x15, rfl, _⟩ := h15.int Try.underlying28
  obtain ⟨x16, rfl, _⟩ := h16.int Try.underlying28
  obtain ⟨x17, rfl, _⟩ := h17.int Try.underlying28
  obtain ⟨x18, rfl, _⟩ := h18.int Try.underlying28
  exact ⟨⟨x0, x1, x2, x3, x4, x5, x6, x7, x8, x9, x10, x11, x12, x13, x14, x15, x16, x17, x18⟩, rfl, hd, hs, hr⟩
theorem blk_of {cs : List Value} (h : All2 (LeafOk enc Try.prog W) blkT cs) : ∃ r : BlkB, cs = r.cells ∧ r.ok := by
  obtain ⟨c0, _, rfl, h0, c1, _, rfl, h1, c2, _, rfl, h2, c3, _, rfl, h3, c4, _, rfl, h4, rfl⟩ := h
  obtain ⟨x0, rfl, _⟩ := h0.int Try.underlying3
  obtain ⟨x1, rfl, _⟩ := h1.int Try.underlying3
  obtain ⟨x2, rfl, _⟩ := h2.int Try.underlying28
  obtain ⟨x3, rfl, _⟩ := h3.int Try.underlying3
  obtain ⟨x4, rfl, hs⟩ := h4.str Try.underlying9
  exact ⟨⟨x0, x1, x2, x3, x4⟩, rfl, hs⟩
def RulesAt (w : World) (v : Value) (rs : List RuleB) : Prop := RowsAt w v 17 (rs.map RuleB.cells) ∧ ∀ r ∈ rs, r.ok
def BlksAt (w : World) (v : Value) (bs : List BlkB) : Prop := RowsAt w v 5 (bs.map BlkB.cells) ∧ ∀ b ∈ bs, b.ok
set_option maxRecDepth 100000 in
/-- Rules that came in. -/
theorem open_rules (hv : Value.okWide Try.prog W .any base 56 v0)
    (hr : DataW.Trod enc Try.prog W 0 (fun _ => true) true 56 v0 d0 p0) (hlt : ∀ p ∈ p0, p.block < W.heap.size) : ∃ rs, RulesAt W v0 rs := by
  obtain ⟨css, hat, hall⟩ := open_rows ruleT hv hr hlt Try.underlying56 (by kernel_rfl) (by kernel_rfl) (by decide)
  obtain ⟨rs, rfl, hok⟩ := all_map fun cs hcs => rule_of (hall cs hcs)
  exact ⟨rs, hat, hok⟩
set_option maxRecDepth 100000 in
/-- Of a slice in a bundle: the blocks. -/
theorem blks_of {v : Value} (h : LeafOk enc Try.prog W 60 v) : ∃ bs, BlksAt W v bs := by
  obtain ⟨n, z, hz, hlt⟩ := h
  obtain ⟨css, hat, hall⟩ := rows_of blkT hz hlt Try.underlying60 (by kernel_rfl) (by kernel_rfl) (by decide)
  obtain ⟨bs, rfl, hok⟩ := all_map fun cs hcs => blk_of (hall cs hcs)
  exact ⟨bs, hat, hok⟩
theorem all2_append {α β : Type} {R : α → β → Prop} : ∀ {us vs : List α} {cs : List β}, All2 R (us ++ vs) cs → ∃ cs1 cs2, cs = cs1 ++ cs2 ∧ All2 R us cs1 ∧ All2 R vs cs2
  | [], vs, cs, h => ⟨[], cs, rfl, rfl, h⟩
  | u :: us, vs, cs, ⟨c, r, e, hr, ht⟩ => by
    obtain ⟨c1, c2, rfl, h1, h2⟩ := all2_append ht
    exact ⟨c :: c1, c2, by rw [e]; rfl, ⟨c, c1, rfl, hr, h1⟩, h2⟩
set_option maxRecDepth 100000 in
/-- A bundle that came in. -/
theorem open_bundle (hv : Value.okWide Try.prog W .any base 62 v0)
    (hr : DataW.Trod enc Try.prog W 0 (fun _ => true) true 62 v0 d0 p0) (hlt : ∀ p ∈ p0, p.block < W.heap.size) :
    ∃ (p : PrimB) (bs : List BlkB) (v : Value), v0 = .agg (p.cells ++ [v]).toArray ∧ p.ok ∧ BlksAt W v bs := by
  obtain ⟨cs, rfl, h⟩ := open_flat (primT ++ [60]) hv hr hlt (by kernel_rfl) (by kernel_rfl) (by kernel_rfl)
  obtain ⟨c1, c2, rfl, h1, v, _, rfl, h2, rfl⟩ := all2_append h
  obtain ⟨p, rfl, hp⟩ := prim_of h1
  obtain ⟨bs, hbs⟩ := blks_of h2
  exact ⟨p, bs, v, rfl, hp, hbs⟩
end
end Go.Proofs.Ythoickghfjgmmaa.Pol
