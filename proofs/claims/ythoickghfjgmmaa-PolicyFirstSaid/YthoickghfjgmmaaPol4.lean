/-
  The walk of policy.For: all choices for a bundle; and how a list of choices grows by one.
  Conditions: at most 20 rules and 20 blocks; names are no longer than the model lets them be.
-/
import Derived.Test.YthoickghfjgmmaaPol3
import Derived.Deep.AppendLies
namespace Go.Proofs.Ythoickghfjgmmaa.Pol
open Go.ChangeShapes Go.WideShapes Go.ChangeAt Go.RowKit Go.Deep Go.Great Go.Proofs.Ythoickghfjgmmaa.Eid
def ChoicesAt (w : World) (base : Nat) (v : Value) (cs : List (Int × RuleB)) : Prop := w.ownsRow base 77 18 v cs.length (cs.flatMap choiceCells)
theorem own_below {w w' : World} {base : Nat} {e : TypeId} {size : Nat} {v : Value} {n : Nat} {xs : List Value} (h : w.ownsRow base e size v n xs) (hb : Below w.heap.size w w') : w'.ownsRow base e size v n xs :=
  h.kept (row := none) ⟨hb.os, hb.tape, hb.output, hb.size, fun k hk _ => hb.block k hk⟩ (by
    cases hv : v.ownBlock with
    | none => exact .inl rfl
    | some k => exact .inr (by simp))
theorem ChoicesAt.below {w w' : World} {base : Nat} {v : Value} {cs : List (Int × RuleB)} (h : ChoicesAt w base v cs) (hb : Below w.heap.size w w') : ChoicesAt w' base v cs := own_below h hb
def zeroC : Value := .agg #[.int .i64 0, .int .i64 0, .int .i64 0, .int .i64 0, .int .i64 0, .string ⟨#[]⟩, .int .u64 0, .int .u64 0, .int .i64 0, .int .i64 0, .string ⟨#[]⟩, .int .u64 0, .int .u64 0, .int .i64 0, .int .i64 0, .int .i64 0, .int .i64 0, .int .i64 0]
set_option maxRecDepth 100000 in
theorem infoC : (Try.prog.info? 77).map (fun i => (i.zero, i.size, i.bytes)) = some (some zeroC, 18, 160) := by kernel_rfl
theorem builtC (num : Int) (r : RuleB) : Try.prog.built 77 [(0, .int .i64 num), (1, .agg r.cells.toArray)] = some (choiceCells (num, r)).toArray := by kernel_rfl
theorem builtCs (c : Int × RuleB) : Try.prog.builtSlice 77 1 [(0, .agg (choiceCells c).toArray)] = some (choiceCells c).toArray := by kernel_rfl
theorem below_grown {w0 w w' : World} {B0 : Nat} {row : Option Nat} (h : Below B0 w0 w) (hs : B0 ≤ w.heap.size) (hg : w.grownBy w' row) (hrow : ∀ k, row = some k → B0 ≤ k) : Below B0 w0 w' :=
  h.trans ⟨hg.os, hg.tape, hg.output, hg.size, fun k hk => hg.block k (by omega) (fun e => by have := hrow k e.symm; omega)⟩
/-- One choice more. -/
theorem push {ops : Array Oper} {rest : List Oper} {o1 o2 o3 : Oper} {a : Act} {w w0 : World} {Q : Exit → Act → World → Prop} (g1 : o1.guard = none) (g2 : o2.guard = none) (g3 : o3.guard = none) (d1 d2 d3 : Nat)
    (e1 : o1.dst = some d1) (e2 : o2.dst = some d2) (e3 : o3.dst = some d3) (x y s : Operand) (h1 : o1.op = .build 77 #[(0, x), (1, y)]) (h2 : o2.op = .buildSlice 73 1 #[(0, .tmp d1)])
    (h3 : o3.op = .call { callee := .builtin .append, args := #[s, .tmp d2], argTypes := #[73, 73] }) (num : Int) (r : RuleB) (v : Value) (cs : List (Int × RuleB)) (base : Nat)
    (hx : a.eval x = .int .i64 num) (hy : a.eval y = .agg r.cells.toArray) (hd1 : (a.put (some d1) (.agg (choiceCells (num, r)).toArray)).eval (.tmp d1) = .agg (choiceCells (num, r)).toArray)
    (hs : ((a.put (some d1) (.agg (choiceCells (num, r)).toArray)).put (some d2) (.slice (some ⟨w.heap.size, 0, none⟩) 1 1)).eval s = v)
    (hd2 : ((a.put (some d1) (.agg (choiceCells (num, r)).toArray)).put (some d2) (.slice (some ⟨w.heap.size, 0, none⟩) 1 1)).eval (.tmp d2) = .slice (some ⟨w.heap.size, 0, none⟩) 1 1)
    (hown : ChoicesAt w base v cs) (hbase : base ≤ w.heap.size) (hlen : cs.length ≤ 1000) (hb : Below base w0 w)
    (h : ∀ v' w', ChoicesAt w' base v' (cs ++ [(num, r)]) → Below base w0 w' → wpList Try.prog ops Q rest (((a.put (some d1) (.agg (choiceCells (num, r)).toArray)).put (some d2) (.slice (some ⟨w.heap.size, 0, none⟩) 1 1)).put (some d3) v') w') :
    wpList Try.prog ops Q (o1 :: o2 :: o3 :: rest) a w := by
  refine wpList_buildTo g1 77 _ h1 (some d1) e1 (choiceCells (num, r)).toArray (by simp only [List.map_toArray, List.map_cons, List.map_nil, hx, hy]; exact builtC num r) ?_
  refine wpList_buildSliceTo g2 73 77 1 _ h2 w.heap.size rfl (some d2) e2 Try.underlying73 (choiceCells (num, r)).toArray (by simp only [List.map_toArray, List.map_cons, List.map_nil, hd1]; exact builtCs _) ?_
  cases hq : Try.prog.info? 77 with
  | none => have := infoC; rw [hq] at this; cases this
  | some inf =>
    have hi := infoC
    rw [hq] at hi
    simp only [Option.map_some, Option.some.injEq, Prod.mk.injEq] at hi
    obtain ⟨hz1, hz2, hz3⟩ := hi
    refine wpList_append_lies _ g3 s (.tmp d2) 73 h3 base 77 inf zeroC 18 160 Try.underlying73 hq hz1 hz2 hz3 rfl (by omega) v cs.length (cs.flatMap choiceCells) hs (World.ownsRow.alloc hown _) ⟨w.heap.size, 0, none⟩ 1 1 (choiceCells (num, r)) hd2 rfl ?_ ?_ (by omega) (by simp only [maxLen]; omega) (by omega) (Nat.le_trans hbase (by show w.heap.size ≤ (w.heap.push _).size; simp)) _ rfl ?_
    · intro j u hu
      rw [Addr.add_mid, Nat.zero_add, cell_of_row _ _ _ _ _ _ (heap_alloc_last w _)]
      simpa using hu
    · intro u hu
      simp only [choiceCells, RuleB.cells, List.mem_cons, List.mem_nil_iff, or_false] at hu
      rcases hu with rfl | rfl | rfl | rfl | rfl | rfl | rfl | rfl | rfl | rfl | rfl | rfl | rfl | rfl | rfl | rfl | rfl | rfl <;> rfl
    · intro g cap w' hown' hg _ _
      rw [e3]
      refine h _ _ ?_ ?_
      · show World.ownsRow _ _ _ _ _ _ _
        rw [List.length_append, List.flatMap_append]
        simpa using hown'
      · refine below_grown (hb.alloc hbase _) (Nat.le_trans hbase (by show w.heap.size ≤ (w.heap.push _).size; simp)) hg fun k hk => ?_
        exact (World.ownsRow.lt hown k hk).1
theorem BlksAt.form {w : World} {v : Value} {bs : List BlkB} (h : BlksAt w v bs) : ∃ a c, v = .slice a bs.length c ∧ ∀ i r, bs[i]? = some r → ∃ b o, a = some ⟨b, o, none⟩ ∧ b < w.heap.size ∧ w.rangeAt b (o + i * 5) r.cells := by
  obtain ⟨⟨hm, a, c, rfl, hl, hc, hx⟩, hok⟩ := h
  refine ⟨a, c, by rw [List.length_map], fun i r hi => ?_⟩
  rcases hx with hx | ⟨b, o, rfl, hb, hx⟩
  · rw [List.map_eq_nil_iff] at hx; subst hx; simp at hi
  · refine ⟨b, o, rfl, hb, fun j u hj => ?_⟩
    have := hx i r.cells (by rw [List.getElem?_map, hi]; rfl) j u hj
    rw [Nat.add_assoc]
    exact this
theorem BlksAt.below {W w' : World} {v : Value} {bs : List BlkB} {n : Nat} (h : BlksAt W v bs) (hb : Below n W w') (hn : W.heap.size ≤ n) : BlksAt w' v bs := ⟨h.1.below hb hn, h.2⟩
def bunCells (p : PrimB) (v : Value) : List Value := p.cells ++ [v]
theorem infoB : (Try.prog.info? 79).map (·.size) = some 5 := by kernel_rfl
theorem oneB_some {rs : List RuleB} {role op typ num : Int} {p : PrimB} {r : RuleB} (h : pickB rs role op typ p = some r) : oneB rs role op typ num p = [(num, r)] := by unfold oneB; rw [h]
theorem oneB_none {rs : List RuleB} {role op typ num : Int} {p : PrimB} (h : pickB rs role op typ p = none) : oneB rs role op typ num p = [] := by unfold oneB; rw [h]
theorem oneB_len (rs : List RuleB) (role op typ num : Int) (p : PrimB) : (oneB rs role op typ num p).length ≤ 1 := by unfold oneB; split <;> simp
theorem blks_len (rs : List RuleB) (role op : Int) (p : PrimB) : ∀ bs : List BlkB, (bs.flatMap fun b => oneB rs role op b.typ b.num p).length ≤ bs.length
  | [] => by simp
  | b :: bs => by
    rw [List.flatMap_cons, List.length_append, List.length_cons]
    have := blks_len rs role op p bs
    have := oneB_len rs role op b.typ b.num p
    omega
set_option maxHeartbeats 3200000 in
set_option maxRecDepth 100000 in
theorem For_any (v bv : Value) (rs : List RuleB) (bs : List BlkB) (role op : Int) (p : PrimB) (w : World) (hv : RulesAt w v rs) (hbv : BlksAt w bv bs) (hn : rs.length ≤ 1000) (hm : bs.length ≤ 900) (hp : p.ok) :
    Calls Try.prog 38 #[v, .int .i64 role, .int .i64 op, .agg (bunCells p bv).toArray] w fun e w' => ∃ u, e = .returned u ∧ ChoicesAt w' (w.heap.size + 1) u (forB rs role op p bs) ∧ Below w.heap.size w w' := by
  have HF := Lib.hid fun (typ : Int) (W : World) (hb : RulesAt W v rs) => Pick_any v rs role op typ p W hb hn hp
  have HV := Lib.hid hv
  have HBV := Lib.hid hbv
  clear hv hbv hn hp
  obtain ⟨C, hC⟩ : ∃ C, (bunCells p bv).toArray = C := ⟨_, rfl⟩
  have hCl : C.toList = p.cells ++ [bv] := by rw [← hC]; rfl
  have HCl := Lib.hid hCl
  have hCs : C.size = 20 := by rw [← hC]; rfl
  rw [hC]
  clear hC hCl
  obtain ⟨w1, hw1⟩ : ∃ w1, w.alloc (.cells C 62) = w1 := ⟨_, rfl⟩
  have gB : w1.heap[w.heap.size]? = some (.cells C 62 (0, 0)) := by rw [← hw1]; exact heap_alloc_last w _
  have gS : w1.heap.size = w.heap.size + 1 := by rw [← hw1]; show (w.heap.push _).size = _; simp
  have gb : Below w.heap.size w w1 := by rw [← hw1]; exact (Below.refl _ _).alloc (Nat.le_refl _) _
  have gP : w1.rangeAt w.heap.size 0 p.cells := fun j u hj => by
    rw [Nat.zero_add, cell_of_row _ _ _ _ _ _ gB, ← Array.getElem?_toList, HCl.out, List.getElem?_append_left (List.getElem?_eq_some_iff.1 hj).1]
    exact hj
  have gV : w1.cell? ⟨w.heap.size, 19, none⟩ = some bv := by
    rw [cell_of_row _ _ _ _ _ _ gB, ← Array.getElem?_toList, HCl.out]
    rfl
  have HV1 := Lib.hid (HV.out.below gb (Nat.le_refl _))
  have HBV1 := Lib.hid (HBV.out.below gb (Nat.le_refl _))
  have GP := Lib.hid gP
  have GV := Lib.hid gV
  have GB := Lib.hid gb
  clear HV HBV gB gb gP gV
  go_enter Try.func38, Try.ntmps38
  go_upto_region 1 with fail
  clear hw1
  go_wp2_with (with_reducible refine stop_load 59 rfl ?_)
  refine load_mid 59 (.tmp 20) rfl rfl (some 21) rfl w.heap.size 0 rfl p.cells.toArray GP.out _ Try.underlying59 rfl infoP ?_
  go_wp2_with fail
  refine (HF.out 0 _ HV1.out).mono ?_
  rintro e w2 ⟨rfl, hb2⟩
  obtain ⟨f, hf⟩ : ∃ f, pickB rs role op 0 p = f := ⟨_, rfl⟩
  rw [hf]
  obtain ⟨R, k, hR, hRs, hR1⟩ := pickV_form f
  have hk1 : k = true → ∃ r : RuleB, f = some r ∧ R = r.cells.toArray := by
    intro hk
    subst hk
    cases f with
    | none => simp [pickV] at hR
    | some r => simp only [pickV, Value.tuple.injEq] at hR; exact ⟨r, rfl, by simpa using hR.symm⟩
  have hk0 : k = false → f = none := by
    intro hk
    subst hk
    cases f with
    | none => rfl
    | some r => simp [pickV] at hR
  rw [hR]
  have HR17 := Lib.hid hRs
  have HR1 := Lib.hid hR1
  have HK1 := Lib.hid hk1
  have HK0 := Lib.hid hk0
  have HFF := Lib.hid hf
  have hsz2 := hb2.size
  have G2 := Lib.hid hb2
  clear hR hRs hR1 hk1 hk0 hf hb2
  go_wp2_with (with_reducible refine stop_store 68 rfl ?_)
  refine store_row 68 (.tmp 10) (.tmp 23) rfl rfl rfl w2.heap.size R rfl rfl 68 zeroR.cells.toArray (heap_alloc_last w2 _) (by rw [HR17.out]; exact infoR) (by rw [HR17.out]; rfl) HR1.out ?_
  rw [World.setRow_alloc_new]
  have hb3 : Below (w.heap.size + 1) w1 (w2.alloc (.cells R 68)) := by
    have h8 : Below w1.heap.size w1 w2 := G2.out
    rw [gS] at h8
    exact h8.alloc (by omega) _
  have hgr : (w2.alloc (.cells R 68)).heap[w2.heap.size]? = some (.cells R 68 (0, 0)) := heap_alloc_last w2 _
  have hsz3 : w.heap.size + 1 ≤ (w2.alloc (.cells R 68)).heap.size := by have : w2.heap.size < (w2.alloc (.cells R 68)).heap.size := lt_of_last; omega
  have H3 := Lib.hid hb3
  have HGR := Lib.hid hgr
  clear hb3 hgr G2
  generalize w2.alloc (.cells R 68) = w3 at *
  generalize w2.heap.size = m at *
  go_upto_if 25 with fail
  go_cut [9] from 10 (fun s9 wc => Hid (ChoicesAt wc (w.heap.size + 1) s9 (oneB rs role op 0 0 p)) ∧ Hid (Below (w.heap.size + 1) w1 wc) ∧ w.heap.size + 1 ≤ wc.heap.size)
  case first =>
    by_cases hk : k = true
    · obtain ⟨r, hfr, rfl⟩ := HK1.out hk
      subst hk
      go_wp2_with (with_reducible refine stop_load 68 rfl ?_)
      refine load_mid 68 (.tmp 10) rfl rfl (some 27) rfl m 0 rfl r.cells.toArray (rangeAt_row HGR.out) _ Try.underlying68 rfl infoR ?_
      refine push rfl rfl rfl 28 29 30 rfl rfl rfl (.const (.int .i64 0)) (.tmp 27) (.tmp 26) rfl rfl rfl 0 r (.slice none 0 0) [] (w.heap.size + 1) rfl rfl rfl rfl rfl (World.ownsRow_nil _ _ _ _) hsz3 (by simp) H3.out ?_
      intro v' w4 hc4 hb4
      have hc5 : ChoicesAt w4 (w.heap.size + 1) v' (oneB rs role op 0 0 p) := by rw [oneB_some (HFF.out.trans hfr)]; exact hc4
      have hs4 := hb4.size
      have HC5 := Lib.hid hc5
      have HB4 := Lib.hid hb4
      clear hc4 hb4 hc5
      go_wp2
      go_meet
      case rel => exact ⟨HC5, HB4, by omega⟩
    · have hk2 : k = false := by cases k <;> simp_all
      have hfr := HK0.out hk2
      subst hk2
      have hc5 : ChoicesAt w3 (w.heap.size + 1) (.slice none 0 0) (oneB rs role op 0 0 p) := by rw [oneB_none (HFF.out.trans hfr)]; exact World.ownsRow_nil _ _ _ _
      have HC5 := Lib.hid hc5
      clear hc5 hk
      go_wp2
      go_meet
      case rel => exact ⟨HC5, H3, by omega⟩
  case rest =>
    obtain ⟨hch, hbc, hszc⟩ := hcut
    clear HGR H3 hsz3 HK1 HK0 HFF HR17 HR1
    have gVc : wc.cell? ⟨w.heap.size, 19, none⟩ = some bv := by rw [hbc.out.cell (p := ⟨w.heap.size, 19, none⟩) (by show w.heap.size < _; omega)]; exact GV.out
    obtain ⟨ba, bc, hbf, hbx⟩ := HBV1.out.form
    obtain ⟨n, hnb⟩ : ∃ n, bs.length = n := ⟨_, rfl⟩
    rw [hnb] at hbf hm
    subst hbf
    have HBX := Lib.hid hbx
    have HNB := Lib.hid hnb
    clear hbx hnb
    go_wp2_with fail
    clear gVc
    go_loopw [9, 34] (fun s9 s34 wr => ∃ i : Nat, i ≤ n ∧ s34 = .int .i64 (i : Int) ∧ Hid (ChoicesAt wr (w.heap.size + 1) s9 (oneB rs role op 0 0 p ++ (bs.take i).flatMap fun b => oneB rs role op b.typ b.num p)) ∧ Hid (Below (w.heap.size + 1) w1 wr) ∧ w.heap.size + 1 ≤ wr.heap.size) (fun _ s _ => n - (intOf s).toNat)
    case atStart => exact ⟨0, by omega, rfl, Lib.hid (by simpa using hch.out), hbc, hszc⟩
    case round =>
      obtain ⟨i, hi, rfl, hcr, hbr, hszr⟩ := hrel
      by_cases hend : i = n
      · have hlt : ¬ (i : Int) < (n : Int) := by omega
        have hfin := hcr.out
        rw [hend, ← HNB.out, List.take_length] at hfin
        have HFIN := Lib.hid hfin
        clear hend hfin hcr
        go_wp2
        go_ret
        exact ⟨_, rfl, HFIN.out, GB.out.trans (hbr.out.mono (by omega))⟩
      · have hlt : (i : Int) < (n : Int) := by omega
        obtain ⟨blk, hbk⟩ : ∃ blk, bs[i]? = some blk := ⟨bs[i]'(by rw [HNB.out]; omega), List.getElem?_eq_getElem (by rw [HNB.out]; omega)⟩
        obtain ⟨b, o, rfl, hbw, hra⟩ := HBX.out i blk hbk
        rw [gS] at hbw
        have HRa := Lib.hid (rangeAt_below hra hbr.out hbw)
        have hnx : (bs.take (i + 1)).flatMap (fun b => oneB rs role op b.typ b.num p) = (bs.take i).flatMap (fun b => oneB rs role op b.typ b.num p) ++ oneB rs role op blk.typ blk.num p := by
          rw [List.take_add_one, hbk, List.flatMap_append]
          simp
        have HNX := Lib.hid hnx
        have hcl : (oneB rs role op 0 0 p ++ (bs.take i).flatMap fun b => oneB rs role op b.typ b.num p).length ≤ 1000 := by
          rw [List.length_append]
          have h1 := oneB_len rs role op 0 0 p
          have h2 := blks_len rs role op p (bs.take i)
          rw [List.length_take] at h2
          omega
        have HCL := Lib.hid hcl
        clear hend hra hnx hcl hbk
        go_wp2_with (with_reducible refine stop_load 79 rfl ?_)
        refine load_mid 79 (.tmp 36) rfl rfl (some 37) rfl b (o + i * 5) rfl blk.cells.toArray HRa.out _ Try.underlying79 rfl infoB ?_
        go_wp2_with (with_reducible refine stop_store 79 rfl ?_)
        refine store_row 79 (.tmp 13) (.tmp 37) rfl rfl rfl wr.heap.size blk.cells.toArray rfl rfl 79 #[.int .i64 0, .int .i64 0, .int .u64 0, .int .i64 0, .string ⟨#[]⟩] (heap_alloc_last wr _) infoB rfl (by simp [BlkB.cells, Value.oneCell']) ?_
        rw [World.setRow_alloc_new]
        have k1 : Below (w.heap.size + 1) w1 (wr.alloc (.cells blk.cells.toArray 79)) := hbr.out.alloc hszr _
        have k2 : ChoicesAt (wr.alloc (.cells blk.cells.toArray 79)) (w.heap.size + 1) u9 (oneB rs role op 0 0 p ++ (bs.take i).flatMap fun b => oneB rs role op b.typ b.num p) := World.ownsRow.alloc hcr.out _
        have k3 : (wr.alloc (.cells blk.cells.toArray 79)).heap[wr.heap.size]? = some (.cells blk.cells.toArray 79 (0, 0)) := heap_alloc_last wr _
        have k4 : wr.heap.size < (wr.alloc (.cells blk.cells.toArray 79)).heap.size := lt_of_last
        have K1 := Lib.hid k1
        have K2 := Lib.hid k2
        have k5 : (wr.alloc (.cells blk.cells.toArray 79)).cell? ⟨wr.heap.size, 0, none⟩ = some (.int .i64 blk.typ) := by rw [cell_of_row _ _ _ _ _ _ k3]; rfl
        have K3 := Lib.hid k3
        clear k1 k2 k3 hcr hbr
        generalize wr.alloc (.cells blk.cells.toArray 79) = W4 at *
        generalize wr.heap.size = m2 at *
        go_wp2_with (with_reducible refine stop_load 59 rfl ?_)
        refine load_mid 59 (.tmp 42) rfl rfl (some 43) rfl w.heap.size 0 rfl p.cells.toArray (rangeAt_below GP.out K1.out (Nat.lt_succ_self _)) _ Try.underlying59 rfl infoP ?_
        go_wp2_with fail
        refine (HF.out blk.typ _ (HV1.out.below K1.out (by omega))).mono ?_
        rintro e w5 ⟨rfl, hb5⟩
        have hsz5 := hb5.size
        have K1' := Lib.hid (K1.out.trans (hb5.mono (by omega)))
        have K2' := Lib.hid (K2.out.below hb5)
        have k6 : w5.cell? ⟨m2, 1, none⟩ = some (.int .i64 blk.num) := by
          rw [hb5.cell (p := ⟨m2, 1, none⟩) k4, cell_of_row _ _ _ _ _ _ K3.out]; rfl
        have K6 := Lib.hid k6
        clear K1 K2 K3 k5 k6 hb5
        cases hpk : pickB rs role op blk.typ p with
        | none =>
          simp only [pickV]
          have hone : oneB rs role op blk.typ blk.num p = [] := oneB_none hpk
          rw [hone, List.append_nil] at HNX
          have HH := Lib.hid HNX.out
          have j1 := Lib.hid (K1'.out.alloc (by omega) (.cells zeroR.cells.toArray 68))
          have j2 := Lib.hid (World.ownsRow.alloc K2'.out (.cells zeroR.cells.toArray 68))
          have j3 : w5.heap.size < (w5.alloc (.cells zeroR.cells.toArray 68)).heap.size := lt_of_last
          clear hpk hone HNX
          go_wp2_with (with_reducible refine stop_store 68 rfl ?_)
          refine store_row 68 (.tmp 14) (.tmp 47) rfl rfl rfl w5.heap.size zeroR.cells.toArray rfl rfl 68 zeroR.cells.toArray (heap_alloc_last w5 _) infoR rfl (oneR _) ?_
          rw [World.setRow_alloc_new]
          generalize w5.alloc (.cells zeroR.cells.toArray 68) = w6 at *
          go_wp2
          go_round
          case rel => exact ⟨i + 1, by omega, by go_num, Lib.hid (by rw [HH.out]; exact j2.out), j1, by omega⟩
          case measure => simp [intOf]; omega
        | some r =>
          simp only [pickV]
          have hone : oneB rs role op blk.typ blk.num p = [(blk.num, r)] := oneB_some hpk
          rw [hone] at HNX
          have HH := Lib.hid HNX.out
          have j1 := Lib.hid (K1'.out.alloc (by omega) (.cells r.cells.toArray 68))
          have j2 := Lib.hid (World.ownsRow.alloc K2'.out (.cells r.cells.toArray 68))
          have j3 : w5.heap.size < (w5.alloc (.cells r.cells.toArray 68)).heap.size := lt_of_last
          have j4 := Lib.hid (heap_alloc_last w5 (.cells r.cells.toArray 68))
          have hm5 : m2 < w5.heap.size := by omega
          have j5 : (w5.alloc (.cells r.cells.toArray 68)).cell? ⟨m2, 1, none⟩ = some (.int .i64 blk.num) := by rw [World.cell?_alloc_lt _ _ _ hm5]; exact K6.out
          clear hpk hone HNX K6
          go_wp2_with (with_reducible refine stop_store 68 rfl ?_)
          refine store_row 68 (.tmp 14) (.tmp 47) rfl rfl rfl w5.heap.size r.cells.toArray rfl rfl 68 zeroR.cells.toArray (heap_alloc_last w5 _) infoR rfl (oneR _) ?_
          rw [World.setRow_alloc_new]
          generalize w5.alloc (.cells r.cells.toArray 68) = w6 at *
          generalize w5.heap.size = m3 at *
          go_wp2_with (with_reducible refine stop_load 68 rfl ?_)
          refine load_mid 68 (.tmp 14) rfl rfl (some 53) rfl m3 0 rfl r.cells.toArray (rangeAt_row j4.out) _ Try.underlying68 rfl infoR ?_
          refine push rfl rfl rfl 54 55 56 rfl rfl rfl (.tmp 52) (.tmp 53) (.tmp 50) rfl rfl rfl blk.num r u9 _ (w.heap.size + 1) rfl rfl rfl rfl rfl j2.out (by omega) HCL.out j1.out ?_
          intro v' w7 hc7 hb7
          have hs7 := hb7.size
          have q1 : ChoicesAt w7 (w.heap.size + 1) v' (oneB rs role op 0 0 p ++ (bs.take (i + 1)).flatMap fun b => oneB rs role op b.typ b.num p) := by rw [HH.out, ← List.append_assoc]; exact hc7
          have Q1 := Lib.hid q1
          have Q2 := Lib.hid hb7
          clear hc7 hb7 q1 j1 j2 j4 j5
          go_wp2
          go_round
          case rel => exact ⟨i + 1, by omega, by go_num, Q1, Q2, by omega⟩
          case measure => simp [intOf]; omega
end Go.Proofs.Ythoickghfjgmmaa.Pol
