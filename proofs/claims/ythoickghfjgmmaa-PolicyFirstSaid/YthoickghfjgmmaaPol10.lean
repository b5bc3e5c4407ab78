/-
  The law PolicyTargets: the plain law, and its walk.
  Conditions: none.
-/
import Derived.Test.YthoickghfjgmmaaPol9
import Derived.BigQuiet
namespace Go.Proofs.Ythoickghfjgmmaa.Pol
open Go.ChangeShapes Go.WideShapes Go.ChangeAt Go.RowKit Go.Deep Go.Great Go.Proofs.Ythoickghfjgmmaa.Eid
theorem drewN_below {B : Nat} {a w : World} (h : Below B a w) (n : Nat) : Below B a (w.drewN n) := h.trans ⟨rfl, rfl, rfl, Nat.le_refl _, fun _ _ => rfl⟩
/-- A choice is of a block. -/
def ofB (c : Int × RuleB) (b : BlkB) : Prop := b.num = c.1 ∧ b.typ = c.2.typ
instance (c : Int × RuleB) (b : BlkB) : Decidable (ofB c b) := inferInstanceAs (Decidable (_ ∧ _))
/-- Choices are of blocks, in their order. -/
def Emb : List (Int × RuleB) → List BlkB → Prop
  | [], _ => True
  | c :: cs, l => ∃ j b, l[j]? = some b ∧ ofB c b ∧ Emb cs (l.drop (j + 1))
theorem Emb.weaken : ∀ {cs : List (Int × RuleB)} {l : List BlkB} {j : Nat}, Emb cs (l.drop j) → Emb cs l
  | [], _, _, _ => trivial
  | c :: cs, l, j, ⟨i, b, hi, hm, he⟩ => by
    refine ⟨j + i, b, by rwa [List.getElem?_drop] at hi, hm, ?_⟩
    rw [List.drop_drop] at he
    rwa [show j + (i + 1) = j + i + 1 by omega] at he
theorem Emb.skip {c : Int × RuleB} {cs : List (Int × RuleB)} {bs : List BlkB} {k : Nat} {b : BlkB} (h : Emb (c :: cs) (bs.drop k)) (hb : bs[k]? = some b) (hn : ¬ ofB c b) : Emb (c :: cs) (bs.drop (k + 1)) := by
  obtain ⟨j, x, hj, hm, he⟩ := h
  rw [List.getElem?_drop] at hj
  cases j with
  | zero =>
    rw [Nat.add_zero, hb] at hj
    cases hj
    exact absurd hm hn
  | succ j =>
    refine ⟨j, x, by rw [List.getElem?_drop, ← hj]; congr 1; omega, hm, ?_⟩
    rw [List.drop_drop] at he ⊢
    rwa [show k + 1 + (j + 1) = k + (j + 1 + 1) by omega]
theorem Emb.take {c : Int × RuleB} {cs : List (Int × RuleB)} {bs : List BlkB} {k : Nat} (h : Emb (c :: cs) (bs.drop k)) : Emb cs (bs.drop (k + 1)) := by
  obtain ⟨j, x, hj, hm, he⟩ := h
  rw [List.drop_drop, show k + (j + 1) = k + 1 + j by omega, ← List.drop_drop] at he
  exact he.weaken
theorem Emb.end {c : Int × RuleB} {cs : List (Int × RuleB)} {bs : List BlkB} {k : Nat} (h : Emb (c :: cs) (bs.drop k)) (hk : bs.length ≤ k) : False := by
  obtain ⟨j, x, hj, hm, he⟩ := h
  rw [List.drop_of_length_le hk] at hj
  simp at hj
theorem oneB_of {rs : List RuleB} {role op typ num : Int} {p : PrimB} {c : Int × RuleB} (h : c ∈ oneB rs role op typ num p) : c.1 = num ∧ c.2.role = role ∧ c.2.op = op ∧ c.2.typ = typ := by
  unfold oneB at h
  split at h
  · next r hr =>
    rw [List.mem_singleton] at h
    subst h
    have := List.find?_some hr
    simp only [fitsB, Bool.and_eq_true, decide_eq_true_eq] at this
    exact ⟨rfl, this.1.1.1.1, this.1.1.1.2, this.1.1.2⟩
  · cases h
theorem oneB_cases (rs : List RuleB) (role op typ num : Int) (p : PrimB) : oneB rs role op typ num p = [] ∨ ∃ c, oneB rs role op typ num p = [c] := by
  unfold oneB
  split
  · exact .inr ⟨_, rfl⟩
  · exact .inl rfl
theorem emb_blks (rs : List RuleB) (role op : Int) (p : PrimB) : ∀ bs : List BlkB, Emb (bs.flatMap fun b => oneB rs role op b.typ b.num p) bs
  | [] => trivial
  | b :: bs => by
    have ih := emb_blks rs role op p bs
    rw [List.flatMap_cons]
    rcases oneB_cases rs role op b.typ b.num p with h | ⟨c, h⟩
    · rw [h, List.nil_append]
      exact Emb.weaken (j := 1) ih
    · rw [h]
      have := oneB_of (rs := rs) (role := role) (op := op) (typ := b.typ) (num := b.num) (p := p) (c := c) (by rw [h]; simp)
      exact ⟨0, b, rfl, ⟨this.1.symm, this.2.2.2.symm⟩, ih⟩
theorem for_role {rs : List RuleB} {role op : Int} {p : PrimB} {bs : List BlkB} {c : Int × RuleB} (h : c ∈ forB rs role op p bs) : c.2.role = role ∧ c.2.op = op := by
  unfold forB at h
  rcases List.mem_append.1 h with h | h
  · exact ⟨(oneB_of h).2.1, (oneB_of h).2.2.1⟩
  · obtain ⟨b, _, hb⟩ := List.mem_flatMap.1 h
    exact ⟨(oneB_of hb).2.1, (oneB_of hb).2.2.1⟩
theorem for_first {rs : List RuleB} {role op : Int} {p : PrimB} {bs : List BlkB} {c : Int × RuleB} {cs : List (Int × RuleB)} (h : forB rs role op p bs = c :: cs) :
    Emb cs bs ∧ (¬ (c.1 = 0 ∧ c.2.typ = 0) → Emb (c :: cs) bs) := by
  have he := emb_blks rs role op p bs
  unfold forB at h
  rcases oneB_cases rs role op 0 0 p with h0 | ⟨c0, h0⟩
  · rw [h0, List.nil_append] at h
    rw [h] at he
    exact ⟨Emb.weaken (j := 0 + 1) (Emb.take (k := 0) he), fun _ => he⟩
  · rw [h0] at h
    have h1 := oneB_of (rs := rs) (role := role) (op := op) (typ := 0) (num := 0) (p := p) (c := c0) (by rw [h0]; simp)
    simp only [List.singleton_append, List.cons.injEq] at h
    obtain ⟨rfl, h2⟩ := h
    rw [h2] at he
    exact ⟨he, fun hn => absurd ⟨h1.1, h1.2.2.2⟩ hn⟩
set_option maxHeartbeats 16000000 in
set_option maxRecDepth 100000 in
theorem PolicyTargets_any (v bv : Value) (rs : List RuleB) (bs : List BlkB) (role op typ : Int) (p : PrimB) (w : World) (hv : RulesAt w v rs) (hbv : BlksAt w bv bs) (hp : p.ok) :
    Calls Try.prog 11 #[v, .agg (bunCells p bv).toArray, .agg #[.int .i64 role, .int .i64 op, .int .i64 typ]] w fun e w' => e = .returned (.bool true) ∧ Below w.heap.size w w' := by
  have HV := Lib.hid hv
  have HBV := Lib.hid hbv
  have HPO := Lib.hid hp
  have HBF := Lib.hid fun (W : World) (h : BlksAt W bv bs) => bFew_any bv bs p W h
  have HF1 := Lib.hid fun (W : World) (h : RulesAt W v rs) (hb : BlksAt W bv bs) (h1 : rs.length ≤ 20) (h2 : bs.length ≤ 20) => For_any v bv rs bs role op p W h hb (by omega) (by omega) hp
  clear hv hbv hp
  obtain ⟨C, hC⟩ : ∃ C, (bunCells p bv).toArray = C := ⟨_, rfl⟩
  have hCl : C.toList = p.cells ++ [bv] := by rw [← hC]; rfl
  have HCl := Lib.hid hCl
  have hCs : C.size = 20 := by rw [← hC]; rfl
  have HCs := Lib.hid hCs
  rw [hC] at HBF HF1
  rw [hC]
  clear hC hCl hCs
  obtain ⟨w1, hw1⟩ : ∃ w1, (w.alloc (.cells C 62)).alloc (.cells #[.int .i64 role, .int .i64 op, .int .i64 typ] 64) = w1 := ⟨_, rfl⟩
  have gS : w1.heap.size = w.heap.size + 1 + 1 := by rw [← hw1]; show ((w.heap.push _).push _).size = _; simp
  have gB : w1.heap[w.heap.size]? = some (.cells C 62 (0, 0)) := by rw [← hw1]; exact heap_under (heap_alloc_last w _)
  have gA : w1.heap[w.heap.size + 1]? = some (.cells #[.int .i64 role, .int .i64 op, .int .i64 typ] 64 (0, 0)) := by rw [← hw1]; exact heap_at (by show (w.heap.push _).size = _; simp)
  have gb : Below w.heap.size w w1 := by rw [← hw1]; exact ((Below.refl _ _).alloc (Nat.le_refl _) _).alloc (by show w.heap.size ≤ (w.heap.push _).size; simp) _
  have GB := Lib.hid gB
  have GA := Lib.hid gA
  have GW := Lib.hid gb
  have GS := Lib.hid gS
  clear gb gA gB
  go_enter Try.func11, Try.ntmps11
  go_wp2_with fail
  clear hw1 gS
  refine (awake_pol _).mono ?_
  rintro e w2 ⟨rfl, hb2⟩
  have K2 := Lib.hid hb2
  clear hb2
  go_wp2_with fail
  have V1 := Lib.hid (HV.out.below GW.out (Nat.le_refl _))
  have B1 := Lib.hid (HBV.out.below GW.out (Nat.le_refl _))
  refine (rFew_any v rs _ (V1.out.below K2.out (Nat.le_refl _))).mono ?_
  rintro e w3 ⟨⟨k1, rfl, hk1⟩, hb3⟩
  have K3 := Lib.hid (K2.out.trans (hb3.mono K2.out.size))
  have HK1 := Lib.hid hk1
  clear hk1 hb3 K2
  cases k1 with
  | false =>
    go_wp2_with fail
    refine (awake_pol _).mono ?_
    rintro e w4 ⟨rfl, hb4⟩
    have K4 := Lib.hid (GW.out.trans ((K3.out.trans (hb4.mono K3.out.size)).mono GW.out.size))
    clear hb4
    go_wp2
    go_ret
    exact ⟨rfl, K4.out⟩
  | true =>
    have hn20 := HK1.out rfl
    go_wp2_with (with_reducible refine stop_load 62 rfl ?_)
    have hw1 : w.heap.size < w1.heap.size := by have := GS.out; omega
    have hw2 : w.heap.size + 1 < w1.heap.size := by have := GS.out; omega
    refine load_mid_g 62 (.tmp 4) rfl rfl (some 19) rfl w.heap.size 0 rfl C (rangeAt_row (heap_below K3.out hw1 GB.out)) _ Try.underlying62 rfl (by rw [HCs.out]; exact infoBun) ?_
    go_wp2_with fail
    refine (HBF.out _ (B1.out.below K3.out (Nat.le_refl _))).mono ?_
    rintro e w4 ⟨⟨k2, rfl, hk2⟩, hb4⟩
    have K4 := Lib.hid (K3.out.trans (hb4.mono K3.out.size))
    have HK2 := Lib.hid hk2
    clear hk2 hb4 K3
    cases k2 with
    | false =>
      go_wp2_with fail
      refine (awake_pol _).mono ?_
      rintro e w5 ⟨rfl, hb5⟩
      have K5 := Lib.hid (GW.out.trans ((K4.out.trans (hb5.mono K4.out.size)).mono GW.out.size))
      clear hb5
      go_wp2
      go_ret
      exact ⟨rfl, K5.out⟩
    | true =>
      have hm20 := HK2.out rfl
      have HN20 := Lib.hid hn20
      have HM20 := Lib.hid hm20
      clear hn20 hm20 HK1 HK2
      have gA : w4.heap[w.heap.size + 1]? = some (.cells #[.int .i64 role, .int .i64 op, .int .i64 typ] 64 (0, 0)) := heap_below K4.out hw2 GA.out
      have c0 : w4.cell? ⟨w.heap.size + 1, 0, none⟩ = some (.int .i64 role) := by rw [cell_of_row _ _ _ _ _ _ gA]; rfl
      have c1 : w4.cell? ⟨w.heap.size + 1, 1, none⟩ = some (.int .i64 op) := by rw [cell_of_row _ _ _ _ _ _ gA]; rfl
      have c2 : w4.cell? ⟨w.heap.size + 1, 2, none⟩ = some (.int .i64 typ) := by rw [cell_of_row _ _ _ _ _ _ gA]; rfl
      clear gA
      go_wp2_with (with_reducible refine stop_load 62 rfl ?_)
      refine load_mid 62 (.tmp 4) rfl rfl (some 29) rfl w.heap.size 0 rfl C (rangeAt_row (heap_below K4.out hw1 GB.out)) _ Try.underlying62 rfl (by rw [HCs.out]; exact infoBun) ?_
      go_wp2_with fail
      refine (HF1.out _ (V1.out.below K4.out (Nat.le_refl _)) (B1.out.below K4.out (Nat.le_refl _)) HN20.out HM20.out).mono ?_
      rintro e w5 ⟨u, rfl, hch, hb5⟩
      have K5 := Lib.hid (K4.out.trans (hb5.mono K4.out.size))
      obtain ⟨ca, cc, rfl, hcx⟩ := hch.form
      have HCX := Lib.hid hcx
      have HROLE := Lib.hid fun c (h : c ∈ forB rs role op p bs) => for_role h
      have HFIRST := Lib.hid fun c cs (h : forB rs role op p bs = c :: cs) => for_first h
      have hlen : (forB rs role op p bs).length ≤ 2000 := by
        unfold forB
        rw [List.length_append]
        have h1 := oneB_len rs role op 0 0 p
        have h2 := blks_len rs role op p bs
        have := HM20.out
        omega
      generalize forB rs role op p bs = D at *
      obtain ⟨nd, hnd⟩ : ∃ nd, D.length = nd := ⟨_, rfl⟩
      rw [hnd] at hlen
      rw [hnd]
      have HND := Lib.hid hnd
      obtain ⟨ba, bc, hbf, hbx⟩ := (B1.out.below K5.out (Nat.le_refl _)).form
      obtain ⟨nb, hnb⟩ : ∃ nb, bs.length = nb := ⟨_, rfl⟩
      have hm20 := HM20.out
      rw [hnb] at hbf hm20
      have HNB := Lib.hid hnb
      have HBX := Lib.hid hbx
      have q0 : w5.cell? ⟨w.heap.size + 1, 0, none⟩ = some (.int .i64 role) := by rw [cell_of_row _ _ _ _ _ _ (heap_below K5.out hw2 GA.out)]; rfl
      have q1 : w5.cell? ⟨w.heap.size + 1, 1, none⟩ = some (.int .i64 op) := by rw [cell_of_row _ _ _ _ _ _ (heap_below K5.out hw2 GA.out)]; rfl
      have q2 : w5.cell? ⟨w.heap.size, 19, none⟩ = some (.slice ba nb bc) := by
        rw [cell_of_row _ _ _ _ _ _ (heap_below K5.out hw1 GB.out), ← Array.getElem?_toList, HCl.out, hbf]
        rfl
      have Q0 := Lib.hid q0
      have Q1 := Lib.hid q1
      have Q2 := Lib.hid q2
      have hks := K5.out.size
      have hl1 : w.heap.size < w5.heap.size := by omega
      have hl2 : w.heap.size + 1 < w5.heap.size := by omega
      have HEND := Lib.hid fun (W : World) (h : Below w5.heap.size w5 W) => GW.out.trans ((K5.out.trans (h.mono K5.out.size)).mono GW.out.size)
      clear hch hb5 hcx hnd hbf hbx hnb q0 q1 q2 c0 c1 c2 HF1 HBF HCl HV HBV V1 B1 K4 K5 GA GB
      go_wp2_with fail
      go_loopw [8, 9] (fun s8 s9 wr => ∃ (i kk : Nat) (z : Int), i ≤ nd ∧ kk ≤ nb ∧ s9 = .int .i64 (i : Int) ∧ s8 = .int .i64 z ∧ Hid (z + 1 = (kk : Int)) ∧ Hid ((i = 0 ∧ kk = 0) ∨ (0 < i ∧ Emb (D.drop i) (bs.drop kk))) ∧ Below w5.heap.size w5 wr) (fun _ s _ => nd - (intOf s).toNat)
      case atStart => exact ⟨0, 0, -1, by omega, by omega, rfl, rfl, Lib.hid rfl, Lib.hid (.inl ⟨rfl, rfl⟩), Below.refl _ _⟩
      case round =>
        obtain ⟨i, kk, z, hi, hkk, rfl, rfl, HZ, hinv, hbr⟩ := hrel
        by_cases hend : i = nd
        · have hlt : ¬ (i : Int) < (nd : Int) := by omega
          have HE := Lib.hid (HEND.out _ hbr)
          clear hend
          go_wp2
          go_ret
          exact ⟨rfl, HE.out⟩
        · have hlt : (i : Int) < (nd : Int) := by omega
          obtain ⟨c, hc⟩ : ∃ c, D[i]? = some c := ⟨D[i]'(by rw [HND.out]; omega), List.getElem?_eq_getElem (by rw [HND.out]; omega)⟩
          obtain ⟨g, rfl, hgl, _, hra⟩ := HCX.out i c hc
          have hrole := HROLE.out c (List.mem_of_getElem? hc)
          have hdrop : D.drop i = c :: D.drop (i + 1) := by
            have hl : i < D.length := (List.getElem?_eq_some_iff.1 hc).1
            rw [List.drop_eq_getElem_cons hl]
            rw [List.getElem?_eq_getElem hl] at hc
            rw [Option.some.inj hc]
          have hemb : Emb (D.drop (i + 1)) (bs.drop kk) ∧ (¬ (i = 0 ∧ c.1 = 0 ∧ c.2.typ = 0) → Emb (c :: D.drop (i + 1)) (bs.drop kk)) := by
            rcases hinv.out with ⟨rfl, rfl⟩ | ⟨h0, he⟩
            · have := HFIRST.out c (D.drop 1) (by rw [← hdrop]; rfl)
              refine ⟨this.1, fun h => this.2 fun h2 => h ⟨rfl, h2⟩⟩
            · rw [hdrop] at he
              exact ⟨Emb.weaken (j := 1) (by rw [List.drop_drop]; exact Emb.take he), fun _ => he⟩
          have HE1 := Lib.hid hemb.1
          have HE2 := Lib.hid hemb.2
          have HRA := Lib.hid (rangeAt_below hra hbr hgl)
          have HRO := Lib.hid hrole
          have hbs := hbr.size
          have HBR := Lib.hid hbr
          clear hend hc hra hrole hdrop hemb hinv hbr
          go_wp2_with (with_reducible refine stop_load 77 rfl ?_)
          refine load_mid 77 (.tmp 39) rfl rfl (some 40) rfl g (i * 18) rfl (choiceCells c).toArray HRA.out _ Try.underlying77 rfl infoCs ?_
          go_wp2_with (with_reducible refine stop_store 77 rfl ?_)
          refine store_row 77 (.tmp 10) (.tmp 40) rfl rfl rfl wr.heap.size (choiceCells c).toArray rfl rfl 77 (choiceCells (0, zeroR)).toArray (heap_alloc_last wr _) infoCs rfl (by simp [choiceCells, RuleB.cells, Value.oneCell']) ?_
          rw [World.setRow_alloc_new]
          have l1 : Below w5.heap.size w5 (wr.alloc (.cells (choiceCells c).toArray 77)) := HBR.out.alloc hbs _
          have l2 := heap_alloc_last wr (.cells (choiceCells c).toArray 77)
          have l3 : wr.heap.size < (wr.alloc (.cells (choiceCells c).toArray 77)).heap.size := lt_of_last
          have L1 := Lib.hid l1
          have L2 := Lib.hid l2
          have d0 : (wr.alloc (.cells (choiceCells c).toArray 77)).cell? ⟨wr.heap.size, 0, none⟩ = some (.int .i64 c.1) := by rw [cell_of_row _ _ _ _ _ _ l2]; rfl
          have d1 : (wr.alloc (.cells (choiceCells c).toArray 77)).cell? ⟨wr.heap.size, 1, none⟩ = some (.int .i64 role) := by rw [cell_of_row _ _ _ _ _ _ l2, ← HRO.out.1]; rfl
          have d2 : (wr.alloc (.cells (choiceCells c).toArray 77)).cell? ⟨wr.heap.size, 2, none⟩ = some (.int .i64 op) := by rw [cell_of_row _ _ _ _ _ _ l2, ← HRO.out.2]; rfl
          have d13 : (wr.alloc (.cells (choiceCells c).toArray 77)).cell? ⟨wr.heap.size, 13, none⟩ = some (.int .i64 c.2.typ) := by rw [cell_of_row _ _ _ _ _ _ l2]; rfl
          have e0 : (wr.alloc (.cells (choiceCells c).toArray 77)).cell? ⟨w.heap.size + 1, 0, none⟩ = some (.int .i64 role) := by rw [l1.cell (p := ⟨w.heap.size + 1, 0, none⟩) hl2]; exact Q0.out
          have e1 : (wr.alloc (.cells (choiceCells c).toArray 77)).cell? ⟨w.heap.size + 1, 1, none⟩ = some (.int .i64 op) := by rw [l1.cell (p := ⟨w.heap.size + 1, 1, none⟩) hl2]; exact Q1.out
          clear l1 l2 HBR
          generalize wr.alloc (.cells (choiceCells c).toArray 77) = W1 at *
          generalize wr.heap.size = m at *
          go_upto_region 11 with fail
          go_cut [67] from 55 to 66 (fun s67 wc => s67 = .bool (decide (i = 0 ∧ c.1 = 0 ∧ c.2.typ = 0)) ∧ wc = W1)
          case first =>
            cases h0 : ((i : Int) == 0)
            · have hi0 := Lib.hid (show i ≠ 0 by rw [beq_eq_false_iff_ne] at h0; omega)
              go_wp2
              go_meet
              case rel => exact ⟨by simp [hi0.out], rfl⟩
            · have hi0 := Lib.hid (show i = 0 by rw [beq_iff_eq] at h0; omega)
              go_wp2
              all_goals
                go_meet
                case rel => exact ⟨by simp [hi0.out, *] <;> rfl, rfl⟩
          case rest =>
            obtain ⟨rfl, rfl⟩ := hcut
            clear d1 d2 e0 e1
            by_cases hcond : i = 0 ∧ c.1 = 0 ∧ c.2.typ = 0
            · rw [decide_eq_true hcond]
              have HE3 := Lib.hid (show Emb (D.drop (i + 1)) (bs.drop kk) from HE1.out)
              clear hcond d0 d13
              go_wp2
              go_round
              case rel => exact ⟨i + 1, kk, z, by omega, by omega, by go_num, rfl, HZ, Lib.hid (.inr ⟨by omega, HE3.out⟩), L1.out⟩
              case measure => simp [intOf]; omega
            · rw [decide_eq_false hcond]
              have HE3 := Lib.hid (HE2.out hcond)
              clear hcond HE1 HE2
              have hz : z + 1 = (kk : Int) := HZ.out
              have hzb : z < 100 := by omega
              have hzc : -1 ≤ z := by omega
              have HZ0 := Lib.hid hz
              clear hz
              go_wp2_with fail
              go_loopw [8] (fun s8 wq => ∃ k : Nat, k ≤ nb ∧ s8 = .int .i64 (k : Int) ∧ Hid (Emb (c :: D.drop (i + 1)) (bs.drop k)) ∧ Below wc.heap.size wc wq) (fun s _ => nb - (intOf s).toNat)
              case atStart => exact ⟨kk, hkk, by rw [HZ0.out], HE3, Below.refl _ _⟩
              case round =>
                obtain ⟨k, hk, rfl, hem, hbq⟩ := hrel
                have hklt : k < nb := by
                  rcases Nat.lt_or_ge k nb with h | h
                  · exact h
                  · exact (Emb.end hem.out (by rw [HNB.out]; exact h)).elim
                have hkl : (k : Int) < (nb : Int) := by omega
                obtain ⟨blk, hbk⟩ : ∃ blk, bs[k]? = some blk := ⟨bs[k]'(by rw [HNB.out]; omega), List.getElem?_eq_getElem (by rw [HNB.out]; omega)⟩
                obtain ⟨b, o, rfl, hbw, hra⟩ := HBX.out k blk hbk
                have hbw2 : b < wc.heap.size := by have := L1.out.size; omega
                have hrr := rangeAt_below (rangeAt_below hra L1.out hbw) hbq hbw2
                have b0 : wr.cell? ⟨b, o + k * 5, none⟩ = some (.int .i64 blk.typ) := hrr 0 _ rfl
                have b1 : wr.cell? ⟨b, o + k * 5 + 1, none⟩ = some (.int .i64 blk.num) := hrr 1 _ rfl
                have x0 : wr.cell? ⟨m, 0, none⟩ = some (.int .i64 c.1) := by rw [hbq.cell (p := ⟨m, 0, none⟩) l3]; exact d0
                have x1 : wr.cell? ⟨m, 13, none⟩ = some (.int .i64 c.2.typ) := by rw [hbq.cell (p := ⟨m, 13, none⟩) l3]; exact d13
                have hl3 : w.heap.size < wc.heap.size := by have := L1.out.size; omega
                have x2 : wr.cell? ⟨w.heap.size, 19, none⟩ = some (.slice (some ⟨b, o, none⟩) nb bc) := by rw [hbq.cell (p := ⟨w.heap.size, 19, none⟩) hl3, L1.out.cell (p := ⟨w.heap.size, 19, none⟩) hl1]; exact Q2.out
                have SK := Lib.hid fun h => Emb.skip hem.out hbk h
                have TK := Lib.hid (Emb.take hem.out)
                have HQ := Lib.hid hbq
                clear hrr hra hbk hem hbq hk
                cases hn : (blk.num != c.1)
                · cases ht : (blk.typ != c.2.typ)
                  · go_wp2_with fail
                    go_quiet (fail)
                    have HW := Lib.hid (L1.out.trans ((drewN_below HQ.out nq).mono L1.out.size))
                    have y2 : (wr.drewN nq).cell? ⟨w.heap.size, 19, none⟩ = some (.slice (some ⟨b, o, none⟩) nb bc) := x2
                    clear x0 x1 x2 b0 b1
                    generalize wr.drewN nq = wd at *
                    go_wp2
                    go_round
                    case rel => exact ⟨i + 1, k + 1, (k : Int), by omega, by omega, by go_num, rfl, Lib.hid (by omega), Lib.hid (.inr ⟨by omega, TK.out⟩), HW.out⟩
                    case measure => simp [intOf]; omega
                  · have SK2 := Lib.hid (SK.out (fun h => by simp [h.2] at ht))
                    go_wp2_with fail
                    go_quiet (fail)
                    have HW := Lib.hid (drewN_below HQ.out nq)
                    clear x0 x1 x2 b0 b1
                    generalize wr.drewN nq = wd at *
                    go_wp2
                    go_round
                    case rel => exact ⟨k + 1, by omega, by go_num, SK2, HW.out⟩
                    case measure => simp [intOf]; omega
                · have SK2 := Lib.hid (SK.out (fun h => by simp [h.1] at hn))
                  go_wp2_with fail
                  go_quiet (fail)
                  have HW := Lib.hid (drewN_below HQ.out nq)
                  clear x0 x1 x2 b0 b1
                  generalize wr.drewN nq = wd at *
                  go_wp2
                  go_round
                  case rel => exact ⟨k + 1, by omega, by go_num, SK2, HW.out⟩
                  case measure => simp [intOf]; omega
end Go.Proofs.Ythoickghfjgmmaa.Pol
