/-
  EngineFresh: all tags of an ideal engine are different, however similar the signed texts are.
  Conditions: none.
-/
import Derived.Test.YtlbpodddokhmaaaEng3
import Derived.Test.YtlbpodddokhmaaaOpen
import Derived.Test.YtlbpodddokhmaaaOpen2
namespace Go.Proofs.Ytlbpodddokhmaaa.EngineFresh
open Go.ChangeShapes Go.WideShapes Go.ChangeAt Go.RowKit Go.Deep Go.Great Go.Proofs.Ytlbpodddokhmaaa.Eng
theorem infoS : (Try.prog.info? 9).map (fun i => (i.zero, i.size, i.bytes)) = some (some (.string ⟨#[]⟩), 1, 16) := by kernel_rfl
/-- The tags made. -/
def tagV (i : Nat) : List Value := (List.range i).map fun j => Value.string (B (freshB (j + 1) 32))
theorem tagV_succ (i : Nat) : tagV (i + 1) = tagV i ++ [.string (B (freshB (i + 1) 32))] := by simp [tagV, List.range_succ]
theorem own_kept {w w' : World} {base ib2 : Nat} {row : Option Nat} {e : TypeId} {size : Nat} {v : Value} {n : Nat} {xs : List Value} (h : w.ownsRow base e size v n xs) (hk : Kept w w' ib2 row) (hvi : v.ownBlock ≠ some ib2) (hvr : ∀ k, v.ownBlock = some k → row ≠ some k) : w'.ownsRow base e size v n xs := by
  have hlt := h.lt
  obtain ⟨g1, g2⟩ := h
  refine ⟨g1, ?_⟩
  rcases g2 with g2 | ⟨g, cap, cur, a, c, d, f⟩
  · exact .inl g2
  · have hg : v.ownBlock = some g := by rw [a]; rfl
    exact .inr ⟨g, cap, cur, a, c, by rw [hk.block g (hlt g hg).2 (fun e => hvi (by rw [hg, e])) (hvr g hg)]; exact d, f⟩
theorem tab_grown {w w' : World} {base ib : Nat} {row : Option Nat} {v : Value} {n : Nat} (h : TabAt w base ib v n) (hg : w.grownBy w' row) (hr : row ≠ some ib) (hvr : ∀ k, v.ownBlock = some k → row ≠ some k) : TabAt w' base ib v n := by
  obtain ⟨h1, xs, h2⟩ := h
  refine ⟨by rw [hg.block ib (lt_of_heap h1) (Ne.symm hr)]; exact h1, xs, h2.kept hg ?_⟩
  cases hv : v.ownBlock with
  | none => exact .inl rfl
  | some k => exact .inr (fun e => hvr k hv e.symm)
theorem below_grown {B : Nat} {w wr w' : World} {row : Option Nat} (h : Below B w wr) (hB : B ≤ wr.heap.size) (hg : wr.grownBy w' row) (hrow : ∀ k, row = some k → B ≤ k) : Below B w w' :=
  h.trans ⟨hg.os, hg.tape, hg.output, hg.size, fun k hk => hg.block k (by omega) fun e => by have := hrow k e.symm; omega⟩
set_option maxHeartbeats 1600000 in
set_option maxRecDepth 100000 in
theorem fresh_law (n : Nat) (t : List UInt8) (w : World) (hn : n < 256) (_ht : t.length ≤ maxLen) : Calls Try.prog 3 #[.int .u8 (n : Int), .string (B t)] w fun e w' => e = .returned (.bool true) ∧ Below w.heap.size w w' := by
  have H0 := Lib.hid awake_any
  by_cases h4 : (t.length : Int) ≤ 40
  · obtain ⟨q, hq⟩ : ∃ q, n % 40 = q := ⟨_, rfl⟩
    have hq40 : q < 40 := by rw [← hq]; exact Nat.mod_lt _ (by omega)
    have htq : (n : Int).tmod 40 = (q : Int) := by rw [Int.tmod_eq_emod_of_nonneg (Int.natCast_nonneg _)]; omega
    clear hq
    cases hqq : Try.prog.info? 9 with
    | none => have := infoS; rw [hqq] at this; cases this
    | some inf =>
      have hi := infoS
      rw [hqq] at hi
      simp only [Option.map_some, Option.some.injEq, Prod.mk.injEq] at hi
      obtain ⟨hz1, hz2, hz3⟩ := hi
      have HQ := Lib.hid hqq
      have HZ1 := Lib.hid hz1
      clear hqq hz1
      go_enter Try.func3, Try.ntmps3
      go_wp2_with fail
      refine (H0.out _).mono ?_
      rintro _ W1 ⟨rfl, hb1⟩
      go_wp2_with fail
      refine (ideal_any _).mono ?_
      rintro _ W2 ⟨rfl, hW2⟩
      have hib0 : W2.heap[W1.heap.size]? = some (.cells #[.slice none 0 0] 38 (0, 0)) := by rw [← hW2]; exact heap_under (heap_alloc_last W1 _)
      have heb0 : W2.cell? ⟨W1.heap.size + 1, 0, none⟩ = some (.iface 35 (.pointer (some ⟨W1.heap.size, 0, none⟩))) := by
        rw [← hW2, cell_of_row _ _ 0 _ _ _ (heap_at (by simp))]
        rfl
      have hsz2 : W2.heap.size = W1.heap.size + 2 := by rw [← hW2]; simp
      have hb2 : Below w.heap.size w W2 := by rw [← hW2]; exact (hb1.alloc hb1.size _).alloc (by simp; have := hb1.size; omega) _
      have hwi := hb1.size
      clear hW2 hb1
      generalize hibe : W1.heap.size = ib at *
      obtain ⟨eb, hebe⟩ : ∃ eb, eb = ib + 1 := ⟨_, rfl⟩
      rw [← hebe] at heb0 ⊢
      obtain ⟨base, hbase⟩ : ∃ base, base = W2.heap.size := ⟨_, rfl⟩
      have hT0 : TabAt W2 base ib (.slice none 0 0) 0 := ⟨hib0, [], World.ownsRow_nil _ _ _ _⟩
      have hbi : ib < eb := by omega
      have hbe : eb < base := by omega
      have hb3 : base ≤ W2.heap.size := by omega
      clear hib0 hsz2 hibe hebe hbase
      go_wp2
      go_loopw [6, 7] (fun s6 s7 wr => ∃ (i : Nat) (v : Value), i ≤ q ∧ s7 = .int .i64 (i : Int) ∧ wr.cell? ⟨eb, 0, none⟩ = some (.iface 35 (.pointer (some ⟨ib, 0, none⟩))) ∧ TabAt wr base ib v i ∧ wr.ownsRow base 9 1 s6 i (tagV i) ∧ (∀ k, v.ownBlock = some k → s6.ownBlock ≠ some k) ∧ Below w.heap.size w wr ∧ base ≤ wr.heap.size) (fun _ s _ => q - (intOf s).toNat)
      case atStart => exact ⟨0, .slice none 0 0, by omega, rfl, heb0, hT0, World.ownsRow_nil _ _ _ _, fun k hk => by simp [Value.ownBlock] at hk, hb2, hb3⟩
      case round =>
        clear heb0 hT0 hb2 hb3
        obtain ⟨i, v, hi, rfl, heb, hT, hown, hdis, hbel, hbw⟩ := hrel
        obtain ⟨pt, ct, hft⟩ := own_form hown
        by_cases hend : i = q
        · have hlt : ¬ (i : Int) < (q : Int) := by omega
          obtain ⟨hti, xs, howv⟩ := hT
          obtain ⟨p, c, hfv⟩ := own_form howv
          have hc0 : wr.cell? ⟨ib, 0, none⟩ = some (.slice p i c) := by rw [← hfv, cell_of_row _ _ _ _ _ _ hti]; rfl
          have HL := Lib.hid (len_ideal ⟨eb, 0, none⟩ ⟨ib, 0, none⟩ i c p wr heb hc0)
          subst hft
          clear hti howv hown hdis hfv
          go_wp2_with fail
          refine HL.out.mono ?_
          rintro _ _ ⟨rfl, rfl⟩
          go_wp2
          go_ret
          exact ⟨by simp, hbel⟩
        · have hlt : (i : Int) < (q : Int) := by omega
          have HS := Lib.hid (Sign_any eb base ib i 32 v 5 [107, 101, 121] t wr heb hT (by decide) (by omega) (by omega) hbw (by omega) (by decide) (by decide) (by decide))
          have hown0 := hown
          have hebl := World.block_lt_of_cell? wr ⟨eb, 0, none⟩ heb
          have hlv := hT.lt
          subst hft
          have HHOWN := Lib.hid hown
          have HDIS := Lib.hid hdis
          clear hown
          go_wp2_with fail
          refine HS.out.mono ?_
          rintro _ W3 ⟨rfl, v', hT3, hk3, hor⟩
          have heb3 : W3.cell? ⟨eb, 0, none⟩ = some (.iface 35 (.pointer (some ⟨ib, 0, none⟩))) := by
            rw [World.cell?_of_block (hk3.block eb hebl (by omega) (fun e => by have := (hlv _ e).1; omega))]; exact heb
          have hown3 := own_kept HHOWN.out hk3 (fun e => by have := (HHOWN.out.lt _ e).1; omega) (fun k hk e => hdis k e hk)
          have hb3 : Below w.heap.size w W3 := hk3.below hbel hbel.size hwi (fun k hk => by have := (hlv _ hk).1; omega)
          have hbw3 : base ≤ W3.heap.size := Nat.le_trans hbw hk3.size
          have hlo := HHOWN.out.lt
          have hl3 := hT3.lt
          have htl := freshB_length (i + 1) 32
          have hne : ∀ k, k < i → (freshB (k + 1) 32 == freshB (i + 1) 32) = false := fun k hk => by
            rw [beq_eq_false_iff_ne]
            exact fresh_ne (by omega) (by omega) (by omega) (by omega)
          have HTS := Lib.hid (tagV_succ i)
          have HNE := Lib.hid hne
          generalize htg : freshB (i + 1) 32 = tag at *
          have hti : (tag.length : Int) = 32 := by rw [htl]; rfl
          have hsz3 := hk3.size
          clear hne htg htl heb hT hdis hk3
          go_wp2
          go_loopw [10] (fun s10 wq => ∃ k : Nat, k ≤ i ∧ s10 = .int .i64 (k : Int) ∧ wq = W3) (fun s _ => i - (intOf s).toNat)
          case atStart => exact ⟨0, by omega, rfl, rfl⟩
          case round =>
            obtain ⟨k, hk, rfl, rfl⟩ := hrel
            by_cases hke : k = i
            · have hlt2 : ¬ (k : Int) < (i : Int) := by omega
              clear hke
              go_wp2_with (at_builtin; refine RowKit.Hid.out ?_)
              refine Lib.hid ?_
              refine wpList_append_lies _ rfl (.tmp 52) (.tmp 54) 25 rfl base 9 inf (.string ⟨#[]⟩) 1 16 Try.underlying25 HQ.out HZ1.out hz2 hz3 rfl (by omega) _ i (tagV i) rfl (hown3.alloc _) ⟨wr.heap.size, 0, none⟩ 1 1 [.string (B tag)] rfl rfl (new_cells wr #[.string (B tag)] 9) (by simp [Value.oneCell']) (by omega) (by simp only [maxLen]; omega) (by omega) (by simp; omega) _ rfl ?_
              intro g cap w4 hown4 hg4 hgg hgl
              rw [← HTS.out] at hown4
              have hrow : ∀ x, (Value.slice pt i ct).ownBlock = some x → base ≤ x ∧ x < wr.heap.size := fun x hx => by have := hlo x hx; omega
              have hno : ∀ x, v'.ownBlock = some x → (Value.slice pt i ct).ownBlock ≠ some x := fun x hx e => by
                have h8 := hlo x e
                rcases hor with h9 | ⟨y, h9, h10⟩
                · exact HDIS.out x (by rw [← h9]; exact hx) e
                · rw [h9] at hx; cases hx; omega
              have hT4 := tab_grown (hT3.below ((Below.refl _ _).alloc (Nat.le_refl _) (.cells #[.string (B tag)] 9))) hg4 (fun e => by have := (hrow _ e).1; omega) hno
              have heb3l := World.block_lt_of_cell? wr ⟨eb, 0, none⟩ heb3
              have heb4 : w4.cell? ⟨eb, 0, none⟩ = some (.iface 35 (.pointer (some ⟨ib, 0, none⟩))) := by
                rw [World.cell?_of_block ((hg4.block eb (by simp; omega) (fun e => by have := (hrow _ e.symm).1; omega)).trans (Below.heap_alloc wr _ eb heb3l))]
                exact heb3
              have hb4 : Below w.heap.size w w4 := below_grown (hb3.alloc hb3.size (.cells #[.string (B tag)] 9)) (by have := hb3.size; simp; omega) hg4 (fun x hx => by have := (hrow _ hx).1; omega)
              have hbw4 : base ≤ w4.heap.size := by have := hg4.size; simp at this; omega
              have hdis4 : ∀ x, v'.ownBlock = some x → (Value.slice (some ⟨g, 0, none⟩) (i + 1) cap).ownBlock ≠ some x := fun x hx e => by
                have e2 : g = x := by simpa [Value.ownBlock] using e
                subst e2
                rcases hgg with h8 | h8
                · exact hno g hx h8
                · have h9 := (hl3 g hx).2
                  rw [h8] at h9
                  simp at h9
                  omega
              have HT4 := Lib.hid hT4
              have HO4 := Lib.hid hown4
              have HE4 := Lib.hid heb4
              clear hT4 hown4 heb4 hg4 hrow hno hgg hown3 heb3
              show wpList _ _ _ _ (Act.put _ (some 55) _) _
              go_wp2
              go_round
              case rel => exact ⟨i + 1, v', by omega, by go_num, HE4.out, HT4.out, HO4.out, hdis4, hb4, hbw4⟩
              case measure => simp [intOf]; omega
            · have hlt2 : (k : Int) < (i : Int) := by omega
              obtain ⟨g, cap, hform, -, hgl⟩ := hown3.form (by omega)
              simp only [Value.slice.injEq] at hform
              obtain ⟨rfl, -, rfl⟩ := hform
              have hcell : wr.cell? ⟨g, k, none⟩ = some (.string (B (freshB (k + 1) 32))) := by
                have hki : k < i := by omega
                rw [hown3.cellAt k (by omega)]
                simp [tagV, hki]
              have hnk := HNE.out k (by omega)
              generalize freshB (k + 1) 32 = old at *
              clear hown3
              go_wp2
              go_round
              case rel => exact ⟨k + 1, by omega, by go_num, trivial⟩
              case measure => simp [intOf]; omega
  · go_enter Try.func3, Try.ntmps3
    go_wp2_with fail
    refine (H0.out _).mono ?_
    rintro _ W1 ⟨rfl, hb1⟩
    go_wp2_with fail
    refine (H0.out _).mono ?_
    rintro _ W2 ⟨rfl, hb2⟩
    go_wp2
    go_ret
    exact ⟨rfl, hb1.trans (hb2.mono hb1.size)⟩
set_option maxRecDepth 100000 in
theorem walk (W : World) (base : Nat) (args : Array Value) {H : Type} {enc : TypeId × Value → H} (ds : List (DataW H)) (ps : List MemPlace)
    (hval : ∀ (j : Nat) t v, Try.f3.params[j]? = some t → args[j]? = some v → Value.okWide Try.prog W .any base t v)
    (hA : DataW.TrodAll enc Try.prog W 0 (fun _ => true) true Try.f3.params.toList args.toList ds ps)
    (hlt : ∀ p ∈ ps, p.block < W.heap.size) :
    Calls Try.prog 3 args W fun e W' => e = .returned (.bool true) ∧ Below W.heap.size W W' := by
  rw [Try.params3] at hA hval
  obtain ⟨v0, v1, d0, d1, p, q, rfl, rfl, rfl, h0, h1⟩ := trodAll_two hA
  obtain ⟨x, rfl, hx⟩ := open_int Try.underlying5 (hval 0 5 v0 rfl rfl) h0 (fun p hp => hlt p (by simp [hp]))
  obtain ⟨b, rfl, hb⟩ := open_str Try.underlying9 (hval 1 9 v1 rfl rfl) h1 (fun p hp => hlt p (by simp [hp]))
  have h0 : 0 ≤ x ∧ x < 256 := by
    simp [Lit.wf, IntKind.min, IntKind.max, IntKind.signed, IntKind.bits] at hx
    omega
  obtain ⟨c, rfl⟩ : ∃ c : Nat, x = (c : Int) := ⟨x.toNat, by omega⟩
  exact fresh_law c b W (by omega) hb
set_option maxRecDepth 100000 in
theorem lifted (os : Os) (started : os.Started) (H : Type) (enc : TypeId × Value → H) :
    ReturnsInHanded {} Try.checked os 3 .any (Rows.engineFreshSpec.pre6 enc Try.prog Try.f3 Rows.engineFreshRow.domain false) (Rows.engineFreshSpec.post enc Try.prog Try.f3 false true false false) :=
  law_lift (C := Try.checked) (tb := 4) (by kernel_rfl) started (by kernel_rfl) Try.func3
    (ChangeSpec.witness6 (enc := enc) (C := Try.checked) false ⟨#[], #[.int .u8 0, .string ⟨#[]⟩], []⟩ 8 (by kernel_rfl) (by kernel_rfl) (by kernel_rfl) (by kernel_rfl))
    (by kernel_rfl) (by kernel_rfl) rfl (by kernel_rfl) Try.underlying4 (fun ds h => by match ds, h with | [_, _], _ => exact ⟨rfl, rfl, rfl⟩)
    (fun W base args ds ps hval hA hlt => walk W base args ds ps hval hA hlt)
theorem over : Rows.engineFreshRow.holds Try.pinned (OpenSpec.ofChange Rows.engineFreshSpec) :=
  OpenClaim.holds_of_wide 3 Try.f3 rfl rfl rfl rfl rfl rfl rfl ⟨rfl, rfl, rfl, rfl, rfl⟩ rfl rfl rfl rfl rfl (by kernel_rfl) Try.func3 (by kernel_rfl)
    (of_decide_eq_true (by kernel_rfl)) (by unfold Func.isWrapper; rw [if_neg (of_decide_eq_false (by kernel_rfl))]; exact ⟨rfl, rfl⟩)
    (fun os started H enc _ => lifted os started H enc)
theorem proved : Rows.EngineFreshSaid := over
#print axioms proved
end Go.Proofs.Ytlbpodddokhmaaa.EngineFresh
