/-
  The walk of the reference's For: all choices for a bundle.
  Conditions: at most 1000 rules and 900 blocks; names are no longer than the model lets them be.
-/
import Derived.Test.YthoickghfjgmmaaPol4
import Derived.Deep.CutRange
namespace Go.Proofs.Ythoickghfjgmmaa.Pol
open Go.ChangeShapes Go.WideShapes Go.ChangeAt Go.RowKit Go.Deep Go.Great Go.Proofs.Ythoickghfjgmmaa.Eid
def tyAt (bs : List BlkB) (z : Int) : Int := if z < 0 then 0 else ((bs[z.toNat]?).map BlkB.typ).getD 0
def nuAt (bs : List BlkB) (z : Int) : Int := if z < 0 then 0 else ((bs[z.toNat]?).map BlkB.num).getD 0
/-- The choices before the place z. -/
def preC (rs : List RuleB) (role op : Int) (p : PrimB) (bs : List BlkB) (z : Int) : List (Int × RuleB) := if z < 0 then [] else oneB rs role op 0 0 p ++ (bs.take z.toNat).flatMap fun b => oneB rs role op b.typ b.num p
theorem preC_next (rs : List RuleB) (role op : Int) (p : PrimB) (bs : List BlkB) (z : Int) (h1 : -1 ≤ z) (h2 : z < bs.length) : preC rs role op p bs (z + 1) = preC rs role op p bs z ++ oneB rs role op (tyAt bs z) (nuAt bs z) p := by
  unfold preC tyAt nuAt
  by_cases hz : z < 0
  · have : z = -1 := by omega
    subst this
    simp
  · obtain ⟨i, rfl⟩ := Int.eq_ofNat_of_zero_le (show 0 ≤ z by omega)
    have hi : i < bs.length := by omega
    rw [if_neg (by omega), if_neg hz, if_neg hz, if_neg hz]
    have e1 : ((i : Int) + 1).toNat = i + 1 := by omega
    have e2 : (i : Int).toNat = i := by omega
    rw [e1, e2, List.take_add_one, List.getElem?_eq_getElem hi, List.flatMap_append, List.append_assoc]
    simp
theorem preC_len (rs : List RuleB) (role op : Int) (p : PrimB) (bs : List BlkB) (z : Int) : (preC rs role op p bs z).length ≤ bs.length + 1 := by
  unfold preC
  split
  · simp
  · rw [List.length_append]
    have h1 := oneB_len rs role op 0 0 p
    have h2 := blks_len rs role op p (bs.take z.toNat)
    rw [List.length_take] at h2
    omega
theorem preC_all (rs : List RuleB) (role op : Int) (p : PrimB) (bs : List BlkB) : preC rs role op p bs bs.length = forB rs role op p bs := by
  unfold preC forB
  rw [if_neg (by omega)]
  have : ((bs.length : Int)).toNat = bs.length := by omega
  rw [this, List.take_length]
set_option maxHeartbeats 3200000 in
set_option maxRecDepth 100000 in
theorem rFor_any (v bv : Value) (rs : List RuleB) (bs : List BlkB) (role op : Int) (p : PrimB) (w : World) (hv : RulesAt w v rs) (hbv : BlksAt w bv bs) (hn : rs.length ≤ 1000) (hm : bs.length ≤ 900) (hp : p.ok) :
    Calls Try.prog 39 #[v, .int .i64 role, .int .i64 op, .agg (bunCells p bv).toArray] w fun e w' => ∃ u, e = .returned u ∧ ChoicesAt w' (w.heap.size + 1) u (forB rs role op p bs) ∧ Below w.heap.size w w' := by
  have HF := Lib.hid fun (typ : Int) (W : World) (hb : RulesAt W v rs) => rPick_any v rs role op typ p W hb hn hp
  have HV := Lib.hid hv
  have HBV := Lib.hid hbv
  clear hv hbv hn hp
  obtain ⟨C, hC⟩ : ∃ C, (bunCells p bv).toArray = C := ⟨_, rfl⟩
  have hCl : C.toList = p.cells ++ [bv] := by rw [← hC]; rfl
  have HCl := Lib.hid hCl
  have hCs : C.size = 20 := by rw [← hC]; rfl
  rw [hC]
  clear hC hCl
  obtain ⟨w1, hw1⟩ : ∃ w1, w.alloc (.cells C 62) = w1 := ⟨_, rfl⟩
  have gB : w1.heap[w.heap.size]? = some (.cells C 62 (0, 0)) := by rw [← hw1]; exact heap_alloc_last w _
  have gS : w1.heap.size = w.heap.size + 1 := by rw [← hw1]; show (w.heap.push _).size = _; simp
  have gb : Below w.heap.size w w1 := by rw [← hw1]; exact (Below.refl _ _).alloc (Nat.le_refl _) _
  have gP : w1.rangeAt w.heap.size 0 p.cells := fun j u hj => by
    rw [Nat.zero_add, cell_of_row _ _ _ _ _ _ gB, ← Array.getElem?_toList, HCl.out, List.getElem?_append_left (List.getElem?_eq_some_iff.1 hj).1]
    exact hj
  have gV : w1.cell? ⟨w.heap.size, 19, none⟩ = some bv := by
    rw [cell_of_row _ _ _ _ _ _ gB, ← Array.getElem?_toList, HCl.out]
    rfl
  have HV1 := Lib.hid (HV.out.below gb (Nat.le_refl _))
  have HBV1 := Lib.hid (HBV.out.below gb (Nat.le_refl _))
  have GP := Lib.hid gP
  have GV := Lib.hid gV
  have GB := Lib.hid gb
  clear HV HBV gB gb gP gV
  obtain ⟨ba, bc, hbf, hbx⟩ := HBV1.out.form
  have HALL := Lib.hid (preC_all rs role op p bs)
  have HNXT := Lib.hid (preC_next rs role op p bs)
  have HLEN := Lib.hid (preC_len rs role op p bs)
  obtain ⟨n, hnb⟩ : ∃ n, bs.length = n := ⟨_, rfl⟩
  rw [hnb] at hbf hm HALL HNXT HLEN
  subst hbf
  have HBX := Lib.hid hbx
  have HNB := Lib.hid hnb
  clear hbx hnb HCl HBV1
  go_enter Try.func39, Try.ntmps39
  go_upto_region 1 with fail
  clear hw1
  go_wp2_with fail
  go_loopw [9, 10] (fun s9 s10 wr => ∃ z : Int, -1 ≤ z ∧ z ≤ n ∧ s10 = .int .i64 z ∧ Hid (ChoicesAt wr (w.heap.size + 1) s9 (preC rs role op p bs z)) ∧ Hid (Below (w.heap.size + 1) w1 wr) ∧ w.heap.size + 1 ≤ wr.heap.size) (fun _ s _ => (n - intOf s).toNat)
  case atStart => exact ⟨-1, by omega, by omega, rfl, Lib.hid (World.ownsRow_nil _ _ _ _), Lib.hid (Below.refl _ _), by omega⟩
  case round =>
    obtain ⟨z, hz1, hz2, rfl, hcr, hbr, hszr⟩ := hrel
    have gVc : wr.cell? ⟨w.heap.size, 19, none⟩ = some (.slice ba n bc) := by rw [hbr.out.cell (p := ⟨w.heap.size, 19, none⟩) (by show w.heap.size < _; omega)]; exact GV.out
    by_cases hend : z = n
    · have hlt : ¬ z < (n : Int) := by omega
      have hfin := hcr.out
      rw [hend, HALL.out] at hfin
      have HFIN := Lib.hid hfin
      clear hend hfin hcr
      go_wp2
      go_ret
      exact ⟨_, rfl, HFIN.out, GB.out.trans (hbr.out.mono (by omega))⟩
    · have hlt : z < (n : Int) := by omega
      have HNX := Lib.hid (HNXT.out z hz1 hlt)
      have HCL := Lib.hid (show (preC rs role op p bs z).length ≤ 1000 by have := HLEN.out z; omega)
      clear hend
      go_upto_if 23 with fail
      go_cut [11, 12] from 22 to 52 (fun s11 s12 wc => s11 = .int .i64 (tyAt bs z) ∧ s12 = .int .i64 (nuAt bs z) ∧ wc = wr)
      case first =>
        by_cases hz0 : 0 ≤ z
        · obtain ⟨i, rfl⟩ := Int.eq_ofNat_of_zero_le hz0
          obtain ⟨blk, hbk⟩ : ∃ blk, bs[i]? = some blk := ⟨bs[i]'(by rw [HNB.out]; omega), List.getElem?_eq_getElem (by rw [HNB.out]; omega)⟩
          obtain ⟨b, o, rfl, hbw, hra⟩ := HBX.out i blk hbk
          rw [gS] at hbw
          have hrr := rangeAt_below hra hbr.out hbw
          have d0 : wr.cell? ⟨b, o + i * 5, none⟩ = some (.int .i64 blk.typ) := hrr 0 _ rfl
          have d1 : wr.cell? ⟨b, o + i * 5 + 1, none⟩ = some (.int .i64 blk.num) := hrr 1 _ rfl
          have HT : Hid (tyAt bs (i : Int) = blk.typ) := Lib.hid (by unfold tyAt; rw [if_neg (by omega), Int.toNat_natCast, hbk]; rfl)
          have HU : Hid (nuAt bs (i : Int) = blk.num) := Lib.hid (by unfold nuAt; rw [if_neg (by omega), Int.toNat_natCast, hbk]; rfl)
          clear hrr hra hbk
          go_wp2
          go_meet
          case rel => exact ⟨by rw [HT.out], by rw [HU.out], rfl⟩
        · have hz3 : z = -1 := by omega
          subst hz3
          go_wp2
          go_meet
          case rel => exact ⟨rfl, rfl, rfl⟩
      case rest =>
        obtain ⟨rfl, rfl, rfl⟩ := hcut
        clear gVc
        generalize tyAt bs z = ty at *
        generalize nuAt bs z = nu at *
        go_wp2_with (with_reducible refine stop_load 59 rfl ?_)
        refine load_mid 59 (.tmp 40) rfl rfl (some 41) rfl w.heap.size 0 rfl p.cells.toArray (rangeAt_below GP.out hbr.out (Nat.lt_succ_self _)) _ Try.underlying59 rfl infoP ?_
        go_wp2_with fail
        refine (HF.out ty _ (HV1.out.below hbr.out (by omega))).mono ?_
        rintro e w5 ⟨rfl, hb5⟩
        have hsz5 := hb5.size
        have K1' := Lib.hid (hbr.out.trans (hb5.mono (by omega)))
        have K2' := Lib.hid (hcr.out.below hb5)
        clear hcr hbr hb5
        cases hpk : pickB rs role op ty p with
        | none =>
          simp only [pickV]
          have hone : oneB rs role op ty nu p = [] := oneB_none hpk
          rw [hone, List.append_nil] at HNX
          have HH := Lib.hid HNX.out
          have j1 := Lib.hid (K1'.out.alloc (by omega) (.cells zeroR.cells.toArray 68))
          have j2 := Lib.hid (World.ownsRow.alloc K2'.out (.cells zeroR.cells.toArray 68))
          have j3 : w5.heap.size < (w5.alloc (.cells zeroR.cells.toArray 68)).heap.size := lt_of_last
          clear hpk hone HNX
          go_wp2_with (with_reducible refine stop_store 68 rfl ?_)
          refine store_row 68 (.tmp 13) (.tmp 44) rfl rfl rfl w5.heap.size zeroR.cells.toArray rfl rfl 68 zeroR.cells.toArray (heap_alloc_last w5 _) infoR rfl (oneR _) ?_
          rw [World.setRow_alloc_new]
          generalize w5.alloc (.cells zeroR.cells.toArray 68) = w6 at *
          go_wp2
          go_round
          case rel => exact ⟨z + 1, by omega, by omega, by go_num, Lib.hid (by rw [HH.out]; exact j2.out), j1, by omega⟩
          case measure => simp [intOf]; omega
        | some r =>
          simp only [pickV]
          have hone : oneB rs role op ty nu p = [(nu, r)] := oneB_some hpk
          rw [hone] at HNX
          have HH := Lib.hid HNX.out
          have j1 := Lib.hid (K1'.out.alloc (by omega) (.cells r.cells.toArray 68))
          have j2 := Lib.hid (World.ownsRow.alloc K2'.out (.cells r.cells.toArray 68))
          have j3 : w5.heap.size < (w5.alloc (.cells r.cells.toArray 68)).heap.size := lt_of_last
          have j4 := Lib.hid (heap_alloc_last w5 (.cells r.cells.toArray 68))
          clear hpk hone HNX
          go_wp2_with (with_reducible refine stop_store 68 rfl ?_)
          refine store_row 68 (.tmp 13) (.tmp 44) rfl rfl rfl w5.heap.size r.cells.toArray rfl rfl 68 zeroR.cells.toArray (heap_alloc_last w5 _) infoR rfl (oneR _) ?_
          rw [World.setRow_alloc_new]
          generalize w5.alloc (.cells r.cells.toArray 68) = w6 at *
          generalize w5.heap.size = m3 at *
          go_wp2_with (with_reducible refine stop_load 68 rfl ?_)
          refine load_mid 68 (.tmp 13) rfl rfl (some 49) rfl m3 0 rfl r.cells.toArray (rangeAt_row j4.out) _ Try.underlying68 rfl infoR ?_
          refine push rfl rfl rfl 50 51 52 rfl rfl rfl (.tmp 48) (.tmp 49) (.tmp 47) rfl rfl rfl nu r u9 _ (w.heap.size + 1) rfl rfl rfl rfl rfl j2.out (by omega) HCL.out j1.out ?_
          intro v' w7 hc7 hb7
          have hs7 := hb7.size
          have q1 : ChoicesAt w7 (w.heap.size + 1) v' (preC rs role op p bs (z + 1)) := by rw [HH.out]; exact hc7
          have Q1 := Lib.hid q1
          have Q2 := Lib.hid hb7
          clear hc7 hb7 q1 j1 j2 j4
          go_wp2
          go_round
          case rel => exact ⟨z + 1, by omega, by omega, by go_num, Q1, Q2, by omega⟩
          case measure => simp [intOf]; omega
end Go.Proofs.Ythoickghfjgmmaa.Pol
