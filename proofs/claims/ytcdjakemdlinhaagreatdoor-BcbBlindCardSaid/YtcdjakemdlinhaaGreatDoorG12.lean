/-
  Several texts in one: Enf Bli1 Egn1 Mix7 Mix8 Sco1 Bcb1.
  Conditions: named at each.
-/
import Derived.Test.YtcdjakemdlinhaaGreatDoorG11
import Derived.WalkLawsBesides
import Derived.Lib.Hide
import Derived.Deep.AppendLies
import Derived.OwnWalk
import Derived.Laws.OwnMore
import Derived.BigRegion
set_option linter.unusedSimpArgs false
set_option linter.unusedVariables false
set_option linter.unusedSectionVars false
namespace Go.Proofs.YtcdjakemdlinhaaGreatDoor.Eng
open Go.ChangeShapes Go.WideShapes Go.ChangeAt Go.RowKit Go.Deep Go.Great
def keyBytes (n : Int) : Int := if n = 1 then 16 else if n = 3 then 32 else 0
def bits (n : Int) : Int := if n = 5 then 256 else if n = 6 then 384 else if n = 7 then 512 else 0
def size (n : Int) : Int := if n = 1 then 16 else if n = 3 then 16 else if n = 5 then 32 else if n = 6 then 48 else if n = 7 then 64 else 0
theorem keyBytes_any (n : Int) (w : World) : Calls Tryz.prog 155 #[.int .i64 n] w fun e w' => e = .returned (.int .i64 (keyBytes n)) ∧ w = w' := by
 go_enter Tryz.func155, Tryz.ntmps155
 go_wp2
 all_goals (go_ret; refine ⟨?_, rfl⟩; simp_all [keyBytes])
theorem bits_any (n : Int) (w : World) : Calls Tryz.prog 145 #[.int .i64 n] w fun e w' => e = .returned (.int .i64 (bits n)) ∧ w = w' := by
 go_enter Tryz.func145, Tryz.ntmps145
 go_wp2
 all_goals (go_ret; refine ⟨?_, rfl⟩; simp_all [bits])
theorem size_any (n : Int) (w : World) : Calls Tryz.prog 294 #[.int .i64 n] w fun e w' => e = .returned (.int .i64 (size n)) ∧ w = w' := by
 have hs : size n = if 0 < keyBytes n then 16 else bits n / 8 := by unfold size keyBytes bits; (repeat' split) <;> first | rfl | omega
 have hb : 0 ≤ bits n ∧ bits n ≤ 512 := by unfold bits; (repeat' split) <;> omega
 have H := Lib.hid hs
 clear hs
 go_enter Tryz.func294, Tryz.ntmps294
 go_wp2_with (first | (go_at_call 155; refine (keyBytes_any _ _).mono ?_; rintro e w' ⟨rfl, rfl⟩) | (go_at_call 145; refine (bits_any _ _).mono ?_; rintro e w' ⟨rfl, rfl⟩))
 · go_ret; exact ⟨by rw [H.out, if_pos (by assumption)]; rfl, rfl⟩
 · go_ret; exact ⟨by rw [H.out, if_neg (by omega)]; rfl, rfl⟩
theorem infoU8 : (Tryz.prog.info? 5).map (fun i => (i.zero, i.size, i.bytes)) = some (some (.int .u8 0), 1, 1) := by kernel_rfl
def zeros (n : Nat) : List Nat := List.replicate n 0
theorem zeros_length (n : Nat) : (zeros n).length = n := List.length_replicate
theorem made_zeros (k : IntKind) (n : Nat) : madeCells #[.int k 0] n = nums k (zeros n) :=
 Array.toList_inj.1 (by rw [toList_madeCells_one]; simp [nums, zeros])
def freshF (id i : Nat) : Nat := id / 2 ^ (8 * (7 - i % 8)) % 256
def freshB (id n : Nat) : List UInt8 := (tab (freshF id) n).map UInt8.ofNat
theorem freshB_length (id n : Nat) : (freshB id n).length = n := by rw [freshB, List.length_map, tab_length]
set_option maxRecDepth 100000 in
theorem fresh_any (ib l c n : Nat) (p : Option Addr) (w : World) (h : w.cell? ⟨ib, 0, none⟩ = some (.slice p l c)) (hl : l ≤ 1000) (hn : n ≤ 100000) : Calls Tryz.prog 293 #[.pointer (some ⟨ib, 0, none⟩), .int .i64 n] w fun e w' => e = .returned (.string (B (freshB (l + 1) n))) ∧ Below w.heap.size w w' := by
 have hmk := run_make_row' (P := Tryz.prog) 160 5 (.int .u8 0) 1 Tryz.underlying160 infoU8 rfl .i64 .i64 n (by omega) (by omega) w
 rw [made_zeros] at hmk
 have hc : (w.alloc (.cells (nums .u8 (zeros n)) 5)).cell? ⟨ib, 0, none⟩ = some (.slice p l c) := by
  rw [World.cell?_alloc_lt _ _ _ (World.block_lt_of_cell? w ⟨ib, 0, none⟩ h)]; exact h
 have HR := Lib.hid (show freshB (l + 1) n = (tab (freshF (l + 1)) n).map UInt8.ofNat from rfl)
 obtain ⟨id, hid⟩ : ∃ id, l + 1 = id := ⟨_, rfl⟩
 have hidi : (l : Int) + 1 = (id : Int) := by omega
 have hidl : id ≤ 1001 := by omega
 rw [hid] at HR ⊢
 have HF := Lib.hid (show ∀ i, freshF id i = id / 2 ^ (8 * (7 - i % 8)) % 256 from fun _ => rfl)
 generalize freshB id n = res at *
 generalize freshF id = ff at *
 have hwi : IntKind.u64.wrap (id : Int) = (id : Int) := by simp [IntKind.wrap, IntKind.bits, IntKind.signed]; omega
 clear hid
 go_enter Tryz.func293, Tryz.ntmps293
 go_wp2
 have hrow := NumsAt.new w 5 .u8 (zeros n)
 have hbel : Below w.heap.size w (w.alloc (.cells (nums .u8 (zeros n)) 5)) := by ((repeat' (with_reducible first | exact Below.refl _ _ | assumption | refine Below.drew ?_ | refine below_drewN ?_ _ | refine Below.setCell ?_ ?_ _ | refine Below.alloc ?_ ?_ _ | refine Below.ext ?_ ?_ _ | refine Below.trans ?_ (Below.mono ‹_› ?_))) <;> first | omega | (simp; done) | (simp; omega))
 clear hmk hc h hwi hidi
 generalize w.alloc (.cells (nums .u8 (zeros n)) 5) = W1 at *
 go_loopw [19] (fun s19 wr => ∃ (i : Nat) (l : List Nat), i ≤ n ∧ s19 = .int .i64 i ∧ l = fillN ff (zeros n) i ∧ NumsAt wr w.heap.size 5 .u8 l ∧ Below w.heap.size w wr) (fun s _ => n - (intOf s).toNat)
 case atStart => exact ⟨0, zeros n, by omega, rfl, rfl, hrow, hbel⟩
 case round =>
  clear hrow hbel W1
  obtain ⟨i, l, hi, rfl, hl, hrow, hbel⟩ := hrel
  have hll : l.length = n := by rw [hl, fillN_length, zeros_length]
  have HL := Lib.hid hl
  have HBL := Lib.hid hbel
  by_cases hend : i = n
  ·
   have hlt : ¬ (i : Int) < (n : Int) := by omega
   have hst := string_of (P := Tryz.prog) wr 160 9 5 ⟨w.heap.size, 0, none⟩ n n l Tryz.underlying160 Tryz.underlying5 Tryz.underlying9 hll (fun j hj => by
    have e1 : (⟨w.heap.size, 0, none⟩ : Addr).add j = ⟨w.heap.size, j, none⟩ := by simp [Addr.add]; omega
    rw [e1]; exact hrow.cell j (by omega))
   have hres : NB l = B res := by
    rw [HL.out, hend, fillN_full _ (zeros_length n), HR.out]; rfl
   rw [hres] at hst
   clear hend hres hl hbel hrow
   go_wp2
   go_ret
   exact ⟨rfl, HBL.out⟩
  ·
   have hlt : (i : Int) < (n : Int) := by omega
   have hcl := hrow.cell i (by omega)
   have hfz := hrow.frozen i
   have HROW := Lib.hid hrow
   obtain ⟨r, hr⟩ : ∃ r, i % 8 = r := ⟨_, rfl⟩
   have hr8 : r < 8 := by omega
   obtain ⟨s, hs⟩ : ∃ s, 7 - r = s := ⟨_, rfl⟩
   have hsub : (7 : Int) - (r : Int) = (s : Int) := by omega
   obtain ⟨m, hm⟩ : ∃ m, 8 * s = m := ⟨_, rfl⟩
   have hmul : (8 : Int) * (s : Int) = (m : Int) := by omega
   have hm64 : (m : Int) < 64 := by omega
   have hm0 : (0 : Int) ≤ (m : Int) := by omega
   obtain ⟨y, hy⟩ : ∃ y, ff i = y := ⟨_, rfl⟩
   have hvi : (id : Int) / 2 ^ m % 256 = (y : Int) := by rw [← hy, HF.out, hr, hs, hm]; simp
   have hvw : IntKind.u8.wrap ((id : Int) / 2 ^ m) = (y : Int) := by rw [← hvi]; simp [IntKind.wrap, IntKind.bits, IntKind.signed]
   have htm : (i : Int).tmod 8 = (r : Int) := by rw [Int.tmod_eq_emod_of_nonneg (Int.natCast_nonneg _)]; omega
   have HY := Lib.hid hy
   have HR2 := Lib.hid (hrow.set i y)
   have HB2 := Lib.hid (Below.setCell hbel (show w.heap.size ≤ (⟨w.heap.size, i, none⟩ : Addr).block from Nat.le_refl _) (.int .u8 ((y : Nat) : Int)))
   have hs7 : s ≤ 7 := by omega
   clear hl hrow hbel hr hs hm hy
   go_wp2
   go_round
   case rel => exact ⟨i + 1, l.set i y, by omega, by go_num, by rw [fillN, ← HL.out, HY.out], HR2.out, HB2.out⟩
   case measure => simp [intOf]; omega
end Go.Proofs.YtcdjakemdlinhaaGreatDoor.Eng
namespace Go.Proofs.YtcdjakemdlinhaaGreatDoor.Sx
open Go.ChangeShapes Go.WideShapes Go.ChangeAt Go.RowKit Go.Deep
structure Alike (x y : Bk) : Prop where
 t : y.t = x.t
 n : y.n = x.n
 f : y.f = x.f
 c : y.c = x.c
 d : y.d.length = x.d.length
 s : x.t = 11 ∨ x.t = 12 → y.d = x.d
theorem Alike.refl (x : Bk) : Alike x x := ⟨rfl, rfl, rfl, rfl, rfl, fun _ => rfl⟩
def AlikeL : List Bk → List Bk → Prop
 | [], [] => True
 | x :: l, y :: m => Alike x y ∧ AlikeL l m
 | _, _ => False
theorem AlikeL.refl : ∀ l : List Bk, AlikeL l l
 | [] => trivial
 | x :: l => ⟨Alike.refl x, AlikeL.refl l⟩
theorem AlikeL.len : ∀ {l m : List Bk}, AlikeL l m → m.length = l.length
 | [], [], _ => rfl
 | _ :: l, _ :: m, h => by rw [List.length_cons, List.length_cons, AlikeL.len h.2]
 | [], _ :: _, h => h.elim
 | _ :: _, [], h => h.elim
theorem AlikeL.get : ∀ {l m : List Bk}, AlikeL l m → ∀ {i : Nat} {x : Bk}, l[i]? = some x → ∃ y, m[i]? = some y ∧ Alike x y
 | [], [], _, i, x, h => by simp at h
 | _ :: l, y :: m, h, 0, x, hx => by
  simp only [List.getElem?_cons_zero, Option.some.injEq] at hx
  subst hx
  exact ⟨y, rfl, h.1⟩
 | _ :: l, _ :: m, h, i + 1, x, hx => by
  simp only [List.getElem?_cons_succ] at hx ⊢
  exact AlikeL.get h.2 hx
 | [], _ :: _, h, _, _, _ => h.elim
 | _ :: _, [], h, _, _, _ => h.elim
theorem AlikeL.set : ∀ (l : List Bk) (i : Nat) {x y : Bk}, l[i]? = some x → Alike x y → AlikeL l (l.set i y)
 | [], i, x, y, h, _ => by simp at h
 | z :: l, 0, x, y, h, ha => by
  simp only [List.getElem?_cons_zero, Option.some.injEq] at h
  subst h
  exact ⟨ha, AlikeL.refl l⟩
 | z :: l, i + 1, x, y, h, ha => ⟨Alike.refl z, AlikeL.set l i (by simpa using h) ha⟩
theorem Alike.right {x y : Bk} (h : Alike x y) : bkRight y = bkRight x := by
 unfold bkRight
 rw [h.t, h.n, h.f, h.c, h.d]
theorem AlikeL.any {f g : Bk → Bool} (hf : ∀ x y, Alike x y → g y = f x) : ∀ {l m : List Bk}, AlikeL l m → m.any g = l.any f
 | [], [], _ => rfl
 | x :: l, y :: m, h => by rw [List.any_cons, List.any_cons, hf x y h.1, AlikeL.any hf h.2]
 | [], _ :: _, h => h.elim
 | _ :: _, [], h => h.elim
theorem AlikeL.find {f g : Bk → Bool} (hf : ∀ x y, Alike x y → g y = f x) : ∀ {l m : List Bk}, AlikeL l m → (l.find? f = none ∧ m.find? g = none) ∨ ∃ x y, l.find? f = some x ∧ m.find? g = some y ∧ Alike x y
 | [], [], _ => .inl ⟨rfl, rfl⟩
 | x :: l, y :: m, h => by
  rw [List.find?_cons, List.find?_cons, hf x y h.1]
  cases f x with
  | true => exact .inr ⟨x, y, rfl, rfl, h.1⟩
  | false => exact AlikeL.find hf h.2
 | [], _ :: _, h => h.elim
 | _ :: _, [], h => h.elim
theorem AlikeL.blksZ {l m : List Bk} (h : AlikeL l m) : blksZ m = blksZ l := by
 unfold Sx.blksZ
 rcases AlikeL.find (f := fun x => bkRight x != 0) (g := fun x => bkRight x != 0) (fun x y a => by simp only [a.right]) h with ⟨h1, h2⟩ | ⟨x, y, h1, h2, ha⟩
 · rw [h1, h2]
 ·
  rw [h1, h2]
  exact ha.right
theorem AlikeL.partsZ {p : Pr} {l m : List Bk} (h : AlikeL l m) : partsZ p m = partsZ p l := by
 unfold Sx.partsZ
 rw [h.blksZ]
theorem AlikeL.last {l m : List Bk} (h : AlikeL l m) : (l[l.length - 1]? = none ∧ m[m.length - 1]? = none) ∨ ∃ x y, l[l.length - 1]? = some x ∧ m[m.length - 1]? = some y ∧ Alike x y := by
 rw [h.len]
 cases hx : l[l.length - 1]? with
 | none =>
  refine .inl ⟨rfl, ?_⟩
  rw [List.getElem?_eq_none_iff] at hx ⊢
  rw [h.len]
  exact hx
 | some x =>
  obtain ⟨y, hy, ha⟩ := h.get hx
  exact .inr ⟨x, y, rfl, hy, ha⟩
theorem AlikeL.lastsB {l m : List Bk} (h : AlikeL l m) : lastsB m = lastsB l := by
 unfold Sx.lastsB
 rcases h.last with ⟨h1, h2⟩ | ⟨x, y, h1, h2, ha⟩
 · rw [h1, h2]
 ·
  rw [h1, h2]
  simp only [ha.t]
theorem AlikeL.fitsB {p : Pr} {l m : List Bk} (h : AlikeL l m) : fitsB p m = fitsB p l := by
 unfold Sx.fitsB
 rcases h.last with ⟨h1, h2⟩ | ⟨x, y, h1, h2, ha⟩
 · rw [h1, h2]
 ·
  rw [h1, h2]
  simp only [ha.d]
theorem AlikeL.onceF : ∀ {l m : List Bk} (a b : List (Int × Int)), AlikeL l m → onceF m a b = onceF l a b
 | [], [], _, _, _ => rfl
 | x :: l, y :: m, a, b, h => by
  rw [Sx.onceF, Sx.onceF, h.1.n, h.1.t, AlikeL.onceF _ _ h.2]
 | [], _ :: _, _, _, h => h.elim
 | _ :: _, [], _, _, h => h.elim
theorem AlikeL.findB {l m : List Bk} (h : AlikeL l m) (t : Int) : (findB m t).2 = (findB l t).2 := by
 unfold Sx.findB
 rcases AlikeL.find (f := fun x => x.t == t) (g := fun x => x.t == t) (fun x y a => by simp only [a.t]) h with ⟨h1, h2⟩ | ⟨x, y, h1, h2, ha⟩ <;> rw [h1, h2]
theorem AlikeL.rulesZ {p : Pr} {l m : List Bk} (h : AlikeL l m) : rulesZ p m = rulesZ p l := by
 unfold Sx.rulesZ Sx.onceB
 rw [h.len, h.lastsB, h.fitsB, h.findB, h.onceF]
theorem Alike.bytes {x y : Bk} (h : Alike x y) (hr : bkRight x = 0) : (bkBytes y).length = (bkBytes x).length := by
 obtain ⟨-, -, hc0, hc2, -, -⟩ := bkRight_parts hr
 have hstr : ∀ a b : List UInt8, a.length = b.length → (Itm.bytesB (strT a)).length = (Itm.bytesB (strT b)).length := fun a b e => by
  show (Itm.bytesB (.mk 2 0 a [] false)).length = (Itm.bytesB (.mk 2 0 b [] false)).length
  rw [Itm.bytes_str, Itm.bytes_str, List.length_append, List.length_append, e]
 have key : ∀ (a b c e : Itm.Tr) (d1 d2 z1 z2 : List UInt8), d1.length = d2.length → z1.length = z2.length → (Itm.bytesB (Itm.arrT [a, b, c, e, strT d1, strT z1])).length = (Itm.bytesB (Itm.arrT [a, b, c, e, strT d2, strT z2])).length := fun a b c e d1 d2 z1 z2 h1 h2 => by
  show (Itm.bytesB (.mk 4 0 [] _ false)).length = (Itm.bytesB (.mk 4 0 [] _ false)).length
  rw [Itm.bytes_arr, Itm.bytes_arr]
  have q1 := hstr _ _ h1
  have q2 := hstr _ _ h2
  simp only [List.length_append, Itm.bytesL, List.length_cons, List.length_nil, q1, q2]
 have key5 : ∀ (a b c e : Itm.Tr) (d1 d2 : List UInt8), d1.length = d2.length → (Itm.bytesB (Itm.arrT [a, b, c, e, strT d1])).length = (Itm.bytesB (Itm.arrT [a, b, c, e, strT d2])).length := fun a b c e d1 d2 h1 => by
  show (Itm.bytesB (.mk 4 0 [] _ false)).length = (Itm.bytesB (.mk 4 0 [] _ false)).length
  rw [Itm.bytes_arr, Itm.bytes_arr]
  have q1 := hstr _ _ h1
  simp only [List.length_append, Itm.bytesL, List.length_cons, List.length_nil, q1]
 have hz : ∀ l1 l2 : List UInt8, (crcB x.c l1).length = (crcB x.c l2).length := fun l1 l2 => by
  have h1 := crcB_len l1 hc0 hc2
  have h2 := crcB_len l2 hc0 hc2
  omega
 unfold bkBytes Bk.tree sumZ bkItems
 rw [h.t, h.n, h.f, h.c]
 by_cases hc : x.c = 0
 ·
  have hbe : (x.c == 0) = true := by simpa using hc
  have hne : (x.c != 0) = false := by simpa using hc
  simp only [hne, hbe, if_true, Bool.false_eq_true, if_false, List.append_nil]
  exact key5 _ _ _ _ _ _ h.d
 ·
  have hne : (x.c != 0) = true := by simpa using hc
  have hbe : (x.c == 0) = false := by simpa using hc
  simp only [hne, hbe, if_true, Bool.false_eq_true, if_false]
  exact key _ _ _ _ _ _ _ _ h.d (hz _ _)
theorem AlikeL.bytes : ∀ {l m : List Bk}, AlikeL l m → (∀ x ∈ l, bkRight x = 0) → (blksB m).length = (blksB l).length
 | [], [], _, _ => rfl
 | x :: l, y :: m, h, hr => by
  have := AlikeL.bytes h.2 fun z hz => hr z (List.mem_cons_of_mem _ hz)
  unfold blksB at this ⊢
  rw [List.flatMap_cons, List.flatMap_cons, List.length_append, List.length_append, this, h.1.bytes (hr x List.mem_cons_self)]
 | [], _ :: _, h, _ => h.elim
 | _ :: _, [], h, _ => h.elim
theorem blksZ_zero {l : List Bk} (h : blksZ l = 0) : ∀ x ∈ l, bkRight x = 0 := fun x hx => by
 unfold blksZ at h
 split at h
 ·
  next y hy =>
  have := List.find?_some hy
  rw [h] at this
  cases this
 ·
  next hn =>
  have := List.find?_eq_none.1 hn x hx
  simpa using this
theorem AlikeL.right {p : Pr} {l m : List Bk} (h : AlikeL l m) : bnRight p m = bnRight p l := by
 unfold bnRight madeZ
 rw [h.partsZ, h.rulesZ]
 cases hp : Sx.partsZ p l != 0 with
 | true => rw [if_pos rfl, if_pos rfl]
 | false =>
  have hp0 : Sx.partsZ p l = 0 := by simpa using hp
  have hb : Sx.blksZ l = 0 := by
   unfold Sx.partsZ at hp0
   split at hp0
   · next h1 => rw [hp0] at h1; cases h1
   · exact hp0
  have hl : (bnBytes p m).length = (bnBytes p l).length := by
   unfold bnBytes
   simp only [List.length_append, h.bytes (blksZ_zero hb)]
  rw [hl]
  rw [if_neg Bool.false_ne_true, if_neg Bool.false_ne_true]
  by_cases hr : (Sx.rulesZ p l != 0) = true
  · rw [if_pos hr, if_pos hr]
  ·
   rw [if_neg hr, if_neg hr]
   by_cases hb : decide (((bnBytes p l).length : Int) > 4000) = true
   · rw [if_pos hb, if_pos hb]
   · rw [if_neg hb, if_neg hb]
theorem AlikeL.opsF {typ kind ctx : Int} (ht : typ = 11 ∨ typ = 12) {out out' : Bk → Bool} (ho : ∀ x y, Alike x y → out' y = out x) : ∀ {l m : List Bk}, AlikeL l m → opsF typ kind ctx out' m = opsF typ kind ctx out l
 | [], [], _ => rfl
 | x :: l, y :: m, h => by
  rw [Sx.opsF, Sx.opsF, h.1.t, ho x y h.1, h.1.n, AlikeL.opsF ht ho h.2]
  cases hx : x.t != typ || out x with
  | true => rfl
  | false =>
   have hxt : x.t = typ := by
    rw [Bool.or_eq_false_iff] at hx
    simpa using hx.1
   rw [h.1.s (by rw [hxt]; exact ht)]
 | [], _ :: _, h => h.elim
 | _ :: _, [], h => h.elim
theorem AlikeL.opsB {l m : List Bk} (h : AlikeL l m) : opsB m = opsB l := by
 unfold Sx.opsB
 rw [AlikeL.opsF (.inr rfl) (out := fun _ => false) (fun _ _ _ => rfl) h]
 cases Sx.opsF 12 2 2 (fun _ => false) l with
 | none => rfl
 | some se =>
  simp only
  rw [AlikeL.opsF (.inl rfl) (out := fun x => amongB se 2 x.n) (fun x y a => by simp only [a.n]) h]
theorem AlikeL.getB {l m : List Bk} (h : AlikeL l m) (t : Int) : (getB m t).2 = (getB l t).2 ∧ Alike (getB l t).1 (getB m t).1 := by
 unfold Sx.getB
 rcases AlikeL.find (f := fun x => x.n == t) (g := fun x => x.n == t) (fun x y a => by simp only [a.n]) h with ⟨h1, h2⟩ | ⟨x, y, h1, h2, ha⟩
 · rw [h1, h2]; exact ⟨rfl, Alike.refl _⟩
 · rw [h1, h2]; exact ⟨rfl, ha⟩
theorem Alike.safe {x y : Bk} (h : Alike x y) : safeB y = safeB x := by unfold safeB; rw [h.t]
theorem Alike.changes {x y : Bk} (h : Alike x y) : changesB y = changesB x := by unfold changesB; rw [h.t]
theorem AlikeL.sealsG {l m : List Bk} (h : AlikeL l m) : ∀ (r pre : List Op), sealsG m pre r = sealsG l pre r
 | [], _ => rfl
 | o :: r, pre => by rw [Sx.sealsG, Sx.sealsG, AlikeL.sealsG h r, (h.getB o.t).2.t, (h.getB o.t).2.changes]
theorem AlikeL.mixZ {p : Pr} {l m : List Bk} (h : AlikeL l m) (ops : List Op) : mixZ p m ops = mixZ p l ops := by
 have h1 : wholeB p m = wholeB p l := by unfold wholeB; rw [AlikeL.any (fun x y a => a.safe) h]
 have h2 : thereB m ops = thereB l ops := by
  unfold thereB
  congr 1
  funext o
  rw [(h.getB o.t).1]
 have h3 : signsB m ops = signsB l ops := by
  unfold signsB
  congr 1
  funext o
  unfold signOk
  rw [(h.getB o.t).2.safe, (h.getB o.t).2.changes]
 unfold Sx.mixZ
 rw [h1, h2, h.sealsG, h3]
theorem AlikeL.idxF {num : Int} : ∀ {l m : List Bk} (i : Nat), AlikeL l m → idxF num i m = idxF num i l
 | [], [], _, _ => rfl
 | x :: l, y :: m, i, h => by rw [Sx.idxF, Sx.idxF, h.1.n, AlikeL.idxF (i + 1) h.2]
 | [], _ :: _, _, h => h.elim
 | _ :: _, [], _, h => h.elim
theorem AlikeL.idxB {l m : List Bk} (h : AlikeL l m) (num : Int) : idxB m num = idxB l num := AlikeL.idxF 0 h
theorem AlikeL.freeF {l m : List Bk} (h : AlikeL l m) : ∀ (f n : Nat), freeF m f n = freeF l f n
 | 0, _ => rfl
 | f + 1, n => by rw [Sx.freeF, Sx.freeF, h.idxB, AlikeL.freeF h f]
theorem AlikeL.freeB {l m : List Bk} (h : AlikeL l m) : freeB m = freeB l := by
 unfold Sx.freeB
 rw [h.len, h.freeF]
theorem AlikeL.soundZ {p : Pr} {l m : List Bk} (h : AlikeL l m) : soundZ p m = soundZ p l := by
 unfold Sx.soundZ
 rw [h.right, h.opsB]
 split
 · rfl
 ·
  cases Sx.opsB l with
  | none => rfl
  | some ops => exact h.mixZ ops
theorem AlikeL.listedZ {l m : List Bk} (h : AlikeL l m) (kind : Int) (ts : List Int) : listedZ m kind ts = listedZ l kind ts := by
 have h1 : (ts.all fun t => (Sx.getB m t).2 || t == 0) = ts.all fun t => (Sx.getB l t).2 || t == 0 := by
  congr 1
  funext t
  rw [(h.getB t).1]
 unfold Sx.listedZ
 rw [h1]
theorem AlikeL.mayZ {p : Pr} {l m : List Bk} (h : AlikeL l m) (kind : Int) (ts : List Int) : mayZ p m kind ts = mayZ p l kind ts := by
 unfold Sx.mayZ mayOps
 rw [h.soundZ, h.listedZ, h.opsB, h.freeB, h.mixZ]
open Eng in
theorem size_pos (v : Int) : 0 ≤ size v ∧ size v ≤ 64 := by unfold size; (repeat' split) <;> omega
def sizeN (v : Int) : Nat := (Eng.size v).toNat
theorem sizeN_le (v : Int) : sizeN v ≤ 64 := by have := (size_pos v).2; unfold sizeN; omega
theorem gKey_any (v : Int) (w : World) : Calls Tryz.prog 155 #[.int .i64 v] w (Ret (.int .i64 (Eng.keyBytes v)) w) := (Eng.keyBytes_any v w).mono fun e w' h => ⟨h.1, h.2 ▸ Below.refl _ _⟩
theorem gSize_any (v : Int) (w : World) : Calls Tryz.prog 294 #[.int .i64 v] w (Ret (.int .i64 ((sizeN v : Nat) : Int)) w) := (Eng.size_any v w).mono fun e w' h => ⟨by rw [h.1]; unfold sizeN; rw [Int.toNat_of_nonneg (size_pos v).1], h.2 ▸ Below.refl _ _⟩
theorem gFresh_any (ib l c n : Nat) (p : Option Addr) (w : World) {U : View} (hU : ∀ a v, U a = some v → w.cell? a = some v) (h : U ⟨ib, 0, none⟩ = some (.slice p l c)) (hl : l ≤ 1000) (hn : n ≤ 100000) : Calls Tryz.prog 293 #[.pointer (some ⟨ib, 0, none⟩), .int .i64 ((n : Nat) : Int)] w (Ret (.string (B (Eng.freshB (l + 1) n))) w) := Eng.fresh_any ib l c n p w (hU _ _ h) hl hn
def sealsP (v : Int) (key nonce : List UInt8) : Bool := if (if (if decide (Eng.keyBytes v > 0) then (((key.length : Nat) : Int) == Eng.keyBytes v) else false) then decide (((nonce.length : Nat) : Int) ≥ 8) else false) then decide (((nonce.length : Nat) : Int) ≤ 16) else false
theorem gSeals_any (v : Int) (key nonce : List UInt8) (w : World) : Calls Tryz.prog 113 #[.int .i64 v, .string (B key), .string (B nonce)] w (Ret (.bool (sealsP v key nonce)) w) := by
 refine sx_enter (f := 113) 27 View.no Tryz.func113 rfl rfl rfl (fun _ _ h => by cases h) ?_
 refine zQ 1 (zn (zQ 1 (sx_C 155 #[(I6 v)] (I6 (Eng.keyBytes v)) (fun W hM => gKey_any v W) ?_)))
 refine zq 2 (sx_BL 10 (decide ((Eng.keyBytes v) > 0)) (fun h0 => ?_) (fun h0 => ?_))
 ·
  refine zq 3 (sx_C 155 #[(I6 v)] (I6 (Eng.keyBytes v)) (fun W hM => gKey_any v W) ?_)
  refine zq 3 (sx_BL 17 ((((key).length : Nat) : Int) == (Eng.keyBytes v)) (fun h1 => ?_) (fun h1 => ?_))
  ·
   refine zq 5 (sx_BL 22 (decide ((((nonce).length : Nat) : Int) ≥ 8)) (fun h2 => ?_) (fun h2 => ?_))
   ·
    refine zq 5 (zn (sx_ret (sx_Z [6] [(.bool (decide ((((nonce).length : Nat) : Int) ≤ 16)))] (fun W' hM => ?_))))
    exact ⟨by simp only [resV,sealsP,h0,h1,h2,bs,if_true,if_false,cond_true,cond_false,reduceIte],hM.below⟩
   ·
    refine zq 5 (zn (sx_ret (sx_Z [6] [(.bool false)] (fun W' hM => ?_))))
    exact ⟨by simp only [resV,sealsP,h0,h1,h2,bs,if_true,if_false,cond_true,cond_false,reduceIte],hM.below⟩
  ·
   refine zq 10 (zn (sx_ret (sx_Z [6] [(.bool false)] (fun W' hM => ?_))))
   exact ⟨by simp only [resV,sealsP,h0,h1,bs,if_true,if_false,cond_true,cond_false,reduceIte],hM.below⟩
 ·
  refine zq 17 (zn (sx_ret (sx_Z [6] [(.bool false)] (fun W' hM => ?_))))
  exact ⟨by simp only [resV,sealsP,h0,bs,if_true,if_false,cond_true,cond_false,reduceIte],hM.below⟩
def entC (v : Int) (key nonce wth text made tag : List UInt8) : List Value := [.int .i64 v, .string (B key), .string (B nonce), .string (B wth), .string (B text), .string (B made), .string (B tag)]
def Tab1 (ib : Nat) (ent : List Value) (V : View) (σ : Blks) : Prop := ∃ a c, σ = [(ib, .cells #[.slice a 1 c] 76 (0, 0))] ∧ RowAt V a ent
set_option maxHeartbeats 16000000 in
theorem iSeal_any (vr : Int) (key nonce wth text : List UInt8) (ib : Nat) {W0 : Cx} {U : View} {σF : Blks} {W : World} (hx : text.length ≤ 100000) (hM : Mem W0 U ([(ib, .cells #[.slice none 0 0] 76 (0, 0))] ++ σF) W) : Calls Tryz.prog 291 #[.pointer (some ⟨ib, 0, none⟩), .int .i64 vr, .string (B key), .string (B nonce), .string (B wth), .string (B text)] W (RetM W0 U σF fun r V σ' => r = .tuple #[.string (B (Eng.freshB 1 text.length)), .string (B (Eng.freshB 1 (sizeN vr)))] ∧ Tab1 ib (entC vr key nonce wth text (Eng.freshB 1 text.length) (Eng.freshB 1 (sizeN vr))) V σ') := by
 have hz := sizeN_le vr
 have hM2 : Mem W0 U ([(bK ib [S0] 76)] ++ σF) W := hM.eqv (by kernel_rfl)
 refine sx_enterM (f := 291) 43 U Tryz.func291 rfl rfl rfl hM2 ?_
 refine zQ 2 (zn (zQ 8 (sx_C 293 #[(Pt ib 0),(I6 (((text).length : Nat) : Int))] (St (Eng.freshB 1 ((text).length))) (fun W hM => gFresh_any ib 0 0 ((text).length) none W (U := allU W) (fun _ _ h => h) (rangeAt_own hM 0 ib [S0] 76 (by kernel_rfl) 0 _ rfl) (by omega) (by omega)) ?_)))
 refine zq 2 (sx_C 294 #[(I6 vr)] (I6 ((sizeN vr : Nat) : Int)) (fun W hM => gSize_any vr W) ?_)
 refine sx_C 293 #[(Pt ib 0),(I6 ((sizeN vr : Nat) : Int))] (St (Eng.freshB 1 (sizeN vr))) (fun W hM => gFresh_any ib 0 0 (sizeN vr) none W (U := allU W) (fun _ _ h => h) (rangeAt_own hM 0 ib [S0] 76 (by kernel_rfl) 0 _ rfl) (by omega) (by omega)) ?_
 refine zq 1 (sx_NI 1 (fun b0 => ?_))
 refine sx_S 1 b0 (zn (zs ?_))
 refine sx_drawnQ 8 3 0 [29,30,31,32,33,34,35,36] [.val (Pt ib 0),.val (Pt ib 0),.val (Pt ib 0),.val (Pt ib 0),.val S0,.val (.agg #[(I6 vr),(St key),(St nonce),(St wth),(St text),(St (Eng.freshB 1 ((text).length))),(St (Eng.freshB 1 (sizeN vr)))]),.mem (fun v V => ∃ g,v = (Sl g 0 1 1) ∧ V.range g 0 [(I6 vr),(St key),(St nonce),(St wth),(St text),(St (Eng.freshB 1 ((text).length))),(St (Eng.freshB 1 (sizeN vr)))]),.mem (fun v V => ∃ a c,v = .slice a 1 c ∧ RowAt V a [(I6 vr),(St key),(St nonce),(St wth),(St text),(St (Eng.freshB 1 ((text).length))),(St (Eng.freshB 1 (sizeN vr)))])] (by kernel_rfl) rfl rfl (by kernel_rfl) (by kernel_rfl) (by kernel_rfl) (by kernel_rfl) (by kernel_rfl) (by kernel_rfl) (by simp only [List.forall_mem_cons]; exact ⟨trivial,trivial,trivial,trivial,trivial,trivial,by intro v V V2 hV2 hP; (first | trivial | exact PhiMono.go hP hV2 | (obtain ⟨g,e,hP⟩ := hP; exact ⟨g,e,hP.le hV2⟩) | (obtain ⟨g,e,hP⟩ := hP; exact ⟨g,e,View.range_le hV2 hP⟩) | (obtain ⟨a,c,e,hP⟩ := hP; exact ⟨a,c,e,hP.le hV2⟩)),by intro v V V2 hV2 hP; (first | trivial | exact PhiMono.go hP hV2 | (obtain ⟨g,e,hP⟩ := hP; exact ⟨g,e,hP.le hV2⟩) | (obtain ⟨g,e,hP⟩ := hP; exact ⟨g,e,View.range_le hV2 hP⟩) | (obtain ⟨a,c,e,hP⟩ := hP; exact ⟨a,c,e,hP.le hV2⟩)),fun _ h => by cases h⟩) ⟨?_,?_,?_,?_,?_,?_,?_,?_,trivial⟩ [12,13,14,29,36] (fun u => [(St []),(St []),(Pt b0 0),(Pt ib 0),u 7]) (fun u => by kernel_rfl) ?_
 · exact oqQ 0 rfl (Pt ib 0) (Pt ib 0) rfl rfl (fun u => by kernel_rfl) (fun u => by kernel_rfl)
 · exact oqQ 1 rfl (Pt ib 0) (Pt ib 0) rfl rfl (fun u => by kernel_rfl) (fun u => by kernel_rfl)
 · exact oqQ 2 rfl (Pt ib 0) (Pt ib 0) rfl rfl (fun u => by kernel_rfl) (fun u => by kernel_rfl)
 · exact oqQ 3 rfl (Pt ib 0) (Pt ib 0) rfl rfl (fun u => by kernel_rfl) (fun u => by kernel_rfl)
 · exact oqL 4 0 ib 1 [S0] 76 rfl S0 rfl (by kernel_rfl) (fun u => by kernel_rfl) (fun u => by kernel_rfl)
 · exact oqL 5 1 b0 7 [(I6 vr),(St key),(St nonce),(St wth),(St text),(St (Eng.freshB 1 ((text).length))),(St (Eng.freshB 1 (sizeN vr)))] 354 rfl (.agg #[(I6 vr),(St key),(St nonce),(St wth),(St text),(St (Eng.freshB 1 ((text).length))),(St (Eng.freshB 1 (sizeN vr)))]) rfl (by kernel_rfl) (fun u => by kernel_rfl) (fun u => by kernel_rfl)
 ·
  refine oqN 6 rfl rfl (fun v V => ∃ g,v = (Sl g 0 1 1) ∧ V.range g 0 [(I6 vr),(St key),(St nonce),(St wth),(St text),(St (Eng.freshB 1 ((text).length))),(St (Eng.freshB 1 (sizeN vr)))]) rfl [34] (fun u => [(.agg #[(I6 vr),(St key),(St nonce),(St wth),(St text),(St (Eng.freshB 1 ((text).length))),(St (Eng.freshB 1 (sizeN vr)))])]) (fun u => by kernel_rfl) (fun u V hV hdq => ?_)
  refine ⟨[(I6 vr),(St key),(St nonce),(St wth),(St text),(St (Eng.freshB 1 ((text).length))),(St (Eng.freshB 1 (sizeN vr)))],354,fun r => (Sl r 0 1 1),?_,fun g V' hV' hR => ?_⟩
  · kernel_rfl
  exact ⟨g,rfl,hR⟩
 ·
  refine oqA 7 rfl rfl (fun v V => ∃ a c,v = .slice a 1 c ∧ RowAt V a [(I6 vr),(St key),(St nonce),(St wth),(St text),(St (Eng.freshB 1 ((text).length))),(St (Eng.freshB 1 (sizeN vr)))]) rfl [33,35] (fun u => [S0,u 6]) (fun u => by kernel_rfl) 354 74 7 104 1 _ _ rfl (by decide) (by decide) (by decide) (by kernel_rfl) (by kernel_rfl) (by kernel_rfl) (fun u V hV hdq => ?_)
  have e6 : (fun v V => ∃ g,v = (Sl g 0 1 1) ∧ V.range g 0 [(I6 vr),(St key),(St nonce),(St wth),(St text),(St (Eng.freshB 1 ((text).length))),(St (Eng.freshB 1 (sizeN vr)))]) (u 6) V := hdq 6 (by kernel_rfl)
  obtain ⟨g6,q6,t6⟩ := e6
  exact ⟨g6,0,1,[(I6 vr),(St key),(St nonce),(St wth),(St text),(St (Eng.freshB 1 ((text).length))),(St (Eng.freshB 1 (sizeN vr)))],by kernel_rfl,by rw [q6]; kernel_rfl,t6,rfl,List.all_eq_true.1 (by kernel_rfl),fun g cap V' hV' hR => ⟨some ⟨g,0,none⟩,cap,rfl,⟨fun _ => ⟨g,rfl,hR⟩⟩⟩⟩
 intro u1 V1 hV1 hdq1
 have e7_1 : (fun v V => ∃ a c,v = .slice a 1 c ∧ RowAt V a [(I6 vr),(St key),(St nonce),(St wth),(St text),(St (Eng.freshB 1 ((text).length))),(St (Eng.freshB 1 (sizeN vr)))]) (u1 7) V1 := hdq1 7 (by decide)
 obtain ⟨a7_1,c7_1,q7_1,t7_1⟩ := e7_1
 rw [q7_1]
 refine zq 2 (sx_S 0 ib (zn (zs (sx_W 5 1 0 [39,40,41,42,12] [.val (Pt b0 5),.val (St (Eng.freshB 1 ((text).length))),.val (Pt b0 6),.val (St (Eng.freshB 1 (sizeN vr))),.val (St (Eng.freshB 1 ((text).length)))] ⟨?_,?_,?_,?_,?_,trivial⟩ ?_))))
 · exact oQ 0 rfl (Pt b0 5) rfl
 · exact oL 1 1 b0 1 [(I6 vr),(St key),(St nonce),(St wth),(St text),(St (Eng.freshB 1 ((text).length))),(St (Eng.freshB 1 (sizeN vr)))] 354 rfl (St (Eng.freshB 1 ((text).length))) rfl
 · exact oQ 2 rfl (Pt b0 6) rfl
 · exact oL 3 1 b0 1 [(I6 vr),(St key),(St nonce),(St wth),(St text),(St (Eng.freshB 1 ((text).length))),(St (Eng.freshB 1 (sizeN vr)))] 354 rfl (St (Eng.freshB 1 (sizeN vr))) rfl
 · exact oQ 4 rfl (St (Eng.freshB 1 ((text).length))) rfl
 refine zq 1 (zn (sx_ret (sx_Z [12,13] [(St (Eng.freshB 1 ((text).length))),(St (Eng.freshB 1 (sizeN vr)))] (fun W' hM => ?_))))
 refine retM_at 0 2 (ib,.cells #[(.slice a7_1 1 c7_1)] 76 (0,0)) hM hV1 ⟨rfl,a7_1,c7_1,rfl,t7_1⟩
def EngAt (U : View) (eb ib : Nat) : Prop := U ⟨eb, 0, none⟩ = some (.iface 73 (.pointer (some ⟨ib, 0, none⟩)))
theorem EngAt.le {U V : View} (h : View.le U V) {eb ib : Nat} (he : EngAt U eb ib) : EngAt V eb ib := h _ _ he
def NewTab (ib : Nat) : Blks := [(ib, .cells #[.slice none 0 0] 76 (0, 0))]
def SealIs (ib : Nat) (vr : Int) (key nonce wth text : List UInt8) (r : Value) (V : View) (σ' : Blks) : Prop := if sealsP vr key nonce then r = .tuple #[.string (B (Eng.freshB 1 text.length)), .string (B (Eng.freshB 1 (sizeN vr))), .int .i64 0] ∧ Tab1 ib (entC vr key nonce wth text (Eng.freshB 1 text.length) (Eng.freshB 1 (sizeN vr))) V σ' else r = .tuple #[.string (B []), .string (B []), .int .i64 1] ∧ σ' = NewTab ib
theorem gSeal_any (vr : Int) (key nonce wth text : List UInt8) (eb ib : Nat) {W0 : Cx} {U : View} {σF : Blks} {W : World} (he : EngAt U eb ib) (hx : text.length ≤ 100000) (hM : Mem W0 U ([(ib, .cells #[.slice none 0 0] 76 (0, 0))] ++ σF) W) : Calls Tryz.prog 77 #[.pointer (some ⟨eb, 0, none⟩), .int .i64 vr, .string (B key), .string (B nonce), .string (B wth), .string (B text)] W (RetM W0 U σF (SealIs ib vr key nonce wth text)) := by
 have hM2 : Mem W0 U ([(bK ib [S0] 76)] ++ σF) W := hM.eqv (by kernel_rfl)
 refine sx_enterM (f := 77) 37 U Tryz.func77 rfl rfl rfl hM2 ?_
 refine zQ 3 (zn (zs (zQ 3 (sx_C 113 #[(I6 vr),(St key),(St nonce)] (.bool (sealsP vr key nonce)) (fun W hM => gSeals_any vr key nonce W) ?_))))
 refine zq 1 (zn (sx_D (!(sealsP vr key nonce)) (fun h0 => ?_) (fun h0 => ?_)))
 ·
  refine zQ 3 (zn (sx_ret (sx_Z [12,13,14] [(St []),(St []),(I6 1)] (fun W' hM => ?_))))
  refine retM_at 0 1 (ib,.cells #[.slice none 0 0] 76 (0,0)) hM (View.le_refl _) ?_
  unfold SealIs
  rw [if_neg (by have := h0; simpa using this)]
  exact ⟨rfl,rfl⟩
 ·
  refine zk (zQ 3 (zV eb (0) (.iface 73 (Pt ib 0)) he 78 (.tmp 25) _ Tryz.underlying78 rfl ?_))
  refine zq 5 (sx_MI 0 (bK ib [S0] 76) 291 #[(Pt ib 0),(I6 vr),(St key),(St nonce),(St wth),(St text)] (fun r V σ' => r = .tuple #[.string (B (Eng.freshB 1 text.length)),.string (B (Eng.freshB 1 (sizeN vr)))] ∧ Tab1 ib (entC vr key nonce wth text (Eng.freshB 1 text.length) (Eng.freshB 1 (sizeN vr))) V σ') (fun W hM => iSeal_any vr key nonce wth text ib hx hM) (fun v0 V0 s0 hV0 hP0 => ?_))
  obtain ⟨rfl,a0,c0,rfl,t0⟩ := hP0
  refine zq 5 (zn (zQ 5 (zn (sx_ret (sx_Z [12,13,14] [(St (Eng.freshB 1 text.length)),(St (Eng.freshB 1 (sizeN vr))),(I6 0)] (fun W' hM => ?_))))))
  refine retM_at 0 1 (ib,.cells #[(.slice a0 1 c0)] 76 (0,0)) hM hV0 ?_
  unfold SealIs
  rw [if_pos (by have := h0; simpa using this)]
  exact ⟨rfl,a0,c0,rfl,t0⟩
def IdealIs (r : Value) (V : View) (σ' : Blks) : Prop := ∃ eb ib, r = .pointer (some ⟨eb, 0, none⟩) ∧ EngAt V eb ib ∧ σ' = NewTab ib
theorem ideal_any {W0 : Cx} {U : View} {σF : Blks} {W : World} (hM : Mem W0 U ([] ++ σF) W) : Calls Tryz.prog 14 #[] W (RetM W0 U σF IdealIs) := by
 refine sx_enterM (f := 14) 6 U Tryz.func14 rfl rfl rfl hM ?_
 refine zQ 1 (zn (zQ 1 (sx_NI 0 (fun b0 => ?_))))
 refine zq 2 (sx_NI 1 (fun b1 => ?_))
 refine sx_freeze [(bK b0 [S0] 76)] ([] ++ σF) b1 [(.iface 73 (Pt b0 0))] 80 (by kernel_rfl) (fun V2 hV2 hR2 => ?_)
 refine zq 1 (zn (sx_ret (sx_Z [0] [(Pt b1 0)] (fun W' hM => ?_))))
 exact retM_at 0 1 (b0,.cells #[.slice none 0 0] 76 (0,0)) hM hV2 ⟨b1,b0,rfl,hR2 0 _ rfl,rfl⟩
def mayDel (kind t0 : Int) (o : Op) : Bool := kind == 2 && o.k == 1 && o.n == t0
theorem may1_any (x : Op) (kind t0 : Int) (pk pt bT fT nT cT : Nat) (w : World) {U : View} (hU : ∀ a v, U a = some v → w.cell? a = some v) (hk : U ⟨pk, 0, none⟩ = some (.int .i64 kind)) (ht : U ⟨pt, 0, none⟩ = some (.slice (some ⟨bT, fT, none⟩) nT cT)) (hz0 : U ⟨bT, fT + 0, none⟩ = some (.int .i64 t0)) (hn : 0 < nT) : Calls Tryz.prog 84 #[x.V, .pointer (some ⟨pk, 0, none⟩), .pointer (some ⟨pt, 0, none⟩)] w (Ret (.bool (mayDel kind t0 x)) w) := by
 refine sx_enter (f := 84) 20 U Tryz.func84 rfl rfl rfl hU ?_
 refine zs (zr (sx_N (fun b0 => (zq 1 (zn (zs ?_))))))
 rcases Bool.eq_false_or_eq_true (kind == 2) with h0 | h0
 ·
  have h0d := eq_of_beq h0
  rcases Bool.eq_false_or_eq_true (x.k == 1) with h1 | h1
  ·
   have h1d := eq_of_beq h1
   refine sx_W 13 3 4 [5,6,7,8,9,10,11,12,13,14,15,16,17] [.val (I6 kind),.val (.bool true),.val (.bool true),.val (Pt b0 0),.val (I6 x.k),.val (.bool true),.val (.bool true),.val (.bool true),.val (Pt b0 1),.val (I6 x.n),.val (Sl bT fT nT cT),.val (Pt bT (fT + 0)),.val (I6 t0)] ⟨?_,?_,?_,?_,?_,?_,?_,?_,?_,?_,?_,?_,?_,trivial⟩ ?_
   · exact obU1 0 pk (0) (I6 kind) hk 3 _ rfl rfl rfl (by kernel_rfl) _ Tryz.underlying3 rfl (by kernel_rfl)
   · exact oE 1 rfl (.bool (kind == 2)) (.bool true) (congrArg Value.bool h0) rfl
   · exact oQ 2 rfl (.bool true) rfl
   · exact oQ 3 rfl (Pt b0 0) rfl
   · exact oL 4 0 b0 1 [(I6 x.k),(I6 x.n),(I6 x.t)] 153 rfl (I6 x.k) rfl
   · exact oE 5 rfl (.bool (x.k == 1)) (.bool true) (congrArg Value.bool h1) rfl
   · exact oQ 6 rfl (.bool true) rfl
   · exact oQ 7 rfl (.bool true) rfl
   · exact oQ 8 rfl (Pt b0 1) rfl
   · exact oL 9 0 b0 1 [(I6 x.k),(I6 x.n),(I6 x.t)] 153 rfl (I6 x.n) rfl
   · exact obU1 10 pt (0) (Sl bT fT nT cT) ht 48 _ rfl rfl rfl (by kernel_rfl) _ Tryz.underlying48 rfl (by kernel_rfl)
   · exact obR 11 rfl (Pt bT (fT + 0)) rfl (by kernel_rfl) (run_ix1 _ 3 _ _ rfl bT fT nT cT 0 .i64 (by kernel_rfl) (by kernel_rfl) (by first | assumption | omega) (by kernel_rfl) (by kernel_rfl)) (by kernel_rfl)
   · exact obU1 12 bT (fT + 0) (I6 t0) hz0 3 _ rfl rfl rfl (by kernel_rfl) _ Tryz.underlying3 rfl (by kernel_rfl)
   refine zq 3 (zn (sx_ret (sx_Z [4] [(.bool (x.n == t0))] (fun W' hM => ?_))))
   exact ⟨by simp only [resV,mayDel,h0,h1,bs,if_true,if_false,cond_true,cond_false,reduceIte],hM.below⟩
  ·
   refine sx_W 13 3 4 [5,6,7,8,9,10,11,12,13,14,15,16,17] [.val (I6 kind),.val (.bool true),.val (.bool true),.val (Pt b0 0),.val (I6 x.k),.val (.bool false),.val (.bool false),.val (.bool false),.val undef,.val undef,.val undef,.val undef,.val undef] ⟨?_,?_,?_,?_,?_,?_,?_,?_,?_,?_,?_,?_,?_,trivial⟩ ?_
   · exact obU1 0 pk (0) (I6 kind) hk 3 _ rfl rfl rfl (by kernel_rfl) _ Tryz.underlying3 rfl (by kernel_rfl)
   · exact oE 1 rfl (.bool (kind == 2)) (.bool true) (congrArg Value.bool h0) rfl
   · exact oQ 2 rfl (.bool true) rfl
   · exact oQ 3 rfl (Pt b0 0) rfl
   · exact oL 4 0 b0 1 [(I6 x.k),(I6 x.n),(I6 x.t)] 153 rfl (I6 x.k) rfl
   · exact oE 5 rfl (.bool (x.k == 1)) (.bool false) (congrArg Value.bool h1) rfl
   · exact oQ 6 rfl (.bool false) rfl
   · exact oQ 7 rfl (.bool false) rfl
   · exact obS 8 rfl rfl (by kernel_rfl)
   · exact obS 9 rfl rfl (by kernel_rfl)
   · exact obS 10 rfl rfl (by kernel_rfl)
   · exact obS 11 rfl rfl (by kernel_rfl)
   · exact obS 12 rfl rfl (by kernel_rfl)
   refine zq 3 (zn (sx_ret (sx_Z [4] [(.bool false)] (fun W' hM => ?_))))
   exact ⟨by simp only [resV,mayDel,h0,h1,bs,if_true,if_false,cond_true,cond_false,reduceIte],hM.below⟩
 ·
  refine sx_W 13 3 4 [5,6,7,8,9,10,11,12,13,14,15,16,17] [.val (I6 kind),.val (.bool false),.val (.bool false),.val undef,.val undef,.val undef,.val (.bool false),.val (.bool false),.val undef,.val undef,.val undef,.val undef,.val undef] ⟨?_,?_,?_,?_,?_,?_,?_,?_,?_,?_,?_,?_,?_,trivial⟩ ?_
  · exact obU1 0 pk (0) (I6 kind) hk 3 _ rfl rfl rfl (by kernel_rfl) _ Tryz.underlying3 rfl (by kernel_rfl)
  · exact oE 1 rfl (.bool (kind == 2)) (.bool false) (congrArg Value.bool h0) rfl
  · exact oQ 2 rfl (.bool false) rfl
  · exact obS 3 rfl rfl (by kernel_rfl)
  · exact obS 4 rfl rfl (by kernel_rfl)
  · exact obS 5 rfl rfl (by kernel_rfl)
  · exact oQ 6 rfl (.bool false) rfl
  · exact oQ 7 rfl (.bool false) rfl
  · exact obS 8 rfl rfl (by kernel_rfl)
  · exact obS 9 rfl rfl (by kernel_rfl)
  · exact obS 10 rfl rfl (by kernel_rfl)
  · exact obS 11 rfl rfl (by kernel_rfl)
  · exact obS 12 rfl rfl (by kernel_rfl)
  refine zq 3 (zn (sx_ret (sx_Z [4] [(.bool false)] (fun W' hM => ?_))))
  exact ⟨by simp only [resV,mayDel,h0,bs,if_true,if_false,cond_true,cond_false,reduceIte],hM.below⟩
structure MaySees (U : View) (kind t0 : Int) (pk pt : Nat) : Prop where
 go : ∃ bT fT nT cT, U ⟨pk, 0, none⟩ = some (.int .i64 kind) ∧ U ⟨pt, 0, none⟩ = some (.slice (some ⟨bT, fT, none⟩) nT cT) ∧ U ⟨bT, fT + 0, none⟩ = some (.int .i64 t0) ∧ 0 < nT
theorem MaySees.le {U V : View} {kind t0 : Int} {pk pt : Nat} (h : View.le U V) (hs : MaySees U kind t0 pk pt) : MaySees V kind t0 pk pt := by
 obtain ⟨bT, fT, nT, cT, h1, h2, h3, h4⟩ := hs.go
 exact ⟨bT, fT, nT, cT, h _ _ h1, h _ _ h2, h _ _ h3, h4⟩
theorem may1_sees (x : Op) (kind t0 : Int) (pk pt : Nat) (w : World) {U : View} (hU : ∀ a v, U a = some v → w.cell? a = some v) (hs : MaySees U kind t0 pk pt) : Calls Tryz.prog 84 #[x.V, .pointer (some ⟨pk, 0, none⟩), .pointer (some ⟨pt, 0, none⟩)] w (Ret (.bool (mayDel kind t0 x)) w) := by
 obtain ⟨bT, fT, nT, cT, h1, h2, h3, h4⟩ := hs.go
 exact may1_any x kind t0 pk pt bT fT nT cT w hU h1 h2 h3 h4
def dlIdx (kind t0 : Int) : Nat → List Op → Int
 | _, [] => -1
 | i, x :: r => if mayDel kind t0 x then (i : Int) else dlIdx kind t0 (i + 1) r
theorem dlIdx_drop {kind t0 : Int} {l : List Op} {i : Nat} {y : Op} (h : l[i]? = some y) : dlIdx kind t0 i (l.drop i) = if mayDel kind t0 y then (i : Int) else dlIdx kind t0 (i + 1) (l.drop (i + 1)) := by
 rw [drop_some h, dlIdx]
theorem dlIdx_spec (kind t0 : Int) : ∀ (i : Nat) (l : List Op), (dlIdx kind t0 i l = -1 ∧ l.filter (fun o => !mayDel kind t0 o) = l) ∨ ∃ j : Nat, dlIdx kind t0 i l = ((i + j : Nat) : Int) ∧ j < l.length ∧ (l.take (j + 1)).filter (fun o => !mayDel kind t0 o) = l.take j
 | i, [] => .inl ⟨rfl, rfl⟩
 | i, x :: r => by
  rw [dlIdx]
  cases hx : mayDel kind t0 x with
  | true => exact .inr ⟨0, by simp, by simp, by simp [hx]⟩
  | false =>
   simp only [Bool.false_eq_true, if_false]
   rcases dlIdx_spec kind t0 (i + 1) r with ⟨h1, h2⟩ | ⟨j, h1, h2, h3⟩
   · exact .inl ⟨h1, by rw [List.filter_cons, hx, h2]; rfl⟩
   ·
    refine .inr ⟨j + 1, by rw [h1]; congr 1; omega, by rw [List.length_cons]; omega, ?_⟩
    rw [List.take_succ_cons, List.take_succ_cons, List.filter_cons, hx, h3]
    rfl
theorem dlIdx_any (l : List Op) (a : Option Addr) (c : Nat) (kind t0 : Int) (pk pt : Nat) (w : World) {U : View} (hU : ∀ a v, U a = some v → w.cell? a = some v) (hl : LsAt OpR 3 U a l) (hs : MaySees U kind t0 pk pt) :
    Calls Tryz.prog 126 #[.slice a l.length c, .func (.func 84) #[] #[.pointer (some ⟨pk, 0, none⟩), .pointer (some ⟨pt, 0, none⟩)]] w (Ret (.int .i64 (dlIdx kind t0 0 l)) w) := by
 have hlen := hl.len
 unfold R47 at hlen
 refine sx_enter (f := 126) 19 U Tryz.func126 rfl rfl rfl hU ?_
 refine zQ 1 (zn (zs (zQ 3 (zn (sx_block ?_)))))
 refine sx_loop (α := Nat) (fun x => [0,1,4,7,8].zip [(.slice a l.length c),(.func (.func 84) #[] #[(Pt pk 0),(Pt pt 0)]),(I6 0),(L6 l.length),(L6 x)]) (fun x => U) (fun x => []) (fun x => x ≤ l.length ∧ dlIdx kind t0 x (l.drop x) = dlIdx kind t0 0 l) (fun x => l.length - x) 0 ?_ (look_zip _ _ (by kernel_rfl)) (fun _ h => h.eqv (by kernel_rfl)) ?_
 · exact ⟨Nat.zero_le _,rfl⟩
 intro x hx
 obtain ⟨hx1,hx2⟩ := hx
 refine zQ 1 (zn (zs (sx_D (decide (((x : Nat) : Int) < (((l.length : Nat)) : Int))) (fun h0 => ?_) (fun h0 => ?_))))
 ·
  have h0d := of_decide_eq_true h0
  refine zk (zs (sx_block (zQ 2 (zn (zQ 3 ?_)))))
  obtain ⟨y0,hy0⟩ : ∃ y,(l)[x]? = some y := ⟨(l)[x]'(by omega),List.getElem?_eq_getElem _⟩
  obtain ⟨b0,f0,cs0,rfl,hU0,hR0⟩ := hl.at_ x y0 hy0
  obtain rfl := hR0
  refine sx_R (Pt b0 (f0 + x * 3)) (rIx 153 rfl b0 f0 l.length c x 3) ?_
  refine zU b0 (f0 + x * 3) [(I6 y0.k),(I6 y0.n),(I6 y0.t)] hU0 153 (.tmp 14) _ Tryz.underlying153 rfl ?_
  refine sx_C 84 #[(.agg #[(I6 y0.k),(I6 y0.n),(I6 y0.t)]),(Pt pk 0),(Pt pt 0)] (.bool (mayDel kind t0 y0)) (fun W hM => may1_sees y0 kind t0 pk pt W hM.view hs) ?_
  refine zn (sx_D (mayDel kind t0 y0) (fun h1 => ?_) (fun h1 => ?_))
  ·
   refine zQ 2 (zn (sx_ret (sx_Z [4] [(L6 x)] (fun W' hM => ?_))))
   refine ⟨?_,hM.below⟩
   rw [← hx2,dlIdx_drop hy0,if_pos h1]
   rfl
  ·
   refine zk (zr (zq 1 (sx_E 18 (I6 (IntKind.i64.wrap (((x : Nat) : Int) + 1))) (I6 (((x : Nat) : Int) + 1)) i6v ?_)))
   refine zq 1 (zn ?_)
   refine ⟨(x + 1),?_,?_,look_zip _ _ (by kernel_rfl),fun _ h => h.eqv (by kernel_rfl)⟩
   · exact ⟨by omega,by rw [← hx2,dlIdx_drop hy0,h1]; rfl⟩
   · show l.length - (x + 1) < l.length - x; omega
 ·
  have h0d := of_decide_eq_false h0
  refine sx_exit (zQ 1 (zn (sx_ret (sx_Z [4] [(I6 (-1))] (fun W' hM => ?_)))))
  refine ⟨?_,hM.below⟩
  rw [← hx2,drop_all (by omega)]
  rfl
theorem ops_len3 : ∀ q : List Op, (q.flatMap Op.cs).length = q.length * 3
 | [] => rfl
 | x :: r => by rw [List.flatMap_cons, List.length_append, ops_len3 r, List.length_cons]; show 3 + r.length * 3 = _; omega
theorem ops_get : ∀ {q : List Op} {j : Nat} {y : Op} {junk : List Value}, q[j]? = some y → ∀ i v, y.cs[i]? = some v → (q.flatMap Op.cs ++ junk)[0 + j * 3 + i]? = some v
 | [], j, y, junk, h, _, _, _ => by simp at h
 | x :: r, 0, y, junk, h, i, v, hv => by
  simp only [List.getElem?_cons_zero, Option.some.injEq] at h
  subst h
  have hl := (List.getElem?_eq_some_iff.1 hv).1
  rw [List.flatMap_cons, List.append_assoc, List.getElem?_append_left (by omega)]
  rwa [show 0 + 0 * 3 + i = i by omega]
 | x :: r, j + 1, y, junk, h, i, v, hv => by
  have := ops_get (junk := junk) (show r[j]? = some y by simpa using h) i v hv
  have h3 : x.cs.length = 3 := rfl
  rw [List.flatMap_cons, List.append_assoc, List.getElem?_append_right (by omega), show 0 + (j + 1) * 3 + i - x.cs.length = 0 + j * 3 + i by omega]
  exact this
theorem flat_setO : ∀ (l : List Op) (i : Nat) (x : Op) (j : List Value), i < l.length → stCells (l.flatMap Op.cs ++ j) (0 + i * 3) x.cs = (l.set i x).flatMap Op.cs ++ j
 | [], i, x, j, hi => by simp at hi
 | y :: r, 0, x, j, _ => by
  rw [List.set_cons_zero, List.flatMap_cons, List.flatMap_cons, Nat.zero_mul, List.append_assoc, List.append_assoc]
  unfold stCells
  rw [List.take_zero, List.nil_append, Nat.zero_add, show x.cs.length = y.cs.length from rfl, List.drop_left]
 | y :: r, i + 1, x, j, hi => by
  have ih := flat_setO r i x j (by simpa using hi)
  have hq : y.cs.length = 3 := rfl
  have hp : x.cs.length = 3 := rfl
  rw [List.set_cons_succ, List.flatMap_cons, List.flatMap_cons, List.append_assoc, List.append_assoc, ← ih]
  unfold stCells
  rw [hp, show 0 + (i + 1) * 3 = y.cs.length + (0 + i * 3) by omega, List.take_append, List.take_of_length_le (by omega), show y.cs.length + (0 + i * 3) - y.cs.length = 0 + i * 3 by omega, show y.cs.length + (0 + i * 3) + 3 = y.cs.length + (0 + i * 3 + 3) by omega, List.drop_append, List.drop_of_length_le (by omega), List.nil_append, show y.cs.length + (0 + i * 3 + 3) - y.cs.length = 0 + i * 3 + 3 by omega]
  simp only [List.append_assoc]
theorem opsAt_own {W0 : Cx} {U : View} {σ : Blks} {W : World} (k b : Nat) (q : List Op) (junk : List Value) (hM : Mem W0 U σ W) (hk : σ[k]? = some (b, .cells (q.flatMap Op.cs ++ junk).toArray 153 (0, 0))) (h47 : q.length ≤ R47) : LsAt OpR 3 (allU W) (some ⟨b, 0, none⟩) q := by
 have hr := rangeAt_own hM k b _ _ hk
 refine ⟨fun i x hx => ⟨b, 0, x.cs, rfl, fun j v hv => ?_, rfl⟩, h47⟩
 have := hr (0 + i * 3 + j) v (ops_get hx j v hv)
 rwa [Nat.zero_add] at this
structure Dl where
 i : Nat
 j : Nat
 L : List Op
structure DlInv (q : List Op) (keep : Op → Bool) (x : Dl) : Prop where
 ij : x.i < x.j
 jn : x.j ≤ q.length
 len : x.L.length = q.length
 tk : x.L.take x.i = (q.take x.j).filter keep
 dr : x.L.drop x.j = q.drop x.j
theorem DlInv.skip {q : List Op} {keep : Op → Bool} {x : Dl} {y : Op} (h : DlInv q keep x) (hy : q[x.j]? = some y) (hk : keep y = false) : DlInv q keep ⟨x.i, x.j + 1, x.L⟩ := by
 have hlt := (List.getElem?_eq_some_iff.1 hy).1
 refine ⟨by have := h.ij; show x.i < x.j + 1; omega, hlt, h.len, ?_, ?_⟩
 ·
  show x.L.take x.i = (q.take (x.j + 1)).filter keep
  rw [List.take_add_one, hy, List.filter_append, h.tk]
  simp [hk]
 ·
  show x.L.drop (x.j + 1) = q.drop (x.j + 1)
  rw [← List.drop_drop, ← List.drop_drop, h.dr]
theorem DlInv.keep {q : List Op} {keep : Op → Bool} {x : Dl} {y : Op} (h : DlInv q keep x) (hy : q[x.j]? = some y) (hk : keep y = true) : DlInv q keep ⟨x.i + 1, x.j + 1, x.L.set x.i y⟩ := by
 have hlt := (List.getElem?_eq_some_iff.1 hy).1
 have hij := h.ij
 have hl := h.len
 refine ⟨by show x.i + 1 < x.j + 1; omega, hlt, by rw [List.length_set]; exact hl, ?_, ?_⟩
 ·
  show (x.L.set x.i y).take (x.i + 1) = (q.take (x.j + 1)).filter keep
  rw [List.take_add_one, List.getElem?_set_self (by omega), List.take_set_of_le (Nat.le_refl _), h.tk, List.take_add_one, hy, List.filter_append]
  simp [hk]
 ·
  show (x.L.set x.i y).drop (x.j + 1) = q.drop (x.j + 1)
  rw [List.drop_set_of_lt (by omega), ← List.drop_drop, ← List.drop_drop, h.dr]
theorem DlInv.at_ {q : List Op} {keep : Op → Bool} {x : Dl} (h : DlInv q keep x) : x.L[x.j]? = q[x.j]? := by
 have h1 : (x.L.drop x.j)[0]? = (q.drop x.j)[0]? := by rw [h.dr]
 simpa using h1
theorem DlInv.done {q : List Op} {keep : Op → Bool} {x : Dl} (h : DlInv q keep x) (hj : ¬ x.j < q.length) : x.L.take x.i = q.filter keep := by
 rw [h.tk, List.take_of_length_le (by omega)]
def DelIs (b c : Nat) (q : List Op) (v : Value) (σ : Blks) : Prop := ∃ junk, v = .slice (some ⟨b, 0, none⟩) q.length c ∧ σ = [(b, .cells (q.flatMap Op.cs ++ junk).toArray 153 (0, 0))] ∧ (Rw.row b c junk).ok 3 q.length (q.flatMap Op.cs)
theorem clr_row {L : List Op} {junk zs : List Value} {i n c : Nat} (hL : L.length = n) (hi : i ≤ n) (hz : zs.length = (n - i) * 3) (hc : (L.flatMap Op.cs ++ junk).length = c * 3) (hnc : n ≤ c) (hcm : c ≤ maxLen) : ∃ junk', stCells (L.flatMap Op.cs ++ junk) (0 + i * 3) zs = (L.take i).flatMap Op.cs ++ junk' ∧ (Rw.row 0 c junk').ok 3 i ((L.take i).flatMap Op.cs) := by
 have h1 := ops_len3 L
 have h2 := ops_len3 (L.take i)
 have hti : (L.take i).length = i := by rw [List.length_take]; omega
 have htk : (L.flatMap Op.cs ++ junk).take (0 + i * 3) = (L.take i).flatMap Op.cs := by
  have : L.flatMap Op.cs = (L.take i).flatMap Op.cs ++ (L.drop i).flatMap Op.cs := by rw [← List.flatMap_append, List.take_append_drop]
  rw [this, List.append_assoc, List.take_left' (by omega)]
 have hcl : (L.flatMap Op.cs ++ junk).length = L.length * 3 + junk.length := by rw [List.length_append, h1]
 refine ⟨zs ++ (L.flatMap Op.cs ++ junk).drop (0 + i * 3 + zs.length), by unfold stCells; rw [htk, List.append_assoc], by rw [h2, hti], ?_, by omega, hcm⟩
 simp only [List.length_append, List.length_drop] at hc hcl ⊢
 rw [h2, hti, hz]
 rw [h1] at hc ⊢
 omega
set_option maxHeartbeats 16000000 in
theorem deleteOps_any {W0 : Cx} {U : View} {σF : Blks} {W : World} (b c : Nat) (q : List Op) (junk : List Value) (kind t0 : Int) (pk pt : Nat) (hs : MaySees U kind t0 pk pt) (hM : Mem W0 U ([(b, .cells (q.flatMap Op.cs ++ junk).toArray 153 (0, 0))] ++ σF) W) (hok : (Rw.row b c junk).ok 3 q.length (q.flatMap Op.cs)) (h47 : q.length ≤ 1000000) :
    Calls Tryz.prog 83 #[.slice (some ⟨b, 0, none⟩) q.length c, .func (.func 84) #[] #[.pointer (some ⟨pk, 0, none⟩), .pointer (some ⟨pt, 0, none⟩)]] W (RetM W0 U σF fun v _ σ' => DelIs b c (q.filter fun o => !mayDel kind t0 o) v σ') := by
 obtain ⟨hx,hcl,hnc,hcm⟩ := hok
 rcases dlIdx_spec kind t0 0 q with ⟨hd,hf⟩ | ⟨i0,hd,hi0,hf⟩
 ·
  rw [hf]
  have hM2 := hM
  refine sx_enterM (f := 83) 42 U Tryz.func83 rfl rfl rfl hM ?_
  refine zQ 1 (zn (zQ 2 (sx_C 126 #[(Sl b 0 q.length c),(.func (.func 84) #[] #[(Pt pk 0),(Pt pt 0)])] (I6 (-1)) (fun W hM => hd ▸ dlIdx_any q _ _ kind t0 pk pt W (U := allU W) (fun _ _ h => h) (opsAt_own 0 b q junk hM rfl (by unfold R47; omega)) (hs.le hM.view)) ?_)))
  refine zq 1 (zn (zs (zQ 2 (zn (sx_T (zQ 2 (zn (sx_ret (sx_Z [4] [(Sl b 0 q.length c)] (fun W' hM => ?_))))))))))
  exact retM_eq (σ' := [(b,(.cells (q.flatMap Op.cs ++ junk).toArray 153 (0,0)))]) hM (View.le_refl _) ⟨junk,rfl,rfl,hx,hcl,hnc,hcm⟩
 ·
  rw [Nat.zero_add] at hd
  refine sx_enterM (f := 83) 42 U Tryz.func83 rfl rfl rfl hM ?_
  refine zQ 1 (zn (zQ 2 (sx_C 126 #[(Sl b 0 q.length c),(.func (.func 84) #[] #[(Pt pk 0),(Pt pt 0)])] (I6 ((i0 : Nat) : Int)) (fun W hM => hd ▸ dlIdx_any q _ _ kind t0 pk pt W (U := allU W) (fun _ _ h => h) (opsAt_own 0 b q junk hM rfl (by unfold R47; omega)) (hs.le hM.view)) ?_)))
  refine zq 1 (zn (zs (zQ 2 (zn (sx_F' (((i0 : Nat) : Int) == (-1)) (beq_eq_false_iff_ne.2 (by omega)) ?_)))))
  refine zk (zs (zQ 2 (sx_E 15 (I6 (IntKind.i64.wrap (((i0 : Nat) : Int) + 1))) (I6 ((i0 + 1 : Nat) : Int)) (congrArg (Value.int .i64) (by rw [IntWalk.i64_in _ (by omega)]; omega)) ?_)))
  refine zq 1 (zn (sx_block ?_))
  refine sx_loop (α := Dl) (fun x => [0,1,4,5,6].zip [(Sl b 0 q.length c),(.func (.func 84) #[] #[(Pt pk 0),(Pt pt 0)]),S0,(L6 x.i),(L6 x.j)]) (fun x => U) (fun x => ([(b,(.cells (x.L.flatMap Op.cs ++ junk).toArray 153 (0,0)))] ++ σF)) (fun x => DlInv q (fun o => !mayDel kind t0 o) x ∧ x.j ≤ q.length) (fun x => q.length - x.j) ⟨i0,i0 + 1,q⟩ ?_ (look_zip _ _ (by kernel_rfl)) (fun _ h => h.eqv (by kernel_rfl)) ?_
  · exact ⟨⟨by show i0 < i0 + 1; omega,by show i0 + 1 ≤ _; omega,rfl,hf.symm,rfl⟩,by show i0 + 1 ≤ _; omega⟩
  intro x hx
  obtain ⟨hx2,hx3⟩ := hx
  have hij := hx2.ij
  have hLn := hx2.len
  refine zs (zQ 4 (zn (sx_D (decide (((x.j : Nat) : Int) < (((q.length : Nat)) : Int))) (fun h0 => ?_) (fun h0 => ?_))))
  ·
   have h0d := of_decide_eq_true h0
   refine zk (zs (sx_block (zQ 2 (sx_R (Pt b (0 + x.j * 3)) (rIx 153 rfl b 0 q.length c x.j 3) ?_))))
   obtain ⟨y0,hy0⟩ : ∃ y,q[x.j]? = some y := ⟨q[x.j]'(by omega),List.getElem?_eq_getElem _⟩
   refine sx_ldP 0 b (0 + x.j * 3) (x.L.flatMap Op.cs ++ junk) y0.cs 153 153 _ rfl (by kernel_rfl) (by kernel_rfl) (fun i v hv => ops_get (hx2.at_.trans hy0) i v hv) _ Tryz.underlying153 rfl (by kernel_rfl) (by kernel_rfl) (by kernel_rfl) ?_
   refine sx_NI 1 (fun b1 => ?_)
   refine sx_S 1 b1 (zn (zB [0,2] [(b1,3)] (sx_C 84 #[(.agg #[(I6 y0.k),(I6 y0.n),(I6 y0.t)]),(Pt pk 0),(Pt pt 0)] (.bool (mayDel kind t0 y0)) (fun W hM => may1_sees y0 kind t0 pk pt W hM.view hs) ?_)))
   refine zq 1 (zn (sx_D (!(mayDel kind t0 y0)) (fun h1 => ?_) (fun h1 => ?_)))
   ·
    refine zB [0,0,2] [(b1,3)] (sx_R (Pt b (0 + x.i * 3)) (rIx 153 rfl b 0 q.length c x.i 3) ?_)
    refine sx_sP 0 b (0 + x.i * 3) 3 (x.L.flatMap Op.cs ++ junk) 153 153 y0.V _ _ rfl (by kernel_rfl) (by kernel_rfl) (by kernel_rfl) (by kernel_rfl) (by rw [List.length_append,ops_len3]; have := hx2.len; omega) rfl (by kernel_rfl) ?_
    refine sx_mem U _ (fun _ h => h.eqv (show _ = ([(b,(.cells ((x.L.set x.i y0).flatMap Op.cs ++ junk).toArray 153 (0,0))),(bK b1 [(I6 y0.k),(I6 y0.n),(I6 y0.t)] 153)] ++ σF) from by rw [← flat_setO x.L x.i y0 junk (by have := hx2.len; omega)]; kernel_rfl)) ?_
    refine zn (zr (zq 2 (sx_E 35 (I6 (IntKind.i64.wrap (((x.i : Nat) : Int) + 1))) (I6 (((x.i : Nat) : Int) + 1)) i6v ?_)))
    refine zq 1 (zn (zr (zq 2 (sx_E 21 (I6 (IntKind.i64.wrap (((x.j : Nat) : Int) + 1))) (I6 (((x.j : Nat) : Int) + 1)) i6v ?_))))
    refine zq 1 (zn ?_)
    refine ⟨⟨x.i + 1,x.j + 1,x.L.set x.i y0⟩,?_,?_,look_zip _ _ (by kernel_rfl),fun _ h => Mem.sub (List.Sublist.append (List.sublist_append_left _ _) (List.Sublist.refl _)) (h.eqv (show _ = ((([(b,(.cells ((x.L.set x.i y0).flatMap Op.cs ++ junk).toArray 153 (0,0)))] : Blks) ++ ([(bK b1 [(I6 y0.k),(I6 y0.n),(I6 y0.t)] 153)] : Blks)) ++ (σF)) from by kernel_rfl))⟩
    · exact ⟨hx2.keep hy0 h1,by show x.j + 1 ≤ _; omega⟩
    · show q.length - (x.j + 1) < q.length - x.j; omega
   ·
    refine zk (zr (zq 2 (sx_E 21 (I6 (IntKind.i64.wrap (((x.j : Nat) : Int) + 1))) (I6 (((x.j : Nat) : Int) + 1)) i6v ?_)))
    refine zq 1 (zn ?_)
    refine ⟨⟨x.i,x.j + 1,x.L⟩,?_,?_,look_zip _ _ (by kernel_rfl),fun _ h => Mem.sub (List.Sublist.append (List.sublist_append_left _ _) (List.Sublist.refl _)) (h.eqv (show _ = ((([(b,(.cells (x.L.flatMap Op.cs ++ junk).toArray 153 (0,0)))] : Blks) ++ ([(bK b1 [(I6 y0.k),(I6 y0.n),(I6 y0.t)] 153)] : Blks)) ++ (σF)) from by kernel_rfl))⟩
    · exact ⟨hx2.skip hy0 h1,by show x.j + 1 ≤ _; omega⟩
    · show q.length - (x.j + 1) < q.length - x.j; omega
  ·
   have h0d := of_decide_eq_false h0
   refine sx_exit (zQ 2 (sx_R (.slice (some ⟨b,(if c = x.i then 0 else 0 + x.i * 3),none⟩) (q.length - x.i) (c - x.i)) (run_sl 119 153 (.tmp 36) (some (.tmp 37)) none none rfl b 0 q.length c x.i q.length c 3 (q.length - x.i) (c - x.i) (if c = x.i then 0 else 0 + x.i * 3) (by kernel_rfl) (show _ = _ by kernel_rfl) (show _ = _ by kernel_rfl) (show _ = _ by kernel_rfl) (by decide) (by omega) (by omega) (by omega) (by omega) (by omega) (by first | rfl | (split <;> omega)) Tryz.underlying119 (by kernel_rfl)) ?_))
   refine sx_clr 0 b (if c = x.i then 0 else 0 + x.i * 3) (q.length - x.i - 1) (c - x.i) 3 (x.L.flatMap Op.cs ++ junk) (.agg #[.int .i64 0,.int .i64 0,.int .i64 0]) 153 119 153 (.tmp 38) rfl (by rw [show q.length - x.i - 1 + 1 = q.length - x.i by omega]; kernel_rfl) (by kernel_rfl) (fun W => by kernel_rfl) rfl (by kernel_rfl) (by rw [if_neg (by omega),List.length_append,ops_len3]; omega) Tryz.underlying119 (by kernel_rfl) (by kernel_rfl) (fun ys hys => ?_)
   refine zn (zQ 2 (sx_R (Sl b 0 x.i c) (run_sl 119 153 (.tmp 39) none (some (.tmp 40)) none rfl b 0 q.length c 0 x.i c 3 x.i c 0 (by kernel_rfl) (show _ = _ by kernel_rfl) (show _ = _ by kernel_rfl) (show _ = _ by kernel_rfl) (by decide) (by omega) (by omega) (by omega) (by omega) (by omega) (by first | rfl | (split <;> omega)) Tryz.underlying119 (by kernel_rfl)) ?_))
   refine zq 1 (zn (sx_ret (sx_Z [4] [(Sl b 0 x.i c)] (fun W' hM => ?_))))
   obtain ⟨junk2,hj2,hok2⟩ := clr_row (L := x.L) (junk := junk) (zs := ys) (i := x.i) (n := q.length) (c := c) hLn (by omega) (by rw [hys]; congr 1; omega) (by rw [List.length_append,ops_len3,hLn,← List.length_append.symm.trans hcl.symm.symm]; simp only [List.length_append,ops_len3]) hnc hcm
   rw [← hx2.done (by omega)]
   have hti : (x.L.take x.i).length = x.i := by rw [List.length_take]; omega
   have hM9 := hM.eqv (show _ = ([(b,(.cells (stCells (x.L.flatMap Op.cs ++ junk) (if c = x.i then 0 else 0 + x.i * 3) ys).toArray 153 (0,0)))] ++ σF) from by kernel_rfl)
   rw [if_neg (by omega),hj2] at hM9
   refine retM_at 0 1 (b,.cells ((x.L.take x.i).flatMap Op.cs ++ junk2).toArray 153 (0,0)) hM9 (View.le_refl _) ⟨junk2,?_,rfl,?_⟩
   ·
    show Value.slice (some ⟨b,0,none⟩) x.i c = _
    rw [hti]
   ·
    rw [hti]
    exact hok2
theorem soundZ_ops {p : Pr} {l : List Bk} (h : soundZ p l = 0) : bnRight p l = 0 ∧ ∃ q, opsB l = some q := by
 unfold soundZ at h
 split at h
 · next h1 => rw [h] at h1; cases h1
 ·
  next h1 =>
  refine ⟨by simpa using h1, ?_⟩
  split at h
  · cases h
  · next q hq => exact ⟨q, hq⟩
theorem opXs_aux {V : View} : ∀ {L : List (Op × List Value)}, AllR OpR V L → L.flatMap Prod.snd = (L.map Prod.fst).flatMap Op.cs
 | [], _ => rfl
 | (o, cs) :: r, ⟨h1, h2⟩ => by
  rw [List.flatMap_cons, List.map_cons, List.flatMap_cons, opXs_aux h2]
  rw [show (o, cs).2 = o.cs from h1]
theorem RwR.opXs {V : View} {r : Rw} {xs : List Value} {m : Nat} {L : List (Op × List Value)} (h : RwR OpR 3 V r xs m L) : xs = (L.map Prod.fst).flatMap Op.cs := by
 rw [h.xs, opXs_aux h.all]
theorem listedZ_pos {l : List Bk} {kind : Int} {ts : List Int} (h : listedZ l kind ts = 0) : ∃ t0, ts[0]? = some t0 := by
 cases ts with
 | cons t r => exact ⟨t, rfl⟩
 | nil =>
  unfold listedZ at h
  rw [if_pos (by simp)] at h
  cases h
theorem mayZ_ops {p : Pr} {l : List Bk} {kind t0 : Int} {ts : List Int} {q : List Op} (h1 : (soundZ p l != 0) = false) (h2 : (listedZ l kind ts != 0) = false) (h3 : (andI .u64 (p.f : Int) 1 != 0) = false) (hq : opsB l = some q) (ht : ts[0]? = some t0) : mayZ p l kind ts = mixZ p l ((q ++ opsOf kind (freeB l : Int) ts).filter fun o => !mayDel kind t0 o) := by
 have e : ts.headD 0 = t0 := by
  cases ts with
  | nil => cases ht
  | cons t r => exact Option.some.inj ht
 unfold mayZ
 rw [if_neg (by rw [h1]; exact Bool.false_ne_true), if_neg (by rw [h2]; exact Bool.false_ne_true), if_neg (by rw [h3]; exact Bool.false_ne_true)]
 unfold mayOps
 rw [hq, e]
 rfl
set_option maxHeartbeats 16000000 in
theorem mMay_any (eA : Addr) (p : Pr) (l : List Bk) (a : Option Addr) (c : Nat) (kind : Int) (ts : List Int) (aT : Option Addr) (cT : Nat) (w : World) {U : View} (hU : ∀ a v, U a = some v → w.cell? a = some v) (hE : EF U eA) (hp : p.ok) (hl : BksAt U a l) (ht : InsAt U aT ts) (hc : ts.length ≤ cT) (hsm : ts.length ≤ 100000) : Calls Tryz.prog 36 #[bnV p a l.length c, .int .i64 kind, .slice aT ts.length cT] w (Ret (.int .i64 (mayZ p l kind ts)) w) := by
 refine sx_enter (f := 36) 58 U Tryz.func36 rfl rfl rfl hU ?_
 refine zs (zr (sx_N (fun b0 => (sx_N (fun b1 => (sx_N (fun b2 => (zq 1 (zn (zs (zB [1] [(b0,20)] (sx_C 80 #[(bnV p a l.length c)] (I6 (soundZ p l)) (fun W hM => mSound_any eA p l _ _ W hM.view hE hp hl) ?_))))))))))))
 refine zq 1 (zn (zQ 2 (zn (sx_D ((soundZ p l) != 0) (fun h0 => ?_) (fun h0 => ?_)))))
 ·
  refine zQ 2 (zn (sx_ret (sx_Z [6] [(I6 (soundZ p l))] (fun W' hM => ?_))))
  refine ⟨?_,hM.below⟩
  unfold mayZ
  rw [if_pos h0]
  rfl
 ·
  have h0d := bne_eq_false_iff_eq.1 h0
  refine zk (zs (zB [1,2,3] [(b0,20),(b1,1),(b2,1)] (sx_C 81 #[(bnV p a l.length c),(I6 kind),(.slice aT ts.length cT)] (I6 (listedZ l kind ts)) (fun W hM => listed_any p l _ _ kind ts _ _ W hM.view hl ht hc) ?_)))
  refine zq 1 (zn (zQ 2 (zn (sx_D ((listedZ l kind ts) != 0) (fun h1 => ?_) (fun h1 => ?_)))))
  ·
   refine zQ 2 (zn (sx_ret (sx_Z [6] [(I6 (listedZ l kind ts))] (fun W' hM => ?_))))
   refine ⟨?_,hM.below⟩
   unfold mayZ
   rw [if_neg (by rw [h0]; exact Bool.false_ne_true),if_pos h1]
   rfl
  ·
   have h1d := bne_eq_false_iff_eq.1 h1
   refine zk (zs (zB [0,0,1,0,0] [(b0,1)] (zn (sx_D ((andI .u64 (p.f : Int) 1) != 0) (fun h2 => ?_) (fun h2 => ?_)))))
   ·
    refine zQ 1 (zn (sx_ret (sx_Z [6] [(I6 8)] (fun W' hM => ?_))))
    refine ⟨?_,hM.below⟩
    unfold mayZ
    rw [if_neg (by rw [h0]; exact Bool.false_ne_true),if_neg (by rw [h1]; exact Bool.false_ne_true),if_pos h2]
    rfl
   ·
    have h2d := bne_eq_false_iff_eq.1 h2
    refine zk (zB [1] [(b0,20)] ?_)
    refine sx_callP 82 #[(bnV p a l.length c)] (fun v σ' => OpsIs (opsB l) v σ') (by kernel_rfl) (fun W hM => mOps_any eA p l _ _ (hE.le hM.view) (hl.le hM.view) (fun x hx => by have := (right_small (soundZ_ops (by simpa using h0)).1).2 x hx; omega) (by have := (right_small (soundZ_ops (by simpa using h0)).1).1; omega) (Mem.all W)) (by kernel_rfl) (by kernel_rfl) (fun v3 s3 hP3 => ?_)
    obtain ⟨q3,hq3⟩ := (soundZ_ops (by simpa using h0)).2
    rw [hq3] at hP3
    obtain ⟨r3,xs3,L3,rfl,rfl,hr3,hL3⟩ := hP3
    have hn3 := opsB_len hq3
    have hm3 := (right_small (soundZ_ops (by simpa using h0)).1).1
    refine zq 5 (zn (zB [1] [(b0,20)] (sx_C 38 #[(bnV p a l.length c)] (I6 ((freeB l : Nat) : Int)) (fun W hM => bFree_any p l _ _ W hM.view hl) ?_)))
    refine zq 1 (zn (zs (zB [3,0,0] [(b2,1)] (zn (sx_block ?_)))))
    refine sx_loop (α := Go_) (fun x => [3,4,5,6,9,11,38,39,40].zip [(Pt b0 0),(Pt b1 0),(Pt b2 0),(I6 0),(x.r.V x.m),(I6 ((freeB l : Nat) : Int)),(.slice aT ts.length cT),(L6 ts.length),(L6 x.i)]) (fun x => U) (fun x => ([(bK b0 (bnCs p a l.length c) 29),(bK b1 [(I6 kind)] 3),(bK b2 [(.slice aT ts.length cT)] 48)] ++ x.r.B 153 x.xs)) (fun x => x.i ≤ ts.length ∧ RwR OpR 3 U x.r x.xs x.m x.L ∧ (x.m = q3.length + x.i ∧ x.L.map Prod.fst = q3 ++ opsOf kind ((freeB l : Nat) : Int) (ts.take x.i))) (fun x => ts.length - x.i) ⟨0,r3,xs3,q3.length,L3,U⟩ ?_ (look_zip _ _ (by kernel_rfl)) (fun _ h => h.eqv (by kernel_rfl)) ?_
    · exact ⟨Nat.zero_le _,(hr3.opAny (V' := U)),rfl,by show _ = _ ++ opsOf kind _ []; rw [show opsOf kind ((freeB l : Nat) : Int) [] = [] from rfl,List.append_nil]; exact hL3⟩
    intro x hx
    obtain ⟨hxi,hxr,hxp⟩ := hx
    refine zQ 1 (zn (zs (sx_D (decide (((x.i : Nat) : Int) < (((ts.length : Nat)) : Int))) (fun h3 => ?_) (fun h3 => ?_))))
    ·
     have h3d := of_decide_eq_true h3
     refine zk (zs (sx_block (zs (zr ?_))))
     obtain ⟨y4,hy4⟩ : ∃ y,(ts)[x.i]? = some y := ⟨(ts)[x.i]'(by omega),List.getElem?_eq_getElem _⟩
     obtain ⟨b4,f4,rfl,hU4⟩ := ht.one hy4
     refine sx_R (Pt b4 (f4 + x.i)) (run_ix1 _ 3 _ _ rfl b4 f4 ts.length cT x.i .i64 (by kernel_rfl) (by kernel_rfl) (by first | assumption | omega) (by kernel_rfl) (by kernel_rfl)) ?_
     refine zV b4 (f4 + x.i) (I6 y4) hU4 3 (.tmp 42) _ Tryz.underlying3 rfl ?_
     refine zq 1 (zn (zr (sx_B [0,2,0,0,0] [(b1,1)] (sx_NI 3 (fun b5 => ?_)))))
     refine sx_appE x.r x.xs x.m [(bK b0 (bnCs p a l.length c) 29),(bK b1 [(I6 kind)] 3),(bK b2 [(Sl b4 f4 ts.length cT)] 48),(bK b5 [(I6 kind),(I6 ((freeB l : Nat) : Int)),(I6 y4)] 153)] 153 119 3 24 1 (by kernel_rfl) hxr.ok (.tmp 44) (.tmp 49) rfl (by kernel_rfl) b5 0 1 [(I6 kind),(I6 ((freeB l : Nat) : Int)),(I6 y4)] (by kernel_rfl) (fun W hM => rangeAt_own hM 3 b5 [(I6 kind),(I6 ((freeB l : Nat) : Int)),(I6 y4)] 153 (by kernel_rfl)) rfl (List.all_eq_true.1 (by kernel_rfl)) (by decide) (by unfold maxLen; omega) (by omega) (by kernel_rfl) (by kernel_rfl) (by kernel_rfl) (by kernel_rfl) (by kernel_rfl) (fun r6 hr6 => ?_)
     refine zq 1 (zn (zr (zq 1 (sx_E 51 (I6 (IntKind.i64.wrap (((x.i : Nat) : Int) + 1))) (I6 (((x.i : Nat) : Int) + 1)) i6v ?_))))
     refine zq 1 (zn ?_)
     refine ⟨⟨x.i + 1,r6,(x.xs ++ [(I6 kind),(I6 ((freeB l : Nat) : Int)),(I6 y4)]),(x.m + 1),x.L ++ [(⟨kind,((freeB l : Nat) : Int),y4⟩,[(I6 kind),(I6 ((freeB l : Nat) : Int)),(I6 y4)])],U⟩,?_,?_,look_zip _ _ (by kernel_rfl),fun _ h => Mem.sub (List.Sublist.append (List.sublist_append_left _ _) (List.Sublist.refl _)) (h.eqv (show _ = ((([(bK b0 (bnCs p a l.length c) 29),(bK b1 [(I6 kind)] 3),(bK b2 [(Sl b4 f4 ts.length cT)] 48)] : Blks) ++ ([(bK b5 [(I6 kind),(I6 ((freeB l : Nat) : Int)),(I6 y4)] 153)] : Blks)) ++ (r6.B 153 (x.xs ++ [(I6 kind),(I6 ((freeB l : Nat) : Int)),(I6 y4)]))) from by kernel_rfl))⟩
     · exact ⟨by show x.i + 1 ≤ _; omega,RwR.snoc hxr rfl hr6,by show x.m + 1 = q3.length + (x.i + 1); omega,by rw [List.map_append,hxp.2,show opsOf kind ((freeB l : Nat) : Int) (ts.take (x.i + 1)) = opsOf kind ((freeB l : Nat) : Int) (ts.take x.i) ++ [⟨kind,((freeB l : Nat) : Int),y4⟩] from take_map_succ _ hy4,List.append_assoc]; rfl⟩
     · show ts.length - (x.i + 1) < ts.length - x.i; omega
    ·
     have h3d := of_decide_eq_false h3
     refine sx_exit (zQ 2 ?_)
     obtain ⟨t0,ht0⟩ := listedZ_pos (by simpa using h1)
     have hpos := (List.getElem?_eq_some_iff.1 ht0).1
     have hall : x.L.map Prod.fst = q3 ++ opsOf kind ((freeB l : Nat) : Int) ts := by rw [hxp.2,List.take_of_length_le (by omega)]
     obtain ⟨bQ,cQ,jQ,hr9⟩ := Rw.openR hxr.ok (by omega)
     generalize hz9 : q3 ++ opsOf kind ((freeB l : Nat) : Int) ts = z9 at hall
     have hx9 : x.xs = z9.flatMap Op.cs := by rw [← hall]; exact hxr.opXs
     have hm9 : x.m = z9.length := by rw [← hall,List.length_map]; exact hxr.m
     refine sx_E 52 (x.r.V x.m) (Sl bQ 0 z9.length cQ) (by rw [hr9,hm9]; rfl) ?_
     refine sx_mem _ [(bK b0 (bnCs p a l.length c) 29),(bK b1 [(I6 kind)] 3),(bK b2 [(.slice aT ts.length cT)] 48),(bQ,(.cells (z9.flatMap Op.cs ++ jQ).toArray 153 (0,0)))] (fun _ h => h.eqv (show ([(bK b0 (bnCs p a l.length c) 29),(bK b1 [(I6 kind)] 3),(bK b2 [(.slice aT ts.length cT)] 48)] ++ x.r.B 153 x.xs) = _ from by rw [hr9,hx9]; kernel_rfl)) ?_
     have ho9 : (Rw.row bQ cQ jQ).ok 3 z9.length (z9.flatMap Op.cs) := by have := hxr.ok; rw [hr9,hx9,hm9] at this; exact this
     refine sx_freeze [(bK b0 (bnCs p a l.length c) 29)] [(bK b2 [(.slice aT ts.length cT)] 48),(bQ,(.cells (z9.flatMap Op.cs ++ jQ).toArray 153 (0,0)))] b1 [(I6 kind)] 3 (by kernel_rfl) (fun V7 hV7 hR7 => ?_)
     refine sx_freeze [(bK b0 (bnCs p a l.length c) 29)] [(bQ,(.cells (z9.flatMap Op.cs ++ jQ).toArray 153 (0,0)))] b2 [(.slice aT ts.length cT)] 48 (by kernel_rfl) (fun V10 hV10 hR10 => ?_)
     obtain ⟨bT,fT,eT,hUT⟩ := ht.one ht0
     have hs9 : MaySees V10 kind t0 b1 b2 := ⟨bT,fT,ts.length,cT,(View.range_le hV10 hR7) 0 _ rfl,by rw [← eT]; exact hR10 0 _ rfl,(View.le_trans hV7 hV10) _ _ hUT,hpos⟩
     refine sx_MI 1 (bQ,(.cells (z9.flatMap Op.cs ++ jQ).toArray 153 (0,0))) 83 #[(Sl bQ 0 z9.length cQ),(.func (.func 84) #[] #[(Pt b1 0),(Pt b2 0)])] (fun v _ σ' => DelIs bQ cQ (z9.filter fun o => !mayDel kind t0 o) v σ') (fun W hM => deleteOps_any bQ cQ z9 jQ kind t0 b1 b2 hs9 hM ho9 (by rw [← hz9,List.length_append,show (opsOf kind ((freeB l : Nat) : Int) ts).length = ts.length from List.length_map _]; omega)) (fun v13 V13 s13 hV13 hP13 => ?_)
     obtain ⟨j13,rfl,rfl,ho13⟩ := hP13
     generalize hf13 : z9.filter (fun o => !mayDel kind t0 o) = f13
     rw [hf13] at ho13
     have hl13 : f13.length ≤ z9.length := by rw [← hf13]; exact List.length_filter_le _ _
     have hs13 : z9.length ≤ 1000000 := by rw [← hz9,List.length_append,show (opsOf kind ((freeB l : Nat) : Int) ts).length = ts.length from List.length_map _]; omega
     refine zq 1 (zn (zB [2,0] [(b0,20)] (sx_C 85 #[(bnV p a l.length c),(Sl bQ 0 f13.length cQ)] (I6 (mixZ p l f13)) (fun W hM => mRules_any p l _ _ f13 _ _ W (U := allU W) (fun _ _ h => h) ((hl.le (View.le_trans (View.le_trans hV7 hV10) hV13)).le hM.view) (opsAt_own 0 bQ f13 j13 hM rfl (by unfold R47; omega))) ?_)))
     refine zq 1 (zn (sx_ret (sx_Z [6] [(I6 (mixZ p l f13))] (fun W' hM => ?_))))
     refine ⟨?_,hM.below⟩
     rw [mayZ_ops h0 h1 h2 hq3 ht0,hz9,hf13]
     rfl
theorem right_all {p : Pr} {l : List Bk} (h : bnRight p l = 0) : prRight p = 0 ∧ ∀ x ∈ l, bkRight x = 0 := by
 unfold bnRight madeZ at h
 split at h
 · next h1 => rw [show ([], partsZ p l).2 = partsZ p l from rfl] at h; rw [h] at h1; cases h1
 ·
  next hp =>
  have hp0 : partsZ p l = 0 := by simpa using hp
  unfold partsZ at hp0
  split at hp0
  · next h1 => rw [hp0] at h1; cases h1
  · next h1 => exact ⟨by simpa using h1, blksZ_zero hp0⟩
theorem getB_mem {l : List Bk} {t : Int} (h : (getB l t).2 = true) : (getB l t).1 ∈ l := by
 unfold getB at h ⊢
 split
 · next x hx => exact List.mem_of_find?_eq_some hx
 · next hx => rw [hx] at h; cases h
def mayB (scope : Int) : Bool := if decide (scope ≥ 0) then decide (scope < 8) else false
theorem scMay_any (scope : Int) (w : World) : Calls Tryz.prog 99 #[.int .i64 scope] w (Ret (.bool (mayB scope)) w) := by
 refine sx_enter (f := 99) 9 View.no Tryz.func99 rfl rfl rfl (fun _ _ h => by cases h) ?_
 refine zQ 1 (zn (zQ 3 (sx_BL 5 (decide (scope ≥ 0)) (fun h0 => ?_) (fun h0 => ?_))))
 ·
  refine zq 4 (zn (sx_ret (sx_Z [2] [(.bool (decide (scope < 8)))] (fun W' hM => ?_))))
  exact ⟨by simp only [resV,mayB,h0,bs,if_true,if_false,cond_true,cond_false,reduceIte],hM.below⟩
 ·
  refine zq 4 (zn (sx_ret (sx_Z [2] [(.bool false)] (fun W' hM => ?_))))
  exact ⟨by simp only [resV,mayB,h0,bs,if_true,if_false,cond_true,cond_false,reduceIte],hM.below⟩
theorem headB_len (x : Bk) : (headB x).length ≤ 27 := by
 unfold headB
 have h1 := (Itm.headB_length 0 x.t.toNat).2
 have h2 := (Itm.headB_length 0 x.n.toNat).2
 have h3 := (Itm.headB_length 0 x.f).2
 rw [List.length_append, List.length_append]
 omega
def readA (p : Pr) (l : List Bk) (target : Int) : List UInt8 := if target != 0 && !(getB l target).2 then [] else prBytes p.bare
def readH (l : List Bk) (target : Int) : List UInt8 := if target != 0 && !(getB l target).2 then [] else if target == 0 then [] else headB (getB l target).1
def readS (l : List Bk) (target : Int) (sec : Bk) : List UInt8 := if target != 0 && !(getB l target).2 then [] else if bkRight sec != 0 then [] else headB sec
def readD (p : Pr) (l : List Bk) (target : Int) : List UInt8 := if target != 0 && !(getB l target).2 then [] else if target == 0 then prBytes p.bare else Itm.headB 2 (getB l target).1.d.length ++ (getB l target).1.d
def readZ (l : List Bk) (target : Int) (sec : Bk) : Int := if target != 0 && !(getB l target).2 then 15 else bkRight sec
set_option maxHeartbeats 16000000 in
theorem scRead_any (p : Pr) (l : List Bk) (a : Option Addr) (c : Nat) (target : Int) (sec : Bk) (w : World) {U : View} (hU : ∀ a v, U a = some v → w.cell? a = some v) (hp : p.ok) (hl : BksAt U a l) (hs : sec.ok) (hr : bnRight p l = 0) : Calls Tryz.prog 100 #[bnV p a l.length c, .int .i64 target, sec.V] w (Ret (.tuple #[.agg #[.string (B (readA p l target)), .string (B (readH l target)), .string (B (readS l target sec)), .string (B (readD p l target))], .int .i64 (readZ l target sec)]) w) := by
 have hp0 := (right_all hr).1
 have hx0 := (right_all hr).2
 refine sx_enter (f := 100) 61 U Tryz.func100 rfl rfl rfl hU ?_
 refine zs (zr (sx_N (fun b0 => (sx_N (fun b1 => (sx_N (fun b2 => (zq 1 (zn (zB [1,0] [(b0,20)] (sx_C 64 #[(bnV p a l.length c),(I6 target)] (.tuple #[(.agg #[(I6 (getB l target).1.t),(I6 (getB l target).1.n),(N6 (getB l target).1.f),(I6 (getB l target).1.c),(St (getB l target).1.d)]),(.bool (getB l target).2)]) (fun W hM => bGet_any p l _ _ target W hM.view hl) ?_)))))))))))
 refine zq 3 (sx_N (fun b3 => (sx_S 3 b3 (zq 1 (zn (zs (zQ 3 (sx_BL 18 (target != 0) (fun h0 => ?_) (fun h0 => ?_)))))))))
 ·
  have h0d := bne_iff_ne.1 h0
  refine zq 3 (zn (sx_D (!(getB l target).2) (fun h1 => ?_) (fun h1 => ?_)))
  ·
   refine zB [3] [(b2,4)] (sx_S 2 b2 (zq 1 (zn (sx_ret ?_))))
   refine sx_ret_any [.cell 6 171,.tmp 7] [(.agg #[(St []),(St []),(St []),(St [])]),(I6 15)] rfl ⟨(retK' 2 b2 4),retT',trivial⟩ (fun W' hM => ?_)
   have hne : (target == 0) = false := by simpa using h0
   exact ⟨by simp only [resV,readA,readH,readS,readD,readZ,hne,h0,h1,bs,if_true,if_false,cond_true,cond_false,reduceIte]; try rfl,hM.below⟩
  ·
   refine zk (zs (zB [0,1] [(b0,19)] (sx_C 141 #[(p.V)] (.tuple #[(St (prBytes p.bare)),(I6 0)]) (fun W hM => pPlain_any p W hp hp0) ?_)))
   refine zq 4 (sx_S 2 b2 (zq 1 (zn (zQ 2 (zn (sx_F (zk (zB [0,3,0] [(b2,1)] (sx_S 2 b2 (zn (zs (zQ 2 (zn (sx_T' (target != 0) h0 ?_))))))))))))))
   refine zs (zB [4] [(b3,5)] (sx_C 142 #[(.agg #[(I6 (getB l target).1.t),(I6 (getB l target).1.n),(N6 (getB l target).1.f),(I6 (getB l target).1.c),(St (getB l target).1.d)])] (.tuple #[(St (headB (getB l target).1)),(I6 0)]) (fun W hM => bHeader_any (getB l target).1 W (hl.ok _ (getB_mem (by have := h1; simpa using this))) (hx0 _ (getB_mem (by have := h1; simpa using this)))) ?_))
   refine zq 4 (sx_S 2 b2 (zq 1 (zn (zQ 2 (zn (sx_F (zk (zr (sx_B [0,4] [(b3,1)] (sx_C 143 #[(St (getB l target).1.d)] (St (Itm.headB 2 (getB l target).1.d.length ++ (getB l target).1.d)) (fun W hM => cBytes_any (getB l target).1.d W (hl.ok _ (getB_mem (by have := h1; simpa using this))).d) ?_))))))))))
   refine zq 1 (sx_S 2 b2 (zn (zB [2] [(b1,5)] ?_)))
   rcases Bool.eq_false_or_eq_true (bkRight sec != 0) with h2 | h2
   ·
    have h2d := bne_iff_ne.1 h2
    refine sx_C 142 #[(sec.V)] (.tuple #[(St []),(I6 (bkRight sec))]) (fun W hM => bHeader_no sec W h2) ?_
    refine zq 4 (sx_S 2 b2 (zq 1 (zn (zB [3,0] [(b2,4)] (sx_S 2 b2 (zq 1 (zn (sx_ret ?_))))))))
    refine sx_ret_any [.cell 6 171,.tmp 7] [(.agg #[(St (prBytes p.bare)),(St (headB (getB l target).1)),(St []),(St (Itm.headB 2 (getB l target).1.d.length ++ (getB l target).1.d))]),(I6 (bkRight sec))] rfl ⟨(retK' 2 b2 4),retT',trivial⟩ (fun W' hM => ?_)
    have hne : (target == 0) = false := by simpa using h0
    exact ⟨by simp only [resV,readA,readH,readS,readD,readZ,hne,h0,h1,h2,bs,if_true,if_false,cond_true,cond_false,reduceIte]; try rfl,hM.below⟩
   ·
    have h2d := bne_eq_false_iff_eq.1 h2
    refine sx_C 142 #[(sec.V)] (.tuple #[(St (headB sec)),(I6 0)]) (fun W hM => bHeader_any sec W hs (by simpa using h2)) ?_
    refine zq 4 (sx_S 2 b2 (zq 1 (zn (zB [3,0] [(b2,4)] (sx_S 2 b2 (zq 1 (zn (sx_ret ?_))))))))
    refine sx_ret_any [.cell 6 171,.tmp 7] [(.agg #[(St (prBytes p.bare)),(St (headB (getB l target).1)),(St (headB sec)),(St (Itm.headB 2 (getB l target).1.d.length ++ (getB l target).1.d))]),(I6 0)] rfl ⟨(retK' 2 b2 4),retT',trivial⟩ (fun W' hM => ?_)
    have hne : (target == 0) = false := by simpa using h0
    have hz0 : bkRight sec = 0 := by simpa using h2
    exact ⟨by simp only [resV,readA,readH,readS,readD,readZ,hne,h0,h1,h2,hz0,bs,if_true,if_false,cond_true,cond_false,reduceIte]; try rfl,hM.below⟩
 ·
  have h0d := bne_eq_false_iff_eq.1 h0
  refine zq 3 (zn (sx_F (zk (zs (zB [0,1] [(b0,19)] (sx_C 141 #[(p.V)] (.tuple #[(St (prBytes p.bare)),(I6 0)]) (fun W hM => pPlain_any p W hp hp0) ?_))))))
  refine zq 4 (sx_S 2 b2 (zq 1 (zn (zQ 2 (zn (sx_F (zk (zB [0,3,0] [(b2,1)] (sx_S 2 b2 (zn (zs (zQ 2 (zn (sx_F' (target != 0) h0 ?_))))))))))))))
  refine zk (zB [2] [(b1,5)] ?_)
  rcases Bool.eq_false_or_eq_true (bkRight sec != 0) with h3 | h3
  ·
   have h3d := bne_iff_ne.1 h3
   refine sx_C 142 #[(sec.V)] (.tuple #[(St []),(I6 (bkRight sec))]) (fun W hM => bHeader_no sec W h3) ?_
   refine zq 4 (sx_S 2 b2 (zq 1 (zn (zB [3,0] [(b2,4)] (sx_S 2 b2 (zq 1 (zn (sx_ret ?_))))))))
   refine sx_ret_any [.cell 6 171,.tmp 7] [(.agg #[(St (prBytes p.bare)),(St []),(St []),(St (prBytes p.bare))]),(I6 (bkRight sec))] rfl ⟨(retK' 2 b2 4),retT',trivial⟩ (fun W' hM => ?_)
   have heq : (target == 0) = true := by simpa using h0
   exact ⟨by simp only [resV,readA,readH,readS,readD,readZ,heq,h0,h3,bs,if_true,if_false,cond_true,cond_false,reduceIte]; try rfl,hM.below⟩
  ·
   have h3d := bne_eq_false_iff_eq.1 h3
   refine sx_C 142 #[(sec.V)] (.tuple #[(St (headB sec)),(I6 0)]) (fun W hM => bHeader_any sec W hs (by simpa using h3)) ?_
   refine zq 4 (sx_S 2 b2 (zq 1 (zn (zB [3,0] [(b2,4)] (sx_S 2 b2 (zq 1 (zn (sx_ret ?_))))))))
   refine sx_ret_any [.cell 6 171,.tmp 7] [(.agg #[(St (prBytes p.bare)),(St []),(St (headB sec)),(St (prBytes p.bare))]),(I6 0)] rfl ⟨(retK' 2 b2 4),retT',trivial⟩ (fun W' hM => ?_)
   have heq : (target == 0) = true := by simpa using h0
   have hz0 : bkRight sec = 0 := by simpa using h3
   exact ⟨by simp only [resV,readA,readH,readS,readD,readZ,heq,h0,h3,hz0,bs,if_true,if_false,cond_true,cond_false,reduceIte]; try rfl,hM.below⟩
def besB (A H S : List UInt8) (target scope : Int) : List UInt8 := ((Itm.headB 0 scope.toNat ++ (if (if (andI .i64 scope 1 != 0) then (target != 0) else false) then A else [])) ++ (if (andI .i64 scope 2 != 0) then H else [])) ++ (if (andI .i64 scope 4 != 0) then S else [])
set_option maxHeartbeats 16000000 in
theorem scBes_any (A H S D : List UInt8) (target scope : Int) (w : World) (h0 : 0 ≤ scope) (h8 : scope < 8) (hA : A.length ≤ 4000000) (hH : H.length ≤ 4000000) (hS : S.length ≤ 4000000) : Calls Tryz.prog 101 #[.agg #[.string (B A), .string (B H), .string (B S), .string (B D)], .int .i64 target, .int .i64 scope] w (Ret (.string (B (besB A H S target scope))) w) := by
 have w1 : IntKind.u64.wrap scope = (scope.toNat : Int) := by have := u64_in (x := scope) (by omega) (by omega); omega
 have n1 : scope.toNat < W64 := by unfold W64; omega
 have g1 := (Itm.headB_length 0 scope.toNat).2
 refine sx_enter (f := 101) 37 View.no Tryz.func101 rfl rfl rfl (fun _ _ h => by cases h) ?_
 refine zs (zr (sx_N (fun b0 => (zq 1 (zn (zQ 2 (sx_E 9 (U6 (IntKind.u64.wrap scope)) (N6 scope.toNat) (congrArg (Value.int .u64) w1) ?_)))))))
 refine sx_C 144 #[(I6 0),(N6 scope.toNat)] (St (Itm.headB 0 scope.toNat)) (fun W hM => cHead_any 0 scope.toNat W (by omega) (by first | assumption | (unfold W64; omega) | decide)) ?_
 refine zq 1 (zn (zs (zQ 4 (sx_BL 14 ((andI .i64 scope 1) != 0) (fun h0 => ?_) (fun h0 => ?_)))))
 ·
  have h0d := bne_iff_ne.1 h0
  refine zq 3 (zn (sx_D (target != 0) (fun h1 => ?_) (fun h1 => ?_)))
  ·
   have h1d := bne_iff_ne.1 h1
   refine zr (sx_B [0,0,1] [(b0,1)] (sx_R (St ((Itm.headB 0 scope.toNat) ++ A)) (run_cat _ _ _ _ rfl (Itm.headB 0 scope.toNat) A (by kernel_rfl) (by kernel_rfl) (by first | omega | (simp only [List.length_append,List.length_cons,List.length_nil]; omega))) ?_))
   refine zq 1 (zn (zs (zQ 3 (zn (sx_D ((andI .i64 scope 2) != 0) (fun h2 => ?_) (fun h2 => ?_))))))
   ·
    have h2d := bne_iff_ne.1 h2
    refine zr (sx_B [0,0,1] [(b0,1)] (sx_R (St (((Itm.headB 0 scope.toNat) ++ A) ++ H)) (run_cat _ _ _ _ rfl ((Itm.headB 0 scope.toNat) ++ A) H (by kernel_rfl) (by kernel_rfl) (by first | omega | (simp only [List.length_append,List.length_cons,List.length_nil]; omega))) ?_))
    refine zq 1 (zn (zs (zQ 3 (zn (sx_D ((andI .i64 scope 4) != 0) (fun h3 => ?_) (fun h3 => ?_))))))
    ·
     have h3d := bne_iff_ne.1 h3
     refine zr (sx_B [0,0,1] [(b0,1)] (sx_R (St ((((Itm.headB 0 scope.toNat) ++ A) ++ H) ++ S)) (run_cat _ _ _ _ rfl (((Itm.headB 0 scope.toNat) ++ A) ++ H) S (by kernel_rfl) (by kernel_rfl) (by first | omega | (simp only [List.length_append,List.length_cons,List.length_nil]; omega))) ?_))
     refine zq 1 (zn (zQ 2 (zn (sx_ret (sx_Z [6] [(St ((((Itm.headB 0 scope.toNat) ++ A) ++ H) ++ S))] (fun W' hM => ?_))))))
     exact ⟨by simp only [resV,besB,h0,h1,h2,h3,bs,if_true,if_false,cond_true,cond_false,reduceIte,List.append_nil],hM.below⟩
    ·
     refine zk (zQ 2 (zn (sx_ret (sx_Z [6] [(St (((Itm.headB 0 scope.toNat) ++ A) ++ H))] (fun W' hM => ?_)))))
     exact ⟨by simp only [resV,besB,h0,h1,h2,h3,bs,if_true,if_false,cond_true,cond_false,reduceIte,List.append_nil],hM.below⟩
   ·
    have h2d := bne_eq_false_iff_eq.1 h2
    refine zk (zs (zQ 3 (zn (sx_D ((andI .i64 scope 4) != 0) (fun h4 => ?_) (fun h4 => ?_)))))
    ·
     have h4d := bne_iff_ne.1 h4
     refine zr (sx_B [0,0,1] [(b0,1)] (sx_R (St (((Itm.headB 0 scope.toNat) ++ A) ++ S)) (run_cat _ _ _ _ rfl ((Itm.headB 0 scope.toNat) ++ A) S (by kernel_rfl) (by kernel_rfl) (by first | omega | (simp only [List.length_append,List.length_cons,List.length_nil]; omega))) ?_))
     refine zq 1 (zn (zQ 2 (zn (sx_ret (sx_Z [6] [(St (((Itm.headB 0 scope.toNat) ++ A) ++ S))] (fun W' hM => ?_))))))
     exact ⟨by simp only [resV,besB,h0,h1,h2,h4,bs,if_true,if_false,cond_true,cond_false,reduceIte,List.append_nil],hM.below⟩
    ·
     refine zk (zQ 2 (zn (sx_ret (sx_Z [6] [(St ((Itm.headB 0 scope.toNat) ++ A))] (fun W' hM => ?_)))))
     exact ⟨by simp only [resV,besB,h0,h1,h2,h4,bs,if_true,if_false,cond_true,cond_false,reduceIte,List.append_nil],hM.below⟩
  ·
   have h1d := bne_eq_false_iff_eq.1 h1
   refine zk (zs (zQ 3 (zn (sx_D ((andI .i64 scope 2) != 0) (fun h5 => ?_) (fun h5 => ?_)))))
   ·
    have h5d := bne_iff_ne.1 h5
    refine zr (sx_B [0,0,1] [(b0,1)] (sx_R (St ((Itm.headB 0 scope.toNat) ++ H)) (run_cat _ _ _ _ rfl (Itm.headB 0 scope.toNat) H (by kernel_rfl) (by kernel_rfl) (by first | omega | (simp only [List.length_append,List.length_cons,List.length_nil]; omega))) ?_))
    refine zq 1 (zn (zs (zQ 3 (zn (sx_D ((andI .i64 scope 4) != 0) (fun h6 => ?_) (fun h6 => ?_))))))
    ·
     have h6d := bne_iff_ne.1 h6
     refine zr (sx_B [0,0,1] [(b0,1)] (sx_R (St (((Itm.headB 0 scope.toNat) ++ H) ++ S)) (run_cat _ _ _ _ rfl ((Itm.headB 0 scope.toNat) ++ H) S (by kernel_rfl) (by kernel_rfl) (by first | omega | (simp only [List.length_append,List.length_cons,List.length_nil]; omega))) ?_))
     refine zq 1 (zn (zQ 2 (zn (sx_ret (sx_Z [6] [(St (((Itm.headB 0 scope.toNat) ++ H) ++ S))] (fun W' hM => ?_))))))
     exact ⟨by simp only [resV,besB,h0,h1,h5,h6,bs,if_true,if_false,cond_true,cond_false,reduceIte,List.append_nil],hM.below⟩
    ·
     refine zk (zQ 2 (zn (sx_ret (sx_Z [6] [(St ((Itm.headB 0 scope.toNat) ++ H))] (fun W' hM => ?_)))))
     exact ⟨by simp only [resV,besB,h0,h1,h5,h6,bs,if_true,if_false,cond_true,cond_false,reduceIte,List.append_nil],hM.below⟩
   ·
    have h5d := bne_eq_false_iff_eq.1 h5
    refine zk (zs (zQ 3 (zn (sx_D ((andI .i64 scope 4) != 0) (fun h7 => ?_) (fun h7 => ?_)))))
    ·
     have h7d := bne_iff_ne.1 h7
     refine zr (sx_B [0,0,1] [(b0,1)] (sx_R (St ((Itm.headB 0 scope.toNat) ++ S)) (run_cat _ _ _ _ rfl (Itm.headB 0 scope.toNat) S (by kernel_rfl) (by kernel_rfl) (by first | omega | (simp only [List.length_append,List.length_cons,List.length_nil]; omega))) ?_))
     refine zq 1 (zn (zQ 2 (zn (sx_ret (sx_Z [6] [(St ((Itm.headB 0 scope.toNat) ++ S))] (fun W' hM => ?_))))))
     exact ⟨by simp only [resV,besB,h0,h1,h5,h7,bs,if_true,if_false,cond_true,cond_false,reduceIte,List.append_nil],hM.below⟩
    ·
     refine zk (zQ 2 (zn (sx_ret (sx_Z [6] [(St (Itm.headB 0 scope.toNat))] (fun W' hM => ?_)))))
     exact ⟨by simp only [resV,besB,h0,h1,h5,h7,bs,if_true,if_false,cond_true,cond_false,reduceIte,List.append_nil],hM.below⟩
 ·
  have h0d := bne_eq_false_iff_eq.1 h0
  refine zq 3 (zn (sx_F (zk (zs (zQ 3 (zn (sx_D ((andI .i64 scope 2) != 0) (fun h8 => ?_) (fun h8 => ?_))))))))
  ·
   have h8d := bne_iff_ne.1 h8
   refine zr (sx_B [0,0,1] [(b0,1)] (sx_R (St ((Itm.headB 0 scope.toNat) ++ H)) (run_cat _ _ _ _ rfl (Itm.headB 0 scope.toNat) H (by kernel_rfl) (by kernel_rfl) (by first | omega | (simp only [List.length_append,List.length_cons,List.length_nil]; omega))) ?_))
   refine zq 1 (zn (zs (zQ 3 (zn (sx_D ((andI .i64 scope 4) != 0) (fun h9 => ?_) (fun h9 => ?_))))))
   ·
    have h9d := bne_iff_ne.1 h9
    refine zr (sx_B [0,0,1] [(b0,1)] (sx_R (St (((Itm.headB 0 scope.toNat) ++ H) ++ S)) (run_cat _ _ _ _ rfl ((Itm.headB 0 scope.toNat) ++ H) S (by kernel_rfl) (by kernel_rfl) (by first | omega | (simp only [List.length_append,List.length_cons,List.length_nil]; omega))) ?_))
    refine zq 1 (zn (zQ 2 (zn (sx_ret (sx_Z [6] [(St (((Itm.headB 0 scope.toNat) ++ H) ++ S))] (fun W' hM => ?_))))))
    exact ⟨by simp only [resV,besB,h0,h8,h9,bs,if_true,if_false,cond_true,cond_false,reduceIte,List.append_nil],hM.below⟩
   ·
    refine zk (zQ 2 (zn (sx_ret (sx_Z [6] [(St ((Itm.headB 0 scope.toNat) ++ H))] (fun W' hM => ?_)))))
    exact ⟨by simp only [resV,besB,h0,h8,h9,bs,if_true,if_false,cond_true,cond_false,reduceIte,List.append_nil],hM.below⟩
  ·
   have h8d := bne_eq_false_iff_eq.1 h8
   refine zk (zs (zQ 3 (zn (sx_D ((andI .i64 scope 4) != 0) (fun h10 => ?_) (fun h10 => ?_)))))
   ·
    have h10d := bne_iff_ne.1 h10
    refine zr (sx_B [0,0,1] [(b0,1)] (sx_R (St ((Itm.headB 0 scope.toNat) ++ S)) (run_cat _ _ _ _ rfl (Itm.headB 0 scope.toNat) S (by kernel_rfl) (by kernel_rfl) (by first | omega | (simp only [List.length_append,List.length_cons,List.length_nil]; omega))) ?_))
    refine zq 1 (zn (zQ 2 (zn (sx_ret (sx_Z [6] [(St ((Itm.headB 0 scope.toNat) ++ S))] (fun W' hM => ?_))))))
    exact ⟨by simp only [resV,besB,h0,h10,h8,bs,if_true,if_false,cond_true,cond_false,reduceIte,List.append_nil],hM.below⟩
   ·
    refine zk (zQ 2 (zn (sx_ret (sx_Z [6] [(St (Itm.headB 0 scope.toNat))] (fun W' hM => ?_)))))
    exact ⟨by simp only [resV,besB,h0,h10,h8,bs,if_true,if_false,cond_true,cond_false,reduceIte,List.append_nil],hM.below⟩
theorem readA_len {p : Pr} {l : List Bk} {target : Int} (h : prRight p = 0) : (readA p l target).length ≤ 4000 := by
 unfold readA
 split
 · exact Nat.zero_le _
 · exact prBytes_len (bare_right h)
theorem readH_len {l : List Bk} {target : Int} : (readH l target).length ≤ 27 := by
 unfold readH
 split
 · exact Nat.zero_le _
 ·
  split
  · exact Nat.zero_le _
  · exact headB_len _
theorem readS_len {l : List Bk} {target : Int} {sec : Bk} : (readS l target sec).length ≤ 27 := by
 unfold readS
 split
 · exact Nat.zero_le _
 ·
  split
  · exact Nat.zero_le _
  · exact headB_len _
theorem mayB_parts {s : Int} (h : (!(mayB s)) = false) : 0 ≤ s ∧ s < 8 := by
 unfold mayB at h
 by_cases h1 : s ≥ 0
 ·
  rw [if_pos (by simpa using h1)] at h
  exact ⟨h1, by simpa using h⟩
 ·
  rw [if_neg (by simpa using h1)] at h
  cases h
theorem mayB_on {s : Int} (h : mayB s = true) : 0 ≤ s ∧ s < 8 := mayB_parts (by rw [h]; rfl)
def besideZ (l : List Bk) (target : Int) (sec : Bk) (scope : Int) : Int := if !(mayB scope) then 1 else if target == 0 then 8 else readZ l target sec
def besideB (p : Pr) (l : List Bk) (target : Int) (sec : Bk) (scope : Int) : List UInt8 := if besideZ l target sec scope != 0 then [] else besB (readA p l target) (readH l target) (readS l target sec) target scope
theorem scBeside_any (p : Pr) (l : List Bk) (a : Option Addr) (c : Nat) (target : Int) (sec : Bk) (scope : Int) (w : World) {U : View} (hU : ∀ a v, U a = some v → w.cell? a = some v) (hp : p.ok) (hl : BksAt U a l) (hs : sec.ok) (hr : bnRight p l = 0) : Calls Tryz.prog 63 #[bnV p a l.length c, .int .i64 target, sec.V, .int .i64 scope] w (Ret (.tuple #[.string (B (besideB p l target sec scope)), .int .i64 (besideZ l target sec scope)]) w) := by
 have hA := readA_len (l := l) (target := target) (right_all hr).1
 have hH := readH_len (l := l) (target := target)
 have hS := readS_len (l := l) (target := target) (sec := sec)
 refine sx_enter (f := 63) 33 U Tryz.func63 rfl rfl rfl hU ?_
 refine zs (zr (sx_N (fun b0 => (sx_N (fun b1 => (zq 2 (zn (zs (sx_block (zQ 1 (sx_C 99 #[(I6 scope)] (.bool (mayB scope)) (fun W hM => scMay_any scope W) ?_)))))))))))
 refine zq 2 (zn (sx_D (!(mayB scope)) (fun h0 => ?_) (fun h0 => ?_)))
 ·
  refine zQ 2 (zn (sx_ret (sx_Z [8,9] [(St []),(I6 1)] (fun W' hM => ?_))))
  exact ⟨by simp only [resV,besideB,besideZ,h0,bs,if_true,if_false,cond_true,cond_false,reduceIte,bne_self_eq_false]; try rfl,hM.below⟩
 ·
  refine zQ 3 (zn (sx_D (target == 0) (fun h1 => ?_) (fun h1 => ?_)))
  ·
   refine zQ 2 (zn (sx_ret (sx_Z [8,9] [(St []),(I6 8)] (fun W' hM => ?_))))
   exact ⟨by simp only [resV,besideB,besideZ,h0,h1,bs,if_true,if_false,cond_true,cond_false,reduceIte,bne_self_eq_false]; try rfl,hM.below⟩
  ·
   have h1d := beq_eq_false_iff_ne.1 h1
   refine zk (zB [1,0,2] [(b0,20),(b1,5)] (sx_C 100 #[(bnV p a l.length c),(I6 target),(sec.V)] (.tuple #[(.agg #[(St (readA p l target)),(St (readH l target)),(St (readS l target sec)),(St (readD p l target))]),(I6 (readZ l target sec))]) (fun W hM => scRead_any p l _ _ target sec W hM.view hp hl hs hr) ?_))
   refine zq 3 (sx_N (fun b2 => (sx_S 2 b2 (zq 1 (zn (zs (zQ 2 (zn (sx_D ((readZ l target sec) != 0) (fun h2 => ?_) (fun h2 => ?_))))))))))
   ·
    refine zQ 3 (zn (sx_ret (sx_Z [8,9] [(St []),(I6 (readZ l target sec))] (fun W' hM => ?_))))
    exact ⟨by simp only [resV,besideB,besideZ,h0,h1,h2,bs,if_true,if_false,cond_true,cond_false,reduceIte,bne_self_eq_false]; try rfl,hM.below⟩
   ·
    have h2d := bne_eq_false_iff_eq.1 h2
    refine zk (zB [3,0,0] [(b2,4)] ?_)
    have hmay : mayB scope = true := by have := h0; revert this; cases mayB scope <;> simp
    refine sx_C 101 #[(.agg #[(St (readA p l target)),(St (readH l target)),(St (readS l target sec)),(St (readD p l target))]),(I6 target),(I6 scope)] (St (besB (readA p l target) (readH l target) (readS l target sec) target scope)) (fun W hM => scBes_any _ _ _ _ target scope W (mayB_on (by simpa using hmay)).1 (mayB_on (by simpa using hmay)).2 (by omega) (by omega) (by omega)) ?_
    refine zq 2 (zn (sx_ret (sx_Z [8,9] [(St (besB (readA p l target) (readH l target) (readS l target sec) target scope)),(I6 0)] (fun W' hM => ?_))))
    have hz0 : readZ l target sec = 0 := by simpa using h2
    exact ⟨by simp only [resV,besideB,besideZ,h0,h1,h2,hz0,bs,if_true,if_false,cond_true,cond_false,reduceIte,bne_self_eq_false]; try rfl,hM.below⟩
theorem cw1_any (x : Bk) (num : Int) (pb : Nat) (w : World) {U : View} (hU : ∀ a v, U a = some v → w.cell? a = some v) (hp : U ⟨pb, 0, none⟩ = some (.int .i64 num)) : Calls Tryz.prog 114 #[x.V, .pointer (some ⟨pb, 0, none⟩)] w (Ret (.bool (x.n == num)) w) := by
 refine sx_enter (f := 114) 8 U Tryz.func114 rfl rfl rfl hU ?_
 refine zs (zr (sx_N (fun b0 => (zq 1 (zn (zB [0,1] [(b0,1)] (zV pb (0) (I6 num) hp 3 (.tmp 1) _ Tryz.underlying3 rfl ?_)))))))
 refine zq 2 (zn (sx_ret (sx_Z [3] [(.bool (x.n == num))] (fun W' hM => ?_))))
 exact ⟨rfl,hM.below⟩
theorem cwIdx_any (l : List Bk) (a : Option Addr) (c : Nat) (num : Int) (pb : Nat) (w : World) {U : View} (hU : ∀ a v, U a = some v → w.cell? a = some v) (hl : BksAt U a l) (hp : U ⟨pb, 0, none⟩ = some (.int .i64 num)) :
    Calls Tryz.prog 67 #[.slice a l.length c, .func (.func 114) #[] #[.pointer (some ⟨pb, 0, none⟩)]] w (Ret (.int .i64 (idxB l num)) w) := by
 have hlen := hl.len
 unfold R47 at hlen
 refine sx_enter (f := 67) 19 U Tryz.func67 rfl rfl rfl hU ?_
 refine zQ 1 (zn (zs (zQ 3 (zn (sx_block ?_)))))
 refine sx_loop (α := Nat) (fun x => [0,1,4,7,8].zip [(.slice a l.length c),(.func (.func 114) #[] #[(Pt pb 0)]),(I6 0),(L6 l.length),(L6 x)]) (fun x => U) (fun x => []) (fun x => x ≤ l.length ∧ idxF num x (l.drop x) = idxB l num) (fun x => l.length - x) 0 ?_ (look_zip _ _ (by kernel_rfl)) (fun _ h => h.eqv (by kernel_rfl)) ?_
 · exact ⟨Nat.zero_le _,rfl⟩
 intro x hx
 obtain ⟨hx1,hx2⟩ := hx
 refine zQ 1 (zn (zs (sx_D (decide (((x : Nat) : Int) < (((l.length : Nat)) : Int))) (fun h0 => ?_) (fun h0 => ?_))))
 ·
  have h0d := of_decide_eq_true h0
  refine zk (zs (sx_block (zQ 2 (zn (zQ 3 ?_)))))
  obtain ⟨y0,hy0⟩ : ∃ y,(l)[x]? = some y := ⟨(l)[x]'(by omega),List.getElem?_eq_getElem _⟩
  obtain ⟨b0,f0,rfl,hU0⟩ := hl.at_ x y0 hy0
  refine sx_R (Pt b0 (f0 + x * 5)) (rIx 38 rfl b0 f0 l.length c x 5) ?_
  refine zU b0 (f0 + x * 5) y0.cs hU0 38 (.tmp 14) _ Tryz.underlying38 rfl ?_
  refine sx_C 114 #[(y0.V),(Pt pb 0)] (.bool (y0.n == num)) (fun W hM => cw1_any y0 num pb W hM.view hp) ?_
  refine zn (sx_D (y0.n == num) (fun h1 => ?_) (fun h1 => ?_))
  ·
   have h1d := eq_of_beq h1
   refine zQ 2 (zn (sx_ret (sx_Z [4] [(L6 x)] (fun W' hM => ?_))))
   refine ⟨?_,hM.below⟩
   rw [← hx2,idxF_drop hy0,if_pos h1]
   rfl
  ·
   have h1d := beq_eq_false_iff_ne.1 h1
   refine zk (zr (zq 1 (sx_E 18 (I6 (IntKind.i64.wrap (((x : Nat) : Int) + 1))) (I6 (((x : Nat) : Int) + 1)) i6v ?_)))
   refine zq 1 (zn ?_)
   refine ⟨(x + 1),?_,?_,look_zip _ _ (by kernel_rfl),fun _ h => h.eqv (by kernel_rfl)⟩
   · exact ⟨by omega,by rw [← hx2,idxF_drop hy0,h1]; rfl⟩
   · show l.length - (x + 1) < l.length - x; omega
 ·
  have h0d := of_decide_eq_false h0
  refine sx_exit (zQ 1 (zn (sx_ret (sx_Z [4] [(I6 (-1))] (fun W' hM => ?_)))))
  refine ⟨?_,hM.below⟩
  rw [← hx2,drop_all (by omega)]
  rfl
def Bk.withD (y : Bk) (d : List UInt8) : Bk := ⟨y.t, y.n, y.f, y.c, d⟩
theorem flat_setD : ∀ (l : List Bk) (i : Nat) (y : Bk) (d : List UInt8) (j : List Value), l[i]? = some y → stCells (l.flatMap Bk.cs ++ j) (0 + i * 5 + 4) [.string (B d)] = (l.set i (y.withD d)).flatMap Bk.cs ++ j
 | [], i, y, d, j, h => by simp at h
 | x :: r, 0, y, d, j, h => by
  simp only [List.getElem?_cons_zero, Option.some.injEq] at h
  subst h
  rfl
 | x :: r, i + 1, y, d, j, h => by
  have ih := flat_setD r i y d j (by simpa using h)
  have hq : x.cs.length = 5 := rfl
  rw [List.set_cons_succ, List.flatMap_cons, List.flatMap_cons, List.append_assoc, List.append_assoc, ← ih]
  unfold stCells
  rw [List.length_singleton, show 0 + (i + 1) * 5 + 4 = x.cs.length + (0 + i * 5 + 4) by omega, List.take_append, List.take_of_length_le (by omega), show x.cs.length + (0 + i * 5 + 4) - x.cs.length = 0 + i * 5 + 4 by omega, show x.cs.length + (0 + i * 5 + 4) + 1 = x.cs.length + (0 + i * 5 + 4 + 1) by omega, List.drop_append, List.drop_of_length_le (by omega), List.nil_append, show x.cs.length + (0 + i * 5 + 4 + 1) - x.cs.length = 0 + i * 5 + 4 + 1 by omega]
  simp only [List.append_assoc]
theorem cWith_any (b f c : Nat) (l : List Bk) (num : Int) (d : List UInt8) (i : Nat) (y : Bk) (w : World) {U : View} (hU : ∀ a v, U a = some v → w.cell? a = some v) (hr : U.range b f (l.flatMap Bk.cs)) (hok : ∀ x ∈ l, x.ok) (hsm : l.length ≤ 1000000) (hidx : idxB l num = (i : Int)) (hy : l[i]? = some y) :
    Calls Tryz.prog 66 #[.slice (some ⟨b, f, none⟩) l.length c, .int .i64 num, .string (B d)] w (RetR w 38 5 l.length ((l.set i (y.withD d)).flatMap Bk.cs)) := by
 have hi := (List.getElem?_eq_some_iff.1 hy).1
 have hpos : 0 < l.length := by omega
 have hbl := bks_len l
 refine sx_enter (f := 66) 20 U Tryz.func66 rfl rfl rfl hU ?_
 refine zs (zr (sx_N (fun b0 => (zq 1 (zn (zQ 1 ?_))))))
 refine sx_callR 92 #[(Sl b f l.length c)] 38 5 l.length (l.flatMap Bk.cs) (by kernel_rfl) (fun W hM => cloneBk_any hM.view b f l.length c _ hr (bks_len l) (bks_one l) hpos (by omega)) (by kernel_rfl) (by kernel_rfl) (fun b1 c1 j1 hJ1 => ?_)
 refine zq 1 (zn (zQ 2 (sx_C 67 #[(Sl b1 0 l.length c1),(.func (.func 114) #[] #[(Pt b0 0)])] (I6 ((i : Nat) : Int)) (fun W hM => hidx ▸ cwIdx_any l (some ⟨b1,0,none⟩) c1 num b0 W (U := allU W) (fun _ _ h => h) (BksAt.of (range_append (show (allU W).range b1 0 (l.flatMap Bk.cs ++ j1) from rangeAt_own hM 1 b1 (l.flatMap Bk.cs ++ j1) 38 (by kernel_rfl))).1 hok (by unfold R47; omega)) (rangeAt_own hM 0 b0 [.int .i64 num] 3 (by kernel_rfl) 0 _ rfl)) ?_)))
 refine zq 1 (zn (zQ 3 (sx_R (Pt b1 (0 + i * 5)) (rIx 38 rfl b1 0 l.length c1 i 5) ?_)))
 refine zq 1 ?_
 refine sx_sP 1 b1 (0 + i * 5 + 4) 1 (l.flatMap Bk.cs ++ j1) 38 9 (St d) (.tmp 18) (.tmp 16) rfl (by kernel_rfl) (by kernel_rfl) (by kernel_rfl) (by kernel_rfl) (by rw [List.length_append,hbl]; omega) rfl (by kernel_rfl) ?_
 refine zn (zQ 2 (zn (sx_ret (sx_Z [6] [(Sl b1 0 l.length c1)] (fun W' hM => ?_)))))
 have hM9 := hM.eqv (show _ = ([(bK b0 [(I6 num)] 3)] ++ [(b1,.cells ((l.set i (y.withD d)).flatMap Bk.cs ++ j1).toArray 38 (0,0))]) from by rw [← flat_setD l i y d j1 hy]; kernel_rfl)
 have hJ := hJ1
 have hsl : (l.set i (y.withD d)).length = l.length := List.length_set
 have hb2 := bks_len (l.set i (y.withD d))
 rw [hsl] at hb2
 exact retR_of (σ1 := [(bK b0 [(I6 num)] 3)]) (r := .row b1 c1 j1) (m := l.length) (e := 38) hM9 ⟨hb2,by rw [List.length_append,hb2]; have := hJ.2.1; rw [List.length_append,hbl] at this; exact this,hJ.2.2.1,hJ.2.2.2⟩ hpos
theorem cChecked_ok (p : Pr) (l l' : List Bk) (a a' : Option Addr) (c c' : Nat) (w : World) {U : View} (hU : ∀ a v, U a = some v → w.cell? a = some v) (hp : p.ok) (hl : BksAt U a' l') (h : bnRight p l' = 0) : Calls Tryz.prog 69 #[bnV p a l.length c, .slice a' l'.length c'] w (Ret (.tuple #[bnV p a' l'.length c', .int .i64 0]) w) := by
 have h' : (bnRight p l' != 0) = false := by simp [h]
 refine sx_enter (f := 69) 16 U Tryz.func69 rfl rfl rfl hU ?_
 refine zs (zr (sx_N (fun b0 => (sx_N (fun b1 => (zq 1 (zn (zQ 2 (sx_S 0 b0 (zn (zs (zB [1] [(b0,20)] (sx_C 115 #[(bnV p a' l'.length c')] (I6 (bnRight p l')) (fun W hM => bnRight_any p l' _ _ W hM.view hp hl) ?_)))))))))))))
 refine zq 1 (zn (zQ 2 (zn (sx_F' ((bnRight p l') != 0) h' ?_))))
 refine zk (zB [1] [(b0,20)] (sx_S 1 b1 (zq 1 (zn (sx_ret ?_)))))
 refine sx_ret_any [.cell 4 29,.tmp 5] [(bnV p a' l'.length c'),(I6 0)] rfl ⟨(retK' 1 b1 20),retT',trivial⟩ (fun W' hM => ?_)
 exact ⟨rfl,hM.below⟩
theorem cChecked_no (p : Pr) (l l' : List Bk) (a a' : Option Addr) (c c' : Nat) (w : World) {U : View} (hU : ∀ a v, U a = some v → w.cell? a = some v) (hp : p.ok) (hl : BksAt U a' l') (h : (bnRight p l' != 0) = true) : Calls Tryz.prog 69 #[bnV p a l.length c, .slice a' l'.length c'] w (Ret (.tuple #[bnV Pr.zero none 0 0, .int .i64 (bnRight p l')]) w) := by
 refine sx_enter (f := 69) 16 U Tryz.func69 rfl rfl rfl hU ?_
 refine zs (zr (sx_N (fun b0 => (sx_N (fun b1 => (zq 1 (zn (zQ 2 (sx_S 0 b0 (zn (zs (zB [1] [(b0,20)] (sx_C 115 #[(bnV p a' l'.length c')] (I6 (bnRight p l')) (fun W hM => bnRight_any p l' _ _ W hM.view hp hl) ?_)))))))))))))
 refine zq 1 (zn (zQ 2 (zn (sx_T' ((bnRight p l') != 0) h ?_))))
 refine zQ 2 (sx_S 1 b1 (zq 1 (zn (sx_ret ?_))))
 refine sx_ret_any [.cell 4 29,.tmp 5] [(.agg #[(U6 0),(I6 0),(I6 0),(St []),(U6 0),(U6 0),(I6 0),(St []),(U6 0),(U6 0),(I6 0),(St []),(U6 0),(U6 0),(U6 0),(U6 0),(U6 0),(U6 0),(U6 0),S0]),(I6 (bnRight p l'))] rfl ⟨(retK' 1 b1 20),retT',trivial⟩ (fun W' hM => ?_)
 exact ⟨rfl,hM.below⟩
theorem cChecked_any (p : Pr) (l l' : List Bk) (a a' : Option Addr) (c c' : Nat) (w : World) {U : View} (hU : ∀ a v, U a = some v → w.cell? a = some v) (hp : p.ok) (hl : BksAt U a' l') : Calls Tryz.prog 69 #[bnV p a l.length c, .slice a' l'.length c'] w (RetN w U (BnRes (chkP p l') (chkL p l') (bnRight p l'))) := by
 unfold chkP chkL
 cases h : bnRight p l' != 0 with
 | true => exact Calls.retN hU (cChecked_no p l l' a a' c c' w hU hp hl h) ⟨none, 0, rfl, BksAt.nil⟩
 | false =>
  have h0 : bnRight p l' = 0 := by simpa using h
  rw [h0]
  exact Calls.retN hU (cChecked_ok p l l' a a' c c' w hU hp hl h0) ⟨a', c', rfl, hl⟩
end Go.Proofs.YtcdjakemdlinhaaGreatDoor.Sx
