/-
  The walk of the sealer's tag, of Seal, of Open.
  Conditions: named at each.
-/
import Derived.Test.YtlbpodddokhmaaaGreatGf10
namespace Go.Proofs.YtlbpodddokhmaaaGreat.Gf
open Go.ChangeShapes Go.WideShapes Go.ChangeAt Go.RowKit Go.Deep
open Go.Proofs.YtlbpodddokhmaaaGreat.Aes (CipherAt stN wordsL subT subT_bytes)
def tagB (key first a t : List UInt8) : List UInt8 := orB (hashB (E key (Z 16)) a t) (E key first)
theorem tagB_length (key first a t : List UInt8) : (tagB key first a t).length = 16 := by rw [tagB, orB_length, hashB_length]
set_option maxHeartbeats 800000 in
set_option maxRecDepth 100000 in
theorem tag_any (key first a t : List UInt8) (sb : Nat) (w : World) (hk : keyOk key) (hf : first.length = 16) (hs : SealerAt w sb key first) (ha : a.length ≤ 1000000) (ht : t.length ≤ 1000000) : Calls Tryz.prog 84 #[.pointer (some ⟨sb, 0, none⟩), .string (B a), .string (B t)] w fun e w' => e = .returned (.string (B (tagB key first a t))) ∧ Below w.heap.size w w' := by
  obtain ⟨cb, hsb, hc⟩ := hs
  have hlt := Aes.lt_of_heap hsb
  have HK := Lib.hid hk
  have HF := Lib.hid hf
  have HSB := Lib.hid hsb
  have HC := Lib.hid hc
  clear hk hf hsb hc
  go_enter Tryz.func84, Tryz.ntmps84
  go_upto_region 1 with fail
  have hS : Below w.heap.size w w.drew := (Below.refl _ _).drew
  refine wp_region_held (S := fun w' => Below w.heap.size w w') (by kernel_rfl) ?_
  change wpAnyH _ _ _ _ _ _ _ _ w.drew
  refine takeH 0 rfl rfl (some 7) rfl (.pointer (some ⟨sb, 0, none⟩)) (by kernel_rfl) (by kernel_rfl) (by kernel_rfl) (fun _ _ _ h => h) (fun _ _ => rfl) hS ?_
  simp only [Act.put, List.setIfInBounds_toArray, List.set_cons_zero, List.set_cons_succ]
  refine takeH 1 rfl rfl (some 8) rfl (.pointer (some ⟨sb, 0, none⟩)) (by kernel_rfl) (by kernel_rfl) (by kernel_rfl) (fun _ _ _ h => h) (fun _ _ => rfl) hS ?_
  simp only [Act.put, List.setIfInBounds_toArray, List.set_cons_zero, List.set_cons_succ]
  refine takeH 2 rfl rfl (some 9) rfl (.pointer (some ⟨sb, 1, none⟩)) (by kernel_rfl) (by kernel_rfl) (by kernel_rfl) (fun _ _ _ h => h) (fun _ _ => by kernel_rfl) hS ?_
  simp only [Act.put, List.setIfInBounds_toArray, List.set_cons_zero, List.set_cons_succ]
  refine takeH 3 rfl rfl (some 10) rfl (.string (B (E key (Z 16)))) (by kernel_rfl) (by kernel_rfl) (by kernel_rfl) (fun _ _ _ h => h) (fun w' hw => ?_) hS ?_
  · have h1 : w'.cell? ⟨sb, 1, none⟩ = some (.string (B (E key (Z 16)))) := by
      rw [cell_of_row w' sb 1 _ _ _ (below_heap hw hlt HSB.out)]; rfl
    go_simp
  simp only [Act.put, List.setIfInBounds_toArray, List.set_cons_zero, List.set_cons_succ]
  refine takeH 4 rfl rfl (some 11) rfl (.string (B a)) (by kernel_rfl) (by kernel_rfl) (by kernel_rfl) (fun _ _ _ h => h) (fun _ _ => rfl) hS ?_
  simp only [Act.put, List.setIfInBounds_toArray, List.set_cons_zero, List.set_cons_succ]
  refine takeH 5 rfl rfl (some 12) rfl (.string (B t)) (by kernel_rfl) (by kernel_rfl) (by kernel_rfl) (fun _ _ _ h => h) (fun _ _ => rfl) hS ?_
  simp only [Act.put, List.setIfInBounds_toArray, List.set_cons_zero, List.set_cons_succ]
  refine takeH 7 rfl rfl (some 14) rfl (.pointer (some ⟨sb, 0, none⟩)) (by kernel_rfl) (by kernel_rfl) (by kernel_rfl) (fun _ _ _ h => h) (fun _ _ => rfl) hS ?_
  simp only [Act.put, List.setIfInBounds_toArray, List.set_cons_zero, List.set_cons_succ]
  refine takeH 8 rfl rfl (some 15) rfl (.pointer (some ⟨sb, 0, none⟩)) (by kernel_rfl) (by kernel_rfl) (by kernel_rfl) (fun _ _ _ h => h) (fun _ _ => rfl) hS ?_
  simp only [Act.put, List.setIfInBounds_toArray, List.set_cons_zero, List.set_cons_succ]
  refine takeH 9 rfl rfl (some 16) rfl (.pointer (some ⟨sb, 0, none⟩)) (by kernel_rfl) (by kernel_rfl) (by kernel_rfl) (fun _ _ _ h => h) (fun _ _ => by kernel_rfl) hS ?_
  simp only [Act.put, List.setIfInBounds_toArray, List.set_cons_zero, List.set_cons_succ]
  refine takeH 10 rfl rfl (some 17) rfl (.pointer (some ⟨cb, 0, none⟩)) (by kernel_rfl) (by kernel_rfl) (by kernel_rfl) (fun _ _ _ h => h) (fun w' hw => ?_) hS ?_
  · have h1 : w'.cell? ⟨sb, 0, none⟩ = some (.pointer (some ⟨cb, 0, none⟩)) := by
      rw [cell_of_row w' sb 0 _ _ _ (below_heap hw hlt HSB.out)]; rfl
    go_simp
  simp only [Act.put, List.setIfInBounds_toArray, List.set_cons_zero, List.set_cons_succ]
  refine takeH 11 rfl rfl (some 18) rfl (.pointer (some ⟨sb, 0, none⟩)) (by kernel_rfl) (by kernel_rfl) (by kernel_rfl) (fun _ _ _ h => h) (fun _ _ => rfl) hS ?_
  simp only [Act.put, List.setIfInBounds_toArray, List.set_cons_zero, List.set_cons_succ]
  refine takeH 12 rfl rfl (some 19) rfl (.pointer (some ⟨sb, 0, none⟩)) (by kernel_rfl) (by kernel_rfl) (by kernel_rfl) (fun _ _ _ h => h) (fun _ _ => rfl) hS ?_
  simp only [Act.put, List.setIfInBounds_toArray, List.set_cons_zero, List.set_cons_succ]
  refine takeH 13 rfl rfl (some 20) rfl (.pointer (some ⟨sb, 2, none⟩)) (by kernel_rfl) (by kernel_rfl) (by kernel_rfl) (fun _ _ _ h => h) (fun _ _ => by kernel_rfl) hS ?_
  simp only [Act.put, List.setIfInBounds_toArray, List.set_cons_zero, List.set_cons_succ]
  refine takeH 14 rfl rfl (some 21) rfl (.string (B first)) (by kernel_rfl) (by kernel_rfl) (by kernel_rfl) (fun _ _ _ h => h) (fun w' hw => ?_) hS ?_
  · have h1 : w'.cell? ⟨sb, 2, none⟩ = some (.string (B first)) := by
      rw [cell_of_row w' sb 2 _ _ _ (below_heap hw hlt HSB.out)]; rfl
    go_simp
  simp only [Act.put, List.setIfInBounds_toArray, List.set_cons_zero, List.set_cons_succ]
  refine oneH 6 rfl rfl (by kernel_rfl) fun K hK => ?_
  refine wpH_call (some 13) rfl 94 #[.string (B (E key (Z 16))), .string (B a), .string (B t)] (by kernel_rfl) _ _ (Hash_any (E key (Z 16)) a t w.drew (E_length _ _) ha ht) fun W13 hW13 => ?_
  simp only [Act.put, List.setIfInBounds_toArray, List.set_cons_zero, List.set_cons_succ]
  have hS13 : Below w.heap.size w W13 := hS.trans (hW13.mono hS.size)
  refine hK _ _ hS13 fun _ => ?_
  clear hK K
  refine oneH 15 rfl rfl (by kernel_rfl) fun K hK => ?_
  refine wpH_call (some 22) rfl 92 #[.pointer (some ⟨cb, 0, none⟩), .string (B first)] (by kernel_rfl) _ _ (Do_any key first cb W13 HK.out HF.out (cipher_below hS13 HC.out)) fun W22 hW22 => ?_
  simp only [Act.put, List.setIfInBounds_toArray, List.set_cons_zero, List.set_cons_succ]
  have hS22 : Below w.heap.size w W22 := hS13.trans (hW22.mono hS13.size)
  refine hK _ _ hS22 fun _ => ?_
  clear hK K
  refine oneH 16 rfl rfl (by kernel_rfl) fun K hK => ?_
  refine wpH_call (some 23) rfl 95 #[.string (B (hashB (E key (Z 16)) a t)), .string (B (E key first))] (by kernel_rfl) _ _ (or_any (hashB (E key (Z 16)) a t) (E key first) W22 (by rw [E_length, hashB_length]; omega) (by rw [hashB_length]; omega)) fun W23 hW23 => ?_
  simp only [Act.put, List.setIfInBounds_toArray, List.set_cons_zero, List.set_cons_succ]
  have hS23 : Below w.heap.size w W23 := hS22.trans (hW23.mono hS22.size)
  refine hK _ _ hS23 fun _ => ?_
  clear hK K
  refine oneH 17 rfl rfl (by kernel_rfl) fun K hK => ?_
  refine wpH_run (some 6) rfl (.string (B (tagB key first a t))) rfl ?_
  simp only [Act.put, List.setIfInBounds_toArray, List.set_cons_zero, List.set_cons_succ]
  refine hK _ _ hS23 fun _ => ?_
  clear hK K
  refine wpAnyH_done (by kernel_rfl) ?_ _
  have HS := Lib.hid hS23
  clear hS23 hS22 hS13 hS hW13 hW22 hW23
  go_wp2
  go_ret
  exact ⟨rfl, HS.out⟩
theorem sealer_below {w w' : World} {sb : Nat} {key first : List UInt8} (h : Below w.heap.size w w') (hs : SealerAt w sb key first) : SealerAt w' sb key first := by
  obtain ⟨cb, h1, h2⟩ := hs
  exact ⟨cb, below_heap h (Aes.lt_of_heap h1) h1, cipher_below h h2⟩
/-- What is sealed. -/
def sealB (key nonce text : List UInt8) : List UInt8 := streamB key (firstB key nonce) text
def sealOk (key nonce : List UInt8) : Prop := keyOk key ∧ 8 ≤ nonce.length ∧ nonce.length ≤ 16
instance (key nonce : List UInt8) : Decidable (sealOk key nonce) := by unfold sealOk keyOk; infer_instance
theorem Seal_any (key nonce a t : List UInt8) (w : World) (hk : sealOk key nonce) (ha : a.length ≤ 1000000) (ht : t.length ≤ 1000000) : Calls Tryz.prog 81 #[.string (B key), .string (B nonce), .string (B a), .string (B t)] w fun e w' => e = .returned (.tuple #[.string (B (sealB key nonce t)), .string (B (tagB key (firstB key nonce) a (sealB key nonce t))), .int .i64 0]) ∧ Below w.heap.size w w' := by
  have HO := Lib.hid (open_any key nonce w hk.1 hk.2.1 hk.2.2)
  have HK := Lib.hid hk.1
  clear hk
  go_enter Tryz.func81, Tryz.ntmps81
  go_wp2_with fail
  refine Calls.mono HO.out ?_
  rintro _ W1 ⟨sb, rfl, hs, hb1⟩
  have HS := Lib.hid hs
  have HB1 := Lib.hid hb1
  clear hs hb1 HO
  go_wp2_with fail
  refine Calls.mono (stream_any key (firstB key nonce) t sb W1 HK.out (firstB_length _ _) HS.out ht) ?_
  rintro _ W2 ⟨rfl, hb2⟩
  have HS2 := Lib.hid (sealer_below hb2 HS.out)
  have HB2 := Lib.hid (HB1.out.trans (hb2.mono HB1.out.size))
  clear hb2
  go_wp2_with fail
  refine Calls.mono (tag_any key (firstB key nonce) a (streamB key (firstB key nonce) t) sb W2 HK.out (firstB_length _ _) HS2.out ha (by rw [streamB_length]; exact ht)) ?_
  rintro _ W3 ⟨rfl, hb3⟩
  have HB3 := Lib.hid (HB2.out.trans (hb3.mono HB2.out.size))
  clear hb3
  go_wp2
  exact bodyPost_ret (v := .tuple #[.string (B (streamB key (firstB key nonce) t)), .string (B (tagB key (firstB key nonce) a (streamB key (firstB key nonce) t))), .int .i64 0]) (by simp [results, Tryz.results81, go_sem]) rfl ⟨rfl, HB3.out⟩
theorem Seal_none (key nonce a t : List UInt8) (w : World) (hk : ¬ sealOk key nonce) : Calls Tryz.prog 81 #[.string (B key), .string (B nonce), .string (B a), .string (B t)] w fun e w' => e = .returned (.tuple #[.string (B []), .string (B []), .int .i64 1]) ∧ Below w.heap.size w w' := by
  have h : ¬ keyOk key ∨ nonce.length < 8 ∨ 16 < nonce.length := by
    by_cases h1 : keyOk key
    · by_cases h2 : 8 ≤ nonce.length
      · by_cases h3 : nonce.length ≤ 16
        · exact absurd ⟨h1, h2, h3⟩ hk
        · exact .inr (.inr (by omega))
      · exact .inr (.inl (by omega))
    · exact .inl h1
  have HO := Lib.hid (open_none key nonce w h)
  clear hk h
  go_enter Tryz.func81, Tryz.ntmps81
  go_wp2_with fail
  refine Calls.ext HO.out fun u => ?_
  go_wp2
  exact bodyPost_ret (v := .tuple #[.string ⟨#[]⟩, .string ⟨#[]⟩, .int .i64 1]) (by simp [results, Tryz.results81, go_sem]) rfl ⟨rfl, by ((repeat' (with_reducible first | exact Below.refl _ _ | assumption | refine Below.drew ?_ | refine below_drewN ?_ _ | refine Below.setCell ?_ ?_ _ | refine Below.alloc ?_ ?_ _ | refine Below.ext ?_ ?_ _ | refine Below.trans ?_ (Below.mono ‹_› ?_))) <;> first | omega | (simp; done) | (simp; omega))⟩
end Go.Proofs.YtlbpodddokhmaaaGreat.Gf
