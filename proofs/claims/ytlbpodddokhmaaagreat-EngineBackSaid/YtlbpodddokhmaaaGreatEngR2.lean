/-
  The real engine seals and opens: the walks of its methods.
  Conditions: named at each.
-/
import Derived.Test.YtlbpodddokhmaaaGreatEngY
import Derived.Test.YtlbpodddokhmaaaGreatGf16
namespace Go.Proofs.YtlbpodddokhmaaaGreat.EngR
open Go.ChangeShapes Go.WideShapes Go.ChangeAt Go.RowKit Go.Deep Go.Proofs.YtlbpodddokhmaaaGreat.Eng
open Go.Proofs.YtlbpodddokhmaaaGreat.Gf (sealB tagB firstB openS openE)
theorem nil_ahead_rseal (n : Nat) (w : World) : (nilAhead (n + 1) 51 (.agg #[]) "dromond/engine.seal").run Tryz.prog w = .ok (some false) w := by kernel_rfl
theorem method_rseal (n : Nat) (w : World) : (method (n + 1) 51 (.agg #[]) "dromond/engine.seal").run Tryz.prog w = .ok (77, .agg #[]) w := by kernel_rfl
theorem nil_ahead_ropen (n : Nat) (w : World) : (nilAhead (n + 1) 51 (.agg #[]) "dromond/engine.open").run Tryz.prog w = .ok (some false) w := by kernel_rfl
theorem method_ropen (n : Nat) (w : World) : (method (n + 1) 51 (.agg #[]) "dromond/engine.open").run Tryz.prog w = .ok (76, .agg #[]) w := by kernel_rfl
set_option maxRecDepth 100000 in
theorem rseal_any (vr : Int) (key nonce wth t : List UInt8) (w : World) (hs : Gf.sealOk key nonce) (hw : wth.length ≤ 1000000) (ht : t.length ≤ 1000000) :
    Calls Tryz.prog 77 #[.agg #[], .int .i64 vr, .string (B key), .string (B nonce), .string (B wth), .string (B t)] w fun e w' => e = .returned (.tuple #[.string (B (sealB key nonce t)), .string (B (tagB key (firstB key nonce) wth (sealB key nonce t)))]) ∧ Below w.heap.size w w' := by
  have HS := Lib.hid fun W => Gf.Seal_any key nonce wth t W hs hw ht
  generalize tagB key (firstB key nonce) wth (sealB key nonce t) = tag at *
  generalize sealB key nonce t = s at *
  clear hs hw ht
  go_enter Tryz.func77, Tryz.ntmps77
  go_wp2_with fail
  refine (HS.out _).mono ?_
  rintro _ W1 ⟨rfl, hb⟩
  go_wp2
  exact bodyPost_ret (v := .tuple #[.string (B s), .string (B tag)]) (by simp [results, Tryz.results77, go_sem]) rfl ⟨rfl, by ((repeat' (with_reducible first | exact Below.refl _ _ | assumption | refine Below.drew ?_ | refine below_drewN ?_ _ | refine Below.setCell ?_ ?_ _ | refine Below.alloc ?_ ?_ _ | refine Below.ext ?_ ?_ _ | refine Below.trans ?_ (Below.mono ‹_› ?_))) <;> first | omega | (simp; done) | (simp; omega))⟩
set_option maxRecDepth 100000 in
theorem ropen_any (vr : Int) (key nonce wth t : List UInt8) (w : World) (hs : Gf.sealOk key nonce) (hw : wth.length ≤ 1000000) (ht : t.length ≤ 1000000) :
    Calls Tryz.prog 76 #[.agg #[], .int .i64 vr, .string (B key), .string (B nonce), .string (B wth), .string (B (sealB key nonce t)), .string (B (tagB key (firstB key nonce) wth (sealB key nonce t)))] w fun e w' => e = .returned (.tuple #[.string (B t), .bool true]) ∧ Below w.heap.size w w' := by
  have hS := fun W => Gf.Open_any key nonce wth (sealB key nonce t) (tagB key (firstB key nonce) wth (sealB key nonce t)) W hw (by rw [sealB, Gf.streamB_length]; exact ht)
  rw [show openS key nonce wth (sealB key nonce t) (tagB key (firstB key nonce) wth (sealB key nonce t)) = t by rw [openS, if_pos ⟨hs, rfl⟩, sealB, Gf.stream_back], show openE key nonce wth (sealB key nonce t) (tagB key (firstB key nonce) wth (sealB key nonce t)) = 0 by rw [openE, if_pos hs, if_pos rfl]] at hS
  have HS := Lib.hid hS
  generalize tagB key (firstB key nonce) wth (sealB key nonce t) = tag at *
  generalize sealB key nonce t = s at *
  clear hs hw ht hS
  go_enter Tryz.func76, Tryz.ntmps76
  go_wp2_with fail
  refine (HS.out _).mono ?_
  rintro _ W1 ⟨rfl, hb⟩
  go_wp2
  exact bodyPost_ret (v := .tuple #[.string (B t), .bool true]) (by simp [results, Tryz.results76, go_sem]) rfl ⟨rfl, by ((repeat' (with_reducible first | exact Below.refl _ _ | assumption | refine Below.drew ?_ | refine below_drewN ?_ _ | refine Below.setCell ?_ ?_ _ | refine Below.alloc ?_ ?_ _ | refine Below.ext ?_ ?_ _ | refine Below.trans ?_ (Below.mono ‹_› ?_))) <;> first | omega | (simp; done) | (simp; omega))⟩
set_option maxRecDepth 100000 in
theorem RSeal_any (eb k : Nat) (vr : Int) (key nonce wth t : List UInt8) (w : World) (he : w.cell? ⟨eb, 0, none⟩ = some (.iface 51 (.agg #[]))) (hs : Gf.sealOk key nonce) (hw : wth.length ≤ 1000000) (ht : t.length ≤ 1000000)
    (hkb : Eng.keyBytes vr = (k : Int)) (hk0 : 0 < k) (hk : key.length = k) (h8 : 8 ≤ (nonce.length : Int)) (h16 : (nonce.length : Int) ≤ 16) :
    Calls Tryz.prog 14 #[.pointer (some ⟨eb, 0, none⟩), .int .i64 vr, .string (B key), .string (B nonce), .string (B wth), .string (B t)] w fun e w' => e = .returned (.tuple #[.string (B (sealB key nonce t)), .string (B (tagB key (firstB key nonce) wth (sealB key nonce t))), .int .i64 0]) ∧ Below w.heap.size w w' := by
  have h1 := nil_ahead_rseal
  have h2 := method_rseal
  have HS := Lib.hid fun W => EngX.seals_any vr key nonce k W hkb hk0 hk h8 h16
  have HI := Lib.hid (rseal_any vr key nonce wth t w hs hw ht)
  clear hs hw ht hkb hk0 hk h8 h16
  generalize tagB key (firstB key nonce) wth (sealB key nonce t) = tag at *
  generalize sealB key nonce t = s at *
  go_enter Tryz.func14, Tryz.ntmps14
  go_wp2_with fail
  refine (HS.out _).mono ?_
  rintro _ _ ⟨rfl, rfl⟩
  go_wp2_with fail
  refine HI.out.mono ?_
  rintro _ W1 ⟨rfl, hb⟩
  go_wp2
  exact bodyPost_ret (v := .tuple #[.string (B s), .string (B tag), .int .i64 0]) (by simp [results, Tryz.results14, go_sem]) rfl ⟨rfl, hb⟩
set_option maxRecDepth 100000 in
theorem ROpen_any (eb k : Nat) (vr : Int) (key nonce wth t : List UInt8) (w : World) (he : w.cell? ⟨eb, 0, none⟩ = some (.iface 51 (.agg #[]))) (hs : Gf.sealOk key nonce) (hw : wth.length ≤ 1000000) (ht : t.length ≤ 1000000)
    (hkb : Eng.keyBytes vr = (k : Int)) (hk0 : 0 < k) (hk : key.length = k) (h8 : 8 ≤ (nonce.length : Int)) (h16 : (nonce.length : Int) ≤ 16) :
    Calls Tryz.prog 16 #[.pointer (some ⟨eb, 0, none⟩), .int .i64 vr, .string (B key), .string (B nonce), .string (B wth), .string (B (sealB key nonce t)), .string (B (tagB key (firstB key nonce) wth (sealB key nonce t)))] w fun e w' => e = .returned (.tuple #[.string (B t), .int .i64 0]) ∧ Below w.heap.size w w' := by
  have h1 := nil_ahead_ropen
  have h2 := method_ropen
  have HS := Lib.hid fun W => EngX.seals_any vr key nonce k W hkb hk0 hk h8 h16
  have HI := Lib.hid (ropen_any vr key nonce wth t w hs hw ht)
  clear hs hw ht hkb hk0 hk h8 h16
  generalize tagB key (firstB key nonce) wth (sealB key nonce t) = tag at *
  generalize sealB key nonce t = s at *
  go_enter Tryz.func16, Tryz.ntmps16
  go_wp2_with fail
  refine (HS.out _).mono ?_
  rintro _ _ ⟨rfl, rfl⟩
  go_wp2_with fail
  refine HI.out.mono ?_
  rintro _ W1 ⟨rfl, hb⟩
  go_wp2
  go_ret2
  exact ⟨rfl, hb⟩
end Go.Proofs.YtlbpodddokhmaaaGreat.EngR
