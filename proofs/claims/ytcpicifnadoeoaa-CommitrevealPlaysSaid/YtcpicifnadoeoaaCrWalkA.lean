/- The walks of CommitrevealCommits, CommitrevealBinds. -/
import Derived.Test.YtcpicifnadoeoaaCrL
namespace Go.Proofs.Ytcpicifnadoeoaa
open Go Go.RowKit Go.BigFrame

theorem u64_wf {n : Int} (h : (Lit.int .u64 n).wf = true) : U64 n := by
  have := wf_u64 h
  unfold U64 MM
  omega
theorem commits_walk (player tick n nonce : Int) (w : World) (w0 : (Lit.int .i64 player).wf = true) (w1 : (Lit.int .i64 tick).wf = true) (w2 : (Lit.int .i64 n).wf = true) (w3 : (Lit.int .u64 nonce).wf = true) :
    Calls Try.prog 3 #[.int .i64 player, .int .i64 tick, .int .i64 n, .int .u64 nonce] w fun e w' => e = .returned (.bool true) ∧ Q w w' := by
  have G0 := Lib.hid (wf_i64 w0)
  have G1 := Lib.hid (wf_i64 w1)
  have G2 := Lib.hid (wf_i64 w2)
  have G3 := Lib.hid (u64_wf w3)
  clear w0 w1 w2 w3
  go_enter Try.func3, Try.ntmps3
  go_wp2_with (fail)
  refine (around_any _ 8 _ G0.out (by omega)).mono ?_
  rintro e w1 ⟨rfl, rfl⟩
  have p0 := aroundZ_lo player 8 (by omega)
  have p1 := aroundZ_hi player 8 (by omega)
  generalize aroundZ player 8 = p at *
  have HP := Lib.hid (show -9223372036854775808 ≤ p ∧ p ≤ 9223372036854775807 by omega)
  clear p0 p1
  go_wp2_with (fail)
  refine (around_any _ 6001 _ G1.out (by omega)).mono ?_
  rintro e w2 ⟨rfl, rfl⟩
  have p0 := aroundZ_lo tick 6001 (by omega)
  have p1 := aroundZ_hi tick 6001 (by omega)
  generalize aroundZ tick 6001 = t at *
  have HT := Lib.hid (show -9223372036854775808 ≤ t ∧ t ≤ 9223372036854775807 by omega)
  clear p0 p1
  go_wp2_with (fail)
  refine (of_any _ _ G2.out).mono ?_
  rintro e w3 ⟨rfl, hq⟩
  have p0 := aroundZ_lo n 36 (by omega)
  have p1 := aroundZ_hi n 36 (by omega)
  generalize aroundZ n 36 = x at *
  have HX := Lib.hid (show 0 ≤ x ∧ x < 36 from ⟨p0, p1⟩)
  have HQ := Lib.hid hq
  clear p0 p1 hq
  go_wp2_with (fail)
  have hb := Box.new w3 [.int .i64 (x % 3 - 1), .int .i64 (x / 3 % 3 - 1), .int .i64 (x / 9)] 25
  have hb2 := Box.q hb (Q.refl _).drew
  have HQ2 := Lib.hid ((HQ.out.alloc (.cells #[.int .i64 (x % 3 - 1), .int .i64 (x / 3 % 3 - 1), .int .i64 (x / 9)] 25)).drew)
  refine wp_region_mix [(0, true), (1, true), (2, true), (3, true), (5, true), (6, true), (7, true), (8, true), (4, false), (9, false), (10, true), (11, true), (12, false), (13, true), (14, true)] (by kernel_rfl) (by kernel_rfl) (fun _ _ _ _ _ h => h) ?_
  have hb3 : Box (w3.alloc (.cells #[.int .i64 (x % 3 - 1), .int .i64 (x / 3 % 3 - 1), .int .i64 (x / 9)] 25)).drew w3.heap.size [.int .i64 (x % 3 - 1), .int .i64 (x / 3 % 3 - 1), .int .i64 (x / 9)] := hb2
  generalize (w3.alloc (.cells #[.int .i64 (x % 3 - 1), .int .i64 (x / 3 % 3 - 1), .int .i64 (x / 9)] 25)).drew = W at *
  obtain ⟨b0, b1, b2⟩ := Box.soft3 hb3
  clear hb hb2 hb3
  repeat (refine mix_val rfl rfl ?_; go_big_quiet_step (fail); refine wpQuiet_nil ?_)
  clear b0 b1 b2
  refine mix_run rfl rfl ?_
  intro K hK
  go_wp2_with (fail)
  refine (crCommitment_any p t x nonce _ HP.out HT.out HX.out G3.out).mono ?_
  rintro e w5 ⟨rfl, hq5⟩
  refine hK _ _ hq5 ?_
  clear hK K
  refine mix_run rfl rfl ?_
  intro K hK
  go_wp2_with (fail)
  refine (rCommitment_any p t x nonce _ HP.out HT.out HX.out G3.out).mono ?_
  rintro e w6 ⟨rfl, hq6⟩
  refine hK _ _ hq6 ?_
  clear hK K
  have HQ6 := Lib.hid (HQ2.out.trans (hq5.trans hq6))
  clear hq5 hq6
  generalize comZ p t x nonce = c at *
  repeat (refine mix_val rfl rfl ?_; go_big_quiet_step (fail); refine wpQuiet_nil ?_)
  refine mix_run rfl rfl ?_
  intro K hK
  go_wp2_with (fail)
  refine (lives31_any _).mono ?_
  rintro e w7 ⟨rfl, hq7⟩
  refine hK _ _ hq7 ?_
  clear hK K
  have HQ7 := Lib.hid (HQ6.out.trans hq7)
  clear hq7
  repeat (refine mix_val rfl rfl ?_; go_big_quiet_step (fail); refine wpQuiet_nil ?_)
  refine mix_end ?_
  go_wp2
  go_ret
  exact ⟨rfl, HQ7.out⟩
end Go.Proofs.Ytcpicifnadoeoaa
