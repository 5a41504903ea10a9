/- Order at no bitmap and at a bitmap that may not be. Conditions: the bounds that each theorem names. -/
import Derived.Test.YtfniekdohidbiaaVb
namespace Go.Proofs.Ytfniekdohidbiaa
open Go.RowKit Go.Bm Go.Sort Go.Shelf

set_option maxHeartbeats 1000000 in
theorem none53 (p : Option Addr) (cap : Nat) (fv : Value) (w : World) : Calls Try.prog 53 #[.slice p 0 cap, .int .i64 0, .int .i64 0, fv] w fun e w' => e = .returned (.tuple #[]) ∧ w' = w := by
  go_enter Try.func53, Try.ntmps53
  go_wp2
  refine wp_loop_rounds 1 ?_
  rw [rounds_succ]
  go_wp2
  go_end0
  exact ⟨rfl, rfl⟩
set_option maxHeartbeats 1000000 in
theorem none51 (p : Option Addr) (cap : Nat) (lim : Int) (fv : Value) (w : World) : Calls Try.prog 51 #[.slice p 0 cap, .int .i64 0, .int .i64 0, .int .i64 lim, fv] w fun e w' => e = .returned (.tuple #[]) ∧ w' = w := by
  have hi := fun W => none53 p cap fv W
  go_enter Try.func51, Try.ntmps51
  go_wp2
  refine wp_loop_rounds 1 ?_
  rw [rounds_succ]
  go_wp2_with (go_at_call 53; refine (hi _).mono ?_; rintro e w' ⟨rfl, rfl⟩)
  (try simp only [Exit.inBlock, Exit.then]); refine bodyPost_ret (results_none rfl _ _ _) rfl ?_
  exact ⟨rfl, rfl⟩
set_option maxHeartbeats 1000000 in
theorem none36 (p : Option Addr) (cap : Nat) (fv : Value) (w : World) : Calls Try.prog 36 #[.slice p 0 cap, fv] w fun e w' => e = .returned (.tuple #[]) ∧ w' = w := by
  have hl : Calls Try.prog 52 #[.int .u64 (0 : Int)] w fun e w' => e = .returned (.int .i64 (Lib.bitLen 0 : Nat)) ∧ w' = w := by
    have h := Any.bits_Len (SlLaysF0.n15.bits (P := Try.prog) (ρ := Try.laysSlF6_f36_ren) { Try.laysSlF6_f36 with }) (0 : Int) w (by omega) (by omega)
    exact h
  have hp := none51 p cap (Lib.bitLen 0 : Nat) fv w
  go_enter Try.func36, Try.ntmps36
  go_wp2_with (first | (go_at_call 52; refine hl.mono ?_; rintro e w' ⟨rfl, rfl⟩) | (go_at_call 51; refine hp.mono ?_; rintro e w' ⟨rfl, rfl⟩))
  go_end0
  exact ⟨rfl, rfl⟩
end Go.Proofs.Ytfniekdohidbiaa
