/- The walk of MeasureShares. -/
import Derived.Test.YtokdgppaedklhaaW5
import Derived.Deep.RegionHeld3
namespace Go.Proofs.Ytokdgppaedklhaa
open Go.RowKit Fl Go.FlW

/-- a slice of pairs that came in -/
def IsPairs (w : World) (a : Option Addr) (len cap : Nat) (N M : Nat → Int) : Prop :=
  len = 0 ∨ ∃ b off, a = some ⟨b, off, none⟩ ∧ len ≤ cap ∧ cap ≤ 9223372036854775807 ∧ b < w.heap.size ∧
    ∀ i, i < len → (w.cell? ⟨b, off + i * 2, none⟩ = some (.int .i64 (N i)) ∧ w.cell? ⟨b, off + i * 2 + 1, none⟩ = some (.int .i64 (M i)) ∧ Lit.wf (.int .i64 (N i)) = true ∧ Lit.wf (.int .i64 (M i)) = true)

theorem share_any11 (n d : Int) (w : World) : Calls Try.prog 11 #[.int .i64 n, .int .i64 d] w fun e w' => ∃ r c, e = .returned (.tuple #[.float .f64 r, .int .i64 c]) ∧ ((InR n ∧ InR d ∧ Res (D.div (fi n) (fi d)) r ∧ c = 0) ∨ (¬ (InR n ∧ InR d) ∧ r = 0 ∧ c = 100)) ∧ ∃ k, w.drewN k = w' := by
  by_cases h : InR n ∧ InR d
  · exact (share11_in n d w h.1 h.2).mono fun e w' ⟨r, he, hr, hw⟩ => ⟨r, 0, he, Or.inl ⟨h.1, h.2, hr, rfl⟩, hw⟩
  · exact (share11_out n d w h).mono fun e w' ⟨he, hw⟩ => ⟨0, 100, he, Or.inr ⟨h, rfl, rfl⟩, 0, hw⟩
theorem share_any12 (n d : Int) (w : World) : Calls Try.prog 12 #[.int .i64 n, .int .i64 d] w fun e w' => ∃ r c, e = .returned (.tuple #[.float .f64 r, .int .i64 c]) ∧ ((InR n ∧ InR d ∧ Res (D.div (fi n) (fi d)) r ∧ c = 0) ∨ (¬ (InR n ∧ InR d) ∧ r = 0 ∧ c = 100)) ∧ ∃ k, w.drewN k = w' := by
  by_cases h : InR n ∧ InR d
  · exact (share12_in n d w h.1 h.2).mono fun e w' ⟨r, he, hr, hw⟩ => ⟨r, 0, he, Or.inl ⟨h.1, h.2, hr, rfl⟩, hw⟩
  · exact (share12_out n d w h).mono fun e w' ⟨he, hw⟩ => ⟨0, 100, he, Or.inr ⟨h, rfl, rfl⟩, 0, hw⟩

/-- what a Share of either kind hands back -/
def ShOk (n d : Int) (r : Nat) (c : Int) : Prop := (InR n ∧ InR d ∧ Res (D.div (fi n) (fi d)) r ∧ c = 0) ∨ (¬ (InR n ∧ InR d) ∧ r = 0 ∧ c = 100)

theorem ShOk.agree {n d : Int} {r s : Nat} {c e : Int} (h : ShOk n d r c) (g : ShOk n d s e) : c = e ∧ same r s = true ∧ r < 2 ^ 64 ∧ s < 2 ^ 64 := by
  rcases h with ⟨h1, h2, h3, h4⟩ | ⟨h1, h2, h3⟩
  · rcases g with ⟨_, _, g3, g4⟩ | ⟨g1, _, _⟩
    · exact ⟨by rw [h4, g4], Res_same h3 g3, Res_lt h3 (fun _ h => div_lt h), Res_lt g3 (fun _ h => div_lt h)⟩
    · exact absurd ⟨h1, h2⟩ g1
  · rcases g with ⟨g1, g2, _, _⟩ | ⟨_, g2, g3⟩
    · exact absurd ⟨g1, g2⟩ h1
    · exact ⟨by rw [h3, g3], by rw [h2, g2]; exact same_self, by rw [h2]; decide, by rw [g2]; decide⟩

set_option maxHeartbeats 400000 in
theorem shares_walk (a : Option Addr) (len cap : Nat) (N M : Nat → Int) (w : World) (h : IsPairs w a len cap N M) :
    Calls Try.prog 3 #[.slice a len cap] w fun e w' => e = .returned (.bool true) ∧ Below w.heap.size w w' := by
  rcases h with rfl | ⟨b, off, rfl, hl, hc, hb, hcell⟩
  · go_enter Try.func3, Try.ntmps3
    go_wp2
    go_loopw [3] (fun i wr => i = .int .i64 0 ∧ wr = w) (fun i _ => 0)
    case atStart => exact ⟨rfl, rfl⟩
    case round =>
      obtain ⟨rfl, rfl⟩ := hrel
      go_wp2_with (go_at_call 14; refine (wakes14 _).mono ?_; rintro e w' ⟨rfl, n, rfl⟩)
      go_ret
      exact ⟨rfl, below_drewN (Below.refl _ _) _⟩
  · go_enter Try.func3, Try.ntmps3
    go_wp2
    go_loopw [3] (fun i wr => ∃ k : Nat, k ≤ len ∧ i = .int .i64 k ∧ ∃ n, wr = w.drewN n) (fun i _ => len - (intOf i).toNat)
    case atStart => exact ⟨0, Nat.zero_le _, rfl, 0, rfl⟩
    case round =>
      obtain ⟨k, hk, rfl, n0, rfl⟩ := hrel
      by_cases hlt : k < len
      · by_cases h100 : k < 100
        · obtain ⟨c1, c2, c3, c4⟩ := hcell k hlt
          clear hcell
          go_wp2_with fail
          go_region_held3 (fun w' => w'.cell? ⟨b, off + k * 2, none⟩ = some (.int .i64 (N k)) ∧ w'.cell? ⟨b, off + k * 2 + 1, none⟩ = some (.int .i64 (M k))) (go_keep) ((go_at_call 11; refine (share_any11 _ _ _).mono ?_; rintro e w' ⟨r, c, rfl, h1, m, rfl⟩))
          change ShOk (N k) (M k) _ _ at h1
          go_wp2_with fail
          go_region_held3 (fun w' => w'.cell? ⟨b, off + k * 2, none⟩ = some (.int .i64 (N k)) ∧ w'.cell? ⟨b, off + k * 2 + 1, none⟩ = some (.int .i64 (M k))) (go_keep) ((go_at_call 12; refine (share_any12 _ _ _).mono ?_; rintro e w' ⟨r', c', rfl, h2, m', rfl⟩))
          change ShOk (N k) (M k) _ _ at h2
          obtain ⟨rfl, hs, hr, hr'⟩ := h1.agree h2
          have HR := Lib.hid (And.intro hr hr'); clear hr hr' h1 h2
          go_wp2_with (go_at_call 13; refine (same13 _ _ _ HR.out.1 HR.out.2).mono ?_; rintro e w' ⟨rfl, n, rfl⟩)
          go_roundw
          case rel => exact ⟨k + 1, by omega, by go_num, _, rfl⟩
          case measure => simp [intOf]; omega
        · go_wp2_with (go_at_call 14; refine (wakes14 _).mono ?_; rintro e w' ⟨rfl, n, rfl⟩)
          go_ret
          exact ⟨rfl, below_drewN (Below.refl _ _) _⟩
      · go_wp2_with (go_at_call 14; refine (wakes14 _).mono ?_; rintro e w' ⟨rfl, n, rfl⟩)
        go_ret
        exact ⟨rfl, below_drewN (Below.refl _ _) _⟩
end Go.Proofs.Ytokdgppaedklhaa
