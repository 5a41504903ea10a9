/- The reference's bytes of chapter 3. Conditions: the bounds that each theorem names. -/
import Derived.Test.YtgpjpmadbepblaaDoorSn
namespace Go.Proofs.YtgpjpmadbepblaaDoor
open Go.RowKit Go.Bm Go.Pbm Go.Sort

set_option maxHeartbeats 2000000 in
set_option maxRecDepth 100000 in
theorem rbytes36_end (b off cap : Nat) (l : List UInt8) (i W H : Nat) (w : World) (hi : l.length ≤ i) :
    Calls Tryd.prog 36 #[.slice (some ⟨b, off, none⟩) l.length cap, .int .i64 i, .int .i64 W, .int .i64 H] w (RdOutR w (.inl 30)) := by
  obtain ⟨n, hn⟩ : ∃ n, l.length = n := ⟨_, rfl⟩
  rw [hn] at hi ⊢
  have hiI : (n : Int) ≤ (i : Int) := by omega
  clear hn
  go_enter Tryd.func36, Tryd.ntmps36
  go_wp2_with fail
  exact bodyPost_ret (v := .tuple #[.agg #[.int .i64 0, .int .i64 0, .slice none 0 0], .int .i64 30]) (by simp [results, Tryd.results36, go_sem]) rfl ⟨(Below.refl _ _).alloc (Nat.le_refl _) _, rfl⟩
set_option maxHeartbeats 2000000 in
set_option maxRecDepth 100000 in
theorem rbytes36_bad (b off cap : Nat) (l : List UInt8) (i W H : Nat) (w : World) (c : UInt8) (hc : l[i]? = some c) (d0 : w.cell? ⟨b, off + i, none⟩ = some (.int .u8 (c.toNat : Int))) (h1 : isW c.toNat = false) :
    Calls Tryd.prog 36 #[.slice (some ⟨b, off, none⟩) l.length cap, .int .i64 i, .int .i64 W, .int .i64 H] w (RdOutR w (.inl 30)) := by
  have hi := (List.getElem?_eq_some_iff.1 hc).1
  obtain ⟨n, hn⟩ : ∃ n, l.length = n := ⟨_, rfl⟩
  rw [hn] at hi ⊢
  obtain ⟨x, hx⟩ : ∃ x, c.toNat = x := ⟨_, rfl⟩
  rw [hx] at d0 h1
  have HW := Lib.hid h1
  have hiI : ¬ (n : Int) ≤ (i : Int) := by omega
  have hiI2 : (i : Int) < (n : Int) := by omega
  clear hn hx hc h1 c
  have d1 := (((Below.refl w.heap.size w).alloc (Nat.le_refl _) (.cells #[.int .i64 0, .int .i64 0, .slice none 0 0] 25)).cell (p := ⟨b, off + i, none⟩) (World.block_lt_of_cell? w _ d0)).trans d0
  clear d0
  go_enter Tryd.func36, Tryd.ntmps36
  go_wp2_with (go_at_call 51; refine (rwhite51 x false HW.out _).mono ?_; rintro e w2 ⟨rfl, rfl⟩)
  exact bodyPost_ret (v := .tuple #[.agg #[.int .i64 0, .int .i64 0, .slice none 0 0], .int .i64 30]) (by simp [results, Tryd.results36, go_sem]) rfl ⟨(Below.refl _ _).alloc (Nat.le_refl _) _, rfl⟩

set_option maxHeartbeats 2000000 in
set_option maxRecDepth 100000 in
theorem rbytes36_len (b off cap : Nat) (l : List UInt8) (i W H : Nat) (w : World) (c : UInt8) (hc : l[i]? = some c) (d0 : w.cell? ⟨b, off + i, none⟩ = some (.int .u8 (c.toNat : Int))) (h1 : isW c.toNat = true) (hl : l.length ≤ 100000000000000) (hS : okS W H)
    (code : Nat) (hcode : ((l.drop (i + 1)).length < (W + 7) / 8 * H ∧ code = 32) ∨ ((W + 7) / 8 * H < (l.drop (i + 1)).length ∧ code = 33)) :
    Calls Tryd.prog 36 #[.slice (some ⟨b, off, none⟩) l.length cap, .int .i64 i, .int .i64 W, .int .i64 H] w (RdOutR w (.inl code)) := by
  have hi := (List.getElem?_eq_some_iff.1 hc).1
  have hs := okS_le hS
  have hW : W ≤ 1048576 := by omega
  have hH : H ≤ 1048576 := by omega
  have htot : W * H ≤ 1048576 := by have := hS.2.2; rw [← Int.natCast_mul] at this; omega
  have hW1 : 1 ≤ W := by have := hS.1; omega
  rw [List.length_drop] at hcode
  obtain ⟨n, hn⟩ : ∃ n, l.length = n := ⟨_, rfl⟩
  rw [hn] at hi hl hcode ⊢
  obtain ⟨x, hx⟩ : ∃ x, c.toNat = x := ⟨_, rfl⟩
  rw [hx] at d0 h1
  have HW := Lib.hid h1
  obtain ⟨row, hrow⟩ : ∃ row, (W + 7) / 8 = row := ⟨_, rfl⟩
  rw [hrow] at hcode
  have hrI : ((W : Int) + 7) / 8 = (row : Int) := by omega
  have hrl : row ≤ W := by omega
  have hnn : row * H ≤ 1048576 := Nat.le_trans (Nat.mul_le_mul_right H hrl) htot
  obtain ⟨nn, hq⟩ : ∃ nn, row * H = nn := ⟨_, rfl⟩
  rw [hq] at hcode hnn
  have hmul : wrap64 ((row : Int) * (H : Int)) = (nn : Int) := by rw [← Int.natCast_mul, hq]; exact Go.IntWalk.wrap64_in _ ⟨by omega, by omega⟩
  have hiI : ¬ (n : Int) ≤ (i : Int) := by omega
  have hiI2 : (i : Int) < (n : Int) := by omega
  clear hn hx hc h1 c hrow htot hS hs hq hrl hW1
  have d1 := (((Below.refl w.heap.size w).alloc (Nat.le_refl _) (.cells #[.int .i64 0, .int .i64 0, .slice none 0 0] 25)).cell (p := ⟨b, off + i, none⟩) (World.block_lt_of_cell? w _ d0)).trans d0
  clear d0
  rcases hcode with ⟨h, rfl⟩ | ⟨h, rfl⟩
  · have h2 : (n : Int) - (i : Int) - 1 < (nn : Int) := by omega
    clear h
    go_enter Tryd.func36, Tryd.ntmps36
    go_wp2_with (go_at_call 51; refine (rwhite51 x true HW.out _).mono ?_; rintro e w2 ⟨rfl, rfl⟩)
    exact bodyPost_ret (v := .tuple #[.agg #[.int .i64 0, .int .i64 0, .slice none 0 0], .int .i64 32]) (by simp [results, Tryd.results36, go_sem]) rfl ⟨(Below.refl _ _).alloc (Nat.le_refl _) _, rfl⟩
  · have h2 : ¬ (n : Int) - (i : Int) - 1 < (nn : Int) := by omega
    have h3 : (nn : Int) < (n : Int) - (i : Int) - 1 := by omega
    clear h
    go_enter Tryd.func36, Tryd.ntmps36
    go_wp2_with (go_at_call 51; refine (rwhite51 x true HW.out _).mono ?_; rintro e w2 ⟨rfl, rfl⟩)
    exact bodyPost_ret (v := .tuple #[.agg #[.int .i64 0, .int .i64 0, .slice none 0 0], .int .i64 33]) (by simp [results, Tryd.results36, go_sem]) rfl ⟨(Below.refl _ _).alloc (Nat.le_refl _) _, rfl⟩
end Go.Proofs.YtgpjpmadbepblaaDoor
