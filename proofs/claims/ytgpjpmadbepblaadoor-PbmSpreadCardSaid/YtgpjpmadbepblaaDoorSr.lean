/- The reference's Read of chapter 3: for any bytes the bitmap, or the first fault. Conditions: the bounds that each theorem names. -/
import Derived.Test.YtgpjpmadbepblaaDoorSq
namespace Go.Proofs.YtgpjpmadbepblaaDoor
open Go.RowKit Go.Bm Go.Pbm Go.Sort

theorem rread15 (a : Option Addr) (cap : Nat) (l : List UInt8) (w : World) (hl : l.length ≤ 100000000000000) (hk : IsBytes w a cap l) :
    Calls Tryd.prog 15 #[.slice a l.length cap] w (RdOutR w (readS l)) := by
  unfold readS
  by_cases h2 : l.length < 2
  · rw [if_pos h2]; exact rread15_short a _ cap w h2
  rw [if_neg h2]
  obtain ⟨x, hx⟩ : ∃ x, l[0]? = some x := ⟨_, List.getElem?_eq_getElem (by omega)⟩
  obtain ⟨y, hy⟩ : ∃ y, l[1]? = some y := ⟨_, List.getElem?_eq_getElem (by omega)⟩
  have gx : l.getD 0 0 = x := by rw [List.getD_eq_getElem?_getD, hx]; rfl
  have gy : l.getD 1 0 = y := by rw [List.getD_eq_getElem?_getD, hy]; rfl
  rcases hk with h0 | ⟨b, off, rfl, k1, k2, k3, k4⟩
  · rw [h0] at h2; simp at h2
  have d0 := k4 0 x hx
  have d1 := k4 1 y hy
  by_cases hh : x.toNat = 80 ∧ (y.toNat = 49 ∨ y.toNat = 52)
  · rw [if_neg (fun h => h (by rw [gx, gy]; exact hh))]
    obtain ⟨hx80, hyy⟩ := hh
    rw [hx80] at d0
    cases hs1 : numS l 2 with
    | none =>
      rcases hyy with hyy | hyy <;> rw [hyy] at d1
      · exact rread15_none1_49 b off cap l w (by omega) hl k4 (by rw [gy]; exact hyy) d0 d1 hs1
      · exact rread15_none1_52 b off cap l w (by omega) hl k4 (by rw [gy]; exact hyy) d0 d1 hs1
    | some p =>
      obtain ⟨W, i⟩ := p
      show Calls _ _ _ _ (RdOutR w (match numS l i with | none => _ | some (H, j) => _))
      cases hs2 : numS l i with
      | none =>
        rcases hyy with hyy | hyy <;> rw [hyy] at d1
        · exact rread15_none2_49 b off cap l w (by omega) hl k4 (by rw [gy]; exact hyy) d0 d1 W i hs1 hs2
        · exact rread15_none2_52 b off cap l w (by omega) hl k4 (by rw [gy]; exact hyy) d0 d1 W i hs1 hs2
      | some q =>
        obtain ⟨H, j⟩ := q
        show Calls _ _ _ _ (RdOutR w (if okS W H then _ else _))
        by_cases hS : okS W H
        · rw [if_pos hS]
          cases hX : bodyS l j W H with
          | inl code =>
            rcases hyy with hyy | hyy <;> rw [hyy] at d1
            · exact rread15_fault_49 b off cap l w (by omega) hl k4 (by rw [gy]; exact hyy) d0 d1 W i H j hs1 hs2 hS code hX
            · exact rread15_fault_52 b off cap l w (by omega) hl k4 (by rw [gy]; exact hyy) d0 d1 W i H j hs1 hs2 hS code hX
          | inr ps =>
            rcases hyy with hyy | hyy <;> rw [hyy] at d1
            · exact rread15_good_49 b off cap l w (by omega) hl k4 (by rw [gy]; exact hyy) d0 d1 W i H j hs1 hs2 hS ps hX
            · exact rread15_good_52 b off cap l w (by omega) hl k4 (by rw [gy]; exact hyy) d0 d1 W i H j hs1 hs2 hS ps hX
        · rw [if_neg hS]
          rcases hyy with hyy | hyy <;> rw [hyy] at d1
          · exact rread15_area_49 b off cap l w (by omega) hl k4 (by rw [gy]; exact hyy) d0 d1 W i H j hs1 hs2 hS
          · exact rread15_area_52 b off cap l w (by omega) hl k4 (by rw [gy]; exact hyy) d0 d1 W i H j hs1 hs2 hS
  · rw [if_pos (by rw [gx, gy]; exact hh)]
    by_cases hx0 : x.toNat = 80
    · rw [hx0] at d0
      exact rread15_head1 b off _ cap 80 y.toNat w (by omega) d0 d1 ⟨rfl, fun h => hh ⟨hx0, Or.inl h⟩, fun h => hh ⟨hx0, Or.inr h⟩⟩
    · exact rread15_head0 b off _ cap x.toNat y.toNat w (by omega) d0 d1 hx0
end Go.Proofs.YtgpjpmadbepblaaDoor
