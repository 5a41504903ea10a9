/- Read of package pbm: for any bytes the bitmap, or the first fault. Conditions: the bounds that each theorem names. -/
import Derived.Test.YtgpjpmadbepblaaDoorSg
namespace Go.Proofs.YtgpjpmadbepblaaDoor
open Go.RowKit Go.Bm Go.Pbm Go.Sort

/-- the pixels, or the fault, behind both numbers -/
def bodyS (l : List UInt8) (j W H : Nat) : Nat ⊕ List Bool :=
  if (l.getD 1 0).toNat = 49 then (if ∃ c : UInt8, l[j]? = some c ∧ ¬ isW c.toNat = true ∧ ¬ c.toNat = 35 then .inl 30 else endP (pixP (W * H) (l.drop j)))
  else if isWI (hereV l j) = false then .inl 30
  else if (l.drop (j + 1)).length < (W + 7) / 8 * H then .inl 32
  else if (W + 7) / 8 * H < (l.drop (j + 1)).length then .inl 33
  else .inr (bitsP (l.drop (j + 1)) W (W * H))
/-- what a file says -/
def readS (l : List UInt8) : Nat ⊕ (Nat × Nat × List Bool) :=
  if l.length < 2 then .inl 30 else if ¬ ((l.getD 0 0).toNat = 80 ∧ ((l.getD 1 0).toNat = 49 ∨ (l.getD 1 0).toNat = 52)) then .inl 30 else
  match numS l 2 with
  | none => .inl 30
  | some (W, i) => match numS l i with
    | none => .inl 30
    | some (H, j) => if okS W H then (match bodyS l j W H with
      | .inl e => .inl e
      | .inr ps => .inr (W, H, ps)) else .inl 31
theorem hereV_white {l : List UInt8} {j : Nat} (h : ¬ isWI (hereV l j) = false) : j < l.length := by
  by_cases hj : j < l.length
  · exact hj
  · exact absurd (by rw [hereV_end (by omega)]; rfl) h

theorem read14 (a : Option Addr) (cap : Nat) (l : List UInt8) (w : World) (hl : l.length ≤ 100000000000000) (hk : IsBytes w a cap l) :
    Calls Tryd.prog 14 #[.slice a l.length cap] w (RdOut w (readS l)) := by
  unfold readS
  by_cases h2 : l.length < 2
  · rw [if_pos h2]; exact read14_short a _ cap w h2
  rw [if_neg h2]
  obtain ⟨x, hx⟩ : ∃ x, l[0]? = some x := ⟨_, List.getElem?_eq_getElem (by omega)⟩
  obtain ⟨y, hy⟩ : ∃ y, l[1]? = some y := ⟨_, List.getElem?_eq_getElem (by omega)⟩
  have gx : l.getD 0 0 = x := by rw [List.getD_eq_getElem?_getD, hx]; rfl
  have gy : l.getD 1 0 = y := by rw [List.getD_eq_getElem?_getD, hy]; rfl
  rw [gx, gy]
  rcases hk with h0 | ⟨b, off, rfl, k1, k2, k3, k4⟩
  · rw [h0] at h2; simp at h2
  have d0 := k4 0 x hx
  have d1 := k4 1 y hy
  have hK : IsBytes w (some ⟨b, off, none⟩) cap l := Or.inr ⟨b, off, rfl, k1, k2, k3, k4⟩
  by_cases hh : x.toNat = 80 ∧ (y.toNat = 49 ∨ y.toNat = 52)
  · rw [if_neg (fun h => h hh)]
    obtain ⟨hx80, hyy⟩ := hh
    rw [hx80] at d0
    cases hs1 : numS l 2 with
    | none =>
      rcases hyy with hyy | hyy <;> rw [hyy] at d1
      · exact read14_none1_49 b off cap l w (by omega) hl hK k3 y hy hyy d0 d1 hs1
      · exact read14_none1_52 b off cap l w (by omega) hl hK k3 y hy hyy d0 d1 hs1
    | some p =>
      obtain ⟨W, i⟩ := p
      show Calls _ _ _ _ (RdOut w (match numS l i with | none => _ | some (H, j) => _))
      cases hs2 : numS l i with
      | none =>
        rcases hyy with hyy | hyy <;> rw [hyy] at d1
        · exact read14_none2_49 b off cap l w (by omega) hl hK k3 y hy hyy d0 d1 W i hs1 hs2
        · exact read14_none2_52 b off cap l w (by omega) hl hK k3 y hy hyy d0 d1 W i hs1 hs2
      | some q =>
        obtain ⟨H, j⟩ := q
        show Calls _ _ _ _ (RdOut w (if okS W H then _ else _))
        by_cases hS : okS W H
        · rw [if_pos hS]
          unfold bodyS
          rw [gy]
          rcases hyy with hyy | hyy <;> rw [hyy] at d1
          · rw [if_pos hyy]
            by_cases hb : ∃ c : UInt8, l[j]? = some c ∧ ¬ isW c.toNat = true ∧ ¬ c.toNat = 35
            · rw [if_pos hb]
              obtain ⟨c, hc, hb1, hb2⟩ := hb
              exact read14_tbad b off cap l w (by omega) hl hK k3 y hy hyy d0 d1 W i H j hs1 hs2 hS c hc hb1 hb2
            · rw [if_neg hb]
              have hhh : l.length ≤ j ∨ ∃ c : UInt8, l[j]? = some c ∧ (isW c.toNat = true ∨ c.toNat = 35) := by
                by_cases hj : j < l.length
                · right
                  refine ⟨_, List.getElem?_eq_getElem hj, ?_⟩
                  by_cases h1 : isW (l[j]).toNat = true
                  · exact Or.inl h1
                  · right
                    by_cases h3 : (l[j]).toNat = 35
                    · exact h3
                    · exact absurd ⟨_, List.getElem?_eq_getElem hj, h1, h3⟩ hb
                · left; omega
              cases hX : endP (pixP (W * H) (l.drop j)) with
              | inl code => exact read14_tfault b off cap l w (by omega) hl hK k3 y hy hyy d0 d1 W i H j hs1 hs2 hS hhh code hX
              | inr ps => exact read14_tgood b off cap l w (by omega) hl hK k3 y hy hyy d0 d1 W i H j hs1 hs2 hS hhh ps hX
          · rw [if_neg (show ¬ y.toNat = 49 by omega)]
            by_cases hw : isWI (hereV l j) = false
            · rw [if_pos hw]
              exact read14_bbad b off cap l w (by omega) hl hK k3 y hy hyy d0 d1 W i H j hs1 hs2 hS hw
            · rw [if_neg hw]
              have hj := hereV_white hw
              have hw1 : isWI (hereV l j) = true := by simpa using hw
              by_cases c1 : (l.drop (j + 1)).length < (W + 7) / 8 * H
              · rw [if_pos c1]
                exact read14_bfew b off cap l w (by omega) hl hK k3 y hy hyy d0 d1 W i H j hs1 hs2 hS hj hw1 _ rfl c1
              · rw [if_neg c1]
                by_cases c2 : (W + 7) / 8 * H < (l.drop (j + 1)).length
                · rw [if_pos c2]
                  exact read14_bmany b off cap l w (by omega) hl hK k3 y hy hyy d0 d1 W i H j hs1 hs2 hS hj hw1 _ rfl c2
                · rw [if_neg c2]
                  exact read14_bjust b off cap l w (by omega) hl hK k3 y hy hyy d0 d1 W i H j hs1 hs2 hS hj hw1 _ rfl (by omega)
        · rw [if_neg hS]
          rcases hyy with hyy | hyy <;> rw [hyy] at d1
          · exact read14_area_49 b off cap l w (by omega) hl hK k3 y hy hyy d0 d1 W i H j hs1 hs2 hS
          · exact read14_area_52 b off cap l w (by omega) hl hK k3 y hy hyy d0 d1 W i H j hs1 hs2 hS
  · rw [if_pos hh]
    by_cases hx0 : x.toNat = 80
    · rw [hx0] at d0
      exact read14_head1 b off _ cap 80 y.toNat w (by omega) d0 d1 ⟨rfl, fun h => hh ⟨hx0, Or.inl h⟩, fun h => hh ⟨hx0, Or.inr h⟩⟩
    · exact read14_head0 b off _ cap x.toNat y.toNat w (by omega) d0 d1 hx0
end Go.Proofs.YtgpjpmadbepblaaDoor
