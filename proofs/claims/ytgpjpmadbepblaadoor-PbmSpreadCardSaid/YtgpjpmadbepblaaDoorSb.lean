/- text of package pbm: pixels as digits. Conditions: the bounds that each theorem names. -/
import Derived.Test.YtgpjpmadbepblaaDoorSa
namespace Go.Pbm
open Go.Bm
/-- k pixels as digits: the fault, or the pixels and what is left -/
def pixP : Nat → List UInt8 → Nat ⊕ (List Bool × List UInt8)
  | 0, r => .inr ([], r)
  | k + 1, r => match pas false r with
    | [] => .inl 32
    | c :: t => if c.toNat = 48 ∨ c.toNat = 49 then (match pixP k t with
      | .inl e => .inl e
      | .inr (ps, r') => .inr (decide (c.toNat = 49) :: ps, r')) else .inl 30
/-- pixels that stand ahead -/
def joinP (qs : List Bool) : Nat ⊕ (List Bool × List UInt8) → Nat ⊕ (List Bool × List UInt8)
  | .inl e => .inl e
  | .inr (ps, r) => .inr (qs ++ ps, r)
theorem joinP_nil (X : Nat ⊕ (List Bool × List UInt8)) : joinP [] X = X := by
  cases X with
  | inl e => rfl
  | inr p => rfl
theorem pixP_end {k : Nat} {r : List UInt8} (h : pas false r = []) (qs : List Bool) : joinP qs (pixP (k + 1) r) = .inl 32 := by
  rw [pixP, h]; rfl
theorem pixP_bad {k : Nat} {r t : List UInt8} {c : UInt8} (h : pas false r = c :: t) (hc : ¬ (c.toNat = 48 ∨ c.toNat = 49)) (qs : List Bool) : joinP qs (pixP (k + 1) r) = .inl 30 := by
  rw [pixP, h]; show joinP qs (if _ then _ else _) = _; rw [if_neg hc]; rfl
theorem pixP_good {k : Nat} {r t : List UInt8} {c : UInt8} (h : pas false r = c :: t) (hc : c.toNat = 48 ∨ c.toNat = 49) (qs : List Bool) : joinP qs (pixP (k + 1) r) = joinP (qs ++ [decide (c.toNat = 49)]) (pixP k t) := by
  rw [pixP, h]
  show joinP qs (if _ then _ else _) = _
  rw [if_pos hc]
  cases pixP k t with
  | inl e => rfl
  | inr p =>
    obtain ⟨ps, r'⟩ := p
    show Sum.inr _ = Sum.inr _
    rw [List.append_assoc]
    rfl
/-- pixels as digits: the fault, or the pixels -/
def textS (l : List UInt8) (i k : Nat) : Nat ⊕ List Bool :=
  match l[i]? with
  | some c => if ¬ isW c.toNat = true ∧ ¬ c.toNat = 35 then .inl 30 else (match pixP k (l.drop i) with
    | .inl e => .inl e
    | .inr (ps, r) => if pas false r = [] then .inr ps else .inl 33)
  | none => (match pixP k (l.drop i) with
    | .inl e => .inl e
    | .inr (ps, r) => if pas false r = [] then .inr ps else .inl 33)
/-- a bit of a list -/
def bitAt (ps : List Bool) (k : Nat) : Nat := if ps[k]? = some true then 1 else 0
/-- the words hold these pixels, row by row; the others are white -/
def PixOk (W H n : Nat) (ps : List Bool) (C : Nat → Nat) : Prop := okB W H n C ∧ ∀ x y : Nat, x < W → y < H → px W H C x y = bitAt ps (y * W + x)
theorem bitAt_snoc_false (ps : List Bool) (k : Nat) : bitAt (ps ++ [false]) k = bitAt ps k := by
  unfold bitAt
  by_cases h : k < ps.length
  · rw [List.getElem?_append_left h]
  · rw [List.getElem?_append_right (by omega), List.getElem?_eq_none (show ps.length ≤ k by omega)]
    by_cases h2 : k - ps.length = 0
    · rw [h2]; rfl
    · rw [List.getElem?_eq_none (by simp; omega)]
theorem bitAt_snoc_true (ps : List Bool) (k : Nat) : bitAt (ps ++ [true]) k = if k = ps.length then 1 else bitAt ps k := by
  unfold bitAt
  by_cases h : k < ps.length
  · rw [List.getElem?_append_left h, if_neg (show ¬ k = ps.length by omega)]
  · rw [List.getElem?_append_right (by omega), List.getElem?_eq_none (show ps.length ≤ k by omega)]
    by_cases h2 : k = ps.length
    · subst h2; simp
    · rw [if_neg h2, List.getElem?_eq_none (by simp; omega)]
theorem PixOk.white {W H n : Nat} (h : okB W H n fun _ => 0) : PixOk W H n [] (fun _ => 0) := by
  refine ⟨h, fun x y hx hy => ?_⟩
  unfold px bitAt
  split <;> simp
theorem PixOk.zero {W H n : Nat} {ps : List Bool} {C : Nat → Nat} (h : PixOk W H n ps C) : PixOk W H n (ps ++ [false]) C :=
  ⟨h.1, fun x y hx hy => by rw [bitAt_snoc_false]; exact h.2 x y hx hy⟩
theorem PixOk.one {W H n : Nat} {ps : List Bool} {C : Nat → Nat} (h : PixOk W H n ps C) (hl : ps.length < W * H) : PixOk W H n (ps ++ [true]) (setB C W (ps.length % W) (ps.length / W) 1) := by
  have hW : 0 < W := by
    rcases Nat.eq_zero_or_pos W with h0 | h0
    · rw [h0, Nat.zero_mul] at hl; omega
    · exact h0
  have hx := Nat.mod_lt ps.length hW
  refine ⟨okB_setB h.1 hx, fun x y hxw hyh => ?_⟩
  rw [px_setB W H C (ps.length % W) (ps.length / W) 1 hx (Nat.le_refl _) x y (by omega), bitAt_snoc_true, h.2 x y hxw hyh]
  have hdm := Nat.div_add_mod ps.length W
  by_cases e : y * W + x = ps.length
  · have h1 : ps.length / W = y := by rw [← e, Nat.mul_comm, Nat.mul_add_div hW, Nat.div_eq_of_lt hxw, Nat.add_zero]
    have h2 : ps.length % W = x := by rw [← e, Nat.mul_comm, Nat.mul_add_mod, Nat.mod_eq_of_lt hxw]
    rw [if_pos e, if_pos (by rw [h1, h2]; exact ⟨rfl, rfl⟩)]
  · rw [if_neg e, if_neg]
    intro hh
    apply e
    have h1 : x = ps.length % W := by omega
    have h2 : y = ps.length / W := by omega
    rw [h1, h2, Nat.mul_comm]
    exact hdm
end Go.Pbm
namespace Go.Proofs.YtgpjpmadbepblaaDoor
open Go.RowKit Go.Bm Go.Pbm Go.Sort

/-- how a reader's part ends -/
def ReadsE (e : Ending) (w' : World) (g gw W H : Nat) : Nat ⊕ List Bool → Prop
  | .inl code => e = faultE code
  | .inr ps => e = .returned (.tuple #[]) ∧ ∃ C, IsMapO w' g gw W H C ∧ PixOk W H (H * wd W) ps C

set_option maxHeartbeats 4000000 in
set_option maxRecDepth 100000 in
theorem text31_bad (r g W H : Nat) (a : Option Addr) (cap : Nat) (l : List UInt8) (i : Nat) (w : World) (c : UInt8) (h : IsRd w r a cap l i) (hc : l[i]? = some c) (h1 : ¬ isW c.toNat = true) (h2 : ¬ c.toNat = 35) :
    Calls Tryd.prog 31 #[.pointer (some ⟨r, 0, none⟩), .pointer (some ⟨g, 0, none⟩), .int .i64 W, .int .i64 H] w fun e w' => e = faultE 30 ∧ ∃ k, w.drewN k = w' := by
  have HR := Lib.hid h
  have HV : Hid (hereV l i = (c.toNat : Int)) := hereV_at hc
  clear h hc
  obtain ⟨x, hx⟩ : ∃ x, c.toNat = x := ⟨_, rfl⟩
  rw [hx] at HV h1 h2
  clear hx
  have HW : Hid (isWI (x : Int) = false) := by show _ = _; rw [isWI_nat]; simpa using h1
  have h3 : ((x : Int) != 35) = true := by simp; omega
  clear h1 h2
  go_enter Tryd.func31, Tryd.ntmps31
  go_wp2_with (first
    | (go_at_call 45; refine (here45 r a cap l i _ HR.out).mono ?_; rintro e w1 ⟨rfl, k, rfl⟩; rw [HV.out])
    | (go_at_call 47; refine (white47 _ _).mono ?_; rintro e w1 ⟨rfl, rfl⟩; rw [HW.out]))
  exact ⟨rfl, rfl, k, rfl⟩
end Go.Proofs.YtgpjpmadbepblaaDoor
