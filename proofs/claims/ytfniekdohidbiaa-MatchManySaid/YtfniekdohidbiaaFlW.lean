/- What the model's operations on floats come to, as run equations for the walk; what a float result may be. No condition. -/
import Derived.Test.YtfniekdohidbiaaFl
import Derived.WalkKit
import Derived.WalkSpells
import Derived.WalkLawsBesides
namespace Go.FlW
open Fl

/-- the bits of the NaN that the model draws -/
def nanOf (t : Nat) : Nat := (t % 2) * 2 ^ 63 + 0x7ff0000000000000 + 1 + (t / 2) % (2 ^ 52 - 1)

/-- a float result: the bits, where the operation has an answer; else some NaN -/
def Res (o : Option Nat) (r : Nat) : Prop := match o with
  | some v => r = v
  | none => isNaN D r = true ∧ r < 2 ^ 64

theorem nanOf_nan (t : Nat) : isNaN D (nanOf t) = true ∧ nanOf t < 2 ^ 64 := by
  have h : t % 2 < 2 := Nat.mod_lt _ (by omega)
  have h2 : (t / 2) % (2 ^ 52 - 1) < 2 ^ 52 - 1 := Nat.mod_lt _ (by omega)
  unfold nanOf isNaN rung
  rw [D_sign, D_infRung, decide_eq_true_eq]
  generalize t % 2 = a at *
  generalize (t / 2) % (2 ^ 52 - 1) = b at *
  omega

section
variable {P : Program}
theorem run_fl_some (op : BinOp) (x y r : Nat) (h : floatBits op .f64 x y = some r) : ∀ (t : TypeId) (w : World), (binOp op t (.float .f64 x) (.float .f64 y)).run P w = .ok (.float .f64 r) w :=
  fun t w => run_float_arith w op t .f64 x y r h

theorem run_fl_none (op : BinOp) (x y : Nat) (hop : op = .add ∨ op = .sub ∨ op = .mul ∨ op = .quo) (h : floatBits op .f64 x y = none) : ∀ (t : TypeId) (w : World),
    (binOp op t (.float .f64 x) (.float .f64 y)).run P w = .ok (.float .f64 (nanOf (w.tape w.drawn (.nanBits .f64 x y)))) w.drew := by
  intro t w
  unfold floatBits at h
  rcases hop with rfl | rfl | rfl | rfl <;> simp only at h <;> simp [binOp, Op.floatArith, h, Question.forced, Question.cut, nanOf]
end
end Go.FlW
namespace Go.FlW
open Fl
/-- the float of a whole number -/
def fi (n : Int) : Nat := floatOfInt .f64 n
theorem fi_eq (n : Int) : fi n = enc D false (n * ((2 ^ K D : Nat) : Int)) := ofInt_eq n

/-- is it -0? -/
def minus (x : Nat) : Bool := decide (key D x = 0) && neg D x && !isNaN D x

/-- are two floats one? -/
def same (x y : Nat) : Bool := (isNaN D x && isNaN D y) || (decide (x = y) && !isNaN D x)

/-! the comparisons, as the walk spells them -/
theorem cmp_eq_iff (a b : Int) : cmp a b = .eq ↔ a = b := by
  unfold cmp; split
  · constructor
    · intro h; cases h
    · omega
  · split
    · simp_all
    · constructor
      · intro h; cases h
      · omega
theorem cmp_lt_iff (a b : Int) : cmp a b = .lt ↔ a < b := by
  unfold cmp; split
  · simp_all
  · split
    · constructor
      · intro h; cases h
      · omega
    · constructor
      · intro h; cases h
      · omega
theorem cmp_gt_iff (a b : Int) : cmp a b = .gt ↔ b < a := by
  unfold cmp; split
  · constructor
    · intro h; cases h
    · omega
  · split
    · constructor
      · intro h; cases h
      · omega
    · constructor
      · omega
      · intro _; rfl

def num (x : Nat) : Prop := isNaN D x = false

theorem ord_eq (x y : Nat) : (FloatKind.f64.format.order x y == some .eq) = (!isNaN D x && !isNaN D y && decide (key D x = key D y)) := by
  show (D.order x y == some .eq) = _
  rw [order_eq D D_hf]
  cases isNaN D x <;> cases isNaN D y <;> simp
  by_cases h : key D x = key D y
  · rw [decide_eq_true h]; have := (cmp_eq_iff _ _).2 h; rw [this]; rfl
  · rw [decide_eq_false h]
    have := fun g => h ((cmp_eq_iff _ _).1 g)
    revert this; cases cmp (key D x) (key D y) <;> simp
theorem ord_lt (x y : Nat) : (FloatKind.f64.format.order x y == some .lt) = (!isNaN D x && !isNaN D y && decide (key D x < key D y)) := by
  show (D.order x y == some .lt) = _
  rw [order_eq D D_hf]
  cases isNaN D x <;> cases isNaN D y <;> simp
  by_cases h : key D x < key D y
  · rw [decide_eq_true h]; have := (cmp_lt_iff _ _).2 h; rw [this]; rfl
  · rw [decide_eq_false h]
    have := fun g => h ((cmp_lt_iff _ _).1 g)
    revert this; cases cmp (key D x) (key D y) <;> simp
theorem ord_gt (x y : Nat) : (FloatKind.f64.format.order x y == some .gt) = (!isNaN D x && !isNaN D y && decide (key D y < key D x)) := by
  show (D.order x y == some .gt) = _
  rw [order_eq D D_hf]
  cases isNaN D x <;> cases isNaN D y <;> simp
  by_cases h : key D y < key D x
  · rw [decide_eq_true h]; have := (cmp_gt_iff _ _).2 h; rw [this]; rfl
  · rw [decide_eq_false h]
    have := fun g => h ((cmp_gt_iff _ _).1 g)
    revert this; cases cmp (key D x) (key D y) <;> simp
end Go.FlW
namespace Go.FlW
open Fl
/-- whole numbers that are floats -/
def InR (n : Int) : Prop := -9007199254740992 ≤ n ∧ n ≤ 9007199254740992

theorem fi_parts {n : Int} (h : InR n) : fin D (fi n) ∧ isNaN D (fi n) = false ∧ neg D (fi n) = decide (n < 0) ∧ rv D (rung D (fi n)) = n.natAbs * 2 ^ K D ∧ sv D (fi n) = n * ((2 ^ K D : Nat) : Int) := by
  obtain ⟨r, hr, hi⟩ := rung_nat (n := n.natAbs) (by have := D_binade; unfold InR at h; omega)
  have hp := Nat.two_pow_pos (K D)
  have ha : (n * ((2 ^ K D : Nat) : Int)).natAbs = n.natAbs * 2 ^ K D := by rw [Int.natAbs_mul, Int.natAbs_natCast]
  have hrn : rn D (n * ((2 ^ K D : Nat) : Int)).natAbs 1 = r := by rw [ha, ← hr, rn_rv]
  have hg : rung D (fi n) = r := by rw [fi_eq, rung_enc, hrn]; omega
  have hneg : neg D (fi n) = decide (n < 0) := by
    rw [fi_eq]
    by_cases z : n = 0
    · subst z; rw [Int.zero_mul, neg_enc_zero]; rfl
    · have hne : n * ((2 ^ K D : Nat) : Int) ≠ 0 := Int.mul_ne_zero z (by omega)
      rw [neg_enc D _ _ hne]
      have := Int.mul_lt_mul_right (a := ((2 ^ K D : Nat) : Int)) (b := n) (c := 0) (by omega)
      rw [Int.zero_mul] at this
      simp only [this]
  refine ⟨by unfold fin; omega, by rw [fi_eq]; exact nan_enc .., hneg, by rw [hg, hr], ?_⟩
  unfold sv sg
  rw [hneg, hg, hr]
  by_cases h0 : n < 0
  · rw [decide_eq_true h0, if_pos rfl]
    rw [Int.natCast_mul, ← Int.neg_mul]; congr 1; omega
  · rw [decide_eq_false h0]; simp only [Bool.false_eq_true, if_false]
    rw [Int.natCast_mul]; congr 1; omega

theorem fi_zero {n : Int} (h : InR n) : rung D (fi n) = 0 ↔ n = 0 := by
  obtain ⟨_, _, _, h4, _⟩ := fi_parts h
  have hp := Nat.two_pow_pos (K D)
  constructor
  · intro z
    rw [z, rv_zero] at h4
    rcases Nat.mul_eq_zero.1 h4.symm with g | g <;> omega
  · intro z
    subst z
    simp only [Int.natAbs_zero, Nat.zero_mul] at h4
    rw [← rv_zero D] at h4
    exact (rv_inj D).1 h4

theorem fi_lt (n : Int) : fi n < 2 ^ 64 := by
  have := floatOfInt_wf .f64 n
  unfold fi
  simpa [Lit.wf] using this

theorem Res_lt {o : Option Nat} {r : Nat} (h : Res o r) (ho : ∀ v, o = some v → v < 2 ^ 64) : r < 2 ^ 64 := by
  cases o with
  | none => exact h.2
  | some v => rw [show r = v from h]; exact ho v rfl

theorem same_self {x : Nat} : same x x = true := by unfold same; cases isNaN D x <;> simp

theorem Res_same {o : Option Nat} {r s : Nat} (hr : Res o r) (hs : Res o s) : same r s = true := by
  cases o with
  | none => unfold same; rw [hr.1, hs.1]; rfl
  | some v => rw [show r = v from hr, show s = v from hs]; exact same_self

theorem div_lt {x y v : Nat} (h : D.div x y = some v) : v < 2 ^ 64 := Ieee.Format.div_lt D h
theorem add_lt {x y v : Nat} (h : D.add x y = some v) : v < 2 ^ 64 := Ieee.Format.add_lt D h
theorem sub_lt {x y v : Nat} (h : D.sub x y = some v) : v < 2 ^ 64 := Ieee.Format.sub_lt D h

/-- a quotient by nought -/
theorem div_fi_zero {n : Int} (h : InR n) : D.div (fi n) (fi 0) = if n = 0 then none else some (D.word (decide (n < 0)) D.infRung) := by
  obtain ⟨h1, _, h3, _, _⟩ := fi_parts h
  have hz : InR 0 := by unfold InR; omega
  obtain ⟨_, _, g3, _, _⟩ := fi_parts hz
  have r0 := (fi_zero hz).2 rfl
  by_cases z : n = 0
  · rw [if_pos z]; subst z
    exact div_zero_zero D r0 r0 D_inf
  · rw [if_neg z, div_zero D h1 (fun g => z ((fi_zero h).1 g)) r0 D_inf, h3, g3]; simp

end Go.FlW
namespace Go.FlW
open Fl
/-- is it a tolerance? -/
def tolOk (x : Nat) : Bool := !isNaN D x && decide (0 ≤ key D x)
def tolVal (x : Nat) : Nat := if key D x = 0 then 0 else x

/-- are two numbers near? -/
def nearB (a b t : Nat) : Bool := match D.sub a b with | some r => decide ((rung D r : Int) ≤ key D t) | none => false
def withinB (a b t : Nat) : Bool := tolOk t && !isNaN D a && !isNaN D b && (decide (key D a = key D b) || nearB a b t)

/-- which stands first -/
def ordV (a b : Nat) : Int :=
  if isNaN D a then (if isNaN D b then 0 else 1) else if isNaN D b then -1 else if key D a < key D b then -1 else if key D b < key D a then 1
  else if neg D a = neg D b then 0 else if neg D a then -1 else 1

theorem key_zero : key D 0 = 0 := by decide
theorem nan_zero : isNaN D 0 = false := by decide
theorem key_rung (r : Nat) : key D (rung D r) = rung D r ∧ isNaN D (rung D r) = isNaN D r := by
  have h := rung_lt D r
  have e : rung D (rung D r) = rung D r := Nat.mod_eq_of_lt h
  constructor
  · unfold key
    rw [e, show neg D (rung D r) = false by unfold neg; rw [Nat.div_eq_of_lt h]; rfl]; rfl
  · unfold isNaN; rw [e]

theorem key_tolVal (x : Nat) : key D (tolVal x) = key D x := by
  unfold tolVal
  split
  · rename_i h; rw [h]; exact key_zero
  · rfl
theorem nan_tolVal {x : Nat} (h : isNaN D x = false) : isNaN D (tolVal x) = false := by
  unfold tolVal
  split
  · exact nan_zero
  · exact h
theorem tolVal_lt {x : Nat} (h : x < 2 ^ 64) : tolVal x < 2 ^ 64 := by unfold tolVal; split <;> omega

/-- numbers that are not equal have a difference -/
theorem sub_some {a b : Nat} (ha : isNaN D a = false) (hb : isNaN D b = false) (h : key D a ≠ key D b) : ∃ r s, D.sub a b = some r ∧ D.sub b a = some s ∧ key D s = - key D r ∧ rung D s = rung D r := by
  rcases sub_swap D D_hf a b with ⟨h1, _⟩ | h1
  · exfalso
    have ha' : ¬ D.infRung < rung D a := of_decide_eq_false ha
    have hb' : ¬ D.infRung < rung D b := of_decide_eq_false hb
    by_cases fa : rung D a < D.infRung
    · by_cases fb : rung D b < D.infRung
      · rw [sub_fin D fa fb] at h1; cases h1
      · obtain ⟨m, i, ea, _, _⟩ := read_num D fa
        unfold Ieee.Format.sub at h1
        rw [ea, read_inf D D_hf (show rung D b = D.infRung by omega)] at h1
        cases h1
    · by_cases fb : rung D b < D.infRung
      · obtain ⟨m, i, eb, _, _⟩ := read_num D fb
        unfold Ieee.Format.sub at h1
        rw [eb, read_inf D D_hf (show rung D a = D.infRung by omega)] at h1
        cases h1
      · have ea : rung D a = D.infRung := by omega
        have eb : rung D b = D.infRung := by omega
        unfold Ieee.Format.sub at h1
        rw [read_inf D D_hf ea, read_inf D D_hf eb] at h1
        apply h
        unfold key
        rw [ea, eb]
        cases n1 : neg D a <;> cases n2 : neg D b <;> rw [n1, n2] at h1 <;> first | rfl | (simp [Ieee.Datum.sum, Ieee.Datum.opposite] at h1)
  · exact h1

theorem ord_le (x y : Nat) : (FloatKind.f64.format.order x y == some .lt || FloatKind.f64.format.order x y == some .eq) = (!isNaN D x && !isNaN D y && decide (key D x ≤ key D y)) := by
  rw [ord_lt, ord_eq]
  cases isNaN D x <;> cases isNaN D y <;> simp
  by_cases h : key D x ≤ key D y
  · rw [decide_eq_true h]
    by_cases g : key D x < key D y
    · rw [decide_eq_true g]; rfl
    · rw [decide_eq_true (show key D x = key D y by omega)]; simp
  · rw [decide_eq_false h, decide_eq_false (show ¬ key D x < key D y by omega), decide_eq_false (show ¬ key D x = key D y by omega)]; rfl
theorem ord_ge (x y : Nat) : (FloatKind.f64.format.order x y == some .gt || FloatKind.f64.format.order x y == some .eq) = (!isNaN D x && !isNaN D y && decide (key D y ≤ key D x)) := by
  rw [ord_gt, ord_eq]
  cases isNaN D x <;> cases isNaN D y <;> simp
  by_cases h : key D y ≤ key D x
  · rw [decide_eq_true h]
    by_cases g : key D y < key D x
    · rw [decide_eq_true g]; rfl
    · rw [decide_eq_true (show key D x = key D y by omega)]; simp
  · rw [decide_eq_false h, decide_eq_false (show ¬ key D y < key D x by omega), decide_eq_false (show ¬ key D x = key D y by omega)]; rfl

end Go.FlW
