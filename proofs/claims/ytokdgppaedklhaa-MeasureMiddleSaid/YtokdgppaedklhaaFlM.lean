/- Plain facts on sums and means of floats. No condition. -/
import Derived.Test.YtokdgppaedklhaaFlW
namespace Go.FlW
open Fl
/-- a float's class: none, if it is a NaN -/
def cl (x : Nat) : Option Nat := if isNaN D x then none else some x
theorem cl_nan {x : Nat} (h : isNaN D x = true) : cl x = none := by unfold cl; rw [h]; rfl
theorem cl_num {x : Nat} (h : isNaN D x = false) : cl x = some x := by unfold cl; rw [h]; rfl
theorem same_of_cl {x y : Nat} (h : cl x = cl y) : same x y = true := by
  unfold cl at h
  unfold same
  cases nx : isNaN D x <;> cases ny : isNaN D y <;> rw [nx, ny] at h <;> simp at h <;> simp [h]
/-- the class of the sum of the first k + 1 floats -/
def sumC (L : Nat → Nat) : Nat → Option Nat
  | 0 => cl (L 0)
  | k + 1 => (sumC L k).bind fun s => D.add s (L (k + 1))
def meanC (L : Nat → Nat) (n : Nat) : Option Nat := if n = 0 then none else (sumC L (n - 1)).bind fun s => D.div s (fi n)

theorem cl_add {x y r : Nat} {o : Option Nat} (hx : cl x = o) (hr : Res (D.add x y) r) : cl r = o.bind fun s => D.add s y := by
  cases nx : isNaN D x
  · rw [cl_num nx] at hx
    subst hx
    show cl r = D.add x y
    cases h : D.add x y with
    | none => rw [h] at hr; exact cl_nan hr.1
    | some v => rw [h] at hr; rw [show r = v from hr]; exact cl_num (nan_add D h)
  · rw [cl_nan nx] at hx
    subst hx
    rw [add_nan_left D D_hf nx] at hr
    exact cl_nan hr.1
theorem cl_div {x y r : Nat} {o : Option Nat} (hx : cl x = o) (hr : Res (D.div x y) r) : cl r = o.bind fun s => D.div s y := by
  cases nx : isNaN D x
  · rw [cl_num nx] at hx
    subst hx
    show cl r = D.div x y
    cases h : D.div x y with
    | none => rw [h] at hr; exact cl_nan hr.1
    | some v => rw [h] at hr; rw [show r = v from hr]; exact cl_num (nan_div D h)
  · rw [cl_nan nx] at hx
    subst hx
    rw [div_nan_left D D_hf nx] at hr
    exact cl_nan hr.1
end Go.FlW
