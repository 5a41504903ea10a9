/- The order of package match: what its comparison tells. Conditions: the bounds that each theorem names. -/
import Derived.Test.YtfniekdohidbiaaUb
import Derived.Sort.Grow
namespace Go.Proofs.Ytfniekdohidbiaa
open Go.RowKit Go.Bm

/-- by height, width, number -/
def cfI (w1 h1 w2 h2 i k : Int) : Int := if h1 = h2 then (if w1 = w2 then i - k else w1 - w2) else h1 - h2
theorem cfI_n (w h i k : Int) : cfI w h w h i k = i - k := by unfold cfI; rw [if_pos rfl, if_pos rfl]
theorem cfI_w {w1 w2 : Int} (hw : ¬ w1 = w2) (h i k : Int) : cfI w1 h w2 h i k = w1 - w2 := by unfold cfI; rw [if_pos rfl, if_neg hw]
theorem cfI_h {h1 h2 : Int} (hh : ¬ h1 = h2) (w1 w2 i k : Int) : cfI w1 h1 w2 h2 i k = h1 - h2 := by unfold cfI; rw [if_neg hh]
theorem grow_two (W : World) (o1 o2 : Obj) : ((W.alloc o1).alloc o2).drew = Go.Sort.grow (W.drewN 1) #[o1, o2] := by
  rw [Go.Sort.alloc_eq_grow, Go.Sort.alloc_eq_grow, Go.Sort.grow_grow]
  rfl
set_option maxHeartbeats 4000000 in
set_option maxRecDepth 100000 in
theorem cmp37 (bx b off len cap i k : Nat) (w1 h1 w2 h2 : Int) (a1 a2 : Option Addr) (n1 c1 n2 c2 : Nat) (W : World) (cb : W.cell? ⟨bx, 0, none⟩ = some (.slice (some ⟨b, off, none⟩) len cap))
    (d0 : W.cell? ⟨b, off + i * 3, none⟩ = some (.int .i64 w1)) (d1 : W.cell? ⟨b, off + i * 3 + 1, none⟩ = some (.int .i64 h1)) (d2 : W.cell? ⟨b, off + i * 3 + 2, none⟩ = some (.slice a1 n1 c1))
    (e0 : W.cell? ⟨b, off + k * 3, none⟩ = some (.int .i64 w2)) (e1 : W.cell? ⟨b, off + k * 3 + 1, none⟩ = some (.int .i64 h2)) (e2 : W.cell? ⟨b, off + k * 3 + 2, none⟩ = some (.slice a2 n2 c2))
    (hi : i < len) (hk : k < len) (hlen : len ≤ 1099511627776) (hw1 : 0 ≤ w1 ∧ w1 ≤ 1048576) (hh1 : 0 ≤ h1 ∧ h1 ≤ 1048576) (hw2 : 0 ≤ w2 ∧ w2 ≤ 1048576) (hh2 : 0 ≤ h2 ∧ h2 ≤ 1048576) :
    Calls Try.prog 37 #[.int .i64 i, .int .i64 k, .pointer (some ⟨bx, 0, none⟩)] W fun e w' => e = .returned (.int .i64 (cfI w1 h1 w2 h2 i k)) ∧ ∃ q os', w' = Go.Sort.grow (W.drewN q) os' := by
  have hiI : (i : Int) < (len : Int) := by omega
  have hkI : (k : Int) < (len : Int) := by omega
  have hib : (i : Int) ≤ 1099511627776 := by omega
  have hkb : (k : Int) ≤ 1099511627776 := by omega
  go_enter Try.func37, Try.ntmps37
  go_upto_region 1 with fail
  go_region_held3 (fun w' => w'.cell? ⟨bx, 0, none⟩ = some (.slice (some ⟨b, off, none⟩) len cap) ∧ w'.cell? ⟨b, off + i * 3, none⟩ = some (.int .i64 w1) ∧ w'.cell? ⟨b, off + i * 3 + 1, none⟩ = some (.int .i64 h1) ∧ w'.cell? ⟨b, off + i * 3 + 2, none⟩ = some (.slice a1 n1 c1) ∧
      w'.cell? ⟨b, off + k * 3, none⟩ = some (.int .i64 w2) ∧ w'.cell? ⟨b, off + k * 3 + 1, none⟩ = some (.int .i64 h2) ∧ w'.cell? ⟨b, off + k * 3 + 2, none⟩ = some (.slice a2 n2 c2)) (go_keep) (fail)
  all_goals
    clear cb d0 d1 d2 e0 e1 e2 hiI hkI hi hk
    try clear hHeld
  · have hg := grow_two W (.cells #[.int .i64 w1, .int .i64 h1, .slice a1 n1 c1] 48) (.cells #[.int .i64 w2, .int .i64 h2, .slice a2 n2 c2] 48)
    obtain ⟨t1, t2⟩ := two_cells W #[.int .i64 w1, .int .i64 h1, .slice a1 n1 c1] #[.int .i64 w2, .int .i64 h2, .slice a2 n2 c2] 48 48
    have b0 : ((W.alloc (.cells #[.int .i64 w1, .int .i64 h1, .slice a1 n1 c1] 48)).alloc (.cells #[.int .i64 w2, .int .i64 h2, .slice a2 n2 c2] 48)).drew.cell? ⟨W.heap.size, 0, none⟩ = some (.int .i64 w1) := t1 0
    have b1 : ((W.alloc (.cells #[.int .i64 w1, .int .i64 h1, .slice a1 n1 c1] 48)).alloc (.cells #[.int .i64 w2, .int .i64 h2, .slice a2 n2 c2] 48)).drew.cell? ⟨W.heap.size, 1, none⟩ = some (.int .i64 h1) := t1 1
    have f0 : ((W.alloc (.cells #[.int .i64 w1, .int .i64 h1, .slice a1 n1 c1] 48)).alloc (.cells #[.int .i64 w2, .int .i64 h2, .slice a2 n2 c2] 48)).drew.cell? ⟨W.heap.size + 1, 0, none⟩ = some (.int .i64 w2) := t2 0
    have f1 : ((W.alloc (.cells #[.int .i64 w1, .int .i64 h1, .slice a1 n1 c1] 48)).alloc (.cells #[.int .i64 w2, .int .i64 h2, .slice a2 n2 c2] 48)).drew.cell? ⟨W.heap.size + 1, 1, none⟩ = some (.int .i64 h2) := t2 1
    have HG : Hid (∃ q os', ((W.alloc (.cells #[.int .i64 w1, .int .i64 h1, .slice a1 n1 c1] 48)).alloc (.cells #[.int .i64 w2, .int .i64 h2, .slice a2 n2 c2] 48)).drew = Go.Sort.grow (W.drewN q) os') := ⟨_, _, hg⟩
    clear t1 t2 hg
    obtain ⟨q6, hq6⟩ : ∃ q6, W.heap.size = q6 := ⟨_, rfl⟩
    obtain ⟨q7, hq7⟩ : ∃ q7, W.heap.size + 1 = q7 := ⟨_, rfl⟩
    rw [hq7, hq6] 
    rw [hq6] at b0 b1
    rw [hq7] at f0 f1
    clear hq6 hq7
    generalize ((W.alloc (.cells #[.int .i64 w1, .int .i64 h1, .slice a1 n1 c1] 48)).alloc (.cells #[.int .i64 w2, .int .i64 h2, .slice a2 n2 c2] 48)).drew = X at *
    by_cases hh : h1 = h2
    · by_cases hw : w1 = w2
      · subst hh hw
        go_wp2_with fail
        go_ret
        exact ⟨by rw [cfI_n]; rfl, HG.out⟩
      · have hne : (w1 != w2) = true := by simpa using hw
        subst hh
        have HW := Lib.hid hw
        clear hw
        go_wp2_with fail
        go_ret
        exact ⟨by rw [cfI_w HW.out]; rfl, HG.out⟩
    · have hne : (h1 != h2) = true := by simpa using hh
      have HH := Lib.hid hh
      clear hh
      go_wp2_with fail
      go_ret
      exact ⟨by rw [cfI_h HH.out]; rfl, HG.out⟩
  · have hg := grow_two W (.cells #[.int .i64 w2, .int .i64 h2, .slice a2 n2 c2] 48) (.cells #[.int .i64 w1, .int .i64 h1, .slice a1 n1 c1] 48)
    obtain ⟨t1, t2⟩ := two_cells W #[.int .i64 w2, .int .i64 h2, .slice a2 n2 c2] #[.int .i64 w1, .int .i64 h1, .slice a1 n1 c1] 48 48
    have b0 : ((W.alloc (.cells #[.int .i64 w2, .int .i64 h2, .slice a2 n2 c2] 48)).alloc (.cells #[.int .i64 w1, .int .i64 h1, .slice a1 n1 c1] 48)).drew.cell? ⟨W.heap.size + 1, 0, none⟩ = some (.int .i64 w1) := t2 0
    have b1 : ((W.alloc (.cells #[.int .i64 w2, .int .i64 h2, .slice a2 n2 c2] 48)).alloc (.cells #[.int .i64 w1, .int .i64 h1, .slice a1 n1 c1] 48)).drew.cell? ⟨W.heap.size + 1, 1, none⟩ = some (.int .i64 h1) := t2 1
    have f0 : ((W.alloc (.cells #[.int .i64 w2, .int .i64 h2, .slice a2 n2 c2] 48)).alloc (.cells #[.int .i64 w1, .int .i64 h1, .slice a1 n1 c1] 48)).drew.cell? ⟨W.heap.size, 0, none⟩ = some (.int .i64 w2) := t1 0
    have f1 : ((W.alloc (.cells #[.int .i64 w2, .int .i64 h2, .slice a2 n2 c2] 48)).alloc (.cells #[.int .i64 w1, .int .i64 h1, .slice a1 n1 c1] 48)).drew.cell? ⟨W.heap.size, 1, none⟩ = some (.int .i64 h2) := t1 1
    have HG : Hid (∃ q os', ((W.alloc (.cells #[.int .i64 w2, .int .i64 h2, .slice a2 n2 c2] 48)).alloc (.cells #[.int .i64 w1, .int .i64 h1, .slice a1 n1 c1] 48)).drew = Go.Sort.grow (W.drewN q) os') := ⟨_, _, hg⟩
    clear t1 t2 hg
    obtain ⟨q6, hq6⟩ : ∃ q6, W.heap.size + 1 = q6 := ⟨_, rfl⟩
    obtain ⟨q7, hq7⟩ : ∃ q7, W.heap.size = q7 := ⟨_, rfl⟩
    rw [hq6, hq7] 
    rw [hq6] at b0 b1
    rw [hq7] at f0 f1
    clear hq6 hq7
    generalize ((W.alloc (.cells #[.int .i64 w2, .int .i64 h2, .slice a2 n2 c2] 48)).alloc (.cells #[.int .i64 w1, .int .i64 h1, .slice a1 n1 c1] 48)).drew = X at *
    by_cases hh : h1 = h2
    · by_cases hw : w1 = w2
      · subst hh hw
        go_wp2_with fail
        go_ret
        exact ⟨by rw [cfI_n]; rfl, HG.out⟩
      · have hne : (w1 != w2) = true := by simpa using hw
        subst hh
        have HW := Lib.hid hw
        clear hw
        go_wp2_with fail
        go_ret
        exact ⟨by rw [cfI_w HW.out]; rfl, HG.out⟩
    · have hne : (h1 != h2) = true := by simpa using hh
      have HH := Lib.hid hh
      clear hh
      go_wp2_with fail
      go_ret
      exact ⟨by rw [cfI_h HH.out]; rfl, HG.out⟩
end Go.Proofs.Ytfniekdohidbiaa
