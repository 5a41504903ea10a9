/- EqInts, EqBitmaps, light, may, walked. Conditions: the bounds that each theorem names. -/
import Derived.Test.YtfniekdohidbiaaXb
namespace Go.Proofs.Ytfniekdohidbiaa
open Go.RowKit Go.Bm

theorem IsInts.below {w w' : World} {a : Option Addr} {n cap : Nat} {L : Nat → Int} (h : IsInts w a n cap L) (hb : Below w.heap.size w w') : IsInts w' a n cap L := by
  rcases h with h | ⟨b, off, h1, h2, h3, h4, h5⟩
  · exact Or.inl h
  · exact Or.inr ⟨b, off, h1, h2, h3, Nat.lt_of_lt_of_le h4 hb.size, fun i hi => (hb.cell (p := ⟨b, off + i, none⟩) h4).trans (h5 i hi)⟩
set_option maxHeartbeats 1000000 in
theorem eqints22 (a : Option Addr) (n cap : Nat) (A : Nat → Int) (c : Option Addr) (m cap2 : Nat) (B : Nat → Int) (b : Bool) (w : World) (hA : IsInts w a n cap A) (hB : IsInts w c m cap2 B) (hb : b = true ↔ n = m ∧ ∀ i, i < n → A i = B i)
    (hn : n ≤ 9223372036854775807) :
    Calls Try.prog 22 #[.slice a n cap, .slice c m cap2] w fun e w' => e = .returned (.bool b) ∧ ∃ k, w.drewN k = w' := by
  by_cases hnm : n = m
  · subst hnm
    go_enter Try.func22, Try.ntmps22
    go_wp2
    go_loopw [5] (fun i wr => ∃ k : Nat, k ≤ n ∧ i = .int .i64 k ∧ (∀ j, j < k → A j = B j) ∧ ∃ q, wr = w.drewN q) (fun i _ => n - (intOf i).toNat)
    case atStart => exact ⟨0, Nat.zero_le _, rfl, fun j hj => by omega, 0, rfl⟩
    case round =>
      obtain ⟨k, hk, rfl, hcl, q, rfl⟩ := hrel
      have HCl := Lib.hid hcl
      have HB := Lib.hid hb
      clear hcl hb
      by_cases hlt : k < n
      · rcases hA with h0 | ⟨b1, o1, rfl, l1, l2, l3, hc1⟩
        · omega
        · rcases hB with h0 | ⟨b2, o2, rfl, m1, m2, m3, hc2⟩
          · omega
          · have d1 := hc1 k hlt
            have d2 := hc2 k hlt
            clear hc1 hc2
            by_cases hc : A k = B k
            · have hq : (A k != B k) = false := by rw [hc]; simp
              have HD := Lib.hid hc
              clear hc
              go_wp2
              go_quiet (fail)
              go_wp2
              go_roundw
              case rel => exact ⟨k + 1, by omega, by go_num, fun j hj => by
                by_cases e : j = k
                · subst e; exact HD.out
                · exact HCl.out j (by omega), _, rfl⟩
              case measure => simp [intOf]; omega
            · have hq : (A k != B k) = true := by simpa using hc
              obtain rfl : b = false := by cases b with | false => rfl | true => exact absurd ((HB.out.1 rfl).2 k hlt) hc
              clear hc
              go_wp2
              go_quiet (fail)
              go_wp2
              go_ret
              exact ⟨rfl, _, by rw [World.drewN_drewN]⟩
      · obtain rfl : k = n := by omega
        obtain rfl : b = true := HB.out.2 ⟨by trivial, HCl.out⟩
        clear hA hB
        go_wp2
        go_ret
        exact ⟨rfl, _, rfl⟩
  · obtain rfl : b = false := by cases b with | false => rfl | true => exact absurd (hb.1 rfl).1 hnm
    clear hA hB hb
    go_enter Try.func22, Try.ntmps22
    go_wp2
    go_ret
    exact ⟨rfl, 0, rfl⟩
/-- two bitmaps are equal -/
def Bmp.same (f g : Bmp) : Prop := f.W = g.W ∧ f.H = g.H ∧ eqL f.n g.n f.B g.B
theorem Bmp.eq (f g : Bmp) (b : Bool) (w : World) (hf : IsWords w f.a f.n f.cap f.B) (hg : IsWords w g.a g.n g.cap g.B) (hb : b = true ↔ f.same g) (hn : f.n ≤ 9223372036854775807) :
    Calls Try.prog 24 #[.agg #[.int .i64 f.W, .int .i64 f.H, .slice f.a f.n f.cap], .agg #[.int .i64 g.W, .int .i64 g.H, .slice g.a g.n g.cap]] w fun e w' => e = .returned (.bool b) ∧ Below w.heap.size w w' := eqbitmap0 f.W f.H f.a f.n f.cap f.B g.W g.H g.a g.n g.cap g.B b w hf hg hb hn
theorem IsWords.len {w : World} {a : Option Addr} {n cap : Nat} {L : Nat → Nat} (h : IsWords w a n cap L) : n ≤ 9223372036854775807 := by
  rcases h with h | ⟨b, off, h1, h2, h3, h4, h5⟩ <;> omega
set_option maxHeartbeats 1000000 in
theorem eqbitmaps19 (a : Option Addr) (n cap : Nat) (F : Nat → Bmp) (c : Option Addr) (m cap2 : Nat) (G : Nat → Bmp) (b : Bool) (w : World) (hA : IsBms w a n cap F) (hB : IsBms w c m cap2 G) (hb : b = true ↔ n = m ∧ ∀ i, i < n → (F i).same (G i)) :
    Calls Try.prog 19 #[.slice a n cap, .slice c m cap2] w fun e w' => e = .returned (.bool b) ∧ Below w.heap.size w w' := by
  by_cases hnm : n = m
  · subst hnm
    have HA := Lib.hid hA
    have HG := Lib.hid hB
    have HB := Lib.hid hb
    clear hA hB hb
    go_enter Try.func19, Try.ntmps19
    go_wp2_with fail
    go_loopw [5] (fun i wr => ∃ k : Nat, k ≤ n ∧ i = .int .i64 k ∧ Hid (∀ j, j < k → (F j).same (G j)) ∧ Hid (Below w.heap.size w wr)) (fun i _ => n - (intOf i).toNat)
    case atStart => exact ⟨0, Nat.zero_le _, rfl, fun j hj => by omega, Below.refl _ _⟩
    case round =>
      obtain ⟨k, hk, rfl, hcl, hbel⟩ := hrel
      by_cases hlt : k < n
      · rcases HA.out with h0 | ⟨b1, o1, rfl, l1, l2, l3, hc1⟩
        · omega
        · rcases HG.out with h0 | ⟨b2, o2, rfl, m1, m2, m3, hc2⟩
          · omega
          · obtain ⟨q0, q1, q2, q3⟩ := hc1 k hlt
            obtain ⟨r0, r1, r2, r3⟩ := hc2 k hlt
            have q0 := (hbel.out.cell (p := ⟨b1, o1 + k * 3, none⟩) l3).trans q0
            have q1 := (hbel.out.cell (p := ⟨b1, o1 + k * 3 + 1, none⟩) l3).trans q1
            have q2 := (hbel.out.cell (p := ⟨b1, o1 + k * 3 + 2, none⟩) l3).trans q2
            have r0 := (hbel.out.cell (p := ⟨b2, o2 + k * 3, none⟩) m3).trans r0
            have r1 := (hbel.out.cell (p := ⟨b2, o2 + k * 3 + 1, none⟩) m3).trans r1
            have r2 := (hbel.out.cell (p := ⟨b2, o2 + k * 3 + 2, none⟩) m3).trans r2
            have Q3 := Lib.hid (q3.below hbel.out)
            have R3 := Lib.hid (r3.below hbel.out)
            clear hc1 hc2 q3 r3
            obtain ⟨t, ht⟩ : ∃ t : Bool, t = true ↔ (F k).same (G k) := by
              classical
              exact ⟨decide ((F k).same (G k)), by simp⟩
            have HT := Lib.hid ht
            clear ht
            cases t
            · go_upto_region 6 with fail
              go_region_held3 (fun w' => w'.cell? ⟨b1, o1 + k * 3, none⟩ = some (.int .i64 (F k).W) ∧ w'.cell? ⟨b1, o1 + k * 3 + 1, none⟩ = some (.int .i64 (F k).H) ∧ w'.cell? ⟨b1, o1 + k * 3 + 2, none⟩ = some (.slice (F k).a (F k).n (F k).cap) ∧
                  w'.cell? ⟨b2, o2 + k * 3, none⟩ = some (.int .i64 (G k).W) ∧ w'.cell? ⟨b2, o2 + k * 3 + 1, none⟩ = some (.int .i64 (G k).H) ∧ w'.cell? ⟨b2, o2 + k * 3 + 2, none⟩ = some (.slice (G k).a (G k).n (G k).cap)) (go_keep)
                ((go_at_call 24; refine (Bmp.eq (F k) (G k) _ _ ?c1 ?c2 HT.out ?c3).mono ?_; (case c1 => (first | exact Q3.out | exact IsWords.below Q3.out (Below.drew (Below.refl _ _)) | exact IsWords.below Q3.out (below_drewN (Below.refl _ _) _))); (case c2 => (first | exact R3.out | exact IsWords.below R3.out (Below.drew (Below.refl _ _)) | exact IsWords.below R3.out (below_drewN (Below.refl _ _) _))); (case c3 => exact Q3.out.len); rintro e w3 ⟨rfl, hb3⟩; have y0 := keep_cell hb3 (p := ⟨b1, o1 + k * 3, none⟩) (v := .int .i64 (F k).W) (by assumption); have y1 := keep_cell hb3 (p := ⟨b1, o1 + k * 3 + 1, none⟩) (v := .int .i64 (F k).H) (by assumption); have y2 := keep_cell hb3 (p := ⟨b1, o1 + k * 3 + 2, none⟩) (v := .slice (F k).a (F k).n (F k).cap) (by assumption); have y3 := keep_cell hb3 (p := ⟨b2, o2 + k * 3, none⟩) (v := .int .i64 (G k).W) (by assumption); have y4 := keep_cell hb3 (p := ⟨b2, o2 + k * 3 + 1, none⟩) (v := .int .i64 (G k).H) (by assumption); have y5 := keep_cell hb3 (p := ⟨b2, o2 + k * 3 + 2, none⟩) (v := .slice (G k).a (G k).n (G k).cap) (by assumption)))
              have HB3 := Lib.hid (below_then hbel.out (below_then (Below.drew (Below.refl _ _)) hb3 (Nat.le_refl _)) (Nat.le_refl _))
              have hbf : b = false := by
                cases b with
                | false => rfl
                | true => exact absurd ((HB.out.1 rfl).2 k hlt) (fun h => by have := HT.out.2 h; simp at this)
              subst hbf
              clear hb3 y0 y1 y2 y3 y4 y5
              go_wp2_with fail
              go_ret
              exact ⟨rfl, HB3.out⟩
            · go_upto_region 6 with fail
              go_region_held3 (fun w' => w'.cell? ⟨b1, o1 + k * 3, none⟩ = some (.int .i64 (F k).W) ∧ w'.cell? ⟨b1, o1 + k * 3 + 1, none⟩ = some (.int .i64 (F k).H) ∧ w'.cell? ⟨b1, o1 + k * 3 + 2, none⟩ = some (.slice (F k).a (F k).n (F k).cap) ∧
                  w'.cell? ⟨b2, o2 + k * 3, none⟩ = some (.int .i64 (G k).W) ∧ w'.cell? ⟨b2, o2 + k * 3 + 1, none⟩ = some (.int .i64 (G k).H) ∧ w'.cell? ⟨b2, o2 + k * 3 + 2, none⟩ = some (.slice (G k).a (G k).n (G k).cap)) (go_keep)
                ((go_at_call 24; refine (Bmp.eq (F k) (G k) _ _ ?c1 ?c2 HT.out ?c3).mono ?_; (case c1 => (first | exact Q3.out | exact IsWords.below Q3.out (Below.drew (Below.refl _ _)) | exact IsWords.below Q3.out (below_drewN (Below.refl _ _) _))); (case c2 => (first | exact R3.out | exact IsWords.below R3.out (Below.drew (Below.refl _ _)) | exact IsWords.below R3.out (below_drewN (Below.refl _ _) _))); (case c3 => exact Q3.out.len); rintro e w3 ⟨rfl, hb3⟩; have y0 := keep_cell hb3 (p := ⟨b1, o1 + k * 3, none⟩) (v := .int .i64 (F k).W) (by assumption); have y1 := keep_cell hb3 (p := ⟨b1, o1 + k * 3 + 1, none⟩) (v := .int .i64 (F k).H) (by assumption); have y2 := keep_cell hb3 (p := ⟨b1, o1 + k * 3 + 2, none⟩) (v := .slice (F k).a (F k).n (F k).cap) (by assumption); have y3 := keep_cell hb3 (p := ⟨b2, o2 + k * 3, none⟩) (v := .int .i64 (G k).W) (by assumption); have y4 := keep_cell hb3 (p := ⟨b2, o2 + k * 3 + 1, none⟩) (v := .int .i64 (G k).H) (by assumption); have y5 := keep_cell hb3 (p := ⟨b2, o2 + k * 3 + 2, none⟩) (v := .slice (G k).a (G k).n (G k).cap) (by assumption)))
              have HB3 := Lib.hid (below_then hbel.out (below_then (Below.drew (Below.refl _ _)) hb3 (Nat.le_refl _)) (Nat.le_refl _))
              clear hb3 y0 y1 y2 y3 y4 y5
              go_wp2_with fail
              go_roundw
              case rel => exact ⟨k + 1, by omega, by go_num, fun j hj => by
                by_cases e : j = k
                · subst e; exact HT.out.1 trivial
                · exact hcl.out j (by omega), HB3⟩
              case measure => simp [intOf]; omega
      · obtain rfl : n = k := by omega
        obtain rfl : b = true := HB.out.2 ⟨by trivial, hcl.out⟩
        go_wp2_with fail
        go_ret
        exact ⟨rfl, hbel.out⟩
  · obtain rfl : b = false := by cases b with | false => rfl | true => exact absurd (hb.1 rfl).1 hnm
    clear hA hB hb
    go_enter Try.func19, Try.ntmps19
    go_wp2
    go_ret
    exact ⟨rfl, Below.refl _ _⟩
theorem w64_in (x : Int) (h : -9223372036854775808 ≤ x ∧ x ≤ 9223372036854775807) : wrap64 x = x := by unfold wrap64; omega
/-- what light adds up over the first k bitmaps -/
def sumB (F : Nat → Bmp) : Nat → Nat
  | 0 => 0
  | k + 1 => sumB F k + (64 * (F k).n + 8)
theorem sumB_each (F : Nat → Bmp) (k i : Nat) (h : i < k) : 64 * (F i).n + 8 ≤ sumB F k := by
  induction k with
  | zero => omega
  | succ k ih =>
    unfold sumB
    by_cases e : i = k
    · subst e; omega
    · have := ih (by omega); omega
theorem sumB_mono (F : Nat → Bmp) {j k : Nat} (h : j ≤ k) : sumB F j ≤ sumB F k := by
  induction k with
  | zero => obtain rfl : j = 0 := by omega
            exact Nat.le_refl _
  | succ k ih =>
    by_cases e : j = k + 1
    · subst e; exact Nat.le_refl _
    · have := ih (by omega)
      show _ ≤ sumB F k + (64 * (F k).n + 8)
      omega
set_option maxHeartbeats 1000000 in
theorem light10 (a : Option Addr) (n cap : Nat) (F : Nat → Bmp) (w : World) (hA : IsBms w a n cap F) (hn : n ≤ 9223372036854775807) :
    Calls Try.prog 10 #[.slice a n cap] w fun e w' => ∃ b : Bool, e = .returned (.bool b) ∧ (∃ k, w.drewN k = w') ∧ (b = true → n ≤ 40) ∧ ((∀ i, i < n → (F i).n ≤ 1125899906842624) → (b = true ↔ n ≤ 40 ∧ sumB F n ≤ 384000)) := by
  have HA := Lib.hid hA
  clear hA
  go_enter Try.func10, Try.ntmps10
  go_wp2_with fail
  go_loopw [3, 4] (fun s i wr => ∃ (k : Nat) (z : Int), k ≤ n ∧ i = .int .i64 k ∧ s = .int .i64 z ∧ Hid ((∀ i, i < n → (F i).n ≤ 1125899906842624) → z = (sumB F k : Int) ∧ sumB F k ≤ 384000) ∧ ∃ q, wr = w.drewN q) (fun _ i _ => n - (intOf i).toNat)
  case atStart => exact ⟨0, 0, Nat.zero_le _, rfl, rfl, fun _ => ⟨rfl, by unfold sumB; omega⟩, 0, rfl⟩
  case round =>
    obtain ⟨k, z, hk, rfl, rfl, hz, q, rfl⟩ := hrel
    by_cases hlt : k < n
    · rcases HA.out with h0 | ⟨b1, o1, rfl, l1, l2, l3, hc1⟩
      · omega
      · obtain ⟨q0, q1, q2, q3⟩ := hc1 k hlt
        clear hc1 q0 q1 q3
        have hnext : Hid ((∀ i, i < n → (F i).n ≤ 1125899906842624) → wrap64 (wrap64 (z + wrap64 (64 * ((F k).n : Int))) + 8) = (sumB F (k + 1) : Int)) := fun hs => by
          obtain ⟨hz1, hz2⟩ := hz.out hs
          have h1 := hs k hlt
          have e1 : wrap64 (64 * ((F k).n : Int)) = 64 * ((F k).n : Int) := w64_in _ (by omega)
          have e2 : wrap64 (z + 64 * ((F k).n : Int)) = z + 64 * ((F k).n : Int) := w64_in _ (by omega)
          have e3 : wrap64 (z + 64 * ((F k).n : Int) + 8) = z + 64 * ((F k).n : Int) + 8 := w64_in _ (by omega)
          rw [e1, e2, e3, hz1]
          show _ = ((sumB F k + (64 * (F k).n + 8) : Nat) : Int)
          omega
        obtain ⟨z', hz'⟩ : ∃ z', wrap64 (wrap64 (z + wrap64 (64 * ((F k).n : Int))) + 8) = z' := ⟨_, rfl⟩
        rw [hz'] at hnext
        by_cases hg : (384000 : Int) < z'
        · go_wp2_with fail
          go_ret
          refine ⟨false, rfl, ⟨_, rfl⟩, (fun h => by cases h), fun hs => ⟨(fun h => by cases h), fun h => ?_⟩⟩
          have h1 := hnext.out hs
          have h2 := sumB_mono F (show k + 1 ≤ n by omega)
          omega
        · go_wp2_with fail
          go_roundw
          case rel => exact ⟨k + 1, z', by omega, by go_num, by rw [hz'], fun hs => by
            have := hnext.out hs
            exact ⟨this, by omega⟩, _, rfl⟩
          case measure => simp [intOf]; omega
    · obtain rfl : n = k := by omega
      by_cases hf : n ≤ 40
      · have hf2 : decide ((n : Int) ≤ 40) = true := by simp; omega
        go_wp2_with fail
        go_ret
        exact ⟨true, rfl, ⟨_, rfl⟩, fun _ => hf, fun hs => ⟨fun _ => ⟨hf, (hz.out hs).2⟩, fun _ => rfl⟩⟩
      · have hf2 : decide ((n : Int) ≤ 40) = false := by simp; omega
        go_wp2_with fail
        go_ret
        exact ⟨false, rfl, ⟨_, rfl⟩, (fun h => by cases h), fun hs => ⟨(fun h => by cases h), fun h => absurd h.1 hf⟩⟩
end Go.Proofs.Ytfniekdohidbiaa
