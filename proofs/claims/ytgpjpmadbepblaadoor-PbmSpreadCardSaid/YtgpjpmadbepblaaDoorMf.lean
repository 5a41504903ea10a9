/- Number and Eq of the references. Conditions: the bounds that each theorem names. -/
import Derived.Test.YtgpjpmadbepblaaDoorMe
namespace Go.Proofs.YtgpjpmadbepblaaDoor
open Go.RowKit Go.Bm Go.Pbm Go.Sort

theorem dg_nat9 {b : Nat} (h : b < 10) : (dg b).toNat = 48 + b := by unfold dg; rw [UInt8.toNat_ofNat']; omega
theorem ba_append (a b : List UInt8) : (⟨a.toArray⟩ : ByteArray) ++ ⟨b.toArray⟩ = ⟨(a ++ b).toArray⟩ := by
  apply ByteArray.ext
  simp
theorem digits_step {n : Nat} : Lib.decDigits n = if n < 10 then [dg (n % 10)] else Lib.decDigits (n / 10) ++ [dg (n % 10)] := by
  rw [Lib.decDigits]
  by_cases h : n < 10
  · rw [dif_pos h, if_pos h, Nat.mod_eq_of_lt h]; rfl
  · rw [dif_neg h, if_neg h]; rfl
theorem digit_string (w : World) (u : UInt8) (x : Int) (hx : (u.toNat : Int) = x) : (convert 27 9 (.slice (some ⟨w.heap.size, 0, none⟩) 1 1)).run Tryd.prog (w.alloc (.cells #[.int .u8 x] 5)) = .ok (.string ⟨[u].toArray⟩) (w.alloc (.cells #[.int .u8 x] 5)) := by
  have h := run_convert_bytes_back (P := Tryd.prog) (w.alloc (.cells #[.int .u8 x] 5)) 27 9 5 ⟨w.heap.size, 0, none⟩ 1 [u] Tryd.underlying27 Tryd.underlying5 Tryd.underlying9 (fun j hj => by
    have hj0 : j = 0 := by simpa using hj
    subst hj0
    have e : (⟨w.heap.size, 0, none⟩ : Addr).add 0 = ⟨w.heap.size, 0, none⟩ := rfl
    rw [e, World.cell?_alloc_at _ _ _ _ rfl, ← hx]
    rfl)
  exact h

set_option maxHeartbeats 1000000 in
set_option maxRecDepth 100000 in
theorem number21 (n : Nat) : ∀ (w : World), n ≤ 1048576 → Calls Tryd.prog 21 #[.int .i64 n] w fun e w' => e = .returned (.string ⟨(Lib.decDigits n).toArray⟩) ∧ Below w.heap.size w w' := by
  induction n using Nat.strongRecOn with
  | _ n ih =>
    intro w hn
    have h1 : ((n : Int) == -9223372036854775808) = false := by simp
    have h2 : ¬ (n : Int) < 0 := by omega
    obtain ⟨r, hr⟩ : ∃ r, n % 10 = r := ⟨_, rfl⟩
    have hr9 : r < 10 := by omega
    have w1 : IntKind.u8.wrap (48 + (r : Int)) = 48 + (r : Int) := by rw [IntKind.wrap_u8]; omega
    have hm : (n : Int) % 10 = (r : Int) := by omega
    have ks := digit_string w (dg r) (48 + (r : Int)) (by rw [dg_nat9 hr9]; omega)
    have hb0 := (Below.refl w.heap.size w).alloc (Nat.le_refl _) (.cells #[.int .u8 (48 + (r : Int))] 5)
    have HB := Lib.hid hb0
    have HR := Lib.hid hr
    have IH := Lib.hid ih
    clear hr hb0 ih
    by_cases h10 : n < 10
    · have h10I : (n : Int) < 10 := by omega
      go_enter Tryd.func21, Tryd.ntmps21
      go_wp2_with fail
      go_ret
      refine ⟨?_, HB.out⟩
      rw [digits_step, if_pos h10, HR.out]
      rfl
    · have h10I : ¬ (n : Int) < 10 := by omega
      obtain ⟨q, hq⟩ : ∃ q, n / 10 = q := ⟨_, rfl⟩
      have hqI : (n : Int) / 10 = (q : Int) := by omega
      have HQ := Lib.hid hq
      have hdl := digits_le (u := q) (by omega)
      have hlen : ¬ 9223372036854775807 < (Lib.decDigits q).length + 1 := by omega
      clear hq hdl
      go_enter Tryd.func21, Tryd.ntmps21
      go_wp2_with (go_at_call 21; refine (IH.out q (by have := HQ.out; omega) _ (by have := HQ.out; omega)).mono ?_; rintro e w2 ⟨rfl, hbel⟩; have HB2 := Lib.hid hbel; clear hbel)
      go_ret
      refine ⟨?_, HB.out.trans (HB2.out.mono HB.out.size)⟩
      have e : Lib.decDigits n = Lib.decDigits q ++ [dg r] := by rw [digits_step, if_neg h10, HR.out, HQ.out]
      rw [e, ← ba_append]
      rfl

set_option maxHeartbeats 1000000 in
set_option maxRecDepth 100000 in
theorem eq11 (a : Option Addr) (cap : Nat) (l : List UInt8) (c : Option Addr) (cap2 : Nat) (m : List UInt8) (b : Bool) (w : World) (hA : IsBytes w a cap l) (hB : IsBytes w c cap2 m) (hb : b = true ↔ l = m) (hn : l.length ≤ 9223372036854775807) :
    Calls Tryd.prog 11 #[.slice a l.length cap, .slice c m.length cap2] w fun e w' => e = .returned (.bool b) ∧ ∃ k, w.drewN k = w' := by
  obtain ⟨n, hln⟩ : ∃ n, l.length = n := ⟨_, rfl⟩
  obtain ⟨n2, hlm⟩ : ∃ n, m.length = n := ⟨_, rfl⟩
  rw [hln, hlm]
  rw [hln] at hn
  have HL := Lib.hid hln
  have HM := Lib.hid hlm
  have HB := Lib.hid hb
  by_cases hnm : n = n2
  · subst hnm
    clear hb hln hlm
    go_enter Tryd.func11, Tryd.ntmps11
    go_wp2
    go_loopw [5] (fun i wr => ∃ k : Nat, k ≤ n ∧ i = .int .i64 k ∧ (∀ j, j < k → l[j]? = m[j]?) ∧ ∃ q, wr = w.drewN q) (fun i _ => n - (intOf i).toNat)
    case atStart => exact ⟨0, Nat.zero_le _, rfl, fun j hj => by omega, 0, rfl⟩
    case round =>
      obtain ⟨k, hk, rfl, hcl, q, rfl⟩ := hrel
      have HCl := Lib.hid hcl
      clear hcl
      by_cases hlt : k < n
      · rcases hA with h0 | ⟨b1, o1, rfl, l1, l2, l3, hc1⟩
        · subst h0; have := HL.out; simp at this; omega
        · rcases hB with h0 | ⟨b2, o2, rfl, m1, m2, m3, hc2⟩
          · subst h0; have := HM.out; simp at this; omega
          · have hk1 : k < l.length := by rw [HL.out]; exact hlt
            have hk2 : k < m.length := by rw [HM.out]; exact hlt
            obtain ⟨u, hu⟩ : ∃ u, l[k]? = some u := ⟨_, List.getElem?_eq_getElem hk1⟩
            obtain ⟨v, hv⟩ : ∃ v, m[k]? = some v := ⟨_, List.getElem?_eq_getElem hk2⟩
            have d1 := hc1 k u hu
            have d2 := hc2 k v hv
            have HU := Lib.hid hu
            have HV := Lib.hid hv
            clear hc1 hc2 hk1 hk2 hu hv
            by_cases hc : u = v
            · have hq : ((u.toNat : Int) != (v.toNat : Int)) = false := by rw [hc]; simp
              have HD := Lib.hid hc
              clear hc
              go_wp2
              go_quiet (fail)
              go_wp2
              go_roundw
              case rel => exact ⟨k + 1, by omega, by go_num, fun j hj => by
                by_cases e : j = k
                · subst e; rw [HU.out, HV.out, HD.out]
                · exact HCl.out j (by omega), _, rfl⟩
              case measure => simp [intOf]; omega
            · have hne : u.toNat ≠ v.toNat := fun h => hc (UInt8.toNat_inj.1 h)
              have hq : ((u.toNat : Int) != (v.toNat : Int)) = true := by simp; omega
              obtain rfl : b = false := by
                cases b with
                | false => rfl
                | true =>
                  have h1 := HB.out.1 rfl
                  have h2 := HU.out
                  rw [h1, HV.out] at h2
                  exact absurd (Option.some.inj h2).symm hc
              clear hc hne
              go_wp2
              go_quiet (fail)
              go_wp2
              go_ret
              exact ⟨rfl, _, by rw [World.drewN_drewN]⟩
      · obtain rfl : k = n := by omega
        obtain rfl : b = true := HB.out.2 (List.ext_getElem? fun i => by
          by_cases h : i < k
          · exact HCl.out i h
          · have h1 := HL.out
            have h2 := HM.out
            rw [List.getElem?_eq_none (by omega), List.getElem?_eq_none (by omega)])
        clear hA hB
        go_wp2
        go_ret
        exact ⟨rfl, _, rfl⟩
  · obtain rfl : b = false := by
      cases b with
      | false => rfl
      | true => have h := HB.out.1 rfl; rw [← hln, ← hlm, h] at hnm; exact absurd rfl hnm
    clear hA hB hb hln hlm
    go_enter Tryd.func11, Tryd.ntmps11
    go_wp2
    go_ret
    exact ⟨rfl, 0, rfl⟩
end Go.Proofs.YtgpjpmadbepblaaDoor
