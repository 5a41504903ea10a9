/- The reference's number of chapter 3. Conditions: the bounds that each theorem names. -/
import Derived.Test.YtgpjpmadbepblaaDoorSk
namespace Go.Proofs.YtgpjpmadbepblaaDoor
open Go.RowKit Go.Bm Go.Pbm Go.Sort

/-- a number's value and the place behind it; 0, -1: none -/
def numV : Option (Nat × Nat) → Value
  | none => .tuple #[.int .i64 0, .int .i64 (-1)]
  | some (v, j) => .tuple #[.int .i64 v, .int .i64 j]
theorem rpassed49n (b off cap : Nat) (l : List UInt8) (n i fin : Nat) (w : World) (hn : l.length = n) (hk : ∀ (u : Nat) (c : UInt8), l[u]? = some c → w.cell? ⟨b, off + u, none⟩ = some (.int .u8 (c.toNat : Int))) (hl : l.length ≤ 100000000000000) (hi : i ≤ l.length) (hf : pasAt false l i = fin) :
    Calls Tryd.prog 49 #[.slice (some ⟨b, off, none⟩) n cap, .int .i64 i] w fun e w' => e = .returned (.int .i64 fin) ∧ w = w' := by
  subst hn
  exact rpassed49 b off cap l i fin w hk hl hi hf
theorem digL_cons_no {q : Nat} {c : UInt8} {t : List UInt8} (h : ¬ (48 ≤ c.toNat ∧ c.toNat ≤ 57)) : digL q (c :: t) = (q, 0) := by rw [digL, if_neg h]
theorem digL_cons {q : Nat} {c : UInt8} {t : List UInt8} (h : 48 ≤ c.toNat ∧ c.toNat ≤ 57) : digL q (c :: t) = ((digL (min (10 * q + (c.toNat - 48)) 2147483648) t).1, (digL (min (10 * q + (c.toNat - 48)) 2147483648) t).2 + 1) := by rw [digL, if_pos h]

set_option maxHeartbeats 2000000 in
set_option maxRecDepth 100000 in
theorem rnumber34 (b off cap : Nat) (l : List UInt8) (i : Nat) (w : World) (hk : ∀ (u : Nat) (c : UInt8), l[u]? = some c → w.cell? ⟨b, off + u, none⟩ = some (.int .u8 (c.toNat : Int))) (hl : l.length ≤ 100000000000000) (hi : i ≤ l.length) :
    Calls Tryd.prog 34 #[.slice (some ⟨b, off, none⟩) l.length cap, .int .i64 i] w fun e w' => e = .returned (numV (numS l i)) ∧ w = w' := by
  have HK := Lib.hid hk
  have HL := Lib.hid hl
  have HI := Lib.hid hi
  obtain ⟨j, hj⟩ : ∃ j, pasAt false l i = j := ⟨_, rfl⟩
  have hjr := pasAt_ge false l hi
  rw [hj] at hjr
  have HJ := Lib.hid hj
  clear hk hj
  obtain ⟨n, hn⟩ : ∃ n, l.length = n := ⟨_, rfl⟩
  rw [hn] at hl hi hjr ⊢
  have HN := Lib.hid hn
  clear hn
  by_cases hji : j = i
  · have HX : Hid (numS l i = none) := by
      show _ = _; unfold numS; rw [HJ.out, if_neg (by omega)]
    subst hji
    rw [HX.out]
    have hc : ((j : Int) == (j : Int)) = true := by simp
    clear hjr
    go_enter Tryd.func34, Tryd.ntmps34
    go_wp2_with (go_at_call 49; refine (rpassed49n b off cap l n j j _ HN.out HK.out HL.out HI.out HJ.out).mono ?_; rintro e w2 ⟨rfl, rfl⟩)
    go_ret2
    exact ⟨rfl, rfl⟩
  · have hc : ((j : Int) == (i : Int)) = false := by simp; omega
    by_cases hjn : j < n
    · obtain ⟨c, hc0⟩ : ∃ c, l[j]? = some c := ⟨_, List.getElem?_eq_getElem (by have := HN.out; omega)⟩
      have d0 : w.cell? ⟨b, off + j, none⟩ = some (.int .u8 (c.toNat : Int)) := HK.out j c hc0
      have hcons := drop_at hc0
      by_cases hd : 48 ≤ c.toNat ∧ c.toNat ≤ 57
      · obtain ⟨v, m, hdv⟩ : ∃ v m, digL 0 (l.drop j) = (v, m) := ⟨_, _, rfl⟩
        have hm : 0 < m := by
          rw [hcons, digL_cons hd] at hdv
          have := congrArg Prod.snd hdv
          simp at this
          omega
        have HX : Hid (numS l i = some (v, j + m)) := by
          show _ = _; unfold numS; rw [HJ.out, hdv, if_pos ⟨by omega, hm⟩]
        rw [HX.out]
        have HD : Hid (decide (48 ≤ c.toNat ∧ c.toNat ≤ 57) = true) := by show _ = _; exact decide_eq_true hd
        have HDV := Lib.hid hdv
        clear hd hcons hc0 hdv hm
        generalize c.toNat = x at *
        have hjI : ¬ (n : Int) ≤ (j : Int) := by omega
        have hjI2 : (j : Int) < (n : Int) := by omega
        have hjD : decide (n ≤ j) = false := by simp; omega
        clear hjr
        go_enter Tryd.func34, Tryd.ntmps34
        go_wp2_with (first
          | (go_at_call 49; refine (rpassed49n b off cap l n i j _ HN.out HK.out HL.out HI.out HJ.out).mono ?_; rintro e w2 ⟨rfl, rfl⟩)
          | (go_at_call 50; refine (rdigit50 x true HD.out _).mono ?_; rintro e w2 ⟨rfl, rfl⟩))
        clear d0 HD hjI hjI2 hc hjD
        go_loop [6, 7] (fun t q => ∃ (u y z : Nat), t = .int .i64 u ∧ q = .int .i64 y ∧ u ≤ n ∧ y ≤ 2147483648 ∧ u + z = j + m ∧ Hid (digL y (l.drop u) = (v, z))) (fun t _ => n - (intOf t).toNat)
        case atStart => exact ⟨j, 0, m, rfl, rfl, by omega, by omega, rfl, HDV⟩
        case round =>
          clear HDV
          obtain ⟨u, y, z, rfl, rfl, hu, hy, huz, hdq⟩ := hrel
          by_cases hun : u < n
          · obtain ⟨c, hc0⟩ : ∃ c, l[u]? = some c := ⟨_, List.getElem?_eq_getElem (by have := HN.out; omega)⟩
            have d0 : w.cell? ⟨b, off + u, none⟩ = some (.int .u8 (c.toNat : Int)) := HK.out u c hc0
            have hcons := drop_at hc0
            have hq := hdq.out
            rw [hcons] at hq
            have hunI : (u : Int) < (n : Int) := by omega
            by_cases hd : 48 ≤ c.toNat ∧ c.toNat ≤ 57
            · rw [digL_cons hd] at hq
              have HD : Hid (decide (48 ≤ c.toNat ∧ c.toNat ≤ 57) = true) := by show _ = _; exact decide_eq_true hd
              obtain ⟨x, hx⟩ : ∃ x, c.toNat = x := ⟨_, rfl⟩
              rw [hx] at d0 HD hd hq
              clear hc0 hx hcons
              obtain ⟨z2, rfl⟩ : ∃ z2, z = z2 + 1 := ⟨_, (congrArg Prod.snd hq).symm⟩
              have hq2 : digL (min (10 * y + (x - 48)) 2147483648) (l.drop (u + 1)) = (v, z2) := by
                have h1 := congrArg Prod.fst hq
                have h2 := congrArg Prod.snd hq
                simp at h1 h2
                exact Prod.ext h1 h2
              have HQ := Lib.hid hq2
              clear hq hq2 hdq
              have hx1 : 48 ≤ (x : Int) := by omega
              have hx2 : (x : Int) ≤ 57 := by omega
              by_cases hbig : 2147483648 < 10 * y + (x - 48)
              · have hbI : 2147483648 < 10 * (y : Int) + ((x : Int) - 48) := by omega
                have HM : Hid (min (10 * y + (x - 48)) 2147483648 = 2147483648) := by show _ = _; omega
                clear hd
                go_wp2_with (go_at_call 50; refine (rdigit50 x true HD.out _).mono ?_; rintro e w2 ⟨rfl, rfl⟩)
                go_round
                case rel => exact ⟨u + 1, 2147483648, z2, by go_num, rfl, by omega, by omega, by omega, HM.out ▸ HQ.out⟩
                case measure => simp [intOf]; omega
              · have hbI : ¬ 2147483648 < 10 * (y : Int) + ((x : Int) - 48) := by omega
                obtain ⟨s, hs⟩ : ∃ s, 10 * y + (x - 48) = s := ⟨_, rfl⟩
                have HM : Hid (min (10 * y + (x - 48)) 2147483648 = s) := by show _ = _; omega
                have HS : Hid (10 * (y : Int) + ((x : Int) - 48) = (s : Int)) := by show _ = _; omega
                have hsb : s ≤ 2147483648 := by omega
                clear hd hs
                go_wp2_with (go_at_call 50; refine (rdigit50 x true HD.out _).mono ?_; rintro e w2 ⟨rfl, rfl⟩)
                go_round
                case rel => exact ⟨u + 1, s, z2, by go_num, by rw [← HS.out], by omega, hsb, by omega, HM.out ▸ HQ.out⟩
                case measure => simp [intOf]; omega
            · rw [digL_cons_no hd] at hq
              have HD : Hid (decide (48 ≤ c.toNat ∧ c.toNat ≤ 57) = false) := by show _ = _; exact decide_eq_false hd
              obtain ⟨rfl, rfl⟩ := Prod.mk.inj hq
              have huj : u = j + m := by omega
              subst huj
              clear hd hcons hc0 hq hdq huz
              generalize c.toNat = x at *
              go_wp2_with (go_at_call 50; refine (rdigit50 x false HD.out _).mono ?_; rintro e w2 ⟨rfl, rfl⟩)
              go_ret2
              exact ⟨rfl, rfl⟩
          · have hunI : ¬ (u : Int) < (n : Int) := by omega
            have hq := hdq.out
            rw [List.drop_eq_nil_of_le (by have := HN.out; omega)] at hq
            obtain ⟨rfl, rfl⟩ := Prod.mk.inj hq
            have huj : u = j + m := by omega
            subst huj
            clear hq hdq huz hun
            go_wp2_with (fail)
            go_ret2
            exact ⟨rfl, rfl⟩
      · have HX : Hid (numS l i = none) := by
          show _ = _; unfold numS; rw [HJ.out, hcons, digL_cons_no hd, if_neg (by simp)]
        rw [HX.out]
        have HD : Hid (decide (48 ≤ c.toNat ∧ c.toNat ≤ 57) = false) := by show _ = _; exact decide_eq_false hd
        clear hd hcons hc0
        generalize c.toNat = x at *
        have hjI : ¬ (n : Int) ≤ (j : Int) := by omega
        have hjI2 : (j : Int) < (n : Int) := by omega
        clear hjr
        go_enter Tryd.func34, Tryd.ntmps34
        go_wp2_with (first
          | (go_at_call 49; refine (rpassed49n b off cap l n i j _ HN.out HK.out HL.out HI.out HJ.out).mono ?_; rintro e w2 ⟨rfl, rfl⟩)
          | (go_at_call 50; refine (rdigit50 x false HD.out _).mono ?_; rintro e w2 ⟨rfl, rfl⟩))
        go_ret2
        exact ⟨rfl, rfl⟩
    · have HX : Hid (numS l i = none) := by
        show _ = _; unfold numS; rw [HJ.out, List.drop_eq_nil_of_le (by have := HN.out; omega), if_neg (by simp [digL])]
      rw [HX.out]
      have hjI : (n : Int) ≤ (j : Int) := by omega
      clear hjr
      go_enter Tryd.func34, Tryd.ntmps34
      go_wp2_with (first
          | (go_at_call 49; refine (rpassed49n b off cap l n i j _ HN.out HK.out HL.out HI.out HJ.out).mono ?_; rintro e w2 ⟨rfl, rfl⟩))
      go_ret2
      exact ⟨rfl, rfl⟩
end Go.Proofs.YtgpjpmadbepblaaDoor
