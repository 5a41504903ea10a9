/- The reference's white, digit, passed of chapter 3. Conditions: the bounds that each theorem names. -/
import Derived.Test.YtgpjpmadbepblaaDoorSj
namespace Go.Proofs.YtgpjpmadbepblaaDoor
open Go.RowKit Go.Bm Go.Pbm Go.Sort

theorem rwhite51 (c : Nat) (b : Bool) (hb : isW c = b) (w : World) : Calls Tryd.prog 51 #[.int .u8 (c : Int)] w fun e w' => e = .returned (.bool b) ∧ w = w' := by
  by_cases h1 : 9 ≤ (c : Int)
  · by_cases h2 : (c : Int) ≤ 13
    · have hbb : b = true := by rw [← hb]; unfold isW; rw [decide_eq_true (show 9 ≤ c ∧ c ≤ 13 by omega)]; rfl
      subst hbb
      clear hb
      go_enter Tryd.func51, Tryd.ntmps51
      go_wp2_with fail
      go_ret
      exact ⟨rfl, rfl⟩
    · by_cases h3 : c = 32
      · subst h3
        subst hb
        clear h1 h2
        go_enter Tryd.func51, Tryd.ntmps51
        go_wp2_with fail
        go_ret
        exact ⟨rfl, rfl⟩
      · have hbb : b = false := by rw [← hb]; unfold isW; rw [decide_eq_false (by omega), decide_eq_false h3]; rfl
        have h3b : ((c : Int) == 32) = false := by simp; omega
        subst hbb
        clear hb h3
        go_enter Tryd.func51, Tryd.ntmps51
        go_wp2_with fail
        go_ret
        exact ⟨rfl, rfl⟩
  · have hbb : b = false := by rw [← hb]; unfold isW; rw [decide_eq_false (by omega), decide_eq_false (by omega)]; rfl
    have h3b : ((c : Int) == 32) = false := by simp; omega
    subst hbb
    clear hb
    go_enter Tryd.func51, Tryd.ntmps51
    go_wp2_with fail
    go_ret
    exact ⟨rfl, rfl⟩
theorem rdigit50 (c : Nat) (b : Bool) (hb : decide (48 ≤ c ∧ c ≤ 57) = b) (w : World) : Calls Tryd.prog 50 #[.int .u8 (c : Int)] w fun e w' => e = .returned (.bool b) ∧ w = w' := by
  by_cases h1 : 48 ≤ (c : Int)
  · by_cases h2 : (c : Int) ≤ 57
    · have hbb : b = true := by rw [← hb]; simp; omega
      subst hbb
      clear hb
      go_enter Tryd.func50, Tryd.ntmps50
      go_wp2_with fail
      go_ret
      exact ⟨rfl, rfl⟩
    · have hbb : b = false := by rw [← hb]; simp; omega
      subst hbb
      clear hb
      go_enter Tryd.func50, Tryd.ntmps50
      go_wp2_with fail
      go_ret
      exact ⟨rfl, rfl⟩
  · have hbb : b = false := by rw [← hb]; simp; omega
    subst hbb
    clear hb
    go_enter Tryd.func50, Tryd.ntmps50
    go_wp2_with fail
    go_ret
    exact ⟨rfl, rfl⟩

set_option maxHeartbeats 2000000 in
set_option maxRecDepth 100000 in
theorem rpassed49 (b off cap : Nat) (l : List UInt8) (i fin : Nat) (w : World) (hk : ∀ (u : Nat) (c : UInt8), l[u]? = some c → w.cell? ⟨b, off + u, none⟩ = some (.int .u8 (c.toNat : Int))) (hl : l.length ≤ 100000000000000) (hi : i ≤ l.length) (hf : pasAt false l i = fin) :
    Calls Tryd.prog 49 #[.slice (some ⟨b, off, none⟩) l.length cap, .int .i64 i] w fun e w' => e = .returned (.int .i64 fin) ∧ w = w' := by
  have HK := Lib.hid hk
  have HF := Lib.hid hf
  clear hk hf
  obtain ⟨n, hn⟩ : ∃ n, l.length = n := ⟨_, rfl⟩
  rw [hn] at hl hi ⊢
  have HN := Lib.hid hn
  clear hn
  go_enter Tryd.func49, Tryd.ntmps49
  go_wp2_with fail
  go_loop [1] (fun t => ∃ (u : Nat), t = .int .i64 u ∧ u ≤ n ∧ Hid (pasAt false l u = fin)) (fun t => n - (intOf t).toNat)
  case atStart => exact ⟨i, rfl, hi, HF⟩
  case round =>
    obtain ⟨u, rfl, hu, hp⟩ := hrel
    by_cases hlt : u < n
    · obtain ⟨c, hc⟩ : ∃ c, l[u]? = some c := ⟨_, List.getElem?_eq_getElem (by have := HN.out; omega)⟩
      have d0 : w.cell? ⟨b, off + u, none⟩ = some (.int .u8 (c.toNat : Int)) := HK.out u c hc
      have hst := pasAt_step (l := l) false hc
      have hst2 := pasAt_step (l := l) true hc
      rw [hp.out] at hst
      simp only [Bool.false_eq_true, if_false] at hst
      obtain ⟨x, hx⟩ : ∃ x, c.toNat = x := ⟨_, rfl⟩
      rw [hx] at d0 hst hst2
      clear hc hx hp c
      have hltI : (u : Int) < (n : Int) := by omega
      by_cases hW : isW x = true
      · have h35 : ((x : Int) == 35) = false := by
          by_cases h : x = 35
          · subst h; exact absurd hW (by decide)
          · simp; omega
        rw [if_pos hW] at hst
        have HS := Lib.hid hst
        have HW := Lib.hid hW
        clear hst hW hst2
        go_wp2_with (go_at_call 51; refine (rwhite51 x true HW.out _).mono ?_; rintro e w2 ⟨rfl, rfl⟩)
        go_round
        case rel => exact ⟨u + 1, by go_num, by omega, HS.out.symm⟩
        case measure => simp [intOf]; omega
      · rw [if_neg hW] at hst
        by_cases hx : x = 35
        · subst hx
          rw [if_pos rfl] at hst
          simp at hst2
          have HS : Hid (pasAt true l u = fin) := hst2.trans hst.symm
          clear hst hst2 hW
          go_upto_region 3 with (go_at_call 51; refine (rwhite51 35 false (by decide) _).mono ?_; rintro e w2 ⟨rfl, rfl⟩)
          clear d0
          go_loop [1, 28, 29, 30, 31, 32, 33, 34, 35, 36, 37, 38, 39, 40] (fun t _ _ _ _ _ _ _ _ _ _ _ _ _ => ∃ (v : Nat), t = .int .i64 v ∧ v ≤ n ∧ u ≤ v ∧ Hid (pasAt true l v = fin)) (fun t _ _ _ _ _ _ _ _ _ _ _ _ _ => n - (intOf t).toNat)
          case atStart => exact ⟨u, rfl, hu, Nat.le_refl _, HS⟩
          case round =>
            clear HS
            obtain ⟨v, rfl, hv, huv, hp⟩ := hrel
            by_cases hv2 : v < n
            · obtain ⟨c, hc⟩ : ∃ c, l[v]? = some c := ⟨_, List.getElem?_eq_getElem (by have := HN.out; omega)⟩
              have d0 : w.cell? ⟨b, off + v, none⟩ = some (.int .u8 (c.toNat : Int)) := HK.out v c hc
              have hst := pasAt_step (l := l) true hc
              rw [hp.out] at hst
              simp only [if_true] at hst
              obtain ⟨x, hx⟩ : ∃ x, c.toNat = x := ⟨_, rfl⟩
              rw [hx] at d0 hst
              clear hc hx hp c
              have hltI : (v : Int) < (n : Int) := by omega
              by_cases h10 : x = 10
              · subst h10
                rw [if_pos rfl] at hst
                have HS := Lib.hid hst
                clear hst
                go_wp2_with fail
                go_round
                case rel => exact ⟨v + 1, by go_num, by omega, HS.out.symm⟩
                case measure => simp [intOf]; omega
              · rw [if_neg h10] at hst
                have h10b : ((x : Int) != 10) = true := by simp; omega
                have HS := Lib.hid hst
                clear hst h10
                go_wp2_with fail
                go_round
                case rel => exact ⟨v + 1, by go_num, by omega, by omega, HS.out.symm⟩
                case measure => simp [intOf]; omega
            · have hltI : ¬ (v : Int) < (n : Int) := by omega
              obtain rfl : v = n := by omega
              have he : Hid (pasAt false l v = fin) := by
                have h1 := pasAt_end false l (i := v) (by have := HN.out; omega)
                have h2 := pasAt_end true l (i := v) (by have := HN.out; omega)
                have h3 := hp.out
                show _ = _
                omega
              clear hv2 hp
              go_wp2_with fail
              go_round
              case rel => exact ⟨v, rfl, by omega, he⟩
              case measure => simp [intOf]; omega
        · rw [if_neg hx] at hst
          have h35 : ((x : Int) == 35) = false := by simp; omega
          have HS := Lib.hid hst
          have HW : Hid (isW x = false) := by show _ = _; simpa using hW
          clear hst hW hst2 hx
          go_wp2_with (go_at_call 51; refine (rwhite51 x false HW.out _).mono ?_; rintro e w2 ⟨rfl, rfl⟩)
          go_ret
          exact ⟨by rw [HS.out]; rfl, rfl⟩
    · have hltI : ¬ (u : Int) < (n : Int) := by omega
      have he := pasAt_end false l (i := u) (by have := HN.out; omega)
      rw [hp.out, HN.out] at he
      obtain rfl : u = n := by omega
      subst he
      clear hlt hp HF HK HN hi
      go_wp2_with fail
      go_ret
      exact ⟨rfl, rfl⟩
end Go.Proofs.YtgpjpmadbepblaaDoor
