/- The closure of Classes, and IndexFunc over it. Conditions: the bounds that each theorem names. -/
import Derived.Test.YtfniekdohidbiaaXj
namespace Go.Proofs.Ytfniekdohidbiaa
open Go.RowKit Go.Bm Fl Go.FlW
theorem Bmp.unlike (f g : Bmp) (w : World) (hf : IsWords w f.a f.n f.cap f.B) (hg : IsWords w g.a g.n g.cap g.B) (fo : f.ok) (go : g.ok) (hW : f.W = g.W) (hH : f.H = g.H) (hn : f.n ≤ 10000) :
    Calls Try.prog 26 #[.agg #[.int .i64 f.W, .int .i64 f.H, .slice f.a f.n f.cap], .agg #[.int .i64 g.W, .int .i64 g.H, .slice g.a g.n g.cap]] w fun e w' => ∃ r, e = .returned (.tuple #[.float .f64 r, .int .i64 0]) ∧ (∀ t, leB r t = leqB f g t) ∧ Below w.heap.size w w' := by
  obtain ⟨W, H, a, n, cap, B⟩ := f
  obtain ⟨W2, H2, a2, n2, cap2, B2⟩ := g
  simp only at hf hg hW hH hn ⊢
  subst hW
  subst hH
  unfold Bmp.ok at fo go
  simp only at fo go
  have h1 := fo.1.1
  have h2 := fo.1.2.1
  obtain ⟨Wn, rfl⟩ : ∃ Wn : Nat, W = Wn := ⟨W.toNat, by omega⟩
  obtain ⟨Hn, rfl⟩ : ∃ Hn : Nat, H = Hn := ⟨H.toNat, by omega⟩
  obtain rfl : n2 = n := by rw [fo.2.1, go.2.1]
  refine (unlike15 Wn Hn a n2 cap B a2 cap2 B2 w hf hg fo go hn).mono ?_
  rintro e w' ⟨r, rfl, hq, hb⟩
  refine ⟨r, rfl, fun t => ?_, hb⟩
  rw [leB_of_q t hq.out]
  rfl
theorem Bmp.unlikeRef (f g : Bmp) (w : World) (hf : IsWords w f.a f.n f.cap f.B) (hg : IsWords w g.a g.n g.cap g.B) (fo : f.ok) (go : g.ok) (hW : f.W = g.W) (hH : f.H = g.H) (hn : f.n ≤ 10000) :
    Calls Try.prog 30 #[.agg #[.int .i64 f.W, .int .i64 f.H, .slice f.a f.n f.cap], .agg #[.int .i64 g.W, .int .i64 g.H, .slice g.a g.n g.cap]] w fun e w' => ∃ r, e = .returned (.float .f64 r) ∧ (∀ t, leB r t = leqB f g t) ∧ Below w.heap.size w w' := by
  obtain ⟨W, H, a, n, cap, B⟩ := f
  obtain ⟨W2, H2, a2, n2, cap2, B2⟩ := g
  simp only at hf hg hW hH hn ⊢
  subst hW
  subst hH
  unfold Bmp.ok at fo go
  simp only at fo go
  have h1 := fo.1.1
  have h2 := fo.1.2.1
  obtain ⟨Wn, rfl⟩ : ∃ Wn : Nat, W = Wn := ⟨W.toNat, by omega⟩
  obtain ⟨Hn, rfl⟩ : ∃ Hn : Nat, H = Hn := ⟨H.toNat, by omega⟩
  obtain rfl : n2 = n := by rw [fo.2.1, go.2.1]
  refine (unlike16 Wn Hn a n2 cap B a2 cap2 B2 w hf hg fo hn).mono ?_
  rintro e w' ⟨r, rfl, hq, hb⟩
  refine ⟨r, rfl, fun t => ?_, hb⟩
  rw [leB_of_q t hq.out]
  rfl
set_option maxRecDepth 100000 in
set_option maxHeartbeats 1000000 in
theorem near34 (b10 b13 b6 c G m cr tv : Nat) (f g : Bmp) (w : World) (q1 : w.cell? ⟨b10, 1, none⟩ = some (.slice (some ⟨G, 0, none⟩) m cr)) (q6 : w.cell? ⟨b6, 0, none⟩ = some (.float .f64 tv))
    (c0 : w.cell? ⟨G, c * 3, none⟩ = some (.int .i64 f.W)) (c1 : w.cell? ⟨G, c * 3 + 1, none⟩ = some (.int .i64 f.H)) (c2 : w.cell? ⟨G, c * 3 + 2, none⟩ = some (.slice f.a f.n f.cap))
    (d0 : w.cell? ⟨b13, 0, none⟩ = some (.int .i64 g.W)) (d1 : w.cell? ⟨b13, 1, none⟩ = some (.int .i64 g.H)) (d2 : w.cell? ⟨b13, 2, none⟩ = some (.slice g.a g.n g.cap))
    (hc : c < m) (hf : IsWords w f.a f.n f.cap f.B) (hg : IsWords w g.a g.n g.cap g.B) (fo : f.ok) (go : g.ok) (hW : f.W = g.W) (hH : f.H = g.H) (hn : f.n ≤ 10000) :
    Calls Try.prog 34 #[.int .i64 (c : Int), .pointer (some ⟨b10, 0, none⟩), .pointer (some ⟨b13, 0, none⟩), .pointer (some ⟨b6, 0, none⟩)] w fun e w' => e = .returned (.bool (leqB f g tv)) ∧ Below w.heap.size w w' := by
  have HU := Lib.hid (fun (w1 : World) (hb : Below w.heap.size w w1) => Bmp.unlike f g w1 (hf.below hb) (hg.below hb) fo go hW hH hn)
  clear hf hg fo go hW hH hn
  go_enter Try.func34, Try.ntmps34
  go_upto_region 1 with fail
  go_region_held3 (fun w' => w'.cell? ⟨b6, 0, none⟩ = some (.float .f64 tv) ∧ w'.cell? ⟨b10, 1, none⟩ = some (.slice (some ⟨G, 0, none⟩) m cr) ∧ w'.cell? ⟨G, c * 3, none⟩ = some (.int .i64 f.W) ∧ w'.cell? ⟨G, c * 3 + 1, none⟩ = some (.int .i64 f.H) ∧ w'.cell? ⟨G, c * 3 + 2, none⟩ = some (.slice f.a f.n f.cap) ∧
      w'.cell? ⟨b13, 0, none⟩ = some (.int .i64 g.W) ∧ w'.cell? ⟨b13, 1, none⟩ = some (.int .i64 g.H) ∧ w'.cell? ⟨b13, 2, none⟩ = some (.slice g.a g.n g.cap)) (go_keep)
    ((go_at_call 26; refine (HU.out _ ?c1).mono ?_; (case c1 => (first | exact Below.refl _ _ | exact Below.drew (Below.refl _ _) | exact below_drewN (Below.refl _ _) _)); rintro e w3 ⟨r, rfl, hr, hb3⟩; have z6 := keep_cell hb3 (p := ⟨b6, 0, none⟩) (v := .float .f64 tv) (by assumption); have z1 := keep_cell hb3 (p := ⟨b10, 1, none⟩) (v := .slice (some ⟨G, 0, none⟩) m cr) (by assumption); have y0 := keep_cell hb3 (p := ⟨G, c * 3, none⟩) (v := .int .i64 f.W) (by assumption); have y1 := keep_cell hb3 (p := ⟨G, c * 3 + 1, none⟩) (v := .int .i64 f.H) (by assumption); have y2 := keep_cell hb3 (p := ⟨G, c * 3 + 2, none⟩) (v := .slice f.a f.n f.cap) (by assumption); have y3 := keep_cell hb3 (p := ⟨b13, 0, none⟩) (v := .int .i64 g.W) (by assumption); have y4 := keep_cell hb3 (p := ⟨b13, 1, none⟩) (v := .int .i64 g.H) (by assumption); have y5 := keep_cell hb3 (p := ⟨b13, 2, none⟩) (v := .slice g.a g.n g.cap) (by assumption)))
  have hle := (leB_order r tv).trans (hr tv)
  have HB3 := Lib.hid (below_then (Below.drew (Below.refl _ _)) hb3 (Nat.le_refl _))
  clear hr hb3 y0 y1 y2 y3 y4 y5 z1
  go_wp2
  go_ret
  exact ⟨rfl, HB3.out⟩
set_option maxRecDepth 100000 in
set_option maxHeartbeats 1000000 in
theorem index33 (base : Nat) (v : Value) (l : List Nat) (p : Nat → Bool) (caps : Array Value) (w : World) (ho : w.ownsRow base 3 1 v l.length (numsL l)) (hl : l.length ≤ 1048576)
    (b1 b2 b3 : Nat) (hcaps : caps = #[.pointer (some ⟨b1, 0, none⟩), .pointer (some ⟨b2, 0, none⟩), .pointer (some ⟨b3, 0, none⟩)])
    (hp : ∀ c ∈ l, ∀ w1, Below w.heap.size w w1 → Calls Try.prog 34 #[.int .i64 (c : Int), .pointer (some ⟨b1, 0, none⟩), .pointer (some ⟨b2, 0, none⟩), .pointer (some ⟨b3, 0, none⟩)] w1 fun e w' => e = .returned (.bool (p c)) ∧ Below w1.heap.size w1 w') :
    Calls Try.prog 33 #[v, .func (.func 34) #[] caps] w fun e w' => e = .returned (.int .i64 (idxI (l.findIdx? p))) ∧ Below w.heap.size w w' := by
  subst hcaps
  obtain ⟨pp, cap, rfl, hform⟩ := ownsRow_slice ho
  have HF := Lib.hid hform
  have HP := Lib.hid hp
  obtain ⟨n, hn⟩ : ∃ n, l.length = n := ⟨_, rfl⟩
  rw [hn] at hform ho HF ⊢
  have HN := Lib.hid hn
  have hl : n ≤ 1048576 := by omega
  clear hform hp ho hn
  go_enter Try.func33, Try.ntmps33
  go_wp2_with fail
  go_loopw [5, 8] (fun _ i wr => ∃ k : Nat, k ≤ n ∧ i = .int .i64 k ∧ Hid (∀ j, j < k → p l[j]! = false) ∧ Hid (Below w.heap.size w wr)) (fun _ i _ => n - (intOf i).toNat)
  case atStart => exact ⟨0, Nat.zero_le _, rfl, fun j h => by omega, Below.refl _ _⟩
  case round =>
    obtain ⟨k, hk, rfl, hno, hbel⟩ := hrel
    by_cases hlt : k < n
    · rcases HF.out with h0 | ⟨g, cur, rfl, hbg, hgl, hnc, hcc, hh, hs, ht⟩
      · omega
      · have hmem : l[k]! ∈ l := by rw [getElem!_pos l k (by rw [HN.out]; exact hlt)]; exact List.getElem_mem _
        have oc : wr.cell? ⟨g, k, none⟩ = some (.int .i64 ((l[k]! : Nat) : Int)) := by
          rw [hbel.out.cell (p := ⟨g, k, none⟩) hgl, Joins.cell_of_block hh]
          have e2 : cur.toList[k]? = (numsL l)[k]? := by rw [← ht, List.getElem?_take, if_pos (by omega)]
          rw [← Array.getElem?_toList, e2]
          unfold numsL
          rw [List.getElem?_map, List.getElem?_eq_getElem (by rw [HN.out]; exact hlt), getElem!_pos l k (by rw [HN.out]; exact hlt)]
          rfl
        have HC := Lib.hid (HP.out _ hmem wr hbel.out)
        obtain ⟨c, hc⟩ : ∃ c, l[k]! = c := ⟨_, rfl⟩
        rw [hc] at oc HC
        have HCC := Lib.hid hc
        clear hmem hc hh hs ht hcc hbg
        cases hpc : p c
        · rw [hpc] at HC
          go_wp2_with (go_at_call 34; refine HC.out.mono ?_; rintro e w3 ⟨rfl, hb3⟩)
          go_roundw
          case rel => exact ⟨k + 1, by omega, by go_num, fun j hj => by
            by_cases e : j = k
            · subst e; rw [HCC.out]; exact hpc
            · exact hno.out j (by omega), below_then hbel.out hb3 (Nat.le_refl _)⟩
          case measure => simp [intOf]; omega
        · rw [hpc] at HC
          go_wp2_with (go_at_call 34; refine HC.out.mono ?_; rintro e w3 ⟨rfl, hb3⟩)
          go_ret
          refine ⟨?_, below_then hbel.out hb3 (Nat.le_refl _)⟩
          have hf : l.findIdx? p = some k := by
            rw [List.findIdx?_eq_some_iff_getElem]
            refine ⟨by rw [HN.out]; exact hlt, ?_, fun j hj => ?_⟩
            · rw [← getElem!_pos l k, HCC.out]; exact hpc
            · have := hno.out j hj
              rw [getElem!_pos l j (by rw [HN.out]; omega)] at this
              simpa using this
          rw [hf]; rfl
    · obtain rfl : n = k := by omega
      go_wp2_with fail
      go_ret
      refine ⟨?_, hbel.out⟩
      have hf : l.findIdx? p = none := by
        rw [List.findIdx?_eq_none_iff]
        intro x hx
        obtain ⟨j, hj, rfl⟩ := List.mem_iff_getElem.1 hx
        have := hno.out j (by rw [← HN.out]; exact hj)
        rw [getElem!_pos l j hj] at this
        simpa using this
      rw [hf]; rfl
end Go.Proofs.Ytfniekdohidbiaa
