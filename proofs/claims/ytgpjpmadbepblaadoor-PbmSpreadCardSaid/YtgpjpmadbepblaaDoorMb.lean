/- strconv.AppendInt at base 10, of whole numbers that are no less than 0, onto bytes that the call owns. Conditions: the bounds that each theorem names. -/
import Derived.Test.YtgpjpmadbepblaaDoorMa
import Derived.Test.YtgpjpmadbepblaaDoorSi
import Derived.Lib.AppendIntMem
import Derived.Lib.ItoaLen
import Derived.BigCall
namespace Go.Proofs.YtgpjpmadbepblaaDoor
open Go.RowKit Go.Bm Go.Pbm Go.Sort

theorem infoB : (Tryd.prog.info? 5).map (fun i => (i.zero, i.size, i.bytes)) = some (some (.int .u8 0), 1, 1) := by kernel_rfl
/-- the library's table of powers -/
def PowW (w : World) : Prop := Lib.TabIs Tryd.prog w "internal/strconv.uint64pow10" .u64 Lib.pow10Tab
theorem PowW.below {w w' : World} (h : PowW w) (hb : Below w.heap.size w w') : PowW w' := Lib.tabBelow_of_tabIs h w' hb
theorem digits_le {u : Nat} (hu : u ≤ 1048576) : (Lib.decDigits u).length ≤ 21 := by
  have := Lib.itoa_length_le (u : Int) (by omega) (by omega)
  rwa [Lib.itoa_nonneg] at this

set_option maxHeartbeats 1000000 in
set_option maxRecDepth 100000 in
theorem appuint_small (B n u : Nat) (hu : u < 100) (sv : Value) (xs : List Value) (w : World) (hown : Owns w B 5 sv n xs) (hB : B ≤ w.heap.size) (hn : n ≤ 100000000000000) :
    Calls Tryd.prog 55 #[sv, .int .u64 u, .int .i64 10] w fun e w' => ∃ v', e = .returned v' ∧ Owns w' B 5 v' (n + (Lib.decDigits u).length) (xs ++ bv (Lib.decDigits u)) ∧ Below B w w' := by
  obtain ⟨i0, hi, hz0, hz1, hz2⟩ := info_parts infoB
  have hl := digits_le (u := u) (by omega)
  have hsz : (⟨(Lib.decDigits u).toArray⟩ : ByteArray).size = (Lib.decDigits u).length := by simp [ByteArray.size]
  have HO := Lib.hid hown
  clear hown
  go_enter Tryd.func55, Tryd.ntmps55
  go_wp2_with (first
    | (go_at_call 58; refine (Tryd.internal_strconv_small u hu _).mono ?_; rintro e w' ⟨rfl, rfl⟩)
    | (at_builtin; refine step_append_s _ rfl _ _ 27 9 rfl B 5 i0 Tryd.underlying27 Tryd.underlying9 hi hz0 hz1 hz2 _ _ _ rfl HO.out ⟨(Lib.decDigits u).toArray⟩ rfl (by rw [hsz]; omega) hB ?_))
  intro v' w1 hown' hgrow
  try rw [hsz] at hown'
  have hb := (Below.refl B _).grown hgrow hB (fun k hk => (HO.out.lt k hk).1)
  clear hgrow
  go_wp2
  go_ret
  exact ⟨v', rfl, hown', hb⟩

set_option maxHeartbeats 2000000 in
set_option maxRecDepth 100000 in
theorem appuint_big (B n u : Nat) (hu : ¬ u < 100) (hu2 : u ≤ 1048576) (sv : Value) (xs : List Value) (w : World) (hown : Owns w B 5 sv n xs) (hB : B ≤ w.heap.size) (hn : n ≤ 100000000000000) (hT : PowW w) :
    Calls Tryd.prog 55 #[sv, .int .u64 u, .int .i64 10] w fun e w' => ∃ v', e = .returned v' ∧ Owns w' B 5 v' (n + (Lib.decDigits u).length) (xs ++ bv (Lib.decDigits u)) ∧ Below B w w' := by
  obtain ⟨i0, hi, hz0, hz1, hz2⟩ := info_parts infoB
  have hl := digits_le hu2
  rw [Lib.decDigits_length] at hl ⊢
  have hal : Tryd.prog.arrayLen 85 = 24 := by kernel_rfl
  have hsl : ∀ W, (Instr.sliceAt 85 (.pointer (some ⟨w.heap.size, 0, none⟩)) none (some (.int .i64 (Lib.nDigits u : Int))) none).run Tryd.prog W = .ok (.slice (some ⟨w.heap.size, 0, none⟩) (Lib.nDigits u) 24) W := fun W => by
    rw [run_sliceAt_array_h W 85 ⟨w.heap.size, 0, none⟩ (by kernel_rfl) .i64 (Lib.nDigits u : Int) (by omega) (by rw [hal]; omega)]
    go_simp
  have hH := Lib.holds_zero0 w 85 (Lib.nDigits u) (by omega)
  have hfmt := Tryd.internal_strconv_formatBase10 w.heap.size 0 24 u (Array.replicate (Lib.nDigits u) 0) (w.alloc (.cells Lib.zeros24 85)) hH (by rw [Array.size_replicate]; exact Lib.lt_pow_nDigits u) (by omega) (by rw [Array.size_replicate]; omega)
  rw [Array.size_replicate] at hfmt
  have HH := Lib.hid hH
  have HF := Lib.hid hfmt
  have HO := Lib.hid hown
  have HT := Lib.hid hT
  have iu : ¬ (u : Int) < 100 := by omega
  clear hH hfmt hown hT hal hu
  go_enter Tryd.func55, Tryd.ntmps55
  go_wp2_with (go_at_call 59; refine (Tryd.internal_strconv_numDigits u (by omega) (by omega) _ (Lib.tabIs_alloc HT.out _)).mono ?_; rintro e w' ⟨rfl, rfl⟩)
  go_at_call 60
  refine HF.out.mono ?_
  rintro e w' ⟨rfl, k, v', dk, rfl, hF⟩
  have hcells : ∀ j u', (bv (Lib.decDigits u))[j]? = some u' → ((putRow (fun (b : UInt8) => Value.int .u8 (b.toNat : Int)) (w.alloc (.cells Lib.zeros24 85)) w.heap.size 0 dk).drewN k).cell? ((⟨w.heap.size, 0, none⟩ : Addr).add j) = some u' := by
    intro j u' hj
    have hjl : j < (Lib.decDigits u).length := by
      have := (List.getElem?_eq_some_iff.1 hj).1
      rwa [bv_length] at this
    rw [bv_get _ _ _ (List.getElem?_eq_getElem hjl)] at hj
    cases hj
    rw [Lib.row_is_numeral hF j hjl, Lib.add_plain, World.cell?_drewN]
    exact cell?_putRow (fun (b : UInt8) => Value.int .u8 (b.toNat : Int)) _ w.heap.size 0 _ dk HH.out (by rw [hF.size, Array.size_replicate]) j (by rw [hF.size]; rw [Lib.decDigits_length] at hjl; exact hjl)
  obtain ⟨os, eo⟩ := Lib.fin_at w (.cells Lib.zeros24 85) dk k 0
  have hbel : Below w.heap.size w ((putRow (fun (b : UInt8) => Value.int .u8 (b.toNat : Int)) (w.alloc (.cells Lib.zeros24 85)) w.heap.size 0 dk).drewN k) := by rw [eo]; exact Lib.below_grow _ w (Nat.le_refl _) k os
  generalize (putRow (fun (b : UInt8) => Value.int .u8 (b.toNat : Int)) (w.alloc (.cells Lib.zeros24 85)) w.heap.size 0 dk).drewN k = W2 at hcells hbel ⊢
  have HO2 := Lib.hid (HO.out.below hbel)
  have hB2 : B ≤ W2.heap.size := Nat.le_trans hB hbel.size
  clear eo HH HF hF
  go_wp2_with (at_builtin; refine step_append _ rfl _ _ 27 rfl B 5 i0 (.int .u8 0) Tryd.underlying27 hi hz0 hz1 hz2 rfl _ _ _ rfl HO2.out ⟨w.heap.size, 0, none⟩ (Lib.nDigits u) 24 (bv (Lib.decDigits u)) rfl ?c0 hcells (bv_one _) ?c3 hB2 ?_)
  case c0 => rw [bv_length, Lib.decDigits_length]
  case c3 => omega
  intro v2 w3 hown' hgrow
  have hb := (hbel.mono hB).grown hgrow hB2 (fun k hk => (HO2.out.lt k hk).1)
  clear hgrow hcells
  go_wp2
  go_ret
  exact ⟨v2, rfl, hown', hb⟩

theorem appuint55 (B n u : Nat) (hu : u ≤ 1048576) (sv : Value) (xs : List Value) (w : World) (hown : Owns w B 5 sv n xs) (hB : B ≤ w.heap.size) (hn : n ≤ 100000000000000) (hT : PowW w) :
    Calls Tryd.prog 55 #[sv, .int .u64 u, .int .i64 10] w fun e w' => ∃ v', e = .returned v' ∧ Owns w' B 5 v' (n + (Lib.decDigits u).length) (xs ++ bv (Lib.decDigits u)) ∧ Below B w w' := by
  by_cases h : u < 100
  · exact appuint_small B n u h sv xs w hown hB hn
  · exact appuint_big B n u h hu sv xs w hown hB hn hT

set_option maxHeartbeats 1000000 in
theorem appint42 (B n u : Nat) (hu : u ≤ 1048576) (sv : Value) (xs : List Value) (w : World) (hown : Owns w B 5 sv n xs) (hB : B ≤ w.heap.size) (hn : n ≤ 100000000000000) (hT : PowW w) :
    Calls Tryd.prog 42 #[sv, .int .i64 u, .int .i64 10] w fun e w' => ∃ v', e = .returned v' ∧ Owns w' B 5 v' (n + (Lib.decDigits u).length) (xs ++ bv (Lib.decDigits u)) ∧ Below B w w' := by
  have HO := Lib.hid hown
  have HT := Lib.hid hT
  clear hown hT
  go_enter Tryd.func42, Tryd.ntmps42
  go_wp2_with (go_at_call 55; refine (appuint55 B n u hu sv xs _ HO.out hB hn HT.out).mono ?_; rintro e w' ⟨v', rfl, h1, h2⟩; have H1 := Lib.hid h1; have H2 := Lib.hid h2; clear h1 h2)
  go_ret
  exact ⟨v', rfl, H1.out, H2.out⟩
set_option maxHeartbeats 1000000 in
theorem appint25 (B n u : Nat) (hu : u ≤ 1048576) (sv : Value) (xs : List Value) (w : World) (hown : Owns w B 5 sv n xs) (hB : B ≤ w.heap.size) (hn : n ≤ 100000000000000) (hT : PowW w) :
    Calls Tryd.prog 25 #[sv, .int .i64 u, .int .i64 10] w fun e w' => ∃ v', e = .returned v' ∧ Owns w' B 5 v' (n + (Lib.decDigits u).length) (xs ++ bv (Lib.decDigits u)) ∧ Below B w w' := by
  have HO := Lib.hid hown
  have HT := Lib.hid hT
  clear hown hT
  go_enter Tryd.func25, Tryd.ntmps25
  go_wp2_with (go_at_call 42; refine (appint42 B n u hu sv xs _ HO.out hB hn HT.out).mono ?_; rintro e w' ⟨v', rfl, h1, h2⟩; have H1 := Lib.hid h1; have H2 := Lib.hid h2; clear h1 h2)
  go_ret
  exact ⟨v', rfl, H1.out, H2.out⟩
end Go.Proofs.YtgpjpmadbepblaaDoor
