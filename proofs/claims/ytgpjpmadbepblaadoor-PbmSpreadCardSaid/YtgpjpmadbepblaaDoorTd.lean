/- Copy of chapter 0's reference; what a file that was written reads as, by contracts. Conditions: the bounds that each theorem names. -/
import Derived.Test.YtgpjpmadbepblaaDoorTc
namespace Go.Proofs.YtgpjpmadbepblaaDoor
open Go.RowKit Go.Bm Go.Pbm Go.Sort

set_option maxHeartbeats 1000000 in
theorem copy20 (a : Option Addr) (n cap : Nat) (l : List UInt8) (w : World) (hn : l.length = n) (hB : IsBytes w a cap l) (h0 : 0 < n) (hl : n ≤ 100000000000000) :
    Calls Tryd.prog 20 #[.slice a n cap] w fun e w' => ∃ a2 cap2, e = .returned (.slice a2 n cap2) ∧ Owns w' w.heap.size 5 (.slice a2 n cap2) n (bv l) ∧ IsBytes w' a2 cap2 l ∧ Below w.heap.size w w' := by
  obtain ⟨b, off, rfl, hnews⟩ : ∃ b off, a = some ⟨b, off, none⟩ ∧ ∀ j u, (bv l)[j]? = some u → w.cell? ((⟨b, off, none⟩ : Addr).add j) = some u := by
    rcases hB with h | ⟨b, off, h1, h2, h3, h4, h5⟩
    · rw [h] at hn; simp at hn; omega
    · refine ⟨b, off, h1, fun j u hj => ?_⟩
      have hjn : j < l.length := by
        have := (List.getElem?_eq_some_iff.1 hj).1
        rwa [bv_length] at this
      have h6 := bv_get l j _ (List.getElem?_eq_getElem hjn)
      rw [h6] at hj
      cases hj
      rw [add_plain]
      exact h5 j _ (List.getElem?_eq_getElem hjn)
  have HN := Lib.hid hnews
  have HL := Lib.hid hn
  have HO : Hid (Owns w w.heap.size 5 (.slice none 0 0) 0 []) := ⟨rfl, Or.inl ⟨rfl, rfl⟩⟩
  obtain ⟨i0, hi, hz0, hz1, hz2⟩ := info_parts infoB
  clear hnews hB hn
  go_enter Tryd.func20, Tryd.ntmps20
  go_wp2_with (at_builtin; refine step_append _ rfl _ _ 27 rfl w.heap.size 5 i0 (.int .u8 0) Tryd.underlying27 hi hz0 hz1 hz2 rfl _ _ _ rfl HO.out ⟨b, off, none⟩ n cap (bv l) rfl (by rw [bv_length]; exact HL.out) HN.out (bv_one _) (by omega) (Nat.le_refl _) ?_; intro v w2 ho2 hg2; have HO2 := Lib.hid ho2; have HG2 := Lib.hid hg2; clear ho2 hg2)
  have ho3 := HO2.out
  rw [Nat.zero_add, List.nil_append] at ho3
  have hlen := ho3.len
  obtain ⟨a2, cap2, rfl, hk⟩ := ho3.bytes
  rw [HL.out] at ho3 ⊢
  go_ret
  exact ⟨a2, cap2, rfl, ho3, hk, Below.grown (Below.refl _ _) HG2.out (Nat.le_refl _) (fun z hz => by cases hz)⟩
end Go.Proofs.YtgpjpmadbepblaaDoor
