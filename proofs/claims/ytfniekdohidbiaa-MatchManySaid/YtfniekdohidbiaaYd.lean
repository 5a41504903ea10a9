/- Nearness by 0, by -0 and by infinity; bitmaps of one class. Plain. Conditions: the bounds that each theorem names. -/
import Derived.Test.YtfniekdohidbiaaYa
import Derived.Test.YtfniekdohidbiaaYc
namespace Go.Proofs.Ytfniekdohidbiaa
open Go.RowKit Go.Bm Fl Go.FlW
theorem q_is (n d : Nat) (hn : n ≤ 9007199254740992) (hd : d ≤ 9007199254740992) (h0 : 0 < d) : ∃ r, IsQ n d r := by
  unfold IsQ
  rw [div_fi (InR.of_nat hn) (InR.of_nat hd) (by omega)]
  exact ⟨_, rfl⟩
theorem leQ_zero {n d t : Nat} (hn : n ≤ 9007199254740992) (hd : d ≤ 9007199254740992) (h0 : 0 < d) (ht : isNaN D t = false) (hk : key D t = 0) : leQ n d t = decide (n = 0) := by
  obtain ⟨r, h⟩ := q_is n d hn hd h0
  have h1 := q_eq0 hn hd h0 h
  rw [ord_eq, key_zero0, q_num hn hd h0 h, nan_zero0] at h1
  have h2 := q_key hn hd h0 h
  rw [← leB_of_q t h, ← h1]
  unfold leB
  rw [q_num hn hd h0 h, ht, hk]
  have : (key D r ≤ 0) ↔ key D r = 0 := by omega
  simp only [this]
theorem leQ_inf {n d t : Nat} (hn : n ≤ 9007199254740992) (hd : d ≤ 9007199254740992) (h0 : 0 < d) (ht : isNaN D t = false) (hk : key D t = ((D.infRung : Nat) : Int)) : leQ n d t = true := by
  obtain ⟨r, h⟩ := q_is n d hn hd h0
  have h2 := q_key hn hd h0 h
  rw [← leB_of_q t h]
  unfold leB
  rw [q_num hn hd h0 h, ht, hk, h2]
  have := Nat.min_le_right (rn D (n * 2 ^ K D) d) D.infRung
  simp only [Bool.not_false, Bool.true_and, decide_eq_true_eq]
  exact Int.ofNat_le.2 this
theorem leQ_none {n d t : Nat} (hn : n ≤ 9007199254740992) (hd : d ≤ 9007199254740992) (h0 : 0 < d) (ht : tolOk t = true) (hz : n = 0) : leQ n d t = true := by
  obtain ⟨r, h⟩ := q_is n d hn hd h0
  have h1 := q_eq0 hn hd h0 h
  rw [ord_eq, key_zero0, q_num hn hd h0 h, nan_zero0, decide_eq_true hz] at h1
  simp only [Bool.not_false, Bool.true_and, decide_eq_true_eq] at h1
  unfold tolOk at ht
  simp only [Bool.and_eq_true, Bool.not_eq_true', decide_eq_true_eq] at ht
  rw [← leB_of_q t h]
  unfold leB
  rw [q_num hn hd h0 h, ht.1, h1]
  simpa using ht.2
/-- the words are words -/
def Bmp.word (f : Bmp) : Prop := ∀ i, i < f.n → f.B i < 2 ^ 64
theorem IsBms.word {w : World} {a : Option Addr} {n cap : Nat} {F : Nat → Bmp} (h : IsBms w a n cap F) : ∀ i, i < n → (F i).word := by
  intro i hi
  rcases h with h | ⟨b, off, h1, h2, h3, h4, h5⟩
  · omega
  · obtain ⟨_, _, _, q⟩ := h5 i hi
    rcases q with q | ⟨b', off', _, _, _, _, hc⟩
    · intro j hj; omega
    · exact fun j hj => (hc j hj).2
theorem area {f : Bmp} (h : f.ok) : 0 < f.W.toNat * f.H.toNat ∧ f.W.toNat * f.H.toNat ≤ 1048576 := by
  obtain ⟨⟨h1, h2, h3⟩, _⟩ := h
  obtain ⟨W, hW⟩ : ∃ W : Nat, f.W = W := ⟨f.W.toNat, by omega⟩
  obtain ⟨H, hH⟩ : ∃ H : Nat, f.H = H := ⟨f.H.toNat, by omega⟩
  rw [hW, hH] at h3 ⊢
  simp only [Int.toNat_natCast]
  refine ⟨Nat.mul_pos (by omega) (by omega), ?_⟩
  have : ((W * H : Nat) : Int) ≤ 1048576 := by rw [Int.natCast_mul]; exact h3
  omega
theorem diff_area (W H : Nat) (A B : Nat → Nat) : diffN W H A B ≤ W * H := by
  have := sumTo_le (f := fun y => sumTo (fun x => if px W H A (x : Int) (y : Int) = px W H B (x : Int) (y : Int) then 0 else 1) W) (c := W * 1) H fun y _ => sumTo_le W fun x _ => by split <;> omega
  rw [Nat.mul_one, Nat.mul_comm] at this
  exact this
theorem ok_nat {f : Bmp} (h : f.ok) : okB (f.W.toNat : Int) (f.H.toNat : Int) f.n f.B := by
  have h1 := h.1.1
  have h2 := h.1.2.1
  rw [Int.toNat_of_nonneg (by omega), Int.toNat_of_nonneg (by omega)]
  exact h
theorem near_zero {f g : Bmp} {t : Nat} (hf : f.ok) (hg : g.ok) (wf : f.word) (wg : g.word) (ht : isNaN D t = false) (hk : key D t = 0) : nearB f g t = true ↔ f.same g := by
  obtain ⟨a1, a2⟩ := area hf
  have hd := diff_area f.W.toNat f.H.toNat f.B g.B
  unfold nearB sizeB leqB
  rw [leQ_zero (by omega) (by omega) a1 ht hk]
  simp only [Bool.and_eq_true, decide_eq_true_eq]
  unfold Bmp.same eqL
  constructor
  · rintro ⟨⟨hW, hH⟩, hz⟩
    have h1 := ok_nat hf
    have h2 := ok_nat hg
    rw [← hW, ← hH] at h2
    have hn : f.n = g.n := by rw [h1.2.1, h2.2.1]
    rw [← hn] at h2
    exact ⟨hW, hH, hn, (diff_zero h1 h2 wf (fun i hi => wg i (by omega))).1 hz⟩
  · rintro ⟨hW, hH, hn, he⟩
    have h1 := ok_nat hf
    have h2 := ok_nat hg
    rw [← hW, ← hH, ← hn] at h2
    exact ⟨⟨hW, hH⟩, (diff_zero h1 h2 wf (fun i hi => wg i (by omega))).2 he⟩
theorem near_inf {f g : Bmp} {t : Nat} (hf : f.ok) (ht : isNaN D t = false) (hk : key D t = ((D.infRung : Nat) : Int)) : nearB f g t = sizeB f g := by
  obtain ⟨a1, a2⟩ := area hf
  have hd := diff_area f.W.toNat f.H.toNat f.B g.B
  unfold nearB leqB
  rw [leQ_inf (by omega) (by omega) a1 ht hk, Bool.and_true]
theorem near_self {f : Bmp} {t : Nat} (hf : f.ok) (ht : tolOk t = true) : nearB f f t = true := by
  obtain ⟨a1, a2⟩ := area hf
  have hd := diff_area f.W.toNat f.H.toNat f.B f.B
  unfold nearB sizeB leqB
  rw [leQ_none (by omega) (by omega) a1 ht ?_]
  · simp
  · unfold diffN
    exact sumTo_zero _ fun y _ => sumTo_zero _ fun x _ => if_pos rfl
/-- what a bitmap's class is -/
theorem cls_facts {F : Nat → Bmp} {t n i : Nat} (hi : i < n) (hself : nearB (F i) (F i) t = true) (c : Nat) (hc : (clsOf F t n).1[i]! = c) :
    c ≤ (clsOf F t i).2.length ∧ c < (clsOf F t n).2.length ∧ nearB (F (clsOf F t n).2[c]!) (F i) t = true ∧ (∀ k, k < c → nearB (F (clsOf F t n).2[k]!) (F i) t = false) ∧
      (c = (clsOf F t i).2.length → (clsOf F t n).2[c]! = i ∧ (clsOf F t (i + 1)).2.length = (clsOf F t i).2.length + 1) ∧ (c ≠ (clsOf F t i).2.length → (clsOf F t (i + 1)).2.length = (clsOf F t i).2.length) := by
  rw [cls_at F t n i hi] at hc
  have e1 : clsOf F t (i + 1) = stepC F t (clsOf F t i) i := rfl
  have hle := reps_le F t i n (by omega)
  have hle1 := reps_le F t (i + 1) n (by omega)
  cases hh : hit F t (clsOf F t i).2 i with
  | some k =>
    rw [hh] at hc
    obtain rfl : k = c := hc
    obtain ⟨h1, h2, h3⟩ := hit_some hh
    refine ⟨by omega, by omega, ?_, fun j hj => ?_, fun h => by omega, fun _ => ?_⟩
    · rw [← reps_get F t i n k (by omega) h1]; exact h2
    · rw [← reps_get F t i n j (by omega) (by omega)]; exact h3 j hj
    · rw [e1]; unfold stepC; rw [hh]
  | none =>
    rw [hh] at hc
    obtain rfl : (clsOf F t i).2.length = c := hc
    have h1 := hit_none hh
    have e2 : (clsOf F t (i + 1)).2 = (clsOf F t i).2 ++ [i] := by rw [e1]; unfold stepC; rw [hh]
    have e3 : (clsOf F t (i + 1)).2.length = (clsOf F t i).2.length + 1 := by rw [e2]; simp
    have e4 : (clsOf F t n).2[(clsOf F t i).2.length]! = i := by
      rw [← reps_get F t (i + 1) n _ (by omega) (by omega), e2]; exact get_snoc _ _
    refine ⟨Nat.le_refl _, by omega, by rw [e4]; exact hself, fun j hj => ?_, fun _ => ⟨e4, e3⟩, fun h => absurd rfl h⟩
    rw [← reps_get F t i n j (by omega) hj]; exact h1 j hj
/-- where nearness is an equivalence, bitmaps have one class just if they are near -/
theorem cls_iff {F : Nat → Bmp} {t n : Nat} (hr : ∀ i, i < n → nearB (F i) (F i) t = true) (hs : ∀ i j, i < n → j < n → nearB (F i) (F j) t = true → nearB (F j) (F i) t = true)
    (ht : ∀ i j k, i < n → j < n → k < n → nearB (F i) (F j) t = true → nearB (F j) (F k) t = true → nearB (F i) (F k) t = true) (i j : Nat) (hi : i < n) (hj : j < n) :
    (clsOf F t n).1[i]! = (clsOf F t n).1[j]! ↔ nearB (F i) (F j) t = true := by
  obtain ⟨_, a2, a3, a4, _⟩ := cls_facts hi (hr i hi) _ rfl
  obtain ⟨_, b2, b3, b4, _⟩ := cls_facts hj (hr j hj) _ rfl
  generalize (clsOf F t n).1[i]! = c at *
  generalize (clsOf F t n).1[j]! = d at *
  have rc := reps_lt F t n c a2
  have rd := reps_lt F t n d b2
  constructor
  · rintro rfl
    exact ht i _ j hi rc hj (hs _ i rc hi a3) b3
  · intro h
    rcases Nat.lt_trichotomy c d with hlt | he | hlt
    · have h1 := ht _ i j rc hi hj a3 h
      rw [b4 c hlt] at h1
      cases h1
    · exact he
    · have h1 := ht _ j i rd hj hi b3 (hs i j hi hj h)
      rw [a4 d hlt] at h1
      cases h1
theorem same_symm {f g : Bmp} (h : f.same g) : g.same f := ⟨h.1.symm, h.2.1.symm, h.2.2.1.symm, fun i hi => (h.2.2.2 i (by have := h.2.2.1; omega)).symm⟩
theorem same_trans {f g k : Bmp} (h : f.same g) (h' : g.same k) : f.same k :=
  ⟨h.1.trans h'.1, h.2.1.trans h'.2.1, h.2.2.1.trans h'.2.2.1, fun i hi => (h.2.2.2 i hi).trans (h'.2.2.2 i (by have := h.2.2.1; omega))⟩
/-- by 0 or -0: bitmaps have one class just if they are equal -/
theorem cls_zero {F : Nat → Bmp} {t n : Nat} (hok : ∀ i, i < n → (F i).ok) (hw : ∀ i, i < n → (F i).word) (ht : isNaN D t = false) (hk : key D t = 0) (i j : Nat) (hi : i < n) (hj : j < n) :
    (clsOf F t n).1[i]! = (clsOf F t n).1[j]! ↔ (F i).same (F j) := by
  have hz := fun i j (hi : i < n) (hj : j < n) => near_zero (hok i hi) (hok j hj) (hw i hi) (hw j hj) ht hk
  rw [cls_iff (fun i hi => (hz i i hi hi).2 ⟨rfl, rfl, rfl, fun _ _ => rfl⟩) (fun i j hi hj h => (hz j i hj hi).2 (same_symm ((hz i j hi hj).1 h)))
    (fun i j k hi hj hk h1 h2 => (hz i k hi hk).2 (same_trans ((hz i j hi hj).1 h1) ((hz j k hj hk).1 h2))) i j hi hj]
  exact hz i j hi hj
/-- by infinity: just if they have one size -/
theorem cls_inf {F : Nat → Bmp} {t n : Nat} (hok : ∀ i, i < n → (F i).ok) (ht : isNaN D t = false) (hk : key D t = ((D.infRung : Nat) : Int)) (i j : Nat) (hi : i < n) (hj : j < n) :
    (clsOf F t n).1[i]! = (clsOf F t n).1[j]! ↔ (F i).W = (F j).W ∧ (F i).H = (F j).H := by
  have hz : ∀ i j, i < n → (nearB (F i) (F j) t = true ↔ (F i).W = (F j).W ∧ (F i).H = (F j).H) := fun i j hi => by
    rw [near_inf (hok i hi) ht hk]; unfold sizeB; exact decide_eq_true_iff
  rw [cls_iff (fun i hi => (hz i i hi).2 ⟨rfl, rfl⟩) (fun i j hi hj h => (hz j i hj).2 ⟨((hz i j hi).1 h).1.symm, ((hz i j hi).1 h).2.symm⟩)
    (fun i j k hi hj hk h1 h2 => (hz i k hi).2 ⟨((hz i j hi).1 h1).1.trans ((hz j k hj).1 h2).1, ((hz i j hi).1 h1).2.trans ((hz j k hj).1 h2).2⟩) i j hi hj]
  exact hz i j hi
theorem tol_facts : (isNaN D 0 = false ∧ key D 0 = 0 ∧ tolOk 0 = true) ∧ (isNaN D 9223372036854775808 = false ∧ key D 9223372036854775808 = 0 ∧ tolOk 9223372036854775808 = true) ∧
    (isNaN D 9218868437227405312 = false ∧ key D 9218868437227405312 = ((D.infRung : Nat) : Int) ∧ tolOk 9218868437227405312 = true) := by decide
end Go.Proofs.Ytfniekdohidbiaa
