/- What is read of numbers and of pixels' digits: plain lists. Conditions: the bounds that each theorem names. -/
import Derived.Test.YtgpjpmadbepblaaDoorSy
namespace Go.Proofs.YtgpjpmadbepblaaDoor
open Go.RowKit Go.Bm Go.Pbm Go.Sort

/-- what makes no difference between pixels -/
def Trans (s : List UInt8) : Prop := ∀ t, pas false (s ++ t) = pas false t
theorem Trans.nil : Trans [] := fun _ => rfl
theorem Trans.append {s u : List UInt8} (h : Trans s) (k : Trans u) : Trans (s ++ u) := fun t => by rw [List.append_assoc, h, k]
theorem Trans.white {c : UInt8} (h : isW c.toNat = true) : Trans [c] := fun t => by rw [List.singleton_append, pas, if_pos h]
/-- a pixel's digit -/
def dp (b : Bool) : UInt8 := if b then 49 else 48
theorem dp_nat (b : Bool) : (dp b).toNat = 48 ∨ (dp b).toNat = 49 := by cases b <;> decide
theorem dp_dec (b : Bool) : decide ((dp b).toNat = 49) = b := by cases b <;> decide
theorem pas_dp (b : Bool) (t : List UInt8) : pas false (dp b :: t) = dp b :: t := by cases b <;> rfl
theorem pixP_dp {s : List UInt8} (hs : Trans s) (b : Bool) (k : Nat) (t : List UInt8) : pixP (k + 1) (s ++ dp b :: t) = joinP [b] (pixP k t) := by
  have h := pixP_good (k := k) (r := s ++ dp b :: t) (by rw [hs, pas_dp]) (dp_nat b) []
  rw [joinP_nil, dp_dec] at h
  exact h
/-- pixels, each with what stands behind it -/
def seqA : List (Bool × List UInt8) → List UInt8
  | [] => []
  | (b, s) :: L => dp b :: (s ++ seqA L)
theorem seqA_append : ∀ L M, seqA (L ++ M) = seqA L ++ seqA M
  | [], _ => rfl
  | (b, s) :: L, M => by rw [List.cons_append, seqA, seqA, seqA_append L M, List.cons_append, List.append_assoc]
theorem pixA : ∀ (L : List (Bool × List UInt8)) (s tail : List UInt8) (k : Nat), Trans s → (∀ x ∈ L, Trans x.2) → ∃ s', Trans s' ∧ pixP (L.length + k) (s ++ seqA L ++ tail) = joinP (L.map (·.1)) (pixP k (s' ++ tail))
  | [], s, tail, k, hs, _ => ⟨s, hs, by rw [show ([] : List (Bool × List UInt8)).length + k = k from Nat.zero_add k, seqA, List.append_nil, List.map_nil, joinP_nil]⟩
  | (b, u) :: L, s, tail, k, hs, hL => by
    obtain ⟨s', h1, h2⟩ := pixA L u tail k (hL (b, u) (by simp)) (fun x hx => hL x (by simp [hx]))
    refine ⟨s', h1, ?_⟩
    rw [show ((b, u) :: L).length + k = (L.length + k) + 1 by simp; omega, seqA, List.append_assoc, List.cons_append, pixP_dp hs, h2]
    cases pixP k (s' ++ tail) with
    | inl e => rfl
    | inr p => rfl
/-- pixels, each with what stands ahead of it -/
def seqB : List (List UInt8 × Bool) → List UInt8
  | [] => []
  | (s, b) :: L => s ++ dp b :: seqB L
theorem seqB_append : ∀ L M, seqB (L ++ M) = seqB L ++ seqB M
  | [], _ => rfl
  | (s, b) :: L, M => by rw [List.cons_append, seqB, seqB, seqB_append L M, List.append_assoc, List.cons_append]
theorem pixB : ∀ (L : List (List UInt8 × Bool)) (tail : List UInt8), (∀ x ∈ L, Trans x.1) → pixP L.length (seqB L ++ tail) = .inr (L.map (·.2), tail)
  | [], tail, _ => rfl
  | (s, b) :: L, tail, hL => by
    rw [seqB, List.length_cons, List.append_assoc, List.cons_append, pixP_dp (hL (s, b) (by simp)), pixB L tail (fun x hx => hL x (by simp [hx]))]
    rfl

/-! ## numbers -/
def isD (c : UInt8) : Prop := 48 ≤ c.toNat ∧ c.toNat ≤ 57
/-- digits' value -/
def fd (v : Nat) (ds : List UInt8) : Nat := ds.foldl (fun v c => min (10 * v + (c.toNat - 48)) 2147483648) v
theorem digL_append : ∀ (ds t : List UInt8) (v : Nat), (∀ c ∈ ds, isD c) → digL v (ds ++ t) = ((digL (fd v ds) t).1, ds.length + (digL (fd v ds) t).2)
  | [], t, v, _ => by rw [List.nil_append, List.length_nil, Nat.zero_add]; rfl
  | c :: ds, t, v, h => by
    have hc := h c (by simp)
    rw [List.cons_append, digL_cons hc, digL_append ds t _ (fun x hx => h x (by simp [hx]))]
    show (_, _) = (_, _)
    rw [List.length_cons]
    exact Prod.ext rfl (by show _ = _; simp only [fd, List.foldl_cons]; omega)
theorem decD : ∀ n, (∀ c ∈ Lib.decDigits n, isD c) ∧ Lib.decDigits n ≠ [] ∧ (n ≤ 2147483648 → fd 0 (Lib.decDigits n) = n) := by
  intro n
  induction n using Nat.strongRecOn with
  | _ n ih =>
    have hd : isD (dg (n % 10)) := by unfold isD; rw [dg_nat9 (Nat.mod_lt _ (by decide))]; omega
    rw [digits_step]
    by_cases h : n < 10
    · rw [if_pos h]
      refine ⟨fun c hc => by simp at hc; subst hc; exact hd, by simp, fun _ => ?_⟩
      show min (10 * 0 + ((dg (n % 10)).toNat - 48)) 2147483648 = n
      rw [dg_nat9 (Nat.mod_lt _ (by decide))]
      omega
    · rw [if_neg h]
      obtain ⟨h1, h2, h3⟩ := ih (n / 10) (by omega)
      refine ⟨fun c hc => ?_, by simp, fun hn => ?_⟩
      · rw [List.mem_append] at hc
        rcases hc with hc | hc
        · exact h1 c hc
        · simp at hc; subst hc; exact hd
      · unfold fd
        rw [List.foldl_append]
        show min (10 * fd 0 (Lib.decDigits (n / 10)) + ((dg (n % 10)).toNat - 48)) 2147483648 = n
        rw [h3 (by omega), dg_nat9 (Nat.mod_lt _ (by decide))]
        omega
/-- a number read at its place -/
theorem numS_at {l pre t : List UInt8} {i n : Nat} (h : l.drop i = pre ++ (Lib.decDigits n ++ t)) (hp : Trans pre) (hne : pre ≠ []) (hn : n ≤ 2147483648) (ht : ∀ c u, t = c :: u → ¬ isD c) :
    numS l i = some (n, i + pre.length + (Lib.decDigits n).length) ∧ l.drop (i + pre.length + (Lib.decDigits n).length) = t := by
  obtain ⟨d1, d2, d3⟩ := decD n
  have hdig : digL 0 (Lib.decDigits n ++ t) = (n, (Lib.decDigits n).length) := by
    rw [digL_append _ _ _ d1, d3 hn]
    cases t with
    | nil => rfl
    | cons c u => rw [digL_cons_no (ht c u rfl)]; rfl
  have hpas : pas false (Lib.decDigits n ++ t) = Lib.decDigits n ++ t := by
    cases hd : Lib.decDigits n with
    | nil => exact absurd hd d2
    | cons c u =>
      have hc := d1 c (by rw [hd]; simp)
      unfold isD at hc
      rw [List.cons_append, pas, if_neg (by unfold isW; simp; omega), if_neg (by omega)]
  have hlen : l.length - i = pre.length + ((Lib.decDigits n).length + t.length) := by
    have := congrArg List.length h
    simpa using this
  have hpos : 0 < (Lib.decDigits n).length := List.length_pos_iff.2 d2
  have hpp : 0 < pre.length := List.length_pos_iff.2 hne
  have hat : pasAt false l i = i + pre.length := by
    unfold pasAt
    rw [h, hp, hpas, List.length_append]
    omega
  have hdr : l.drop (i + pre.length) = Lib.decDigits n ++ t := by
    rw [← List.drop_drop, h, List.drop_left]
  refine ⟨?_, by rw [← List.drop_drop, hdr, List.drop_left]⟩
  unfold numS
  rw [hat, hdr, hdig, if_pos ⟨by omega, hpos⟩]
end Go.Proofs.YtgpjpmadbepblaaDoor
