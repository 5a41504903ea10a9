/- A reader of bytes: what stands ahead, white bytes and remarks, numbers; here and white of package pbm; a scope with several labels. Conditions: the bounds that each theorem names. -/
import Derived.Test.YtgpjpmadbepblaaDoorMg
import Derived.Scope
import Derived.WalkMore
namespace Go
/-- by a goto: J, of the label; else as Q -/
def Exit.jumps (J : Nat → Act → World → Prop) (Q : Exit → Act → World → Prop) : Exit → Act → World → Prop
  | .goto l, a, w => J l a w
  | e, a, w => Q e a w
/-- a scope in which the run jumps to several labels: what holds at each jump, and a measure that each pass lowers -/
theorem wp_scope_labels {P : Program} {a : Act} {w : World} {Q : Exit → Act → World → Prop} {c : Code} (J : Nat → Act → World → Prop) (μ : Nat → Act → World → Nat)
    (first : c.wp P (Exit.jumps J Q) a w)
    (pass : ∀ l a w, J l a w → ∃ r, findLabel c l = some r ∧ r.wp P (Exit.jumps (fun l' a' w' => J l' a' w' ∧ μ l' a' w' < μ l a w) Q) a w) : (Code.scope c).wp P Q a w := by
  intro b k cs
  have hg : ∀ l r, findLabel c l = some r → gotoIn l (.inScope c :: k) = some (.code r :: .inScope c :: k) := fun l r hf => by simp [gotoIn, hf]
  have key : ∀ n l r a w, μ l a w = n → J l a w → findLabel c l = some r → ∃ e a' w', Q e a' w' ∧ Arrives P (lone (b.at a (.code r :: .inScope c :: k)) cs w) b k cs e a' w' := by
    intro n
    induction n using Nat.strongRecOn with
    | _ n ih =>
      intro l r a w hn hJ hr
      obtain ⟨r', hr', hw⟩ := pass l a w hJ
      obtain rfl := Option.some.inj (hr.symm.trans hr')
      obtain ⟨e, a₁, w₁, hq, harr⟩ := hw b (.inScope c :: k) cs
      cases e with
      | normal => exact ⟨.normal, a₁, w₁, hq, Steps.trans harr (.one step_inScope)⟩
      | exit id => exact ⟨.exit id, a₁, w₁, hq, fun k' hk => harr k' (by simp [exitTo, hk])⟩
      | goto l' =>
        obtain ⟨hJ', hlt⟩ := hq
        obtain ⟨r2, hr2, _⟩ := pass l' a₁ w₁ hJ'
        obtain ⟨e₂, a₂, w₂, hq₂, harr₂⟩ := ih _ (by omega) l' r2 a₁ w₁ rfl hJ' hr2
        exact ⟨e₂, a₂, w₂, hq₂, .of_steps (harr _ (hg _ _ hr2)) harr₂⟩
      | ret => exact ⟨_, a₁, w₁, hq, harr⟩
      | panic ch => exact ⟨_, a₁, w₁, hq, harr⟩
      | outgrown => exact ⟨_, a₁, w₁, hq, harr⟩
  obtain ⟨e, a₁, w₁, hq, harr⟩ := first b (.inScope c :: k) cs
  cases e with
  | normal => exact ⟨.normal, a₁, w₁, hq, .head step_scope (Steps.trans harr (.one step_inScope))⟩
  | exit id => exact ⟨.exit id, a₁, w₁, hq, fun k' hk => .head step_scope (harr k' (by simp [exitTo, hk]))⟩
  | goto l' =>
    obtain ⟨r2, hr2, _⟩ := pass l' a₁ w₁ hq
    obtain ⟨e₂, a₂, w₂, hq₂, harr₂⟩ := key _ l' r2 a₁ w₁ rfl hq hr2
    exact ⟨e₂, a₂, w₂, hq₂, .of_steps (.head step_scope (harr _ (hg _ _ hr2))) harr₂⟩
  | ret => exact ⟨_, a₁, w₁, hq, .of_steps (.one step_scope) harr⟩
  | panic ch => exact ⟨_, a₁, w₁, hq, .of_steps (.one step_scope) harr⟩
  | outgrown => exact ⟨_, a₁, w₁, hq, .of_steps (.one step_scope) harr⟩
end Go
namespace Go.Pbm
open Go.RowKit Go.Bm
/-- white bytes -/
def isW (c : Nat) : Bool := decide (9 ≤ c ∧ c ≤ 13) || decide (c = 32)
def isWI (c : Int) : Bool := decide (9 ≤ c ∧ c ≤ 13) || decide (c = 32)
theorem isWI_nat (c : Nat) : isWI (c : Int) = isW c := by
  unfold isWI isW
  congr 1
  · by_cases h : 9 ≤ c ∧ c ≤ 13
    · rw [decide_eq_true h, decide_eq_true (by omega)]
    · rw [decide_eq_false h, decide_eq_false (by omega)]
  · by_cases h : c = 32
    · rw [decide_eq_true h, decide_eq_true (by omega)]
    · rw [decide_eq_false h, decide_eq_false (by omega)]
/-- behind white bytes and remarks (in a remark, or not) -/
def pas : Bool → List UInt8 → List UInt8
  | _, [] => []
  | false, c :: t => if isW c.toNat then pas false t else if c.toNat = 35 then pas true t else c :: t
  | true, c :: t => if c.toNat = 10 then pas false t else pas true t
theorem pas_len : ∀ (b : Bool) (l : List UInt8), (pas b l).length ≤ l.length
  | b, [] => by cases b <;> simp [pas]
  | false, c :: t => by
    rw [pas]
    split
    · have := pas_len false t; simp; omega
    · split
      · have := pas_len true t; simp; omega
      · exact Nat.le_refl _
  | true, c :: t => by
    rw [pas]
    split
    · have := pas_len false t; simp; omega
    · have := pas_len true t; simp; omega
theorem pas_suffix : ∀ (b : Bool) (l : List UInt8), pas b l = l.drop (l.length - (pas b l).length)
  | b, [] => by cases b <;> simp [pas]
  | false, c :: t => by
    have h1 := pas_suffix false t
    have h2 := pas_suffix true t
    have l1 := pas_len false t
    have l2 := pas_len true t
    rw [pas]
    split
    · rw [List.length_cons, show t.length + 1 - (pas false t).length = (t.length - (pas false t).length) + 1 by omega, List.drop_succ_cons]; exact h1
    · split
      · rw [List.length_cons, show t.length + 1 - (pas true t).length = (t.length - (pas true t).length) + 1 by omega, List.drop_succ_cons]; exact h2
      · simp
  | true, c :: t => by
    have h1 := pas_suffix false t
    have h2 := pas_suffix true t
    have l1 := pas_len false t
    have l2 := pas_len true t
    rw [pas]
    split
    · rw [List.length_cons, show t.length + 1 - (pas false t).length = (t.length - (pas false t).length) + 1 by omega, List.drop_succ_cons]; exact h1
    · rw [List.length_cons, show t.length + 1 - (pas true t).length = (t.length - (pas true t).length) + 1 by omega, List.drop_succ_cons]; exact h2
theorem drop_at {l : List UInt8} {i : Nat} {c : UInt8} (h : l[i]? = some c) : l.drop i = c :: l.drop (i + 1) := by
  obtain ⟨h1, h2⟩ := List.getElem?_eq_some_iff.1 h
  rw [List.drop_eq_getElem_cons h1, h2]
/-- a reader in memory: its bytes, its place -/
structure IsRd (w : World) (r : Nat) (a : Option Addr) (cap : Nat) (l : List UInt8) (i : Nat) : Prop where
  c0 : w.cell? ⟨r, 0, none⟩ = some (.slice a l.length cap)
  c1 : w.cell? ⟨r, 1, none⟩ = some (.int .i64 i)
  fz : w.frozen? ⟨r, 1, none⟩ = false
  k : IsBytes w a cap l
  ne : ∀ b off, a = some ⟨b, off, none⟩ → b ≠ r
  le : i ≤ l.length
theorem IsRd.drewN {w : World} {r : Nat} {a : Option Addr} {cap : Nat} {l : List UInt8} {i : Nat} (h : IsRd w r a cap l i) (n : Nat) : IsRd (w.drewN n) r a cap l i := ⟨h.c0, h.c1, h.fz, h.k, h.ne, h.le⟩
theorem IsRd.lt {w : World} {r : Nat} {a : Option Addr} {cap : Nat} {l : List UInt8} {i : Nat} (h : IsRd w r a cap l i) : r < w.heap.size := World.block_lt_of_cell? w _ h.c0
theorem IsBytes.grown {w w' : World} {a : Option Addr} {cap g : Nat} {l : List UInt8} (h : IsBytes w a cap l) (hg : w.grownBy w' (some g)) (hne : ∀ b off, a = some ⟨b, off, none⟩ → b ≠ g) : IsBytes w' a cap l := by
  rcases h with h | ⟨b, off, h1, h2, h3, h4, h5⟩
  · exact Or.inl h
  · exact Or.inr ⟨b, off, h1, h2, h3, Nat.lt_of_lt_of_le h4 hg.size, fun i u hi => hg.cell (h5 i u hi) (fun e => hne b off h1 (Option.some.inj e))⟩
/-- the place is moved on -/
theorem IsRd.set {w : World} {r : Nat} {a : Option Addr} {cap : Nat} {l : List UInt8} {i j : Nat} (h : IsRd w r a cap l i) (hj : j ≤ l.length) : IsRd (w.setCell ⟨r, 1, none⟩ (.int .i64 j)) r a cap l j := by
  have hg : w.grownBy (w.setCell ⟨r, 1, none⟩ (.int .i64 j)) (some r) := ⟨rfl, rfl, rfl, by simp, fun k _ hk => Below.heap_setCell w _ _ k (fun e => hk (by rw [e]))⟩
  have hh : ∃ cs t fr, w.heap[r]? = some (.cells cs t fr) ∧ 1 < cs.size ∧ cs[0]? = some (.slice a l.length cap) := by
    have h0 := h.c0
    have h1 := h.c1
    unfold World.cell? at h0 h1
    cases hb : w.heap[r]? with
    | none => rw [hb] at h0; cases h0
    | some o =>
      rw [hb] at h0 h1
      cases o with
      | cells cs t fr =>
        simp at h0 h1
        exact ⟨cs, t, fr, rfl, (Array.getElem?_eq_some_iff.1 h1).1, h0⟩
      | _ => simp at h0
  obtain ⟨cs, t, fr, hb, hsz, hc0⟩ := hh
  have hb2 := Joins.block_setCell hb (i := 1) (.int .i64 (j : Int))
  refine ⟨?_, ?_, ?_, h.k.grown hg h.ne, h.ne, hj⟩
  · rw [Joins.cell_of_block hb2, Array.getElem?_setIfInBounds]
    simpa using hc0
  · rw [Joins.cell_of_block hb2, Array.getElem?_setIfInBounds]
    simp [hsz]
  · have := h.fz
    unfold World.frozen? at this ⊢
    rw [hb2]
    rw [hb] at this
    exact this
/-- the byte at a place; -1 at the end -/
def hereV (l : List UInt8) (i : Nat) : Int := match l[i]? with
  | some c => (c.toNat : Int)
  | none => -1
end Go.Pbm
namespace Go.Proofs.YtgpjpmadbepblaaDoor
open Go.RowKit Go.Bm Go.Pbm Go.Sort

theorem white47 (c : Int) (w : World) : Calls Tryd.prog 47 #[.int .i64 c] w fun e w' => e = .returned (.bool (isWI c)) ∧ w = w' := by
  by_cases h1 : 9 ≤ c
  · by_cases h2 : c ≤ 13
    · have hb : isWI c = true := by unfold isWI; rw [decide_eq_true ⟨h1, h2⟩]; rfl
      rw [hb]
      clear hb
      go_enter Tryd.func47, Tryd.ntmps47
      go_wp2_with fail
      go_ret
      exact ⟨rfl, rfl⟩
    · by_cases h3 : c = 32
      · subst h3
        clear h1 h2
        go_enter Tryd.func47, Tryd.ntmps47
        go_wp2_with fail
        go_ret
        exact ⟨rfl, rfl⟩
      · have hb : isWI c = false := by unfold isWI; rw [decide_eq_false (by omega), decide_eq_false h3]; rfl
        have h3b : (c == 32) = false := by simpa using h3
        rw [hb]
        clear hb h3
        go_enter Tryd.func47, Tryd.ntmps47
        go_wp2_with fail
        go_ret
        exact ⟨rfl, rfl⟩
  · have hb : isWI c = false := by unfold isWI; rw [decide_eq_false (by omega), decide_eq_false (by omega)]; rfl
    have h3b : (c == 32) = false := by simp; omega
    rw [hb]
    clear hb
    go_enter Tryd.func47, Tryd.ntmps47
    go_wp2_with fail
    go_ret
    exact ⟨rfl, rfl⟩

set_option maxHeartbeats 1000000 in
theorem here45 (r : Nat) (a : Option Addr) (cap : Nat) (l : List UInt8) (i : Nat) (w : World) (h : IsRd w r a cap l i) :
    Calls Tryd.prog 45 #[.pointer (some ⟨r, 0, none⟩)] w fun e w' => e = .returned (.int .i64 (hereV l i)) ∧ ∃ k, w.drewN k = w' := by
  obtain ⟨c0, c1, _, hk, _, hle⟩ := h
  by_cases hi : i < l.length
  · have hiI : (i : Int) < (l.length : Int) := by omega
    obtain ⟨c, hc⟩ : ∃ c, l[i]? = some c := ⟨_, List.getElem?_eq_getElem hi⟩
    have hv : hereV l i = (c.toNat : Int) := by unfold hereV; rw [hc]
    rcases hk with h0 | ⟨b, off, rfl, h1, h2, h3, h4⟩
    · rw [h0] at hi; simp at hi
    · have d0 := h4 i c hc
      have hx := c.toNat_lt
      rw [hv]
      clear h4 hv hc hi
      generalize c.toNat = x at *
      have hx2 : wrap64 (x : Int) = (x : Int) := Go.IntWalk.wrap64_in _ ⟨by omega, by omega⟩
      generalize l.length = n at *
      go_enter Tryd.func45, Tryd.ntmps45
      go_wp2
      go_quiet (fail)
      go_wp2
      go_quiet (fail)
      go_wp2
      go_ret
      exact ⟨rfl, _, by rw [World.drewN_drewN]⟩
  · have hiI : ¬ (i : Int) < (l.length : Int) := by omega
    have hv : hereV l i = -1 := by unfold hereV; rw [List.getElem?_eq_none (by omega)]
    rw [hv]
    clear hv hk hi
    generalize l.length = n at *
    go_enter Tryd.func45, Tryd.ntmps45
    go_wp2
    go_quiet (fail)
    go_wp2
    go_ret
    exact ⟨rfl, _, rfl⟩

/-- the place behind white bytes and remarks, from place i on -/
def pasAt (b : Bool) (l : List UInt8) (i : Nat) : Nat := l.length - (pas b (l.drop i)).length
theorem pasAt_end (b : Bool) (l : List UInt8) {i : Nat} (h : l.length ≤ i) : pasAt b l i = l.length := by
  unfold pasAt
  rw [List.drop_eq_nil_of_le h]
  cases b <;> simp [pas]
theorem pasAt_step {l : List UInt8} {i : Nat} {c : UInt8} (b : Bool) (h : l[i]? = some c) :
    pasAt b l i = (if b then (if c.toNat = 10 then pasAt false l (i + 1) else pasAt true l (i + 1)) else if isW c.toNat then pasAt false l (i + 1) else if c.toNat = 35 then pasAt true l (i + 1) else i) := by
  have h1 : i < l.length := (List.getElem?_eq_some_iff.1 h).1
  unfold pasAt
  rw [drop_at h]
  cases b
  · rw [pas]
    simp only [Bool.false_eq_true, if_false]
    split
    · rfl
    · split
      · rfl
      · rw [List.length_cons, List.length_drop]; omega
  · rw [pas]
    simp only [if_true]
    split <;> rfl
theorem pasAt_ge (b : Bool) (l : List UInt8) {i : Nat} (h : i ≤ l.length) : i ≤ pasAt b l i ∧ pasAt b l i ≤ l.length := by
  unfold pasAt
  have := pas_len b (l.drop i)
  rw [List.length_drop] at this
  omega
theorem pasAt_drop (b : Bool) (l : List UInt8) {i : Nat} (h : i ≤ l.length) : l.drop (pasAt b l i) = pas b (l.drop i) := by
  have h1 := pas_suffix b (l.drop i)
  have h2 := pas_len b (l.drop i)
  rw [List.length_drop, List.drop_drop] at h1
  rw [List.length_drop] at h2
  rw [h1]
  unfold pasAt
  congr 1
  omega
end Go.Proofs.YtgpjpmadbepblaaDoor
