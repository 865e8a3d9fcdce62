/- Each place of the code of an expression goes on by its depth (plain law). The depth of a function's code (plain law). -/
import Derived.Test.YtidolpcbbbakmaaGreatM3
namespace Go.Proofs.YtidolpcbbbakmaaGreat
open Go Go.RowKit

/-- The instruction at the place o behind p leads on, as the depths D say. -/
def StepI (i : Ins) (p : Nat) (D : Nat → Nat) (len o : Nat) : Prop :=
  knownB i.op = true ∧ (i.op = 13 → inB i.b 1 1000 = true) ∧ (effT i.op i.a i.b).2.2 = 0 ∧ (effT i.op i.a i.b).1 ≤ D o ∧
  ∀ t ∈ tgL i (p + o), ∃ o', o' ≤ len ∧ t = ((p + o' : Nat) : Int) ∧ (D o' : Int) + (effT i.op i.a i.b).1 = D o + (effT i.op i.a i.b).2.1
def StepD (C : List Ins) (p : Nat) (D : Nat → Nat) (len o : Nat) : Prop := StepI (C.getD (p + o) default) p D len o
theorem StepD.shift {C : List Ins} {p q o k len len' j : Nat} {D D' : Nat → Nat} (h : StepD C q D' len' j) (hq : q = p + o) (hD : ∀ i, i ≤ len' → D (o + i) = k + D' i) (hj : j ≤ len') (hlen : o + len' ≤ len) : StepD C p D len (o + j) := by
  subst hq
  unfold StepD StepI at h ⊢
  rw [← Nat.add_assoc]
  obtain ⟨h0, h1, h2, h3, h4⟩ := h
  have e := hD j hj
  refine ⟨h0, h1, h2, by omega, fun t ht => ?_⟩
  obtain ⟨o', a, b, c⟩ := h4 t ht
  have e' := hD o' a
  exact ⟨o + o', by omega, by omega, by omega⟩
theorem getD_of {C : List Ins} {p : Nat} {i : Ins} (h : C[p]? = some i) : C.getD p default = i := by simp [List.getD, h]
theorem form_ops {caps : Int} {clo : Int → Int → Bool} {loc op n : Int} {s : ByteArray} {k : Nat} (h : formB caps clo loc op n s k = true) :
    op = 2 ∨ op = 3 ∨ op = 6 ∨ op = 7 ∨ op = 8 ∨ op = 9 ∨ op = 11 ∨ op = 12 ∨ op = 13 ∨ op = 21 ∨ op = 22 ∨ op = 23 ∨ op = 24 ∨ op = 25 := by
  by_cases g : op = 2 ∨ op = 3 ∨ op = 6 ∨ op = 7 ∨ op = 8 ∨ op = 9 ∨ op = 11 ∨ op = 12 ∨ op = 13 ∨ op = 21 ∨ op = 22 ∨ op = 23 ∨ op = 24 ∨ op = 25
  · exact g
  · unfold formB at h
    by_cases hs : op ≠ 3 ∧ s.size ≠ 0
    · rw [if_pos hs] at h; cases h
    · rw [if_neg hs, if_neg (by omega), if_neg (by omega), if_neg (by omega), if_neg (by omega), if_neg (by omega), if_neg (by omega), if_neg (by omega), if_neg (by omega), if_neg (by omega), if_neg (by omega), if_neg (by omega), if_neg (by omega)] at h
      cases h
theorem form_2 {caps : Int} {clo : Int → Int → Bool} {loc n : Int} {s : ByteArray} {k : Nat} (h : formB caps clo loc 2 n s k = true) : (decide (k = 0) && inB n (-4503599627370496) 4503599627370496) = true ∧ (2 = 3 ∨ s.size = 0) := by
  unfold formB at h
  by_cases hs : (2 : Int) ≠ 3 ∧ s.size ≠ 0
  · rw [if_pos hs] at h; cases h
  · rw [if_neg hs, if_pos (rfl)] at h
    exact ⟨h, by omega⟩
theorem form_3 {caps : Int} {clo : Int → Int → Bool} {loc n : Int} {s : ByteArray} {k : Nat} (h : formB caps clo loc 3 n s k = true) : (decide (k = 0) && (decide (n = 0) && decide (s.size ≤ 16384))) = true ∧ (3 = 3 ∨ s.size = 0) := by
  unfold formB at h
  by_cases hs : (3 : Int) ≠ 3 ∧ s.size ≠ 0
  · rw [if_pos hs] at h; cases h
  · rw [if_neg hs, if_neg (by decide), if_pos (rfl)] at h
    exact ⟨h, by omega⟩
theorem form_6 {caps : Int} {clo : Int → Int → Bool} {loc n : Int} {s : ByteArray} {k : Nat} (h : formB caps clo loc 6 n s k = true) : (decide (n = 0) && decide (k ≤ 1000)) = true ∧ (6 = 3 ∨ s.size = 0) := by
  unfold formB at h
  by_cases hs : (6 : Int) ≠ 3 ∧ s.size ≠ 0
  · rw [if_pos hs] at h; cases h
  · rw [if_neg hs, if_neg (by decide), if_neg (by decide), if_pos (rfl)] at h
    exact ⟨h, by omega⟩
theorem form_7 {caps : Int} {clo : Int → Int → Bool} {loc n : Int} {s : ByteArray} {k : Nat} (h : formB caps clo loc 7 n s k = true) : (decide (k = 1) && inB n 0 999) = true ∧ (7 = 3 ∨ s.size = 0) := by
  unfold formB at h
  by_cases hs : (7 : Int) ≠ 3 ∧ s.size ≠ 0
  · rw [if_pos hs] at h; cases h
  · rw [if_neg hs, if_neg (by decide), if_neg (by decide), if_neg (by decide), if_pos (.inl rfl)] at h
    exact ⟨h, by omega⟩
theorem form_8 {caps : Int} {clo : Int → Int → Bool} {loc n : Int} {s : ByteArray} {k : Nat} (h : formB caps clo loc 8 n s k = true) : (decide (k = 1) && inB n 0 999) = true ∧ (8 = 3 ∨ s.size = 0) := by
  unfold formB at h
  by_cases hs : (8 : Int) ≠ 3 ∧ s.size ≠ 0
  · rw [if_pos hs] at h; cases h
  · rw [if_neg hs, if_neg (by decide), if_neg (by decide), if_neg (by decide), if_pos (.inr rfl)] at h
    exact ⟨h, by omega⟩
theorem form_9 {caps : Int} {clo : Int → Int → Bool} {loc n : Int} {s : ByteArray} {k : Nat} (h : formB caps clo loc 9 n s k = true) : (decide (n = 0) && inB k 2 1001) = true ∧ (9 = 3 ∨ s.size = 0) := by
  unfold formB at h
  by_cases hs : (9 : Int) ≠ 3 ∧ s.size ≠ 0
  · rw [if_pos hs] at h; cases h
  · rw [if_neg hs, if_neg (by decide), if_neg (by decide), if_neg (by decide), if_neg (by decide), if_pos (rfl)] at h
    exact ⟨h, by omega⟩
theorem form_25 {caps : Int} {clo : Int → Int → Bool} {loc n : Int} {s : ByteArray} {k : Nat} (h : formB caps clo loc 25 n s k = true) : (decide (n = 0) && decide (k = 2)) = true ∧ (25 = 3 ∨ s.size = 0) := by
  unfold formB at h
  by_cases hs : (25 : Int) ≠ 3 ∧ s.size ≠ 0
  · rw [if_pos hs] at h; cases h
  · rw [if_neg hs, if_neg (by decide), if_neg (by decide), if_neg (by decide), if_neg (by decide), if_neg (by decide), if_pos (.inr rfl)] at h
    exact ⟨h, by omega⟩
theorem form_12 {caps : Int} {clo : Int → Int → Bool} {loc n : Int} {s : ByteArray} {k : Nat} (h : formB caps clo loc 12 n s k = true) : (inB n 1 14 && decide ((k : Int) = ref46_arity n)) = true ∧ (12 = 3 ∨ s.size = 0) := by
  unfold formB at h
  by_cases hs : (12 : Int) ≠ 3 ∧ s.size ≠ 0
  · rw [if_pos hs] at h; cases h
  · rw [if_neg hs, if_neg (by decide), if_neg (by decide), if_neg (by decide), if_neg (by decide), if_neg (by decide), if_neg (by decide), if_pos (rfl)] at h
    exact ⟨h, by omega⟩
theorem form_13 {caps : Int} {clo : Int → Int → Bool} {loc n : Int} {s : ByteArray} {k : Nat} (h : formB caps clo loc 13 n s k = true) : (decide (k = 0) && inB n 1 1000000) = true ∧ (13 = 3 ∨ s.size = 0) := by
  unfold formB at h
  by_cases hs : (13 : Int) ≠ 3 ∧ s.size ≠ 0
  · rw [if_pos hs] at h; cases h
  · rw [if_neg hs, if_neg (by decide), if_neg (by decide), if_neg (by decide), if_neg (by decide), if_neg (by decide), if_neg (by decide), if_neg (by decide), if_pos (rfl)] at h
    exact ⟨h, by omega⟩
theorem form_21 {caps : Int} {clo : Int → Int → Bool} {loc n : Int} {s : ByteArray} {k : Nat} (h : formB caps clo loc 21 n s k = true) : (decide (k = 0) && inB n 0 (loc - 1)) = true ∧ (21 = 3 ∨ s.size = 0) := by
  unfold formB at h
  by_cases hs : (21 : Int) ≠ 3 ∧ s.size ≠ 0
  · rw [if_pos hs] at h; cases h
  · rw [if_neg hs, if_neg (by decide), if_neg (by decide), if_neg (by decide), if_neg (by decide), if_neg (by decide), if_neg (by decide), if_neg (by decide), if_neg (by decide), if_pos (rfl)] at h
    exact ⟨h, by omega⟩
theorem form_22 {caps : Int} {clo : Int → Int → Bool} {loc n : Int} {s : ByteArray} {k : Nat} (h : formB caps clo loc 22 n s k = true) : (decide (k = 0) && decide (n = 0)) = true ∧ (22 = 3 ∨ s.size = 0) := by
  unfold formB at h
  by_cases hs : (22 : Int) ≠ 3 ∧ s.size ≠ 0
  · rw [if_pos hs] at h; cases h
  · rw [if_neg hs, if_neg (by decide), if_neg (by decide), if_neg (by decide), if_neg (by decide), if_neg (by decide), if_neg (by decide), if_neg (by decide), if_neg (by decide), if_neg (by decide), if_pos (rfl)] at h
    exact ⟨h, by omega⟩
theorem form_23 {caps : Int} {clo : Int → Int → Bool} {loc n : Int} {s : ByteArray} {k : Nat} (h : formB caps clo loc 23 n s k = true) : (decide (k = 0) && inB n 0 (caps - 1)) = true ∧ (23 = 3 ∨ s.size = 0) := by
  unfold formB at h
  by_cases hs : (23 : Int) ≠ 3 ∧ s.size ≠ 0
  · rw [if_pos hs] at h; cases h
  · rw [if_neg hs, if_neg (by decide), if_neg (by decide), if_neg (by decide), if_neg (by decide), if_neg (by decide), if_neg (by decide), if_neg (by decide), if_neg (by decide), if_neg (by decide), if_neg (by decide), if_pos (rfl)] at h
    exact ⟨h, by omega⟩
theorem form_24 {caps : Int} {clo : Int → Int → Bool} {loc n : Int} {s : ByteArray} {k : Nat} (h : formB caps clo loc 24 n s k = true) : (decide (k ≤ 1000) && clo n k) = true ∧ (24 = 3 ∨ s.size = 0) := by
  unfold formB at h
  by_cases hs : (24 : Int) ≠ 3 ∧ s.size ≠ 0
  · rw [if_pos hs] at h; cases h
  · rw [if_neg hs, if_neg (by decide), if_neg (by decide), if_neg (by decide), if_neg (by decide), if_neg (by decide), if_neg (by decide), if_neg (by decide), if_neg (by decide), if_neg (by decide), if_neg (by decide), if_neg (by decide), if_pos (rfl)] at h
    exact ⟨h, by omega⟩
theorem last_eff {caps : Int} {clo : Int → Int → Bool} {T : ByteArray → Int} {loc op n : Int} {s : ByteArray} {k : Nat} (h : formB caps clo loc op n s k = true) (h9 : op ≠ 9) (h11 : op ≠ 11) (i : Ins) (hi : i = lastI T op n s k) :
    knownB i.op = true ∧ i.op ≠ 13 ∧ i.op ≠ 14 ∧ i.op ≠ 9 ∧ (effT i.op i.a i.b).2.2 = 0 ∧ (effT i.op i.a i.b).1 = k ∧ (i.op = 16 ∨ (effT i.op i.a i.b).2.1 = 1) := by
  subst hi
  rcases form_ops h with rfl | rfl | rfl | rfl | rfl | rfl | rfl | rfl | rfl | rfl | rfl | rfl | rfl | rfl
  · have := (form_2 h).1; simp only [Bool.and_eq_true, decide_eq_true_eq] at this; obtain ⟨rfl, _⟩ := this; simp [lastI, effT, knownB, inB]
  · have := (form_3 h).1; simp only [Bool.and_eq_true, decide_eq_true_eq] at this; obtain ⟨rfl, _⟩ := this; simp [lastI, effT, knownB, inB]
  · have := (form_6 h).1; simp only [Bool.and_eq_true, decide_eq_true_eq] at this
    have e : inB (k : Int) 0 1000 = true := by unfold inB; simp only [Bool.and_eq_true, decide_eq_true_eq]; omega
    simp [lastI, effT, knownB, e]; simp [inB]
  · have := (form_7 h).1; simp only [Bool.and_eq_true, decide_eq_true_eq] at this; obtain ⟨rfl, _⟩ := this; simp [lastI, effT, knownB, inB]
  · have := (form_8 h).1; simp only [Bool.and_eq_true, decide_eq_true_eq] at this; obtain ⟨rfl, _⟩ := this; simp [lastI, effT, knownB, inB]
  · exact absurd rfl h9
  · exact absurd rfl h11
  · have := (form_12 h).1; simp only [Bool.and_eq_true, decide_eq_true_eq] at this; obtain ⟨e, e2⟩ := this
    simp [lastI, effT, knownB, e, e2]; simp [inB]
  · have := (form_13 h).1; simp only [Bool.and_eq_true, decide_eq_true_eq] at this; obtain ⟨rfl, _⟩ := this; simp [lastI, effT, knownB, inB]
  · have := (form_21 h).1; simp only [Bool.and_eq_true, decide_eq_true_eq] at this; obtain ⟨rfl, _⟩ := this; simp [lastI, effT, knownB, inB]
  · have := (form_22 h).1; simp only [Bool.and_eq_true, decide_eq_true_eq] at this; obtain ⟨rfl, _⟩ := this; simp [lastI, effT, knownB, inB]
  · have := (form_23 h).1; simp only [Bool.and_eq_true, decide_eq_true_eq] at this; obtain ⟨rfl, _⟩ := this; simp [lastI, effT, knownB, inB]
  · have := (form_24 h).1; simp only [Bool.and_eq_true, decide_eq_true_eq] at this
    have e : inB (k : Int) 0 1000 = true := by unfold inB; simp only [Bool.and_eq_true, decide_eq_true_eq]; omega
    simp [lastI, effT, knownB, e]; simp [inB]
  · have := (form_25 h).1; simp only [Bool.and_eq_true, decide_eq_true_eq] at this; obtain ⟨_, rfl⟩ := this; simp [lastI, effT, knownB, inB]
theorem stepS {caps : Int} {clo : Int → Int → Bool} {C : List Ins} {T : ByteArray → Int} : ∀ (l : List ExpD) (a b : Int) (k p : Nat), (∀ y ∈ l, ∀ loc p, flatX caps clo loc y = true → CodeX C T loc y p → ∀ o, o < clenX y → StepD C p (dep y) (clenX y) o) →
    ∀ loc, flatL caps clo a b l = true → (a = loc ∧ b = loc) → CodeS C T loc l p → ∀ o, o < clenL l → StepD C p (depS k l) (clenL l) o
  | [], _, _, _, _, _, _, _, _, _, o, ho => by simp [clenL] at ho
  | x :: r, a, b, k, p, ih, loc, hf, ⟨ha, hb⟩, hc, o, ho => by
    subst ha hb
    unfold flatL at hf
    rw [Bool.and_eq_true] at hf
    unfold CodeS at hc
    have e0 : clenL (x :: r) = clenX x + clenL r := clenL_cons _ _
    have hz : depS (k + 1) r 0 = k + 1 := depS_0 (k + 1) b b r (fun y _ loc hy => dep_0 y loc hy) hf.2
    by_cases h : o < clenX x
    · have := (ih x (List.mem_cons_self ..) _ p hf.1 hc.1 o h).shift (p := p) (o := 0) (k := k) (D := depS k (x :: r)) (len := clenL (x :: r)) rfl (fun i hi => ?_) (Nat.le_of_lt h) (by omega)
      · rw [Nat.zero_add] at this; exact this
      · rw [Nat.zero_add]
        unfold depS
        by_cases hi' : i < clenX x
        · rw [if_pos hi']
        · obtain rfl : i = clenX x := by omega
          rw [if_neg (Nat.lt_irrefl _), Nat.sub_self, hz, dep_end x _ hf.1]
    · have := (stepS r b b (k + 1) (p + clenX x) (fun y hy => ih y (List.mem_cons_of_mem _ hy)) b hf.2 ⟨rfl, rfl⟩ hc.2 (o - clenX x) (by omega)).shift (p := p) (o := clenX x) (k := 0) (D := depS k (x :: r)) (len := clenL (x :: r)) rfl (fun i hi => ?_) (by omega) (by omega)
      · rw [show clenX x + (o - clenX x) = o by omega] at this; exact this
      · conv => lhs; unfold depS
        rw [if_neg (by omega), show clenX x + i - clenX x = i by omega]; omega
theorem eff_13 (a b : Int) : effT 13 a b = (1, 0, 0) := by simp [effT]
theorem eff_14 (a b : Int) : effT 14 a b = (0, 0, 0) := by simp [effT]
theorem eff_4 (a b : Int) : effT 4 a b = (1, 0, 0) := by simp [effT]
theorem stepB {caps : Int} {clo : Int → Int → Bool} {C : List Ins} {T : ByteArray → Int} : ∀ (l : List ExpD) (loc : Int) (tab q e : Nat), (∀ y ∈ l, ∀ loc p, flatX caps clo loc y = true → CodeX C T loc y p → ∀ o, o < clenX y → StepD C p (dep y) (clenX y) o) →
    flatL caps clo loc loc l = true → CodeB C T loc l tab q e → e = q + (clenL l + l.length - 1) →
    (∀ o, o < clenL l + l.length - 1 → StepD C q (depB l) (clenL l + l.length - 1) o) ∧ ∀ j, j < l.length → ∃ o, o < clenL l + l.length - 1 ∧ C[tab + j]? = some ⟨14, (q + o : Nat), 0⟩ ∧ depB l o = 0
  | [], _, _, _, _, _, _, _, _ => ⟨fun o ho => by simp [clenL] at ho, fun j hj => by simp at hj⟩
  | y :: r, loc, tab, q, e, ih, hf, hc, he => by
    unfold flatL at hf
    rw [Bool.and_eq_true] at hf
    unfold CodeB at hc
    obtain ⟨c0, c1, c2, c3⟩ := hc
    have e0 : clenL (y :: r) = clenX y + clenL r := clenL_cons _ _
    have el : (y :: r).length = r.length + 1 := rfl
    have hp := flat_pos hf.1
    have hend := dep_end y _ hf.1
    have hfirst : ∀ i, i ≤ clenX y → depB (y :: r) (0 + i) = 0 + dep y i := fun i hi => by
      rw [Nat.zero_add, Nat.zero_add]
      unfold depB
      by_cases hi' : i < clenX y
      · rw [if_pos hi']
      · obtain rfl : i = clenX y := by omega
        rw [if_neg (Nat.lt_irrefl _), if_pos rfl, hend]
    have hl1 : clenX y ≤ clenL (y :: r) + (y :: r).length - 1 := by rw [e0, el]; omega
    have hrest : r ≠ [] → (∀ o, o < clenL r + r.length - 1 → StepD C (q + clenX y + 1) (depB r) (clenL r + r.length - 1) o) ∧ ∀ j, j < r.length → ∃ o, o < clenL r + r.length - 1 ∧ C[tab + 1 + j]? = some ⟨14, (q + clenX y + 1 + o : Nat), 0⟩ ∧ depB r o = 0 := fun hr =>
      stepB r loc (tab + 1) (q + clenX y + 1) e (fun z hz => ih z (List.mem_cons_of_mem _ hz)) hf.2 c3 (by
        have : 0 < r.length := List.length_pos_iff.2 hr
        rw [he, e0, el]; omega)
    refine ⟨fun o ho => ?_, fun j hj => ?_⟩
    · by_cases h1 : o < clenX y
      · have := (ih y (List.mem_cons_self ..) _ q hf.1 c1 o h1).shift (p := q) (o := 0) (k := 0) (D := depB (y :: r)) (len := clenL (y :: r) + (y :: r).length - 1) rfl hfirst (Nat.le_of_lt h1) (by omega)
        rw [Nat.zero_add] at this; exact this
      · have hr : r ≠ [] := by
          intro hr; subst hr
          rw [e0, el] at ho
          simp [clenL] at ho
          omega
        have hrl : 0 < r.length := List.length_pos_iff.2 hr
        by_cases h2 : o = clenX y
        · subst h2
          unfold StepD StepI
          rw [getD_of (c2 hr)]
          refine ⟨rfl, fun h => absurd (show (14 : Int) = 13 from h) (by decide), by rw [eff_14], by rw [eff_14]; exact Int.natCast_nonneg _, fun t ht => ?_⟩
          have ht' : t = (e : Int) := by simpa [tgL] using ht
          refine ⟨clenL (y :: r) + (y :: r).length - 1, Nat.le_refl _, by rw [ht', he], ?_⟩
          rw [eff_14, depB_end loc (y :: r) (by unfold flatL; rw [Bool.and_eq_true]; exact hf) (by simp)]
          have := hfirst (clenX y) (Nat.le_refl _)
          rw [Nat.zero_add, Nat.zero_add, hend] at this
          rw [this]
        · have hstep := ((hrest hr).1 (o - clenX y - 1) (by rw [e0, el] at ho; omega)).shift (p := q) (o := clenX y + 1) (k := 0) (D := depB (y :: r)) (len := clenL (y :: r) + (y :: r).length - 1) (by omega) (fun i hi => ?_) (by rw [e0, el] at ho; omega) (by rw [e0, el]; omega)
          · rw [show clenX y + 1 + (o - clenX y - 1) = o by omega] at hstep; exact hstep
          · conv => lhs; unfold depB
            rw [if_neg (by omega), if_neg (by omega), show clenX y + 1 + i - clenX y - 1 = i by omega]; omega
    · cases j with
      | zero =>
        refine ⟨0, by omega, by simpa using c0, ?_⟩
        have := hfirst 0 (Nat.zero_le _)
        rw [Nat.zero_add, Nat.zero_add] at this
        rw [this]; exact dep_0 y _ hf.1
      | succ j =>
        have hr : r ≠ [] := by intro hr; subst hr; simp at hj
        have hrl : 0 < r.length := List.length_pos_iff.2 hr
        obtain ⟨o, ho1, ho2, ho3⟩ := (hrest hr).2 j (by simpa using hj)
        refine ⟨clenX y + 1 + o, by rw [e0, el]; omega, ?_, ?_⟩
        · rw [show tab + (j + 1) = tab + 1 + j by omega, ho2]
          rw [show q + (clenX y + 1 + o) = q + clenX y + 1 + o by omega]
        · unfold depB
          rw [if_neg (by omega), if_neg (by omega), show clenX y + 1 + o - clenX y - 1 = o by omega]
          exact ho3
theorem step_one {C : List Ins} {p len o : Nat} {D : Nat → Nat} {i : Ins} (h : C[p + o]? = some i) (hk : knownB i.op = true) (h13 : i.op ≠ 13) (h14 : i.op ≠ 14) (h9 : i.op ≠ 9) (he : (effT i.op i.a i.b).2.2 = 0) (hp : (effT i.op i.a i.b).1 ≤ D o)
    (hn : i.op = 16 ∨ (o + 1 ≤ len ∧ (D (o + 1) : Int) + (effT i.op i.a i.b).1 = D o + (effT i.op i.a i.b).2.1)) : StepD C p D len o := by
  unfold StepD StepI
  rw [getD_of h]
  refine ⟨hk, fun e => absurd e h13, he, hp, fun t ht => ?_⟩
  unfold tgL at ht
  by_cases h16 : i.op = 16
  · rw [if_pos (.inr h16)] at ht; cases ht
  · rw [if_neg (by rintro (h | h); exact h9 h; exact h16 h), if_neg h14, if_neg h13] at ht
    rcases hn with hn | ⟨hn, hd⟩
    · exact absurd hn h16
    · simp at ht
      exact ⟨o + 1, hn, by rw [ht]; push_cast; omega, hd⟩
theorem stepX {caps : Int} {clo : Int → Int → Bool} {C : List Ins} {T : ByteArray → Int} (x : ExpD) : ∀ (loc : Int) (p : Nat), flatX caps clo loc x = true → CodeX C T loc x p → ∀ o, o < clenX x → StepD C p (dep x) (clenX x) o := by
  induction x using ExpD.induct with
  | h op n s lv l ih =>
    intro loc p hf hc o ho
    have hf0 := hf
    unfold flatX at hf
    rw [Bool.and_eq_true] at hf
    obtain ⟨h1, h2⟩ := hf
    unfold CodeX at hc
    by_cases e1 : op = 11
    · subst e1
      rw [if_pos rfl] at hc
      have hl := form_let h1
      obtain ⟨x, y, rfl⟩ := len_two hl
      unfold flatL at h2
      rw [Bool.and_eq_true] at h2
      have hy : flatL caps clo (loc + bump 11) (loc + bump 11) [y] = true := h2.2
      have hb : loc + bump 11 = loc + 1 := by rw [bump_1 (.inr rfl)]
      rw [hb] at hy
      unfold CodeLet at hc
      obtain ⟨c0, c1, c2⟩ := hc
      have e0 : clenL [x, y] = clenX x + clenL [y] := clenL_cons _ _
      have ex : clenX (.mk 11 n s lv [x, y]) = clenX x + clenL [y] + 1 := by rw [clenX_mk, if_neg (by decide), e0]
      have ed : ∀ i, dep (.mk 11 n s lv [x, y]) i = depLet [x, y] i := fun i => by unfold dep; rw [if_pos rfl]
      rw [ex] at ho ⊢
      by_cases g1 : o < clenX x
      · have := (ih x (by simp) _ p h2.1 c0 o g1).shift (p := p) (o := 0) (k := 0) (D := dep (.mk 11 n s lv [x, y])) (len := clenX x + clenL [y] + 1) rfl (fun i hi => ?_) (Nat.le_of_lt g1) (by omega)
        · rw [Nat.zero_add] at this; exact this
        · rw [Nat.zero_add, Nat.zero_add, ed]
          unfold depLet
          by_cases hi' : i < clenX x
          · rw [if_pos hi']
          · obtain rfl : i = clenX x := by omega
            rw [if_neg (Nat.lt_irrefl _), if_pos rfl, dep_end x _ h2.1]
      · by_cases g2 : o = clenX x
        · subst g2
          refine step_one c1 rfl (show (4 : Int) ≠ 13 by decide) (show (4 : Int) ≠ 14 by decide) (show (4 : Int) ≠ 9 by decide) (by rw [eff_4]) ?_ (.inr ⟨by omega, ?_⟩)
          · rw [eff_4, ed]; unfold depLet; rw [if_neg (Nat.lt_irrefl _), if_pos rfl]; decide
          · rw [eff_4, ed, ed]; unfold depLet
            rw [if_neg (Nat.lt_irrefl _), if_pos rfl, if_neg (by omega), if_neg (by omega), show clenX x + 1 - clenX x - 1 = 0 by omega, depS_0 0 (loc + 1) (loc + 1) [y] (fun z _ lo hz => dep_0 z lo hz) hy]; rfl
        · have := (stepS [y] (loc + 1) (loc + 1) 0 (p + clenX x + 1) (fun z hz => ih z (by simp at hz; simp [hz])) (loc + 1) hy ⟨rfl, rfl⟩ c2 (o - clenX x - 1) (by omega)).shift (p := p) (o := clenX x + 1) (k := 0) (D := dep (.mk 11 n s lv [x, y])) (len := clenX x + clenL [y] + 1) (by omega) (fun i hi => ?_) (by omega) (by omega)
          · rw [show clenX x + 1 + (o - clenX x - 1) = o by omega] at this; exact this
          · rw [ed]; conv => lhs; unfold depLet
            rw [if_neg (by omega), if_neg (by omega), show clenX x + 1 + i - clenX x - 1 = i by omega]; omega
    · rw [if_neg e1] at hc
      by_cases e2 : op = 9
      · subst e2
        rw [if_pos rfl] at hc
        have hl := form_sw h1
        obtain ⟨x, r, rfl⟩ := len_one (by omega : 1 ≤ l.length)
        unfold flatL at h2
        rw [Bool.and_eq_true] at h2
        have hb : loc + bump 9 = loc + 1 := by rw [bump_1 (.inl rfl)]
        have hr := h2.2
        rw [hb] at hr
        unfold CodeSw at hc
        obtain ⟨c0, c1, c2⟩ := hc
        have hrl : 1 ≤ r.length ∧ r.length ≤ 1000 := by simp only [List.length_cons] at hl; omega
        have e0 : clenL (x :: r) = clenX x + clenL r := clenL_cons _ _
        have ex : clenX (.mk 9 n s lv (x :: r)) = clenX x + clenL r + 2 * r.length := by rw [clenX_mk, if_pos rfl, e0]; simp
        have ed : ∀ i, dep (.mk 9 n s lv (x :: r)) i = depSw (x :: r) i := fun i => by unfold dep; rw [if_neg (by decide), if_pos rfl]
        rw [ex] at ho ⊢
        obtain ⟨sB, sT⟩ := stepB r (loc + 1) (p + clenX x + 1) (p + clenX x + 1 + r.length) _ (fun z hz => ih z (List.mem_cons_of_mem _ hz)) hr c2 (by omega)
        by_cases g1 : o < clenX x
        · have := (ih x (by simp) _ p h2.1 c0 o g1).shift (p := p) (o := 0) (k := 0) (D := dep (.mk 9 n s lv (x :: r))) (len := clenX x + clenL r + 2 * r.length) rfl (fun i hi => ?_) (Nat.le_of_lt g1) (by omega)
          · rw [Nat.zero_add] at this; exact this
          · rw [Nat.zero_add, Nat.zero_add, ed]
            unfold depSw
            by_cases hi' : i < clenX x
            · rw [if_pos hi']
            · obtain rfl : i = clenX x := by omega
              rw [if_neg (Nat.lt_irrefl _), if_pos rfl, dep_end x _ h2.1]
        · by_cases g2 : o = clenX x
          · subst g2
            unfold StepD StepI
            rw [getD_of c1]
            refine ⟨rfl, fun _ => by simp [inB]; omega, by rw [eff_13], ?_, fun t ht => ?_⟩
            · rw [eff_13, ed]; unfold depSw; rw [if_neg (Nat.lt_irrefl _), if_pos rfl]; decide
            · have ht' : ∃ j, j < r.length ∧ ((p + clenX x : Nat) : Int) + 1 + j = t := by simpa [tgL] using ht
              obtain ⟨j, hj, rfl⟩ := ht'
              refine ⟨clenX x + 1 + j, by omega, by push_cast; omega, ?_⟩
              rw [eff_13, ed, ed]; unfold depSw
              rw [if_neg (Nat.lt_irrefl _), if_pos rfl, if_neg (by omega), if_neg (by omega), if_pos (by omega)]; rfl
          · by_cases g3 : o < clenX x + 1 + r.length
            · obtain ⟨j, hj⟩ : ∃ j, j = o - clenX x - 1 := ⟨_, rfl⟩
              obtain ⟨o2, a1, a2, a3⟩ := sT j (by omega)
              unfold StepD StepI
              rw [show p + o = p + clenX x + 1 + j by omega, getD_of a2]
              refine ⟨rfl, fun h => absurd (show (14 : Int) = 13 from h) (by decide), by rw [eff_14], by rw [eff_14]; exact Int.natCast_nonneg _, fun t ht => ?_⟩
              have ht' : t = ((p + clenX x + 1 + r.length + o2 : Nat) : Int) := by simpa [tgL] using ht
              refine ⟨clenX x + 1 + r.length + o2, by omega, by rw [ht']; push_cast; omega, ?_⟩
              rw [eff_14, ed, ed]; unfold depSw
              rw [if_neg (by omega), if_neg (by omega), if_neg (by omega), show clenX x + 1 + r.length + o2 - clenX x - 1 - r.length = o2 by omega, a3, if_neg (by omega), if_neg (by omega), if_pos (by omega)]
            · have := (sB (o - clenX x - 1 - r.length) (by omega)).shift (p := p) (o := clenX x + 1 + r.length) (k := 0) (D := dep (.mk 9 n s lv (x :: r))) (len := clenX x + clenL r + 2 * r.length) (by omega) (fun i hi => ?_) (by omega) (by omega)
              · rw [show clenX x + 1 + r.length + (o - clenX x - 1 - r.length) = o by omega] at this; exact this
              · rw [ed]; conv => lhs; unfold depSw
                rw [if_neg (by omega), if_neg (by omega), if_neg (by omega), show clenX x + 1 + r.length + i - clenX x - 1 - r.length = i by omega]; omega
      · rw [if_neg e2] at hc
        have ex : clenX (.mk op n s lv l) = clenL l + 1 := by rw [clenX_mk, if_neg e2]
        have ed : ∀ i, dep (.mk op n s lv l) i = depS 0 l i := fun i => by unfold dep; rw [if_neg e1, if_neg e2]
        have hb : loc + bump op = loc := by rw [bump_0 e2 e1]; omega
        rw [hb] at h2
        rw [ex] at ho ⊢
        by_cases g1 : o < clenL l
        · have := (stepS l loc loc 0 p ih loc h2 ⟨rfl, rfl⟩ hc.1 o g1).shift (p := p) (o := 0) (k := 0) (D := dep (.mk op n s lv l)) (len := clenL l + 1) rfl (fun i hi => by rw [Nat.zero_add, Nat.zero_add, ed]) (Nat.le_of_lt g1) (by omega)
          rw [Nat.zero_add] at this; exact this
        · obtain rfl : o = clenL l := by omega
          obtain ⟨k1, k2, k3, k4, k5, k6, k7⟩ := last_eff h1 e2 e1 _ rfl
          obtain ⟨d1, d2⟩ := depS_end 0 loc loc l h2
          refine step_one hc.2 k1 k2 k3 k4 k5 ?_ ?_
          · rw [k6, ed, d1]; simp
          · rcases k7 with k7 | k7
            · exact .inl k7
            · exact .inr ⟨Nat.le_refl _, by rw [k6, k7, ed, ed, d1, d2]; push_cast; omega⟩

theorem sizeL_cons (x : ExpD) (r : List ExpD) : sizeL (x :: r) = sizeX x + sizeL r := by rw [sizeL]
theorem sizeL_nil : sizeL [] = 0 := by rw [sizeL]
theorem sizeX_mk (op n : Int) (s : ByteArray) (v : Value) (l : List ExpD) : sizeX (.mk op n s v l) = sizeL l + 1 := by rw [sizeX]
theorem sizeX_pos (x : ExpD) : 1 ≤ sizeX x := by cases x; rw [sizeX_mk]; omega
theorem depS_le : ∀ (l : List ExpD) (k o : Nat), (∀ y ∈ l, ∀ o, dep y o ≤ sizeX y) → depS k l o ≤ k + sizeL l + 1
  | [], k, o, _ => by unfold depS; split <;> omega
  | x :: r, k, o, h => by
    unfold depS
    rw [sizeL_cons]
    have := h x (List.mem_cons_self ..) o
    have hx := sizeX_pos x
    split
    · omega
    · have := depS_le r (k + 1) (o - clenX x) (fun y hy => h y (List.mem_cons_of_mem _ hy))
      omega
theorem depB_le : ∀ (l : List ExpD) (o : Nat), (∀ y ∈ l, ∀ o, dep y o ≤ sizeX y) → depB l o ≤ sizeL l + 1
  | [], o, _ => by unfold depB; omega
  | x :: r, o, h => by
    unfold depB
    rw [sizeL_cons]
    have := h x (List.mem_cons_self ..) o
    have hx := sizeX_pos x
    split
    · omega
    · split
      · omega
      · have := depB_le r (o - clenX x - 1) (fun y hy => h y (List.mem_cons_of_mem _ hy))
        omega
theorem dep_le (x : ExpD) : ∀ o, dep x o ≤ sizeX x := by
  induction x using ExpD.induct with
  | h op n s lv l ih =>
    intro o
    rw [sizeX_mk]
    unfold dep
    split
    · cases l with
      | nil => unfold depLet; omega
      | cons x r =>
        unfold depLet
        rw [sizeL_cons]
        have := ih x (List.mem_cons_self ..) o
        have hx := sizeX_pos x
        split
        · omega
        · split
          · omega
          · have := depS_le r 0 (o - clenX x - 1) (fun y hy => ih y (List.mem_cons_of_mem _ hy))
            omega
    · split
      · cases l with
        | nil => unfold depSw; omega
        | cons x r =>
          unfold depSw
          rw [sizeL_cons]
          have := ih x (List.mem_cons_self ..) o
          have hx := sizeX_pos x
          split
          · omega
          · split
            · omega
            · split
              · omega
              · have := depB_le r (o - clenX x - 1 - r.length) (fun y hy => ih y (List.mem_cons_of_mem _ hy))
                omega
      · have := depS_le l 0 o ih
        omega
/-- The whole code of a function: that of its body, and a return. -/
def Whole (C : List Ins) (T : ByteArray → Int) (x : ExpD) : Prop := CodeX C T 1 x 0 ∧ C.length = clenX x + 1 ∧ C[clenX x]? = some ⟨9, 0, 0⟩
theorem tgT_of (C : List Ins) (p : Nat) (hp : p < C.length) (hk : knownB (C.getD p default).op = true) (h13 : (C.getD p default).op = 13 → inB (C.getD p default).b 1 1000 = true)
    (ht : ∀ t ∈ tgL (C.getD p default) p, 0 ≤ t ∧ t < C.length) : tgT C p = (tgL (C.getD p default) p, 0) := by
  unfold tgT
  rw [if_neg (by omega)]
  simp only [Int.toNat_natCast]
  rw [if_neg (by rw [hk]; decide), if_neg (by rintro ⟨a, b⟩; rw [h13 a] at b; cases b), if_neg]
  rw [List.any_eq_true]
  rintro ⟨t, h1, h2⟩
  have := ht t h1
  unfold outB inB at h2
  simp at h2
  omega
theorem code_step {caps : Int} {clo : Int → Int → Bool} {C : List Ins} {T : ByteArray → Int} {x : ExpD} (hf : flatX caps clo 1 x = true) (h : Whole C T x) (p : Nat) (hp : p ≤ clenX x) :
    OkAt C p (dep x p) ∧ ∀ t ∈ tgs C p, t.toNat ≤ clenX x ∧ aft C p (dep x p) = dep x t.toNat := by
  obtain ⟨hc, hl, hr⟩ := h
  by_cases h1 : p < clenX x
  · have hs := stepX x 1 0 hf hc p h1
    unfold StepD StepI at hs
    rw [Nat.zero_add] at hs
    obtain ⟨k0, k1, k2, k3, k4⟩ := hs
    have e := tgT_of C p (by omega) k0 k1 (fun t ht => by obtain ⟨o', a, b, _⟩ := k4 t ht; omega)
    refine ⟨⟨k2, by unfold tgE; rw [e], k3⟩, fun t ht => ?_⟩
    unfold tgs at ht
    rw [e] at ht
    obtain ⟨o', a, b, c⟩ := k4 t ht
    have hto : t.toNat = o' := by omega
    rw [hto]
    refine ⟨a, ?_⟩
    unfold aft pops pushes
    omega
  · obtain rfl : p = clenX x := by omega
    have hg := getD_of hr
    have e := tgT_of C (clenX x) (by omega) (by rw [hg]; rfl) (fun h => by rw [hg] at h; exact absurd (show (9 : Int) = 13 from h) (by decide)) (fun t ht => by rw [hg] at ht; simp [tgL] at ht)
    have e2 : tgL (C.getD (clenX x) default) (clenX x) = [] := by rw [hg]; simp [tgL]
    rw [e2] at e
    refine ⟨⟨?_, by unfold tgE; rw [e], ?_⟩, fun t ht => ?_⟩
    · unfold effE; rw [hg]; rfl
    · unfold pops; rw [hg, dep_end x _ hf]; decide
    · unfold tgs at ht; rw [e] at ht; cases ht
theorem code_reach {caps : Int} {clo : Int → Int → Bool} {C : List Ins} {T : ByteArray → Int} {x : ExpD} (hf : flatX caps clo 1 x = true) (h : Whole C T x) {p : Nat} {d : Int} (hr : Reach C p d) : p ≤ clenX x ∧ d = dep x p := by
  induction hr with
  | start => exact ⟨Nat.zero_le _, by rw [dep_0 x _ hf]; rfl⟩
  | step _ _ ht ih =>
    obtain ⟨i1, i2⟩ := ih
    have := (code_step hf h _ i1).2 _ ht
    exact ⟨this.1, by rw [i2]; exact this.2⟩
/-- The depth of such code is one, and at most the number of nodes and one. -/
theorem code_depth {caps : Int} {clo : Int → Int → Bool} {C : List Ins} {T : ByteArray → Int} {x : ExpD} (hf : flatX caps clo 1 x = true) (h : Whole C T x) {r e : Int} (hd : DepOk C r e) : e = 0 ∧ 0 ≤ r ∧ r ≤ (sizeX x : Int) + 1 := by
  unfold DepOk at hd
  have hl := h.2.1
  rw [if_neg (by omega)] at hd
  rcases hd with ⟨_, _, hb⟩ | ⟨rfl, _, m0, _, m2⟩
  · exfalso
    rcases hb with ⟨a, d, hr, hno⟩ | ⟨a, d, d', hr, hr', hne⟩
    · obtain ⟨i1, i2⟩ := code_reach hf h hr
      exact hno (i2 ▸ (code_step hf h _ i1).1)
    · exact hne ((code_reach hf h hr).2.trans (code_reach hf h hr').2.symm)
  · refine ⟨rfl, m0, ?_⟩
    rcases m2 with rfl | ⟨a, d, hr, hm⟩
    · omega
    · obtain ⟨i1, i2⟩ := code_reach hf h hr
      have := dep_le x a
      have hb := pops_bounds C a
      unfold aft at hm
      omega
theorem clen_le (x : ExpD) : clenX x + 2 ≤ 3 * sizeX x := by
  induction x using ExpD.induct with
  | h op n s lv l ih =>
    have hL : ∀ l : List ExpD, (∀ y ∈ l, clenX y + 2 ≤ 3 * sizeX y) → clenL l + 2 * l.length ≤ 3 * sizeL l := fun l => by
      induction l with
      | nil => intro _; rw [clenL_nil, sizeL_nil]; simp
      | cons x r ih2 =>
        intro h
        have := ih2 fun y hy => h y (List.mem_cons_of_mem _ hy)
        have h1 := h x (List.mem_cons_self ..)
        rw [clenL_cons, sizeL_cons, List.length_cons]; omega
    rw [clenX_mk, sizeX_mk]
    have := hL l ih
    split <;> omega
end Go.Proofs.YtidolpcbbbakmaaGreat
