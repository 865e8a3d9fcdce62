/- The depth of a function's code (plain law). -/
import Derived.Test.YtidolpcbbbakmaaCq2
namespace Go.Proofs.Ytidolpcbbbakmaa
open Go Go.RowKit

theorem sizeL_cons (x : ExpD) (r : List ExpD) : sizeL (x :: r) = sizeX x + sizeL r := by rw [sizeL]
theorem sizeL_nil : sizeL [] = 0 := by rw [sizeL]
theorem sizeX_mk (op n : Int) (s : ByteArray) (v : Value) (l : List ExpD) : sizeX (.mk op n s v l) = sizeL l + 1 := by rw [sizeX]
theorem sizeX_pos (x : ExpD) : 1 ≤ sizeX x := by cases x; rw [sizeX_mk]; omega
theorem depS_le : ∀ (l : List ExpD) (k o : Nat), (∀ y ∈ l, ∀ o, dep y o ≤ sizeX y) → depS k l o ≤ k + sizeL l + 1
  | [], k, o, _ => by unfold depS; split <;> omega
  | x :: r, k, o, h => by
    unfold depS
    rw [sizeL_cons]
    have := h x (List.mem_cons_self ..) o
    have hx := sizeX_pos x
    split
    · omega
    · have := depS_le r (k + 1) (o - clenX x) (fun y hy => h y (List.mem_cons_of_mem _ hy))
      omega
theorem depB_le : ∀ (l : List ExpD) (o : Nat), (∀ y ∈ l, ∀ o, dep y o ≤ sizeX y) → depB l o ≤ sizeL l + 1
  | [], o, _ => by unfold depB; omega
  | x :: r, o, h => by
    unfold depB
    rw [sizeL_cons]
    have := h x (List.mem_cons_self ..) o
    have hx := sizeX_pos x
    split
    · omega
    · split
      · omega
      · have := depB_le r (o - clenX x - 1) (fun y hy => h y (List.mem_cons_of_mem _ hy))
        omega
theorem dep_le (x : ExpD) : ∀ o, dep x o ≤ sizeX x := by
  induction x using ExpD.induct with
  | h op n s lv l ih =>
    intro o
    rw [sizeX_mk]
    unfold dep
    split
    · cases l with
      | nil => unfold depLet; omega
      | cons x r =>
        unfold depLet
        rw [sizeL_cons]
        have := ih x (List.mem_cons_self ..) o
        have hx := sizeX_pos x
        split
        · omega
        · split
          · omega
          · have := depS_le r 0 (o - clenX x - 1) (fun y hy => ih y (List.mem_cons_of_mem _ hy))
            omega
    · split
      · cases l with
        | nil => unfold depSw; omega
        | cons x r =>
          unfold depSw
          rw [sizeL_cons]
          have := ih x (List.mem_cons_self ..) o
          have hx := sizeX_pos x
          split
          · omega
          · split
            · omega
            · split
              · omega
              · have := depB_le r (o - clenX x - 1 - r.length) (fun y hy => ih y (List.mem_cons_of_mem _ hy))
                omega
      · have := depS_le l 0 o ih
        omega
/-- The whole code of a function: that of its body, and a return. -/
def Whole (C : List Ins) (T : ByteArray → Int) (x : ExpD) : Prop := CodeX C T 1 x 0 ∧ C.length = clenX x + 1 ∧ C[clenX x]? = some ⟨9, 0, 0⟩
theorem tgT_of (C : List Ins) (p : Nat) (hp : p < C.length) (hk : knownB (C.getD p default).op = true) (h13 : (C.getD p default).op = 13 → inB (C.getD p default).b 1 1000 = true)
    (ht : ∀ t ∈ tgL (C.getD p default) p, 0 ≤ t ∧ t < C.length) : tgT C p = (tgL (C.getD p default) p, 0) := by
  unfold tgT
  rw [if_neg (by omega)]
  simp only [Int.toNat_natCast]
  rw [if_neg (by rw [hk]; decide), if_neg (by rintro ⟨a, b⟩; rw [h13 a] at b; cases b), if_neg]
  rw [List.any_eq_true]
  rintro ⟨t, h1, h2⟩
  have := ht t h1
  unfold outB inB at h2
  simp at h2
  omega
theorem code_step {caps : Int} {clo : Int → Int → Bool} {C : List Ins} {T : ByteArray → Int} {x : ExpD} (hf : flatX caps clo 1 x = true) (h : Whole C T x) (p : Nat) (hp : p ≤ clenX x) :
    OkAt C p (dep x p) ∧ ∀ t ∈ tgs C p, t.toNat ≤ clenX x ∧ aft C p (dep x p) = dep x t.toNat := by
  obtain ⟨hc, hl, hr⟩ := h
  by_cases h1 : p < clenX x
  · have hs := stepX x 1 0 hf hc p h1
    unfold StepD StepI at hs
    rw [Nat.zero_add] at hs
    obtain ⟨k0, k1, k2, k3, k4⟩ := hs
    have e := tgT_of C p (by omega) k0 k1 (fun t ht => by obtain ⟨o', a, b, _⟩ := k4 t ht; omega)
    refine ⟨⟨k2, by unfold tgE; rw [e], k3⟩, fun t ht => ?_⟩
    unfold tgs at ht
    rw [e] at ht
    obtain ⟨o', a, b, c⟩ := k4 t ht
    have hto : t.toNat = o' := by omega
    rw [hto]
    refine ⟨a, ?_⟩
    unfold aft pops pushes
    omega
  · obtain rfl : p = clenX x := by omega
    have hg := getD_of hr
    have e := tgT_of C (clenX x) (by omega) (by rw [hg]; rfl) (fun h => by rw [hg] at h; exact absurd (show (9 : Int) = 13 from h) (by decide)) (fun t ht => by rw [hg] at ht; simp [tgL] at ht)
    have e2 : tgL (C.getD (clenX x) default) (clenX x) = [] := by rw [hg]; simp [tgL]
    rw [e2] at e
    refine ⟨⟨?_, by unfold tgE; rw [e], ?_⟩, fun t ht => ?_⟩
    · unfold effE; rw [hg]; rfl
    · unfold pops; rw [hg, dep_end x _ hf]; decide
    · unfold tgs at ht; rw [e] at ht; cases ht
theorem code_reach {caps : Int} {clo : Int → Int → Bool} {C : List Ins} {T : ByteArray → Int} {x : ExpD} (hf : flatX caps clo 1 x = true) (h : Whole C T x) {p : Nat} {d : Int} (hr : Reach C p d) : p ≤ clenX x ∧ d = dep x p := by
  induction hr with
  | start => exact ⟨Nat.zero_le _, by rw [dep_0 x _ hf]; rfl⟩
  | step _ _ ht ih =>
    obtain ⟨i1, i2⟩ := ih
    have := (code_step hf h _ i1).2 _ ht
    exact ⟨this.1, by rw [i2]; exact this.2⟩
/-- The depth of such code is one, and at most the number of nodes and one. -/
theorem code_depth {caps : Int} {clo : Int → Int → Bool} {C : List Ins} {T : ByteArray → Int} {x : ExpD} (hf : flatX caps clo 1 x = true) (h : Whole C T x) {r e : Int} (hd : DepOk C r e) : e = 0 ∧ 0 ≤ r ∧ r ≤ (sizeX x : Int) + 1 := by
  unfold DepOk at hd
  have hl := h.2.1
  rw [if_neg (by omega)] at hd
  rcases hd with ⟨_, _, hb⟩ | ⟨rfl, _, m0, _, m2⟩
  · exfalso
    rcases hb with ⟨a, d, hr, hno⟩ | ⟨a, d, d', hr, hr', hne⟩
    · obtain ⟨i1, i2⟩ := code_reach hf h hr
      exact hno (i2 ▸ (code_step hf h _ i1).1)
    · exact hne ((code_reach hf h hr).2.trans (code_reach hf h hr').2.symm)
  · refine ⟨rfl, m0, ?_⟩
    rcases m2 with rfl | ⟨a, d, hr, hm⟩
    · omega
    · obtain ⟨i1, i2⟩ := code_reach hf h hr
      have := dep_le x a
      have hb := pops_bounds C a
      unfold aft at hm
      omega
theorem clen_le (x : ExpD) : clenX x + 2 ≤ 3 * sizeX x := by
  induction x using ExpD.induct with
  | h op n s lv l ih =>
    have hL : ∀ l : List ExpD, (∀ y ∈ l, clenX y + 2 ≤ 3 * sizeX y) → clenL l + 2 * l.length ≤ 3 * sizeL l := fun l => by
      induction l with
      | nil => intro _; rw [clenL_nil, sizeL_nil]; simp
      | cons x r ih2 =>
        intro h
        have := ih2 fun y hy => h y (List.mem_cons_of_mem _ hy)
        have h1 := h x (List.mem_cons_self ..)
        rw [clenL_cons, sizeL_cons, List.length_cons]; omega
    rw [clenX_mk, sizeX_mk]
    have := hL l ih
    split <;> omega
end Go.Proofs.Ytidolpcbbbakmaa
