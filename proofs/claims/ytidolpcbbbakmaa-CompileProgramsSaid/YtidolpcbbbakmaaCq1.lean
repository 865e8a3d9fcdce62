/- Flat expressions as plain data; the code of an expression; the depth at each of its places (plain law). -/
import Derived.Test.YtidolpcbbbakmaaDp1
namespace Go.Proofs.Ytidolpcbbbakmaa
open Go Go.RowKit

/-- An expression: its operation, number, text, the slice of its parts as a value, its parts. -/
inductive ExpD where
  | mk : Int → Int → ByteArray → Value → List ExpD → ExpD
def ExpD.op : ExpD → Int | .mk o _ _ _ _ => o
def ExpD.n : ExpD → Int | .mk _ n _ _ _ => n
def ExpD.s : ExpD → ByteArray | .mk _ _ s _ _ => s
def ExpD.lv : ExpD → Value | .mk _ _ _ v _ => v
def ExpD.l : ExpD → List ExpD | .mk _ _ _ _ l => l
instance : Inhabited ExpD := ⟨.mk 0 0 ⟨#[]⟩ (.slice none 0 0) []⟩
theorem ExpD.induct {P : ExpD → Prop} (h : ∀ op n s lv l, (∀ y ∈ l, P y) → P (.mk op n s lv l)) (x : ExpD) : P x :=
  ExpD.rec (motive_1 := P) (motive_2 := fun l => ∀ y ∈ l, P y) (fun op n s lv l ih => h op n s lv l ih) (fun _ h => by cases h)
    (fun a l ha hl y hy => by rcases List.mem_cons.1 hy with rfl | hy; exact ha; exact hl y hy) x
mutual
def sizeX : ExpD → Nat
  | .mk _ _ _ _ l => sizeL l + 1
def sizeL : List ExpD → Nat
  | [] => 0
  | x :: r => sizeX x + sizeL r
end
mutual
def clenX : ExpD → Nat
  | .mk op _ _ _ l => if op = 9 then clenL l + 2 * (l.length - 1) else clenL l + 1
def clenL : List ExpD → Nat
  | [] => 0
  | x :: r => clenX x + clenL r
end
theorem clenL_cons (x : ExpD) (r : List ExpD) : clenL (x :: r) = clenX x + clenL r := by rw [clenL]
theorem clenL_nil : clenL [] = 0 := by rw [clenL]
theorem clenX_mk (op n : Int) (s : ByteArray) (v : Value) (l : List ExpD) : clenX (.mk op n s v l) = if op = 9 then clenL l + 2 * (l.length - 1) else clenL l + 1 := by rw [clenX]
def bump (op : Int) : Int := if op = 9 ∨ op = 11 then 1 else 0
/-- The instruction of a node, after its parts. -/
def lastI (T : ByteArray → Int) (op n : Int) (s : ByteArray) (k : Nat) : Ins :=
  if op = 2 then ⟨1, n, 0⟩ else if op = 3 then ⟨2, T s, 0⟩ else if op = 13 then ⟨16, n, 0⟩ else if op = 21 then ⟨3, n, 0⟩ else if op = 22 then ⟨6, 0, 0⟩ else if op = 23 then ⟨5, n, 0⟩
  else if op = 24 then ⟨7, n, k⟩ else if op = 25 then ⟨8, 0, 0⟩ else if op = 6 then ⟨10, k, 0⟩ else if op = 7 then ⟨11, n, 0⟩ else if op = 8 then ⟨12, n, 0⟩ else ⟨15, n, 0⟩
section
variable (C : List Ins) (T : ByteArray → Int)
mutual
/-- From this place on lies the code of an expression, with so many local variables around it. -/
def CodeX : Int → ExpD → Nat → Prop
  | loc, .mk op n s _ l, p =>
    if op = 11 then CodeLet loc l p else if op = 9 then CodeSw loc l p else CodeS loc l p ∧ C[p + clenL l]? = some (lastI T op n s l.length)
def CodeS : Int → List ExpD → Nat → Prop
  | _, [], _ => True
  | loc, x :: r, p => CodeX loc x p ∧ CodeS loc r (p + clenX x)
def CodeLet : Int → List ExpD → Nat → Prop
  | _, [], _ => False
  | loc, x :: r, p => CodeX loc x p ∧ C[p + clenX x]? = some ⟨4, loc, 0⟩ ∧ CodeS (loc + 1) r (p + clenX x + 1)
def CodeSw : Int → List ExpD → Nat → Prop
  | _, [], _ => False
  | loc, x :: r, p => CodeX loc x p ∧ C[p + clenX x]? = some ⟨13, loc, r.length⟩ ∧ CodeB (loc + 1) r (p + clenX x + 1) (p + clenX x + 1 + r.length) (p + clenX x + clenL r + 2 * r.length)
def CodeB : Int → List ExpD → Nat → Nat → Nat → Prop
  | _, [], _, _, _ => True
  | loc, y :: r, tab, p, e => C[tab]? = some ⟨14, p, 0⟩ ∧ CodeX loc y p ∧ (r ≠ [] → C[p + clenX y]? = some ⟨14, e, 0⟩) ∧ CodeB loc r (tab + 1) (p + clenX y + 1) e
end
end
mutual
/-- How many values lie on the stack ahead of a place of the code of an expression. -/
def dep : ExpD → Nat → Nat
  | .mk op _ _ _ l, o => if op = 11 then depLet l o else if op = 9 then depSw l o else depS 0 l o
def depS : Nat → List ExpD → Nat → Nat
  | k, [], o => if o = 0 then k else 1
  | k, x :: r, o => if o < clenX x then k + dep x o else depS (k + 1) r (o - clenX x)
def depLet : List ExpD → Nat → Nat
  | [], _ => 1
  | x :: r, o => if o < clenX x then dep x o else if o = clenX x then 1 else depS 0 r (o - clenX x - 1)
def depSw : List ExpD → Nat → Nat
  | [], _ => 1
  | x :: r, o => if o < clenX x then dep x o else if o = clenX x then 1 else if o < clenX x + 1 + r.length then 0 else depB r (o - clenX x - 1 - r.length)
def depB : List ExpD → Nat → Nat
  | [], _ => 1
  | y :: r, o => if o < clenX y then dep y o else if o = clenX y then 1 else depB r (o - clenX y - 1)
end
def notIn (caps loc op n : Int) : Bool := (op == 21 && !inB n 0 (loc - 1)) || (op == 23 && !inB n 0 (caps - 1))
/-- A node has the form of its kind. -/
def formB (caps : Int) (clo : Int → Int → Bool) (loc op n : Int) (s : ByteArray) (k : Nat) : Bool :=
  if op ≠ 3 ∧ s.size ≠ 0 then false
  else if op = 2 then decide (k = 0) && inB n (-4503599627370496) 4503599627370496
  else if op = 3 then decide (k = 0) && (decide (n = 0) && decide (s.size ≤ 16384))
  else if op = 6 then decide (n = 0) && decide (k ≤ 1000)
  else if op = 7 ∨ op = 8 then decide (k = 1) && inB n 0 999
  else if op = 9 then decide (n = 0) && inB k 2 1001
  else if op = 11 ∨ op = 25 then decide (n = 0) && decide (k = 2)
  else if op = 12 then inB n 1 14 && decide ((k : Int) = ref46_arity n)
  else if op = 13 then decide (k = 0) && inB n 1 1000000
  else if op = 21 then decide (k = 0) && inB n 0 (loc - 1)
  else if op = 22 then decide (k = 0) && decide (n = 0)
  else if op = 23 then decide (k = 0) && inB n 0 (caps - 1)
  else if op = 24 then decide (k ≤ 1000) && clo n k
  else false
section
variable (caps : Int) (clo : Int → Int → Bool)
mutual
/-- An expression is flat, with so many local variables around it. -/
def flatX : Int → ExpD → Bool
  | loc, .mk op n s _ l => formB caps clo loc op n s l.length && flatL loc (loc + bump op) l
def flatL : Int → Int → List ExpD → Bool
  | _, _, [] => true
  | a, b, x :: r => flatX a x && flatL b b r
end
end
mutual
/-- The number of local variables, at most. -/
def locX : Int → ExpD → Int
  | loc, .mk op _ _ _ l => locL loc loc (loc + bump op) l
def locL : Int → Int → Int → List ExpD → Int
  | m, _, _, [] => m
  | m, a, b, x :: r => locL (max m (locX a x)) b b r
end
theorem bump_0 {op : Int} (h : op ≠ 9) (h' : op ≠ 11) : bump op = 0 := by unfold bump; rw [if_neg]; omega
theorem bump_1 {op : Int} (h : op = 9 ∨ op = 11) : bump op = 1 := by unfold bump; rw [if_pos h]
/-- What a form shows. -/
theorem form_let {caps : Int} {clo : Int → Int → Bool} {loc n : Int} {s : ByteArray} {k : Nat} (h : formB caps clo loc 11 n s k = true) : k = 2 := by
  unfold formB at h
  by_cases hs : (11 : Int) ≠ 3 ∧ s.size ≠ 0
  · rw [if_pos hs] at h; cases h
  · rw [if_neg hs, if_neg (by decide), if_neg (by decide), if_neg (by decide), if_neg (by decide), if_neg (by decide), if_pos (.inl rfl), Bool.and_eq_true] at h
    exact of_decide_eq_true h.2
theorem form_sw {caps : Int} {clo : Int → Int → Bool} {loc n : Int} {s : ByteArray} {k : Nat} (h : formB caps clo loc 9 n s k = true) : 2 ≤ k ∧ k ≤ 1001 := by
  unfold formB at h
  by_cases hs : (9 : Int) ≠ 3 ∧ s.size ≠ 0
  · rw [if_pos hs] at h; cases h
  · rw [if_neg hs, if_neg (by decide), if_neg (by decide), if_neg (by decide), if_neg (by decide), if_pos rfl, Bool.and_eq_true] at h
    have := h.2
    unfold inB at this
    simp only [Bool.and_eq_true, decide_eq_true_eq] at this
    omega
theorem len_two {α : Type} {l : List α} (h : l.length = 2) : ∃ x y, l = [x, y] := by
  match l, h with
  | [x, y], _ => exact ⟨x, y, rfl⟩
theorem len_one {α : Type} {l : List α} (h : 1 ≤ l.length) : ∃ x r, l = x :: r := by
  match l, h with
  | x :: r, _ => exact ⟨x, r, rfl⟩
theorem len_more {α : Type} {l : List α} (h : 2 ≤ l.length) : ∃ x y r, l = x :: y :: r := by
  match l, h with
  | x :: y :: r, _ => exact ⟨x, y, r, rfl⟩
theorem clenX_pos : ∀ x : ExpD, 0 < clenX x ∨ (x.op = 9 ∧ x.l.length ≤ 1) := by
  intro x
  cases x with
  | mk op n s lv l =>
    by_cases h : op = 9
    · by_cases hl : l.length ≤ 1
      · exact .inr ⟨h, hl⟩
      · left; rw [clenX_mk, if_pos h]; omega
    · left; rw [clenX_mk, if_neg h]; omega
theorem flat_pos {caps : Int} {clo : Int → Int → Bool} {loc : Int} {x : ExpD} (h : flatX caps clo loc x = true) : 0 < clenX x := by
  rcases clenX_pos x with h1 | ⟨h1, h2⟩
  · exact h1
  · cases x with
    | mk op n s lv l =>
      have h1 : op = 9 := h1
      have h2 : l.length ≤ 1 := h2
      subst h1
      unfold flatX at h
      rw [Bool.and_eq_true] at h
      have := form_sw h.1
      omega
theorem depS_0 {caps : Int} {clo : Int → Int → Bool} (k : Nat) (a b : Int) : ∀ l : List ExpD, (∀ y ∈ l, ∀ loc, flatX caps clo loc y = true → dep y 0 = 0) → flatL caps clo a b l = true → depS k l 0 = k
  | [], _, _ => by unfold depS; rfl
  | x :: r, h, hf => by
    unfold flatL at hf
    rw [Bool.and_eq_true] at hf
    unfold depS
    rw [if_pos (flat_pos hf.1), h x (List.mem_cons_self ..) _ hf.1]
    rfl
theorem dep_0 {caps : Int} {clo : Int → Int → Bool} (x : ExpD) : ∀ loc, flatX caps clo loc x = true → dep x 0 = 0 := by
  induction x using ExpD.induct with
  | h op n s lv l ih =>
    intro loc h
    unfold flatX at h
    rw [Bool.and_eq_true] at h
    obtain ⟨h1, h2⟩ := h
    unfold dep
    by_cases e1 : op = 11
    · subst e1
      rw [if_pos rfl]
      have hl := form_let h1
      obtain ⟨x, r, rfl⟩ := len_one (by omega : 1 ≤ l.length)
      unfold flatL at h2
      rw [Bool.and_eq_true] at h2
      unfold depLet
      rw [if_pos (flat_pos h2.1)]
      exact ih x (List.mem_cons_self ..) _ h2.1
    · rw [if_neg e1]
      by_cases e2 : op = 9
      · subst e2
        rw [if_pos rfl]
        have hl := form_sw h1
        obtain ⟨x, r, rfl⟩ := len_one (by omega : 1 ≤ l.length)
        unfold flatL at h2
        rw [Bool.and_eq_true] at h2
        unfold depSw
        rw [if_pos (flat_pos h2.1)]
        exact ih x (List.mem_cons_self ..) _ h2.1
      · rw [if_neg e2]
        exact depS_0 0 _ _ l (fun y hy loc hf => ih y hy loc hf) h2
theorem depS_end {caps : Int} {clo : Int → Int → Bool} (k : Nat) (a b : Int) : ∀ l : List ExpD, flatL caps clo a b l = true → depS k l (clenL l) = k + l.length ∧ depS k l (clenL l + 1) = 1
  | [], _ => by unfold clenL depS; simp
  | x :: r, hf => by
    unfold flatL at hf
    rw [Bool.and_eq_true] at hf
    obtain ⟨i1, i2⟩ := depS_end (k + 1) b b r hf.2
    rw [clenL_cons]
    unfold depS
    rw [if_neg (by omega), if_neg (by omega), show clenX x + clenL r - clenX x = clenL r by omega, show clenX x + clenL r + 1 - clenX x = clenL r + 1 by omega, i1, i2]
    simp; omega
theorem depB_end {caps : Int} {clo : Int → Int → Bool} (b : Int) : ∀ l : List ExpD, flatL caps clo b b l = true → l ≠ [] → depB l (clenL l + l.length - 1) = 1
  | [], _, h => absurd rfl h
  | [y], _, _ => by
    rw [clenL_cons, clenL_nil]
    unfold depB
    rw [if_neg (by simp), if_pos (by simp)]
  | y :: z :: r, hf, _ => by
    unfold flatL at hf
    rw [Bool.and_eq_true] at hf
    have ih := depB_end b (z :: r) hf.2 (by simp)
    rw [clenL_cons]
    unfold depB
    have hp : 0 < clenX z := by unfold flatL at hf; simp only [Bool.and_eq_true] at hf; exact flat_pos hf.2.1
    have e0 : clenL (z :: r) = clenX z + clenL r := by rw [clenL_cons]
    simp only [List.length_cons] at ih ⊢
    rw [if_neg (by omega), if_neg (by omega), show clenX y + clenL (z :: r) + (r.length + 1 + 1) - 1 - clenX y - 1 = clenL (z :: r) + (r.length + 1) - 1 by omega]
    exact ih
theorem dep_end {caps : Int} {clo : Int → Int → Bool} (x : ExpD) (loc : Int) (h : flatX caps clo loc x = true) : dep x (clenX x) = 1 := by
  cases x with
  | mk op n s lv l =>
    unfold flatX at h
    rw [Bool.and_eq_true] at h
    obtain ⟨h1, h2⟩ := h
    rw [clenX_mk]
    unfold dep
    by_cases e1 : op = 11
    · subst e1
      rw [if_pos rfl, if_neg (by decide)]
      have hl := form_let h1
      obtain ⟨x, y, rfl⟩ := len_two hl
      unfold flatL at h2
      rw [Bool.and_eq_true] at h2
      have hy : flatL caps clo (loc + bump 11) (loc + bump 11) [y] = true := h2.2
      unfold depLet
      have e0 : clenL [x, y] = clenX x + clenL [y] := clenL_cons _ _
      have e2 : clenL [y] = clenX y := by rw [clenL_cons, clenL_nil]; rfl
      have hp := flat_pos (by unfold flatL at hy; simp only [Bool.and_eq_true] at hy; exact hy.1)
      rw [if_neg (by omega), if_neg (by omega), show clenL [x, y] + 1 - clenX x - 1 = clenX y by omega]
      have := (depS_end 0 _ _ [y] hy).1
      rw [e2] at this
      rw [this]; rfl
    · rw [if_neg e1]
      by_cases e2 : op = 9
      · subst e2
        rw [if_pos rfl, if_pos rfl]
        have hl := form_sw h1
        obtain ⟨x, y, r, rfl⟩ := len_more hl.1
        unfold flatL at h2
        rw [Bool.and_eq_true] at h2
        unfold depSw
        have e0 : clenL (x :: y :: r) = clenX x + clenL (y :: r) := clenL_cons _ _
        have e3 : clenL (y :: r) = clenX y + clenL r := clenL_cons _ _
        have hp : 0 < clenX y := flat_pos (by have := h2.2; unfold flatL at this; simp only [Bool.and_eq_true] at this; exact this.1)
        simp only [List.length_cons]
        rw [if_neg (by omega), if_neg (by omega), if_neg (by omega)]
        have := depB_end _ (y :: r) h2.2 (by simp)
        simp only [List.length_cons] at this
        rw [show clenL (x :: y :: r) + 2 * (r.length + 1 + 1 - 1) - clenX x - 1 - (r.length + 1) = clenL (y :: r) + (r.length + 1) - 1 by omega]
        exact this
      · rw [if_neg e2, if_neg e2]
        exact (depS_end 0 _ _ l h2).2
end Go.Proofs.Ytidolpcbbbakmaa
