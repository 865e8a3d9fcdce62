/- Expressions in memory; few. -/
import Derived.Test.YtidolpcbbbakmaaGreatM4
import Derived.Test.YtidolpcbbbakmaaGreatM5
namespace Go.Proofs.YtidolpcbbbakmaaGreat
open Go Go.RowKit

theorem both {a b c : World} {r : Option Nat} (h : a.grownBy b r) (k : b.grownBy c r) : a.grownBy c r :=
  ⟨k.os.trans h.os, k.tape.trans h.tape, k.output.trans h.output, Nat.le_trans h.size k.size, fun q hq hr => (k.block q (Nat.lt_of_lt_of_le hq h.size) hr).trans (h.block q hq hr)⟩
theorem free_of {a b : World} (h : a.grownBy b none) (r : Option Nat) : a.grownBy b r := ⟨h.os, h.tape, h.output, h.size, fun q hq _ => h.block q hq (by nofun)⟩
def expEnc (x : ExpD) : List Value := [.int .i64 x.op, .int .i64 x.n, .string x.s, x.lv]
def expV (x : ExpD) : Value := .agg #[.int .i64 x.op, .int .i64 x.n, .string x.s, x.lv]
def expCells (l : List ExpD) : List Value := l.flatMap expEnc
/-- A row of cells below the block B. -/
def RowB (B : Nat) (w : World) (v : Value) (len : Nat) (xs : List Value) : Prop :=
  ∃ (a : Option Addr) (c : Nat), v = .slice a len c ∧ len ≤ c ∧ (0 < len → ∃ b off, a = some ⟨b, off, none⟩ ∧ b < B ∧ ∀ j, j < xs.length → w.cell? ⟨b, off + j, none⟩ = some (xs.getD j undef))
theorem RowB.kept {B : Nat} {w w' : World} {v : Value} {n : Nat} {xs : List Value} (h : RowB B w v n xs) (hb : ∀ b, b < B → w'.heap[b]? = w.heap[b]?) : RowB B w' v n xs := by
  obtain ⟨a, c, hv, hlc, hl⟩ := h
  refine ⟨a, c, hv, hlc, fun hne => ?_⟩
  obtain ⟨b, off, ha, hlt, hc⟩ := hl hne
  exact ⟨b, off, ha, hlt, fun j hj => by rw [← hc j hj]; unfold World.cell?; rw [hb b hlt]⟩
/-- An expression lies below the block B. -/
inductive IsExp (B : Nat) (w : World) : ExpD → Prop
  | mk {op n : Int} {s : ByteArray} {lv : Value} {l : List ExpD} : RowB B w lv l.length (expCells l) → l.length ≤ maxLen → (∀ y ∈ l, IsExp B w y) → IsExp B w (.mk op n s lv l)
theorem IsExp.kept {B : Nat} {w w' : World} (hb : ∀ b, b < B → w'.heap[b]? = w.heap[b]?) (x : ExpD) (h : IsExp B w x) : IsExp B w' x := by
  induction h with
  | mk h1 h2 _ ih => exact .mk (h1.kept hb) h2 ih
theorem IsExp.under {B : Nat} {w w' : World} {x : ExpD} (h : IsExp B w x) (hb : Below B w w') : IsExp B w' x := h.kept hb.block
theorem IsExp.grown {B : Nat} {w w' : World} {x : ExpD} {r : Option Nat} (h : IsExp B w x) (hg : w.grownBy w' r) (hB : B ≤ w.heap.size) (hr : ∀ k, r = some k → B ≤ k) : IsExp B w' x   := h.under (grown_under hg hB hr)
theorem expCells_length (l : List ExpD) : (expCells l).length = l.length * 4 := by
  induction l with
  | nil => rfl
  | cons x l ih => simp [expCells, expEnc] at ih ⊢; omega
theorem expCells_at : ∀ (l : List ExpD) (k : Nat), k < l.length → (expCells l).getD (k * 4) undef = .int .i64 (l.getD k default).op ∧ (expCells l).getD (k * 4 + 1) undef = .int .i64 (l.getD k default).n ∧ (expCells l).getD (k * 4 + 2) undef = .string (l.getD k default).s ∧ (expCells l).getD (k * 4 + 3) undef = (l.getD k default).lv
  | [], k, h => by simp at h
  | x :: l, 0, _ => by simp [expCells, expEnc]
  | x :: l, k + 1, h => by
    have ih := expCells_at l k (by simpa using h)
    have e : expCells (x :: l) = [.int .i64 x.op, .int .i64 x.n, .string x.s, x.lv] ++ expCells l := rfl
    have g : ∀ j, (expCells (x :: l)).getD (j + 4) undef = (expCells l).getD j undef := fun j => by
      rw [e]; simp [List.getD]
    have e1 : (k + 1) * 4 = k * 4 + 4 := by omega
    refine ⟨?_, ?_, ?_, ?_⟩
    · rw [e1, g]; exact ih.1
    · rw [show (k + 1) * 4 + 1 = k * 4 + 1 + 4 by omega, g]; exact ih.2.1
    · rw [show (k + 1) * 4 + 2 = k * 4 + 2 + 4 by omega, g]; exact ih.2.2.1
    · rw [show (k + 1) * 4 + 3 = k * 4 + 3 + 4 by omega, g]; exact ih.2.2.2
theorem exps_at {B : Nat} {w : World} {v : Value} {l : List ExpD} (h : RowB B w v l.length (expCells l)) (n : Nat) (hn : n < l.length) :
    ∃ b off c, v = .slice (some ⟨b, off, none⟩) l.length c ∧ l.length ≤ c ∧ b < B ∧ w.cell? ⟨b, off + n * 4, none⟩ = some (.int .i64 (l.getD n default).op) ∧ w.cell? ⟨b, off + n * 4 + 1, none⟩ = some (.int .i64 (l.getD n default).n) ∧ w.cell? ⟨b, off + n * 4 + 2, none⟩ = some (.string (l.getD n default).s) ∧ w.cell? ⟨b, off + n * 4 + 3, none⟩ = some (l.getD n default).lv := by
  obtain ⟨a, c, rfl, hlc, hcell⟩ := h
  obtain ⟨b, off, rfl, hlt, hc⟩ := hcell (by omega)
  obtain ⟨c0, c1, c2, c3⟩ := expCells_at l n hn
  have hlen := expCells_length l
  refine ⟨b, off, c, rfl, hlc, hlt, ?_, ?_, ?_, ?_⟩
  · rw [hc (n * 4) (by omega), c0]
  · rw [Nat.add_assoc, hc (n * 4 + 1) (by omega), c1]
  · rw [Nat.add_assoc, hc (n * 4 + 2) (by omega), c2]
  · rw [Nat.add_assoc, hc (n * 4 + 3) (by omega), c3]
theorem expV_mk (op n : Int) (s : ByteArray) (lv : Value) (l : List ExpD) : expV (.mk op n s lv l) = .agg #[.int .i64 op, .int .i64 n, .string s, lv] := rfl
/-- The parts of a list of expressions, one by one: how the walk names them. -/
theorem IsExp.parts {B : Nat} {w : World} {op n : Int} {s : ByteArray} {lv : Value} {l : List ExpD} (h : IsExp B w (.mk op n s lv l)) : RowB B w lv l.length (expCells l) ∧ l.length ≤ maxLen ∧ ∀ y ∈ l, IsExp B w y := by
  cases h with
  | mk h1 h2 h3 => exact ⟨h1, h2, h3⟩
mutual
def heightX : ExpD → Nat
  | .mk _ _ _ _ l => heightL l + 1
def heightL : List ExpD → Nat
  | [] => 0
  | x :: r => max (heightX x) (heightL r)
end
theorem heightX_mk (op n : Int) (s : ByteArray) (v : Value) (l : List ExpD) : heightX (.mk op n s v l) = heightL l + 1 := by rw [heightX]
theorem heightL_nil : heightL [] = 0 := by rw [heightL]
theorem heightL_cons (x : ExpD) (r : List ExpD) : heightL (x :: r) = max (heightX x) (heightL r) := by rw [heightL]
theorem take_one {α : Type} (d : α) (l : List α) (k : Nat) (h : k < l.length) : l.take (k + 1) = l.take k ++ [l.getD k d] := by
  rw [List.take_succ_eq_append_getElem h]; simp [List.getD, h]
theorem sizeL_snoc (l : List ExpD) (x : ExpD) : sizeL (l ++ [x]) = sizeL l + sizeX x := by
  induction l with
  | nil => rw [List.nil_append, sizeL_cons, sizeL_nil]; omega
  | cons y l ih => rw [List.cons_append, sizeL_cons, sizeL_cons, ih]; omega
theorem heightL_snoc (l : List ExpD) (x : ExpD) : heightL (l ++ [x]) = max (heightL l) (heightX x) := by
  induction l with
  | nil => rw [List.nil_append, heightL_cons, heightL_nil]; omega
  | cons y l ih => rw [List.cons_append, heightL_cons, heightL_cons, ih]; omega
theorem one_cell {w : World} {q : Nat} {x : Value} {t : TypeId} (h : w.heap[q]? = some (.cells #[x] t (0, 0))) : w.cell? ⟨q, 0, none⟩ = some x ∧ w.frozen? ⟨q, 0, none⟩ = false := ⟨by simp [World.cell?, h], Lib.frozen_of_heap h 0⟩
/-- What few leaves: the number that is left, and what it says. -/
def FewOk (lb : Nat) (n : Int) (size height : Nat) (d : Int) (w : World) (e : Ending) (w' : World) : Prop :=
  ∃ (b : Bool) (n' : Int), e = .returned (.bool b) ∧ w'.heap[lb]? = some (.cells #[.int .i64 n'] 3 (0, 0)) ∧ w.grownBy w' (some lb) ∧ -1 ≤ n' ∧ n' ≤ n ∧ (b = true → 0 ≤ n' ∧ n' = n - size ∧ d + height ≤ 211)
def FewAll (B lb : Nat) (y : ExpD) : Prop := ∀ (w : World) (n d : Int), IsExp B w y → w.heap[lb]? = some (.cells #[.int .i64 n] 3 (0, 0)) → B ≤ lb → 0 ≤ n → n ≤ 600 → 0 ≤ d → d ≤ 1000 →
  Calls Tryz.prog 16 #[expV y, .pointer (some ⟨lb, 0, none⟩), .int .i64 d] w (FewOk lb n (sizeX y) (heightX y) d w)
def IdxOk (lb : Nat) (n : Int) (size height : Nat) (d : Int) (w : World) (e : Ending) (w' : World) : Prop :=
  ∃ (r : Int) (n' : Int), e = .returned (.int .i64 r) ∧ w'.heap[lb]? = some (.cells #[.int .i64 n'] 3 (0, 0)) ∧ w.grownBy w' (some lb) ∧ -1 ≤ n' ∧ n' ≤ n ∧ (r < 0 → 0 ≤ n' ∧ n' = n - size ∧ (size = 0 ∨ d + 1 + height ≤ 211))
set_option maxHeartbeats 1000000 in
set_option maxRecDepth 100000 in
theorem few1_any (B lb b4 b5 : Nat) (y : ExpD) (H : FewAll B lb y) (w : World) (n d : Int) (hy : IsExp B w y) (hL : w.heap[lb]? = some (.cells #[.int .i64 n] 3 (0, 0))) (hB : B ≤ lb) (hBw : B ≤ w.heap.size) (h0 : 0 ≤ n) (h6 : n ≤ 600) (hd : 0 ≤ d) (hd1 : d ≤ 500)
    (h4 : w.heap[b4]? = some (.cells #[.pointer (some ⟨lb, 0, none⟩)] 59 (0, 0))) (h5 : w.heap[b5]? = some (.cells #[.int .i64 d] 3 (0, 0))) :
    Calls Tryz.prog 36 #[expV y, .pointer (some ⟨b4, 0, none⟩), .pointer (some ⟨b5, 0, none⟩)] w fun e w' => ∃ (b : Bool) (n' : Int), e = .returned (.bool b) ∧ w'.heap[lb]? = some (.cells #[.int .i64 n'] 3 (0, 0)) ∧ w.grownBy w' (some lb) ∧ -1 ≤ n' ∧ n' ≤ n ∧ (b = false → 0 ≤ n' ∧ n' = n - sizeX y ∧ d + 1 + heightX y ≤ 211) := by
  obtain ⟨op, m, s, lv, l⟩ := y
  rw [expV_mk]
  have hg := grown_alloc w (.cells #[.int .i64 op, .int .i64 m, .string s, lv] 29)
  have gY := new_heap w (.cells #[.int .i64 op, .int .i64 m, .string s, lv] 29)
  obtain ⟨p0, p1, p2, p3⟩ := fun_cells gY
  have q4 := (one_cell ((hg.block _ (heap_lt h4) (by nofun)).trans h4)).1
  have q5 := (one_cell ((hg.block _ (heap_lt h5) (by nofun)).trans h5)).1
  have HF := Lib.hid (H _ n (d + 1) (hy.grown hg hBw (by nofun)) ((hg.block _ (heap_lt hL) (by nofun)).trans hL) hB h0 h6 (by omega) (by omega))
  rw [expV_mk] at HF
  have HG := Lib.hid hg
  clear hg gY h4 h5 hy H hL
  go_enter Tryz.func36, Tryz.ntmps36
  go_wp2_with fail
  refine HF.out.mono ?_
  rintro e w2 ⟨b, n', rfl, hL2, hg2, hn1, hn2, hn3⟩
  have HR : Hid (∃ (b' : Bool) (n' : Int), b' = (!b) ∧ w2.heap[lb]? = some (.cells #[.int .i64 n'] 3 (0, 0)) ∧ w.grownBy w2 (some lb) ∧ -1 ≤ n' ∧ n' ≤ n ∧ (b' = false → 0 ≤ n' ∧ n' = n - sizeX (.mk op m s lv l) ∧ d + 1 + heightX (.mk op m s lv l) ≤ 211)) :=
    ⟨_, n', rfl, hL2, both (free_of HG.out _) hg2, hn1, hn2, fun hb => hn3 (by simpa using hb)⟩
  clear hL2 hg2 hn3
  go_wp2_with fail
  go_ret
  obtain ⟨b', n', hb', h⟩ := HR.out
  exact ⟨b', n', by rw [hb']; rfl, h⟩
theorem few_next {l : List ExpD} {k : Nat} {x : ExpD} {n n' n2 d : Int} (h : n' = n - sizeL (l.take k) ∧ (sizeL (l.take k) = 0 ∨ d + 1 + heightL (l.take k) ≤ 211)) (hT : sizeL (l.take (k + 1)) = sizeL (l.take k) + sizeX x ∧ heightL (l.take (k + 1)) = max (heightL (l.take k)) (heightX x)) (j1 : n2 = n' - sizeX x) (j2 : d + 1 + heightX x ≤ 211) :
    Hid (n2 = n - sizeL (l.take (k + 1)) ∧ (sizeL (l.take (k + 1)) = 0 ∨ d + 1 + heightL (l.take (k + 1)) ≤ 211)) := by
  obtain ⟨h1, h2⟩ := h
  refine ⟨by rw [hT.1]; omega, .inr ?_⟩
  rw [hT.2]
  rcases h2 with h2 | h2
  · have hz : l.take k = [] := by
      cases hq : l.take k with
      | nil => rfl
      | cons y r => rw [hq, sizeL_cons] at h2; have := sizeX_pos y; omega
    rw [hz, heightL_nil]; omega
  · omega
set_option maxHeartbeats 2000000 in
set_option maxRecDepth 100000 in
theorem indexFew_any (B lb b4 b5 : Nat) (lv : Value) (l : List ExpD) (H : ∀ y ∈ l, FewAll B lb y) (w : World) (n d : Int) (hl : RowB B w lv l.length (expCells l)) (hm : l.length ≤ maxLen) (hy : ∀ y ∈ l, IsExp B w y) (hL : w.heap[lb]? = some (.cells #[.int .i64 n] 3 (0, 0))) (hB : B ≤ lb) (hBw : B ≤ w.heap.size) (h0 : 0 ≤ n) (h6 : n ≤ 600) (hd : 0 ≤ d) (hd1 : d ≤ 500)
    (h4 : w.heap[b4]? = some (.cells #[.pointer (some ⟨lb, 0, none⟩)] 59 (0, 0))) (h5 : w.heap[b5]? = some (.cells #[.int .i64 d] 3 (0, 0))) (hne : lb ≠ b4) (hne' : lb ≠ b5) :
    Calls Tryz.prog 66 #[lv, .func (.func 36) #[] #[.pointer (some ⟨b4, 0, none⟩), .pointer (some ⟨b5, 0, none⟩)]] w (IdxOk lb n (sizeL l) (heightL l) d w) := by
  have HY := Lib.hid hy
  have HL := Lib.hid hL
  have HI := Lib.hid H
  have HR := Lib.hid hl
  have H4 := Lib.hid h4
  have H5 := Lib.hid h5
  clear hy hL H h4 h5
  obtain ⟨a, c, rfl, hlc, hcell⟩ := hl
  have hm' : l.length ≤ 9223372036854775807 := by unfold maxLen at hm; omega
  clear hcell hm
  go_enter Tryz.func66, Tryz.ntmps66
  go_wp2_with fail
  go_loopw [8] (fun i wr => ∃ (k : Nat) (n' : Int), k ≤ l.length ∧ i = .int .i64 k ∧ 0 ≤ n' ∧ n' ≤ n ∧ Hid (n' = n - sizeL (l.take k) ∧ (sizeL (l.take k) = 0 ∨ d + 1 + heightL (l.take k) ≤ 211)) ∧ Hid (wr.heap[lb]? = some (.cells #[.int .i64 n'] 3 (0, 0))) ∧ Hid (w.grownBy wr (some lb))) (fun i _ => l.length - (intOf i).toNat)
  case atStart => exact ⟨0, n, Nat.zero_le _, rfl, h0, Int.le_refl _, ⟨by rw [List.take_zero, sizeL_nil]; omega, .inl (by rw [List.take_zero, sizeL_nil])⟩, HL, ⟨rfl, rfl, rfl, Nat.le_refl _, fun _ _ _ => rfl⟩⟩
  case round =>
    obtain ⟨k, n', hk, rfl, hn0, hn1, HS, HLr, HG⟩ := hrel
    by_cases hkl : k < l.length
    · have hxr : RowB B wr (.slice a l.length c) l.length (expCells l) := HR.out.kept (fun b hb => HG.out.block b (by omega) (fun e => by cases e; omega))
      obtain ⟨b, off, c', ha, _, hbB, c0, c1, c2, c3⟩ := exps_at hxr k hkl
      obtain rfl := (Value.slice.inj ha).1
      have hmem := getD_mem default l k hkl
      have hF := few1_any B lb b4 b5 _ (HI.out _ hmem) wr n' d ((HY.out _ hmem).grown HG.out hBw (fun q hq => by cases hq; omega)) HLr.out hB (by have := HG.out.size; omega) hn0 (by omega) hd hd1
        ((HG.out.block _ (heap_lt H4.out) (fun e => hne (Option.some.inj e).symm)).trans H4.out) ((HG.out.block _ (heap_lt H5.out) (fun e => hne' (Option.some.inj e).symm)).trans H5.out)
      have hT := take_one default l k hkl
      have HT : Hid (sizeL (l.take (k + 1)) = sizeL (l.take k) + sizeX (l.getD k default) ∧ heightL (l.take (k + 1)) = max (heightL (l.take k)) (heightX (l.getD k default))) := ⟨by rw [hT, sizeL_snoc], by rw [hT, heightL_snoc]⟩
      clear hT hxr ha hmem
      generalize l.getD k default = x at *
      obtain ⟨op, m, s, xv, xl⟩ := x
      rw [expV_mk] at hF
      have c0 : wr.cell? ⟨b, off + k * 4, none⟩ = some (.int .i64 op) := c0
      have c1 : wr.cell? ⟨b, off + k * 4 + 1, none⟩ = some (.int .i64 m) := c1
      have c2 : wr.cell? ⟨b, off + k * 4 + 2, none⟩ = some (.string s) := c2
      have c3 : wr.cell? ⟨b, off + k * 4 + 3, none⟩ = some xv := c3
      have HF := Lib.hid hF
      clear hF
      go_wp2_with fail
      refine HF.out.mono ?_
      rintro e w2 ⟨bb, n2, rfl, hL2, hg2, hn2, hn3, hn4⟩
      have HL2 := Lib.hid hL2
      have HG2 := Lib.hid (both HG.out hg2)
      have HN := Lib.hid hn4
      clear hL2 hg2 hn4 c0 c1 c2 c3
      cases bb
      · obtain ⟨j0, j1, j2⟩ := HN.out rfl
        go_wp2_with fail
        go_round
        case rel => exact ⟨k + 1, n2, by omega, by go_num, j0, by omega, few_next HS.out HT.out j1 j2, HL2, HG2⟩
        case measure => simp [intOf]; omega
      · go_wp2_with fail
        go_ret
        exact ⟨k, n2, rfl, HL2.out, HG2.out, hn2, by omega, fun h => by omega⟩
    · go_wp2_with fail
      go_ret
      obtain ⟨s1, s2⟩ := HS.out
      rw [List.take_of_length_le (by omega)] at s1 s2
      exact ⟨-1, n', rfl, HLr.out, HG.out, by omega, hn1, fun _ => ⟨hn0, s1, s2⟩⟩
def AnyFew (lb : Nat) (n : Int) (size height : Nat) (d : Int) (w : World) (e : Ending) (w' : World) : Prop :=
  ∃ (b : Bool) (n' : Int), e = .returned (.bool b) ∧ w'.heap[lb]? = some (.cells #[.int .i64 n'] 3 (0, 0)) ∧ w.grownBy w' (some lb) ∧ -1 ≤ n' ∧ n' ≤ n ∧ (b = false → 0 ≤ n' ∧ n' = n - size ∧ (size = 0 ∨ d + 1 + height ≤ 211))
theorem containsFew_any (B lb b4 b5 : Nat) (lv : Value) (l : List ExpD) (H : ∀ y ∈ l, FewAll B lb y) (w : World) (n d : Int) (hl : RowB B w lv l.length (expCells l)) (hm : l.length ≤ maxLen) (hy : ∀ y ∈ l, IsExp B w y) (hL : w.heap[lb]? = some (.cells #[.int .i64 n] 3 (0, 0))) (hB : B ≤ lb) (hBw : B ≤ w.heap.size) (h0 : 0 ≤ n) (h6 : n ≤ 600) (hd : 0 ≤ d) (hd1 : d ≤ 500)
    (h4 : w.heap[b4]? = some (.cells #[.pointer (some ⟨lb, 0, none⟩)] 59 (0, 0))) (h5 : w.heap[b5]? = some (.cells #[.int .i64 d] 3 (0, 0))) (hne : lb ≠ b4) (hne' : lb ≠ b5) :
    Calls Tryz.prog 35 #[lv, .func (.func 36) #[] #[.pointer (some ⟨b4, 0, none⟩), .pointer (some ⟨b5, 0, none⟩)]] w (AnyFew lb n (sizeL l) (heightL l) d w) := by
  have H' := Lib.hid (indexFew_any B lb b4 b5 lv l H w n d hl hm hy hL hB hBw h0 h6 hd hd1 h4 h5 hne hne')
  obtain ⟨a, c, rfl, hlc, hcell⟩ := hl
  clear H hm hy hL h4 h5 hcell
  go_enter Tryz.func35, Tryz.ntmps35
  go_wp2_with fail
  refine H'.out.mono ?_
  rintro e w2 ⟨r, n', rfl, hL2, hg2, hn1, hn2, hn3⟩
  have HR : Hid (AnyFew lb n (sizeL l) (heightL l) d w (.returned (.bool (decide (0 ≤ r)))) w2) := ⟨_, n', rfl, hL2, hg2, hn1, hn2, fun h => hn3 (by have := of_decide_eq_false h; omega)⟩
  clear hL2 hg2 hn3
  go_wp2_with fail
  go_ret
  exact HR.out
theorem few_end {op m : Int} {s : ByteArray} {lv : Value} {l : List ExpD} {n n' d : Int} (_ : 0 ≤ n - 1) (c1 : d ≤ 210) (h : 0 ≤ n' ∧ n' = n - 1 - sizeL l ∧ (sizeL l = 0 ∨ d + 1 + heightL l ≤ 211)) : 0 ≤ n' ∧ n' = n - sizeX (.mk op m s lv l) ∧ d + heightX (.mk op m s lv l) ≤ 211 := by
  rw [sizeX_mk, heightX_mk]
  obtain ⟨h0, h1, h2⟩ := h
  refine ⟨h0, by omega, ?_⟩
  rcases h2 with h2 | h2
  · have hz : l = [] := by
      cases l with
      | nil => rfl
      | cons y r => rw [sizeL_cons] at h2; have := sizeX_pos y; omega
    rw [hz, heightL_nil]; omega
  · omega
set_option maxHeartbeats 2000000 in
set_option maxRecDepth 100000 in
theorem few_any (B lb : Nat) (x : ExpD) : FewAll B lb x := by
  induction x using ExpD.induct with
  | h op m s lv l ih =>
    intro w n d hx hL hB h0 h6 hd hd1
    rw [expV_mk]
    have HIH := Lib.hid ih
    obtain ⟨hr, hm, hy⟩ := hx.parts
    have hlt := heap_lt hL
    have hg : w.grownBy (((w.alloc (.cells #[.int .i64 op, .int .i64 m, .string s, lv] 29)).alloc (.cells #[.pointer (some ⟨lb, 0, none⟩)] 59)).alloc (.cells #[.int .i64 d] 3)) none := both (both (grown_alloc _ _) (grown_alloc _ _)) (grown_alloc _ _)
    have g3 := (grown_alloc (w.alloc (.cells #[.int .i64 op, .int .i64 m, .string s, lv] 29)) (.cells #[.pointer (some ⟨lb, 0, none⟩)] 59))
    have g4 := grown_alloc ((w.alloc (.cells #[.int .i64 op, .int .i64 m, .string s, lv] 29)).alloc (.cells #[.pointer (some ⟨lb, 0, none⟩)] 59)) (.cells #[.int .i64 d] 3)
    have k3 := (g4.block w.heap.size (by simp; omega) (by nofun)).trans ((g3.block w.heap.size (by simp) (by nofun)).trans (new_heap w (.cells #[.int .i64 op, .int .i64 m, .string s, lv] 29)))
    have k4 := (g4.block (w.heap.size + 1) (by simp) (by nofun)).trans ((congrArg _ (by simp)).trans (new_heap (w.alloc (.cells #[.int .i64 op, .int .i64 m, .string s, lv] 29)) (.cells #[.pointer (some ⟨lb, 0, none⟩)] 59)))
    have k5 : (((w.alloc (.cells #[.int .i64 op, .int .i64 m, .string s, lv] 29)).alloc (.cells #[.pointer (some ⟨lb, 0, none⟩)] 59)).alloc (.cells #[.int .i64 d] 3)).heap[w.heap.size + 1 + 1]? = some (.cells #[.int .i64 d] 3 (0, 0)) := (congrArg _ (by simp)).trans (new_heap ((w.alloc (.cells #[.int .i64 op, .int .i64 m, .string s, lv] 29)).alloc (.cells #[.pointer (some ⟨lb, 0, none⟩)] 59)) (.cells #[.int .i64 d] 3))
    have kL := (hg.block _ hlt (by nofun)).trans hL
    have hsz : (((w.alloc (.cells #[.int .i64 op, .int .i64 m, .string s, lv] 29)).alloc (.cells #[.pointer (some ⟨lb, 0, none⟩)] 59)).alloc (.cells #[.int .i64 d] 3)).heap.size = w.heap.size + 3 := by simp
    clear g3 g4
    go_enter Tryz.func16, Tryz.ntmps16
    go_upto_region 1 with fail
    generalize ((w.alloc (.cells #[.int .i64 op, .int .i64 m, .string s, lv] 29)).alloc (.cells #[.pointer (some ⟨lb, 0, none⟩)] 59)).alloc (.cells #[.int .i64 d] 3) = W at *
    have c3 := fun_cells k3
    obtain ⟨e0, e1, e2, e3⟩ := c3
    have q4 := (one_cell k4).1
    have q5 := (one_cell k5).1
    have qL := one_cell kL
    obtain ⟨qL0, qL1⟩ := qL
    have hS := grown_set W lb 0 (.int .i64 (n - 1))
    have kL2 := heap_set_same (i := 0) kL (.int .i64 (n - 1))
    have r3 := (hS.block _ (heap_lt k3) (fun e => by have := Option.some.inj e; omega)).trans k3
    have r4 := (hS.block _ (heap_lt k4) (fun e => by have := Option.some.inj e; omega)).trans k4
    have r5 := (hS.block _ (heap_lt k5) (fun e => by have := Option.some.inj e; omega)).trans k5
    have hgg := both (free_of hg (some lb)) hS
    have HK := Lib.hid (fun (y : ExpD) (hy' : y ∈ l) => (hy y hy').grown hgg (by omega) (fun q hq => by cases hq; exact hB))
    have HRR : Hid (RowB B (W.setCell ⟨lb, 0, none⟩ (.int .i64 (n - 1))) lv l.length (expCells l)) := hr.kept (fun b hb => hgg.block b (by omega) (fun e => by cases e; omega))
    have hw1 : IntKind.i64.wrap (n - 1) = n - 1 := wrap_ok _ (by omega) (by omega)
    clear hy hr hg hS k3 k4 k5 kL
    obtain ⟨s0, s1⟩ := one_cell kL2
    go_upto_region 2 with fail
    by_cases c0 : 0 ≤ n - 1
    · by_cases c1 : d ≤ 210
      · by_cases c2 : (s.size : Int) ≤ 200
        · skip
          have HC := Lib.hid (containsFew_any B lb (w.heap.size + 1) (w.heap.size + 1 + 1) lv l HIH.out _ (n - 1) d HRR.out hm HK.out kL2 hB (by have := hgg.size; omega) c0 (by omega) hd (by omega) r4 r5 (by omega) (by omega))
          clear HK HIH ih hx r3 r4 r5 kL2 hm
          go_wp2_with fail
          refine HC.out.mono ?_
          rintro e w2 ⟨b, n', rfl, hL2, hg2, hn1, hn2, hn3⟩
          have HR : Hid (FewOk lb n (sizeX (.mk op m s lv l)) (heightX (.mk op m s lv l)) d w (.returned (.bool (!b))) w2) := ⟨_, n', rfl, hL2, both hgg hg2, hn1, by omega, fun h => few_end c0 c1 (hn3 (by simpa using h))⟩
          clear hL2 hg2 hn3
          go_wp2_with fail
          go_ret
          exact HR.out
        · by_cases c3 : 16384 < (s.size : Int)
          · by_cases c4 : (s.size : Int) < 16394
            · skip
              have HC := Lib.hid (containsFew_any B lb (w.heap.size + 1) (w.heap.size + 1 + 1) lv l HIH.out _ (n - 1) d HRR.out hm HK.out kL2 hB (by have := hgg.size; omega) c0 (by omega) hd (by omega) r4 r5 (by omega) (by omega))
              clear HK HIH ih hx r3 r4 r5 kL2 hm
              go_wp2_with fail
              refine HC.out.mono ?_
              rintro e w2 ⟨b, n', rfl, hL2, hg2, hn1, hn2, hn3⟩
              have HR : Hid (FewOk lb n (sizeX (.mk op m s lv l)) (heightX (.mk op m s lv l)) d w (.returned (.bool (!b))) w2) := ⟨_, n', rfl, hL2, both hgg hg2, hn1, by omega, fun h => few_end c0 c1 (hn3 (by simpa using h))⟩
              clear hL2 hg2 hn3
              go_wp2_with fail
              go_ret
              exact HR.out
            · go_wp2_with fail
              go_ret
              exact ⟨false, n - 1, rfl, kL2, hgg, by omega, by omega, nofun⟩
          · go_wp2_with fail
            go_ret
            exact ⟨false, n - 1, rfl, kL2, hgg, by omega, by omega, nofun⟩
      · go_wp2_with fail
        go_ret
        exact ⟨false, n - 1, rfl, kL2, hgg, by omega, by omega, nofun⟩
    · go_wp2_with fail
      go_ret
      exact ⟨false, n - 1, rfl, kL2, hgg, by omega, by omega, nofun⟩
end Go.Proofs.YtidolpcbbbakmaaGreat
