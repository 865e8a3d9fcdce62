/- The writer: all, and exp at leaves and nodes (printed by gen_w2.py). -/
import Derived.Test.YtidolpcbbbakmaaGreatM17
namespace Go.Proofs.YtidolpcbbbakmaaGreat
open Go Go.RowKit
open Go.Maps

/-- Code has been written behind what was there. -/
def Wr (wb mb B : Nat) (L : List Ins) (cv : Value) (V : World) (len : Nat) (P : List Ins → Prop) (e : Ending) (V' : World) : Prop :=
  e = .returned (.tuple #[]) ∧ ∃ (cv' : Value) (L' : List Ins), WSt V' wb mb B cv' L' ∧ Em wb V V' cv.ownBlock cv'.ownBlock ∧ L'.length = L.length + len ∧ (∀ i, i < L.length → L'[i]? = L[i]?) ∧ P L'
/-- The writer, its map of texts, and what lies below. -/
structure Wg (V : World) (wb mb B B0 : Nat) (cv : Value) (L : List Ins) (T : ByteArray → Int) : Prop where
  st : WSt V wb mb B cv L
  tm : TextMap V mb T
  size : B ≤ V.heap.size
  lo : mb < wb
  b0 : B0 ≤ mb
theorem Wg.below {V V' : World} {wb mb B B0 : Nat} {cv : Value} {L : List Ins} {T : ByteArray → Int} {r : Option Nat} (h : Wg V wb mb B B0 cv L T) (hE : Em wb V V' cv.ownBlock r) : Below B0 V V' :=
  hE.below (by have := h.lo; have := h.b0; omega) (heap_lt h.st.blk) (fun k e => by have := (owns_lt h.st.own _ e).1; have := h.st.lt; omega)
theorem Wg.step {V V' : World} {wb mb B B0 : Nat} {cv cv' : Value} {L L' : List Ins} {T : ByteArray → Int} (h : Wg V wb mb B B0 cv L T) (hW : WSt V' wb mb B cv' L') (hE : Em wb V V' cv.ownBlock cv'.ownBlock) : Wg V' wb mb B B0 cv' L' T :=
  ⟨hW, h.tm.stays (hE.kept mb h.tm.lt (by have := h.lo; omega) (fun e => by have := (owns_lt h.st.own _ e).1; have := h.st.lt; have := h.lo; omega)), Nat.le_trans h.size hE.size, h.lo, h.b0⟩
theorem Wg.free {V V' : World} {wb mb B B0 : Nat} {cv : Value} {L : List Ins} {T : ByteArray → Int} (h : Wg V wb mb B B0 cv L T) (hg : V.grownBy V' none) : Wg V' wb mb B B0 cv L T :=
  h.step (h.st.free hg) (Em.free hg)
/-- What exp writes of an expression. -/
def ExpAll (caps : Int) (clo : Int → Int → Bool) (T : ByteArray → Int) (wb mb B B0 : Nat) (x : ExpD) : Prop :=
  ∀ (loc : Int) (cv : Value) (L : List Ins) (V : World), Wg V wb mb B B0 cv L T → IsExp B0 V x → flatX caps clo loc x = true → 0 ≤ loc → loc + heightX x ≤ 100000 → L.length + clenX x ≤ 100000 →
    Calls Tryz.prog 50 #[.pointer (some ⟨wb, 0, none⟩), expV x, .int .i64 loc] V (Wr wb mb B L cv V (clenX x) (fun L' => CodeX L' T loc x L.length))
theorem clen_take (l : List ExpD) (k : Nat) (h : k < l.length) : clenL (l.take (k + 1)) = clenL (l.take k) + clenX (l.getD k default) := by rw [take_one default l k h, clenL_snoc]
theorem clen_take_le (l : List ExpD) (k : Nat) : clenL (l.take k) ≤ clenL l := by
  have : ∀ a b : List ExpD, clenL (a ++ b) = clenL a + clenL b := fun a b => by
    induction a with
    | nil => rw [List.nil_append, clenL_nil]; omega
    | cons x r ih => rw [List.cons_append, clenL_cons, clenL_cons, ih]; omega
  conv => rhs; rw [← List.take_append_drop k l, this]
  omega
theorem pre_trans {A B C : List Ins} (h : ∀ i, i < A.length → B[i]? = A[i]?) (hl : A.length ≤ B.length) (k : ∀ i, i < B.length → C[i]? = B[i]?) : ∀ i, i < A.length → C[i]? = A[i]? :=
  fun i hi => (k i (by omega)).trans (h i hi)
theorem codeS_step {L L1 L2 : List Ins} {T : ByteArray → Int} {loc : Int} {l : List ExpD} {k : Nat} (hk : k < l.length) (hw : wideL l) (h1 : CodeS L1 T loc (l.take k) L.length) (hl : L1.length = L.length + clenL (l.take k)) (h2 : CodeX L2 T loc (l.getD k default) L1.length) (hp : ∀ i, i < L1.length → L2[i]? = L1[i]?) : CodeS L2 T loc (l.take (k + 1)) L.length := by
  rw [take_one default l k hk]
  exact codeS_snoc (codeS_stays (fun y _ => code_stays y) (wideL_of fun y hy => wideL_mem hw y (List.mem_of_mem_take hy)) h1 fun i _ hi => hp i (by omega)) (by rw [← hl]; exact h2)
set_option maxHeartbeats 2000000 in
set_option maxRecDepth 100000 in
theorem all_gen (caps : Int) (clo : Int → Int → Bool) (T : ByteArray → Int) (wb mb B B0 : Nat) (l : List ExpD) (H : ∀ y ∈ l, ExpAll caps clo T wb mb B B0 y) (a : Option Addr) (c : Nat) (loc : Int) (cv : Value) (L : List Ins) (V : World) (h : Wg V wb mb B B0 cv L T) (hR : RowB B0 V (.slice a l.length c) l.length (expCells l)) (hm : l.length ≤ maxLen) (hy : ∀ y ∈ l, IsExp B0 V y) (hf : ∀ i, i < l.length → flatX caps clo loc (l.getD i default) = true) (h0 : 0 ≤ loc) (hh : loc + heightL l ≤ 100000) (hL : L.length + clenL l ≤ 100000) :
    Calls Tryz.prog 77 #[.pointer (some ⟨wb, 0, none⟩), .slice a l.length c, .int .i64 loc] V (Wr wb mb B L cv V (clenL l) (fun L' => CodeS L' T loc l L.length)) := by
  have HH := Lib.hid H
  have H0 := Lib.hid h
  have HR := Lib.hid hR
  have HY := Lib.hid hy
  have HF := Lib.hid hf
  have HE0 := Lib.hid (Em.refl wb V cv.ownBlock)
  have hm' : l.length ≤ 9223372036854775807 := by unfold maxLen at hm; omega
  have HW := Lib.hid (wideL_of (l := l) fun y hy => by
    obtain ⟨k, hk, rfl⟩ := List.mem_iff_getElem.1 hy
    have := hf k hk
    rw [show l.getD k default = l[k] by simp [List.getD, hk]] at this
    exact wide_of_flat _ _ this)
  clear h hR hy hf H hm
  go_enter Tryz.func77, Tryz.ntmps77
  go_wp2_with fail
  go_loopw [10] (fun i wr => ∃ (k : Nat) (cv' : Value) (L' : List Ins), i = .int .i64 k ∧ k ≤ l.length ∧ Hid (WSt wr wb mb B cv' L') ∧ Hid (Em wb V wr cv.ownBlock cv'.ownBlock) ∧ Hid (L'.length = L.length + clenL (l.take k) ∧ (∀ i, i < L.length → L'[i]? = L[i]?) ∧ CodeS L' T loc (l.take k) L.length)) (fun i _ => l.length - (intOf i).toNat)
  case atStart => exact ⟨0, cv, L, rfl, Nat.zero_le _, H0.out.st, HE0, by rw [List.take_zero, clenL_nil, Nat.add_zero], fun _ _ => rfl, codeS_nil ..⟩
  case round =>
    obtain ⟨k, cv', L', rfl, hk, HWs, HE, HC⟩ := hrel
    have hbV := H0.out.below HE.out
    have hWg := H0.out.step HWs.out HE.out
    by_cases hkl : k < l.length
    · obtain ⟨b, off, rfl, hbB, c0, c1, c2, c3⟩ := parts_at HR.out hbV k hkl
      have hmem := getD_mem default l k hkl
      have hhm := heightL_mem hmem
      have hyk := (HY.out _ hmem).under hbV
      have hX := HH.out _ hmem
      have hfk := HF.out k hkl
      have hck := clen_take l k hkl
      have hcl := clen_take_le l (k + 1)
      have hpl := HC.out.1
      have HS := Lib.hid (fun (L2 : List Ins) (h2 : CodeX L2 T loc (l.getD k default) L'.length) (hp : ∀ i, i < L'.length → L2[i]? = L'[i]?) => codeS_step hkl HW.out HC.out.2.2 hpl h2 hp)
      clear hmem
      generalize l.getD k default = x at *
      obtain ⟨xo, xn, xs, xv, xl⟩ := x
      obtain ⟨xa, xc, rfl, _⟩ := hyk.parts.1
      simp only [ExpD.op, ExpD.n, ExpD.s, ExpD.lv] at c0 c1 c2 c3
      have hg := grown_alloc wr (.cells #[.int .i64 xo, .int .i64 xn, .string xs, .slice xa xl.length xc] 29)
      have gX := new_heap wr (.cells #[.int .i64 xo, .int .i64 xn, .string xs, .slice xa xl.length xc] 29)
      obtain ⟨e0, e1, e2, e3⟩ := exp_box gX
      have HX := Lib.hid (hX loc cv' L' _ (hWg.free hg) (hyk.under (grown_under hg (by have := hWg.size; have := hWg.st.lt; have := hWg.lo; have := hWg.b0; omega) (by nofun))) hfk h0 (by omega) (by omega))
      have hE2 := HE.out.trans (Em.free (wb := wb) (r := cv'.ownBlock) hg)
      have HE2 := Lib.hid hE2
      rw [expV_mk] at HX
      clear hX hyk hfk gX hg hE2 hbV hWg
      go_wp2_with fail
      refine HX.out.mono ?_
      rintro e w2 ⟨rfl, cv2, L2, hW3, hE3, hl3, hp3, hc3⟩
      have HW3 := Lib.hid hW3
      have HE3 := Lib.hid (HE2.out.trans hE3)
      have HC3 : Hid (L2.length = L.length + clenL (l.take (k + 1)) ∧ (∀ i, i < L.length → L2[i]? = L[i]?) ∧ CodeS L2 T loc (l.take (k + 1)) L.length) := ⟨by omega, pre_trans HC.out.2.1 (by omega) hp3, HS.out L2 hc3 hp3⟩
      clear hW3 hE3 hl3 hp3 hc3 HX c0 c1 c2 c3 e0 e1 e2 e3
      go_wp2_with fail
      go_round
      case rel => exact ⟨k + 1, cv2, L2, by go_num, by omega, HW3, HE3, HC3⟩
      case measure => simp [intOf]; omega
    · have HC3 := HC.out
      rw [List.take_of_length_le (by omega)] at HC3
      have HC4 := Lib.hid HC3
      clear HC3 hbV hWg
      go_wp2_with fail
      go_end0
      exact ⟨rfl, cv', L', HWs.out, HE.out, HC4.out⟩
theorem WrOk.cell {wb mb B : Nat} {L : List Ins} {cv : Value} {V V' : World} (h : WrOk wb mb B cv L V V') : V'.cell? ⟨wb, 1, none⟩ = some (.map (some mb)) := by
  obtain ⟨cv', hW, _⟩ := h
  exact (w_cells hW.blk).2
theorem wr_leaf {wb mb B : Nat} {L : List Ins} {cv : Value} {V V1 V' : World} {T : ByteArray → Int} {op n loc : Int} {s : ByteArray} {v : Value} {i : Ins} (h11 : op ≠ 11) (h9 : op ≠ 9) (hi : lastI T op n s 0 = i) (hE1 : Em wb V V1 cv.ownBlock cv.ownBlock) (hW : WrOk wb mb B cv (L ++ [i]) V1 V') : Wr wb mb B L cv V (clenX (.mk op n s v [])) (fun L' => CodeX L' T loc (.mk op n s v []) L.length) (.returned (.tuple #[])) V' := by
  obtain ⟨cv', hW, hE⟩ := hW
  refine ⟨rfl, cv', _, hW, hE1.trans hE, by rw [clenX_mk, if_neg h9, clenL_nil]; simp, fun j hj => List.getElem?_append_left hj, ?_⟩
  show CodeX _ T loc _ L.length
  unfold CodeX
  rw [if_neg h11, if_neg h9]
  refine ⟨codeS_nil .., ?_⟩
  rw [clenL_nil, Nat.add_zero, List.getElem?_append_right (Nat.le_refl _), Nat.sub_self]
  exact congrArg some hi.symm
theorem wr_node {wb mb B : Nat} {L L1 : List Ins} {cv cv1 : Value} {V V1 V' : World} {T : ByteArray → Int} {op n loc : Int} {s : ByteArray} {v : Value} {l : List ExpD} {i : Ins} (h11 : op ≠ 11) (h9 : op ≠ 9) (hw : wideL l) (hi : lastI T op n s l.length = i) (hE1 : Em wb V V1 cv.ownBlock cv1.ownBlock) (hl : L1.length = L.length + clenL l) (hp : ∀ i, i < L.length → L1[i]? = L[i]?) (hc : CodeS L1 T loc l L.length) (hW : WrOk wb mb B cv1 (L1 ++ [i]) V1 V') : Wr wb mb B L cv V (clenX (.mk op n s v l)) (fun L' => CodeX L' T loc (.mk op n s v l) L.length) (.returned (.tuple #[])) V' := by
  obtain ⟨cv', hW, hE⟩ := hW
  refine ⟨rfl, cv', _, hW, hE1.trans hE, by rw [clenX_mk, if_neg h9, List.length_append, hl]; simp; omega, fun j hj => (List.getElem?_append_left (by omega)).trans (hp j hj), ?_⟩
  show CodeX _ T loc _ L.length
  unfold CodeX
  rw [if_neg h11, if_neg h9]
  refine ⟨codeS_stays (fun y _ => code_stays y) hw hc fun j _ hj => List.getElem?_append_left (by omega), ?_⟩
  rw [← hl, List.getElem?_append_right (Nat.le_refl _), Nat.sub_self]
  exact congrArg some hi.symm
theorem wide_parts {caps : Int} {clo : Int → Int → Bool} {loc op n : Int} {s : ByteArray} {v : Value} {l : List ExpD} (h : flatX caps clo loc (.mk op n s v l) = true) : wideL l := by
  have := wide_of_flat _ _ h
  unfold wideX at this
  exact this.2
theorem lo_plain {op loc : Int} (h11 : op ≠ 11) (h9 : op ≠ 9) (i : Nat) : lo op loc i = loc := by
  unfold lo bump
  rw [if_neg (show ¬ (op = 9 ∨ op = 11) by omega)]
  split <;> omega

set_option maxHeartbeats 1000000 in
set_option maxRecDepth 100000 in
theorem exp_2_gen (T : ByteArray → Int) (wb mb B B0 : Nat) (n : Int) (s : ByteArray) (a : Option Addr) (c : Nat) (loc : Int) (cv : Value) (L : List Ins) (V : World) (h : Wg V wb mb B B0 cv L T) (hL : L.length ≤ 100000) :
    Calls Tryz.prog 50 #[.pointer (some ⟨wb, 0, none⟩), .agg #[.int .i64 2, .int .i64 n, .string s, .slice a 0 c], .int .i64 loc] V (Wr wb mb B L cv V (clenX (.mk 2 n s (.slice a 0 c) [])) (fun L' => CodeX L' T loc (.mk 2 n s (.slice a 0 c) []) L.length)) := by
  have hg := grown_alloc V (.cells #[.int .i64 2, .int .i64 n, .string s, .slice a 0 c] 29)
  have gP := new_heap V (.cells #[.int .i64 2, .int .i64 n, .string s, .slice a 0 c] 29)
  obtain ⟨p0, p1, p2, p3⟩ := exp_box gP
  have HM := Lib.hid (emit2_any wb mb B cv L 1 n 0 _ (h.st.free hg) (Nat.le_trans h.size hg.size) (by omega))
  have HE := Lib.hid (Em.free (wb := wb) (r := cv.ownBlock) hg)
  clear h gP hg
  go_enter Tryz.func50, Tryz.ntmps50
  go_wp2_with fail
  refine HM.out.mono ?_
  rintro e V2 ⟨rfl, hW⟩
  have HR := Lib.hid (wr_leaf (T := T) (n := n) (s := s) (loc := loc) (v := .slice a 0 c) (op := 2) (by decide) (by decide) rfl HE.out hW)
  clear hW
  go_wp2_with fail
  go_end0
  exact HR.out
set_option maxHeartbeats 1000000 in
set_option maxRecDepth 100000 in
theorem exp_13_gen (T : ByteArray → Int) (wb mb B B0 : Nat) (n : Int) (s : ByteArray) (a : Option Addr) (c : Nat) (loc : Int) (cv : Value) (L : List Ins) (V : World) (h : Wg V wb mb B B0 cv L T) (hL : L.length ≤ 100000) :
    Calls Tryz.prog 50 #[.pointer (some ⟨wb, 0, none⟩), .agg #[.int .i64 13, .int .i64 n, .string s, .slice a 0 c], .int .i64 loc] V (Wr wb mb B L cv V (clenX (.mk 13 n s (.slice a 0 c) [])) (fun L' => CodeX L' T loc (.mk 13 n s (.slice a 0 c) []) L.length)) := by
  have hg := grown_alloc V (.cells #[.int .i64 13, .int .i64 n, .string s, .slice a 0 c] 29)
  have gP := new_heap V (.cells #[.int .i64 13, .int .i64 n, .string s, .slice a 0 c] 29)
  obtain ⟨p0, p1, p2, p3⟩ := exp_box gP
  have HM := Lib.hid (emit2_any wb mb B cv L 16 n 0 _ (h.st.free hg) (Nat.le_trans h.size hg.size) (by omega))
  have HE := Lib.hid (Em.free (wb := wb) (r := cv.ownBlock) hg)
  clear h gP hg
  go_enter Tryz.func50, Tryz.ntmps50
  go_wp2_with fail
  refine HM.out.mono ?_
  rintro e V2 ⟨rfl, hW⟩
  have HR := Lib.hid (wr_leaf (T := T) (n := n) (s := s) (loc := loc) (v := .slice a 0 c) (op := 13) (by decide) (by decide) rfl HE.out hW)
  clear hW
  go_wp2_with fail
  go_end0
  exact HR.out
set_option maxHeartbeats 1000000 in
set_option maxRecDepth 100000 in
theorem exp_21_gen (T : ByteArray → Int) (wb mb B B0 : Nat) (n : Int) (s : ByteArray) (a : Option Addr) (c : Nat) (loc : Int) (cv : Value) (L : List Ins) (V : World) (h : Wg V wb mb B B0 cv L T) (hL : L.length ≤ 100000) :
    Calls Tryz.prog 50 #[.pointer (some ⟨wb, 0, none⟩), .agg #[.int .i64 21, .int .i64 n, .string s, .slice a 0 c], .int .i64 loc] V (Wr wb mb B L cv V (clenX (.mk 21 n s (.slice a 0 c) [])) (fun L' => CodeX L' T loc (.mk 21 n s (.slice a 0 c) []) L.length)) := by
  have hg := grown_alloc V (.cells #[.int .i64 21, .int .i64 n, .string s, .slice a 0 c] 29)
  have gP := new_heap V (.cells #[.int .i64 21, .int .i64 n, .string s, .slice a 0 c] 29)
  obtain ⟨p0, p1, p2, p3⟩ := exp_box gP
  have HM := Lib.hid (emit2_any wb mb B cv L 3 n 0 _ (h.st.free hg) (Nat.le_trans h.size hg.size) (by omega))
  have HE := Lib.hid (Em.free (wb := wb) (r := cv.ownBlock) hg)
  clear h gP hg
  go_enter Tryz.func50, Tryz.ntmps50
  go_wp2_with fail
  refine HM.out.mono ?_
  rintro e V2 ⟨rfl, hW⟩
  have HR := Lib.hid (wr_leaf (T := T) (n := n) (s := s) (loc := loc) (v := .slice a 0 c) (op := 21) (by decide) (by decide) rfl HE.out hW)
  clear hW
  go_wp2_with fail
  go_end0
  exact HR.out
set_option maxHeartbeats 1000000 in
set_option maxRecDepth 100000 in
theorem exp_22_gen (T : ByteArray → Int) (wb mb B B0 : Nat) (n : Int) (s : ByteArray) (a : Option Addr) (c : Nat) (loc : Int) (cv : Value) (L : List Ins) (V : World) (h : Wg V wb mb B B0 cv L T) (hL : L.length ≤ 100000) :
    Calls Tryz.prog 50 #[.pointer (some ⟨wb, 0, none⟩), .agg #[.int .i64 22, .int .i64 n, .string s, .slice a 0 c], .int .i64 loc] V (Wr wb mb B L cv V (clenX (.mk 22 n s (.slice a 0 c) [])) (fun L' => CodeX L' T loc (.mk 22 n s (.slice a 0 c) []) L.length)) := by
  have hg := grown_alloc V (.cells #[.int .i64 22, .int .i64 n, .string s, .slice a 0 c] 29)
  have gP := new_heap V (.cells #[.int .i64 22, .int .i64 n, .string s, .slice a 0 c] 29)
  obtain ⟨p0, p1, p2, p3⟩ := exp_box gP
  have HM := Lib.hid (emit2_any wb mb B cv L 6 0 0 _ (h.st.free hg) (Nat.le_trans h.size hg.size) (by omega))
  have HE := Lib.hid (Em.free (wb := wb) (r := cv.ownBlock) hg)
  clear h gP hg
  go_enter Tryz.func50, Tryz.ntmps50
  go_wp2_with fail
  refine HM.out.mono ?_
  rintro e V2 ⟨rfl, hW⟩
  have HR := Lib.hid (wr_leaf (T := T) (n := n) (s := s) (loc := loc) (v := .slice a 0 c) (op := 22) (by decide) (by decide) rfl HE.out hW)
  clear hW
  go_wp2_with fail
  go_end0
  exact HR.out
set_option maxHeartbeats 1000000 in
set_option maxRecDepth 100000 in
theorem exp_23_gen (T : ByteArray → Int) (wb mb B B0 : Nat) (n : Int) (s : ByteArray) (a : Option Addr) (c : Nat) (loc : Int) (cv : Value) (L : List Ins) (V : World) (h : Wg V wb mb B B0 cv L T) (hL : L.length ≤ 100000) :
    Calls Tryz.prog 50 #[.pointer (some ⟨wb, 0, none⟩), .agg #[.int .i64 23, .int .i64 n, .string s, .slice a 0 c], .int .i64 loc] V (Wr wb mb B L cv V (clenX (.mk 23 n s (.slice a 0 c) [])) (fun L' => CodeX L' T loc (.mk 23 n s (.slice a 0 c) []) L.length)) := by
  have hg := grown_alloc V (.cells #[.int .i64 23, .int .i64 n, .string s, .slice a 0 c] 29)
  have gP := new_heap V (.cells #[.int .i64 23, .int .i64 n, .string s, .slice a 0 c] 29)
  obtain ⟨p0, p1, p2, p3⟩ := exp_box gP
  have HM := Lib.hid (emit2_any wb mb B cv L 5 n 0 _ (h.st.free hg) (Nat.le_trans h.size hg.size) (by omega))
  have HE := Lib.hid (Em.free (wb := wb) (r := cv.ownBlock) hg)
  clear h gP hg
  go_enter Tryz.func50, Tryz.ntmps50
  go_wp2_with fail
  refine HM.out.mono ?_
  rintro e V2 ⟨rfl, hW⟩
  have HR := Lib.hid (wr_leaf (T := T) (n := n) (s := s) (loc := loc) (v := .slice a 0 c) (op := 23) (by decide) (by decide) rfl HE.out hW)
  clear hW
  go_wp2_with fail
  go_end0
  exact HR.out
set_option maxHeartbeats 1000000 in
set_option maxRecDepth 100000 in
theorem exp_3_gen (T : ByteArray → Int) (wb mb B B0 : Nat) (n : Int) (s : ByteArray) (a : Option Addr) (c : Nat) (loc : Int) (cv : Value) (L : List Ins) (V : World) (h : Wg V wb mb B B0 cv L T) (hL : L.length ≤ 100000) (hs : s.size ≤ maxLen) :
    Calls Tryz.prog 50 #[.pointer (some ⟨wb, 0, none⟩), .agg #[.int .i64 3, .int .i64 n, .string s, .slice a 0 c], .int .i64 loc] V (Wr wb mb B L cv V (clenX (.mk 3 n s (.slice a 0 c) [])) (fun L' => CodeX L' T loc (.mk 3 n s (.slice a 0 c) []) L.length)) := by
  have hg := grown_alloc V (.cells #[.int .i64 3, .int .i64 n, .string s, .slice a 0 c] 29)
  have gP := new_heap V (.cells #[.int .i64 3, .int .i64 n, .string s, .slice a 0 c] 29)
  obtain ⟨p0, p1, p2, p3⟩ := exp_box gP
  have hW2 := h.free hg
  generalize hW0 : V.alloc (.cells #[.int .i64 3, .int .i64 n, .string s, .slice a 0 c] 29) = W at *
  have HM := Lib.hid (fun (W2 : World) (hd : W.grownBy W2 none) => emit2_any wb mb B cv L 2 (T s) 0 W2 (hW2.st.free hd) (Nat.le_trans hW2.size hd.size) (by omega))
  have HE := Lib.hid (Em.free (wb := wb) (r := cv.ownBlock) hg)
  have hlk := hW2.tm.look s hs
  have hlk2 := (hW2.free (grown_drew W)).tm.look s hs
  obtain ⟨d0, d1⟩ := w_cells hW2.st.blk
  have HMd := Lib.hid (HM.out _ (grown_drew W))
  have HD := Lib.hid (Em.free (wb := wb) (r := cv.ownBlock) (grown_drew W))
  have hwl0 := heap_lt h.st.blk
  have hcl0 := owns_lt h.st.own
  have HK := Lib.hid (fun (V2 : World) (hV : WrOk wb mb B cv (L ++ [⟨2, T s, 0⟩]) W.drew V2) => show V2.cell? ⟨V.heap.size, 2, none⟩ = some (.string s) from by
    obtain ⟨cv', _, hE⟩ := hV
    have := (hE.kept V.heap.size (heap_lt gP) (by omega) (fun e => by have := (hcl0 _ e).2; omega)).trans gP
    exact (exp_box this).2.2.1)
  clear h gP hg hW2 HM
  go_enter Tryz.func50, Tryz.ntmps50
  go_upto_region 5 with fail
  clear hW0
  go_region_held3 (fun w' => w'.cell? ⟨wb, 1, none⟩ = some (.map (some mb)) ∧ w'.cell? ⟨V.heap.size, 2, none⟩ = some (.string s)) (first | exact ⟨d1, p2⟩ | exact ⟨k1, k2⟩)
    ((go_at_call 51; refine HMd.out.mono ?_; rintro e V2 ⟨rfl, hW⟩; have k1 := hW.cell; have k2 := HK.out V2 hW))
  all_goals
    have HR := Lib.hid (wr_leaf (T := T) (n := n) (s := s) (loc := loc) (v := .slice a 0 c) (op := 3) (by decide) (by decide) rfl (HE.out.trans HD.out) hW)
    clear hW
    go_wp2_with fail
    go_end0
    exact HR.out
set_option maxHeartbeats 1000000 in
set_option maxRecDepth 100000 in
theorem exp_6_gen (caps : Int) (clo : Int → Int → Bool) (T : ByteArray → Int) (wb mb B B0 : Nat) (l : List ExpD) (H : ∀ y ∈ l, ExpAll caps clo T wb mb B B0 y) (n : Int) (s : ByteArray) (a : Option Addr) (c : Nat) (loc : Int) (cv : Value) (L : List Ins) (V : World) (h : Wg V wb mb B B0 cv L T) (hx : IsExp B0 V (.mk 6 n s (.slice a l.length c) l)) (hf : flatX caps clo loc (.mk 6 n s (.slice a l.length c) l) = true) (h0 : 0 ≤ loc) (hh : loc + heightL l ≤ 100000) (hL : L.length + clenL l ≤ 100000) :
    Calls Tryz.prog 50 #[.pointer (some ⟨wb, 0, none⟩), .agg #[.int .i64 6, .int .i64 n, .string s, .slice a l.length c], .int .i64 loc] V (Wr wb mb B L cv V (clenX (.mk 6 n s (.slice a l.length c) l)) (fun L' => CodeX L' T loc (.mk 6 n s (.slice a l.length c) l) L.length)) := by
  have hg := grown_alloc V (.cells #[.int .i64 6, .int .i64 n, .string s, .slice a l.length c] 29)
  have gP := new_heap V (.cells #[.int .i64 6, .int .i64 n, .string s, .slice a l.length c] 29)
  obtain ⟨p0, p1, p2, p3⟩ := exp_box gP
  have HE1 := Lib.hid (Em.free (wb := wb) (r := cv.ownBlock) hg)
  have hW2 := h.free hg
  have hx2 := hx.under (h.below HE1.out)
  obtain ⟨hR, hm, hy⟩ := hx2.parts
  have HX := Lib.hid (all_gen caps clo T wb mb B B0 l H a c loc cv L _ hW2 hR hm hy (fun i hi => by have := (flat_parts hf).2 i hi; rwa [lo_plain (by decide) (by decide)] at this) h0 hh hL)
  have HWL := Lib.hid (wide_parts hf)
  have hwl0 := heap_lt h.st.blk
  have hcl0 := owns_lt h.st.own
  have H2 := Lib.hid hW2
  have HGP := Lib.hid gP
  have hm' : l.length ≤ 9223372036854775807 := by unfold maxLen at hm; omega
  clear h hx hf gP hg hW2 hx2 hR hm hy H
  go_enter Tryz.func50, Tryz.ntmps50
  go_wp2_with fail
  refine HX.out.mono ?_
  rintro e V2 ⟨rfl, cv1, L1, hW3, hE3, hl3, hp3, hc3⟩
  have gP2 := (hE3.kept _ (heap_lt HGP.out) (by omega) (fun e => by have := (hcl0 _ e).2; omega)).trans HGP.out
  have HE3 := Lib.hid (HE1.out.trans hE3)
  have HM := Lib.hid (emit2_any wb mb B cv1 L1 10 (l.length : Int) 0 V2 hW3 (Nat.le_trans H2.out.size hE3.size) (by omega))
  have HC3 : Hid (L1.length = L.length + clenL l ∧ (∀ i, i < L.length → L1[i]? = L[i]?) ∧ CodeS L1 T loc l L.length) := ⟨hl3, hp3, hc3⟩
  clear p0 p1 p2 p3 hW3 hE3 hp3 hc3 HX
  obtain ⟨p0, p1, p2, p3⟩ := exp_box gP2
  go_wp2_with fail
  refine HM.out.mono ?_
  rintro e V3 ⟨rfl, hW⟩
  have HR := Lib.hid (wr_node (n := n) (s := s) (v := .slice a l.length c) (op := 6) (by decide) (by decide) HWL.out rfl HE3.out HC3.out.1 HC3.out.2.1 HC3.out.2.2 hW)
  clear hW
  go_wp2_with fail
  go_end0
  exact HR.out
set_option maxHeartbeats 1000000 in
set_option maxRecDepth 100000 in
theorem exp_7_gen (caps : Int) (clo : Int → Int → Bool) (T : ByteArray → Int) (wb mb B B0 : Nat) (l : List ExpD) (H : ∀ y ∈ l, ExpAll caps clo T wb mb B B0 y) (n : Int) (s : ByteArray) (a : Option Addr) (c : Nat) (loc : Int) (cv : Value) (L : List Ins) (V : World) (h : Wg V wb mb B B0 cv L T) (hx : IsExp B0 V (.mk 7 n s (.slice a l.length c) l)) (hf : flatX caps clo loc (.mk 7 n s (.slice a l.length c) l) = true) (h0 : 0 ≤ loc) (hh : loc + heightL l ≤ 100000) (hL : L.length + clenL l ≤ 100000) :
    Calls Tryz.prog 50 #[.pointer (some ⟨wb, 0, none⟩), .agg #[.int .i64 7, .int .i64 n, .string s, .slice a l.length c], .int .i64 loc] V (Wr wb mb B L cv V (clenX (.mk 7 n s (.slice a l.length c) l)) (fun L' => CodeX L' T loc (.mk 7 n s (.slice a l.length c) l) L.length)) := by
  have hg := grown_alloc V (.cells #[.int .i64 7, .int .i64 n, .string s, .slice a l.length c] 29)
  have gP := new_heap V (.cells #[.int .i64 7, .int .i64 n, .string s, .slice a l.length c] 29)
  obtain ⟨p0, p1, p2, p3⟩ := exp_box gP
  have HE1 := Lib.hid (Em.free (wb := wb) (r := cv.ownBlock) hg)
  have hW2 := h.free hg
  have hx2 := hx.under (h.below HE1.out)
  obtain ⟨hR, hm, hy⟩ := hx2.parts
  have HX := Lib.hid (all_gen caps clo T wb mb B B0 l H a c loc cv L _ hW2 hR hm hy (fun i hi => by have := (flat_parts hf).2 i hi; rwa [lo_plain (by decide) (by decide)] at this) h0 hh hL)
  have HWL := Lib.hid (wide_parts hf)
  have hwl0 := heap_lt h.st.blk
  have hcl0 := owns_lt h.st.own
  have H2 := Lib.hid hW2
  have HGP := Lib.hid gP
  have hm' : l.length ≤ 9223372036854775807 := by unfold maxLen at hm; omega
  clear h hx hf gP hg hW2 hx2 hR hm hy H
  go_enter Tryz.func50, Tryz.ntmps50
  go_wp2_with fail
  refine HX.out.mono ?_
  rintro e V2 ⟨rfl, cv1, L1, hW3, hE3, hl3, hp3, hc3⟩
  have gP2 := (hE3.kept _ (heap_lt HGP.out) (by omega) (fun e => by have := (hcl0 _ e).2; omega)).trans HGP.out
  have HE3 := Lib.hid (HE1.out.trans hE3)
  have HM := Lib.hid (emit2_any wb mb B cv1 L1 11 n 0 V2 hW3 (Nat.le_trans H2.out.size hE3.size) (by omega))
  have HC3 : Hid (L1.length = L.length + clenL l ∧ (∀ i, i < L.length → L1[i]? = L[i]?) ∧ CodeS L1 T loc l L.length) := ⟨hl3, hp3, hc3⟩
  clear p0 p1 p2 p3 hW3 hE3 hp3 hc3 HX
  obtain ⟨p0, p1, p2, p3⟩ := exp_box gP2
  go_wp2_with fail
  refine HM.out.mono ?_
  rintro e V3 ⟨rfl, hW⟩
  have HR := Lib.hid (wr_node (n := n) (s := s) (v := .slice a l.length c) (op := 7) (by decide) (by decide) HWL.out rfl HE3.out HC3.out.1 HC3.out.2.1 HC3.out.2.2 hW)
  clear hW
  go_wp2_with fail
  go_end0
  exact HR.out
set_option maxHeartbeats 1000000 in
set_option maxRecDepth 100000 in
theorem exp_8_gen (caps : Int) (clo : Int → Int → Bool) (T : ByteArray → Int) (wb mb B B0 : Nat) (l : List ExpD) (H : ∀ y ∈ l, ExpAll caps clo T wb mb B B0 y) (n : Int) (s : ByteArray) (a : Option Addr) (c : Nat) (loc : Int) (cv : Value) (L : List Ins) (V : World) (h : Wg V wb mb B B0 cv L T) (hx : IsExp B0 V (.mk 8 n s (.slice a l.length c) l)) (hf : flatX caps clo loc (.mk 8 n s (.slice a l.length c) l) = true) (h0 : 0 ≤ loc) (hh : loc + heightL l ≤ 100000) (hL : L.length + clenL l ≤ 100000) :
    Calls Tryz.prog 50 #[.pointer (some ⟨wb, 0, none⟩), .agg #[.int .i64 8, .int .i64 n, .string s, .slice a l.length c], .int .i64 loc] V (Wr wb mb B L cv V (clenX (.mk 8 n s (.slice a l.length c) l)) (fun L' => CodeX L' T loc (.mk 8 n s (.slice a l.length c) l) L.length)) := by
  have hg := grown_alloc V (.cells #[.int .i64 8, .int .i64 n, .string s, .slice a l.length c] 29)
  have gP := new_heap V (.cells #[.int .i64 8, .int .i64 n, .string s, .slice a l.length c] 29)
  obtain ⟨p0, p1, p2, p3⟩ := exp_box gP
  have HE1 := Lib.hid (Em.free (wb := wb) (r := cv.ownBlock) hg)
  have hW2 := h.free hg
  have hx2 := hx.under (h.below HE1.out)
  obtain ⟨hR, hm, hy⟩ := hx2.parts
  have HX := Lib.hid (all_gen caps clo T wb mb B B0 l H a c loc cv L _ hW2 hR hm hy (fun i hi => by have := (flat_parts hf).2 i hi; rwa [lo_plain (by decide) (by decide)] at this) h0 hh hL)
  have HWL := Lib.hid (wide_parts hf)
  have hwl0 := heap_lt h.st.blk
  have hcl0 := owns_lt h.st.own
  have H2 := Lib.hid hW2
  have HGP := Lib.hid gP
  have hm' : l.length ≤ 9223372036854775807 := by unfold maxLen at hm; omega
  clear h hx hf gP hg hW2 hx2 hR hm hy H
  go_enter Tryz.func50, Tryz.ntmps50
  go_wp2_with fail
  refine HX.out.mono ?_
  rintro e V2 ⟨rfl, cv1, L1, hW3, hE3, hl3, hp3, hc3⟩
  have gP2 := (hE3.kept _ (heap_lt HGP.out) (by omega) (fun e => by have := (hcl0 _ e).2; omega)).trans HGP.out
  have HE3 := Lib.hid (HE1.out.trans hE3)
  have HM := Lib.hid (emit2_any wb mb B cv1 L1 12 n 0 V2 hW3 (Nat.le_trans H2.out.size hE3.size) (by omega))
  have HC3 : Hid (L1.length = L.length + clenL l ∧ (∀ i, i < L.length → L1[i]? = L[i]?) ∧ CodeS L1 T loc l L.length) := ⟨hl3, hp3, hc3⟩
  clear p0 p1 p2 p3 hW3 hE3 hp3 hc3 HX
  obtain ⟨p0, p1, p2, p3⟩ := exp_box gP2
  go_wp2_with fail
  refine HM.out.mono ?_
  rintro e V3 ⟨rfl, hW⟩
  have HR := Lib.hid (wr_node (n := n) (s := s) (v := .slice a l.length c) (op := 8) (by decide) (by decide) HWL.out rfl HE3.out HC3.out.1 HC3.out.2.1 HC3.out.2.2 hW)
  clear hW
  go_wp2_with fail
  go_end0
  exact HR.out
set_option maxHeartbeats 1000000 in
set_option maxRecDepth 100000 in
theorem exp_12_gen (caps : Int) (clo : Int → Int → Bool) (T : ByteArray → Int) (wb mb B B0 : Nat) (l : List ExpD) (H : ∀ y ∈ l, ExpAll caps clo T wb mb B B0 y) (n : Int) (s : ByteArray) (a : Option Addr) (c : Nat) (loc : Int) (cv : Value) (L : List Ins) (V : World) (h : Wg V wb mb B B0 cv L T) (hx : IsExp B0 V (.mk 12 n s (.slice a l.length c) l)) (hf : flatX caps clo loc (.mk 12 n s (.slice a l.length c) l) = true) (h0 : 0 ≤ loc) (hh : loc + heightL l ≤ 100000) (hL : L.length + clenL l ≤ 100000) :
    Calls Tryz.prog 50 #[.pointer (some ⟨wb, 0, none⟩), .agg #[.int .i64 12, .int .i64 n, .string s, .slice a l.length c], .int .i64 loc] V (Wr wb mb B L cv V (clenX (.mk 12 n s (.slice a l.length c) l)) (fun L' => CodeX L' T loc (.mk 12 n s (.slice a l.length c) l) L.length)) := by
  have hg := grown_alloc V (.cells #[.int .i64 12, .int .i64 n, .string s, .slice a l.length c] 29)
  have gP := new_heap V (.cells #[.int .i64 12, .int .i64 n, .string s, .slice a l.length c] 29)
  obtain ⟨p0, p1, p2, p3⟩ := exp_box gP
  have HE1 := Lib.hid (Em.free (wb := wb) (r := cv.ownBlock) hg)
  have hW2 := h.free hg
  have hx2 := hx.under (h.below HE1.out)
  obtain ⟨hR, hm, hy⟩ := hx2.parts
  have HX := Lib.hid (all_gen caps clo T wb mb B B0 l H a c loc cv L _ hW2 hR hm hy (fun i hi => by have := (flat_parts hf).2 i hi; rwa [lo_plain (by decide) (by decide)] at this) h0 hh hL)
  have HWL := Lib.hid (wide_parts hf)
  have hwl0 := heap_lt h.st.blk
  have hcl0 := owns_lt h.st.own
  have H2 := Lib.hid hW2
  have HGP := Lib.hid gP
  have hm' : l.length ≤ 9223372036854775807 := by unfold maxLen at hm; omega
  clear h hx hf gP hg hW2 hx2 hR hm hy H
  go_enter Tryz.func50, Tryz.ntmps50
  go_wp2_with fail
  refine HX.out.mono ?_
  rintro e V2 ⟨rfl, cv1, L1, hW3, hE3, hl3, hp3, hc3⟩
  have gP2 := (hE3.kept _ (heap_lt HGP.out) (by omega) (fun e => by have := (hcl0 _ e).2; omega)).trans HGP.out
  have HE3 := Lib.hid (HE1.out.trans hE3)
  have HM := Lib.hid (emit2_any wb mb B cv1 L1 15 n 0 V2 hW3 (Nat.le_trans H2.out.size hE3.size) (by omega))
  have HC3 : Hid (L1.length = L.length + clenL l ∧ (∀ i, i < L.length → L1[i]? = L[i]?) ∧ CodeS L1 T loc l L.length) := ⟨hl3, hp3, hc3⟩
  clear p0 p1 p2 p3 hW3 hE3 hp3 hc3 HX
  obtain ⟨p0, p1, p2, p3⟩ := exp_box gP2
  go_wp2_with fail
  refine HM.out.mono ?_
  rintro e V3 ⟨rfl, hW⟩
  have HR := Lib.hid (wr_node (n := n) (s := s) (v := .slice a l.length c) (op := 12) (by decide) (by decide) HWL.out rfl HE3.out HC3.out.1 HC3.out.2.1 HC3.out.2.2 hW)
  clear hW
  go_wp2_with fail
  go_end0
  exact HR.out
set_option maxHeartbeats 1000000 in
set_option maxRecDepth 100000 in
theorem exp_24_gen (caps : Int) (clo : Int → Int → Bool) (T : ByteArray → Int) (wb mb B B0 : Nat) (l : List ExpD) (H : ∀ y ∈ l, ExpAll caps clo T wb mb B B0 y) (n : Int) (s : ByteArray) (a : Option Addr) (c : Nat) (loc : Int) (cv : Value) (L : List Ins) (V : World) (h : Wg V wb mb B B0 cv L T) (hx : IsExp B0 V (.mk 24 n s (.slice a l.length c) l)) (hf : flatX caps clo loc (.mk 24 n s (.slice a l.length c) l) = true) (h0 : 0 ≤ loc) (hh : loc + heightL l ≤ 100000) (hL : L.length + clenL l ≤ 100000) :
    Calls Tryz.prog 50 #[.pointer (some ⟨wb, 0, none⟩), .agg #[.int .i64 24, .int .i64 n, .string s, .slice a l.length c], .int .i64 loc] V (Wr wb mb B L cv V (clenX (.mk 24 n s (.slice a l.length c) l)) (fun L' => CodeX L' T loc (.mk 24 n s (.slice a l.length c) l) L.length)) := by
  have hg := grown_alloc V (.cells #[.int .i64 24, .int .i64 n, .string s, .slice a l.length c] 29)
  have gP := new_heap V (.cells #[.int .i64 24, .int .i64 n, .string s, .slice a l.length c] 29)
  obtain ⟨p0, p1, p2, p3⟩ := exp_box gP
  have HE1 := Lib.hid (Em.free (wb := wb) (r := cv.ownBlock) hg)
  have hW2 := h.free hg
  have hx2 := hx.under (h.below HE1.out)
  obtain ⟨hR, hm, hy⟩ := hx2.parts
  have HX := Lib.hid (all_gen caps clo T wb mb B B0 l H a c loc cv L _ hW2 hR hm hy (fun i hi => by have := (flat_parts hf).2 i hi; rwa [lo_plain (by decide) (by decide)] at this) h0 hh hL)
  have HWL := Lib.hid (wide_parts hf)
  have hwl0 := heap_lt h.st.blk
  have hcl0 := owns_lt h.st.own
  have H2 := Lib.hid hW2
  have HGP := Lib.hid gP
  have hm' : l.length ≤ 9223372036854775807 := by unfold maxLen at hm; omega
  clear h hx hf gP hg hW2 hx2 hR hm hy H
  go_enter Tryz.func50, Tryz.ntmps50
  go_wp2_with fail
  refine HX.out.mono ?_
  rintro e V2 ⟨rfl, cv1, L1, hW3, hE3, hl3, hp3, hc3⟩
  have gP2 := (hE3.kept _ (heap_lt HGP.out) (by omega) (fun e => by have := (hcl0 _ e).2; omega)).trans HGP.out
  have HE3 := Lib.hid (HE1.out.trans hE3)
  have HM := Lib.hid (emit2_any wb mb B cv1 L1 7 n (l.length : Int) V2 hW3 (Nat.le_trans H2.out.size hE3.size) (by omega))
  have HC3 : Hid (L1.length = L.length + clenL l ∧ (∀ i, i < L.length → L1[i]? = L[i]?) ∧ CodeS L1 T loc l L.length) := ⟨hl3, hp3, hc3⟩
  clear p0 p1 p2 p3 hW3 hE3 hp3 hc3 HX
  obtain ⟨p0, p1, p2, p3⟩ := exp_box gP2
  go_wp2_with fail
  refine HM.out.mono ?_
  rintro e V3 ⟨rfl, hW⟩
  have HR := Lib.hid (wr_node (n := n) (s := s) (v := .slice a l.length c) (op := 24) (by decide) (by decide) HWL.out rfl HE3.out HC3.out.1 HC3.out.2.1 HC3.out.2.2 hW)
  clear hW
  go_wp2_with fail
  go_end0
  exact HR.out
set_option maxHeartbeats 1000000 in
set_option maxRecDepth 100000 in
theorem exp_25_gen (caps : Int) (clo : Int → Int → Bool) (T : ByteArray → Int) (wb mb B B0 : Nat) (l : List ExpD) (H : ∀ y ∈ l, ExpAll caps clo T wb mb B B0 y) (n : Int) (s : ByteArray) (a : Option Addr) (c : Nat) (loc : Int) (cv : Value) (L : List Ins) (V : World) (h : Wg V wb mb B B0 cv L T) (hx : IsExp B0 V (.mk 25 n s (.slice a l.length c) l)) (hf : flatX caps clo loc (.mk 25 n s (.slice a l.length c) l) = true) (h0 : 0 ≤ loc) (hh : loc + heightL l ≤ 100000) (hL : L.length + clenL l ≤ 100000) :
    Calls Tryz.prog 50 #[.pointer (some ⟨wb, 0, none⟩), .agg #[.int .i64 25, .int .i64 n, .string s, .slice a l.length c], .int .i64 loc] V (Wr wb mb B L cv V (clenX (.mk 25 n s (.slice a l.length c) l)) (fun L' => CodeX L' T loc (.mk 25 n s (.slice a l.length c) l) L.length)) := by
  have hg := grown_alloc V (.cells #[.int .i64 25, .int .i64 n, .string s, .slice a l.length c] 29)
  have gP := new_heap V (.cells #[.int .i64 25, .int .i64 n, .string s, .slice a l.length c] 29)
  obtain ⟨p0, p1, p2, p3⟩ := exp_box gP
  have HE1 := Lib.hid (Em.free (wb := wb) (r := cv.ownBlock) hg)
  have hW2 := h.free hg
  have hx2 := hx.under (h.below HE1.out)
  obtain ⟨hR, hm, hy⟩ := hx2.parts
  have HX := Lib.hid (all_gen caps clo T wb mb B B0 l H a c loc cv L _ hW2 hR hm hy (fun i hi => by have := (flat_parts hf).2 i hi; rwa [lo_plain (by decide) (by decide)] at this) h0 hh hL)
  have HWL := Lib.hid (wide_parts hf)
  have hwl0 := heap_lt h.st.blk
  have hcl0 := owns_lt h.st.own
  have H2 := Lib.hid hW2
  have HGP := Lib.hid gP
  have hm' : l.length ≤ 9223372036854775807 := by unfold maxLen at hm; omega
  clear h hx hf gP hg hW2 hx2 hR hm hy H
  go_enter Tryz.func50, Tryz.ntmps50
  go_wp2_with fail
  refine HX.out.mono ?_
  rintro e V2 ⟨rfl, cv1, L1, hW3, hE3, hl3, hp3, hc3⟩
  have gP2 := (hE3.kept _ (heap_lt HGP.out) (by omega) (fun e => by have := (hcl0 _ e).2; omega)).trans HGP.out
  have HE3 := Lib.hid (HE1.out.trans hE3)
  have HM := Lib.hid (emit2_any wb mb B cv1 L1 8 0 0 V2 hW3 (Nat.le_trans H2.out.size hE3.size) (by omega))
  have HC3 : Hid (L1.length = L.length + clenL l ∧ (∀ i, i < L.length → L1[i]? = L[i]?) ∧ CodeS L1 T loc l L.length) := ⟨hl3, hp3, hc3⟩
  clear p0 p1 p2 p3 hW3 hE3 hp3 hc3 HX
  obtain ⟨p0, p1, p2, p3⟩ := exp_box gP2
  go_wp2_with fail
  refine HM.out.mono ?_
  rintro e V3 ⟨rfl, hW⟩
  have HR := Lib.hid (wr_node (n := n) (s := s) (v := .slice a l.length c) (op := 25) (by decide) (by decide) HWL.out rfl HE3.out HC3.out.1 HC3.out.2.1 HC3.out.2.2 hW)
  clear hW
  go_wp2_with fail
  go_end0
  exact HR.out
end Go.Proofs.YtidolpcbbbakmaaGreat
