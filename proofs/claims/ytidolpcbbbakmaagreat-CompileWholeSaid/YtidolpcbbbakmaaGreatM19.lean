/- The writer: exp at a let. The code of a choice while it is written (plain). -/
import Derived.Test.YtidolpcbbbakmaaGreatM18
namespace Go.Proofs.YtidolpcbbbakmaaGreat
open Go Go.RowKit
open Go.Maps

theorem clen_let (n : Int) (s : ByteArray) (v : Value) (x y : ExpD) : clenX (.mk 11 n s v [x, y]) = clenX x + 1 + clenX y := by
  rw [clenX_mk, if_neg (by decide), clenL_cons, clenL_cons, clenL_nil]; omega
theorem wr_let {wb mb B : Nat} {L L1 : List Ins} {cv cv2 : Value} {V V2 V' : World} {T : ByteArray → Int} {n loc : Int} {s : ByteArray} {v : Value} {x y : ExpD} (hwx : wideX x) (hE1 : Em wb V V2 cv.ownBlock cv2.ownBlock) (hl : L1.length = L.length + clenX x) (hp : ∀ i, i < L.length → L1[i]? = L[i]?) (hc : CodeX L1 T loc x L.length)
    (hW : Wr wb mb B (L1 ++ [⟨4, loc, 0⟩]) cv2 V2 (clenX y) (fun L' => CodeX L' T (loc + 1) y (L1 ++ [(⟨4, loc, 0⟩ : Ins)]).length) (.returned (.tuple #[])) V') : Wr wb mb B L cv V (clenX (.mk 11 n s v [x, y])) (fun L' => CodeX L' T loc (.mk 11 n s v [x, y]) L.length) (.returned (.tuple #[])) V' := by
  obtain ⟨_, cv', L', hW, hE, hl2, hp2, hc2⟩ := hW
  rw [List.length_append, List.length_singleton] at hl2 hp2 hc2
  have hp3 : ∀ i, i < L1.length → L'[i]? = L1[i]? := fun i hi => (hp2 i (by omega)).trans (List.getElem?_append_left hi)
  refine ⟨rfl, cv', L', hW, hE1.trans hE, by rw [clen_let]; omega, pre_trans hp (by omega) hp3, ?_⟩
  show CodeX _ T loc _ L.length
  unfold CodeX
  rw [if_pos rfl]
  unfold CodeLet
  refine ⟨code_stays x hwx _ _ hc fun i _ hi => hp3 i (by omega), ?_, ?_⟩
  · rw [← hl, hp2 _ (by omega), List.getElem?_append_right (Nat.le_refl _), Nat.sub_self]; rfl
  · rw [codeS_cons, ← hl]
    exact ⟨hc2, codeS_nil ..⟩
set_option maxHeartbeats 2000000 in
set_option maxRecDepth 100000 in
theorem exp_11_gen (caps : Int) (clo : Int → Int → Bool) (T : ByteArray → Int) (wb mb B B0 : Nat) (x y : ExpD) (Hx : ExpAll caps clo T wb mb B B0 x) (Hy : ExpAll caps clo T wb mb B B0 y) (n : Int) (s : ByteArray) (a : Option Addr) (c : Nat) (loc : Int) (cv : Value) (L : List Ins) (V : World) (h : Wg V wb mb B B0 cv L T) (hx : IsExp B0 V (.mk 11 n s (.slice a 2 c) [x, y])) (hf : flatX caps clo loc (.mk 11 n s (.slice a 2 c) [x, y]) = true) (h0 : 0 ≤ loc) (hh : loc + heightL [x, y] + 1 ≤ 100000) (hL : L.length + clenX (.mk 11 n s (.slice a 2 c) [x, y]) ≤ 100000) :
    Calls Tryz.prog 50 #[.pointer (some ⟨wb, 0, none⟩), .agg #[.int .i64 11, .int .i64 n, .string s, .slice a 2 c], .int .i64 loc] V (Wr wb mb B L cv V (clenX (.mk 11 n s (.slice a 2 c) [x, y])) (fun L' => CodeX L' T loc (.mk 11 n s (.slice a 2 c) [x, y]) L.length)) := by
  have hg := grown_alloc V (.cells #[.int .i64 11, .int .i64 n, .string s, .slice a 2 c] 29)
  have gP := new_heap V (.cells #[.int .i64 11, .int .i64 n, .string s, .slice a 2 c] 29)
  obtain ⟨p0, p1, p2, p3⟩ := exp_box gP
  have HE1 := Lib.hid (Em.free (wb := wb) (r := cv.ownBlock) hg)
  have hW2 := h.free hg
  obtain ⟨hR0, _, hy0⟩ := hx.parts
  have HR := Lib.hid hR0
  have hbx := h.below HE1.out
  have hfx := (flat_parts hf).2 0 (by simp)
  have hfy := (flat_parts hf).2 1 (by simp)
  have hwx : wideX x := (wide_of_flat x _ hfx)
  rw [show lo 11 loc 0 = loc from rfl, show [x, y].getD 0 default = x from rfl] at hfx
  rw [show lo 11 loc 1 = loc + 1 from rfl, show [x, y].getD 1 default = y from rfl] at hfy
  rw [clen_let] at hL
  rw [heightL_cons, heightL_cons, heightL_nil] at hh
  have hyx := hy0 x (by simp)
  have hyy := hy0 y (by simp)
  have hwl0 := heap_lt h.st.blk
  have hcl0 := owns_lt h.st.own
  obtain ⟨b, off, rfl, hbB, c0, c1, c2, c3⟩ := parts_at (l := [x, y]) HR.out hbx 0 (by simp)
  rw [show [x, y].getD 0 default = x from rfl] at c0 c1 c2 c3
  have H0 := Lib.hid h
  have H2 := Lib.hid hW2
  have HGP := Lib.hid gP
  have HX := Lib.hid (Hx loc cv L _ hW2 (hyx.under hbx) hfx h0 (by omega) (by omega))
  have HY := Lib.hid (fun cv2 L2 V2 (hW : Wg V2 wb mb B B0 cv2 L2 T) (hb : Below B0 V V2) (hl : L2.length + clenX y ≤ 100000) => Hy (loc + 1) cv2 L2 V2 hW (hyy.under hb) hfy (by omega) (by omega) hl)
  obtain ⟨xo, xn, xs, xv, xl⟩ := x
  obtain ⟨yo, yn, ys, yv, yl⟩ := y
  obtain ⟨xa, xc, rfl, _⟩ := hyx.parts.1
  obtain ⟨ya, yc, rfl, _⟩ := hyy.parts.1
  simp only [ExpD.op, ExpD.n, ExpD.s, ExpD.lv, Nat.zero_mul, Nat.add_zero] at c0 c1 c2 c3
  rw [expV_mk] at HX HY
  clear h hx hf gP hg hW2 hyx hyy hfx hfy Hx Hy hR0 hy0
  go_enter Tryz.func50, Tryz.ntmps50
  go_wp2_with fail
  refine HX.out.mono ?_
  rintro e V2 ⟨rfl, cv1, L1, hW3, hE3, hl3, hp3, hc3⟩
  have HG3 := Lib.hid (H2.out.step hW3 hE3)
  have HE3 := Lib.hid (HE1.out.trans hE3)
  have gP2 := (hE3.kept _ (heap_lt HGP.out) (by omega) (fun e => by have := (hcl0 _ e).2; omega)).trans HGP.out
  have HM := Lib.hid (emit2_any wb mb B cv1 L1 4 loc 0 V2 hW3 (Nat.le_trans H2.out.size hE3.size) (by omega))
  have HC3 : Hid (L1.length = L.length + _ ∧ (∀ i, i < L.length → L1[i]? = L[i]?) ∧ CodeX L1 T loc _ L.length) := ⟨hl3, hp3, hc3⟩
  have hs3 := hE3.size
  have hlt3 := heap_lt HGP.out
  have hno3 : cv1.ownBlock ≠ some V.heap.size := fun e => by
    rcases hE3.own with e2 | ⟨g, e2, hg⟩
    · rw [e2] at e; have := (hcl0 _ e).2; omega
    · rw [e2] at e; cases e; omega
  clear p0 p1 p2 p3 c0 c1 c2 c3 hW3 hE3 hp3 hc3 HX
  go_wp2_with fail
  refine HM.out.mono ?_
  rintro e V3 ⟨rfl, cv2, hW4, hE4⟩
  have HG4 := Lib.hid (HG3.out.step hW4 hE4)
  have HE4 := Lib.hid (HE3.out.trans hE4)
  have hb4 := H0.out.below HE4.out
  have gP3 := (hE4.kept _ (heap_lt gP2) (by omega) hno3).trans gP2
  have HYY := Lib.hid (HY.out cv2 _ V3 HG4.out hb4 (by rw [List.length_append, List.length_singleton]; omega))
  obtain ⟨b', off', ha, hbB, c0, c1, c2, c3⟩ := parts_at (l := [_, _]) HR.out hb4 1 (Nat.lt_succ_self 1)
  cases ha
  simp only [ExpD.op, ExpD.n, ExpD.s, ExpD.lv, List.getD_cons_succ, List.getD_cons_zero, Nat.one_mul] at c0 c1 c2 c3
  obtain ⟨p0, p1, p2, p3⟩ := exp_box gP3
  clear gP2 gP3 hW4 hE4 HM
  go_wp2_with fail
  refine HYY.out.mono ?_
  rintro e V4 hW5
  have HR5 := Lib.hid (wr_let (n := n) (s := s) (v := .slice (some ⟨b, off, none⟩) 2 c) hwx HE4.out HC3.out.1 HC3.out.2.1 HC3.out.2.2 (by have := hW5.1; subst this; exact hW5))
  have := hW5.1
  subst this
  clear hW5
  go_wp2_with fail
  go_end0
  exact HR5.out
end Go.Proofs.YtidolpcbbbakmaaGreat
namespace Go.Proofs.YtidolpcbbbakmaaGreat
open Go Go.RowKit

section
variable (T : ByteArray → Int) (L : List Ins) (loc : Int) (x0 : ExpD) (r : List ExpD)
/-- Where the table, the branches, and a branch begin; where all ends. -/
def tabP : Nat := L.length + clenX x0 + 1
def braP (j : Nat) : Nat := tabP L x0 + r.length + clenL (r.take j) + j
def endP : Nat := L.length + clenX x0 + clenL r + 2 * r.length
/-- Of the table kt entries are patched; kc branches and ke jumps are written; m jumps are patched. -/
structure SwSt (kt kc ke m : Nat) (M : List Ins) : Prop where
  len : M.length = tabP L x0 + r.length + clenL (r.take kc) + ke
  pre : ∀ i, i < L.length → M[i]? = L[i]?
  c0 : CodeX M T loc x0 L.length
  sw : M[L.length + clenX x0]? = some ⟨13, loc, r.length⟩
  tab : ∀ j, j < r.length → M[tabP L x0 + j]? = some ⟨14, if j < kt then (braP L x0 r j : Int) else 0, 0⟩
  bra : ∀ j, j < kc → CodeX M T (loc + 1) (r.getD j default) (braP L x0 r j)
  jmp : ∀ j, j < ke → M[braP L x0 r j + clenX (r.getD j default)]? = some ⟨14, if j < m then (endP L x0 r : Int) else 0, 0⟩
end
section
variable {T : ByteArray → Int} {L : List Ins} {loc : Int} {x0 : ExpD} {r : List ExpD}
theorem bra_next (j : Nat) (h : j < r.length) : braP L x0 r (j + 1) = braP L x0 r j + clenX (r.getD j default) + 1 := by
  unfold braP; rw [clen_take r j h]; omega
theorem bra_mono : ∀ (d i : Nat), i + d ≤ r.length → braP L x0 r i ≤ braP L x0 r (i + d)
  | 0, i, _ => Nat.le_refl _
  | d + 1, i, h => by have := bra_mono d i (by omega); have := bra_next (L := L) (x0 := x0) (r := r) (i + d) (by omega); rw [← Nat.add_assoc]; omega
/-- A branch before another one ends before it. -/
theorem bra_before {i j : Nat} (h : i < j) (hj : j ≤ r.length) : braP L x0 r i + clenX (r.getD i default) + 1 ≤ braP L x0 r j := by
  have h1 := bra_next (L := L) (x0 := x0) i (show i < r.length by omega)
  have h2 := bra_mono (L := L) (x0 := x0) (r := r) (j - (i + 1)) (i + 1) (by omega)
  rw [show i + 1 + (j - (i + 1)) = j by omega] at h2
  omega
theorem bra_ge (j : Nat) : tabP L x0 + r.length ≤ braP L x0 r j := by unfold braP; omega
theorem bra_end (h : 0 < r.length) : braP L x0 r (r.length - 1) + clenX (r.getD (r.length - 1) default) = endP L x0 r := by
  have := bra_next (L := L) (x0 := x0) (r.length - 1) (show r.length - 1 < r.length by omega)
  rw [show r.length - 1 + 1 = r.length by omega] at this
  have h2 : braP L x0 r r.length = tabP L x0 + r.length + clenL r + r.length := by unfold braP; rw [List.take_length]
  unfold endP; unfold tabP at h2; omega
theorem get_set_ne {M : List Ins} {i j : Nat} {a : Ins} (h : i ≠ j) : (M.set i a)[j]? = M[j]? := List.getElem?_set_ne h
theorem get_set_eq {M : List Ins} {i : Nat} {a : Ins} (h : i < M.length) : (M.set i a)[i]? = some a := by rw [List.getElem?_set_self h]
/-- The table is there, with nothing in it. -/
theorem sw_start {M M2 : List Ins} (hl : M.length = L.length + clenX x0) (hp : ∀ i, i < L.length → M[i]? = L[i]?) (hc : CodeX M T loc x0 L.length) (hw : wideX x0)
    (hl2 : M2.length = M.length + 1 + r.length) (hp2 : ∀ i, i < M.length → M2[i]? = M[i]?) (hsw : M2[M.length]? = some ⟨13, loc, r.length⟩) (ht : ∀ j, j < r.length → M2[M.length + 1 + j]? = some ⟨14, 0, 0⟩) : SwSt T L loc x0 r 0 0 0 0 M2 where
  len := by rw [List.take_zero, clenL_nil]; unfold tabP; omega
  pre i hi := (hp2 i (by omega)).trans (hp i hi)
  c0 := code_stays x0 hw _ _ hc fun i _ hi => hp2 i (by omega)
  sw := by rw [← hl]; exact hsw
  tab j hj := by
    have := ht j hj
    rw [hl] at this
    unfold tabP
    rw [if_neg (by omega)]
    exact this
  bra j hj := by omega
  jmp j hj := by omega
theorem sw_tab {k : Nat} {M : List Ins} (hw : wideX x0) (hwr : wideL r) (hk : k < r.length) (h : SwSt T L loc x0 r k k k 0 M) : SwSt T L loc x0 r (k + 1) k k 0 (M.set (tabP L x0 + k) ⟨14, M.length, 0⟩) := by
  have hlen := h.len
  have hb : ∀ j, tabP L x0 + r.length ≤ braP L x0 r j := bra_ge
  have hlb : M.length = braP L x0 r k := by rw [hlen]; unfold braP; omega
  refine ⟨by rw [List.length_set]; exact hlen, fun i hi => ?_, ?_, ?_, fun j hj => ?_, fun j hj => ?_, fun j hj => ?_⟩
  · rw [get_set_ne (by unfold tabP; omega)]; exact h.pre i hi
  · exact code_stays x0 hw _ _ h.c0 fun i _ hi => get_set_ne (by unfold tabP; omega)
  · rw [get_set_ne (by unfold tabP; omega)]; exact h.sw
  · by_cases e : j = k
    · subst e
      rw [get_set_eq (by omega), if_pos (by omega), hlb]
    · rw [get_set_ne (by omega), h.tab j hj]
      by_cases hjk : j < k
      · rw [if_pos hjk, if_pos (by omega)]
      · rw [if_neg hjk, if_neg (by omega)]
  · exact code_stays _ (wideL_mem hwr _ (getD_mem default r j (by omega))) _ _ (h.bra j hj) fun i hi _ => get_set_ne (by have := hb j; omega)
  · rw [get_set_ne (by have := hb j; omega)]; exact h.jmp j hj
theorem sw_code {k : Nat} {M M2 : List Ins} (hw : wideX x0) (hwr : wideL r) (hk : k < r.length) (h : SwSt T L loc x0 r (k + 1) k k 0 M) (hl : M2.length = M.length + clenX (r.getD k default)) (hp : ∀ i, i < M.length → M2[i]? = M[i]?) (hc : CodeX M2 T (loc + 1) (r.getD k default) M.length) : SwSt T L loc x0 r (k + 1) (k + 1) k 0 M2 := by
  have hlen := h.len
  have hlb : M.length = braP L x0 r k := by rw [hlen]; unfold braP; omega
  have hb := bra_ge (L := L) (x0 := x0) (r := r) k
  refine ⟨by rw [clen_take r k hk]; omega, fun i hi => ?_, ?_, ?_, fun j hj => ?_, fun j hj => ?_, fun j hj => ?_⟩
  · rw [hp i (by unfold tabP at hlen; omega)]; exact h.pre i hi
  · exact code_stays x0 hw _ _ h.c0 fun i _ hi => hp i (by unfold tabP at hlen; omega)
  · rw [hp _ (by unfold tabP at hlen; omega)]; exact h.sw
  · rw [hp _ (by omega)]; exact h.tab j hj
  · by_cases e : j = k
    · subst e; rw [← hlb]; exact hc
    · have hbe := bra_before (L := L) (x0 := x0) (show j < k by omega) (Nat.le_of_lt hk)
      exact code_stays _ (wideL_mem hwr _ (getD_mem default r j (by omega))) _ _ (h.bra j (by omega)) fun i _ hi => hp i (by omega)
  · have hbe := bra_before (L := L) (x0 := x0) (show j < k by omega) (Nat.le_of_lt hk)
    rw [hp _ (by omega)]; exact h.jmp j hj
theorem sw_jump {k : Nat} {M : List Ins} (hw : wideX x0) (hwr : wideL r) (hk : k < r.length) (h : SwSt T L loc x0 r (k + 1) (k + 1) k 0 M) : SwSt T L loc x0 r (k + 1) (k + 1) (k + 1) 0 (M ++ [⟨14, 0, 0⟩]) ∧ M.length = braP L x0 r k + clenX (r.getD k default) := by
  have hlen := h.len
  have hlb : M.length = braP L x0 r k + clenX (r.getD k default) := by rw [hlen, clen_take r k hk]; unfold braP; omega
  have hb := bra_ge (L := L) (x0 := x0) (r := r) k
  have hp : ∀ i, i < M.length → (M ++ [(⟨14, 0, 0⟩ : Ins)])[i]? = M[i]? := fun i hi => List.getElem?_append_left hi
  refine ⟨⟨by rw [List.length_append, List.length_singleton]; omega, fun i hi => ?_, ?_, ?_, fun j hj => ?_, fun j hj => ?_, fun j hj => ?_⟩, hlb⟩
  · rw [hp i (by unfold tabP at hlen; omega)]; exact h.pre i hi
  · exact code_stays x0 hw _ _ h.c0 fun i _ hi => hp i (by unfold tabP at hlen; omega)
  · rw [hp _ (by unfold tabP at hlen; omega)]; exact h.sw
  · rw [hp _ (by omega)]; exact h.tab j hj
  · have hbe := bra_before (L := L) (x0 := x0) (show j < k + 1 by omega) (show k + 1 ≤ r.length by omega)
    have hbn := bra_next (L := L) (x0 := x0) k hk
    exact code_stays _ (wideL_mem hwr _ (getD_mem default r j (by omega))) _ _ (h.bra j hj) fun i _ hi => hp i (by omega)
  · by_cases e : j = k
    · subst e
      rw [← hlb, List.getElem?_append_right (Nat.le_refl _), Nat.sub_self, if_neg (by omega)]; rfl
    · have hbe := bra_before (L := L) (x0 := x0) (show j < k by omega) (Nat.le_of_lt hk)
      rw [hp _ (by omega)]; exact h.jmp j (by omega)
theorem sw_patch {m : Nat} {M : List Ins} (hw : wideX x0) (hwr : wideL r) (hm : m < r.length - 1) (h : SwSt T L loc x0 r r.length r.length (r.length - 1) m M) : SwSt T L loc x0 r r.length r.length (r.length - 1) (m + 1) (M.set (braP L x0 r m + clenX (r.getD m default)) ⟨14, M.length, 0⟩) ∧ braP L x0 r m + clenX (r.getD m default) < M.length := by
  have hlen := h.len
  have hle : M.length = endP L x0 r := by rw [hlen, List.take_length]; unfold endP tabP; omega
  have hb := bra_ge (L := L) (x0 := x0) (r := r) m
  have hbm := bra_before (L := L) (x0 := x0) (r := r) (show m < r.length - 1 by omega) (by omega)
  have hbe := bra_end (L := L) (x0 := x0) (r := r) (by omega)
  have hlt : braP L x0 r m + clenX (r.getD m default) < M.length := by omega
  refine ⟨⟨by rw [List.length_set]; exact hlen, fun i hi => ?_, ?_, ?_, fun j hj => ?_, fun j hj => ?_, fun j hj => ?_⟩, hlt⟩
  · rw [get_set_ne (by unfold tabP at hb; omega)]; exact h.pre i hi
  · exact code_stays x0 hw _ _ h.c0 fun i _ hi => get_set_ne (by unfold tabP at hb; omega)
  · rw [get_set_ne (by unfold tabP at hb; omega)]; exact h.sw
  · rw [get_set_ne (by omega)]; exact h.tab j hj
  · refine code_stays _ (wideL_mem hwr _ (getD_mem default r j hj)) _ _ (h.bra j hj) fun i hi1 hi2 => get_set_ne ?_
    rcases (by omega : j < m ∨ j = m ∨ m < j) with hj2 | hj2 | hj2
    · have := bra_before (L := L) (x0 := x0) (r := r) hj2 (by omega); omega
    · subst hj2; omega
    · have := bra_before (L := L) (x0 := x0) (r := r) hj2 (by omega); omega
  · by_cases e : j = m
    · subst e
      rw [get_set_eq hlt, if_pos (by omega), hle]
    · rw [get_set_ne (by
        rcases (by omega : j < m ∨ m < j) with hj2 | hj2
        · have := bra_before (L := L) (x0 := x0) (r := r) hj2 (by omega); omega
        · have := bra_before (L := L) (x0 := x0) (r := r) hj2 (by omega); omega), h.jmp j hj]
      by_cases hjk : j < m
      · rw [if_pos hjk, if_pos (by omega)]
      · rw [if_neg hjk, if_neg (by omega)]
theorem codeB_of {M : List Ins} {lc : Int} {e : Nat} : ∀ (l : List ExpD) (tab s : Nat), (∀ j, j < l.length → M[tab + j]? = some ⟨14, ((s + clenL (l.take j) + j : Nat) : Int), 0⟩) → (∀ j, j < l.length → CodeX M T lc (l.getD j default) (s + clenL (l.take j) + j)) →
    (∀ j, j < l.length - 1 → M[s + clenL (l.take j) + j + clenX (l.getD j default)]? = some ⟨14, (e : Int), 0⟩) → CodeB M T lc l tab s e
  | [], tab, s, _, _, _ => by unfold CodeB; trivial
  | x :: r, tab, s, h1, h2, h3 => by
    unfold CodeB
    have e0 := h1 0 (by simp)
    have e1 := h2 0 (by simp)
    simp only [List.take_zero, clenL_nil, Nat.add_zero] at e0 e1
    refine ⟨by simpa using e0, by simpa using e1, fun hne => ?_, codeB_of r (tab + 1) (s + clenX x + 1) (fun j hj => ?_) (fun j hj => ?_) (fun j hj => ?_)⟩
    · have := h3 0 (by have := List.length_pos_iff.2 hne; simp; omega)
      simp only [List.take_zero, clenL_nil, Nat.add_zero] at this
      simpa using this
    · have := h1 (j + 1) (by simpa using hj)
      rw [List.take_succ_cons, clenL_cons] at this
      rw [show tab + 1 + j = tab + (j + 1) by omega, show s + clenX x + 1 + clenL (r.take j) + j = s + (clenX x + clenL (r.take j)) + (j + 1) by omega]
      exact this
    · have := h2 (j + 1) (by simpa using hj)
      rw [List.take_succ_cons, clenL_cons] at this
      rw [show s + clenX x + 1 + clenL (r.take j) + j = s + (clenX x + clenL (r.take j)) + (j + 1) by omega]
      simpa using this
    · have := h3 (j + 1) (by simp; omega)
      rw [List.take_succ_cons, clenL_cons] at this
      rw [show s + clenX x + 1 + clenL (r.take j) + j = s + (clenX x + clenL (r.take j)) + (j + 1) by omega]
      simpa using this
theorem sw_done {n : Int} {s : ByteArray} {v : Value} {M : List Ins} (hr : 0 < r.length) (h : SwSt T L loc x0 r r.length r.length (r.length - 1) (r.length - 1) M) : CodeX M T loc (.mk 9 n s v (x0 :: r)) L.length ∧ M.length = L.length + clenX (.mk 9 n s v (x0 :: r)) := by
  constructor
  · unfold CodeX
    rw [if_neg (by decide), if_pos rfl]
    unfold CodeSw
    refine ⟨h.c0, h.sw, codeB_of r _ _ (fun j hj => ?_) (fun j hj => ?_) (fun j hj => ?_)⟩
    · have := h.tab j hj
      rw [if_pos hj] at this
      exact this
    · exact h.bra j hj
    · have := h.jmp j hj
      rw [if_pos hj] at this
      exact this
  · rw [clenX_mk, if_pos rfl, clenL_cons, List.length_cons, h.len, List.take_length]; unfold tabP; omega
end
end Go.Proofs.YtidolpcbbbakmaaGreat
