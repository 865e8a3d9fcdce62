/- The writer in general: what is kept, emit. The writer: all, and exp at leaves and nodes (printed by gen_w2.py). The writer: exp at a let. -/
import Derived.Test.YtidolpcbbbakmaaAw6
import Derived.Test.YtidolpcbbbakmaaCtA
import Derived.StringKeys
namespace Go.Proofs.Ytidolpcbbbakmaa
open Go Go.RowKit
open Go.Maps

theorem owns_set {V : World} {B : Nat} {e : TypeId} {s n : Nat} {g c : Nat} {xs : List Value} (h : V.ownsRow B e s (.slice (some ⟨g, 0, none⟩) n c) n xs) (i : Nat) (u : Value) : (V.setCell ⟨g, i, none⟩ u).ownsRow B e s (.slice (some ⟨g, 0, none⟩) n c) n (xs.set i u) := by
  obtain ⟨h1, h2⟩ := h
  refine ⟨by rw [List.length_set]; exact h1, ?_⟩
  rcases h2 with ⟨h2, _⟩ | ⟨g', cap, cur, hv, hb, hh, hn, hc, hs, ht⟩
  · cases h2
  · injection hv with ha _ hcap
    injection ha with ha
    injection ha with hg _ _
    subst hg
    subst hcap
    exact .inr ⟨_, _, _, rfl, hb, heap_set_same hh u, hn, hc, by simp [hs], by rw [Array.toList_setIfInBounds, List.take_set, ht]⟩
/-! ### The code of an expression stays where its places stay -/
theorem clenL_snoc (l : List ExpD) (x : ExpD) : clenL (l ++ [x]) = clenL l + clenX x := by
  induction l with
  | nil => rw [List.nil_append, clenL_cons, clenL_nil]; omega
  | cons y l ih => rw [List.cons_append, clenL_cons, clenL_cons, ih]; omega
theorem codeS_nil (C : List Ins) (T : ByteArray → Int) (loc : Int) (p : Nat) : CodeS C T loc [] p := by unfold CodeS; trivial
theorem codeS_cons {C : List Ins} {T : ByteArray → Int} {loc : Int} {x : ExpD} {r : List ExpD} {p : Nat} : CodeS C T loc (x :: r) p ↔ CodeX C T loc x p ∧ CodeS C T loc r (p + clenX x) := by rw [CodeS]
theorem codeS_snoc {C : List Ins} {T : ByteArray → Int} {loc : Int} {x : ExpD} : ∀ {r : List ExpD} {p : Nat}, CodeS C T loc r p → CodeX C T loc x (p + clenL r) → CodeS C T loc (r ++ [x]) p
  | [], p, _, h => by rw [List.nil_append, codeS_cons]; rw [clenL_nil] at h; exact ⟨h, codeS_nil ..⟩
  | y :: r, p, h1, h2 => by
    rw [List.cons_append, codeS_cons]
    rw [codeS_cons] at h1
    rw [clenL_cons, ← Nat.add_assoc] at h2
    exact ⟨h1.1, codeS_snoc h1.2 h2⟩
mutual
/-- Each choice has two parts, at least. -/
def wideX : ExpD → Prop
  | .mk op _ _ _ l => (op = 9 → 2 ≤ l.length) ∧ wideL l
def wideL : List ExpD → Prop
  | [] => True
  | x :: r => wideX x ∧ wideL r
end
theorem wideL_mem : ∀ {l : List ExpD}, wideL l → ∀ y ∈ l, wideX y
  | [], _, _, h => by cases h
  | x :: r, h, y, hy => by
    unfold wideL at h
    rcases List.mem_cons.1 hy with rfl | hy
    · exact h.1
    · exact wideL_mem h.2 y hy
theorem wideL_of : ∀ {l : List ExpD}, (∀ y ∈ l, wideX y) → wideL l
  | [], _ => by unfold wideL; trivial
  | x :: r, h => by unfold wideL; exact ⟨h x (List.mem_cons_self ..), wideL_of fun y hy => h y (List.mem_cons_of_mem _ hy)⟩
theorem wide_of_flat {caps : Int} {clo : Int → Int → Bool} (x : ExpD) : ∀ loc, flatX caps clo loc x = true → wideX x := by
  induction x using ExpD.induct with
  | h op n s lv l ih =>
    intro loc h
    obtain ⟨h1, h2⟩ := flat_parts h
    unfold wideX
    refine ⟨fun e => ?_, wideL_of fun y hy => ?_⟩
    · subst e
      have := (form_9 h1).1
      unfold inB at this
      simp at this; omega
    · obtain ⟨k, hk, rfl⟩ := List.mem_iff_getElem.1 hy
      have := h2 k hk
      rw [show l.getD k default = l[k] by simp [List.getD, hk]] at this
      exact ih _ hy _ this
section
variable {C C' : List Ins} {T : ByteArray → Int}
def Stays (C C' : List Ins) (T : ByteArray → Int) (x : ExpD) : Prop := wideX x → ∀ loc p, CodeX C T loc x p → (∀ i, p ≤ i → i < p + clenX x → C'[i]? = C[i]?) → CodeX C' T loc x p
theorem codeS_stays {loc : Int} : ∀ {l : List ExpD} {p : Nat}, (∀ y ∈ l, Stays C C' T y) → wideL l → CodeS C T loc l p → (∀ i, p ≤ i → i < p + clenL l → C'[i]? = C[i]?) → CodeS C' T loc l p
  | [], p, _, _, _, _ => codeS_nil ..
  | x :: r, p, ih, hw, h, hs => by
    unfold wideL at hw
    rw [codeS_cons] at h ⊢
    rw [clenL_cons] at hs
    exact ⟨ih x (List.mem_cons_self ..) hw.1 _ _ h.1 fun i h1 h2 => hs i h1 (by omega), codeS_stays (fun y hy => ih y (List.mem_cons_of_mem _ hy)) hw.2 h.2 fun i h1 h2 => hs i (by omega) (by omega)⟩
theorem codeB_stays {loc : Int} {e : Nat} : ∀ {l : List ExpD} {tab p : Nat}, (∀ y ∈ l, Stays C C' T y) → wideL l → CodeB C T loc l tab p e → (∀ i, tab ≤ i → i < tab + l.length → C'[i]? = C[i]?) → (∀ i, p ≤ i → i < p + clenL l + (l.length - 1) → C'[i]? = C[i]?) → CodeB C' T loc l tab p e
  | [], tab, p, _, _, _, _, _ => by unfold CodeB; trivial
  | x :: r, tab, p, ih, hw, h, ht, hs => by
    unfold wideL at hw
    unfold CodeB at h ⊢
    rw [clenL_cons, List.length_cons] at hs
    rw [List.length_cons] at ht
    obtain ⟨h1, h2, h3, h4⟩ := h
    refine ⟨by rw [ht tab (Nat.le_refl _) (by omega)]; exact h1, ih x (List.mem_cons_self ..) hw.1 _ _ h2 fun i a b => hs i a (by omega), fun hne => ?_, ?_⟩
    · have : 0 < r.length := List.length_pos_iff.2 hne
      rw [hs _ (by omega) (by omega)]; exact h3 hne
    · by_cases hr : r = []
      · subst hr; unfold CodeB; trivial
      · have : 0 < r.length := List.length_pos_iff.2 hr
        exact codeB_stays (fun y hy => ih y (List.mem_cons_of_mem _ hy)) hw.2 h4 (fun i a b => ht i (by omega) (by omega)) (fun i a b => hs i (by omega) (by omega))
theorem code_stays (x : ExpD) : Stays C C' T x := by
  induction x using ExpD.induct with
  | h op n s lv l ih =>
    intro hw loc p h hs
    unfold wideX at hw
    obtain ⟨hw9, hwl⟩ := hw
    rw [clenX_mk] at hs
    unfold CodeX at h ⊢
    by_cases h11 : op = 11
    · rw [if_pos h11] at h ⊢
      rw [if_neg (by omega)] at hs
      cases l with
      | nil => unfold CodeLet at h; exact h.elim
      | cons x r =>
        unfold CodeLet at h ⊢
        unfold wideL at hwl
        rw [clenL_cons] at hs
        exact ⟨ih x (List.mem_cons_self ..) hwl.1 _ _ h.1 fun i a b => hs i a (by omega), by rw [hs _ (by omega) (by omega)]; exact h.2.1, codeS_stays (fun y hy => ih y (List.mem_cons_of_mem _ hy)) hwl.2 h.2.2 fun i a b => hs i (by omega) (by omega)⟩
    · rw [if_neg h11] at h ⊢
      by_cases h9 : op = 9
      · rw [if_pos h9] at h hs ⊢
        cases l with
        | nil => unfold CodeSw at h; exact h.elim
        | cons x r =>
          unfold CodeSw at h ⊢
          rw [clenL_cons, List.length_cons] at hs
          obtain ⟨h1, h2, h3⟩ := h
          unfold wideL at hwl
          have hr : 0 < r.length := by have := hw9 h9; rw [List.length_cons] at this; omega
          exact ⟨ih x (List.mem_cons_self ..) hwl.1 _ _ h1 fun i a b => hs i a (by omega), by rw [hs _ (by omega) (by omega)]; exact h2, codeB_stays (fun y hy => ih y (List.mem_cons_of_mem _ hy)) hwl.2 h3 (fun i a b => hs i (by omega) (by omega)) (fun i a b => hs i (by omega) (by omega))⟩
      · rw [if_neg h9] at h hs ⊢
        exact ⟨codeS_stays ih hwl h.1 fun i a b => hs i a (by omega), by rw [hs _ (by omega) (by omega)]; exact h.2⟩
end
/-! ### The map of texts -/
theorem keyed_str : Keyed Try.prog 9 := string_keyed Try.underlying9
/-- The map of texts says which number each text has (0: none). -/
def TextMap (V : World) (mb : Nat) (T : ByteArray → Int) : Prop :=
  ∃ (n : Nat) (D : DataW Unit), V.ownsMap Try.prog 9 (plainElem Try.prog 3) mb n D ∧ ∀ s : ByteArray, s.size ≤ maxLen → D.atKey (.string s.data.toList) (.lit (.int .i64 0)) = .lit (.int .i64 (T s))
set_option maxRecDepth 100000 in
theorem TextMap.look {V : World} {mb : Nat} {T : ByteArray → Int} (h : TextMap V mb T) (s : ByteArray) (hs : s.size ≤ maxLen) : (Instr.lookup 89 (.map (some mb)) (.string s) false).run Try.prog V = .ok (.int .i64 (T s)) V := by
  obtain ⟨n, D, hown, hat⟩ := h
  obtain ⟨c, hrun, hc, _⟩ := hown.lookup_int keyed_str Try.underlying89 Try.underlying3 (zero_int V) (WideMaps.keyOf_string_mk Try.underlying9 hs)
  rw [hrun]
  have := hc.symm.trans (hat s hs)
  injection this with e
  injection e with _ e2
  rw [e2]
theorem TextMap.lt {V : World} {mb : Nat} {T : ByteArray → Int} (h : TextMap V mb T) : mb < V.heap.size := by obtain ⟨n, D, hown, _⟩ := h; exact hown.lt
theorem TextMap.stays {V V' : World} {mb : Nat} {T : ByteArray → Int} (h : TextMap V mb T) (e : V'.heap[mb]? = V.heap[mb]?) : TextMap V' mb T := by
  obtain ⟨n, D, ⟨es, clock, hb, hr⟩, hat⟩ := h
  exact ⟨n, D, ⟨es, clock, e.trans hb, hr⟩, hat⟩
/-! ### emit -/
set_option maxHeartbeats 1000000 in
set_option maxRecDepth 100000 in
theorem emit2_any (wb mb B : Nat) (cv : Value) (L : List Ins) (op a b : Int) (V : World) (h : WSt V wb mb B cv L) (hB : B ≤ V.heap.size) (hL : L.length ≤ 1000000) :
    Calls Try.prog 46 #[.pointer (some ⟨wb, 0, none⟩), .int .i64 op, .int .i64 a, .int .i64 b] V fun e V' => e = .returned (.int .i64 L.length) ∧ WrOk wb mb B cv (L ++ [⟨op, a, b⟩]) V V' := by
  have H := Lib.hid h
  obtain ⟨ca, cn, cc, rfl⟩ := owns_slice h.own
  obtain ⟨ii0, hii, hiz0, hiz1, hiz2⟩ := info_parts info_instr
  obtain ⟨c0, c1⟩ := w_cells h.blk
  have hwlt := h.lt
  clear h
  go_enter Try.func46, Try.ntmps46
  go_wp2_with (at_builtin; refine wpList_append_lies _ rfl _ _ 43 rfl B 54 ii0 (.agg #[.int .i64 0, .int .i64 0, .int .i64 0]) 3 24 Try.underlying43 hii hiz0 hiz1 hiz2 rfl (by decide) _ L.length (insCells L) rfl (H.out.own.alloc _) ⟨V.heap.size, 0, none⟩ 1 1 [.int .i64 op, .int .i64 a, .int .i64 b] rfl rfl ?c1 ?c2 (by decide) ?c3 ?c4 ?c5 _ rfl ?_)
  case c1 => exact World.news_of_block (cs := #[.int .i64 op, .int .i64 a, .int .i64 b]) (new_heap V _)
  case c2 => intro u hu; simp at hu; rcases hu with rfl | rfl | rfl <;> rfl
  case c3 => unfold maxLen; omega
  case c4 => omega
  case c5 => simp; omega
  intro g cap w4 hown4 hgrow4 hat4 hlt4
  have hg3 := grown_alloc V (.cells #[.int .i64 op, .int .i64 a, .int .i64 b] 54)
  have hown0 := owns_lt H.out.own
  have hlt0 := heap_lt H.out.blk
  have gW := (hgrow4.block wb (by simp; omega) (fun e => by have := (hown0 wb e.symm).1; omega)).trans ((hg3.block wb hlt0 (by nofun)).trans H.out.blk)
  obtain ⟨d0, d1⟩ := w_cells gW
  have fz : w4.frozen? ⟨wb, 0, none⟩ = false := Lib.frozen_of_heap gW 0
  have hE := ((Em.free (wb := wb) (r := (Value.slice ca cn cc).ownBlock) hg3).trans (Em.grown hgrow4 (r' := some g) (by
    rcases hat4 with e | e
    · exact .inl e.symm
    · exact .inr ⟨g, rfl, by simp; omega⟩))).trans (Em.set w4 0 (.slice (some ⟨g, 0, none⟩) (L.length + 1) cap) (some g))
  have gW2 := heap_set_same (i := 0) gW (.slice (some ⟨g, 0, none⟩) (L.length + 1) cap)
  have hown5 : w4.ownsRow B 54 3 (.slice (some ⟨g, 0, none⟩) (L.length + 1) cap) (L ++ [(⟨op, a, b⟩ : Ins)]).length (insCells (L ++ [(⟨op, a, b⟩ : Ins)])) := by rw [insCells_app, List.length_append]; exact hown4
  have hown6 := owns_grown hown5 (grown_set w4 wb 0 (.slice (some ⟨g, 0, none⟩) (L.length + 1) cap)) (fun k hk e => by cases hk; have := (owns_lt hown5 _ e).1; omega)
  have HR : Hid (WrOk wb mb B (.slice ca cn cc) (L ++ [⟨op, a, b⟩]) V (w4.setCell ⟨wb, 0, none⟩ (.slice (some ⟨g, 0, none⟩) (L.length + 1) cap))) := ⟨_, ⟨gW2, hown6, hwlt⟩, hE⟩
  have s0 := (w_cells gW2).1
  clear hE hown4 hown5 hown6 hgrow4 hat4 hg3 hown0 gW c0 c1
  go_wp2_with fail
  go_ret
  exact ⟨rfl, HR.out⟩
end Go.Proofs.Ytidolpcbbbakmaa
namespace Go.Proofs.Ytidolpcbbbakmaa
open Go Go.RowKit
open Go.Maps

/-- Code has been written behind what was there. -/
def Wr (wb mb B : Nat) (L : List Ins) (cv : Value) (V : World) (len : Nat) (P : List Ins → Prop) (e : Ending) (V' : World) : Prop :=
  e = .returned (.tuple #[]) ∧ ∃ (cv' : Value) (L' : List Ins), WSt V' wb mb B cv' L' ∧ Em wb V V' cv.ownBlock cv'.ownBlock ∧ L'.length = L.length + len ∧ (∀ i, i < L.length → L'[i]? = L[i]?) ∧ P L'
/-- The writer, its map of texts, and what lies below. -/
structure Wg (V : World) (wb mb B B0 : Nat) (cv : Value) (L : List Ins) (T : ByteArray → Int) : Prop where
  st : WSt V wb mb B cv L
  tm : TextMap V mb T
  size : B ≤ V.heap.size
  lo : mb < wb
  b0 : B0 ≤ mb
theorem Wg.below {V V' : World} {wb mb B B0 : Nat} {cv : Value} {L : List Ins} {T : ByteArray → Int} {r : Option Nat} (h : Wg V wb mb B B0 cv L T) (hE : Em wb V V' cv.ownBlock r) : Below B0 V V' :=
  hE.below (by have := h.lo; have := h.b0; omega) (heap_lt h.st.blk) (fun k e => by have := (owns_lt h.st.own _ e).1; have := h.st.lt; omega)
theorem Wg.step {V V' : World} {wb mb B B0 : Nat} {cv cv' : Value} {L L' : List Ins} {T : ByteArray → Int} (h : Wg V wb mb B B0 cv L T) (hW : WSt V' wb mb B cv' L') (hE : Em wb V V' cv.ownBlock cv'.ownBlock) : Wg V' wb mb B B0 cv' L' T :=
  ⟨hW, h.tm.stays (hE.kept mb h.tm.lt (by have := h.lo; omega) (fun e => by have := (owns_lt h.st.own _ e).1; have := h.st.lt; have := h.lo; omega)), Nat.le_trans h.size hE.size, h.lo, h.b0⟩
theorem Wg.free {V V' : World} {wb mb B B0 : Nat} {cv : Value} {L : List Ins} {T : ByteArray → Int} (h : Wg V wb mb B B0 cv L T) (hg : V.grownBy V' none) : Wg V' wb mb B B0 cv L T :=
  h.step (h.st.free hg) (Em.free hg)
/-- What exp writes of an expression. -/
def ExpAll (caps : Int) (clo : Int → Int → Bool) (T : ByteArray → Int) (wb mb B B0 : Nat) (x : ExpD) : Prop :=
  ∀ (loc : Int) (cv : Value) (L : List Ins) (V : World), Wg V wb mb B B0 cv L T → IsExp B0 V x → flatX caps clo loc x = true → 0 ≤ loc → loc + heightX x ≤ 100000 → L.length + clenX x ≤ 100000 →
    Calls Try.prog 45 #[.pointer (some ⟨wb, 0, none⟩), expV x, .int .i64 loc] V (Wr wb mb B L cv V (clenX x) (fun L' => CodeX L' T loc x L.length))
theorem clen_take (l : List ExpD) (k : Nat) (h : k < l.length) : clenL (l.take (k + 1)) = clenL (l.take k) + clenX (l.getD k default) := by rw [take_one default l k h, clenL_snoc]
theorem clen_take_le (l : List ExpD) (k : Nat) : clenL (l.take k) ≤ clenL l := by
  have : ∀ a b : List ExpD, clenL (a ++ b) = clenL a + clenL b := fun a b => by
    induction a with
    | nil => rw [List.nil_append, clenL_nil]; omega
    | cons x r ih => rw [List.cons_append, clenL_cons, clenL_cons, ih]; omega
  conv => rhs; rw [← List.take_append_drop k l, this]
  omega
theorem pre_trans {A B C : List Ins} (h : ∀ i, i < A.length → B[i]? = A[i]?) (hl : A.length ≤ B.length) (k : ∀ i, i < B.length → C[i]? = B[i]?) : ∀ i, i < A.length → C[i]? = A[i]? :=
  fun i hi => (k i (by omega)).trans (h i hi)
theorem codeS_step {L L1 L2 : List Ins} {T : ByteArray → Int} {loc : Int} {l : List ExpD} {k : Nat} (hk : k < l.length) (hw : wideL l) (h1 : CodeS L1 T loc (l.take k) L.length) (hl : L1.length = L.length + clenL (l.take k)) (h2 : CodeX L2 T loc (l.getD k default) L1.length) (hp : ∀ i, i < L1.length → L2[i]? = L1[i]?) : CodeS L2 T loc (l.take (k + 1)) L.length := by
  rw [take_one default l k hk]
  exact codeS_snoc (codeS_stays (fun y _ => code_stays y) (wideL_of fun y hy => wideL_mem hw y (List.mem_of_mem_take hy)) h1 fun i _ hi => hp i (by omega)) (by rw [← hl]; exact h2)
set_option maxHeartbeats 2000000 in
set_option maxRecDepth 100000 in
theorem all_gen (caps : Int) (clo : Int → Int → Bool) (T : ByteArray → Int) (wb mb B B0 : Nat) (l : List ExpD) (H : ∀ y ∈ l, ExpAll caps clo T wb mb B B0 y) (a : Option Addr) (c : Nat) (loc : Int) (cv : Value) (L : List Ins) (V : World) (h : Wg V wb mb B B0 cv L T) (hR : RowB B0 V (.slice a l.length c) l.length (expCells l)) (hm : l.length ≤ maxLen) (hy : ∀ y ∈ l, IsExp B0 V y) (hf : ∀ i, i < l.length → flatX caps clo loc (l.getD i default) = true) (h0 : 0 ≤ loc) (hh : loc + heightL l ≤ 100000) (hL : L.length + clenL l ≤ 100000) :
    Calls Try.prog 70 #[.pointer (some ⟨wb, 0, none⟩), .slice a l.length c, .int .i64 loc] V (Wr wb mb B L cv V (clenL l) (fun L' => CodeS L' T loc l L.length)) := by
  have HH := Lib.hid H
  have H0 := Lib.hid h
  have HR := Lib.hid hR
  have HY := Lib.hid hy
  have HF := Lib.hid hf
  have HE0 := Lib.hid (Em.refl wb V cv.ownBlock)
  have hm' : l.length ≤ 9223372036854775807 := by unfold maxLen at hm; omega
  have HW := Lib.hid (wideL_of (l := l) fun y hy => by
    obtain ⟨k, hk, rfl⟩ := List.mem_iff_getElem.1 hy
    have := hf k hk
    rw [show l.getD k default = l[k] by simp [List.getD, hk]] at this
    exact wide_of_flat _ _ this)
  clear h hR hy hf H hm
  go_enter Try.func70, Try.ntmps70
  go_wp2_with fail
  go_loopw [10] (fun i wr => ∃ (k : Nat) (cv' : Value) (L' : List Ins), i = .int .i64 k ∧ k ≤ l.length ∧ Hid (WSt wr wb mb B cv' L') ∧ Hid (Em wb V wr cv.ownBlock cv'.ownBlock) ∧ Hid (L'.length = L.length + clenL (l.take k) ∧ (∀ i, i < L.length → L'[i]? = L[i]?) ∧ CodeS L' T loc (l.take k) L.length)) (fun i _ => l.length - (intOf i).toNat)
  case atStart => exact ⟨0, cv, L, rfl, Nat.zero_le _, H0.out.st, HE0, by rw [List.take_zero, clenL_nil, Nat.add_zero], fun _ _ => rfl, codeS_nil ..⟩
  case round =>
    obtain ⟨k, cv', L', rfl, hk, HWs, HE, HC⟩ := hrel
    have hbV := H0.out.below HE.out
    have hWg := H0.out.step HWs.out HE.out
    by_cases hkl : k < l.length
    · obtain ⟨b, off, rfl, hbB, c0, c1, c2, c3⟩ := parts_at HR.out hbV k hkl
      have hmem := getD_mem default l k hkl
      have hhm := heightL_mem hmem
      have hyk := (HY.out _ hmem).under hbV
      have hX := HH.out _ hmem
      have hfk := HF.out k hkl
      have hck := clen_take l k hkl
      have hcl := clen_take_le l (k + 1)
      have hpl := HC.out.1
      have HS := Lib.hid (fun (L2 : List Ins) (h2 : CodeX L2 T loc (l.getD k default) L'.length) (hp : ∀ i, i < L'.length → L2[i]? = L'[i]?) => codeS_step hkl HW.out HC.out.2.2 hpl h2 hp)
      clear hmem
      generalize l.getD k default = x at *
      obtain ⟨xo, xn, xs, xv, xl⟩ := x
      obtain ⟨xa, xc, rfl, _⟩ := hyk.parts.1
      simp only [ExpD.op, ExpD.n, ExpD.s, ExpD.lv] at c0 c1 c2 c3
      have hg := grown_alloc wr (.cells #[.int .i64 xo, .int .i64 xn, .string xs, .slice xa xl.length xc] 36)
      have gX := new_heap wr (.cells #[.int .i64 xo, .int .i64 xn, .string xs, .slice xa xl.length xc] 36)
      obtain ⟨e0, e1, e2, e3⟩ := exp_box gX
      have HX := Lib.hid (hX loc cv' L' _ (hWg.free hg) (hyk.under (grown_under hg (by have := hWg.size; have := hWg.st.lt; have := hWg.lo; have := hWg.b0; omega) (by nofun))) hfk h0 (by omega) (by omega))
      have hE2 := HE.out.trans (Em.free (wb := wb) (r := cv'.ownBlock) hg)
      have HE2 := Lib.hid hE2
      rw [expV_mk] at HX
      clear hX hyk hfk gX hg hE2 hbV hWg
      go_wp2_with fail
      refine HX.out.mono ?_
      rintro e w2 ⟨rfl, cv2, L2, hW3, hE3, hl3, hp3, hc3⟩
      have HW3 := Lib.hid hW3
      have HE3 := Lib.hid (HE2.out.trans hE3)
      have HC3 : Hid (L2.length = L.length + clenL (l.take (k + 1)) ∧ (∀ i, i < L.length → L2[i]? = L[i]?) ∧ CodeS L2 T loc (l.take (k + 1)) L.length) := ⟨by omega, pre_trans HC.out.2.1 (by omega) hp3, HS.out L2 hc3 hp3⟩
      clear hW3 hE3 hl3 hp3 hc3 HX c0 c1 c2 c3 e0 e1 e2 e3
      go_wp2_with fail
      go_round
      case rel => exact ⟨k + 1, cv2, L2, by go_num, by omega, HW3, HE3, HC3⟩
      case measure => simp [intOf]; omega
    · have HC3 := HC.out
      rw [List.take_of_length_le (by omega)] at HC3
      have HC4 := Lib.hid HC3
      clear HC3 hbV hWg
      go_wp2_with fail
      go_end0
      exact ⟨rfl, cv', L', HWs.out, HE.out, HC4.out⟩
theorem WrOk.cell {wb mb B : Nat} {L : List Ins} {cv : Value} {V V' : World} (h : WrOk wb mb B cv L V V') : V'.cell? ⟨wb, 1, none⟩ = some (.map (some mb)) := by
  obtain ⟨cv', hW, _⟩ := h
  exact (w_cells hW.blk).2
theorem wr_leaf {wb mb B : Nat} {L : List Ins} {cv : Value} {V V1 V' : World} {T : ByteArray → Int} {op n loc : Int} {s : ByteArray} {v : Value} {i : Ins} (h11 : op ≠ 11) (h9 : op ≠ 9) (hi : lastI T op n s 0 = i) (hE1 : Em wb V V1 cv.ownBlock cv.ownBlock) (hW : WrOk wb mb B cv (L ++ [i]) V1 V') : Wr wb mb B L cv V (clenX (.mk op n s v [])) (fun L' => CodeX L' T loc (.mk op n s v []) L.length) (.returned (.tuple #[])) V' := by
  obtain ⟨cv', hW, hE⟩ := hW
  refine ⟨rfl, cv', _, hW, hE1.trans hE, by rw [clenX_mk, if_neg h9, clenL_nil]; simp, fun j hj => List.getElem?_append_left hj, ?_⟩
  show CodeX _ T loc _ L.length
  unfold CodeX
  rw [if_neg h11, if_neg h9]
  refine ⟨codeS_nil .., ?_⟩
  rw [clenL_nil, Nat.add_zero, List.getElem?_append_right (Nat.le_refl _), Nat.sub_self]
  exact congrArg some hi.symm
theorem wr_node {wb mb B : Nat} {L L1 : List Ins} {cv cv1 : Value} {V V1 V' : World} {T : ByteArray → Int} {op n loc : Int} {s : ByteArray} {v : Value} {l : List ExpD} {i : Ins} (h11 : op ≠ 11) (h9 : op ≠ 9) (hw : wideL l) (hi : lastI T op n s l.length = i) (hE1 : Em wb V V1 cv.ownBlock cv1.ownBlock) (hl : L1.length = L.length + clenL l) (hp : ∀ i, i < L.length → L1[i]? = L[i]?) (hc : CodeS L1 T loc l L.length) (hW : WrOk wb mb B cv1 (L1 ++ [i]) V1 V') : Wr wb mb B L cv V (clenX (.mk op n s v l)) (fun L' => CodeX L' T loc (.mk op n s v l) L.length) (.returned (.tuple #[])) V' := by
  obtain ⟨cv', hW, hE⟩ := hW
  refine ⟨rfl, cv', _, hW, hE1.trans hE, by rw [clenX_mk, if_neg h9, List.length_append, hl]; simp; omega, fun j hj => (List.getElem?_append_left (by omega)).trans (hp j hj), ?_⟩
  show CodeX _ T loc _ L.length
  unfold CodeX
  rw [if_neg h11, if_neg h9]
  refine ⟨codeS_stays (fun y _ => code_stays y) hw hc fun j _ hj => List.getElem?_append_left (by omega), ?_⟩
  rw [← hl, List.getElem?_append_right (Nat.le_refl _), Nat.sub_self]
  exact congrArg some hi.symm
theorem wide_parts {caps : Int} {clo : Int → Int → Bool} {loc op n : Int} {s : ByteArray} {v : Value} {l : List ExpD} (h : flatX caps clo loc (.mk op n s v l) = true) : wideL l := by
  have := wide_of_flat _ _ h
  unfold wideX at this
  exact this.2
theorem lo_plain {op loc : Int} (h11 : op ≠ 11) (h9 : op ≠ 9) (i : Nat) : lo op loc i = loc := by
  unfold lo bump
  rw [if_neg (show ¬ (op = 9 ∨ op = 11) by omega)]
  split <;> omega

set_option maxHeartbeats 1000000 in
set_option maxRecDepth 100000 in
theorem exp_2_gen (T : ByteArray → Int) (wb mb B B0 : Nat) (n : Int) (s : ByteArray) (a : Option Addr) (c : Nat) (loc : Int) (cv : Value) (L : List Ins) (V : World) (h : Wg V wb mb B B0 cv L T) (hL : L.length ≤ 100000) :
    Calls Try.prog 45 #[.pointer (some ⟨wb, 0, none⟩), .agg #[.int .i64 2, .int .i64 n, .string s, .slice a 0 c], .int .i64 loc] V (Wr wb mb B L cv V (clenX (.mk 2 n s (.slice a 0 c) [])) (fun L' => CodeX L' T loc (.mk 2 n s (.slice a 0 c) []) L.length)) := by
  have hg := grown_alloc V (.cells #[.int .i64 2, .int .i64 n, .string s, .slice a 0 c] 36)
  have gP := new_heap V (.cells #[.int .i64 2, .int .i64 n, .string s, .slice a 0 c] 36)
  obtain ⟨p0, p1, p2, p3⟩ := exp_box gP
  have HM := Lib.hid (emit2_any wb mb B cv L 1 n 0 _ (h.st.free hg) (Nat.le_trans h.size hg.size) (by omega))
  have HE := Lib.hid (Em.free (wb := wb) (r := cv.ownBlock) hg)
  clear h gP hg
  go_enter Try.func45, Try.ntmps45
  go_wp2_with fail
  refine HM.out.mono ?_
  rintro e V2 ⟨rfl, hW⟩
  have HR := Lib.hid (wr_leaf (T := T) (n := n) (s := s) (loc := loc) (v := .slice a 0 c) (op := 2) (by decide) (by decide) rfl HE.out hW)
  clear hW
  go_wp2_with fail
  go_end0
  exact HR.out
set_option maxHeartbeats 1000000 in
set_option maxRecDepth 100000 in
theorem exp_13_gen (T : ByteArray → Int) (wb mb B B0 : Nat) (n : Int) (s : ByteArray) (a : Option Addr) (c : Nat) (loc : Int) (cv : Value) (L : List Ins) (V : World) (h : Wg V wb mb B B0 cv L T) (hL : L.length ≤ 100000) :
    Calls Try.prog 45 #[.pointer (some ⟨wb, 0, none⟩), .agg #[.int .i64 13, .int .i64 n, .string s, .slice a 0 c], .int .i64 loc] V (Wr wb mb B L cv V (clenX (.mk 13 n s (.slice a 0 c) [])) (fun L' => CodeX L' T loc (.mk 13 n s (.slice a 0 c) []) L.length)) := by
  have hg := grown_alloc V (.cells #[.int .i64 13, .int .i64 n, .string s, .slice a 0 c] 36)
  have gP := new_heap V (.cells #[.int .i64 13, .int .i64 n, .string s, .slice a 0 c] 36)
  obtain ⟨p0, p1, p2, p3⟩ := exp_box gP
  have HM := Lib.hid (emit2_any wb mb B cv L 16 n 0 _ (h.st.free hg) (Nat.le_trans h.size hg.size) (by omega))
  have HE := Lib.hid (Em.free (wb := wb) (r := cv.ownBlock) hg)
  clear h gP hg
  go_enter Try.func45, Try.ntmps45
  go_wp2_with fail
  refine HM.out.mono ?_
  rintro e V2 ⟨rfl, hW⟩
  have HR := Lib.hid (wr_leaf (T := T) (n := n) (s := s) (loc := loc) (v := .slice a 0 c) (op := 13) (by decide) (by decide) rfl HE.out hW)
  clear hW
  go_wp2_with fail
  go_end0
  exact HR.out
set_option maxHeartbeats 1000000 in
set_option maxRecDepth 100000 in
theorem exp_21_gen (T : ByteArray → Int) (wb mb B B0 : Nat) (n : Int) (s : ByteArray) (a : Option Addr) (c : Nat) (loc : Int) (cv : Value) (L : List Ins) (V : World) (h : Wg V wb mb B B0 cv L T) (hL : L.length ≤ 100000) :
    Calls Try.prog 45 #[.pointer (some ⟨wb, 0, none⟩), .agg #[.int .i64 21, .int .i64 n, .string s, .slice a 0 c], .int .i64 loc] V (Wr wb mb B L cv V (clenX (.mk 21 n s (.slice a 0 c) [])) (fun L' => CodeX L' T loc (.mk 21 n s (.slice a 0 c) []) L.length)) := by
  have hg := grown_alloc V (.cells #[.int .i64 21, .int .i64 n, .string s, .slice a 0 c] 36)
  have gP := new_heap V (.cells #[.int .i64 21, .int .i64 n, .string s, .slice a 0 c] 36)
  obtain ⟨p0, p1, p2, p3⟩ := exp_box gP
  have HM := Lib.hid (emit2_any wb mb B cv L 3 n 0 _ (h.st.free hg) (Nat.le_trans h.size hg.size) (by omega))
  have HE := Lib.hid (Em.free (wb := wb) (r := cv.ownBlock) hg)
  clear h gP hg
  go_enter Try.func45, Try.ntmps45
  go_wp2_with fail
  refine HM.out.mono ?_
  rintro e V2 ⟨rfl, hW⟩
  have HR := Lib.hid (wr_leaf (T := T) (n := n) (s := s) (loc := loc) (v := .slice a 0 c) (op := 21) (by decide) (by decide) rfl HE.out hW)
  clear hW
  go_wp2_with fail
  go_end0
  exact HR.out
set_option maxHeartbeats 1000000 in
set_option maxRecDepth 100000 in
theorem exp_22_gen (T : ByteArray → Int) (wb mb B B0 : Nat) (n : Int) (s : ByteArray) (a : Option Addr) (c : Nat) (loc : Int) (cv : Value) (L : List Ins) (V : World) (h : Wg V wb mb B B0 cv L T) (hL : L.length ≤ 100000) :
    Calls Try.prog 45 #[.pointer (some ⟨wb, 0, none⟩), .agg #[.int .i64 22, .int .i64 n, .string s, .slice a 0 c], .int .i64 loc] V (Wr wb mb B L cv V (clenX (.mk 22 n s (.slice a 0 c) [])) (fun L' => CodeX L' T loc (.mk 22 n s (.slice a 0 c) []) L.length)) := by
  have hg := grown_alloc V (.cells #[.int .i64 22, .int .i64 n, .string s, .slice a 0 c] 36)
  have gP := new_heap V (.cells #[.int .i64 22, .int .i64 n, .string s, .slice a 0 c] 36)
  obtain ⟨p0, p1, p2, p3⟩ := exp_box gP
  have HM := Lib.hid (emit2_any wb mb B cv L 6 0 0 _ (h.st.free hg) (Nat.le_trans h.size hg.size) (by omega))
  have HE := Lib.hid (Em.free (wb := wb) (r := cv.ownBlock) hg)
  clear h gP hg
  go_enter Try.func45, Try.ntmps45
  go_wp2_with fail
  refine HM.out.mono ?_
  rintro e V2 ⟨rfl, hW⟩
  have HR := Lib.hid (wr_leaf (T := T) (n := n) (s := s) (loc := loc) (v := .slice a 0 c) (op := 22) (by decide) (by decide) rfl HE.out hW)
  clear hW
  go_wp2_with fail
  go_end0
  exact HR.out
set_option maxHeartbeats 1000000 in
set_option maxRecDepth 100000 in
theorem exp_23_gen (T : ByteArray → Int) (wb mb B B0 : Nat) (n : Int) (s : ByteArray) (a : Option Addr) (c : Nat) (loc : Int) (cv : Value) (L : List Ins) (V : World) (h : Wg V wb mb B B0 cv L T) (hL : L.length ≤ 100000) :
    Calls Try.prog 45 #[.pointer (some ⟨wb, 0, none⟩), .agg #[.int .i64 23, .int .i64 n, .string s, .slice a 0 c], .int .i64 loc] V (Wr wb mb B L cv V (clenX (.mk 23 n s (.slice a 0 c) [])) (fun L' => CodeX L' T loc (.mk 23 n s (.slice a 0 c) []) L.length)) := by
  have hg := grown_alloc V (.cells #[.int .i64 23, .int .i64 n, .string s, .slice a 0 c] 36)
  have gP := new_heap V (.cells #[.int .i64 23, .int .i64 n, .string s, .slice a 0 c] 36)
  obtain ⟨p0, p1, p2, p3⟩ := exp_box gP
  have HM := Lib.hid (emit2_any wb mb B cv L 5 n 0 _ (h.st.free hg) (Nat.le_trans h.size hg.size) (by omega))
  have HE := Lib.hid (Em.free (wb := wb) (r := cv.ownBlock) hg)
  clear h gP hg
  go_enter Try.func45, Try.ntmps45
  go_wp2_with fail
  refine HM.out.mono ?_
  rintro e V2 ⟨rfl, hW⟩
  have HR := Lib.hid (wr_leaf (T := T) (n := n) (s := s) (loc := loc) (v := .slice a 0 c) (op := 23) (by decide) (by decide) rfl HE.out hW)
  clear hW
  go_wp2_with fail
  go_end0
  exact HR.out
set_option maxHeartbeats 1000000 in
set_option maxRecDepth 100000 in
theorem exp_3_gen (T : ByteArray → Int) (wb mb B B0 : Nat) (n : Int) (s : ByteArray) (a : Option Addr) (c : Nat) (loc : Int) (cv : Value) (L : List Ins) (V : World) (h : Wg V wb mb B B0 cv L T) (hL : L.length ≤ 100000) (hs : s.size ≤ maxLen) :
    Calls Try.prog 45 #[.pointer (some ⟨wb, 0, none⟩), .agg #[.int .i64 3, .int .i64 n, .string s, .slice a 0 c], .int .i64 loc] V (Wr wb mb B L cv V (clenX (.mk 3 n s (.slice a 0 c) [])) (fun L' => CodeX L' T loc (.mk 3 n s (.slice a 0 c) []) L.length)) := by
  have hg := grown_alloc V (.cells #[.int .i64 3, .int .i64 n, .string s, .slice a 0 c] 36)
  have gP := new_heap V (.cells #[.int .i64 3, .int .i64 n, .string s, .slice a 0 c] 36)
  obtain ⟨p0, p1, p2, p3⟩ := exp_box gP
  have hW2 := h.free hg
  generalize hW0 : V.alloc (.cells #[.int .i64 3, .int .i64 n, .string s, .slice a 0 c] 36) = W at *
  have HM := Lib.hid (fun (W2 : World) (hd : W.grownBy W2 none) => emit2_any wb mb B cv L 2 (T s) 0 W2 (hW2.st.free hd) (Nat.le_trans hW2.size hd.size) (by omega))
  have HE := Lib.hid (Em.free (wb := wb) (r := cv.ownBlock) hg)
  have hlk := hW2.tm.look s hs
  have hlk2 := (hW2.free (grown_drew W)).tm.look s hs
  obtain ⟨d0, d1⟩ := w_cells hW2.st.blk
  have HMd := Lib.hid (HM.out _ (grown_drew W))
  have HD := Lib.hid (Em.free (wb := wb) (r := cv.ownBlock) (grown_drew W))
  have hwl0 := heap_lt h.st.blk
  have hcl0 := owns_lt h.st.own
  have HK := Lib.hid (fun (V2 : World) (hV : WrOk wb mb B cv (L ++ [⟨2, T s, 0⟩]) W.drew V2) => show V2.cell? ⟨V.heap.size, 2, none⟩ = some (.string s) from by
    obtain ⟨cv', _, hE⟩ := hV
    have := (hE.kept V.heap.size (heap_lt gP) (by omega) (fun e => by have := (hcl0 _ e).2; omega)).trans gP
    exact (exp_box this).2.2.1)
  clear h gP hg hW2 HM
  go_enter Try.func45, Try.ntmps45
  go_upto_region 5 with fail
  clear hW0
  go_region_held3 (fun w' => w'.cell? ⟨wb, 1, none⟩ = some (.map (some mb)) ∧ w'.cell? ⟨V.heap.size, 2, none⟩ = some (.string s)) (first | exact ⟨d1, p2⟩ | exact ⟨k1, k2⟩)
    ((go_at_call 46; refine HMd.out.mono ?_; rintro e V2 ⟨rfl, hW⟩; have k1 := hW.cell; have k2 := HK.out V2 hW))
  all_goals
    have HR := Lib.hid (wr_leaf (T := T) (n := n) (s := s) (loc := loc) (v := .slice a 0 c) (op := 3) (by decide) (by decide) rfl (HE.out.trans HD.out) hW)
    clear hW
    go_wp2_with fail
    go_end0
    exact HR.out
set_option maxHeartbeats 1000000 in
set_option maxRecDepth 100000 in
theorem exp_6_gen (caps : Int) (clo : Int → Int → Bool) (T : ByteArray → Int) (wb mb B B0 : Nat) (l : List ExpD) (H : ∀ y ∈ l, ExpAll caps clo T wb mb B B0 y) (n : Int) (s : ByteArray) (a : Option Addr) (c : Nat) (loc : Int) (cv : Value) (L : List Ins) (V : World) (h : Wg V wb mb B B0 cv L T) (hx : IsExp B0 V (.mk 6 n s (.slice a l.length c) l)) (hf : flatX caps clo loc (.mk 6 n s (.slice a l.length c) l) = true) (h0 : 0 ≤ loc) (hh : loc + heightL l ≤ 100000) (hL : L.length + clenL l ≤ 100000) :
    Calls Try.prog 45 #[.pointer (some ⟨wb, 0, none⟩), .agg #[.int .i64 6, .int .i64 n, .string s, .slice a l.length c], .int .i64 loc] V (Wr wb mb B L cv V (clenX (.mk 6 n s (.slice a l.length c) l)) (fun L' => CodeX L' T loc (.mk 6 n s (.slice a l.length c) l) L.length)) := by
  have hg := grown_alloc V (.cells #[.int .i64 6, .int .i64 n, .string s, .slice a l.length c] 36)
  have gP := new_heap V (.cells #[.int .i64 6, .int .i64 n, .string s, .slice a l.length c] 36)
  obtain ⟨p0, p1, p2, p3⟩ := exp_box gP
  have HE1 := Lib.hid (Em.free (wb := wb) (r := cv.ownBlock) hg)
  have hW2 := h.free hg
  have hx2 := hx.under (h.below HE1.out)
  obtain ⟨hR, hm, hy⟩ := hx2.parts
  have HX := Lib.hid (all_gen caps clo T wb mb B B0 l H a c loc cv L _ hW2 hR hm hy (fun i hi => by have := (flat_parts hf).2 i hi; rwa [lo_plain (by decide) (by decide)] at this) h0 hh hL)
  have HWL := Lib.hid (wide_parts hf)
  have hwl0 := heap_lt h.st.blk
  have hcl0 := owns_lt h.st.own
  have H2 := Lib.hid hW2
  have HGP := Lib.hid gP
  have hm' : l.length ≤ 9223372036854775807 := by unfold maxLen at hm; omega
  clear h hx hf gP hg hW2 hx2 hR hm hy H
  go_enter Try.func45, Try.ntmps45
  go_wp2_with fail
  refine HX.out.mono ?_
  rintro e V2 ⟨rfl, cv1, L1, hW3, hE3, hl3, hp3, hc3⟩
  have gP2 := (hE3.kept _ (heap_lt HGP.out) (by omega) (fun e => by have := (hcl0 _ e).2; omega)).trans HGP.out
  have HE3 := Lib.hid (HE1.out.trans hE3)
  have HM := Lib.hid (emit2_any wb mb B cv1 L1 10 (l.length : Int) 0 V2 hW3 (Nat.le_trans H2.out.size hE3.size) (by omega))
  have HC3 : Hid (L1.length = L.length + clenL l ∧ (∀ i, i < L.length → L1[i]? = L[i]?) ∧ CodeS L1 T loc l L.length) := ⟨hl3, hp3, hc3⟩
  clear p0 p1 p2 p3 hW3 hE3 hp3 hc3 HX
  obtain ⟨p0, p1, p2, p3⟩ := exp_box gP2
  go_wp2_with fail
  refine HM.out.mono ?_
  rintro e V3 ⟨rfl, hW⟩
  have HR := Lib.hid (wr_node (n := n) (s := s) (v := .slice a l.length c) (op := 6) (by decide) (by decide) HWL.out rfl HE3.out HC3.out.1 HC3.out.2.1 HC3.out.2.2 hW)
  clear hW
  go_wp2_with fail
  go_end0
  exact HR.out
set_option maxHeartbeats 1000000 in
set_option maxRecDepth 100000 in
theorem exp_7_gen (caps : Int) (clo : Int → Int → Bool) (T : ByteArray → Int) (wb mb B B0 : Nat) (l : List ExpD) (H : ∀ y ∈ l, ExpAll caps clo T wb mb B B0 y) (n : Int) (s : ByteArray) (a : Option Addr) (c : Nat) (loc : Int) (cv : Value) (L : List Ins) (V : World) (h : Wg V wb mb B B0 cv L T) (hx : IsExp B0 V (.mk 7 n s (.slice a l.length c) l)) (hf : flatX caps clo loc (.mk 7 n s (.slice a l.length c) l) = true) (h0 : 0 ≤ loc) (hh : loc + heightL l ≤ 100000) (hL : L.length + clenL l ≤ 100000) :
    Calls Try.prog 45 #[.pointer (some ⟨wb, 0, none⟩), .agg #[.int .i64 7, .int .i64 n, .string s, .slice a l.length c], .int .i64 loc] V (Wr wb mb B L cv V (clenX (.mk 7 n s (.slice a l.length c) l)) (fun L' => CodeX L' T loc (.mk 7 n s (.slice a l.length c) l) L.length)) := by
  have hg := grown_alloc V (.cells #[.int .i64 7, .int .i64 n, .string s, .slice a l.length c] 36)
  have gP := new_heap V (.cells #[.int .i64 7, .int .i64 n, .string s, .slice a l.length c] 36)
  obtain ⟨p0, p1, p2, p3⟩ := exp_box gP
  have HE1 := Lib.hid (Em.free (wb := wb) (r := cv.ownBlock) hg)
  have hW2 := h.free hg
  have hx2 := hx.under (h.below HE1.out)
  obtain ⟨hR, hm, hy⟩ := hx2.parts
  have HX := Lib.hid (all_gen caps clo T wb mb B B0 l H a c loc cv L _ hW2 hR hm hy (fun i hi => by have := (flat_parts hf).2 i hi; rwa [lo_plain (by decide) (by decide)] at this) h0 hh hL)
  have HWL := Lib.hid (wide_parts hf)
  have hwl0 := heap_lt h.st.blk
  have hcl0 := owns_lt h.st.own
  have H2 := Lib.hid hW2
  have HGP := Lib.hid gP
  have hm' : l.length ≤ 9223372036854775807 := by unfold maxLen at hm; omega
  clear h hx hf gP hg hW2 hx2 hR hm hy H
  go_enter Try.func45, Try.ntmps45
  go_wp2_with fail
  refine HX.out.mono ?_
  rintro e V2 ⟨rfl, cv1, L1, hW3, hE3, hl3, hp3, hc3⟩
  have gP2 := (hE3.kept _ (heap_lt HGP.out) (by omega) (fun e => by have := (hcl0 _ e).2; omega)).trans HGP.out
  have HE3 := Lib.hid (HE1.out.trans hE3)
  have HM := Lib.hid (emit2_any wb mb B cv1 L1 11 n 0 V2 hW3 (Nat.le_trans H2.out.size hE3.size) (by omega))
  have HC3 : Hid (L1.length = L.length + clenL l ∧ (∀ i, i < L.length → L1[i]? = L[i]?) ∧ CodeS L1 T loc l L.length) := ⟨hl3, hp3, hc3⟩
  clear p0 p1 p2 p3 hW3 hE3 hp3 hc3 HX
  obtain ⟨p0, p1, p2, p3⟩ := exp_box gP2
  go_wp2_with fail
  refine HM.out.mono ?_
  rintro e V3 ⟨rfl, hW⟩
  have HR := Lib.hid (wr_node (n := n) (s := s) (v := .slice a l.length c) (op := 7) (by decide) (by decide) HWL.out rfl HE3.out HC3.out.1 HC3.out.2.1 HC3.out.2.2 hW)
  clear hW
  go_wp2_with fail
  go_end0
  exact HR.out
set_option maxHeartbeats 1000000 in
set_option maxRecDepth 100000 in
theorem exp_8_gen (caps : Int) (clo : Int → Int → Bool) (T : ByteArray → Int) (wb mb B B0 : Nat) (l : List ExpD) (H : ∀ y ∈ l, ExpAll caps clo T wb mb B B0 y) (n : Int) (s : ByteArray) (a : Option Addr) (c : Nat) (loc : Int) (cv : Value) (L : List Ins) (V : World) (h : Wg V wb mb B B0 cv L T) (hx : IsExp B0 V (.mk 8 n s (.slice a l.length c) l)) (hf : flatX caps clo loc (.mk 8 n s (.slice a l.length c) l) = true) (h0 : 0 ≤ loc) (hh : loc + heightL l ≤ 100000) (hL : L.length + clenL l ≤ 100000) :
    Calls Try.prog 45 #[.pointer (some ⟨wb, 0, none⟩), .agg #[.int .i64 8, .int .i64 n, .string s, .slice a l.length c], .int .i64 loc] V (Wr wb mb B L cv V (clenX (.mk 8 n s (.slice a l.length c) l)) (fun L' => CodeX L' T loc (.mk 8 n s (.slice a l.length c) l) L.length)) := by
  have hg := grown_alloc V (.cells #[.int .i64 8, .int .i64 n, .string s, .slice a l.length c] 36)
  have gP := new_heap V (.cells #[.int .i64 8, .int .i64 n, .string s, .slice a l.length c] 36)
  obtain ⟨p0, p1, p2, p3⟩ := exp_box gP
  have HE1 := Lib.hid (Em.free (wb := wb) (r := cv.ownBlock) hg)
  have hW2 := h.free hg
  have hx2 := hx.under (h.below HE1.out)
  obtain ⟨hR, hm, hy⟩ := hx2.parts
  have HX := Lib.hid (all_gen caps clo T wb mb B B0 l H a c loc cv L _ hW2 hR hm hy (fun i hi => by have := (flat_parts hf).2 i hi; rwa [lo_plain (by decide) (by decide)] at this) h0 hh hL)
  have HWL := Lib.hid (wide_parts hf)
  have hwl0 := heap_lt h.st.blk
  have hcl0 := owns_lt h.st.own
  have H2 := Lib.hid hW2
  have HGP := Lib.hid gP
  have hm' : l.length ≤ 9223372036854775807 := by unfold maxLen at hm; omega
  clear h hx hf gP hg hW2 hx2 hR hm hy H
  go_enter Try.func45, Try.ntmps45
  go_wp2_with fail
  refine HX.out.mono ?_
  rintro e V2 ⟨rfl, cv1, L1, hW3, hE3, hl3, hp3, hc3⟩
  have gP2 := (hE3.kept _ (heap_lt HGP.out) (by omega) (fun e => by have := (hcl0 _ e).2; omega)).trans HGP.out
  have HE3 := Lib.hid (HE1.out.trans hE3)
  have HM := Lib.hid (emit2_any wb mb B cv1 L1 12 n 0 V2 hW3 (Nat.le_trans H2.out.size hE3.size) (by omega))
  have HC3 : Hid (L1.length = L.length + clenL l ∧ (∀ i, i < L.length → L1[i]? = L[i]?) ∧ CodeS L1 T loc l L.length) := ⟨hl3, hp3, hc3⟩
  clear p0 p1 p2 p3 hW3 hE3 hp3 hc3 HX
  obtain ⟨p0, p1, p2, p3⟩ := exp_box gP2
  go_wp2_with fail
  refine HM.out.mono ?_
  rintro e V3 ⟨rfl, hW⟩
  have HR := Lib.hid (wr_node (n := n) (s := s) (v := .slice a l.length c) (op := 8) (by decide) (by decide) HWL.out rfl HE3.out HC3.out.1 HC3.out.2.1 HC3.out.2.2 hW)
  clear hW
  go_wp2_with fail
  go_end0
  exact HR.out
set_option maxHeartbeats 1000000 in
set_option maxRecDepth 100000 in
theorem exp_12_gen (caps : Int) (clo : Int → Int → Bool) (T : ByteArray → Int) (wb mb B B0 : Nat) (l : List ExpD) (H : ∀ y ∈ l, ExpAll caps clo T wb mb B B0 y) (n : Int) (s : ByteArray) (a : Option Addr) (c : Nat) (loc : Int) (cv : Value) (L : List Ins) (V : World) (h : Wg V wb mb B B0 cv L T) (hx : IsExp B0 V (.mk 12 n s (.slice a l.length c) l)) (hf : flatX caps clo loc (.mk 12 n s (.slice a l.length c) l) = true) (h0 : 0 ≤ loc) (hh : loc + heightL l ≤ 100000) (hL : L.length + clenL l ≤ 100000) :
    Calls Try.prog 45 #[.pointer (some ⟨wb, 0, none⟩), .agg #[.int .i64 12, .int .i64 n, .string s, .slice a l.length c], .int .i64 loc] V (Wr wb mb B L cv V (clenX (.mk 12 n s (.slice a l.length c) l)) (fun L' => CodeX L' T loc (.mk 12 n s (.slice a l.length c) l) L.length)) := by
  have hg := grown_alloc V (.cells #[.int .i64 12, .int .i64 n, .string s, .slice a l.length c] 36)
  have gP := new_heap V (.cells #[.int .i64 12, .int .i64 n, .string s, .slice a l.length c] 36)
  obtain ⟨p0, p1, p2, p3⟩ := exp_box gP
  have HE1 := Lib.hid (Em.free (wb := wb) (r := cv.ownBlock) hg)
  have hW2 := h.free hg
  have hx2 := hx.under (h.below HE1.out)
  obtain ⟨hR, hm, hy⟩ := hx2.parts
  have HX := Lib.hid (all_gen caps clo T wb mb B B0 l H a c loc cv L _ hW2 hR hm hy (fun i hi => by have := (flat_parts hf).2 i hi; rwa [lo_plain (by decide) (by decide)] at this) h0 hh hL)
  have HWL := Lib.hid (wide_parts hf)
  have hwl0 := heap_lt h.st.blk
  have hcl0 := owns_lt h.st.own
  have H2 := Lib.hid hW2
  have HGP := Lib.hid gP
  have hm' : l.length ≤ 9223372036854775807 := by unfold maxLen at hm; omega
  clear h hx hf gP hg hW2 hx2 hR hm hy H
  go_enter Try.func45, Try.ntmps45
  go_wp2_with fail
  refine HX.out.mono ?_
  rintro e V2 ⟨rfl, cv1, L1, hW3, hE3, hl3, hp3, hc3⟩
  have gP2 := (hE3.kept _ (heap_lt HGP.out) (by omega) (fun e => by have := (hcl0 _ e).2; omega)).trans HGP.out
  have HE3 := Lib.hid (HE1.out.trans hE3)
  have HM := Lib.hid (emit2_any wb mb B cv1 L1 15 n 0 V2 hW3 (Nat.le_trans H2.out.size hE3.size) (by omega))
  have HC3 : Hid (L1.length = L.length + clenL l ∧ (∀ i, i < L.length → L1[i]? = L[i]?) ∧ CodeS L1 T loc l L.length) := ⟨hl3, hp3, hc3⟩
  clear p0 p1 p2 p3 hW3 hE3 hp3 hc3 HX
  obtain ⟨p0, p1, p2, p3⟩ := exp_box gP2
  go_wp2_with fail
  refine HM.out.mono ?_
  rintro e V3 ⟨rfl, hW⟩
  have HR := Lib.hid (wr_node (n := n) (s := s) (v := .slice a l.length c) (op := 12) (by decide) (by decide) HWL.out rfl HE3.out HC3.out.1 HC3.out.2.1 HC3.out.2.2 hW)
  clear hW
  go_wp2_with fail
  go_end0
  exact HR.out
set_option maxHeartbeats 1000000 in
set_option maxRecDepth 100000 in
theorem exp_24_gen (caps : Int) (clo : Int → Int → Bool) (T : ByteArray → Int) (wb mb B B0 : Nat) (l : List ExpD) (H : ∀ y ∈ l, ExpAll caps clo T wb mb B B0 y) (n : Int) (s : ByteArray) (a : Option Addr) (c : Nat) (loc : Int) (cv : Value) (L : List Ins) (V : World) (h : Wg V wb mb B B0 cv L T) (hx : IsExp B0 V (.mk 24 n s (.slice a l.length c) l)) (hf : flatX caps clo loc (.mk 24 n s (.slice a l.length c) l) = true) (h0 : 0 ≤ loc) (hh : loc + heightL l ≤ 100000) (hL : L.length + clenL l ≤ 100000) :
    Calls Try.prog 45 #[.pointer (some ⟨wb, 0, none⟩), .agg #[.int .i64 24, .int .i64 n, .string s, .slice a l.length c], .int .i64 loc] V (Wr wb mb B L cv V (clenX (.mk 24 n s (.slice a l.length c) l)) (fun L' => CodeX L' T loc (.mk 24 n s (.slice a l.length c) l) L.length)) := by
  have hg := grown_alloc V (.cells #[.int .i64 24, .int .i64 n, .string s, .slice a l.length c] 36)
  have gP := new_heap V (.cells #[.int .i64 24, .int .i64 n, .string s, .slice a l.length c] 36)
  obtain ⟨p0, p1, p2, p3⟩ := exp_box gP
  have HE1 := Lib.hid (Em.free (wb := wb) (r := cv.ownBlock) hg)
  have hW2 := h.free hg
  have hx2 := hx.under (h.below HE1.out)
  obtain ⟨hR, hm, hy⟩ := hx2.parts
  have HX := Lib.hid (all_gen caps clo T wb mb B B0 l H a c loc cv L _ hW2 hR hm hy (fun i hi => by have := (flat_parts hf).2 i hi; rwa [lo_plain (by decide) (by decide)] at this) h0 hh hL)
  have HWL := Lib.hid (wide_parts hf)
  have hwl0 := heap_lt h.st.blk
  have hcl0 := owns_lt h.st.own
  have H2 := Lib.hid hW2
  have HGP := Lib.hid gP
  have hm' : l.length ≤ 9223372036854775807 := by unfold maxLen at hm; omega
  clear h hx hf gP hg hW2 hx2 hR hm hy H
  go_enter Try.func45, Try.ntmps45
  go_wp2_with fail
  refine HX.out.mono ?_
  rintro e V2 ⟨rfl, cv1, L1, hW3, hE3, hl3, hp3, hc3⟩
  have gP2 := (hE3.kept _ (heap_lt HGP.out) (by omega) (fun e => by have := (hcl0 _ e).2; omega)).trans HGP.out
  have HE3 := Lib.hid (HE1.out.trans hE3)
  have HM := Lib.hid (emit2_any wb mb B cv1 L1 7 n (l.length : Int) V2 hW3 (Nat.le_trans H2.out.size hE3.size) (by omega))
  have HC3 : Hid (L1.length = L.length + clenL l ∧ (∀ i, i < L.length → L1[i]? = L[i]?) ∧ CodeS L1 T loc l L.length) := ⟨hl3, hp3, hc3⟩
  clear p0 p1 p2 p3 hW3 hE3 hp3 hc3 HX
  obtain ⟨p0, p1, p2, p3⟩ := exp_box gP2
  go_wp2_with fail
  refine HM.out.mono ?_
  rintro e V3 ⟨rfl, hW⟩
  have HR := Lib.hid (wr_node (n := n) (s := s) (v := .slice a l.length c) (op := 24) (by decide) (by decide) HWL.out rfl HE3.out HC3.out.1 HC3.out.2.1 HC3.out.2.2 hW)
  clear hW
  go_wp2_with fail
  go_end0
  exact HR.out
set_option maxHeartbeats 1000000 in
set_option maxRecDepth 100000 in
theorem exp_25_gen (caps : Int) (clo : Int → Int → Bool) (T : ByteArray → Int) (wb mb B B0 : Nat) (l : List ExpD) (H : ∀ y ∈ l, ExpAll caps clo T wb mb B B0 y) (n : Int) (s : ByteArray) (a : Option Addr) (c : Nat) (loc : Int) (cv : Value) (L : List Ins) (V : World) (h : Wg V wb mb B B0 cv L T) (hx : IsExp B0 V (.mk 25 n s (.slice a l.length c) l)) (hf : flatX caps clo loc (.mk 25 n s (.slice a l.length c) l) = true) (h0 : 0 ≤ loc) (hh : loc + heightL l ≤ 100000) (hL : L.length + clenL l ≤ 100000) :
    Calls Try.prog 45 #[.pointer (some ⟨wb, 0, none⟩), .agg #[.int .i64 25, .int .i64 n, .string s, .slice a l.length c], .int .i64 loc] V (Wr wb mb B L cv V (clenX (.mk 25 n s (.slice a l.length c) l)) (fun L' => CodeX L' T loc (.mk 25 n s (.slice a l.length c) l) L.length)) := by
  have hg := grown_alloc V (.cells #[.int .i64 25, .int .i64 n, .string s, .slice a l.length c] 36)
  have gP := new_heap V (.cells #[.int .i64 25, .int .i64 n, .string s, .slice a l.length c] 36)
  obtain ⟨p0, p1, p2, p3⟩ := exp_box gP
  have HE1 := Lib.hid (Em.free (wb := wb) (r := cv.ownBlock) hg)
  have hW2 := h.free hg
  have hx2 := hx.under (h.below HE1.out)
  obtain ⟨hR, hm, hy⟩ := hx2.parts
  have HX := Lib.hid (all_gen caps clo T wb mb B B0 l H a c loc cv L _ hW2 hR hm hy (fun i hi => by have := (flat_parts hf).2 i hi; rwa [lo_plain (by decide) (by decide)] at this) h0 hh hL)
  have HWL := Lib.hid (wide_parts hf)
  have hwl0 := heap_lt h.st.blk
  have hcl0 := owns_lt h.st.own
  have H2 := Lib.hid hW2
  have HGP := Lib.hid gP
  have hm' : l.length ≤ 9223372036854775807 := by unfold maxLen at hm; omega
  clear h hx hf gP hg hW2 hx2 hR hm hy H
  go_enter Try.func45, Try.ntmps45
  go_wp2_with fail
  refine HX.out.mono ?_
  rintro e V2 ⟨rfl, cv1, L1, hW3, hE3, hl3, hp3, hc3⟩
  have gP2 := (hE3.kept _ (heap_lt HGP.out) (by omega) (fun e => by have := (hcl0 _ e).2; omega)).trans HGP.out
  have HE3 := Lib.hid (HE1.out.trans hE3)
  have HM := Lib.hid (emit2_any wb mb B cv1 L1 8 0 0 V2 hW3 (Nat.le_trans H2.out.size hE3.size) (by omega))
  have HC3 : Hid (L1.length = L.length + clenL l ∧ (∀ i, i < L.length → L1[i]? = L[i]?) ∧ CodeS L1 T loc l L.length) := ⟨hl3, hp3, hc3⟩
  clear p0 p1 p2 p3 hW3 hE3 hp3 hc3 HX
  obtain ⟨p0, p1, p2, p3⟩ := exp_box gP2
  go_wp2_with fail
  refine HM.out.mono ?_
  rintro e V3 ⟨rfl, hW⟩
  have HR := Lib.hid (wr_node (n := n) (s := s) (v := .slice a l.length c) (op := 25) (by decide) (by decide) HWL.out rfl HE3.out HC3.out.1 HC3.out.2.1 HC3.out.2.2 hW)
  clear hW
  go_wp2_with fail
  go_end0
  exact HR.out
end Go.Proofs.Ytidolpcbbbakmaa
namespace Go.Proofs.Ytidolpcbbbakmaa
open Go Go.RowKit
open Go.Maps

theorem clen_let (n : Int) (s : ByteArray) (v : Value) (x y : ExpD) : clenX (.mk 11 n s v [x, y]) = clenX x + 1 + clenX y := by
  rw [clenX_mk, if_neg (by decide), clenL_cons, clenL_cons, clenL_nil]; omega
theorem wr_let {wb mb B : Nat} {L L1 : List Ins} {cv cv2 : Value} {V V2 V' : World} {T : ByteArray → Int} {n loc : Int} {s : ByteArray} {v : Value} {x y : ExpD} (hwx : wideX x) (hE1 : Em wb V V2 cv.ownBlock cv2.ownBlock) (hl : L1.length = L.length + clenX x) (hp : ∀ i, i < L.length → L1[i]? = L[i]?) (hc : CodeX L1 T loc x L.length)
    (hW : Wr wb mb B (L1 ++ [⟨4, loc, 0⟩]) cv2 V2 (clenX y) (fun L' => CodeX L' T (loc + 1) y (L1 ++ [(⟨4, loc, 0⟩ : Ins)]).length) (.returned (.tuple #[])) V') : Wr wb mb B L cv V (clenX (.mk 11 n s v [x, y])) (fun L' => CodeX L' T loc (.mk 11 n s v [x, y]) L.length) (.returned (.tuple #[])) V' := by
  obtain ⟨_, cv', L', hW, hE, hl2, hp2, hc2⟩ := hW
  rw [List.length_append, List.length_singleton] at hl2 hp2 hc2
  have hp3 : ∀ i, i < L1.length → L'[i]? = L1[i]? := fun i hi => (hp2 i (by omega)).trans (List.getElem?_append_left hi)
  refine ⟨rfl, cv', L', hW, hE1.trans hE, by rw [clen_let]; omega, pre_trans hp (by omega) hp3, ?_⟩
  show CodeX _ T loc _ L.length
  unfold CodeX
  rw [if_pos rfl]
  unfold CodeLet
  refine ⟨code_stays x hwx _ _ hc fun i _ hi => hp3 i (by omega), ?_, ?_⟩
  · rw [← hl, hp2 _ (by omega), List.getElem?_append_right (Nat.le_refl _), Nat.sub_self]; rfl
  · rw [codeS_cons, ← hl]
    exact ⟨hc2, codeS_nil ..⟩
set_option maxHeartbeats 2000000 in
set_option maxRecDepth 100000 in
theorem exp_11_gen (caps : Int) (clo : Int → Int → Bool) (T : ByteArray → Int) (wb mb B B0 : Nat) (x y : ExpD) (Hx : ExpAll caps clo T wb mb B B0 x) (Hy : ExpAll caps clo T wb mb B B0 y) (n : Int) (s : ByteArray) (a : Option Addr) (c : Nat) (loc : Int) (cv : Value) (L : List Ins) (V : World) (h : Wg V wb mb B B0 cv L T) (hx : IsExp B0 V (.mk 11 n s (.slice a 2 c) [x, y])) (hf : flatX caps clo loc (.mk 11 n s (.slice a 2 c) [x, y]) = true) (h0 : 0 ≤ loc) (hh : loc + heightL [x, y] + 1 ≤ 100000) (hL : L.length + clenX (.mk 11 n s (.slice a 2 c) [x, y]) ≤ 100000) :
    Calls Try.prog 45 #[.pointer (some ⟨wb, 0, none⟩), .agg #[.int .i64 11, .int .i64 n, .string s, .slice a 2 c], .int .i64 loc] V (Wr wb mb B L cv V (clenX (.mk 11 n s (.slice a 2 c) [x, y])) (fun L' => CodeX L' T loc (.mk 11 n s (.slice a 2 c) [x, y]) L.length)) := by
  have hg := grown_alloc V (.cells #[.int .i64 11, .int .i64 n, .string s, .slice a 2 c] 36)
  have gP := new_heap V (.cells #[.int .i64 11, .int .i64 n, .string s, .slice a 2 c] 36)
  obtain ⟨p0, p1, p2, p3⟩ := exp_box gP
  have HE1 := Lib.hid (Em.free (wb := wb) (r := cv.ownBlock) hg)
  have hW2 := h.free hg
  obtain ⟨hR0, _, hy0⟩ := hx.parts
  have HR := Lib.hid hR0
  have hbx := h.below HE1.out
  have hfx := (flat_parts hf).2 0 (by simp)
  have hfy := (flat_parts hf).2 1 (by simp)
  have hwx : wideX x := (wide_of_flat x _ hfx)
  rw [show lo 11 loc 0 = loc from rfl, show [x, y].getD 0 default = x from rfl] at hfx
  rw [show lo 11 loc 1 = loc + 1 from rfl, show [x, y].getD 1 default = y from rfl] at hfy
  rw [clen_let] at hL
  rw [heightL_cons, heightL_cons, heightL_nil] at hh
  have hyx := hy0 x (by simp)
  have hyy := hy0 y (by simp)
  have hwl0 := heap_lt h.st.blk
  have hcl0 := owns_lt h.st.own
  obtain ⟨b, off, rfl, hbB, c0, c1, c2, c3⟩ := parts_at (l := [x, y]) HR.out hbx 0 (by simp)
  rw [show [x, y].getD 0 default = x from rfl] at c0 c1 c2 c3
  have H0 := Lib.hid h
  have H2 := Lib.hid hW2
  have HGP := Lib.hid gP
  have HX := Lib.hid (Hx loc cv L _ hW2 (hyx.under hbx) hfx h0 (by omega) (by omega))
  have HY := Lib.hid (fun cv2 L2 V2 (hW : Wg V2 wb mb B B0 cv2 L2 T) (hb : Below B0 V V2) (hl : L2.length + clenX y ≤ 100000) => Hy (loc + 1) cv2 L2 V2 hW (hyy.under hb) hfy (by omega) (by omega) hl)
  obtain ⟨xo, xn, xs, xv, xl⟩ := x
  obtain ⟨yo, yn, ys, yv, yl⟩ := y
  obtain ⟨xa, xc, rfl, _⟩ := hyx.parts.1
  obtain ⟨ya, yc, rfl, _⟩ := hyy.parts.1
  simp only [ExpD.op, ExpD.n, ExpD.s, ExpD.lv, Nat.zero_mul, Nat.add_zero] at c0 c1 c2 c3
  rw [expV_mk] at HX HY
  clear h hx hf gP hg hW2 hyx hyy hfx hfy Hx Hy hR0 hy0
  go_enter Try.func45, Try.ntmps45
  go_wp2_with fail
  refine HX.out.mono ?_
  rintro e V2 ⟨rfl, cv1, L1, hW3, hE3, hl3, hp3, hc3⟩
  have HG3 := Lib.hid (H2.out.step hW3 hE3)
  have HE3 := Lib.hid (HE1.out.trans hE3)
  have gP2 := (hE3.kept _ (heap_lt HGP.out) (by omega) (fun e => by have := (hcl0 _ e).2; omega)).trans HGP.out
  have HM := Lib.hid (emit2_any wb mb B cv1 L1 4 loc 0 V2 hW3 (Nat.le_trans H2.out.size hE3.size) (by omega))
  have HC3 : Hid (L1.length = L.length + _ ∧ (∀ i, i < L.length → L1[i]? = L[i]?) ∧ CodeX L1 T loc _ L.length) := ⟨hl3, hp3, hc3⟩
  have hs3 := hE3.size
  have hlt3 := heap_lt HGP.out
  have hno3 : cv1.ownBlock ≠ some V.heap.size := fun e => by
    rcases hE3.own with e2 | ⟨g, e2, hg⟩
    · rw [e2] at e; have := (hcl0 _ e).2; omega
    · rw [e2] at e; cases e; omega
  clear p0 p1 p2 p3 c0 c1 c2 c3 hW3 hE3 hp3 hc3 HX
  go_wp2_with fail
  refine HM.out.mono ?_
  rintro e V3 ⟨rfl, cv2, hW4, hE4⟩
  have HG4 := Lib.hid (HG3.out.step hW4 hE4)
  have HE4 := Lib.hid (HE3.out.trans hE4)
  have hb4 := H0.out.below HE4.out
  have gP3 := (hE4.kept _ (heap_lt gP2) (by omega) hno3).trans gP2
  have HYY := Lib.hid (HY.out cv2 _ V3 HG4.out hb4 (by rw [List.length_append, List.length_singleton]; omega))
  obtain ⟨b', off', ha, hbB, c0, c1, c2, c3⟩ := parts_at (l := [_, _]) HR.out hb4 1 (Nat.lt_succ_self 1)
  cases ha
  simp only [ExpD.op, ExpD.n, ExpD.s, ExpD.lv, List.getD_cons_succ, List.getD_cons_zero, Nat.one_mul] at c0 c1 c2 c3
  obtain ⟨p0, p1, p2, p3⟩ := exp_box gP3
  clear gP2 gP3 hW4 hE4 HM
  go_wp2_with fail
  refine HYY.out.mono ?_
  rintro e V4 hW5
  have HR5 := Lib.hid (wr_let (n := n) (s := s) (v := .slice (some ⟨b, off, none⟩) 2 c) hwx HE4.out HC3.out.1 HC3.out.2.1 HC3.out.2.2 (by have := hW5.1; subst this; exact hW5))
  have := hW5.1
  subst this
  clear hW5
  go_wp2_with fail
  go_end0
  exact HR5.out
end Go.Proofs.Ytidolpcbbbakmaa
