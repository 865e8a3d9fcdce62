/- call of the reference of layer 47: what holds at the head of its loop. Concat of two rows of texts; with, in general. -/
import Derived.Test.YtidolpcbbbakmaaGreatM36
import Derived.Deep.QuietTactic
import Derived.Laws.AppendOwnNone
namespace Go.Proofs.YtidolpcbbbakmaaGreat
open Go Go.RowKit
/-- What a call gives. -/
def RunOk (M : Nat → Prop) (sb : Nat) (fv tv : Value) (main fuel : Int) (ov : Value) (r : ValD × StD) (V : World) (e : Ending) (V' : World) : Prop :=
  ∃ (x : ExpD) (ov' : Value), e = .returned (expV x) ∧ stripX x = r.1 ∧ IsV M V' x ∧ SSt V' sb fv tv main fuel r.2 ov' ∧ Em sb V V' ov.ownBlock ov'.ownBlock
def CallOk (p : ProgD) (fuel : Int) (g : Nat) : Prop :=
  ∀ (M : Nat → Prop) (w0 : World) (sb : Nat) (fv tv : Value) (st : StD) (ov : Value) (f arg : ExpD) (V : World), IsProg w0 fv tv p → Below w0.heap.size w0 V → w0.heap.size ≤ sb → (∀ b, M b → b < V.heap.size) → SSt V sb fv tv p.main fuel st ov →
    IsV M V f → IsV M V arg → ValOk p (stripX f) → f.op = 7 → ValOk p (stripX arg) → st.out.length ≤ 1000 → fuel - st.steps < g → 0 ≤ st.steps → st.steps ≤ fuel →
    Calls Tryz.prog 29 #[.pointer (some ⟨sb, 0, none⟩), expV f, expV arg] V (RunOk M sb fv tv p.main fuel ov (runP p fuel g (stripX f) (locals0 p (stripX f) (stripX arg)) [] 0 st) V)
/-- The blocks that a call writes: those of M, its result's, its locals'. -/
def Mine (M : Nat → Prop) (z : Nat) (b : Nat) : Prop := M b ∨ b = z + 2 ∨ b = z + 4
/-- What holds all along. -/
structure BaseV (p : ProgD) (fuel : Int) (M : Nat → Prop) (sb : Nat) (fv tv : Value) (ov : Value) (f : ExpD) (V : World) (cv : Value) (lo : List ExpD) (s : StD) (o2 : Value) (w : World) : Prop where
  lob : w.heap[V.heap.size + 4]? = some (.cells (expCells lo).toArray 77 (0, 0))
  lov : ∀ y ∈ lo, IsV (Mine M V.heap.size) w y
  fval : IsV (Mine M V.heap.size) w f
  sst : SSt w sb fv tv p.main fuel s o2
  em : Em sb V w ov.ownBlock o2.ownBlock
  boxf : w.heap[V.heap.size]? = some (.cells #[.int .i64 f.op, .int .i64 f.n, .string f.s, f.lv] 77 (0, 0))
  boxr : w.heap[V.heap.size + 2]? = some (.cells nil47 77 (0, 0))
  boxc : w.heap[V.heap.size + 3]? = some (.cells #[.int .i64 (funOf p (stripX f)).c, .int .i64 (funOf p (stripX f)).l, .int .i64 (funOf p (stripX f)).d, cv] 43 (0, 0))
/-- What holds at the head of the loop. -/
structure LR (p : ProgD) (fuel : Int) (G : Nat) (M : Nat → Prop) (sb : Nat) (fv tv : Value) (ov : Value) (f : ExpD) (r : ValD × StD) (V : World) (cv : Value) (stk lo : List ExpD) (at_ : Int) (s : StD) (o2 : Value) (m : Nat) (sv : Value) (wr : World) : Prop where
  base : BaseV p fuel M sb fv tv ov f V cv lo s o2 wr
  shape : (sv = .slice none 0 0 ∧ stk = []) ∨ ∃ g c, sv = .slice (some ⟨g, 0, none⟩) stk.length c ∧ stk.length ≤ c
  stack : RowV (Mine M V.heap.size) wr sv stk.length (expCells stk)
  stackv : ∀ y ∈ stk, IsV (Mine M V.heap.size) wr y
  lolen : (lo.length : Int) = (funOf p (stripX f)).l
  eq : runP p fuel m (stripX f) (lo.map stripX) (stk.map stripX) at_ s = r
  gas : fuel - s.steps < m
  le : m ≤ G
  pos : 0 ≤ s.steps
  top : s.steps ≤ fuel
  look : ∀ y ∈ lo, ValOk p (stripX y)
  stkok : ∀ y ∈ stk, ValOk p (stripX y)
  out : s.out.length ≤ 1000
  small : (stk.length : Int) ≤ s.steps
  at0 : 0 ≤ at_
  at1 : at_ ≤ 20000
theorem fun_at {w : World} {v : Value} {l : List FunD} (h : IsFuns w v l) (n : Nat) (hn : n < l.length) :
    ∃ b off c, v = .slice (some ⟨b, off, none⟩) l.length c ∧ l.length ≤ c ∧ b < w.heap.size ∧ w.rangeAt b (off + n * 4) [.int .i64 (l.getD n default).c, .int .i64 (l.getD n default).l, .int .i64 (l.getD n default).d, (l.getD n default).v] := by
  obtain ⟨⟨a, c, rfl, hlc, hcell⟩, _⟩ := h
  obtain ⟨b, off, rfl, hlt, hc⟩ := hcell (by omega)
  obtain ⟨c0, c1, c2, c3⟩ := funCells_at l n hn
  have hlen := funCells_length l
  refine ⟨b, off, c, rfl, hlc, hlt, fun j u hu => ?_⟩
  have hj : j < 4 := by have := (List.getElem?_eq_some_iff.1 hu).1; simpa using this
  have h4 : j = 0 ∨ j = 1 ∨ j = 2 ∨ j = 3 := by omega
  rw [Nat.add_assoc, hc (n * 4 + j) (by omega)]
  rcases h4 with rfl | rfl | rfl | rfl
  · rw [Nat.add_zero, c0]; exact hu
  · rw [c1]; exact hu
  · rw [c2]; exact hu
  · rw [c3]; exact hu
theorem info_valK : (Tryz.prog.info? 77).map (fun i => (i.zero, i.size, i.bytes)) = some (some (.agg nil47), 4, 56) := by kernel_rfl
theorem keepV_setRow {M : Nat → Prop} (w : World) {q : Nat} (hq : M q) (cs : Array Value) : KeepV M w (w.setRow q cs) := fun b cur _ hm => setRow_other _ _ _ _ (fun e => hm (e ▸ hq))
/-- A block that is neither the state's nor the output's. -/
theorem SSt.other {V V' : World} {sb : Nat} {fv tv : Value} {main fuel : Int} {st : StD} {ov : Value} {r' : Option Nat} (h : SSt V sb fv tv main fuel st ov) (g : Em sb V V' ov.ownBlock r') {b : Nat} {cur : Array Value} {t : TypeId} (hb : V.heap[b]? = some (.cells cur t (0, 0))) (ht : t ≠ 9) (hne : b ≠ sb) :
    V'.heap[b]? = some (.cells cur t (0, 0)) := by
  refine (g.kept b (heap_lt hb) hne (fun e => ?_)).trans hb
  obtain ⟨cur', hc⟩ := owns_block h.own b e
  rw [hc] at hb
  exact ht (Obj.cells.inj (Option.some.inj hb)).2.1.symm
theorem expCells_take (l : List ExpD) (k : Nat) (hk : k ≤ l.length) : expCells (l.take k) = (expCells l).take (k * 4) := by
  have e : expCells l = expCells (l.take k) ++ expCells (l.drop k) := by
    unfold expCells; rw [← List.flatMap_append, List.take_append_drop]
  have hlen : (expCells (l.take k)).length = k * 4 := by rw [expCells_length, List.length_take, Nat.min_eq_left hk]
  rw [e, ← hlen, List.take_left]
theorem expCells_drop (l : List ExpD) (k : Nat) (hk : k ≤ l.length) : expCells (l.drop k) = (expCells l).drop (k * 4) := by
  have e : expCells l = expCells (l.take k) ++ expCells (l.drop k) := by
    unfold expCells; rw [← List.flatMap_append, List.take_append_drop]
  have hlen : (expCells (l.take k)).length = k * 4 := by rw [expCells_length, List.length_take, Nat.min_eq_left hk]
  rw [e, ← hlen, List.drop_left]
theorem getD_take (l : List Value) (k j : Nat) (h : j < k) : (l.take k).getD j undef = l.getD j undef := by
  simp [List.getD, List.getElem?_take, h]
/-- A head of a row. -/
theorem rowV_sub {M : Nat → Prop} {w : World} {a : Option Addr} {n c : Nat} {l : List ExpD} (h : RowV M w (.slice a n c) l.length (expCells l)) (k : Nat) (hk : k ≤ l.length) : RowV M w (.slice a k k) k (expCells (l.take k)) := by
  obtain ⟨a', c', hv, hlc, hn, hcell⟩ := h
  obtain ⟨rfl, rfl, rfl⟩ := Value.slice.inj hv
  refine ⟨_, _, rfl, Nat.le_refl _, fun e => by have := hn e; omega, fun hpos => ?_⟩
  obtain ⟨b, off, cur, ha, hm, hb, hc⟩ := hcell (by omega)
  have hlen := expCells_length l
  refine ⟨b, off, cur, ha, hm, hb, fun j hj => ?_⟩
  rw [expCells_take l k hk] at hj ⊢
  rw [List.length_take] at hj
  rw [getD_take _ _ _ (by omega)]
  exact hc j (by omega)
/-- The cells of a tail of a row. -/
theorem rowV_tail {M : Nat → Prop} {w : World} {g off n c : Nat} {l : List ExpD} (h : RowV M w (.slice (some ⟨g, off, none⟩) n c) l.length (expCells l)) (k : Nat) (hk : k ≤ l.length) :
    ∀ j u, (expCells (l.drop k))[j]? = some u → w.cell? ((⟨g, off + k * 4, none⟩ : Addr).add j) = some u := fun j u hu => by
  obtain ⟨a', c', hv, hlc, hn, hcell⟩ := h
  obtain ⟨rfl, rfl, rfl⟩ := Value.slice.inj hv
  rw [expCells_drop l k hk, List.getElem?_drop] at hu
  have hlt := (List.getElem?_eq_some_iff.1 hu).1
  rw [expCells_length] at hlt
  obtain ⟨b, o, cur, ha, hm, hb, hc⟩ := hcell (by omega)
  obtain ⟨rfl, rfl, _⟩ := Addr.mk.inj (Option.some.inj ha)
  rw [Addr.add_lit, Nat.add_assoc, hc (k * 4 + j) (by rw [expCells_length]; omega)]
  simp [List.getD, hu]
theorem rowV_nil2 (M : Nat → Prop) (w : World) (xs : List Value) : RowV M w (.slice none 0 0) 0 xs := ⟨none, 0, rfl, Nat.le_refl _, fun _ => ⟨rfl, rfl⟩, fun h => by omega⟩
theorem rowV_owned {M : Nat → Prop} {w : World} {B n : Nat} {v : Value} {l : List ExpD} (h : w.ownsRow B 77 4 v n (expCells l)) (hM : ∀ b, M b → b < B) : RowV M w v n (expCells l) := by
  have h' := h
  obtain ⟨_, ⟨rfl, rfl⟩ | ⟨g, cap, cur, rfl, hb, hh, h1, _⟩⟩ := h
  · exact rowV_nil2 M w (expCells l)
  · refine ⟨_, _, rfl, h1, (fun e => by cases e), fun _ => ⟨g, 0, cur, rfl, fun e => by have := hM g e; omega, hh, fun j hj => ?_⟩⟩
    have := h'.cells rfl j _ (List.getElem?_eq_getElem hj)
    rw [Addr.add_lit] at this
    rw [this]
    simp [List.getD, List.getElem?_eq_getElem hj]
/-- append of a row that may be nil or empty, to a row of the call. -/
theorem wpList_append_any {w : World} {ops : Array Oper} {rest : List Oper} {o : Oper} {a : Act} {Q : Exit → Act → World → Prop} (hgd : o.guard = none) (s x : Operand) (t : TypeId)
    (ho : o.op = .call { callee := .builtin .append, args := #[s, x], argTypes := #[t, t] })
    (base : Nat) (e : TypeId) (i : TypeInfo) (z : Value) (size bytes : Nat) (ht : Tryz.prog.underlying t = some (.slice e)) (hi : Tryz.prog.info? e = some i) (hz : i.zero = some z)
    (hsize : i.size = size) (hby : i.bytes = bytes) (hzs : z.cells.size = size) (hsz : 0 < size) (v : Value) (n : Nat) (xs : List Value) (hs : a.eval s = v) (hown : w.ownsRow base e size v n xs)
    (ao : Option Addr) (m c : Nat) (news : List Value) (hx : a.eval x = .slice ao m c) (hnone : ao = none → m = 0 ∧ c = 0) (hl : news.length = m * size) (hnews : ∀ ad, ao = some ad → ∀ j u, news[j]? = some u → w.cell? (ad.add j) = some u) (h1 : ∀ u ∈ news, u.oneCell' = true)
    (h63 : n + m ≤ maxLen) (hbytes : (n + m) * bytes ≤ 140737488355328) (hbase : base ≤ w.heap.size)
    (h : ∀ v' w', w'.ownsRow base e size v' (n + m) (xs ++ news) → w.grownBy w' v.ownBlock → (v'.ownBlock = v.ownBlock ∨ v'.ownBlock = some w.heap.size) → (v' = .slice none 0 0 ↔ v = .slice none 0 0 ∧ m = 0) → wpList Tryz.prog ops Q rest (a.put o.dst v') w') : wpList Tryz.prog ops Q (o :: rest) a w := by
  cases ao with
  | none =>
    obtain ⟨rfl, rfl⟩ := hnone rfl
    obtain rfl : news = [] := List.eq_nil_of_length_eq_zero (by simpa using hl)
    refine wpList_append_own_none hgd s x t ho base e i size ht hi v n xs hs hown hx (h v w ?_ ⟨rfl, rfl, rfl, Nat.le_refl _, fun _ _ _ => rfl⟩ (.inl rfl) ⟨fun e => ⟨e, rfl⟩, fun e => e.1⟩)
    rw [List.append_nil]; exact hown
  | some ad =>
    exact wpList_append_own_at w hgd s x t ho base e i z size bytes ht hi hz hsize hby hzs hsz v n xs hs hown ad m c news hx hl (hnews ad rfl) h1 h63 hbytes hbase (fun v' w' hown hg hn hat => h v' w' hown hg hat hn)
theorem oneCell_expCells (l : List ExpD) : (∀ y ∈ l, ∃ a c n, y.lv = .slice a n c) → ∀ u ∈ expCells l, u.oneCell' = true := fun h u hu => by
  unfold expCells at hu
  obtain ⟨y, hy, hu⟩ := List.mem_flatMap.1 hu
  obtain ⟨a, c, n, e⟩ := h y hy
  simp only [expEnc, List.mem_cons, List.not_mem_nil, or_false, e] at hu
  rcases hu with rfl | rfl | rfl | rfl <;> rfl
theorem three_boxes (V : World) (A B C : Obj) : V.grownBy (((V.alloc A).alloc B).alloc C) none ∧ (((V.alloc A).alloc B).alloc C).heap[V.heap.size]? = some A ∧ (((V.alloc A).alloc B).alloc C).heap[V.heap.size + 1]? = some B ∧ (((V.alloc A).alloc B).alloc C).heap[V.heap.size + 2]? = some C ∧ (((V.alloc A).alloc B).alloc C).heap.size = V.heap.size + 3 := by
  have h0 := heap_alloc_new V A
  have h1 := heap_alloc_at (w := V.alloc A) (k := V.heap.size + 1) (by simp) B
  have h2 := heap_alloc_at (w := (V.alloc A).alloc B) (k := V.heap.size + 2) (by simp) C
  have gB := grown_alloc (V.alloc A) B
  have gC := grown_alloc ((V.alloc A).alloc B) C
  refine ⟨both (both (grown_alloc V A) gB) gC, ?_, ?_, h2, by simp⟩
  · exact (gC.block _ (by simp; omega) (by nofun)).trans ((gB.block _ (by simp) (by nofun)).trans h0)
  · exact (gC.block _ (by simp) (by nofun)).trans h1
theorem cells4 {w : World} {q : Nat} {a b c d : Value} {t : TypeId} (h : w.heap[q]? = some (.cells #[a, b, c, d] t (0, 0))) : w.cell? ⟨q, 0, none⟩ = some a ∧ w.cell? ⟨q, 1, none⟩ = some b ∧ w.cell? ⟨q, 2, none⟩ = some c ∧ w.cell? ⟨q, 3, none⟩ = some d := by
  simp [World.cell?, h]
theorem made_exp (L : Nat) : (madeCells (Value.agg nil47).cells (L * 4)).toList = expCells (List.replicate L default) := by
  have e : ∀ j, j < L * 4 → (expCells (List.replicate L default)).getD j undef = nil47[j % 4]! := fun j hj => by
    obtain ⟨c0, c1, c2, c3⟩ := expCells_at (List.replicate L default) (j / 4) (by simp; omega)
    have hd : (List.replicate L (default : ExpD)).getD (j / 4) default = default := by
      have : j / 4 < L := by omega
      simp [List.getD, this]
    rw [hd] at c0 c1 c2 c3
    have h4 : j % 4 = 0 ∨ j % 4 = 1 ∨ j % 4 = 2 ∨ j % 4 = 3 := by omega
    rcases h4 with h | h | h | h
    · rw [h, show j = j / 4 * 4 by omega, c0]; rfl
    · rw [h, show j = j / 4 * 4 + 1 by omega, c1]; rfl
    · rw [h, show j = j / 4 * 4 + 2 by omega, c2]; rfl
    · rw [h, show j = j / 4 * 4 + 3 by omega, c3]; rfl
  have hl : (expCells (List.replicate L default)).length = L * 4 := by rw [expCells_length, List.length_replicate]
  refine List.ext_getElem (by rw [Array.length_toList, size_madeCells, hl]) fun j h1 h2 => ?_
  have := e j (by rw [hl] at h2; exact h2)
  rw [List.getD, List.getElem?_eq_getElem h2, Option.getD_some] at this
  rw [this]
  simp [madeCells, Value.cells]
  rfl
theorem made_block {w : World} {q L : Nat} (h : w.ownsRow 0 77 4 (.slice (some ⟨q, 0, none⟩) L L) L (madeCells (Value.agg nil47).cells (L * 4)).toList) (hL : 1 ≤ L) : w.heap[q]? = some (.cells (expCells (List.replicate L default)).toArray 77 (0, 0)) := by
  obtain ⟨_, ⟨hv, h0⟩ | ⟨g, cap, cur, hv, _, hh, _, _, hs, ht⟩⟩ := h
  · omega
  · obtain ⟨h1, _, rfl⟩ := Value.slice.inj hv
    obtain ⟨rfl, _⟩ := Addr.mk.inj (Option.some.inj h1)
    rw [hh, ← made_exp L, ← ht, ← hs, ← Array.length_toList, List.take_length]
theorem expCells_set : ∀ (l : List ExpD) (k : Nat) (op n : Int) (s : ByteArray) (lv : Value) (l' : List ExpD), k < l.length → expCells (l.set k (.mk op n s lv l')) = ((((expCells l).set (k * 4) (.int .i64 op)).set (k * 4 + 1) (.int .i64 n)).set (k * 4 + 2) (.string s)).set (k * 4 + 3) lv
  | [], _, _, _, _, _, _, h => by cases h
  | y :: l, 0, op, n, s, lv, l', _ => by simp [expCells, expEnc, ExpD.op, ExpD.n, ExpD.s, ExpD.lv]
  | y :: l, k + 1, op, n, s, lv, l', h => by
    have ih := expCells_set l k op n s lv l' (by simpa using h)
    have e : ∀ (m : List ExpD), expCells (y :: m) = .int .i64 y.op :: .int .i64 y.n :: .string y.s :: y.lv :: expCells m := fun m => by simp [expCells, expEnc]
    rw [List.set_cons_succ, e, e, ih, show (k + 1) * 4 = k * 4 + 1 + 1 + 1 + 1 by omega]
    rfl
theorem rowA_at {w : World} {q : Nat} {l : List ExpD} {t : TypeId} (h : w.heap[q]? = some (.cells (expCells l).toArray t (0, 0))) (n : Nat) (hn : n < l.length) :
    w.cell? ⟨q, n * 4, none⟩ = some (.int .i64 (l.getD n default).op) ∧ w.cell? ⟨q, n * 4 + 1, none⟩ = some (.int .i64 (l.getD n default).n) ∧ w.cell? ⟨q, n * 4 + 2, none⟩ = some (.string (l.getD n default).s) ∧ w.cell? ⟨q, n * 4 + 3, none⟩ = some (l.getD n default).lv := by
  obtain ⟨c0, c1, c2, c3⟩ := expCells_at l n hn
  have hlen := expCells_length l
  have hc : ∀ j, j < (expCells l).length → w.cell? ⟨q, j, none⟩ = some ((expCells l).getD j undef) := fun j hj => by
    rw [cell_of_row w q j _ _ (0, 0) h]
    simp [List.getD, List.getElem?_eq_getElem hj]
  refine ⟨?_, ?_, ?_, ?_⟩
  · rw [hc _ (by omega), c0]
  · rw [hc _ (by omega), c1]
  · rw [hc _ (by omega), c2]
  · rw [hc _ (by omega), c3]
/-- A value stored into a row of values. -/
theorem rowA_set {w : World} {q : Nat} {l : List ExpD} {t : TypeId} (h : w.heap[q]? = some (.cells (expCells l).toArray t (0, 0))) (n : Nat) (hn : n < l.length) (op m : Int) (s : ByteArray) (lv : Value) (l' : List ExpD) :
    ((((w.setCell ⟨q, n * 4, none⟩ (.int .i64 op)).setCell ⟨q, n * 4 + 1, none⟩ (.int .i64 m)).setCell ⟨q, n * 4 + 2, none⟩ (.string s)).setCell ⟨q, n * 4 + 3, none⟩ lv).heap[q]? = some (.cells (expCells (l.set n (.mk op m s lv l'))).toArray t (0, 0)) := by
  have e0 := heap_set_same (i := n * 4) h (.int .i64 op)
  have e1 := heap_set_same (i := n * 4 + 1) e0 (.int .i64 m)
  have e2 := heap_set_same (i := n * 4 + 2) e1 (.string s)
  have e3 := heap_set_same (i := n * 4 + 3) e2 lv
  rw [e3, expCells_set l n op m s lv l' hn]
  simp
theorem grown_set4 (w : World) (q a b c d : Nat) (v0 v1 v2 v3 : Value) : w.grownBy ((((w.setCell ⟨q, a, none⟩ v0).setCell ⟨q, b, none⟩ v1).setCell ⟨q, c, none⟩ v2).setCell ⟨q, d, none⟩ v3) (some q) :=
  both (both (both (grown_set w q a v0) (grown_set _ q b v1)) (grown_set _ q c v2)) (grown_set _ q d v3)
theorem RowV.mine {M M' : Nat → Prop} {w : World} {v : Value} {n : Nat} {xs : List Value} (h : RowV M w v n xs) (k : ∀ b, M' b → M b ∨ w.heap.size ≤ b) : RowV M' w v n xs := by
  obtain ⟨a, c, hv, hlc, hn, hl⟩ := h
  refine ⟨a, c, hv, hlc, hn, fun hne => ?_⟩
  obtain ⟨b, off, cur, ha, hm, hb, hc⟩ := hl hne
  exact ⟨b, off, cur, ha, fun h => (k b h).elim hm (fun e => by have := heap_lt hb; omega), hb, hc⟩
theorem IsV.mine {M M' : Nat → Prop} {w : World} {x : ExpD} (h : IsV M w x) (k : ∀ b, M' b → M b ∨ w.heap.size ≤ b) : IsV M' w x := by
  induction h with
  | mk h1 h2 _ ih => exact .mk (h1.mine k) h2 ih
theorem mine_old {M : Nat → Prop} {z : Nat} : ∀ b, Mine M z b → M b ∨ z ≤ b := fun b h => by
  rcases h with h | h | h
  · exact .inl h
  · exact .inr (by omega)
  · exact .inr (by omega)
/-- What holds at the start of the loop. -/
theorem lr_start {p : ProgD} {fuel : Int} {G : Nat} {M : Nat → Prop} {sb : Nat} {fv tv ov : Value} {f arg : ExpD} {V w : World} {cv : Value} {st : StD} {L : Nat} {r : ValD × StD} (g : V.grownBy w none) (hS : SSt V sb fv tv p.main fuel st ov) (hf : IsV M V f) (ha : IsV M V arg)
    (hL : ((L + 1 : Nat) : Int) = (funOf p (stripX f)).l) (hb : w.heap[V.heap.size + 4]? = some (.cells (expCells (arg :: List.replicate L default)).toArray 77 (0, 0)))
    (b0 : w.heap[V.heap.size]? = some (.cells #[.int .i64 f.op, .int .i64 f.n, .string f.s, f.lv] 77 (0, 0))) (b2 : w.heap[V.heap.size + 2]? = some (.cells nil47 77 (0, 0)))
    (b3 : w.heap[V.heap.size + 3]? = some (.cells #[.int .i64 (funOf p (stripX f)).c, .int .i64 (funOf p (stripX f)).l, .int .i64 (funOf p (stripX f)).d, cv] 43 (0, 0))) (hr : runP p fuel G (stripX f) (locals0 p (stripX f) (stripX arg)) [] 0 st = r)
    (hgas : fuel - st.steps < G) (h0 : 0 ≤ st.steps) (h1 : st.steps ≤ fuel) (hao : ValOk p (stripX arg)) (ho : st.out.length ≤ 1000) : LR p fuel G M sb fv tv ov f r V cv [] (arg :: List.replicate L default) 0 st ov G (.slice none 0 0) w := by
  have hk := keepV_grown (M := Mine M V.heap.size) g
  have hd : stripX (default : ExpD) = default := default_strip
  refine ⟨⟨hb, fun y hy => ?_, (hf.mine mine_old).kept hk, hS.free g, Em.free g, b0, b2, b3⟩, .inl ⟨rfl, rfl⟩, rowV_nil _ _, (fun _ h => by cases h), by simp; omega, ?_, hgas, Nat.le_refl _, h0, h1, fun y hy => ?_, (fun _ h => by cases h), ho, (by simpa using h0), Int.le_refl _, by decide⟩
  · rcases List.mem_cons.1 hy with rfl | hy
    · exact (ha.mine mine_old).kept hk
    · rw [(List.mem_replicate.1 hy).2]; exact isV_flat _ _ _ _ _
  · rw [← hr]
    have : (arg :: List.replicate L default).map stripX = locals0 p (stripX f) (stripX arg) := by
      unfold locals0
      rw [List.map_cons, List.map_replicate, hd, ← hL]
      congr 2
    rw [this]; rfl
  · rcases List.mem_cons.1 hy with rfl | hy
    · exact hao
    · rw [(List.mem_replicate.1 hy).2, hd]; exact valOk_default p
theorem BaseV.free {p : ProgD} {fuel : Int} {M : Nat → Prop} {sb : Nat} {fv tv ov : Value} {f : ExpD} {V : World} {cv : Value} {lo : List ExpD} {s : StD} {o2 : Value} {w w' : World} (h : BaseV p fuel M sb fv tv ov f V cv lo s o2 w) (g : w.grownBy w' none) : BaseV p fuel M sb fv tv ov f V cv lo s o2 w' := by
  have hk := keepV_grown (M := Mine M V.heap.size) g
  have hb : ∀ b o, w.heap[b]? = some o → w'.heap[b]? = some o := fun b o hb => (g.block b (by
    rcases Nat.lt_or_ge b w.heap.size with h | h
    · exact h
    · rw [Array.getElem?_eq_none h] at hb; cases hb) (by nofun)).trans hb
  exact ⟨hb _ _ h.lob, fun y hy => (h.lov y hy).kept hk, h.fval.kept hk, h.sst.free g, h.em.trans (Em.free g), hb _ _ h.boxf, hb _ _ h.boxr, hb _ _ h.boxc⟩
theorem BaseV.step {p : ProgD} {fuel : Int} {M : Nat → Prop} {sb : Nat} {fv tv ov : Value} {f : ExpD} {V : World} {cv : Value} {lo : List ExpD} {s s' : StD} {o2 o3 : Value} {w w' : World} (h : BaseV p fuel M sb fv tv ov f V cv lo s o2 w) (hsb : sb < V.heap.size) (hS : SSt w' sb fv tv p.main fuel s' o3) (g : Em sb w w' o2.ownBlock o3.ownBlock) :
    BaseV p fuel M sb fv tv ov f V cv lo s' o3 w' := by
  have hk : KeepV (Mine M V.heap.size) w w' := h.sst.keepV g
  exact ⟨h.sst.other g h.lob (by decide) (by omega), fun y hy => (h.lov y hy).kept hk, h.fval.kept hk, hS, h.em.trans g, h.sst.other g h.boxf (by decide) (by omega), h.sst.other g h.boxr (by decide) (by omega), h.sst.other g h.boxc (by decide) (by omega)⟩
theorem BaseV.put {p : ProgD} {fuel : Int} {M : Nat → Prop} {sb : Nat} {fv tv ov : Value} {f : ExpD} {V : World} {cv : Value} {lo : List ExpD} {s : StD} {o2 : Value} {w : World} (h : BaseV p fuel M sb fv tv ov f V cv lo s o2 w) (hsb : sb < V.heap.size) (n : Nat) (hn : n < lo.length) (op m : Int) (t : ByteArray) (lv : Value) (l' : List ExpD) (hx : IsV (Mine M V.heap.size) w (.mk op m t lv l')) :
    BaseV p fuel M sb fv tv ov f V cv (lo.set n (.mk op m t lv l')) s o2 ((((w.setCell ⟨V.heap.size + 4, n * 4, none⟩ (.int .i64 op)).setCell ⟨V.heap.size + 4, n * 4 + 1, none⟩ (.int .i64 m)).setCell ⟨V.heap.size + 4, n * 4 + 2, none⟩ (.string t)).setCell ⟨V.heap.size + 4, n * 4 + 3, none⟩ lv) ∧
    KeepV (Mine M V.heap.size) w ((((w.setCell ⟨V.heap.size + 4, n * 4, none⟩ (.int .i64 op)).setCell ⟨V.heap.size + 4, n * 4 + 1, none⟩ (.int .i64 m)).setCell ⟨V.heap.size + 4, n * 4 + 2, none⟩ (.string t)).setCell ⟨V.heap.size + 4, n * 4 + 3, none⟩ lv) := by
  have g := grown_set4 w (V.heap.size + 4) (n * 4) (n * 4 + 1) (n * 4 + 2) (n * 4 + 3) (.int .i64 op) (.int .i64 m) (.string t) lv
  have hb := rowA_set h.lob n hn op m t lv l'
  generalize (((w.setCell ⟨V.heap.size + 4, n * 4, none⟩ (.int .i64 op)).setCell ⟨V.heap.size + 4, n * 4 + 1, none⟩ (.int .i64 m)).setCell ⟨V.heap.size + 4, n * 4 + 2, none⟩ (.string t)).setCell ⟨V.heap.size + 4, n * 4 + 3, none⟩ lv = w' at *
  have hk : KeepV (Mine M V.heap.size) w w' := fun b cur hb hm => g.block b (heap_lt hb) (fun e => hm (.inr (.inr (Option.some.inj e))))
  have hl := heap_lt h.sst.blk
  have hown : ∀ q, o2.ownBlock = some q → q ≠ V.heap.size + 4 := fun q hq e => by
    obtain ⟨cu, hcu⟩ := owns_block h.sst.own q hq
    rw [e, h.lob] at hcu
    exact absurd (Obj.cells.inj (Option.some.inj hcu)).2.1 (by decide)
  refine ⟨⟨hb, fun y hy => ?_, h.fval.kept hk, ⟨(g.block sb hl (fun e => by have := Option.some.inj e; omega)).trans h.sst.blk, owns_grown h.sst.own g (fun q hq e => hown q e (Option.some.inj hq).symm)⟩, h.em.fresh g (fun q hq => by cases hq; omega), ?_, ?_, ?_⟩, hk⟩
  · rcases List.mem_or_eq_of_mem_set hy with h1 | rfl
    · exact (h.lov y h1).kept hk
    · exact hx.kept hk
  · exact (g.block _ (heap_lt h.boxf) (fun e => by have := Option.some.inj e; omega)).trans h.boxf
  · exact (g.block _ (heap_lt h.boxr) (fun e => by have := Option.some.inj e; omega)).trans h.boxr
  · exact (g.block _ (heap_lt h.boxc) (fun e => by have := Option.some.inj e; omega)).trans h.boxc
/-- A value left in the result's cell. -/
theorem exit_val {p : ProgD} {fuel : Int} {M : Nat → Prop} {sb : Nat} {fv tv ov : Value} {f : ExpD} {V : World} {cv : Value} {lo : List ExpD} {s : StD} {o2 : Value} {w : World} {R : ValD × StD} (h : BaseV p fuel M sb fv tv ov f V cv lo s o2 w) (hsb : sb < V.heap.size) {x : ExpD} (hx : IsV (Mine M V.heap.size) w x) (hR : (stripX x, s) = R) (cs : Array Value) :
    RunOk M sb fv tv p.main fuel ov R V (.returned (expV x)) (w.setRow (V.heap.size + 2) cs) := by
  subst hR
  have g := setRow_grown w (V.heap.size + 2) cs
  refine ⟨x, o2, rfl, rfl, (hx.kept (keepV_setRow w (.inr (.inl rfl)) cs)).less (fun b hb => .inl hb), ⟨?_, owns_grown h.sst.own g (fun q hq e => ?_)⟩, h.em.fresh g (fun q hq => by cases hq; omega)⟩
  · exact (g.block sb (heap_lt h.sst.blk) (fun e => by have := Option.some.inj e; omega)).trans h.sst.blk
  · obtain ⟨cu, hcu⟩ := owns_block h.sst.own q e
    rw [← Option.some.inj hq, h.boxr] at hcu
    exact absurd (Obj.cells.inj (Option.some.inj hcu)).2.1 (by decide)
theorem exit_zero {p : ProgD} {fuel : Int} {M : Nat → Prop} {sb : Nat} {fv tv ov : Value} {f : ExpD} {V : World} {cv : Value} {lo : List ExpD} {s : StD} {o2 : Value} {w : World} {R : ValD × StD} (h : BaseV p fuel M sb fv tv ov f V cv lo s o2 w) (hsb : sb < V.heap.size) (hR : (default, s) = R) :
    RunOk M sb fv tv p.main fuel ov R V (.returned (.agg nil47)) (w.setRow (V.heap.size + 2) nil47) :=
  exit_val h hsb (x := .mk 0 0 ⟨#[]⟩ (.slice none 0 0) []) (isV_flat _ _ _ _ _) (by rw [default_strip]; exact hR) nil47
/-- A stop, and its nothing left in the result's cell. -/
theorem exit_stop {p : ProgD} {fuel : Int} {M : Nat → Prop} {sb : Nat} {fv tv ov : Value} {f : ExpD} {V : World} {cv : Value} {lo : List ExpD} {s : StD} {o2 : Value} {w w2 : World} {R : ValD × StD} (h : BaseV p fuel M sb fv tv ov f V cv lo s o2 w) (hsb : sb < V.heap.size) {e1 n1 : Int} (hs : SSt w2 sb fv tv p.main fuel (stopP s e1 n1) o2) (hE : Em sb w w2 o2.ownBlock o2.ownBlock)
    (hR : (default, stopP s e1 n1) = R) : w2.heap[V.heap.size + 2]? = some (.cells nil47 77 (0, 0)) ∧ RunOk M sb fv tv p.main fuel ov R V (.returned (.agg nil47)) (w2.setRow (V.heap.size + 2) nil47) :=
  ⟨(h.step hsb hs hE).boxr, exit_zero (h.step hsb hs hE) hsb hR⟩
theorem BaseV.keep {p : ProgD} {fuel : Int} {M : Nat → Prop} {sb : Nat} {fv tv ov : Value} {f : ExpD} {V : World} {cv : Value} {lo : List ExpD} {s : StD} {o2 o3 : Value} {w w' : World} (h : BaseV p fuel M sb fv tv ov f V cv lo s o2 w) (g : Em sb w w' o2.ownBlock o3.ownBlock) : KeepV (Mine M V.heap.size) w w' := h.sst.keepV g
end Go.Proofs.YtidolpcbbbakmaaGreat
namespace Go.Proofs.YtidolpcbbbakmaaGreat
open Go Go.RowKit
open Go.Maps

theorem own_nil {w : World} {B : Nat} {v : Value} {l : List ByteArray} (h : OwnS w B v l) : ∃ a c, v = .slice a l.length c ∧ (a = none → l.length = 0 ∧ c = 0) := by
  obtain ⟨⟨_, ⟨rfl, h0⟩ | ⟨g, cap, cur, rfl, _⟩⟩, _⟩ := h
  · exact ⟨none, 0, by rw [h0], fun _ => ⟨h0, rfl⟩⟩
  · exact ⟨_, _, rfl, fun e => by cases e⟩
theorem own_news {w : World} {B n c : Nat} {a : Option Addr} {l : List ByteArray} (h : OwnS w B (.slice a n c) l) : ∀ ad, a = some ad → ∀ j u, (strCells l)[j]? = some u → w.cell? (ad.add j) = some u := fun ad hd j u hu => by
  have h' := h.1
  obtain ⟨_, ⟨hv, h0⟩ | ⟨g, cap, cur, hv, _⟩⟩ := h'
  · obtain ⟨rfl, _, _⟩ := Value.slice.inj hv; cases hd
  · obtain ⟨rfl, _, _⟩ := Value.slice.inj hv
    cases hd
    exact h.1.cells rfl j u hu
theorem one_strs (l : List ByteArray) : ∀ u ∈ strCells l, u.oneCell' = true := fun u hu => by
  unfold strCells at hu; obtain ⟨x, _, rfl⟩ := List.mem_map.1 hu; rfl
theorem strCells_append (a b : List ByteArray) : strCells (a ++ b) = strCells a ++ strCells b := by simp [strCells]
set_option maxHeartbeats 2000000 in
set_option maxRecDepth 100000 in
theorem concat_2 (g : Nat) (ta : Option Addr) (tc : Nat) (ts : List ByteArray) (a : Option Addr) (c : Nat) (all : List ByteArray) (w : World) (h : w.heap[g]? = some (.cells #[.slice ta ts.length tc, .slice a all.length c] 34 (0, 0))) (B0 B : Nat) (hT : OwnS w B0 (.slice ta ts.length tc) ts) (hO : OwnS w B (.slice a all.length c) all) (htl : ts.length ≤ 1000) (hl : all.length ≤ 100000) (hn : 0 < ts.length + all.length) :
    Calls Tryz.prog 47 #[.slice (some ⟨g, 0, none⟩) 2 2] w fun e w' => ∃ v, e = .returned v ∧ w'.ownsRow w.heap.size 9 1 v (ts ++ all).length (strCells (ts ++ all)) ∧ w.grownBy w' none := by
  have c0 : w.cell? ⟨g, 0, none⟩ = some (.slice ta ts.length tc) := by simp [World.cell?, h]
  have c1 : w.cell? ⟨g, 1, none⟩ = some (.slice a all.length c) := by simp [World.cell?, h]
  have HH := Lib.hid h
  clear h
  obtain ⟨is0, his, isz0, isz1, isz2⟩ := info_parts info_str
  have HO := Lib.hid hO
  have HT := Lib.hid hT
  clear hO hT
  have hwr0 : IntKind.i64.wrap (0 + (ts.length : Int)) = (ts.length : Int) := by rw [wrap_ok _ (by omega) (by omega)]; omega
  have hwr : IntKind.i64.wrap ((ts.length : Int) + (all.length : Int)) = ((ts.length + all.length : Nat) : Int) := by rw [wrap_ok _ (by omega) (by omega)]; omega
  go_enter Tryz.func47, Tryz.ntmps47
  go_wp2_with fail
  go_loop [3, 11] (fun n i => n = .int .i64 0 ∧ i = .int .i64 0 ∨ n = .int .i64 ts.length ∧ i = .int .i64 1 ∨ n = .int .i64 ((ts.length + all.length : Nat) : Int) ∧ i = .int .i64 2) (fun _ i => 2 - (intOf i).toNat)
  case atStart => exact .inl ⟨rfl, rfl⟩
  case round =>
    rcases hrel with ⟨rfl, rfl⟩ | ⟨rfl, rfl⟩ | ⟨rfl, rfl⟩
    · go_wp2_with fail
      go_round
      case rel => exact .inr (.inl ⟨by go_num, rfl⟩)
      case measure => simp [intOf]
    · go_wp2_with fail
      go_round
      case rel => exact .inr (.inr ⟨by go_num, rfl⟩)
      case measure => simp [intOf]
    · have HGR := Lib.hid (grow_n (ts.length + all.length) hn (by omega) w)
      go_wp2_with fail
      refine HGR.out.mono ?_
      rintro e w2 ⟨gg, cap, rfl, hown, hg⟩
      have HG2 := Lib.hid hg
      have HOW := Lib.hid hown
      clear c0 c1 hg hown HGR
      go_wp2_with fail
      go_loopw [6, 27] (fun v i wr => ∃ xs : List ByteArray, (i = .int .i64 0 ∧ [] = xs ∨ i = .int .i64 1 ∧ ts = xs ∨ i = .int .i64 2 ∧ ts ++ all = xs) ∧ Hid (wr.ownsRow w.heap.size 9 1 v xs.length (strCells xs)) ∧ Hid (w.grownBy wr none)) (fun _ i _ => 2 - (intOf i).toNat)
      case atStart => exact ⟨[], .inl ⟨rfl, rfl⟩, HOW, HG2⟩
      case round =>
        obtain ⟨xs, hxs, HOX, HGX⟩ := hrel
        have hh2 := (HGX.out.block g (heap_lt HH.out) (by nofun)).trans HH.out
        have c0 : wr.cell? ⟨g, 0, none⟩ = some (.slice ta ts.length tc) := by simp [World.cell?, hh2]
        have c1 : wr.cell? ⟨g, 1, none⟩ = some (.slice a all.length c) := by simp [World.cell?, hh2]
        clear hh2
        have HO2 := Lib.hid (HO.out.grown HGX.out (by nofun))
        have HT2 := Lib.hid (HT.out.grown HGX.out (by nofun))
        have hsz := HGX.out.size
        obtain ⟨va, vc, rfl⟩ := own_shape HOX.out
        have hlv := owns_lt HOX.out
        rcases hxs with ⟨rfl, rfl⟩ | ⟨rfl, rfl⟩ | ⟨rfl, rfl⟩
        · obtain ⟨sa, sc, hsv, hsn⟩ := own_nil HT2.out
          obtain ⟨rfl, _, rfl⟩ := Value.slice.inj hsv
          clear hsv
          go_wp2_with (at_builtin; refine wpList_append_any rfl _ _ 34 rfl w.heap.size 9 is0 (.string ByteArray.empty) 1 16 Tryz.underlying34 his isz0 isz1 isz2 rfl (by decide) _ 0 (strCells []) rfl HOX.out ta ts.length tc (strCells ts) rfl hsn (by rw [strCells_length, Nat.mul_one]) (own_news HT2.out) (one_strs _) ?c3 ?c4 ?c5 ?_)
          case c3 => unfold maxLen; omega
          case c4 => omega
          intro v4 w4 hown4 hgrow4 hat4 hnn4
          have HG4 := Lib.hid (grown_below ((grown_under HGX.out (Nat.le_refl _) (by nofun)).trans (grown_under (B := w.heap.size) hgrow4 hsz (fun k hk => (hlv k hk).1))))
          have HO4 : Hid (w4.ownsRow w.heap.size 9 1 v4 ts.length (strCells ts)) := hown4
          clear hown4 hgrow4 hat4 hnn4
          go_wp2_with fail
          go_roundw
          case rel => exact ⟨_, .inr (.inl ⟨rfl, rfl⟩), HO4, HG4⟩
          case measure => simp [intOf]
        · obtain ⟨sa, sc, hsv, hsn⟩ := own_nil HO2.out
          obtain ⟨rfl, _, rfl⟩ := Value.slice.inj hsv
          clear hsv
          go_wp2_with (at_builtin; refine wpList_append_any rfl _ _ 34 rfl w.heap.size 9 is0 (.string ByteArray.empty) 1 16 Tryz.underlying34 his isz0 isz1 isz2 rfl (by decide) _ ts.length (strCells ts) rfl HOX.out a all.length c (strCells all) rfl hsn (by rw [strCells_length, Nat.mul_one]) (own_news HO2.out) (one_strs _) ?c3 ?c4 ?c5 ?_)
          case c3 => unfold maxLen; omega
          case c4 => omega
          intro v4 w4 hown4 hgrow4 hat4 hnn4
          have HG4 := Lib.hid (grown_below ((grown_under HGX.out (Nat.le_refl _) (by nofun)).trans (grown_under (B := w.heap.size) hgrow4 hsz (fun k hk => (hlv k hk).1))))
          have HO4 : Hid (w4.ownsRow w.heap.size 9 1 v4 (ts ++ all).length (strCells (ts ++ all))) := by rw [List.length_append, strCells_append]; exact hown4
          clear hown4 hgrow4 hat4 hnn4
          go_wp2_with fail
          go_roundw
          case rel => exact ⟨_, .inr (.inr ⟨rfl, rfl⟩), HO4, HG4⟩
          case measure => simp [intOf]
        · go_wp2_with fail
          go_ret
          exact ⟨_, rfl, HOX.out, HGX.out⟩
end Go.Proofs.YtidolpcbbbakmaaGreat
