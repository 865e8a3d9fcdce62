/- Flat functions in memory; fits. What came in reads as flat functions. texts, arity, times of the reference of layer 15. -/
import Derived.Test.YtidolpcbbbakmaaGreatM6
import Derived.Deep.Slices
import Derived.ChangeSame
import Derived.SliceStrings
namespace Go.Proofs.YtidolpcbbbakmaaGreat
open Go Go.RowKit

structure FlatD where
  caps : Int
  body : ExpD
  deriving Inhabited
def flatEnc (f : FlatD) : List Value := [.int .i64 f.caps, .int .i64 f.body.op, .int .i64 f.body.n, .string f.body.s, f.body.lv]
def flatDV (f : FlatD) : Value := .agg #[.int .i64 f.caps, .int .i64 f.body.op, .int .i64 f.body.n, .string f.body.s, f.body.lv]
def flatCells (l : List FlatD) : List Value := l.flatMap flatEnc
def IsFlats (B : Nat) (w : World) (v : Value) (l : List FlatD) : Prop := RowB B w v l.length (flatCells l) ∧ l.length ≤ maxLen ∧ ∀ f ∈ l, IsExp B w f.body
theorem IsFlats.under {B : Nat} {w w' : World} {v : Value} {l : List FlatD} (h : IsFlats B w v l) (hb : Below B w w') : IsFlats B w' v l := ⟨h.1.kept hb.block, h.2.1, fun f hf => (h.2.2 f hf).under hb⟩
theorem flatCells_length (l : List FlatD) : (flatCells l).length = l.length * 5 := by
  induction l with
  | nil => rfl
  | cons x l ih => simp [flatCells, flatEnc] at ih ⊢; omega
theorem flatCells_at : ∀ (l : List FlatD) (k : Nat), k < l.length → (flatCells l).getD (k * 5) undef = .int .i64 (l.getD k default).caps ∧ (flatCells l).getD (k * 5 + 1) undef = .int .i64 (l.getD k default).body.op ∧ (flatCells l).getD (k * 5 + 2) undef = .int .i64 (l.getD k default).body.n ∧ (flatCells l).getD (k * 5 + 3) undef = .string (l.getD k default).body.s ∧ (flatCells l).getD (k * 5 + 4) undef = (l.getD k default).body.lv
  | [], k, h => by simp at h
  | x :: l, 0, _ => by simp [flatCells, flatEnc]
  | x :: l, k + 1, h => by
    have ih := flatCells_at l k (by simpa using h)
    have e : flatCells (x :: l) = [.int .i64 x.caps, .int .i64 x.body.op, .int .i64 x.body.n, .string x.body.s, x.body.lv] ++ flatCells l := rfl
    have g : ∀ j, (flatCells (x :: l)).getD (j + 5) undef = (flatCells l).getD j undef := fun j => by
      rw [e]; simp [List.getD]
    have e1 : (k + 1) * 5 = k * 5 + 5 := by omega
    refine ⟨?_, ?_, ?_, ?_, ?_⟩
    · rw [e1, g]; exact ih.1
    · rw [show (k + 1) * 5 + 1 = k * 5 + 1 + 5 by omega, g]; exact ih.2.1
    · rw [show (k + 1) * 5 + 2 = k * 5 + 2 + 5 by omega, g]; exact ih.2.2.1
    · rw [show (k + 1) * 5 + 3 = k * 5 + 3 + 5 by omega, g]; exact ih.2.2.2.1
    · rw [show (k + 1) * 5 + 4 = k * 5 + 4 + 5 by omega, g]; exact ih.2.2.2.2
theorem flats_at {B : Nat} {w : World} {v : Value} {l : List FlatD} (h : RowB B w v l.length (flatCells l)) (n : Nat) (hn : n < l.length) :
    ∃ b off c, v = .slice (some ⟨b, off, none⟩) l.length c ∧ l.length ≤ c ∧ b < B ∧ w.cell? ⟨b, off + n * 5, none⟩ = some (.int .i64 (l.getD n default).caps) ∧ w.cell? ⟨b, off + n * 5 + 1, none⟩ = some (.int .i64 (l.getD n default).body.op) ∧ w.cell? ⟨b, off + n * 5 + 2, none⟩ = some (.int .i64 (l.getD n default).body.n) ∧ w.cell? ⟨b, off + n * 5 + 3, none⟩ = some (.string (l.getD n default).body.s) ∧ w.cell? ⟨b, off + n * 5 + 4, none⟩ = some (l.getD n default).body.lv := by
  obtain ⟨a, c, rfl, hlc, hcell⟩ := h
  obtain ⟨b, off, rfl, hlt, hc⟩ := hcell (by omega)
  obtain ⟨c0, c1, c2, c3, c4⟩ := flatCells_at l n hn
  have hlen := flatCells_length l
  refine ⟨b, off, c, rfl, hlc, hlt, ?_, ?_, ?_, ?_, ?_⟩
  · rw [hc (n * 5) (by omega), c0]
  · rw [Nat.add_assoc, hc (n * 5 + 1) (by omega), c1]
  · rw [Nat.add_assoc, hc (n * 5 + 2) (by omega), c2]
  · rw [Nat.add_assoc, hc (n * 5 + 3) (by omega), c3]
  · rw [Nat.add_assoc, hc (n * 5 + 4) (by omega), c4]
theorem five_cells {w : World} {q : Nat} {x y z u v : Value} {t : TypeId} (h : w.heap[q]? = some (.cells #[x, y, z, u, v] t (0, 0))) : w.cell? ⟨q, 0, none⟩ = some x ∧ w.cell? ⟨q, 1, none⟩ = some y ∧ w.cell? ⟨q, 2, none⟩ = some z ∧ w.cell? ⟨q, 3, none⟩ = some u ∧ w.cell? ⟨q, 4, none⟩ = some v := by
  simp [World.cell?, h]
/-- How many nodes the first functions have. -/
def sizeF (l : List FlatD) : Nat := sizeL (l.map FlatD.body)
theorem sizeF_snoc (l : List FlatD) (f : FlatD) : sizeF (l ++ [f]) = sizeF l + sizeX f.body := by unfold sizeF; rw [List.map_append]; exact sizeL_snoc _ _
def Small (l : List FlatD) : Prop := ∀ f ∈ l, heightX f.body ≤ 211
set_option maxHeartbeats 1000000 in
set_option maxRecDepth 100000 in
theorem fits1_any (B lb : Nat) (f : FlatD) (w : World) (n : Int) (hy : IsExp B w f.body) (hL : w.heap[lb]? = some (.cells #[.int .i64 n] 3 (0, 0))) (hB : B ≤ lb) (hBw : B ≤ w.heap.size) (h0 : 0 ≤ n) (h6 : n ≤ 600) :
    Calls Tryz.prog 15 #[flatDV f, .pointer (some ⟨lb, 0, none⟩)] w fun e w' => ∃ (b : Bool) (n' : Int), e = .returned (.bool b) ∧ w'.heap[lb]? = some (.cells #[.int .i64 n'] 3 (0, 0)) ∧ w.grownBy w' (some lb) ∧ -1 ≤ n' ∧ n' ≤ n ∧ (b = false → 0 ≤ n' ∧ n' = n - sizeX f.body ∧ heightX f.body ≤ 211) := by
  obtain ⟨caps, ⟨op, m, s, lv, l⟩⟩ := f
  show Calls Tryz.prog _ #[.agg #[.int .i64 caps, .int .i64 op, .int .i64 m, .string s, lv], _] _ _
  have hg := grown_alloc w (.cells #[.int .i64 caps, .int .i64 op, .int .i64 m, .string s, lv] 31)
  have gY := new_heap w (.cells #[.int .i64 caps, .int .i64 op, .int .i64 m, .string s, lv] 31)
  obtain ⟨p0, p1, p2, p3, p4⟩ := five_cells gY
  have HF := Lib.hid (few_any B lb (.mk op m s lv l) _ n 0 (hy.grown hg hBw (by nofun)) ((hg.block _ (heap_lt hL) (by nofun)).trans hL) hB h0 h6 (by omega) (by omega))
  rw [expV_mk] at HF
  have HG := Lib.hid hg
  clear hg gY hy hL
  go_enter Tryz.func15, Tryz.ntmps15
  go_wp2_with fail
  refine HF.out.mono ?_
  rintro e w2 ⟨b, n', rfl, hL2, hg2, hn1, hn2, hn3⟩
  have HR : Hid (∃ (b' : Bool) (n' : Int), b' = (!b) ∧ w2.heap[lb]? = some (.cells #[.int .i64 n'] 3 (0, 0)) ∧ w.grownBy w2 (some lb) ∧ -1 ≤ n' ∧ n' ≤ n ∧ (b' = false → 0 ≤ n' ∧ n' = n - sizeX (.mk op m s lv l) ∧ heightX (.mk op m s lv l) ≤ 211)) :=
    ⟨_, n', rfl, hL2, both (free_of HG.out _) hg2, hn1, hn2, fun hb => by have := hn3 (by simpa using hb); exact ⟨this.1, this.2.1, by omega⟩⟩
  clear hL2 hg2 hn3
  go_wp2_with fail
  go_ret
  obtain ⟨b', n', hb', h⟩ := HR.out
  exact ⟨b', n', by rw [hb']; rfl, h⟩
def IdxF (n : Int) (l : List FlatD) (w : World) (lb : Nat) (e : Ending) (w' : World) : Prop :=
  ∃ (r : Int), e = .returned (.int .i64 r) ∧ w.grownBy w' (some lb) ∧ (r < 0 → (sizeF l : Int) ≤ n ∧ Small l)
set_option maxHeartbeats 2000000 in
set_option maxRecDepth 100000 in
theorem indexFits_any (B lb : Nat) (fv : Value) (l : List FlatD) (w : World) (n : Int) (hl : IsFlats B w fv l) (hL : w.heap[lb]? = some (.cells #[.int .i64 n] 3 (0, 0))) (hB : B ≤ lb) (hBw : B ≤ w.heap.size) (h0 : 0 ≤ n) (h6 : n ≤ 600) :
    Calls Tryz.prog 20 #[fv, .func (.func 15) #[] #[.pointer (some ⟨lb, 0, none⟩)]] w (IdxF n l w lb) := by
  have HR := Lib.hid hl
  have HL := Lib.hid hL
  have hm' : l.length ≤ 9223372036854775807 := by have := hl.2.1; unfold maxLen at this; omega
  obtain ⟨⟨a, c, rfl, hlc, _⟩, _⟩ := hl
  clear hL
  go_enter Tryz.func20, Tryz.ntmps20
  go_wp2_with fail
  go_loopw [8] (fun i wr => ∃ (k : Nat) (n' : Int), k ≤ l.length ∧ i = .int .i64 k ∧ 0 ≤ n' ∧ n' ≤ n ∧ Hid (n' = n - sizeF (l.take k) ∧ Small (l.take k)) ∧ Hid (wr.heap[lb]? = some (.cells #[.int .i64 n'] 3 (0, 0))) ∧ Hid (w.grownBy wr (some lb))) (fun i _ => l.length - (intOf i).toNat)
  case atStart => exact ⟨0, n, Nat.zero_le _, rfl, h0, Int.le_refl _, ⟨by rw [List.take_zero]; show n = n - ((sizeL [] : Nat) : Int); rw [sizeL_nil]; omega, fun f hf => by simp at hf⟩, HL, ⟨rfl, rfl, rfl, Nat.le_refl _, fun _ _ _ => rfl⟩⟩
  case round =>
    obtain ⟨k, n', hk, rfl, hn0, hn1, HS, HLr, HG⟩ := hrel
    by_cases hkl : k < l.length
    · have hxr : IsFlats B wr (.slice a l.length c) l := HR.out.under (grown_under HG.out hBw (fun q hq => by cases hq; exact hB))
      obtain ⟨b, off, c', ha, _, hbB, c0, c1, c2, c3, c4⟩ := flats_at hxr.1 k hkl
      obtain rfl := (Value.slice.inj ha).1
      have hmem := getD_mem default l k hkl
      have hF := fits1_any B lb _ wr n' (hxr.2.2 _ hmem) HLr.out hB (by have := HG.out.size; omega) hn0 (by omega)
      have hT := take_one default l k hkl
      have HT : Hid (sizeF (l.take (k + 1)) = sizeF (l.take k) + sizeX (l.getD k default).body ∧ (heightX (l.getD k default).body ≤ 211 → Small (l.take k) → Small (l.take (k + 1)))) := ⟨by rw [hT, sizeF_snoc], fun h1 h2 => by
        rw [hT]; intro f hf
        rcases List.mem_append.1 hf with hf | hf
        · exact h2 f hf
        · obtain rfl := List.mem_singleton.1 hf; exact h1⟩
      clear hT hxr ha hmem
      generalize l.getD k default = x at *
      obtain ⟨caps, ⟨op, m, s, xv, xl⟩⟩ := x
      have c0 : wr.cell? ⟨b, off + k * 5, none⟩ = some (.int .i64 caps) := c0
      have c1 : wr.cell? ⟨b, off + k * 5 + 1, none⟩ = some (.int .i64 op) := c1
      have c2 : wr.cell? ⟨b, off + k * 5 + 2, none⟩ = some (.int .i64 m) := c2
      have c3 : wr.cell? ⟨b, off + k * 5 + 3, none⟩ = some (.string s) := c3
      have c4 : wr.cell? ⟨b, off + k * 5 + 4, none⟩ = some xv := c4
      have HF := Lib.hid hF
      clear hF
      go_wp2_with fail
      refine HF.out.mono ?_
      rintro e w2 ⟨bb, n2, rfl, hL2, hg2, hn2, hn3, hn4⟩
      have HL2 := Lib.hid hL2
      have HG2 := Lib.hid (both HG.out hg2)
      have HN := Lib.hid hn4
      clear hL2 hg2 hn4 c0 c1 c2 c3 c4
      cases bb
      · obtain ⟨j0, j1, j2⟩ := HN.out rfl
        have HS2 : Hid (n2 = n - sizeF (l.take (k + 1)) ∧ Small (l.take (k + 1))) := ⟨by rw [HT.out.1]; have := HS.out.1; push_cast; omega, HT.out.2 j2 HS.out.2⟩
        clear j1 j2
        go_wp2_with fail
        go_round
        case rel => exact ⟨k + 1, n2, by omega, by go_num, j0, by omega, HS2, HL2, HG2⟩
        case measure => simp [intOf]; omega
      · go_wp2_with fail
        go_ret
        exact ⟨k, rfl, HG2.out, fun h => by omega⟩
    · go_wp2_with fail
      go_ret
      obtain ⟨s1, s2⟩ := HS.out
      rw [List.take_of_length_le (by omega)] at s1 s2
      exact ⟨-1, rfl, HG.out, fun _ => ⟨by omega, s2⟩⟩
theorem containsFits_any (B lb : Nat) (fv : Value) (l : List FlatD) (w : World) (n : Int) (hl : IsFlats B w fv l) (hL : w.heap[lb]? = some (.cells #[.int .i64 n] 3 (0, 0))) (hB : B ≤ lb) (hBw : B ≤ w.heap.size) (h0 : 0 ≤ n) (h6 : n ≤ 600) :
    Calls Tryz.prog 7 #[fv, .func (.func 15) #[] #[.pointer (some ⟨lb, 0, none⟩)]] w fun e w' => ∃ b : Bool, e = .returned (.bool b) ∧ w.grownBy w' (some lb) ∧ (b = false → (sizeF l : Int) ≤ n ∧ Small l) := by
  have H' := Lib.hid (indexFits_any B lb fv l w n hl hL hB hBw h0 h6)
  obtain ⟨⟨a, c, rfl, hlc, hcell⟩, _⟩ := hl
  clear hL hcell
  go_enter Tryz.func7, Tryz.ntmps7
  go_wp2_with fail
  refine H'.out.mono ?_
  rintro e w2 ⟨r, rfl, hg2, hn3⟩
  have HR : Hid (∃ b : Bool, b = decide (0 ≤ r) ∧ w.grownBy w2 (some lb) ∧ (b = false → (sizeF l : Int) ≤ n ∧ Small l)) := ⟨_, rfl, hg2, fun h => hn3 (by have := of_decide_eq_false h; omega)⟩
  clear hg2 hn3
  go_wp2_with fail
  go_ret
  obtain ⟨b, hb, h⟩ := HR.out
  exact ⟨b, by rw [hb]; rfl, h⟩
/-- What fits. -/
def Fit (l : List FlatD) : Prop := l.length ≤ 60 ∧ sizeF l ≤ 600 ∧ Small l
set_option maxHeartbeats 1000000 in
set_option maxRecDepth 100000 in
theorem fits_any (B : Nat) (fv : Value) (l : List FlatD) (w : World) (hl : IsFlats B w fv l) (hBw : B ≤ w.heap.size) :
    Calls Tryz.prog 5 #[fv] w fun e w' => ∃ b : Bool, e = .returned (.bool b) ∧ Below w.heap.size w w' ∧ (b = true → Fit l) := by
  have HR := Lib.hid hl
  have hg := grown_alloc w (.cells #[.int .i64 600] 3)
  have gY := new_heap w (.cells #[.int .i64 600] 3)
  have HC := Lib.hid (containsFits_any B w.heap.size fv l _ 600 (hl.under (grown_under hg hBw (by nofun))) gY hBw (by simp; omega) (by omega) (by omega))
  obtain ⟨⟨a, c, rfl, hlc, hcell⟩, _⟩ := hl
  have HG := Lib.hid hg
  clear hg gY hcell
  by_cases h60 : (l.length : Int) ≤ 60
  · go_enter Tryz.func5, Tryz.ntmps5
    go_wp2_with fail
    refine HC.out.mono ?_
    rintro e w2 ⟨b, rfl, hg2, hn⟩
    have HR2 : Hid (∃ b' : Bool, b' = (!b) ∧ Below w.heap.size w w2 ∧ (b' = true → Fit l)) := ⟨_, rfl, (grown_under HG.out (Nat.le_refl _) (by nofun)).trans (grown_under hg2 (by simp) (fun q hq => by cases hq; exact Nat.le_refl _)), fun h => by
      obtain ⟨h1, h2⟩ := hn (by simpa using h)
      exact ⟨by omega, by omega, h2⟩⟩
    clear hg2 hn
    go_wp2_with fail
    go_ret
    obtain ⟨b', hb, h⟩ := HR2.out
    exact ⟨b', by rw [hb]; rfl, h⟩
  · go_enter Tryz.func5, Tryz.ntmps5
    go_wp2_with fail
    go_ret
    exact .inl ⟨rfl, grown_under HG.out (Nat.le_refl _) (by nofun)⟩
end Go.Proofs.YtidolpcbbbakmaaGreat
namespace Go.Proofs.YtidolpcbbbakmaaGreat
open Go Go.RowKit Go.ChangeShapes Go.WideShapes

theorem flat_getD {α : Type} [Inhabited α] (f : α → List Value) (s : Nat) (hf : ∀ a, (f a).length = s) : ∀ (l : List α) (i r : Nat), i < l.length → r < s → (l.flatMap f).getD (i * s + r) undef = (f (l.getD i default)).getD r undef
  | [], i, r, h, _ => by simp at h
  | x :: l, 0, r, _, hr => by
    simp only [List.flatMap_cons, Nat.zero_mul, Nat.zero_add, List.getD_eq_getElem?_getD]
    rw [List.getElem?_append_left (by rw [hf]; exact hr)]; simp
  | x :: l, i + 1, r, h, hr => by
    have ih := flat_getD f s hf l i r (by simpa using h) hr
    have e : (i + 1) * s + r - s = i * s + r := by rw [Nat.succ_mul]; omega
    have e2 : s ≤ (i + 1) * s + r := by rw [Nat.succ_mul]; omega
    simp only [List.flatMap_cons, List.getD_eq_getElem?_getD] at ih ⊢
    rw [List.getElem?_append_right (by rw [hf]; exact e2), hf, e]
    simpa using ih
theorem flat_length {α : Type} (f : α → List Value) (s : Nat) (hf : ∀ a, (f a).length = s) : ∀ (l : List α), (l.flatMap f).length = l.length * s
  | [] => by simp
  | x :: l => by rw [List.flatMap_cons, List.length_append, hf, flat_length f s hf l, List.length_cons, Nat.succ_mul]; omega
section
variable {H : Type} {enc : TypeId × Value → H} {W : World} {sp : Nat → Bool}
theorem cell_spot' {w : World} {a : Addr} {v : Value} (h : w.cell? a = some v) : a.spot = none := World.cell?_spot h
/-- A row whose elements are read with less fuel. -/
theorem row_open {α : Type} [Inhabited α] (f : α → List Value) (Q : α → Prop) (s : Nat) (hs : 0 < s) (hf : ∀ a, (f a).length = s) {t e : TypeId} (ht : Tryz.prog.underlying t = some (.slice e)) (hc : Tryz.prog.cellsOf e = s)
    {n : Nat} (hG : ∀ k, k < n → ∀ cs x, DataW.trod enc Tryz.prog W 0 sp true k e cs = some x → ∃ a, cs = f a ∧ Q a) {cs : List Value} {x : DataW H × List MemPlace} (h : DataW.trod enc Tryz.prog W 0 sp true n t cs = some x) :
    ∃ (v : Value) (l : List α), cs = [v] ∧ RowB W.heap.size W v l.length (l.flatMap f) ∧ (∀ a ∈ l, Q a) ∧ l.length ≤ maxLen := by
  rcases DataW.trod_slice ht h with ⟨rfl, _⟩ | ⟨a, len, cap, elems, rest, k, hnk, rfl, _, _, hl, hcm, hlen, hel, _, _⟩
  · exact ⟨_, [], rfl, ⟨none, 0, rfl, Nat.le_refl _, fun h => by simp at h⟩, (fun a ha => by cases ha), Nat.zero_le _⟩
  · have each : ∀ i, ∃ q : α, i < len → (∀ r, r < s → W.cell? ((a.add (i * s)).add r) = some ((f q).getD r undef)) ∧ Q q := fun i => by
      by_cases hi : i < len
      · have hx := hel i hi
        rw [List.getElem?_eq_getElem (by omega)] at hx
        obtain ⟨cs', h1, h2⟩ := Option.bind_eq_some_iff.1 hx
        rw [hc] at h1
        obtain ⟨_, hlen', hcell⟩ := World.cells?_some h1
        obtain ⟨q, rfl, hq⟩ := hG k (by omega) _ _ h2
        refine ⟨q, fun _ => ⟨fun r hr => ?_, hq⟩⟩
        rw [hcell r hr]
        have : r < (f q).length := by rw [hf]; exact hr
        simp [List.getD, this]
      · exact ⟨default, fun h => absurd h hi⟩
    obtain ⟨q, hq⟩ := Classical.axiomOfChoice each
    have hl' : ((List.range len).map q).length = len := by simp
    refine ⟨_, (List.range len).map q, rfl, ⟨some a, cap, by rw [hl'], by omega, fun h0 => ?_⟩, fun z hz => ?_, by rw [hl']; omega⟩
    · rw [hl'] at h0
      obtain ⟨b, off, spt⟩ := a
      have e0 := (hq 0 h0).1 0 hs
      have : spt = none := by simpa [Addr.add] using cell_spot' e0
      subst this
      have hcl : ∀ j, j < len * s → W.cell? ⟨b, off + j, none⟩ = some ((((List.range len).map q).flatMap f).getD j undef) := fun j hj => by
        have hdm := Nat.div_add_mod j s
        have hjs : j / s < len := by rw [Nat.div_lt_iff_lt_mul hs]; exact hj
        have hjr : j % s < s := Nat.mod_lt _ hs
        have g := (hq (j / s) hjs).1 (j % s) hjr
        have e : j = j / s * s + j % s := by rw [Nat.mul_comm] at hdm; exact hdm.symm
        have ea : (((⟨b, off, none⟩ : Addr).add (j / s * s)).add (j % s)) = ⟨b, off + j, none⟩ := by
          rw [Go.WideShapes.add_plain, Go.WideShapes.add_plain, Nat.add_assoc, ← e]
        rw [ea] at g
        rw [g]
        conv => rhs; rw [e, flat_getD f s hf _ _ _ (by rw [hl']; exact hjs) hjr]
        simp [List.getD, hjs]
      refine ⟨b, off, rfl, ?_, fun j hj => hcl j (by rw [flat_length f s hf, hl'] at hj; exact hj)⟩
      have := hcl 0 (Nat.mul_pos h0 hs)
      rcases Nat.lt_or_ge b W.heap.size with h' | h'
      · exact h'
      · simp [World.cell?, Array.getElem?_eq_none h'] at this
    · obtain ⟨i, hi, rfl⟩ := List.mem_map.1 hz
      exact (hq i (by simpa using hi)).2
theorem int_open {n : Nat} {cs : List Value} {x : DataW H × List MemPlace} (h : DataW.trod enc Tryz.prog W 0 sp true n 3 cs = some x) : ∃ k : Int, cs = [.int .i64 k] := by
  obtain ⟨k, rfl, _, _⟩ := DataW.trod_int Tryz.underlying3 h
  exact ⟨k, rfl⟩
theorem str_open {n : Nat} {cs : List Value} {x : DataW H × List MemPlace} (h : DataW.trod enc Tryz.prog W 0 sp true n 9 cs = some x) : ∃ s : ByteArray, cs = [.string s] := by
  obtain ⟨k, rfl, _, _⟩ := DataW.trod_string Tryz.underlying9 h
  exact ⟨k, rfl⟩
theorem cells_int : Tryz.prog.cellsOf 3 = 1 := by kernel_rfl
theorem cells_string : Tryz.prog.cellsOf 9 = 1 := by kernel_rfl
theorem cells_exps : Tryz.prog.cellsOf 27 = 1 := by kernel_rfl
theorem cells_exp : Tryz.prog.cellsOf 29 = 4 := by kernel_rfl
theorem cells_flat : Tryz.prog.cellsOf 31 = 5 := by kernel_rfl
theorem field_at {fs : Array Field} {t : TypeId} (ht : Tryz.prog.underlying t = some (.struct fs)) {n : Nat} {cs : List Value} {x : DataW H × List MemPlace} (h : DataW.trod enc Tryz.prog W 0 sp true n t cs = some x) (i o c : Nat) (f : Field) (hi : fs[i]? = some f) (ho : f.offset = o) (hc : Tryz.prog.cellsOf f.type = c) :
    ∃ m y, m < n ∧ DataW.trod enc Tryz.prog W 0 sp true m f.type ((cs.drop o).take c) = some y := by
  obtain ⟨xs, m, hn, _, _, hxl, hf⟩ := DataW.trod_struct ht h
  have g := hf i f hi
  have hlt : i < fs.size := (Array.getElem?_eq_some_iff.1 hi).1
  rw [ho, hc, List.getElem?_eq_getElem (by omega)] at g
  exact ⟨m, _, by omega, g⟩
theorem len_at {fs : Array Field} {t : TypeId} (ht : Tryz.prog.underlying t = some (.struct fs)) {n : Nat} {cs : List Value} {x : DataW H × List MemPlace} (h : DataW.trod enc Tryz.prog W 0 sp true n t cs = some x) : cs.length = Tryz.prog.cellsOf t := by
  obtain ⟨_, _, _, _, hl, _, _⟩ := DataW.trod_struct ht h
  exact hl
theorem exp_open (n : Nat) : ∀ (cs : List Value) (x : DataW H × List MemPlace), DataW.trod enc Tryz.prog W 0 sp true n 29 cs = some x → ∃ e : ExpD, cs = expEnc e ∧ IsExp W.heap.size W e := by
  induction n using Nat.strongRecOn with
  | _ n ih =>
    intro cs x h
    have hl := (len_at Tryz.underlying29 h).trans cells_exp
    obtain ⟨_, _, _, g0⟩ := field_at Tryz.underlying29 h 0 0 1 _ rfl rfl cells_int
    obtain ⟨_, _, _, g1⟩ := field_at Tryz.underlying29 h 1 1 1 _ rfl rfl cells_int
    obtain ⟨_, _, _, g2⟩ := field_at Tryz.underlying29 h 2 2 1 _ rfl rfl cells_string
    obtain ⟨m, _, hm, g3⟩ := field_at Tryz.underlying29 h 3 3 1 _ rfl rfl cells_exps
    match cs, hl with
    | [c0, c1, c2, c3], _ =>
      obtain ⟨k0, e0⟩ := int_open g0
      obtain ⟨k1, e1⟩ := int_open g1
      obtain ⟨s, e2⟩ := str_open g2
      obtain ⟨v, l, e3, hr, hq, hlm⟩ := row_open expEnc (IsExp W.heap.size W) 4 (by decide) (fun _ => rfl) Tryz.underlying27 cells_exp (fun k hk => ih k (by omega)) g3
      simp at e0 e1 e2 e3
      subst e0 e1 e2 e3
      exact ⟨.mk k0 k1 s c3 l, rfl, .mk hr hlm hq⟩
theorem flat_open (n : Nat) (cs : List Value) (x : DataW H × List MemPlace) (h : DataW.trod enc Tryz.prog W 0 sp true n 31 cs = some x) : ∃ f : FlatD, cs = flatEnc f ∧ IsExp W.heap.size W f.body := by
  have hl := (len_at Tryz.underlying31 h).trans cells_flat
  obtain ⟨_, _, _, g0⟩ := field_at Tryz.underlying31 h 0 0 1 _ rfl rfl cells_int
  obtain ⟨_, _, _, g1⟩ := field_at Tryz.underlying31 h 1 1 4 _ rfl rfl cells_exp
  match cs, hl with
  | [c0, c1, c2, c3, c4], _ =>
    obtain ⟨k0, e0⟩ := int_open g0
    obtain ⟨e, e1, he⟩ := exp_open _ _ _ g1
    simp [expEnc] at e0 e1
    obtain ⟨h1, h2, h3, h4⟩ := e1
    subst e0 h1 h2 h3 h4
    exact ⟨⟨k0, e⟩, rfl, he⟩
theorem flats_open {n : Nat} {cs : List Value} {x : DataW H × List MemPlace} (h : DataW.trod enc Tryz.prog W 0 sp true n 22 cs = some x) : ∃ v l, cs = [v] ∧ IsFlats W.heap.size W v l := by
  obtain ⟨v, l, hv, hr, hq, hm⟩ := row_open flatEnc (fun f => IsExp W.heap.size W f.body) 5 (by decide) (fun _ => rfl) Tryz.underlying22 cells_flat (fun k _ => flat_open k) h
  exact ⟨v, l, hv, hr, hm, hq⟩
end
end Go.Proofs.YtidolpcbbbakmaaGreat
namespace Go.Proofs.YtidolpcbbbakmaaGreat
open Go Go.RowKit

def textsP (n : Int) : Bool := n == 10 || n == 11 || n == 12 || n == 14
theorem texts15_any (n : Int) (w : World) :
    Calls Tryz.prog 89 #[.int .i64 n] w fun e w' => e = .returned (.bool (textsP n)) ∧ w = w' := by
  go_enter Tryz.func89, Tryz.ntmps89
  go_wp2
  all_goals
    go_ret
    refine ⟨ret_bool ?_, rfl⟩
    simp [textsP, *]
def arityP (n : Int) : Int := if n = 6 ∨ n = 11 ∨ n = 13 ∨ n = 14 then 1 else 2
theorem arity15_any (n : Int) (w : World) :
    Calls Tryz.prog 90 #[.int .i64 n] w fun e w' => e = .returned (.int .i64 (arityP n)) ∧ w = w' := by
  go_enter Tryz.func90, Tryz.ntmps90
  go_wp2
  all_goals
    go_ret
    refine ⟨ret_int ?_, rfl⟩
    try simp only [beq_iff_eq, beq_eq_false_iff_ne, ne_eq] at *
    unfold arityP
    repeat' split
    all_goals first | rfl | (exfalso; omega)
def absI (a : Int) : Int := if a < -a then -a else a
def timesP (a b : Int) : Int := if a = 0 then 0 else if b = 0 then 0 else if wrap64 (Int.tdiv 4503599627370496 (absI b)) < absI a then 4503599627370497 else wrap64 (a * b)
theorem div_in (b : Int) (h : 0 < b) : wrap64 (Int.tdiv 4503599627370496 b) = 4503599627370496 / b := by
  rw [Int.tdiv_eq_ediv_of_nonneg (by decide)]
  have h1 : (0 : Int) ≤ 4503599627370496 / b := Int.ediv_nonneg (by decide) (by omega)
  have h2 : (4503599627370496 : Int) / b ≤ 4503599627370496 := Int.ediv_le_self _ (by decide)
  unfold wrap64; omega
theorem times_00 (a b : Int) (w : World) (ha : -4503599627370496 ≤ a ∧ a ≤ 4503599627370496) (hb : -4503599627370496 ≤ b ∧ b ≤ 4503599627370496) (h1 : a < 0) (h2 : b < 0) :
    Calls Tryz.prog 101 #[.int .i64 a, .int .i64 b] w fun e w' => e = .returned (.int .i64 (timesP a b)) ∧ w = w' := by
  have e1 : Hid (timesP a b = if wrap64 (Int.tdiv 4503599627370496 (-b)) < -a then 4503599627370497 else wrap64 (a * b)) := Lib.hid (by
        unfold timesP absI
        rw [if_neg (by omega), if_neg (by omega), if_pos (show b < -b by omega), if_pos (show a < -a by omega)])
  have ca : (a != 0) = true := by simp <;> omega
  have cb : (b != 0) = true := by simp <;> omega
  go_enter Tryz.func101, Tryz.ntmps101
  go_wp2
  all_goals
    go_ret
    refine ⟨ret_int ?_, rfl⟩
    rw [e1.out]
    try simp only [Int.tdiv_neg]
    first
      | (rw [if_pos ‹_›]; done)
      | (rw [if_neg (Int.not_lt.2 ‹_›)]; done)
theorem times_01 (a b : Int) (w : World) (ha : -4503599627370496 ≤ a ∧ a ≤ 4503599627370496) (_hb : -4503599627370496 ≤ b ∧ b ≤ 4503599627370496) (h1 : a < 0) (h2 : b = 0) :
    Calls Tryz.prog 101 #[.int .i64 a, .int .i64 b] w fun e w' => e = .returned (.int .i64 (timesP a b)) ∧ w = w' := by
  have e1 : Hid (timesP a b = 0) := Lib.hid (by
        unfold timesP
        rw [if_neg (by omega), if_pos (by omega)])
  have ca : (a != 0) = true := by simp <;> omega
  have cb : (b != 0) = false := by simp <;> omega
  go_enter Tryz.func101, Tryz.ntmps101
  go_wp2
  all_goals
    go_ret
    refine ⟨ret_int ?_, rfl⟩
    rw [e1.out]
    try first | rfl | simp [h1] | simp [h2]
theorem times_02 (a b : Int) (w : World) (ha : -4503599627370496 ≤ a ∧ a ≤ 4503599627370496) (hb : -4503599627370496 ≤ b ∧ b ≤ 4503599627370496) (h1 : a < 0) (h2 : 0 < b) :
    Calls Tryz.prog 101 #[.int .i64 a, .int .i64 b] w fun e w' => e = .returned (.int .i64 (timesP a b)) ∧ w = w' := by
  have e1 : Hid (timesP a b = if 4503599627370496 / b < -a then 4503599627370497 else wrap64 (a * b)) := Lib.hid (by
        unfold timesP absI
        rw [if_neg (by omega), if_neg (by omega), if_neg (show ¬ b < -b by omega), div_in b h2, if_pos (show a < -a by omega)])
  have ca : (a != 0) = true := by simp <;> omega
  have cb : (b != 0) = true := by simp <;> omega
  go_enter Tryz.func101, Tryz.ntmps101
  go_wp2
  all_goals
    go_ret
    refine ⟨ret_int ?_, rfl⟩
    rw [e1.out]
    try simp only [Int.tdiv_neg]
    first
      | (rw [if_pos ‹_›]; done)
      | (rw [if_neg (Int.not_lt.2 ‹_›)]; done)
theorem times_10 (a b : Int) (w : World) (_ha : -4503599627370496 ≤ a ∧ a ≤ 4503599627370496) (hb : -4503599627370496 ≤ b ∧ b ≤ 4503599627370496) (h1 : a = 0) (h2 : b < 0) :
    Calls Tryz.prog 101 #[.int .i64 a, .int .i64 b] w fun e w' => e = .returned (.int .i64 (timesP a b)) ∧ w = w' := by
  have e1 : Hid (timesP a b = 0) := Lib.hid (by
        unfold timesP
        rw [if_pos (by omega)])
  have ca : (a != 0) = false := by simp <;> omega
  have cb : (b != 0) = true := by simp <;> omega
  go_enter Tryz.func101, Tryz.ntmps101
  go_wp2
  all_goals
    go_ret
    refine ⟨ret_int ?_, rfl⟩
    rw [e1.out]
    try first | rfl | simp [h1] | simp [h2]
theorem times_11 (a b : Int) (w : World) (_ha : -4503599627370496 ≤ a ∧ a ≤ 4503599627370496) (_hb : -4503599627370496 ≤ b ∧ b ≤ 4503599627370496) (h1 : a = 0) (h2 : b = 0) :
    Calls Tryz.prog 101 #[.int .i64 a, .int .i64 b] w fun e w' => e = .returned (.int .i64 (timesP a b)) ∧ w = w' := by
  have e1 : Hid (timesP a b = 0) := Lib.hid (by
        unfold timesP
        rw [if_pos (by omega)])
  have ca : (a != 0) = false := by simp <;> omega
  have cb : (b != 0) = false := by simp <;> omega
  go_enter Tryz.func101, Tryz.ntmps101
  go_wp2
  all_goals
    go_ret
    refine ⟨ret_int ?_, rfl⟩
    rw [e1.out]
    try first | rfl | simp [h1] | simp [h2]
theorem times_12 (a b : Int) (w : World) (_ha : -4503599627370496 ≤ a ∧ a ≤ 4503599627370496) (hb : -4503599627370496 ≤ b ∧ b ≤ 4503599627370496) (h1 : a = 0) (h2 : 0 < b) :
    Calls Tryz.prog 101 #[.int .i64 a, .int .i64 b] w fun e w' => e = .returned (.int .i64 (timesP a b)) ∧ w = w' := by
  have e1 : Hid (timesP a b = 0) := Lib.hid (by
        unfold timesP
        rw [if_pos (by omega)])
  have ca : (a != 0) = false := by simp <;> omega
  have cb : (b != 0) = true := by simp <;> omega
  go_enter Tryz.func101, Tryz.ntmps101
  go_wp2
  all_goals
    go_ret
    refine ⟨ret_int ?_, rfl⟩
    rw [e1.out]
    try first | rfl | simp [h1] | simp [h2]
theorem times_20 (a b : Int) (w : World) (ha : -4503599627370496 ≤ a ∧ a ≤ 4503599627370496) (hb : -4503599627370496 ≤ b ∧ b ≤ 4503599627370496) (h1 : 0 < a) (h2 : b < 0) :
    Calls Tryz.prog 101 #[.int .i64 a, .int .i64 b] w fun e w' => e = .returned (.int .i64 (timesP a b)) ∧ w = w' := by
  have e1 : Hid (timesP a b = if wrap64 (Int.tdiv 4503599627370496 (-b)) < a then 4503599627370497 else wrap64 (a * b)) := Lib.hid (by
        unfold timesP absI
        rw [if_neg (by omega), if_neg (by omega), if_pos (show b < -b by omega), if_neg (show ¬ a < -a by omega)])
  have ca : (a != 0) = true := by simp <;> omega
  have cb : (b != 0) = true := by simp <;> omega
  go_enter Tryz.func101, Tryz.ntmps101
  go_wp2
  all_goals
    go_ret
    refine ⟨ret_int ?_, rfl⟩
    rw [e1.out]
    try simp only [Int.tdiv_neg]
    first
      | (rw [if_pos ‹_›]; done)
      | (rw [if_neg (Int.not_lt.2 ‹_›)]; done)
theorem times_21 (a b : Int) (w : World) (ha : -4503599627370496 ≤ a ∧ a ≤ 4503599627370496) (_hb : -4503599627370496 ≤ b ∧ b ≤ 4503599627370496) (h1 : 0 < a) (h2 : b = 0) :
    Calls Tryz.prog 101 #[.int .i64 a, .int .i64 b] w fun e w' => e = .returned (.int .i64 (timesP a b)) ∧ w = w' := by
  have e1 : Hid (timesP a b = 0) := Lib.hid (by
        unfold timesP
        rw [if_neg (by omega), if_pos (by omega)])
  have ca : (a != 0) = true := by simp <;> omega
  have cb : (b != 0) = false := by simp <;> omega
  go_enter Tryz.func101, Tryz.ntmps101
  go_wp2
  all_goals
    go_ret
    refine ⟨ret_int ?_, rfl⟩
    rw [e1.out]
    try first | rfl | simp [h1] | simp [h2]
theorem times_22 (a b : Int) (w : World) (ha : -4503599627370496 ≤ a ∧ a ≤ 4503599627370496) (hb : -4503599627370496 ≤ b ∧ b ≤ 4503599627370496) (h1 : 0 < a) (h2 : 0 < b) :
    Calls Tryz.prog 101 #[.int .i64 a, .int .i64 b] w fun e w' => e = .returned (.int .i64 (timesP a b)) ∧ w = w' := by
  have e1 : Hid (timesP a b = if 4503599627370496 / b < a then 4503599627370497 else wrap64 (a * b)) := Lib.hid (by
        unfold timesP absI
        rw [if_neg (by omega), if_neg (by omega), if_neg (show ¬ b < -b by omega), div_in b h2, if_neg (show ¬ a < -a by omega)])
  have ca : (a != 0) = true := by simp <;> omega
  have cb : (b != 0) = true := by simp <;> omega
  go_enter Tryz.func101, Tryz.ntmps101
  go_wp2
  all_goals
    go_ret
    refine ⟨ret_int ?_, rfl⟩
    rw [e1.out]
    try simp only [Int.tdiv_neg]
    first
      | (rw [if_pos ‹_›]; done)
      | (rw [if_neg (Int.not_lt.2 ‹_›)]; done)
theorem times15_any (a b : Int) (w : World) (ha : -4503599627370496 ≤ a ∧ a ≤ 4503599627370496) (hb : -4503599627370496 ≤ b ∧ b ≤ 4503599627370496) :
    Calls Tryz.prog 101 #[.int .i64 a, .int .i64 b] w fun e w' => e = .returned (.int .i64 (timesP a b)) ∧ w = w' := by
  rcases Int.lt_trichotomy a 0 with h1 | h1 | h1 <;> rcases Int.lt_trichotomy b 0 with h2 | h2 | h2
  · exact times_00 a b w ha hb h1 h2
  · exact times_01 a b w ha hb h1 h2
  · exact times_02 a b w ha hb h1 h2
  · exact times_10 a b w ha hb h1 h2
  · exact times_11 a b w ha hb h1 h2
  · exact times_12 a b w ha hb h1 h2
  · exact times_20 a b w ha hb h1 h2
  · exact times_21 a b w ha hb h1 h2
  · exact times_22 a b w ha hb h1 h2
end Go.Proofs.YtidolpcbbbakmaaGreat
