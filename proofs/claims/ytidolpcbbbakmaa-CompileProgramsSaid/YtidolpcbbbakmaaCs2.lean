/- Flat functions in memory; fits. -/
import Derived.Test.YtidolpcbbbakmaaCs1
namespace Go.Proofs.Ytidolpcbbbakmaa
open Go Go.RowKit

structure FlatD where
  caps : Int
  body : ExpD
  deriving Inhabited
def flatEnc (f : FlatD) : List Value := [.int .i64 f.caps, .int .i64 f.body.op, .int .i64 f.body.n, .string f.body.s, f.body.lv]
def flatDV (f : FlatD) : Value := .agg #[.int .i64 f.caps, .int .i64 f.body.op, .int .i64 f.body.n, .string f.body.s, f.body.lv]
def flatCells (l : List FlatD) : List Value := l.flatMap flatEnc
def IsFlats (B : Nat) (w : World) (v : Value) (l : List FlatD) : Prop := RowB B w v l.length (flatCells l) ∧ l.length ≤ maxLen ∧ ∀ f ∈ l, IsExp B w f.body
theorem IsFlats.under {B : Nat} {w w' : World} {v : Value} {l : List FlatD} (h : IsFlats B w v l) (hb : Below B w w') : IsFlats B w' v l := ⟨h.1.kept hb.block, h.2.1, fun f hf => (h.2.2 f hf).under hb⟩
theorem flatCells_length (l : List FlatD) : (flatCells l).length = l.length * 5 := by
  induction l with
  | nil => rfl
  | cons x l ih => simp [flatCells, flatEnc] at ih ⊢; omega
theorem flatCells_at : ∀ (l : List FlatD) (k : Nat), k < l.length → (flatCells l).getD (k * 5) undef = .int .i64 (l.getD k default).caps ∧ (flatCells l).getD (k * 5 + 1) undef = .int .i64 (l.getD k default).body.op ∧ (flatCells l).getD (k * 5 + 2) undef = .int .i64 (l.getD k default).body.n ∧ (flatCells l).getD (k * 5 + 3) undef = .string (l.getD k default).body.s ∧ (flatCells l).getD (k * 5 + 4) undef = (l.getD k default).body.lv
  | [], k, h => by simp at h
  | x :: l, 0, _ => by simp [flatCells, flatEnc]
  | x :: l, k + 1, h => by
    have ih := flatCells_at l k (by simpa using h)
    have e : flatCells (x :: l) = [.int .i64 x.caps, .int .i64 x.body.op, .int .i64 x.body.n, .string x.body.s, x.body.lv] ++ flatCells l := rfl
    have g : ∀ j, (flatCells (x :: l)).getD (j + 5) undef = (flatCells l).getD j undef := fun j => by
      rw [e]; simp [List.getD]
    have e1 : (k + 1) * 5 = k * 5 + 5 := by omega
    refine ⟨?_, ?_, ?_, ?_, ?_⟩
    · rw [e1, g]; exact ih.1
    · rw [show (k + 1) * 5 + 1 = k * 5 + 1 + 5 by omega, g]; exact ih.2.1
    · rw [show (k + 1) * 5 + 2 = k * 5 + 2 + 5 by omega, g]; exact ih.2.2.1
    · rw [show (k + 1) * 5 + 3 = k * 5 + 3 + 5 by omega, g]; exact ih.2.2.2.1
    · rw [show (k + 1) * 5 + 4 = k * 5 + 4 + 5 by omega, g]; exact ih.2.2.2.2
theorem flats_at {B : Nat} {w : World} {v : Value} {l : List FlatD} (h : RowB B w v l.length (flatCells l)) (n : Nat) (hn : n < l.length) :
    ∃ b off c, v = .slice (some ⟨b, off, none⟩) l.length c ∧ l.length ≤ c ∧ b < B ∧ w.cell? ⟨b, off + n * 5, none⟩ = some (.int .i64 (l.getD n default).caps) ∧ w.cell? ⟨b, off + n * 5 + 1, none⟩ = some (.int .i64 (l.getD n default).body.op) ∧ w.cell? ⟨b, off + n * 5 + 2, none⟩ = some (.int .i64 (l.getD n default).body.n) ∧ w.cell? ⟨b, off + n * 5 + 3, none⟩ = some (.string (l.getD n default).body.s) ∧ w.cell? ⟨b, off + n * 5 + 4, none⟩ = some (l.getD n default).body.lv := by
  obtain ⟨a, c, rfl, hlc, hcell⟩ := h
  obtain ⟨b, off, rfl, hlt, hc⟩ := hcell (by omega)
  obtain ⟨c0, c1, c2, c3, c4⟩ := flatCells_at l n hn
  have hlen := flatCells_length l
  refine ⟨b, off, c, rfl, hlc, hlt, ?_, ?_, ?_, ?_, ?_⟩
  · rw [hc (n * 5) (by omega), c0]
  · rw [Nat.add_assoc, hc (n * 5 + 1) (by omega), c1]
  · rw [Nat.add_assoc, hc (n * 5 + 2) (by omega), c2]
  · rw [Nat.add_assoc, hc (n * 5 + 3) (by omega), c3]
  · rw [Nat.add_assoc, hc (n * 5 + 4) (by omega), c4]
theorem five_cells {w : World} {q : Nat} {x y z u v : Value} {t : TypeId} (h : w.heap[q]? = some (.cells #[x, y, z, u, v] t (0, 0))) : w.cell? ⟨q, 0, none⟩ = some x ∧ w.cell? ⟨q, 1, none⟩ = some y ∧ w.cell? ⟨q, 2, none⟩ = some z ∧ w.cell? ⟨q, 3, none⟩ = some u ∧ w.cell? ⟨q, 4, none⟩ = some v := by
  simp [World.cell?, h]
/-- How many nodes the first functions have. -/
def sizeF (l : List FlatD) : Nat := sizeL (l.map FlatD.body)
theorem sizeF_snoc (l : List FlatD) (f : FlatD) : sizeF (l ++ [f]) = sizeF l + sizeX f.body := by unfold sizeF; rw [List.map_append]; exact sizeL_snoc _ _
def Small (l : List FlatD) : Prop := ∀ f ∈ l, heightX f.body ≤ 211
set_option maxHeartbeats 1000000 in
set_option maxRecDepth 100000 in
theorem fits1_any (B lb : Nat) (f : FlatD) (w : World) (n : Int) (hy : IsExp B w f.body) (hL : w.heap[lb]? = some (.cells #[.int .i64 n] 3 (0, 0))) (hB : B ≤ lb) (hBw : B ≤ w.heap.size) (h0 : 0 ≤ n) (h6 : n ≤ 600) :
    Calls Try.prog 16 #[flatDV f, .pointer (some ⟨lb, 0, none⟩)] w fun e w' => ∃ (b : Bool) (n' : Int), e = .returned (.bool b) ∧ w'.heap[lb]? = some (.cells #[.int .i64 n'] 3 (0, 0)) ∧ w.grownBy w' (some lb) ∧ -1 ≤ n' ∧ n' ≤ n ∧ (b = false → 0 ≤ n' ∧ n' = n - sizeX f.body ∧ heightX f.body ≤ 211) := by
  obtain ⟨caps, ⟨op, m, s, lv, l⟩⟩ := f
  show Calls Try.prog _ #[.agg #[.int .i64 caps, .int .i64 op, .int .i64 m, .string s, lv], _] _ _
  have hg := grown_alloc w (.cells #[.int .i64 caps, .int .i64 op, .int .i64 m, .string s, lv] 38)
  have gY := new_heap w (.cells #[.int .i64 caps, .int .i64 op, .int .i64 m, .string s, lv] 38)
  obtain ⟨p0, p1, p2, p3, p4⟩ := five_cells gY
  have HF := Lib.hid (few_any B lb (.mk op m s lv l) _ n 0 (hy.grown hg hBw (by nofun)) ((hg.block _ (heap_lt hL) (by nofun)).trans hL) hB h0 h6 (by omega) (by omega))
  rw [expV_mk] at HF
  have HG := Lib.hid hg
  clear hg gY hy hL
  go_enter Try.func16, Try.ntmps16
  go_wp2_with fail
  refine HF.out.mono ?_
  rintro e w2 ⟨b, n', rfl, hL2, hg2, hn1, hn2, hn3⟩
  have HR : Hid (∃ (b' : Bool) (n' : Int), b' = (!b) ∧ w2.heap[lb]? = some (.cells #[.int .i64 n'] 3 (0, 0)) ∧ w.grownBy w2 (some lb) ∧ -1 ≤ n' ∧ n' ≤ n ∧ (b' = false → 0 ≤ n' ∧ n' = n - sizeX (.mk op m s lv l) ∧ heightX (.mk op m s lv l) ≤ 211)) :=
    ⟨_, n', rfl, hL2, both (free_of HG.out _) hg2, hn1, hn2, fun hb => by have := hn3 (by simpa using hb); exact ⟨this.1, this.2.1, by omega⟩⟩
  clear hL2 hg2 hn3
  go_wp2_with fail
  go_ret
  obtain ⟨b', n', hb', h⟩ := HR.out
  exact ⟨b', n', by rw [hb']; rfl, h⟩
def IdxF (n : Int) (l : List FlatD) (w : World) (lb : Nat) (e : Ending) (w' : World) : Prop :=
  ∃ (r : Int), e = .returned (.int .i64 r) ∧ w.grownBy w' (some lb) ∧ (r < 0 → (sizeF l : Int) ≤ n ∧ Small l)
set_option maxHeartbeats 2000000 in
set_option maxRecDepth 100000 in
theorem indexFits_any (B lb : Nat) (fv : Value) (l : List FlatD) (w : World) (n : Int) (hl : IsFlats B w fv l) (hL : w.heap[lb]? = some (.cells #[.int .i64 n] 3 (0, 0))) (hB : B ≤ lb) (hBw : B ≤ w.heap.size) (h0 : 0 ≤ n) (h6 : n ≤ 600) :
    Calls Try.prog 23 #[fv, .func (.func 16) #[] #[.pointer (some ⟨lb, 0, none⟩)]] w (IdxF n l w lb) := by
  have HR := Lib.hid hl
  have HL := Lib.hid hL
  have hm' : l.length ≤ 9223372036854775807 := by have := hl.2.1; unfold maxLen at this; omega
  obtain ⟨⟨a, c, rfl, hlc, _⟩, _⟩ := hl
  clear hL
  go_enter Try.func23, Try.ntmps23
  go_wp2_with fail
  go_loopw [8] (fun i wr => ∃ (k : Nat) (n' : Int), k ≤ l.length ∧ i = .int .i64 k ∧ 0 ≤ n' ∧ n' ≤ n ∧ Hid (n' = n - sizeF (l.take k) ∧ Small (l.take k)) ∧ Hid (wr.heap[lb]? = some (.cells #[.int .i64 n'] 3 (0, 0))) ∧ Hid (w.grownBy wr (some lb))) (fun i _ => l.length - (intOf i).toNat)
  case atStart => exact ⟨0, n, Nat.zero_le _, rfl, h0, Int.le_refl _, ⟨by rw [List.take_zero]; show n = n - ((sizeL [] : Nat) : Int); rw [sizeL_nil]; omega, fun f hf => by simp at hf⟩, HL, ⟨rfl, rfl, rfl, Nat.le_refl _, fun _ _ _ => rfl⟩⟩
  case round =>
    obtain ⟨k, n', hk, rfl, hn0, hn1, HS, HLr, HG⟩ := hrel
    by_cases hkl : k < l.length
    · have hxr : IsFlats B wr (.slice a l.length c) l := HR.out.under (grown_under HG.out hBw (fun q hq => by cases hq; exact hB))
      obtain ⟨b, off, c', ha, _, hbB, c0, c1, c2, c3, c4⟩ := flats_at hxr.1 k hkl
      obtain rfl := (Value.slice.inj ha).1
      have hmem := getD_mem default l k hkl
      have hF := fits1_any B lb _ wr n' (hxr.2.2 _ hmem) HLr.out hB (by have := HG.out.size; omega) hn0 (by omega)
      have hT := take_one default l k hkl
      have HT : Hid (sizeF (l.take (k + 1)) = sizeF (l.take k) + sizeX (l.getD k default).body ∧ (heightX (l.getD k default).body ≤ 211 → Small (l.take k) → Small (l.take (k + 1)))) := ⟨by rw [hT, sizeF_snoc], fun h1 h2 => by
        rw [hT]; intro f hf
        rcases List.mem_append.1 hf with hf | hf
        · exact h2 f hf
        · obtain rfl := List.mem_singleton.1 hf; exact h1⟩
      clear hT hxr ha hmem
      generalize l.getD k default = x at *
      obtain ⟨caps, ⟨op, m, s, xv, xl⟩⟩ := x
      have c0 : wr.cell? ⟨b, off + k * 5, none⟩ = some (.int .i64 caps) := c0
      have c1 : wr.cell? ⟨b, off + k * 5 + 1, none⟩ = some (.int .i64 op) := c1
      have c2 : wr.cell? ⟨b, off + k * 5 + 2, none⟩ = some (.int .i64 m) := c2
      have c3 : wr.cell? ⟨b, off + k * 5 + 3, none⟩ = some (.string s) := c3
      have c4 : wr.cell? ⟨b, off + k * 5 + 4, none⟩ = some xv := c4
      have HF := Lib.hid hF
      clear hF
      go_wp2_with fail
      refine HF.out.mono ?_
      rintro e w2 ⟨bb, n2, rfl, hL2, hg2, hn2, hn3, hn4⟩
      have HL2 := Lib.hid hL2
      have HG2 := Lib.hid (both HG.out hg2)
      have HN := Lib.hid hn4
      clear hL2 hg2 hn4 c0 c1 c2 c3 c4
      cases bb
      · obtain ⟨j0, j1, j2⟩ := HN.out rfl
        have HS2 : Hid (n2 = n - sizeF (l.take (k + 1)) ∧ Small (l.take (k + 1))) := ⟨by rw [HT.out.1]; have := HS.out.1; push_cast; omega, HT.out.2 j2 HS.out.2⟩
        clear j1 j2
        go_wp2_with fail
        go_round
        case rel => exact ⟨k + 1, n2, by omega, by go_num, j0, by omega, HS2, HL2, HG2⟩
        case measure => simp [intOf]; omega
      · go_wp2_with fail
        go_ret
        exact ⟨k, rfl, HG2.out, fun h => by omega⟩
    · go_wp2_with fail
      go_ret
      obtain ⟨s1, s2⟩ := HS.out
      rw [List.take_of_length_le (by omega)] at s1 s2
      exact ⟨-1, rfl, HG.out, fun _ => ⟨by omega, s2⟩⟩
theorem containsFits_any (B lb : Nat) (fv : Value) (l : List FlatD) (w : World) (n : Int) (hl : IsFlats B w fv l) (hL : w.heap[lb]? = some (.cells #[.int .i64 n] 3 (0, 0))) (hB : B ≤ lb) (hBw : B ≤ w.heap.size) (h0 : 0 ≤ n) (h6 : n ≤ 600) :
    Calls Try.prog 8 #[fv, .func (.func 16) #[] #[.pointer (some ⟨lb, 0, none⟩)]] w fun e w' => ∃ b : Bool, e = .returned (.bool b) ∧ w.grownBy w' (some lb) ∧ (b = false → (sizeF l : Int) ≤ n ∧ Small l) := by
  have H' := Lib.hid (indexFits_any B lb fv l w n hl hL hB hBw h0 h6)
  obtain ⟨⟨a, c, rfl, hlc, hcell⟩, _⟩ := hl
  clear hL hcell
  go_enter Try.func8, Try.ntmps8
  go_wp2_with fail
  refine H'.out.mono ?_
  rintro e w2 ⟨r, rfl, hg2, hn3⟩
  have HR : Hid (∃ b : Bool, b = decide (0 ≤ r) ∧ w.grownBy w2 (some lb) ∧ (b = false → (sizeF l : Int) ≤ n ∧ Small l)) := ⟨_, rfl, hg2, fun h => hn3 (by have := of_decide_eq_false h; omega)⟩
  clear hg2 hn3
  go_wp2_with fail
  go_ret
  obtain ⟨b, hb, h⟩ := HR.out
  exact ⟨b, by rw [hb]; rfl, h⟩
/-- What fits. -/
def Fit (l : List FlatD) : Prop := l.length ≤ 60 ∧ sizeF l ≤ 600 ∧ Small l
set_option maxHeartbeats 1000000 in
set_option maxRecDepth 100000 in
theorem fits_any (B : Nat) (fv : Value) (l : List FlatD) (w : World) (hl : IsFlats B w fv l) (hBw : B ≤ w.heap.size) :
    Calls Try.prog 5 #[fv] w fun e w' => ∃ b : Bool, e = .returned (.bool b) ∧ Below w.heap.size w w' ∧ (b = true → Fit l) := by
  have HR := Lib.hid hl
  have hg := grown_alloc w (.cells #[.int .i64 600] 3)
  have gY := new_heap w (.cells #[.int .i64 600] 3)
  have HC := Lib.hid (containsFits_any B w.heap.size fv l _ 600 (hl.under (grown_under hg hBw (by nofun))) gY hBw (by simp; omega) (by omega) (by omega))
  obtain ⟨⟨a, c, rfl, hlc, hcell⟩, _⟩ := hl
  have HG := Lib.hid hg
  clear hg gY hcell
  by_cases h60 : (l.length : Int) ≤ 60
  · go_enter Try.func5, Try.ntmps5
    go_wp2_with fail
    refine HC.out.mono ?_
    rintro e w2 ⟨b, rfl, hg2, hn⟩
    have HR2 : Hid (∃ b' : Bool, b' = (!b) ∧ Below w.heap.size w w2 ∧ (b' = true → Fit l)) := ⟨_, rfl, (grown_under HG.out (Nat.le_refl _) (by nofun)).trans (grown_under hg2 (by simp) (fun q hq => by cases hq; exact Nat.le_refl _)), fun h => by
      obtain ⟨h1, h2⟩ := hn (by simpa using h)
      exact ⟨by omega, by omega, h2⟩⟩
    clear hg2 hn
    go_wp2_with fail
    go_ret
    obtain ⟨b', hb, h⟩ := HR2.out
    exact ⟨b', by rw [hb]; rfl, h⟩
  · go_enter Try.func5, Try.ntmps5
    go_wp2_with fail
    go_ret
    exact .inl ⟨rfl, grown_under HG.out (Nat.le_refl _) (by nofun)⟩
end Go.Proofs.Ytidolpcbbbakmaa
