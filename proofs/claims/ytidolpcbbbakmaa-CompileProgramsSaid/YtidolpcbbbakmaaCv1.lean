/- What came in reads as flat functions. -/
import Derived.Test.YtidolpcbbbakmaaCs2
import Derived.Deep.Slices
import Derived.ChangeSame
import Derived.SliceStrings
namespace Go.Proofs.Ytidolpcbbbakmaa
open Go Go.RowKit Go.ChangeShapes Go.WideShapes

theorem flat_getD {α : Type} [Inhabited α] (f : α → List Value) (s : Nat) (hf : ∀ a, (f a).length = s) : ∀ (l : List α) (i r : Nat), i < l.length → r < s → (l.flatMap f).getD (i * s + r) undef = (f (l.getD i default)).getD r undef
  | [], i, r, h, _ => by simp at h
  | x :: l, 0, r, _, hr => by
    simp only [List.flatMap_cons, Nat.zero_mul, Nat.zero_add, List.getD_eq_getElem?_getD]
    rw [List.getElem?_append_left (by rw [hf]; exact hr)]; simp
  | x :: l, i + 1, r, h, hr => by
    have ih := flat_getD f s hf l i r (by simpa using h) hr
    have e : (i + 1) * s + r - s = i * s + r := by rw [Nat.succ_mul]; omega
    have e2 : s ≤ (i + 1) * s + r := by rw [Nat.succ_mul]; omega
    simp only [List.flatMap_cons, List.getD_eq_getElem?_getD] at ih ⊢
    rw [List.getElem?_append_right (by rw [hf]; exact e2), hf, e]
    simpa using ih
theorem flat_length {α : Type} (f : α → List Value) (s : Nat) (hf : ∀ a, (f a).length = s) : ∀ (l : List α), (l.flatMap f).length = l.length * s
  | [] => by simp
  | x :: l => by rw [List.flatMap_cons, List.length_append, hf, flat_length f s hf l, List.length_cons, Nat.succ_mul]; omega
section
variable {H : Type} {enc : TypeId × Value → H} {W : World} {sp : Nat → Bool}
theorem cell_spot' {w : World} {a : Addr} {v : Value} (h : w.cell? a = some v) : a.spot = none := World.cell?_spot h
/-- A row whose elements are read with less fuel. -/
theorem row_open {α : Type} [Inhabited α] (f : α → List Value) (Q : α → Prop) (s : Nat) (hs : 0 < s) (hf : ∀ a, (f a).length = s) {t e : TypeId} (ht : Try.prog.underlying t = some (.slice e)) (hc : Try.prog.cellsOf e = s)
    {n : Nat} (hG : ∀ k, k < n → ∀ cs x, DataW.trod enc Try.prog W 0 sp true k e cs = some x → ∃ a, cs = f a ∧ Q a) {cs : List Value} {x : DataW H × List MemPlace} (h : DataW.trod enc Try.prog W 0 sp true n t cs = some x) :
    ∃ (v : Value) (l : List α), cs = [v] ∧ RowB W.heap.size W v l.length (l.flatMap f) ∧ (∀ a ∈ l, Q a) ∧ l.length ≤ maxLen := by
  rcases DataW.trod_slice ht h with ⟨rfl, _⟩ | ⟨a, len, cap, elems, rest, k, hnk, rfl, _, _, hl, hcm, hlen, hel, _, _⟩
  · exact ⟨_, [], rfl, ⟨none, 0, rfl, Nat.le_refl _, fun h => by simp at h⟩, (fun a ha => by cases ha), Nat.zero_le _⟩
  · have each : ∀ i, ∃ q : α, i < len → (∀ r, r < s → W.cell? ((a.add (i * s)).add r) = some ((f q).getD r undef)) ∧ Q q := fun i => by
      by_cases hi : i < len
      · have hx := hel i hi
        rw [List.getElem?_eq_getElem (by omega)] at hx
        obtain ⟨cs', h1, h2⟩ := Option.bind_eq_some_iff.1 hx
        rw [hc] at h1
        obtain ⟨_, hlen', hcell⟩ := World.cells?_some h1
        obtain ⟨q, rfl, hq⟩ := hG k (by omega) _ _ h2
        refine ⟨q, fun _ => ⟨fun r hr => ?_, hq⟩⟩
        rw [hcell r hr]
        have : r < (f q).length := by rw [hf]; exact hr
        simp [List.getD, this]
      · exact ⟨default, fun h => absurd h hi⟩
    obtain ⟨q, hq⟩ := Classical.axiomOfChoice each
    have hl' : ((List.range len).map q).length = len := by simp
    refine ⟨_, (List.range len).map q, rfl, ⟨some a, cap, by rw [hl'], by omega, fun h0 => ?_⟩, fun z hz => ?_, by rw [hl']; omega⟩
    · rw [hl'] at h0
      obtain ⟨b, off, spt⟩ := a
      have e0 := (hq 0 h0).1 0 hs
      have : spt = none := by simpa [Addr.add] using cell_spot' e0
      subst this
      have hcl : ∀ j, j < len * s → W.cell? ⟨b, off + j, none⟩ = some ((((List.range len).map q).flatMap f).getD j undef) := fun j hj => by
        have hdm := Nat.div_add_mod j s
        have hjs : j / s < len := by rw [Nat.div_lt_iff_lt_mul hs]; exact hj
        have hjr : j % s < s := Nat.mod_lt _ hs
        have g := (hq (j / s) hjs).1 (j % s) hjr
        have e : j = j / s * s + j % s := by rw [Nat.mul_comm] at hdm; exact hdm.symm
        have ea : (((⟨b, off, none⟩ : Addr).add (j / s * s)).add (j % s)) = ⟨b, off + j, none⟩ := by
          rw [Go.WideShapes.add_plain, Go.WideShapes.add_plain, Nat.add_assoc, ← e]
        rw [ea] at g
        rw [g]
        conv => rhs; rw [e, flat_getD f s hf _ _ _ (by rw [hl']; exact hjs) hjr]
        simp [List.getD, hjs]
      refine ⟨b, off, rfl, ?_, fun j hj => hcl j (by rw [flat_length f s hf, hl'] at hj; exact hj)⟩
      have := hcl 0 (Nat.mul_pos h0 hs)
      rcases Nat.lt_or_ge b W.heap.size with h' | h'
      · exact h'
      · simp [World.cell?, Array.getElem?_eq_none h'] at this
    · obtain ⟨i, hi, rfl⟩ := List.mem_map.1 hz
      exact (hq i (by simpa using hi)).2
theorem int_open {n : Nat} {cs : List Value} {x : DataW H × List MemPlace} (h : DataW.trod enc Try.prog W 0 sp true n 3 cs = some x) : ∃ k : Int, cs = [.int .i64 k] := by
  obtain ⟨k, rfl, _, _⟩ := DataW.trod_int Try.underlying3 h
  exact ⟨k, rfl⟩
theorem str_open {n : Nat} {cs : List Value} {x : DataW H × List MemPlace} (h : DataW.trod enc Try.prog W 0 sp true n 9 cs = some x) : ∃ s : ByteArray, cs = [.string s] := by
  obtain ⟨k, rfl, _, _⟩ := DataW.trod_string Try.underlying9 h
  exact ⟨k, rfl⟩
theorem cells_int : Try.prog.cellsOf 3 = 1 := by kernel_rfl
theorem cells_string : Try.prog.cellsOf 9 = 1 := by kernel_rfl
theorem cells_exps : Try.prog.cellsOf 34 = 1 := by kernel_rfl
theorem cells_exp : Try.prog.cellsOf 36 = 4 := by kernel_rfl
theorem cells_flat : Try.prog.cellsOf 38 = 5 := by kernel_rfl
theorem field_at {fs : Array Field} {t : TypeId} (ht : Try.prog.underlying t = some (.struct fs)) {n : Nat} {cs : List Value} {x : DataW H × List MemPlace} (h : DataW.trod enc Try.prog W 0 sp true n t cs = some x) (i o c : Nat) (f : Field) (hi : fs[i]? = some f) (ho : f.offset = o) (hc : Try.prog.cellsOf f.type = c) :
    ∃ m y, m < n ∧ DataW.trod enc Try.prog W 0 sp true m f.type ((cs.drop o).take c) = some y := by
  obtain ⟨xs, m, hn, _, _, hxl, hf⟩ := DataW.trod_struct ht h
  have g := hf i f hi
  have hlt : i < fs.size := (Array.getElem?_eq_some_iff.1 hi).1
  rw [ho, hc, List.getElem?_eq_getElem (by omega)] at g
  exact ⟨m, _, by omega, g⟩
theorem len_at {fs : Array Field} {t : TypeId} (ht : Try.prog.underlying t = some (.struct fs)) {n : Nat} {cs : List Value} {x : DataW H × List MemPlace} (h : DataW.trod enc Try.prog W 0 sp true n t cs = some x) : cs.length = Try.prog.cellsOf t := by
  obtain ⟨_, _, _, _, hl, _, _⟩ := DataW.trod_struct ht h
  exact hl
theorem exp_open (n : Nat) : ∀ (cs : List Value) (x : DataW H × List MemPlace), DataW.trod enc Try.prog W 0 sp true n 36 cs = some x → ∃ e : ExpD, cs = expEnc e ∧ IsExp W.heap.size W e := by
  induction n using Nat.strongRecOn with
  | _ n ih =>
    intro cs x h
    have hl := (len_at Try.underlying36 h).trans cells_exp
    obtain ⟨_, _, _, g0⟩ := field_at Try.underlying36 h 0 0 1 _ rfl rfl cells_int
    obtain ⟨_, _, _, g1⟩ := field_at Try.underlying36 h 1 1 1 _ rfl rfl cells_int
    obtain ⟨_, _, _, g2⟩ := field_at Try.underlying36 h 2 2 1 _ rfl rfl cells_string
    obtain ⟨m, _, hm, g3⟩ := field_at Try.underlying36 h 3 3 1 _ rfl rfl cells_exps
    match cs, hl with
    | [c0, c1, c2, c3], _ =>
      obtain ⟨k0, e0⟩ := int_open g0
      obtain ⟨k1, e1⟩ := int_open g1
      obtain ⟨s, e2⟩ := str_open g2
      obtain ⟨v, l, e3, hr, hq, hlm⟩ := row_open expEnc (IsExp W.heap.size W) 4 (by decide) (fun _ => rfl) Try.underlying34 cells_exp (fun k hk => ih k (by omega)) g3
      simp at e0 e1 e2 e3
      subst e0 e1 e2 e3
      exact ⟨.mk k0 k1 s c3 l, rfl, .mk hr hlm hq⟩
theorem flat_open (n : Nat) (cs : List Value) (x : DataW H × List MemPlace) (h : DataW.trod enc Try.prog W 0 sp true n 38 cs = some x) : ∃ f : FlatD, cs = flatEnc f ∧ IsExp W.heap.size W f.body := by
  have hl := (len_at Try.underlying38 h).trans cells_flat
  obtain ⟨_, _, _, g0⟩ := field_at Try.underlying38 h 0 0 1 _ rfl rfl cells_int
  obtain ⟨_, _, _, g1⟩ := field_at Try.underlying38 h 1 1 4 _ rfl rfl cells_exp
  match cs, hl with
  | [c0, c1, c2, c3, c4], _ =>
    obtain ⟨k0, e0⟩ := int_open g0
    obtain ⟨e, e1, he⟩ := exp_open _ _ _ g1
    simp [expEnc] at e0 e1
    obtain ⟨h1, h2, h3, h4⟩ := e1
    subst e0 h1 h2 h3 h4
    exact ⟨⟨k0, e⟩, rfl, he⟩
theorem flats_open {n : Nat} {cs : List Value} {x : DataW H × List MemPlace} (h : DataW.trod enc Try.prog W 0 sp true n 22 cs = some x) : ∃ v l, cs = [v] ∧ IsFlats W.heap.size W v l := by
  obtain ⟨v, l, hv, hr, hq, hm⟩ := row_open flatEnc (fun f => IsExp W.heap.size W f.body) 5 (by decide) (fun _ => rfl) Try.underlying22 cells_flat (fun k _ => flat_open k) h
  exact ⟨v, l, hv, hr, hm, hq⟩
end
end Go.Proofs.Ytidolpcbbbakmaa
