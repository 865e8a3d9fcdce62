/- What came in reads as instructions. -/
import Derived.Test.YtbcbjefonkbjnaaAw8
import Derived.Test.YtbcbjefonkbjnaaDp4
import Derived.Deep.Slices
import Derived.ChangeSame
namespace Go.Proofs.Ytbcbjefonkbjnaa
open Go Go.RowKit Go.ChangeShapes Go.WideShapes

theorem flat_getD {α : Type} [Inhabited α] (f : α → List Value) (s : Nat) (hf : ∀ a, (f a).length = s) : ∀ (l : List α) (i r : Nat), i < l.length → r < s → (l.flatMap f).getD (i * s + r) undef = (f (l.getD i default)).getD r undef
  | [], i, r, h, _ => by simp at h
  | x :: l, 0, r, _, hr => by
    simp only [List.flatMap_cons, Nat.zero_mul, Nat.zero_add, List.getD_eq_getElem?_getD]
    rw [List.getElem?_append_left (by rw [hf]; exact hr)]; simp
  | x :: l, i + 1, r, h, hr => by
    have ih := flat_getD f s hf l i r (by simpa using h) hr
    have e : (i + 1) * s + r - s = i * s + r := by rw [Nat.succ_mul]; omega
    have e2 : s ≤ (i + 1) * s + r := by rw [Nat.succ_mul]; omega
    simp only [List.flatMap_cons, List.getD_eq_getElem?_getD] at ih ⊢
    rw [List.getElem?_append_right (by rw [hf]; exact e2), hf, e]
    simpa using ih
theorem flat_length {α : Type} (f : α → List Value) (s : Nat) (hf : ∀ a, (f a).length = s) : ∀ (l : List α), (l.flatMap f).length = l.length * s
  | [] => by simp
  | x :: l => by rw [List.flatMap_cons, List.length_append, hf, flat_length f s hf l, List.length_cons, Nat.succ_mul]; omega
section
variable {H : Type} {enc : TypeId × Value → H} {W : World} {sp : Nat → Bool}
theorem cell_spot' {w : World} {a : Addr} {v : Value} (h : w.cell? a = some v) : a.spot = none := World.cell?_spot h
theorem row_open {α : Type} [Inhabited α] (f : α → List Value) (Q : α → Prop) (s : Nat) (hs : 0 < s) (hf : ∀ a, (f a).length = s) {t e : TypeId} (ht : Try.prog.underlying t = some (.slice e)) (hc : Try.prog.cellsOf e = s)
    (hG : ∀ n cs x, DataW.trod enc Try.prog W 0 sp true n e cs = some x → ∃ a, cs = f a ∧ Q a) {n : Nat} {cs : List Value} {x : DataW H × List MemPlace} (h : DataW.trod enc Try.prog W 0 sp true n t cs = some x) :
    ∃ (v : Value) (l : List α), cs = [v] ∧ IsRow W v l.length (l.flatMap f) ∧ (∀ a ∈ l, Q a) ∧ l.length ≤ maxLen := by
  rcases Go.Deep.open_slice ht h with ⟨rfl, _⟩ | ⟨a, len, cap, m, k, D, Pl, rfl, _, hl, hcm, hm, _, hx⟩
  · exact ⟨_, [], rfl, isRow_nil W, (fun a ha => by cases ha), Nat.zero_le _⟩
  · have hlm : len ≤ m := by rw [hm]; split <;> omega
    have each : ∀ i, ∃ q : α, i < len → (∀ r, r < s → W.cell? ((a.add (i * s)).add r) = some ((f q).getD r undef)) ∧ Q q := fun i => by
      by_cases hi : i < len
      · obtain ⟨cs', h1, h2⟩ := hx i (by omega)
        rw [hc] at h1
        obtain ⟨_, hlen, hcell⟩ := World.cells?_some h1
        obtain ⟨q, rfl, hq⟩ := hG _ _ _ h2
        refine ⟨q, fun _ => ⟨fun r hr => ?_, hq⟩⟩
        rw [hcell r hr]
        have : r < (f q).length := by rw [hf]; exact hr
        simp [List.getD, this]
      · exact ⟨default, fun h => absurd h hi⟩
    obtain ⟨q, hq⟩ := Classical.axiomOfChoice each
    have hl' : ((List.range len).map q).length = len := by simp
    refine ⟨_, (List.range len).map q, rfl, ⟨some a, cap, by rw [hl'], by omega, fun h0 => ?_⟩, fun z hz => ?_, by rw [hl']; omega⟩
    · rw [hl'] at h0
      obtain ⟨b, off, spt⟩ := a
      have e0 := (hq 0 h0).1 0 hs
      have : spt = none := by simpa [Addr.add] using cell_spot' e0
      subst this
      have hcl : ∀ j, j < len * s → W.cell? ⟨b, off + j, none⟩ = some ((((List.range len).map q).flatMap f).getD j undef) := fun j hj => by
        have hdm := Nat.div_add_mod j s
        have hjs : j / s < len := by rw [Nat.div_lt_iff_lt_mul hs]; exact hj
        have hjr : j % s < s := Nat.mod_lt _ hs
        have g := (hq (j / s) hjs).1 (j % s) hjr
        have e : j = j / s * s + j % s := by rw [Nat.mul_comm] at hdm; exact hdm.symm
        have ea : (((⟨b, off, none⟩ : Addr).add (j / s * s)).add (j % s)) = ⟨b, off + j, none⟩ := by
          rw [Go.WideShapes.add_plain, Go.WideShapes.add_plain, Nat.add_assoc, ← e]
        rw [ea] at g
        rw [g]
        conv => rhs; rw [e, flat_getD f s hf _ _ _ (by rw [hl']; exact hjs) hjr]
        simp [List.getD, hjs]
      refine ⟨b, off, rfl, ?_, fun j hj => hcl j (by rw [flat_length f s hf, hl'] at hj; exact hj)⟩
      have := hcl 0 (Nat.mul_pos h0 hs)
      rcases Nat.lt_or_ge b W.heap.size with h' | h'
      · exact h'
      · simp [World.cell?, Array.getElem?_eq_none h'] at this
    · obtain ⟨i, hi, rfl⟩ := List.mem_map.1 hz
      exact (hq i (by simpa using hi)).2
theorem int_open {n : Nat} {cs : List Value} {x : DataW H × List MemPlace} (h : DataW.trod enc Try.prog W 0 sp true n 3 cs = some x) : ∃ k : Int, cs = [.int .i64 k] := by
  obtain ⟨k, rfl, _, _⟩ := DataW.trod_int Try.underlying3 h
  exact ⟨k, rfl⟩
theorem cells_int : Try.prog.cellsOf 3 = 1 := by kernel_rfl
theorem cells_ins : Try.prog.cellsOf 41 = 3 := by kernel_rfl
def insEnc (i : Ins) : List Value := [.int .i64 i.op, .int .i64 i.a, .int .i64 i.b]
theorem field_at {fs : Array Field} {t : TypeId} (ht : Try.prog.underlying t = some (.struct fs)) {n : Nat} {cs : List Value} {x : DataW H × List MemPlace} (h : DataW.trod enc Try.prog W 0 sp true n t cs = some x) (i : Nat) (f : Field) (hi : fs[i]? = some f) (ho : f.offset = i) (hc : Try.prog.cellsOf f.type = 1) :
    ∃ m y, DataW.trod enc Try.prog W 0 sp true m f.type ((cs.drop i).take 1) = some y := by
  obtain ⟨xs, m, _, _, _, hxl, hf⟩ := DataW.trod_struct ht h
  have g := hf i f hi
  have hlt : i < fs.size := (Array.getElem?_eq_some_iff.1 hi).1
  rw [ho, hc, List.getElem?_eq_getElem (by omega)] at g
  exact ⟨m, _, g⟩
theorem len_at {fs : Array Field} {t : TypeId} (ht : Try.prog.underlying t = some (.struct fs)) {n : Nat} {cs : List Value} {x : DataW H × List MemPlace} (h : DataW.trod enc Try.prog W 0 sp true n t cs = some x) : cs.length = Try.prog.cellsOf t := by
  obtain ⟨_, _, _, _, hl, _, _⟩ := DataW.trod_struct ht h
  exact hl
theorem ins_open (n : Nat) (cs : List Value) (x : DataW H × List MemPlace) (h : DataW.trod enc Try.prog W 0 sp true n 41 cs = some x) : ∃ i : Ins, cs = insEnc i ∧ True := by
  have hl := (len_at Try.underlying41 h).trans cells_ins
  obtain ⟨_, _, g0⟩ := field_at Try.underlying41 h 0 _ rfl rfl cells_int
  obtain ⟨_, _, g1⟩ := field_at Try.underlying41 h 1 _ rfl rfl cells_int
  obtain ⟨_, _, g2⟩ := field_at Try.underlying41 h 2 _ rfl rfl cells_int
  match cs, hl with
  | [c0, c1, c2], _ =>
    obtain ⟨k0, e0⟩ := int_open g0
    obtain ⟨k1, e1⟩ := int_open g1
    obtain ⟨k2, e2⟩ := int_open g2
    simp at e0 e1 e2
    subst e0 e1 e2
    exact ⟨⟨k0, k1, k2⟩, rfl, trivial⟩
theorem code_open {n : Nat} {cs : List Value} {x : DataW H × List MemPlace} (h : DataW.trod enc Try.prog W 0 sp true n 22 cs = some x) : ∃ v l, cs = [v] ∧ IsCode W v l := by
  obtain ⟨v, l, hv, hr, _, _⟩ := row_open insEnc (fun _ => True) 3 (by decide) (fun _ => rfl) Try.underlying22 cells_ins ins_open h
  exact ⟨v, l, hv, hr⟩
end
set_option maxHeartbeats 1000000 in
set_option maxRecDepth 100000 in
theorem depths_walk (v : Value) (code : List Ins) (w : World) (h : IsCode w v code) : Calls Try.prog 3 #[v] w fun e w' => e = .returned (.bool true) ∧ Below w.heap.size w w' := by
  have Hc := Lib.hid h
  obtain ⟨a, c, rfl, hlc, _⟩ := h
  go_enter Try.func3, Try.ntmps3
  go_wp2_with fail
  refine (awake47_any w).mono ?_
  rintro e w2 ⟨rfl, hb2⟩
  have Hc2 := Lib.hid (IsRow.below Hc.out hb2)
  by_cases hl : 300 < code.length
  · have hl' : (300 : Int) < (code.length : Int) := by omega
    go_wp2_with fail
    go_ret
    exact ⟨rfl, hb2⟩
  · have hl' : ¬ (300 : Int) < (code.length : Int) := by omega
    have HD := Lib.hid (depth_any _ code w2 Hc2.out (by omega))
    go_wp2_with fail
    refine HD.out.mono ?_
    rintro e w3 ⟨r, er, rfl, hdep, hb3⟩
    have HR := Lib.hid (rdepth_any _ code w3 (IsRow.below Hc2.out hb3) (by omega))
    have hbb := hb2.trans (hb3.mono hb2.size)
    have Hd := Lib.hid hdep
    clear hdep hb3 HD
    go_wp2_with fail
    refine HR.out.mono ?_
    rintro e w4 ⟨r', er', rfl, hdep', hb4⟩
    obtain ⟨rfl, rfl⟩ := dep_one _ _ _ _ _ Hd.out hdep'
    have hbe := hbb.trans (hb4.mono hbb.size)
    clear hb4 hbb HR hdep'
    go_wp2_with fail
    go_ret
    exact ⟨by simp, hbe⟩
end Go.Proofs.Ytbcbjefonkbjnaa
