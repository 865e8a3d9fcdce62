/- awake: the example of the chapter. What came in reads as instructions, functions, programs. -/
import Derived.Test.YtidffjlpldalpaaGreatDoorT12
import Derived.Deep.Slices
import Derived.ChangeSame
import Derived.SliceStrings
set_option linter.unusedVariables false
set_option linter.unusedSimpArgs false
namespace Go.Proofs.YtidffjlpldalpaaGreatDoor
open Go Go.RowKit

def sevenP (cv : Value) : ProgD := ⟨[sevenF cv], [], 0⟩
theorem seven_valid (cv : Value) : validB (sevenP cv) = true := by kernel_rfl
theorem seven_text (cv : Value) : textU (sevenP cv) = [109, 97, 105, 110, 32, 48, 10, 102, 117, 110, 32, 48, 32, 49, 32, 49, 10, 105, 110, 116, 32, 55, 10, 114, 101, 116, 117, 114, 110, 10] := by kernel_rfl
theorem seven_body (cv : Value) : bodyL (sevenP cv) = [0, 0, 2, 0, 2, 2, 4, 2, 14, 0, 18, 0, 0] := by kernel_rfl
def sevenE : List Int := [0, 0, 2, 0, 2, 2, 4, 2, 14, 0, 18, 0, 0]
theorem seven_enc (cv : Value) : encT (sevenP cv) = (sevenE ++ [sumK sevenE 13 / 256, sumK sevenE 13 % 256], 0) := by rw [enc_yes _ (seven_valid cv)]; unfold encL; rw [seven_body]; rfl
def SmallN (x : Int) : Prop := 0 ≤ x ∧ x < 100
theorem itoa_all (w : World) : ItoaAll SmallN w := fun l hl => ⟨itoa_small w l hl, short_of l fun x hx => by have := hl x hx; unfold SmallN at this; omega⟩
theorem small0 : SmallN 0 := ⟨by decide, by decide⟩
theorem small1 : SmallN 1 := ⟨by decide, by decide⟩
theorem small7 : SmallN 7 := ⟨by decide, by decide⟩
theorem seven_nums (cv : Value) : NumsOk SmallN (sevenP cv) := by
  refine ⟨small0, fun f hf => ?_⟩
  obtain rfl : f = sevenF cv := by simpa [sevenP] using hf
  refine ⟨small0, small1, small1, fun i hi => ?_⟩
  simp only [sevenF, List.mem_cons, List.not_mem_nil, or_false] at hi
  rcases hi with rfl | rfl
  · exact ⟨small7, small0⟩
  · exact ⟨small0, small0⟩
theorem seven_str (cv : Value) : (⟨(textU (sevenP cv)).toArray⟩ : ByteArray) = ⟨#[109, 97, 105, 110, 32, 48, 10, 102, 117, 110, 32, 48, 32, 49, 32, 49, 10, 105, 110, 116, 32, 55, 10, 114, 101, 116, 117, 114, 110, 10]⟩ := by rw [seven_text]
theorem seven_bytes (w : World) (v : Value) (l : List Int) (hl : l.length = 15) (h : IsRow w v 15 (u8s l)) : ∃ p c, v = .slice p 15 c ∧ 15 ≤ c ∧ ∃ b o, p = some ⟨b, o, none⟩ ∧ b < w.heap.size ∧ ∀ i, i < 13 → w.cell? ⟨b, o + i, none⟩ = some (.int .u8 (l.getD i 0)) := by
  obtain ⟨a, c, rfl, hc, hcell⟩ := h
  obtain ⟨b, off, rfl, hlt, hx⟩ := hcell (by decide)
  exact ⟨_, c, rfl, hc, b, off, rfl, hlt, fun i hi => by rw [hx i (by rw [u8s_length]; omega), u8s_at l i (by omega)]⟩
set_option maxHeartbeats 1000000 in
set_option maxRecDepth 100000 in
theorem awake_any (w : World) : Calls Tryz.prog 5 #[] w fun e w' => e = .returned (.bool true) ∧ Below w.heap.size w w' := by
  go_enter Tryz.func5, Tryz.ntmps5
  go_wp2_with fail
  refine (seven_any _).mono ?_
  rintro e w1 ⟨fv, cv, rfl, hf, hb1⟩
  have HT := Lib.hid (text_any SmallN fv (.slice none 0 0) (sevenP cv) w1 ⟨hf, isRow_nil _⟩ (by simp [sevenP]) rfl (seven_valid cv) (seven_nums cv) (itoa_all w1) (by rw [seven_text]; decide))
  clear hf
  go_wp2_with fail
  refine HT.out.mono ?_
  rintro e w2 ⟨rfl, hb2⟩
  rw [seven_str]
  have hbb2 : Below w.heap.size w w2 := hb1.trans (hb2.mono hb1.size)
  clear HT hb1 hb2
  go_wp2_with fail
  refine (seven_any _).mono ?_
  rintro e w3 ⟨fv', cv', rfl, hf, hb3⟩
  have hbb3 : Below w.heap.size w w3 := hbb2.trans (hb3.mono hbb2.size)
  have HE := Lib.hid (encode_any fv' (.slice none 0 0) (sevenP cv') w3 ⟨hf, isRow_nil _⟩ (by simp [sevenP]) (by simp [sevenP]) (fun s hs => by cases hs) (by rw [seven_body]; decide))
  clear hf hb3 hbb2
  go_wp2_with fail
  refine HE.out.mono ?_
  rintro e w4 ⟨v, rfl, hrow, hb4⟩
  have hbb4 : Below w.heap.size w w4 := hbb3.trans (hb4.mono hbb3.size)
  rw [seven_enc] at hrow ⊢
  obtain ⟨q, c, rfl, hc, b, o, rfl, hlt, hcells⟩ := seven_bytes w4 v (sevenE ++ [sumK sevenE 13 / 256, sumK sevenE 13 % 256]) rfl hrow
  clear HE hrow hb4 hbb3
  go_wp2_with fail
  refine (Tryz.bytes_Equal_all (some ⟨b, o, none⟩) (some ⟨w4.heap.size, 0, none⟩) 13 c 13 13 sevenE sevenE _ rfl rfl (fun _ => ⟨b, o, rfl, fun i hi => ?h1⟩) (fun _ => ⟨w4.heap.size, 0, rfl, fun i hi => ?h2⟩)).mono ?_
  case h1 =>
    rw [((Below.refl w4.heap.size w4).alloc (Nat.le_refl _) _).cell (p := ⟨b, o + i, none⟩) hlt, hcells i hi]
    have : i < sevenE.length := hi
    simp only [List.getD_eq_getElem?_getD, List.getElem?_append_left this]
  case h2 =>
    rw [Nat.zero_add, cell_new]
    have e : (#[Value.int IntKind.u8 0, Value.int IntKind.u8 0, Value.int IntKind.u8 2, Value.int IntKind.u8 0, Value.int IntKind.u8 2, Value.int IntKind.u8 2, Value.int IntKind.u8 4, Value.int IntKind.u8 2, Value.int IntKind.u8 14, Value.int IntKind.u8 0, Value.int IntKind.u8 18, Value.int IntKind.u8 0, Value.int IntKind.u8 0] : Array Value) = (u8s sevenE).toArray := rfl
    rw [e]
    have hi' : i < sevenE.length := hi
    simp [u8s, List.getD, hi']
  rintro e w5 ⟨rfl, rfl⟩
  rw [beq_self_eq_true]
  go_wp2_with fail
  go_ret
  exact ⟨rfl, hbb4.alloc hbb4.size _⟩
end Go.Proofs.YtidffjlpldalpaaGreatDoor
namespace Go.Proofs.YtidffjlpldalpaaGreatDoor
open Go Go.RowKit Go.ChangeShapes Go.WideShapes

theorem flat_getD {α : Type} [Inhabited α] (f : α → List Value) (s : Nat) (hf : ∀ a, (f a).length = s) : ∀ (l : List α) (i r : Nat), i < l.length → r < s → (l.flatMap f).getD (i * s + r) undef = (f (l.getD i default)).getD r undef
  | [], i, r, h, _ => by simp at h
  | x :: l, 0, r, _, hr => by
    simp only [List.flatMap_cons, Nat.zero_mul, Nat.zero_add, List.getD_eq_getElem?_getD]
    rw [List.getElem?_append_left (by rw [hf]; exact hr)]; simp
  | x :: l, i + 1, r, h, hr => by
    have ih := flat_getD f s hf l i r (by simpa using h) hr
    have e : (i + 1) * s + r - s = i * s + r := by rw [Nat.succ_mul]; omega
    have e2 : s ≤ (i + 1) * s + r := by rw [Nat.succ_mul]; omega
    simp only [List.flatMap_cons, List.getD_eq_getElem?_getD] at ih ⊢
    rw [List.getElem?_append_right (by rw [hf]; exact e2), hf, e]
    simpa using ih
theorem flat_length {α : Type} (f : α → List Value) (s : Nat) (hf : ∀ a, (f a).length = s) : ∀ (l : List α), (l.flatMap f).length = l.length * s
  | [] => by simp
  | x :: l => by rw [List.flatMap_cons, List.length_append, hf, flat_length f s hf l, List.length_cons, Nat.succ_mul]; omega
section
variable {H : Type} {enc : TypeId × Value → H} {W : World} {sp : Nat → Bool}
theorem cell_spot' {w : World} {a : Addr} {v : Value} (h : w.cell? a = some v) : a.spot = none := World.cell?_spot h
theorem row_open {α : Type} [Inhabited α] (f : α → List Value) (Q : α → Prop) (s : Nat) (hs : 0 < s) (hf : ∀ a, (f a).length = s) {t e : TypeId} (ht : Tryz.prog.underlying t = some (.slice e)) (hc : Tryz.prog.cellsOf e = s)
    (hG : ∀ n cs x, DataW.trod enc Tryz.prog W 0 sp true n e cs = some x → ∃ a, cs = f a ∧ Q a) {n : Nat} {cs : List Value} {x : DataW H × List MemPlace} (h : DataW.trod enc Tryz.prog W 0 sp true n t cs = some x) :
    ∃ (v : Value) (l : List α), cs = [v] ∧ IsRow W v l.length (l.flatMap f) ∧ (∀ a ∈ l, Q a) ∧ l.length ≤ maxLen := by
  rcases Go.Deep.open_slice ht h with ⟨rfl, _⟩ | ⟨a, len, cap, m, k, D, Pl, rfl, _, hl, hcm, hm, _, hx⟩
  · exact ⟨_, [], rfl, isRow_nil W, (fun a ha => by cases ha), Nat.zero_le _⟩
  · have hlm : len ≤ m := by rw [hm]; split <;> omega
    have each : ∀ i, ∃ q : α, i < len → (∀ r, r < s → W.cell? ((a.add (i * s)).add r) = some ((f q).getD r undef)) ∧ Q q := fun i => by
      by_cases hi : i < len
      · obtain ⟨cs', h1, h2⟩ := hx i (by omega)
        rw [hc] at h1
        obtain ⟨_, hlen, hcell⟩ := World.cells?_some h1
        obtain ⟨q, rfl, hq⟩ := hG _ _ _ h2
        refine ⟨q, fun _ => ⟨fun r hr => ?_, hq⟩⟩
        rw [hcell r hr]
        have : r < (f q).length := by rw [hf]; exact hr
        simp [List.getD, this]
      · exact ⟨default, fun h => absurd h hi⟩
    obtain ⟨q, hq⟩ := Classical.axiomOfChoice each
    have hl' : ((List.range len).map q).length = len := by simp
    refine ⟨_, (List.range len).map q, rfl, ⟨some a, cap, by rw [hl'], by omega, fun h0 => ?_⟩, fun z hz => ?_, by rw [hl']; omega⟩
    · rw [hl'] at h0
      obtain ⟨b, off, spt⟩ := a
      have e0 := (hq 0 h0).1 0 hs
      have : spt = none := by simpa [Addr.add] using cell_spot' e0
      subst this
      have hcl : ∀ j, j < len * s → W.cell? ⟨b, off + j, none⟩ = some ((((List.range len).map q).flatMap f).getD j undef) := fun j hj => by
        have hdm := Nat.div_add_mod j s
        have hjs : j / s < len := by rw [Nat.div_lt_iff_lt_mul hs]; exact hj
        have hjr : j % s < s := Nat.mod_lt _ hs
        have g := (hq (j / s) hjs).1 (j % s) hjr
        have e : j = j / s * s + j % s := by rw [Nat.mul_comm] at hdm; exact hdm.symm
        have ea : (((⟨b, off, none⟩ : Addr).add (j / s * s)).add (j % s)) = ⟨b, off + j, none⟩ := by
          rw [Go.WideShapes.add_plain, Go.WideShapes.add_plain, Nat.add_assoc, ← e]
        rw [ea] at g
        rw [g]
        conv => rhs; rw [e, flat_getD f s hf _ _ _ (by rw [hl']; exact hjs) hjr]
        simp [List.getD, hjs]
      refine ⟨b, off, rfl, ?_, fun j hj => hcl j (by rw [flat_length f s hf, hl'] at hj; exact hj)⟩
      have := hcl 0 (Nat.mul_pos h0 hs)
      rcases Nat.lt_or_ge b W.heap.size with h' | h'
      · exact h'
      · simp [World.cell?, Array.getElem?_eq_none h'] at this
    · obtain ⟨i, hi, rfl⟩ := List.mem_map.1 hz
      exact (hq i (by simpa using hi)).2
theorem int_open {n : Nat} {cs : List Value} {x : DataW H × List MemPlace} (h : DataW.trod enc Tryz.prog W 0 sp true n 3 cs = some x) : ∃ k : Int, cs = [.int .i64 k] := by
  obtain ⟨k, rfl, _, _⟩ := DataW.trod_int Tryz.underlying3 h
  exact ⟨k, rfl⟩
theorem str_open {n : Nat} {cs : List Value} {x : DataW H × List MemPlace} (h : DataW.trod enc Tryz.prog W 0 sp true n 9 cs = some x) : ∃ s : ByteArray, cs = [.string s] := by
  obtain ⟨k, rfl, _, _⟩ := DataW.trod_string Tryz.underlying9 h
  exact ⟨k, rfl⟩
theorem cells_int : Tryz.prog.cellsOf 3 = 1 := by kernel_rfl
theorem cells_string : Tryz.prog.cellsOf 9 = 1 := by kernel_rfl
theorem cells_code : Tryz.prog.cellsOf 46 = 1 := by kernel_rfl
theorem cells_funs : Tryz.prog.cellsOf 22 = 1 := by kernel_rfl
theorem cells_texts : Tryz.prog.cellsOf 23 = 1 := by kernel_rfl
theorem cells_ins : Tryz.prog.cellsOf 64 = 3 := by kernel_rfl
theorem cells_fun : Tryz.prog.cellsOf 48 = 4 := by kernel_rfl
theorem cells_prog : Tryz.prog.cellsOf 25 = 3 := by kernel_rfl
def insEnc (i : Ins) : List Value := [.int .i64 i.op, .int .i64 i.a, .int .i64 i.b]
def funEnc (f : FunD) : List Value := [.int .i64 f.c, .int .i64 f.l, .int .i64 f.d, f.v]
theorem field_at {fs : Array Field} {t : TypeId} (ht : Tryz.prog.underlying t = some (.struct fs)) {n : Nat} {cs : List Value} {x : DataW H × List MemPlace} (h : DataW.trod enc Tryz.prog W 0 sp true n t cs = some x) (i : Nat) (f : Field) (hi : fs[i]? = some f) (ho : f.offset = i) (hc : Tryz.prog.cellsOf f.type = 1) :
    ∃ m y, DataW.trod enc Tryz.prog W 0 sp true m f.type ((cs.drop i).take 1) = some y := by
  obtain ⟨xs, m, _, _, _, hxl, hf⟩ := DataW.trod_struct ht h
  have g := hf i f hi
  have hlt : i < fs.size := (Array.getElem?_eq_some_iff.1 hi).1
  rw [ho, hc, List.getElem?_eq_getElem (by omega)] at g
  exact ⟨m, _, g⟩
theorem len_at {fs : Array Field} {t : TypeId} (ht : Tryz.prog.underlying t = some (.struct fs)) {n : Nat} {cs : List Value} {x : DataW H × List MemPlace} (h : DataW.trod enc Tryz.prog W 0 sp true n t cs = some x) : cs.length = Tryz.prog.cellsOf t := by
  obtain ⟨_, _, _, _, hl, _, _⟩ := DataW.trod_struct ht h
  exact hl
theorem ins_open (n : Nat) (cs : List Value) (x : DataW H × List MemPlace) (h : DataW.trod enc Tryz.prog W 0 sp true n 64 cs = some x) : ∃ i : Ins, cs = insEnc i ∧ True := by
  have hl := (len_at Tryz.underlying64 h).trans cells_ins
  obtain ⟨_, _, g0⟩ := field_at Tryz.underlying64 h 0 _ rfl rfl cells_int
  obtain ⟨_, _, g1⟩ := field_at Tryz.underlying64 h 1 _ rfl rfl cells_int
  obtain ⟨_, _, g2⟩ := field_at Tryz.underlying64 h 2 _ rfl rfl cells_int
  match cs, hl with
  | [c0, c1, c2], _ =>
    obtain ⟨k0, e0⟩ := int_open g0
    obtain ⟨k1, e1⟩ := int_open g1
    obtain ⟨k2, e2⟩ := int_open g2
    simp at e0 e1 e2
    subst e0 e1 e2
    exact ⟨⟨k0, k1, k2⟩, rfl, trivial⟩
theorem code_open {n : Nat} {cs : List Value} {x : DataW H × List MemPlace} (h : DataW.trod enc Tryz.prog W 0 sp true n 46 cs = some x) : ∃ v l, cs = [v] ∧ IsCode W v l := by
  obtain ⟨v, l, hv, hr, _, _⟩ := row_open insEnc (fun _ => True) 3 (by decide) (fun _ => rfl) Tryz.underlying46 cells_ins ins_open h
  exact ⟨v, l, hv, hr⟩
theorem fun_open (n : Nat) (cs : List Value) (x : DataW H × List MemPlace) (h : DataW.trod enc Tryz.prog W 0 sp true n 48 cs = some x) : ∃ f : FunD, cs = funEnc f ∧ IsCode W f.v f.code := by
  have hl := (len_at Tryz.underlying48 h).trans cells_fun
  obtain ⟨_, _, g0⟩ := field_at Tryz.underlying48 h 0 _ rfl rfl cells_int
  obtain ⟨_, _, g1⟩ := field_at Tryz.underlying48 h 1 _ rfl rfl cells_int
  obtain ⟨_, _, g2⟩ := field_at Tryz.underlying48 h 2 _ rfl rfl cells_int
  obtain ⟨_, _, g3⟩ := field_at Tryz.underlying48 h 3 _ rfl rfl cells_code
  match cs, hl with
  | [c0, c1, c2, c3], _ =>
    obtain ⟨k0, e0⟩ := int_open g0
    obtain ⟨k1, e1⟩ := int_open g1
    obtain ⟨k2, e2⟩ := int_open g2
    obtain ⟨v, l, e3, hc⟩ := code_open g3
    simp at e0 e1 e2 e3
    subst e0 e1 e2 e3
    exact ⟨⟨k0, k1, k2, c3, l⟩, rfl, hc⟩
theorem funs_open {n : Nat} {cs : List Value} {x : DataW H × List MemPlace} (h : DataW.trod enc Tryz.prog W 0 sp true n 22 cs = some x) : ∃ v l, cs = [v] ∧ IsFuns W v l ∧ l.length ≤ maxLen := by
  obtain ⟨v, l, hv, hr, hq, hm⟩ := row_open funEnc (fun f => IsCode W f.v f.code) 4 (by decide) (fun _ => rfl) Tryz.underlying22 cells_fun fun_open h
  exact ⟨v, l, hv, ⟨hr, hq⟩, hm⟩
theorem strs_flat : ∀ l : List ByteArray, l.flatMap (fun s : ByteArray => [Value.string s]) = l.map Value.string
  | [] => rfl
  | x :: l => by rw [List.flatMap_cons, strs_flat l]; rfl
theorem texts_open {n : Nat} {cs : List Value} {x : DataW H × List MemPlace} (h : DataW.trod enc Tryz.prog W 0 sp true n 23 cs = some x) : ∃ v l, cs = [v] ∧ IsTexts W v l ∧ l.length ≤ maxLen := by
  obtain ⟨v, l, hv, hr, _, hm⟩ := row_open (fun s : ByteArray => [.string s]) (fun _ => True) 1 (by decide) (fun _ => rfl) Tryz.underlying23 cells_string (fun n cs x h => by obtain ⟨s, hs⟩ := str_open h; exact ⟨s, hs, trivial⟩) h
  refine ⟨v, l, hv, ?_, hm⟩
  have e : l.flatMap (fun s : ByteArray => [Value.string s]) = strCells l := strs_flat l
  rw [e] at hr; exact hr
theorem prog_open {n : Nat} {cs : List Value} {x : DataW H × List MemPlace} (h : DataW.trod enc Tryz.prog W 0 sp true n 25 cs = some x) : ∃ fv tv p, cs = [fv, tv, .int .i64 p.main] ∧ IsProg W fv tv p ∧ p.funs.length ≤ maxLen ∧ p.texts.length ≤ maxLen := by
  have hl := (len_at Tryz.underlying25 h).trans cells_prog
  obtain ⟨_, _, g0⟩ := field_at Tryz.underlying25 h 0 _ rfl rfl cells_funs
  obtain ⟨_, _, g1⟩ := field_at Tryz.underlying25 h 1 _ rfl rfl cells_texts
  obtain ⟨_, _, g2⟩ := field_at Tryz.underlying25 h 2 _ rfl rfl cells_int
  match cs, hl with
  | [c0, c1, c2], _ =>
    obtain ⟨fv, fs, e0, hf, mf⟩ := funs_open g0
    obtain ⟨tv, ts, e1, ht, mt⟩ := texts_open g1
    obtain ⟨k2, e2⟩ := int_open g2
    simp at e0 e1 e2
    subst e0 e1 e2
    exact ⟨_, _, ⟨fs, ts, k2⟩, rfl, ⟨hf, ht⟩, mf, mt⟩
end
theorem agg_of {P : Program} {W : World} {t : TypeId} {fs : Array Field} {base : Nat} {v : Value} (ht : P.underlying t = some (.struct fs)) (hval : Value.okWide P W .any base t v) {l : List Value} (hc : v.cells.toList = l) : v = .agg l.toArray := by
  obtain ⟨cs, hv, _⟩ := okWide_struct ht hval
  rw [hv] at hc ⊢
  rw [← hc]
  show Value.agg cs = .agg cs.toList.toArray
  rw [Array.toArray_toList]
end Go.Proofs.YtidffjlpldalpaaGreatDoor
