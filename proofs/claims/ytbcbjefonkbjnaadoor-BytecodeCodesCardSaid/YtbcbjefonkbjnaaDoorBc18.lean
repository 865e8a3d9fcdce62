/- awake: the example of the chapter. -/
import Derived.Test.YtbcbjefonkbjnaaDoorBc17
namespace Go.Proofs.YtbcbjefonkbjnaaDoor
open Go Go.RowKit

def sevenP (cv : Value) : ProgD := ⟨[sevenF cv], [], 0⟩
theorem seven_valid (cv : Value) : validB (sevenP cv) = true := by kernel_rfl
theorem seven_text (cv : Value) : textU (sevenP cv) = [109, 97, 105, 110, 32, 48, 10, 102, 117, 110, 32, 48, 32, 49, 32, 49, 10, 105, 110, 116, 32, 55, 10, 114, 101, 116, 117, 114, 110, 10] := by kernel_rfl
theorem seven_body (cv : Value) : bodyL (sevenP cv) = [0, 0, 2, 0, 2, 2, 4, 2, 14, 0, 18, 0, 0] := by kernel_rfl
def sevenE : List Int := [0, 0, 2, 0, 2, 2, 4, 2, 14, 0, 18, 0, 0]
theorem seven_enc (cv : Value) : encT (sevenP cv) = (sevenE ++ [sumK sevenE 13 / 256, sumK sevenE 13 % 256], 0) := by rw [enc_yes _ (seven_valid cv)]; unfold encL; rw [seven_body]; rfl
def SmallN (x : Int) : Prop := 0 ≤ x ∧ x < 100
theorem itoa_all (w : World) : ItoaAll SmallN w := fun l hl => ⟨itoa_small w l hl, short_of l fun x hx => by have := hl x hx; unfold SmallN at this; omega⟩
theorem small0 : SmallN 0 := ⟨by decide, by decide⟩
theorem small1 : SmallN 1 := ⟨by decide, by decide⟩
theorem small7 : SmallN 7 := ⟨by decide, by decide⟩
theorem seven_nums (cv : Value) : NumsOk SmallN (sevenP cv) := by
  refine ⟨small0, fun f hf => ?_⟩
  obtain rfl : f = sevenF cv := by simpa [sevenP] using hf
  refine ⟨small0, small1, small1, fun i hi => ?_⟩
  simp only [sevenF, List.mem_cons, List.not_mem_nil, or_false] at hi
  rcases hi with rfl | rfl
  · exact ⟨small7, small0⟩
  · exact ⟨small0, small0⟩
theorem seven_str (cv : Value) : (⟨(textU (sevenP cv)).toArray⟩ : ByteArray) = ⟨#[109, 97, 105, 110, 32, 48, 10, 102, 117, 110, 32, 48, 32, 49, 32, 49, 10, 105, 110, 116, 32, 55, 10, 114, 101, 116, 117, 114, 110, 10]⟩ := by rw [seven_text]
theorem seven_bytes (w : World) (v : Value) (l : List Int) (hl : l.length = 15) (h : IsRow w v 15 (u8s l)) : ∃ p c, v = .slice p 15 c ∧ 15 ≤ c ∧ ∃ b o, p = some ⟨b, o, none⟩ ∧ b < w.heap.size ∧ ∀ i, i < 13 → w.cell? ⟨b, o + i, none⟩ = some (.int .u8 (l.getD i 0)) := by
  obtain ⟨a, c, rfl, hc, hcell⟩ := h
  obtain ⟨b, off, rfl, hlt, hx⟩ := hcell (by decide)
  exact ⟨_, c, rfl, hc, b, off, rfl, hlt, fun i hi => by rw [hx i (by rw [u8s_length]; omega), u8s_at l i (by omega)]⟩
set_option maxHeartbeats 1000000 in
set_option maxRecDepth 100000 in
theorem awake_any (w : World) : Calls Tryd.prog 7 #[] w fun e w' => e = .returned (.bool true) ∧ Below w.heap.size w w' := by
  go_enter Tryd.func7, Tryd.ntmps7
  go_wp2_with fail
  refine (seven_any _).mono ?_
  rintro e w1 ⟨fv, cv, rfl, hf, hb1⟩
  have HT := Lib.hid (text_any SmallN fv (.slice none 0 0) (sevenP cv) w1 ⟨hf, isRow_nil _⟩ (by simp [sevenP]) rfl (seven_valid cv) (seven_nums cv) (itoa_all w1) (by rw [seven_text]; decide))
  clear hf
  go_wp2_with fail
  refine HT.out.mono ?_
  rintro e w2 ⟨rfl, hb2⟩
  rw [seven_str]
  have hbb2 : Below w.heap.size w w2 := hb1.trans (hb2.mono hb1.size)
  clear HT hb1 hb2
  go_wp2_with fail
  refine (seven_any _).mono ?_
  rintro e w3 ⟨fv', cv', rfl, hf, hb3⟩
  have hbb3 : Below w.heap.size w w3 := hbb2.trans (hb3.mono hbb2.size)
  have HE := Lib.hid (encode_any fv' (.slice none 0 0) (sevenP cv') w3 ⟨hf, isRow_nil _⟩ (by simp [sevenP]) (by simp [sevenP]) (fun s hs => by cases hs) (by rw [seven_body]; decide))
  clear hf hb3 hbb2
  go_wp2_with fail
  refine HE.out.mono ?_
  rintro e w4 ⟨v, rfl, hrow, hb4⟩
  have hbb4 : Below w.heap.size w w4 := hbb3.trans (hb4.mono hbb3.size)
  rw [seven_enc] at hrow ⊢
  obtain ⟨q, c, rfl, hc, b, o, rfl, hlt, hcells⟩ := seven_bytes w4 v (sevenE ++ [sumK sevenE 13 / 256, sumK sevenE 13 % 256]) rfl hrow
  clear HE hrow hb4 hbb3
  go_wp2_with fail
  refine (Tryd.bytes_Equal_all (some ⟨b, o, none⟩) (some ⟨w4.heap.size, 0, none⟩) 13 c 13 13 sevenE sevenE _ rfl rfl (fun _ => ⟨b, o, rfl, fun i hi => ?h1⟩) (fun _ => ⟨w4.heap.size, 0, rfl, fun i hi => ?h2⟩)).mono ?_
  case h1 =>
    rw [((Below.refl w4.heap.size w4).alloc (Nat.le_refl _) _).cell (p := ⟨b, o + i, none⟩) hlt, hcells i hi]
    have : i < sevenE.length := hi
    simp only [List.getD_eq_getElem?_getD, List.getElem?_append_left this]
  case h2 =>
    rw [Nat.zero_add, cell_new]
    have e : (#[Value.int IntKind.u8 0, Value.int IntKind.u8 0, Value.int IntKind.u8 2, Value.int IntKind.u8 0, Value.int IntKind.u8 2, Value.int IntKind.u8 2, Value.int IntKind.u8 4, Value.int IntKind.u8 2, Value.int IntKind.u8 14, Value.int IntKind.u8 0, Value.int IntKind.u8 18, Value.int IntKind.u8 0, Value.int IntKind.u8 0] : Array Value) = (u8s sevenE).toArray := rfl
    rw [e]
    have hi' : i < sevenE.length := hi
    simp [u8s, List.getD, hi']
  rintro e w5 ⟨rfl, rfl⟩
  rw [beq_self_eq_true]
  go_wp2_with fail
  go_ret
  exact ⟨rfl, hbb4.alloc hbb4.size _⟩
end Go.Proofs.YtbcbjefonkbjnaaDoor
