/- A line of numbers after a word. -/
import Derived.Test.YtbcbjefonkbjnaaDoorBc8
import Derived.Test.YtbcbjefonkbjnaaDoorShelf
import Derived.Lib.ItoaLen
namespace Go.Proofs.YtbcbjefonkbjnaaDoor
open Go Go.RowKit

def numS (x : Int) : ByteArray := ⟨(Lib.itoa x).toArray⟩
def lineK (s : ByteArray) (l : List Int) : Nat → ByteArray
  | 0 => s
  | k + 1 => lineK s l k ++ (⟨#[32]⟩ ++ numS (l.getD k 0))
def lineS (s : ByteArray) (l : List Int) : ByteArray := lineK s l l.length ++ ⟨#[10]⟩
/-- Itoa answers at the numbers of l, in every world behind w. -/
def ItoaOk (w : World) (l : List Int) : Prop :=
  ∀ w', Below w.heap.size w w' → ∀ x ∈ l, Calls Tryd.prog 68 #[.int .i64 x] w' fun e w2 => e = .returned (.string (numS x)) ∧ Below w'.heap.size w' w2
def Short (l : List Int) : Prop := ∀ x ∈ l, (numS x).size ≤ 21
theorem getD_mem {α : Type} (d : α) (l : List α) (k : Nat) (h : k < l.length) : l.getD k d ∈ l := by
  have : l.getD k d = l[k] := by simp [List.getD, h]
  rw [this]; exact List.getElem_mem h
theorem lineK_size (s : ByteArray) (l : List Int) (h : Short l) : ∀ k, k ≤ l.length → (lineK s l k).size ≤ s.size + 22 * k
  | 0, _ => by simp [lineK]
  | k + 1, hk => by
    have ih := lineK_size s l h k (by omega)
    have := h _ (getD_mem 0 l k (by omega))
    unfold lineK
    simp only [ByteArray.size_append]
    have e : (ByteArray.mk #[32]).size = 1 := rfl
    omega
set_option maxHeartbeats 1000000 in
set_option maxRecDepth 100000 in
theorem line_any (s : ByteArray) (l : List Int) (v : Value) (w : World) (hl : l.length ≤ 1000000) (hs : s.size ≤ 1000000) (hsh : Short l) (hI : ItoaOk w l) (h : IsRow w v l.length (ints l)) :
    Calls Tryd.prog 53 #[.string s, v] w fun e w' => e = .returned (.string (lineS s l)) ∧ Below w.heap.size w w' := by
  obtain ⟨a, c, rfl, hlc, hcell⟩ := h
  have Hcell := Lib.hid hcell
  have HI := Lib.hid hI
  clear hcell hI
  go_enter Tryd.func53, Tryd.ntmps53
  go_wp2_with fail
  go_loopw [0, 9] (fun t i wr => ∃ k : Nat, k ≤ l.length ∧ i = .int .i64 k ∧ t = .string (lineK s l k) ∧ Below w.heap.size w wr) (fun _ i _ => l.length - (intOf i).toNat)
  case atStart => exact ⟨0, Nat.zero_le _, rfl, rfl, Below.refl _ _⟩
  case round =>
    obtain ⟨k, hk, rfl, rfl, hbr⟩ := hrel
    have hz := lineK_size s l hsh k hk
    by_cases hkl : k < l.length
    · obtain ⟨b, off, rfl, hlt, hc⟩ := Hcell.out (by omega)
      have hcx := hc k (by rw [ints_length]; exact hkl)
      rw [ints_at l k hkl, ← hbr.cell (p := ⟨b, off + k, none⟩) hlt] at hcx
      have hm := getD_mem 0 l k hkl
      have hxs := hsh _ hm
      have HX := HI.out wr hbr _ hm
      have hnx : Hid (lineK s l (k + 1) = lineK s l k ++ (⟨#[32]⟩ ++ numS (l.getD k 0))) := rfl
      generalize l.getD k 0 = x at *
      generalize hs : lineK s l k = t at *
      have HX := Lib.hid HX
      have h32 : (ByteArray.mk #[32] ++ numS x).size = 1 + (numS x).size := by simp only [ByteArray.size_append]; rfl
      have g1 : ¬ (9223372036854775807 < 1 + (numS x).size) := by omega
      have g2 : ¬ (9223372036854775807 < t.size + (1 + (numS x).size)) := by omega
      clear hc hs Hcell hm
      go_wp2_with fail
      refine HX.out.mono ?_
      rintro e w2 ⟨rfl, hb2⟩
      have hb3 : Below w.heap.size w w2 := hbr.trans (hb2.mono hbr.size)
      generalize numS x = nx at *
      go_wp2_with fail
      go_round
      case rel => exact ⟨k + 1, by omega, by go_num, by rw [hnx.out], hb3⟩
      case measure => simp [intOf]; omega
    · obtain rfl : k = l.length := by omega
      have e1 : lineS s l = lineK s l l.length ++ ⟨#[10]⟩ := rfl
      have g1 : ¬ (9223372036854775807 < (lineK s l l.length).size + 1) := by omega
      go_wp2_with fail
      go_ret
      exact ⟨rfl, hbr⟩
theorem itoa_small (w : World) (l : List Int) (h : ∀ x ∈ l, 0 ≤ x ∧ x < 100) : ItoaOk w l := by
  intro w' _ x hx
  obtain ⟨x0, x1⟩ := h x hx
  obtain ⟨i, rfl⟩ := Int.eq_ofNat_of_zero_le x0
  refine (Tryd.strconv_Itoa_small i (by omega) w').mono ?_
  rintro e w2 ⟨rfl, rfl⟩
  refine ⟨?_, Below.refl _ _⟩
  unfold numS Lib.itoa
  rw [if_neg (by omega)]
  rfl
theorem short_of (l : List Int) (h : ∀ x ∈ l, -9223372036854775808 ≤ x ∧ x ≤ 9223372036854775807) : Short l := by
  intro x hx
  have := Lib.itoa_length_le x (h x hx).1 (h x hx).2
  unfold numS
  simpa [ByteArray.size] using this
end Go.Proofs.YtbcbjefonkbjnaaDoor
