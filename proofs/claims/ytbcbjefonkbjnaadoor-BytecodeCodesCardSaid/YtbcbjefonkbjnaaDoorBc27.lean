/- BytecodeDamage: the plain law. -/
import Derived.Test.YtbcbjefonkbjnaaDoorBc23
import Derived.Laws.BitsAllLaws
namespace Go.Proofs.YtbcbjefonkbjnaaDoor
open Go Go.RowKit

/-! The length of a code. -/
theorem flat_len_take {α : Type} [Inhabited α] (l : List α) (f : α → List Int) (c : Nat) (h : ∀ a ∈ l, (f a).length ≤ c) : (l.flatMap f).length ≤ l.length * c := by
  induction l with
  | nil => simp
  | cons x l ih =>
    rw [List.flatMap_cons, List.length_append, List.length_cons, Nat.succ_mul]
    have h1 := h x (List.mem_cons_self ..)
    have h2 := ih fun a ha => h a (List.mem_cons_of_mem _ ha)
    omega
theorem sumTK_mono (l : List ByteArray) (j : Nat) : ∀ k, sumTK l j ≤ sumTK l (j + k)
  | 0 => Int.le_refl _
  | k + 1 => by
    have := sumTK_mono l j k
    have e : sumTK l (j + (k + 1)) = sumTK l (j + k) + capLen (l.getD (j + k) default) := rfl
    have : 0 ≤ capLen (l.getD (j + k) default) := by unfold capLen; omega
    omega
theorem textL_len (s : ByteArray) : (textL s).length ≤ 8 + s.size := by
  unfold textL; rw [List.length_append, bytesL_length]; have := putL_length s.size; omega
theorem texts_len (l : List ByteArray) (h : sumTK l l.length ≤ 17000) : ∀ k, k ≤ l.length → (((l.take k).flatMap textL).length : Int) ≤ 8 * k + sumTK l k
  | 0, _ => by simp [sumTK]
  | k + 1, hk => by
    have ih := texts_len l h k (by omega)
    have hm := sumTK_mono l (k + 1) (l.length - (k + 1))
    rw [show k + 1 + (l.length - (k + 1)) = l.length by omega] at hm
    have e : sumTK l (k + 1) = sumTK l k + capLen (l.getD k default) := rfl
    have h0 := (sumTK_bound l k).1
    have hc : capLen (l.getD k default) ≤ 17000 := by omega
    have hs : capLen (l.getD k default) = ((l.getD k default).size : Int) := by unfold capLen at hc ⊢; omega
    have ht := textL_len (l.getD k default)
    have et : (l.take (k + 1)).flatMap textL = (l.take k).flatMap textL ++ textL (l.getD k default) := by
      rw [List.take_succ_eq_append_getElem (by omega), List.flatMap_append]; simp [List.getD, show k < l.length by omega]
    rw [et, List.length_append]
    omega
theorem insL_len (i : Ins) : (insL i).length ≤ 24 := by
  unfold insL; simp only [List.length_append]
  have := putL_length i.op; have := putL_length i.a; have := putL_length i.b; omega
theorem funL_len (f : FunD) (h : f.code.length ≤ 60) : (funL f).length ≤ 1500 := by
  unfold funL; rw [List.length_append]
  have h1 := flat_len_take (headL f) putL 8 fun a _ => putL_length a
  have h2 := flat_len_take f.code insL 24 fun a _ => insL_len a
  have h3 : (headL f).length = 4 := rfl
  rw [h3] at h1
  omega
theorem body_len (p : ProgD) (h : greatB p = false) : (bodyL p).length ≤ 1000000 := by
  obtain ⟨h0, h1, h2, h3⟩ := great_no p h
  unfold bodyL
  simp only [List.length_append]
  have a0 := putL_length p.main
  have a1 := putL_length p.texts.length
  have a2 := putL_length p.funs.length
  have a3 := texts_len p.texts h3 p.texts.length (Nat.le_refl _)
  rw [List.take_of_length_le (Nat.le_refl _)] at a3
  have a4 := flat_len_take p.funs funL 1500 fun f hf => funL_len f (h2 f hf)
  have a5 : p.funs.length * 1500 ≤ 60 * 1500 := Nat.mul_le_mul_right _ h0
  omega

/-! A changed byte changes the sum. -/
theorem small_coprime : ∀ d : Nat, d < 256 → 0 < d → Nat.gcd 65521 d = 1 := by decide +kernel
theorem not_dvd (f d : Nat) (hf0 : 0 < f) (hf : f < 65521) (hd0 : 0 < d) (hd : d < 256) : ¬ 65521 ∣ f * d := fun h => by
  have hc : Nat.Coprime 65521 d := small_coprime d hd hd0
  have := Nat.le_of_dvd hf0 (hc.dvd_of_dvd_mul_right h)
  omega
theorem mod_ne (f : Nat) (x z : Int) (hf0 : 0 < f) (hf : f < 65521) (hx0 : 0 ≤ x) (hx : x < 256) (hz0 : 0 ≤ z) (hz : z < 256) (hne : z ≠ x) : ((f : Int) * z - f * x) % 65521 ≠ 0 := fun h => by
  have hd : (65521 : Int) ∣ (f : Int) * z - f * x := Int.dvd_of_emod_eq_zero h
  rw [← Int.mul_sub] at hd
  have hn := Int.natAbs_dvd_natAbs.2 hd
  rw [Int.natAbs_mul] at hn
  exact not_dvd f (z - x).natAbs hf0 hf (by omega) (by omega) (by simpa using hn)
theorem sumK_le (l m : List Int) (n : Nat) (h : ∀ j, j < n → l.getD j 0 = m.getD j 0) : ∀ k, k ≤ n → sumK l k = sumK m k
  | 0, _ => rfl
  | k + 1, hk => by unfold sumK; rw [sumK_le l m n h k (by omega), h k (by omega)]
theorem getD_set (l : List Int) (i j : Nat) (z : Int) : (l.set i z).getD j 0 = if i = j ∧ i < l.length then z else l.getD j 0 := by
  simp only [List.getD_eq_getElem?_getD, List.getElem?_set]
  by_cases h : i = j
  · subst h
    by_cases h2 : i < l.length <;> simp [h2]
  · simp [h]
theorem sumK_changed (l : List Int) (i : Nat) (z : Int) (hi : i < l.length) (hi2 : i < 60000) : ∀ k, i < k → (sumK (l.set i z) k - sumK l k - (((i + 1 : Nat) : Int) * z - ((i + 1 : Nat) : Int) * l.getD i 0)) % 65521 = 0
  | 0, h => by omega
  | k + 1, h => by
    unfold sumK
    by_cases hk : i = k
    · subst hk
      have e := sumK_le (l.set i z) l i (fun j hj => by rw [getD_set, if_neg (by omega)]) i (Nat.le_refl _)
      rw [e, getD_set, if_pos ⟨rfl, hi⟩]
      have ei : ((i : Int) + 1) % 65521 = ((i + 1 : Nat) : Int) := by omega
      rw [ei]
      generalize ((i + 1 : Nat) : Int) * z = a
      generalize ((i + 1 : Nat) : Int) * l.getD i 0 = b
      generalize sumK l i = s
      omega
    · have ih := sumK_changed l i z hi hi2 k (by omega)
      rw [getD_set, if_neg (by omega)]
      generalize ((k : Int) + 1) % 65521 * l.getD k 0 = c
      generalize (((i + 1 : Nat) : Int) * z - ((i + 1 : Nat) : Int) * l.getD i 0) = e at ih ⊢
      generalize sumK (l.set i z) k = s at ih ⊢
      generalize sumK l k = t at ih ⊢
      omega
theorem sumK_differs (l : List Int) (i : Nat) (z : Int) (k : Nat) (hi : i < l.length) (hi2 : i < 60000) (hk : i < k) (hb : AreBytes l) (hz0 : 0 ≤ z) (hz : z < 256) (hne : z ≠ l.getD i 0) : sumK (l.set i z) k ≠ sumK l k := fun h => by
  have h1 := sumK_changed l i z hi hi2 k hk
  rw [h] at h1
  obtain ⟨x0, x1⟩ := hb.at i hi
  have h2 := mod_ne (i + 1) (l.getD i 0) z (by omega) (by omega) x0 x1 hz0 hz hne
  generalize ((i + 1 : Nat) : Int) * z = a at h1 h2
  generalize ((i + 1 : Nat) : Int) * l.getD i 0 = b at h1 h2
  omega
/-- The sum of a changed code is not the one that stands behind it. -/
theorem damage_law (body : List Int) (hb : AreBytes body) (hl : body.length ≤ 19998) (i : Nat) (hi : i < body.length + 2) (z : Int) (hz0 : 0 ≤ z) (hz : z < 256)
    (E : List Int) (hE : E = body ++ [sumK body body.length / 256, sumK body body.length % 256]) (hne : z ≠ E.getD i 0) :
    sumK (E.set i z) body.length ≠ (E.set i z).getD body.length 0 * 256 + (E.set i z).getD (body.length + 1) 0 := by
  obtain ⟨s0, s1⟩ := sumK_lt body body.length
  have hEl : E.length = body.length + 2 := by rw [hE]; simp
  have hsame : ∀ j, j < body.length → E.getD j 0 = body.getD j 0 := fun j hj => by
    rw [hE]; simp only [List.getD_eq_getElem?_getD, List.getElem?_append_left hj]
  have hg0 : E.getD body.length 0 = sumK body body.length / 256 := by rw [hE]; simp [List.getD]
  have hg1 : E.getD (body.length + 1) 0 = sumK body body.length % 256 := by rw [hE]; simp [List.getD]
  have hEs : sumK E body.length = sumK body body.length := sumK_le E body body.length hsame _ (Nat.le_refl _)
  have hEb : AreBytes E := by
    rw [hE]
    refine hb.append fun x hx => ?_
    simp only [List.mem_cons, List.not_mem_nil, or_false] at hx
    rcases hx with rfl | rfl <;> omega
  rw [getD_set, getD_set]
  by_cases h1 : i < body.length
  · rw [if_neg (by omega), if_neg (by omega), hg0, hg1]
    have hd := sumK_differs E i z body.length (by omega) (by omega) h1 hEb hz0 hz hne
    rw [hEs] at hd
    intro h
    apply hd
    rw [h]
    omega
  · have hs2 : sumK (E.set i z) body.length = sumK body body.length := by
      rw [← hEs]
      exact sumK_le _ _ body.length (fun j hj => by rw [getD_set, if_neg (by omega)]) _ (Nat.le_refl _)
    rw [hs2]
    by_cases h2 : i = body.length
    · subst h2
      rw [hg0] at hne
      rw [if_pos ⟨rfl, by omega⟩, if_neg (by omega), hg1]
      omega
    · have h3 : i = body.length + 1 := by omega
      subst h3
      rw [hg1] at hne
      rw [if_neg (by omega), if_pos ⟨rfl, by omega⟩, hg0]
      omega
theorem xor_ne (x b : Int) (hx0 : 0 ≤ x) (hx : x < 256) (hb0 : 0 ≤ b) (hb : b < 256) (hb1 : b ≠ 0) : 0 ≤ bits .xor .u8 x b ∧ bits .xor .u8 x b < 256 ∧ bits .xor .u8 x b ≠ x := by
  rw [u8_xor x b hx0 hx hb0 hb]
  have h1 : x.toNat ^^^ b.toNat < 2 ^ 8 := Nat.xor_lt_two_pow (by omega) (by omega)
  refine ⟨by omega, by omega, fun h => ?_⟩
  have h2 : x.toNat ^^^ b.toNat = x.toNat := by omega
  have h3 : x.toNat ^^^ (x.toNat ^^^ b.toNat) = x.toNat ^^^ x.toNat := by rw [h2]
  rw [← Nat.xor_assoc, Nat.xor_self, Nat.zero_xor] at h3
  omega
end Go.Proofs.YtbcbjefonkbjnaaDoor
