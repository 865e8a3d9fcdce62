/- Part of the proof; its texts: Cv0 Ez2. -/
import Derived.Test.YtbcfdebdikgijaaGreatDoorS17
set_option maxRecDepth 100000
set_option linter.unusedVariables false
set_option linter.unusedSimpArgs false
namespace Go.Proofs.YtbcfdebdikgijaaGreatDoor
open Go Go.RowKit
open Go.Maps
theorem qj {acc : List ByteArray} {s x : ByteArray} (h : s ∈ acc) : s ∈ U0 acc x := by
 unfold U0; split
 ·exact h
 ·exact List.mem_append_left _ h
theorem uE (acc : List ByteArray) (x : ByteArray) : x ∈ U0 acc x := by
 unfold U0
 split
 ·rename_i h
  cases hf : X5 acc x with
  | none => rw [hf] at h; cases h
  | some i =>
    obtain ⟨h1, h2, _⟩ := Uo hf; rw [<- h2, show acc.getD i default = acc[i] by simp [List.getD, h1]]; exact List.getElem_mem h1
 ·exact List.mem_append_right _ (by simp)
theorem Ny {l : List ByteArray} {s : ByteArray} (h : s ∈ l) : s ∈ dedup l := by
 have : ∀ (l acc : List ByteArray), s ∈ acc \/ s ∈ l -> s ∈ l.foldl U0 acc := fun l => by
  induction l with
  | nil => intro acc h; rcases h with h | h; exact h; cases h
  | cons x r ih =>
    intro acc h; rw [List.foldl_cons]; rcases h with h | h
    ·exact ih _ (.inl (qj h))
    ·rcases List.mem_cons.1 h with rfl | h
     ·exact ih _ (.inl (uE acc _))
     ·exact ih _ (.inr h)
 exact this l [] (.inr h)
theorem JJ (l : List ByteArray) (p : ByteArray -> Bool) : (dedup l).any p = l.any p := by
 rw [Bool.eq_iff_iff, List.any_eq_true, List.any_eq_true]
 exact ⟨fun ⟨s, hs, hp⟩ => ⟨s, NA hs, hp⟩, fun ⟨s, hs, hp⟩ => ⟨s, Ny hs, hp⟩⟩
theorem uD {ts : List ByteArray} {s : ByteArray} (h : s ∈ ts) : 0 <= Ux ts s /\ Ux ts s < ts.length := by
 unfold Ux
 cases hf : X5 ts s with
 | none => exact absurd h (Uq.1 hf)
 | some i => have := (Uo hf).1; simp; omega
theorem JI : ∀ (l : List Z0) (m a b : Int) (i : Nat), i < l.length -> Xm (if 0 < i then b else a) (l.getD i default) <= SB m a b l
 | [], _, _, _, _, h => by simp at h
 | x :: r, m, a, b, 0, _ => by
   rw [Ut]; have := Ml r (max m (Xm a x)) b b; have h : Xm (if 0 < 0 then b else a) ((x :: r).getD 0 default) = Xm a x := rfl; rw [h]; omega
 | x :: r, m, a, b, i + 1, h => by
   rw [Ut]; have := JI r (max m (Xm a x)) b b i (by simpa using h); have h2 : Xm (if 0 < i + 1 then b else a) ((x :: r).getD (i + 1) default) = Xm (if 0 < i then b else b) (r.getD i default) := by
    rw [ZY (by omega)]; simp
   rw [h2]; exact this
theorem Fa (loc op n : Int) (s : ByteArray) (v : Value) (l : List Z0) (i : Nat) (h : i < l.length) : Xm (lo op loc i) (l.getD i default) <= Xm loc (.mk op n s v l) := by
 rw [Mq]
 exact JI l _ _ _ i h
section
variable {C : List Ins} {T : ByteArray -> Int} {nt : Nat} {fl : List ZJ} {fs : List WU} {caps L : Int}
def Rt (nt : Nat) (fs : List WU) (caps L : Int) (C : List Ins) (k : Nat) : Prop := Zo nt fs caps L C k (C.getD k default) = true
def uz (C : List Ins) (T : ByteArray -> Int) (nt : Nat) (fl : List ZJ) (fs : List WU) (caps L : Int) (x : Z0) : Prop :=
 ∀ (loc : Int) (p : Nat), ZI caps (YM fl) loc x = true -> YL C T loc x p -> p + ZU x < C.length -> 0 <= loc -> Xm loc x <= L -> (∀ s ∈ YK x, 0 <= T s /\ T s < nt) -> ∀ k, p <= k -> k < p + ZU x -> Rt nt fs caps L C k
theorem AA (loc : Int) : ∀ (l : List Z0) (p : Nat), (∀ y ∈ l, uz C T nt fl fs caps L y) -> (∀ y ∈ l, ZI caps (YM fl) loc y = true /\ Xm loc y <= L) -> Wy C T loc l p -> p + ZC l < C.length -> 0 <= loc -> (∀ s ∈ YW l, 0 <= T s /\ T s < nt) -> ∀ k, p <= k -> k < p + ZC l -> Rt nt fs caps L C k
 | [], p, _, _, _, _, _, _, k, h1, h2 => by rw [Yi] at h2; omega
 | x :: r, p, ih, hf, hc, hl, h0, ht, k, h1, h2 => by
   rw [VZ] at hc; rw [Zm] at hl h2; rw [YZ] at ht; by_cases hk : k < p + ZU x
   ·exact ih x (by simp) loc p (hf x (by simp)).1 hc.1 (by omega) h0 (hf x (by simp)).2 (fun s hs => ht s (List.mem_append_left _ hs)) k h1 hk
   ·exact AA loc r _ (fun y hy => ih y (by simp [hy])) (fun y hy => hf y (by simp [hy])) hc.2 (by omega) h0 (fun s hs => ht s (List.mem_append_right _ hs)) k (by omega) (by omega)
theorem Az {k p : Nat} (h : C[k]? = some ⟨14, (p : Int), 0⟩) (hp : p < C.length) : Rt nt fs caps L C k := by
 unfold Rt
 rw [UU h]
 unfold Zo
 have h1 : Y7 (p : Int) 0 ((C.length : Int) - 1) = true := by unfold Y7; simp; omega
 have h2 : Zb 14 = true := by decide
 simp [h2, Y8, h1]
theorem Ay (loc : Int) (e : Nat) (he : e < C.length) (h0 : 0 <= loc) : ∀ (l : List Z0) (tab p : Nat), (∀ y ∈ l, uz C T nt fl fs caps L y) -> (∀ y ∈ l, ZI caps (YM fl) loc y = true /\ Xm loc y <= L) -> Tz C T loc l tab p e -> p + ZC l + (l.length - 1) <= e -> (∀ s ∈ YW l, 0 <= T s /\ T s < nt) ->
 (∀ k, tab <= k -> k < tab + l.length -> Rt nt fs caps L C k /\ (C.getD k default).op = 14) /\ (∀ k, p <= k -> k < p + ZC l + (l.length - 1) -> Rt nt fs caps L C k)
 | [], tab, p, _, _, _, _, _ => ⟨fun k h1 h2 => by simp at h2; omega, fun k h1 h2 => by rw [Yi] at h2; simp at h2; omega⟩
 | x :: r, tab, p, ih, hf, hc, hp, ht => by
   unfold Tz at hc; obtain ⟨c1, c2, c3, c4⟩ := hc; rw [Zm, List.length_cons] at hp; rw [YZ] at ht; have hx := ih x (by simp) loc p (hf x (by simp)).1 c2 (by omega) h0 (hf x (by simp)).2 (fun s hs => ht s (List.mem_append_left _ hs)); have htab : Rt nt fs caps L C tab /\ (C.getD tab default).op = 14 := ⟨Az c1 (by omega), by rw [UU c1]⟩; by_cases hr : r = []
   ·subst hr
    refine ⟨fun k h1 h2 => ?_, fun k h1 h2 => ?_⟩
    ·have : k = tab := by simp at h2; omega
     subst this; exact htab
    ·rw [Zm, Yi] at h2
     exact hx k h1 (by simp at h2; omega)
   ·have hrl := List.length_pos_iff.2 hr
    obtain ⟨b1, b2⟩ := Ay loc e he h0 r (tab + 1) (p + ZU x + 1) (fun y hy => ih y (by simp [hy])) (fun y hy => hf y (by simp [hy])) c4 (by omega) (fun s hs => ht s (List.mem_append_right _ hs)); refine ⟨fun k h1 h2 => ?_, fun k h1 h2 => ?_⟩
    ·by_cases hk : k = tab
     ·subst hk; exact htab
     ·exact b1 k (by omega) (by rw [List.length_cons] at h2; omega)
    ·rw [Zm, List.length_cons] at h2
     by_cases hk : k < p + ZU x
     ·exact hx k h1 hk
     ·by_cases hk2 : k = p + ZU x
      ·subst hk2; exact Az (c3 hr) he
      ·exact b2 k (by omega) (by omega)
theorem Cr {loc op n : Int} {s : ByteArray} {k m : Nat} (hfs : fs.length = fl.length) (hfc : ∀ i, i < fl.length -> (fs.getD i default).c = (fl.getD i default).caps) (hf : Zy caps (YM fl) loc op n s k = true) (h9 : op ≠ 9) (h11 : op ≠ 11) (hL : loc <= L) (ht : op = 3 -> 0 <= T s /\ T s < nt) : Zo nt fs caps L C m (UW T op n s k) = true := by
 have k1 : Zb 1 = true := by decide
 have k2 : Zb 2 = true := by decide
 have k3 : Zb 3 = true := by decide
 have k5 : Zb 5 = true := by decide
 have k6 : Zb 6 = true := by decide
 have k7 : Zb 7 = true := by decide
 have k8 : Zb 8 = true := by decide
 have k10 : Zb 10 = true := by decide
 have k11 : Zb 11 = true := by decide
 have k12 : Zb 12 = true := by decide
 have k15 : Zb 15 = true := by decide
 have k16 : Zb 16 = true := by decide
 rcases Td hf with rfl | rfl | rfl | rfl | rfl | rfl | rfl | rfl | rfl | rfl | rfl | rfl | rfl | rfl
 ·have h := (NS hf).1
  simp at h
  show Zo nt fs caps L C m ⟨1, n, 0⟩ = true
  unfold Zo; simp [k1, Y8, h.2]
 ·have h := ht rfl
  show Zo nt fs caps L C m ⟨2, T s, 0⟩ = true
  have h2 : Y7 (T s) 0 ((nt : Int) - 1) = true := by unfold Y7; simp; omega
  unfold Zo; simp [k2, Y8, h2]
 ·have h := (Jj hf).1
  simp at h
  show Zo nt fs caps L C m ⟨10, k, 0⟩ = true
  have h2 : Y7 (k : Int) 0 1000 = true := by unfold Y7; simp; omega
  unfold Zo; simp [k10, Y8, h2]
 ·have h := (L9 hf).1
  simp at h
  show Zo nt fs caps L C m ⟨11, n, 0⟩ = true
  unfold Zo; simp [k11, Y8, h.2]
 ·have h := (L8 hf).1
  simp at h
  show Zo nt fs caps L C m ⟨12, n, 0⟩ = true
  unfold Zo; simp [k12, Y8, h.2]
 ·exact absurd rfl h9
 ·exact absurd rfl h11
 ·have h := (Mw hf).1
  simp at h
  show Zo nt fs caps L C m ⟨15, n, 0⟩ = true
  unfold Zo; simp [k15, Y8, h.1]
 ·have h := (O4 hf).1
  simp at h
  show Zo nt fs caps L C m ⟨16, n, 0⟩ = true
  unfold Zo; simp [k16, Y8, h.2]
 ·have h := (Qw hf).1
  simp at h
  show Zo nt fs caps L C m ⟨3, n, 0⟩ = true
  have h2 : Y7 n 0 (L - 1) = true := by have := h.2; unfold Y7 at this ⊢; simp at this ⊢; omega
  unfold Zo; simp [k3, Y8, h2]
 ·show Zo nt fs caps L C m ⟨6, 0, 0⟩ = true
  unfold Zo; simp [k6, Y8]
 ·have h := (Qv hf).1
  simp at h
  show Zo nt fs caps L C m ⟨5, n, 0⟩ = true
  unfold Zo; simp [k5, Y8, h.2]
 ·have h := (Qu hf).1
  rw [Bool.and_eq_true] at h; have hc := h.2; unfold YM at hc; rw [Bool.and_eq_true] at hc; obtain ⟨hc1, hc2⟩ := hc
  show Zo nt fs caps L C m ⟨7, n, k⟩ = true
  have h1 : Y7 n 0 ((fs.length : Int) - 1) = true := by rw [hfs]; exact hc1
  have hn : n.toNat < fl.length := by unfold Y7 at hc1; simp at hc1; omega
  have h2 : (k : Int) = (fs.getD n.toNat default).c := by rw [hfc _ hn]; exact (of_decide_eq_true hc2).symm
  have h3 : decide ((k : Int) = (fs.getD n.toNat default).c) = true := decide_eq_true h2; unfold Zo; rw [Z7 (by rw [k7]; decide), Z7 (by simp [Y8]), Z7 (by simp), Z7 (by simp), Z7 (by simp), Z7 (by simp), ZY rfl, h1, h3]; rfl
 ·show Zo nt fs caps L C m ⟨8, 0, 0⟩ = true
  unfold Zo; simp [k8, Y8]
theorem E9 {loc : Int} {m : Nat} (h0 : 0 <= loc) (hL : loc + 1 <= L) : Zo nt fs caps L C m ⟨4, loc, 0⟩ = true := by
 have k4 : Zb 4 = true := by decide
 have h2 : Y7 loc 0 (L - 1) = true := by unfold Y7; simp; omega
 unfold Zo; simp [k4, Y8, h2]
theorem Ip {loc : Int} {m n : Nat} (h0 : 0 <= loc) (hL : loc + 1 <= L) (hn0 : 1 <= n) (hn1 : n <= 1000) (hm : m + n < C.length) (ht : ∀ k, m + 1 <= k -> k < m + 1 + n -> (C.getD k default).op = 14) : Zo nt fs caps L C m ⟨13, loc, n⟩ = true := by
 have k13 : Zb 13 = true := by decide
 have h1 : Y7 loc 0 (L - 1) = true := by unfold Y7; simp; omega
 have h2 : Y7 (n : Int) 1 1000 = true := by unfold Y7; simp; omega
 have h3 : decide ((m : Int) + (n : Int) < C.length) = true := decide_eq_true (by omega)
 have h4 : ((C.drop (m + 1)).take (n : Int).toNat).all (·.op == 14) = true := by
  rw [List.all_eq_true]; intro i hi; obtain ⟨j, hj, rfl⟩ := List.mem_iff_getElem.1 hi; rw [List.length_take, List.length_drop] at hj; have := ht (m + 1 + j) (by omega) (by omega); rw [show C.getD (m + 1 + j) default = C[m + 1 + j]'(by omega) by simp [List.getD, show m + 1 + j < C.length by omega]] at this; rw [List.getElem_take, List.getElem_drop]; simpa using this
 unfold Zo
 rw [Z7 (by rw [k13]; decide), Z7 (by simp [Y8]), Z7 (by simp), Z7 (by simp), Z7 (by simp), Z7 (by simp), Z7 (by simp), Z7 (by simp), Z7 (by simp), ZY rfl, h1, h2, h3, h4]; rfl
theorem yV (hfs : fs.length = fl.length) (hfc : ∀ i, i < fl.length -> (fs.getD i default).c = (fl.getD i default).caps) (x : Z0) : uz C T nt fl fs caps L x := by
 induction x using Z0.induct with
 | h op n s lv l ih =>
   intro loc p hf hc hl h0 hL ht k h1 h2; obtain ⟨hfm, hfp⟩ := Za hf; have hpart : ∀ i, i < l.length -> Xm (lo op loc i) (l.getD i default) <= L := fun i hi => by have := Fa loc op n s lv l i hi; omega
   by_cases h11 : op = 11
   ·subst h11
    have hk := TV hfm
    match l, hk with
    | [x, y], _ =>
      unfold YL at hc; rw [ZY rfl] at hc; unfold Ru at hc; obtain ⟨c1, c2, c3⟩ := hc; rw [VZ] at c3; rw [OB] at hl h2; rw [YG, Z7 (by decide), YZ, YZ, X0, List.append_nil] at ht; have hx := hpart 0 (by simp); have hy := hpart 1 (by simp); have fx := hfp 0 (by simp); have fy := hfp 1 (by simp); change Xm (loc + 1) y <= L at hy; change Xm loc x <= L at hx; change ZI caps (YM fl) loc x = true at fx; change ZI caps (YM fl) (loc + 1) y = true at fy; have hly := Rn y (loc + 1); by_cases hk1 : k < p + ZU x
      ·exact ih x (by simp) loc p fx c1 (by omega) h0 hx (fun s hs => ht s (List.mem_append_left _ hs)) k h1 hk1
      ·by_cases hk2 : k = p + ZU x
       ·subst hk2
        unfold Rt; rw [UU c2]; exact E9 h0 (by omega)
       ·exact ih y (by simp) (loc + 1) _ fy c3.1 (by omega) (by omega) hy (fun s hs => ht s (List.mem_append_right _ hs)) k (by omega) (by omega)
   ·by_cases h9 : op = 9
    ·subst h9
     cases l with
     | nil => have := (Rs hfm).1; unfold Y7 at this; simp at this
     | cons x r =>
       have hn2 := (Rs hfm).1; unfold Y7 at hn2; simp at hn2; have hr1 : 1 <= r.length /\ r.length <= 1000 := by omega
       unfold YL at hc; rw [Z7 (by decide), ZY rfl] at hc; unfold PV at hc; obtain ⟨c1, c2, c3⟩ := hc; rw [Xx, ZY rfl, Zm, List.length_cons] at hl h2; rw [YG, Z7 (by decide), YZ] at ht; have hx := hpart 0 (by simp); have fx := hfp 0 (by simp); change Xm loc x <= L at hx; change ZI caps (YM fl) loc x = true at fx; have rz : ∀ y ∈ r, ZI caps (YM fl) (loc + 1) y = true /\ Xm (loc + 1) y <= L := fun y hy => by
        obtain ⟨i, hi, rfl⟩ := List.mem_iff_getElem.1 hy; have a1 := hfp (i + 1) (by simp; omega); have a2 := hpart (i + 1) (by simp; omega); rw [show (x :: r).getD (i + 1) default = r[i] by simp [List.getD, hi], show lo 9 loc (i + 1) = loc + 1 from by unfold lo bump; rw [ZY (by omega), ZY (by omega)]] at a1 a2; exact ⟨a1, a2⟩
       have hb := Ay (loc + 1) (p + ZU x + ZC r + 2 * r.length) (by omega) (by omega) r _ _ (fun y hy => ih y (by simp [hy])) rz c3 (by omega) (fun s hs => ht s (List.mem_append_right _ hs)); obtain ⟨y0, hy0⟩ := List.exists_mem_of_length_pos (show 0 < r.length by omega); have hlY := Rn y0 (loc + 1); have acd := (rz y0 hy0).2; by_cases hk1 : k < p + ZU x
       ·exact ih x (by simp) loc p fx c1 (by omega) h0 hx (fun s hs => ht s (List.mem_append_left _ hs)) k h1 hk1
       ·by_cases hk2 : k = p + ZU x
        ·subst hk2
         unfold Rt; rw [UU c2]; exact Ip h0 (by omega) hr1.1 hr1.2 (by omega) (fun j j1 j2 => (hb.1 j (by omega) (by omega)).2)
        ·by_cases hk3 : k < p + ZU x + 1 + r.length
         ·exact (hb.1 k (by omega) (by omega)).1
         ·exact hb.2 k (by omega) (by omega)
    ·unfold YL at hc
     rw [Z7 h11, Z7 h9] at hc; rw [Ur h9] at hl h2; have rz : ∀ y ∈ l, ZI caps (YM fl) loc y = true /\ Xm loc y <= L := fun y hy => by
      obtain ⟨i, hi, rfl⟩ := List.mem_iff_getElem.1 hy; have a1 := hfp i hi; have a2 := hpart i hi; rw [show l.getD i default = l[i] by simp [List.getD, hi], WJ h11 h9] at a1 a2; exact ⟨a1, a2⟩
     have hL2 := Rn (.mk op n s lv l) loc; by_cases hk1 : k < p + ZC l
     ·have hts : ∀ t ∈ YW l, 0 <= T t /\ T t < nt := by
       by_cases h3 : op = 3
       ·subst h3
        have := (Sd hfm).1; simp at this; rw [this.1, Yi] at hk1; omega
       ·rw [YG, Z7 h3] at ht; exact ht
      exact AA loc l p ih rz hc.1 (by omega) h0 hts k h1 hk1
     ·have hk2 : k = p + ZC l := by omega
      subst hk2; unfold Rt; rw [UU hc.2]; exact Cr hfs hfc hfm h9 h11 (by omega) (fun e => by subst e; rw [YG, ZY rfl] at ht; exact ht s (by simp))
end
theorem uy {fl : List ZJ} {f : ZJ} (hf : f ∈ fl) {s : ByteArray} (hs : s ∈ YK f.body) : s ∈ allT fl := by
 unfold allT
 have : ∀ l : List ZJ, f ∈ l -> s ∈ YW (l.map ZJ.body) := fun l => by
  induction l with
  | nil => intro h; cases h
  | cons x r ih =>
    intro h; rw [List.map_cons, YZ]; rcases List.mem_cons.1 h with rfl | h
    ·exact List.mem_append_left _ hs
    ·exact List.mem_append_right _ (ih h)
 exact this fl hf
theorem Cq {fl : List ZJ} {main : Int} {Zu : List WU} (hv : XI fl main = true) (hsz : ∀ f ∈ fl, YO f.body <= 600 /\ Y5 f.body <= 211) (hq : (allT fl).any Vm = false) (hlen : (dedup (allT fl)).length <= 1000) (hl : Zu.length = fl.length) (hf : ∀ i, i < fl.length -> Lm (dedup (allT fl)) (fl.getD i default) (Zu.getD i default)) : Wu ⟨Zu, dedup (allT fl), main⟩ = true := by
 obtain ⟨hl4, hl0, hm0, hm1, hcm, hfun⟩ := U3 hv
 have each : ∀ g ∈ Zu, ∃ f ∈ fl, Lm (dedup (allT fl)) f g := fun g hg => by
  obtain ⟨i, hi, rfl⟩ := List.mem_iff_getElem.1 hg; have := hf i (by omega); rw [show Zu.getD i default = Zu[i] by simp [List.getD, hi]] at this; exact ⟨_, Zr default fl i (by omega), this⟩
 have hcs : ∀ i, i < fl.length -> (Zu.getD i default).c = (fl.getD i default).caps := fun i hi => (hf i hi).1
 refine JM _ (by show Y7 ((Zu.length : Nat) : Int) 1 4096 = true; unfold Y7; simp; omega) hlen (by show (dedup (allT fl)).any Vm = false; rw [JJ]; exact hq) ?_ ?_ ?_
 ·rw [List.any_eq_false]
  intro g hg; obtain ⟨f, fJ, h1, h2, h3, h4⟩ := each g hg; obtain ⟨s1, s2⟩ := hsz f fJ; have Ll := hfun f fJ; have hca := FD Ll; have hfx : ZI f.caps (YM fl) 1 f.body = true := by unfold V6 at Ll; rw [Bool.and_eq_true] at Ll; exact Ll.2
  obtain ⟨_, d0, d1⟩ := L6 hfx h3 h4; have lg := Rn f.body 1; have ll := LA f.body 1; have hcl := BA f.body; have hcode := h3.2.1; unfold Vr; rw [show Ta g = true from by
   unfold Ta Y7; rw [h1, h2]; simp; omega]
  simp
 ·rw [List.any_eq_false]
  intro g hg; obtain ⟨f, fJ, h1, h2, h3, h4⟩ := each g hg; have Ll := hfun f fJ; have hfx : ZI f.caps (YM fl) 1 f.body = true := by unfold V6 at Ll; rw [Bool.and_eq_true] at Ll; exact Ll.2
  have hcode := h3.2.1; unfold Xb; rw [show Vs ⟨Zu, dedup (allT fl), main⟩ g = true from by
   unfold Vs; rw [List.all_eq_true]; intro k hk; rw [List.mem_range] at hk; rw [NQ]; by_cases hkl : k < ZU f.body
   ·have := yV (C := g.code) (T := Ux (dedup (allT fl))) (nt := (dedup (allT fl)).length) (fl := fl) (fs := Zu) (caps := g.c) (L := g.l) hl hcs f.body 1 0 (by rw [h1]; exact hfx) h3.1 (by omega) (by omega) (by rw [h2]; exact Int.le_refl _) (fun s hs => uD (Ny (uy fJ hs))) k (Nat.zero_le _) (by omega)
    exact this
   ·have hk2 : k = ZU f.body := by omega
    subst hk2; rw [UU h3.2.2]; rfl]
  simp
 ·show RX ⟨Zu, dedup (allT fl), main⟩ = true
  unfold RX; have h1 : Y7 main 0 ((Zu.length : Int) - 1) = true := by unfold Y7; simp; omega
  have h2 : (Zu.getD main.toNat default).c = 0 := by rw [hcs _ (by omega)]; exact hcm
  simp only; rw [h1, h2]; rfl
end Go.Proofs.YtbcfdebdikgijaaGreatDoor
namespace Go.Proofs.YtbcfdebdikgijaaGreatDoor
open Go Go.RowKit
section
variable (C C' : List Ins) (T T' : ByteArray -> Int) (caps : Int) (Ze : Int -> Int -> Bool)
end
end Go.Proofs.YtbcfdebdikgijaaGreatDoor
