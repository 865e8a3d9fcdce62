/- Texts of paths, and the paths of texts: PathText, the reference's PathText and ParsePath. -/
import Derived.Test.YtbjjimfdbbhjgaaDoorLaws3
namespace Go.Proofs.YtbjjimfdbbhjgaaDoor
open Go Go.RowKit

def joinD (l : List ByteArray) : List UInt8 := Lib.join (l.map fun x => x.data.toList) [46]
theorem join_snoc (xs : List (List UInt8)) (x : List UInt8) (h : xs ≠ []) : Lib.join (xs ++ [x]) [46] = Lib.join xs [46] ++ 46 :: x := by
  cases xs with
  | nil => exact absurd rfl h
  | cons y r =>
    rw [List.cons_append, Lib.join_cons, Lib.join_cons]
    simp [Lib.joinTail]
theorem joinD_first (l : List ByteArray) (h : 0 < l.length) : joinD (l.take 1) = bs (l.getD 0 ByteArray.empty) := by
  cases l with
  | nil => simp at h
  | cons x r => simp [joinD, Lib.join_one, bs]
theorem joinD_next (l : List ByteArray) (k : Nat) (h0 : 0 < k) (h : k < l.length) : joinD (l.take (k + 1)) = joinD (l.take k) ++ 46 :: bs (l.getD k ByteArray.empty) := by
  unfold joinD
  rw [List.take_succ_eq_append_getElem h, List.map_append]
  rw [List.map_cons, List.map_nil, join_snoc _ _ (by
    intro e
    have := congrArg List.length (List.map_eq_nil_iff.1 e)
    rw [List.length_take, List.length_nil] at this; omega)]
  simp [bs, h]

theorem up_size (s : ByteArray) (h : upB (bs s) = true) : s.size ≤ 24 := by
  unfold upB wordB at h
  simp only [Bool.and_eq_true, decide_eq_true_eq, bs_length] at h
  exact h.1.1.2
theorem lo_size (s : ByteArray) (h : lowB s = true) : s.size ≤ 24 := by
  unfold lowB at h; rw [nm1] at h
  unfold wordB at h
  simp only [Bool.and_eq_true, decide_eq_true_eq, bs_length] at h
  exact h.1.1.1.2
theorem path_size (l : List ByteArray) (h : pathB l = true) (k : Nat) (hk : k < l.length) : (l.getD k ByteArray.empty).size ≤ 24 := by
  unfold pathB at h
  simp only [Bool.and_eq_true, decide_eq_true_eq, Bool.or_eq_true] at h
  by_cases e : k < l.length - 1
  · have h2 := h.1.2
    unfold upsB at h2
    rw [List.all_eq_true] at h2
    refine up_size _ (h2 _ ?_)
    have hlt : k < (l.take (l.length - 1)).length := by rw [List.length_take]; omega
    have : (l.take (l.length - 1))[k] = l.getD k ByteArray.empty := by simp [List.getElem_take, hk]
    rw [← this]; exact List.getElem_mem hlt
  · obtain rfl : k = l.length - 1 := by omega
    rcases h.2 with h2 | h2
    · exact lo_size _ h2
    · exact up_size _ h2
theorem path_len (l : List ByteArray) (h : pathB l = true) : 1 ≤ l.length ∧ l.length ≤ 8 := by
  unfold pathB at h
  simp only [Bool.and_eq_true, decide_eq_true_eq] at h
  exact ⟨h.1.1.1, h.1.1.2⟩

theorem bs_add (a b : ByteArray) : bs (a ++ b) = bs a ++ bs b := by simp [bs]
theorem of_bs (t : ByteArray) (l : List UInt8) (h : bs t = l) : Value.string t = st l := by
  unfold st; rw [← h]; rfl

def TextSlot (l : List ByteArray) (k : Nat) (v : Value) : Prop := ∃ t : ByteArray, v = .string t ∧ bs t = joinD (l.take k) ∧ t.size ≤ 25 * k
theorem rPathText_any (v : Value) (l : List ByteArray) (w : World) (h : IsStrs w v l) (hp : pathB l = true) :
    Calls Tryd.prog 34 #[v] w fun e w' => e = .returned (st (joinD l)) ∧ w = w' := by
  obtain ⟨h1, h8⟩ := path_len l hp
  have Hsz : Hid (∀ k, k < l.length → (l.getD k ByteArray.empty).size ≤ 24) := fun k hk => path_size l hp k hk
  obtain ⟨a, c, rfl, hlc, hcell⟩ := h
  obtain ⟨b, off, rfl, hlt, hc⟩ := hcell (by intro h; rw [h] at h1; simp at h1)
  have Hc := Lib.hid hc
  clear hcell hc hp
  go_enter Tryd.func34, Tryd.ntmps34
  go_wp2_with fail
  go_loop [3, 4] (fun t i => ∃ k : Nat, k ≤ l.length ∧ i = .int .i64 k ∧ TextSlot l k t) (fun _ i => l.length - (intOf i).toNat)
  case atStart => exact ⟨0, Nat.zero_le _, rfl, ⟨#[]⟩, rfl, rfl, by decide⟩
  case round =>
    obtain ⟨k, hk, rfl, t, rfl, ht, hts⟩ := hrel
    have Ht := Lib.hid ht
    clear ht
    by_cases hkl : k < l.length
    · have hc := Hc.out k hkl
      have hx := Hsz.out k hkl
      have Hf := Lib.hid (joinD_first l (by omega))
      have Hn : Hid (0 < k → joinD (l.take (k + 1)) = joinD (l.take k) ++ 46 :: bs (l.getD k ByteArray.empty)) := fun h => joinD_next l k h hkl
      by_cases hk0 : k = 0
      · subst hk0
        rw [Nat.add_zero] at hc
        generalize l.getD 0 ByteArray.empty = x at *
        have hb1 : ¬ 9223372036854775807 < t.size + x.size := by omega
        go_wp2_with fail
        go_round
        case rel =>
          refine ⟨1, by omega, by go_num, t ++ x, rfl, ?_, by simp; omega⟩
          have h0 : bs t = [] := by rw [Ht.out]; rfl
          rw [bs_add, h0, Hf.out]; rfl
        case measure => simp [intOf]; omega
      · have hk1 : 0 < k := by omega
        generalize l.getD k ByteArray.empty = x at *
        have hb0 : ¬ 9223372036854775807 < t.size + 1 := by omega
        have hb1 : ¬ 9223372036854775807 < t.size + 1 + x.size := by omega
        go_wp2_with fail
        go_round
        case rel =>
          refine ⟨k + 1, by omega, by go_num, t ++ ⟨#[46]⟩ ++ x, rfl, ?_, by rw [ByteArray.size_append, ByteArray.size_append]; show t.size + 1 + x.size ≤ _; omega⟩
          rw [bs_add, bs_add, Ht.out, Hn.out hk1]
          simp [bs]
        case measure => simp [intOf]; omega
    · go_wp2_with fail
      go_ret
      refine ⟨?_, rfl⟩
      have : k = l.length := by omega
      subst this
      have := Ht.out
      rw [List.take_length] at this
      rw [← of_bs t _ this]
      rfl

def ptS (l : List ByteArray) : List UInt8 := if pathB l then joinD l else []
def ptE (l : List ByteArray) : Int := if pathB l then 0 else 1
theorem joinD_len (l : List ByteArray) (hp : pathB l = true) : (joinD l).length ≤ 25 * l.length := by
  have key : ∀ k, 0 < k → k ≤ l.length → (joinD (l.take k)).length ≤ 25 * k := by
    intro k
    induction k with
    | zero => intro h; omega
    | succ k ih =>
      intro _ hk
      have hx := path_size l hp k (by omega)
      by_cases h0 : k = 0
      · subst h0
        rw [joinD_first l (by omega), bs_length]; omega
      · rw [joinD_next l k (by omega) (by omega), List.length_append, List.length_cons, bs_length]
        have := ih (by omega) (by omega)
        omega
  have := key l.length (by have := path_len l hp; omega) (Nat.le_refl _)
  rwa [List.take_length] at this

theorem pathText_any (v : Value) (l : List ByteArray) (w : World) (h : IsStrs w v l) (hE : Env w) (hsz : ∀ x ∈ l, x.size ≤ 1000) (hl : l.length ≤ 1000000) :
    Calls Tryd.prog 31 #[v] w fun e w' => e = .returned (.tuple #[st (ptS l), .int .i64 (ptE l)]) ∧ Below w.heap.size w w' := by
  obtain ⟨bb, hbb⟩ : ∃ bb, pathB l = bb := ⟨_, rfl⟩
  have Hbb := Lib.hid hbb
  clear hbb
  go_enter Tryd.func31, Tryd.ntmps31
  go_wp2_with fail
  refine (path_any _ l _ h hE hsz hl).mono ?_
  rintro e w1 ⟨rfl, hb⟩
  rw [Hbb.out]
  have h1 := h.below hb
  cases bb
  · go_wp2_with fail
    go_ret2
    refine ⟨?_, hb⟩
    unfold ptS ptE; rw [Hbb.out]; rfl
  · obtain ⟨a, c, rfl, hlc, hcell⟩ := h1
    obtain ⟨hp1, hp8⟩ := path_len l Hbb.out
    obtain ⟨b, off, rfl, hlt, hc⟩ := hcell (by intro h; rw [h] at hp1; simp at hp1)
    have hjl := joinD_len l Hbb.out
    have HJ := Lib.hid (Tryd.strings_Join b off c l ⟨#[46]⟩ w1 (fun j x hx => by
      obtain ⟨hj, rfl⟩ := List.getElem?_eq_some_iff.1 hx
      rw [hc j hj]; simp [hj]) hlt (by omega) hlc (by show (joinD l).length ≤ _; omega))
    clear hcell hc h hsz
    go_wp2_with fail
    refine HJ.out.mono ?_
    rintro e w2 ⟨rfl, hb2⟩
    have hB : Below w.heap.size w w2 := hb.trans (hb2.mono hb.size)
    go_wp2_with fail
    go_ret2
    refine ⟨?_, hB⟩
    unfold ptS ptE st; rw [Hbb.out]; rfl

/-- What holds while the reference cuts a text: done so far, and what is left of it. -/
def CutInv (s : ByteArray) (k lst : Nat) (done : List ByteArray) : Prop :=
  (k ≤ s.size ∧ lst ≤ k ∧ (∀ j, lst ≤ j → j < k → (bs s).getD j 0 ≠ 46) ∧ done.map (fun x => x.data.toList) ++ spl 46 ((bs s).drop lst) = spl 46 (bs s)) ∨
  (k = s.size + 1 ∧ done.map (fun x => x.data.toList) = spl 46 (bs s))
theorem cut_start (s : ByteArray) : CutInv s 0 0 [] := .inl ⟨Nat.zero_le _, Nat.le_refl _, fun j _ h => absurd h (Nat.not_lt_zero _), rfl⟩
theorem no_point (s : ByteArray) (lst k : Nat) (hk : k ≤ s.size) (h : ∀ j, lst ≤ j → j < k → (bs s).getD j 0 ≠ 46) : (46 : UInt8) ∉ ((bs s).drop lst).take (k - lst) := by
  intro hm
  obtain ⟨i, hi, he⟩ := List.mem_iff_getElem.1 hm
  have hi2 : i < k - lst := by have := hi; rw [List.length_take] at this; omega
  have := h (lst + i) (by omega) (by omega)
  apply this
  have hlen := bs_length s
  rw [← he]
  simp [List.getElem_take, List.getElem_drop, List.getD, show lst + i < (bs s).length by omega]
theorem piece (s : ByteArray) (a b : Nat) : (s.extract a b).data.toList = ((bs s).drop a).take (b - a) := Lib.extract_data s a b
theorem cut_hit (s : ByteArray) (k lst : Nat) (done : List ByteArray) (h : CutInv s k lst done) (hk : k < s.size) (hp : (bs s).getD k 0 = 46) : CutInv s (k + 1) (k + 1) (done ++ [s.extract lst k]) := by
  rcases h with ⟨_, h2, h3, h4⟩ | ⟨h1, _⟩
  · refine .inl ⟨by omega, Nat.le_refl _, fun j h1 h2 => absurd h2 (by omega), ?_⟩
    rw [← h4, List.map_append, List.map_cons, List.map_nil, List.append_assoc]
    congr 1
    have hlen := bs_length s
    have e : (bs s).drop lst = ((bs s).drop lst).take (k - lst) ++ 46 :: (bs s).drop (k + 1) := by
      conv => lhs; rw [← List.take_append_drop (k - lst) ((bs s).drop lst)]
      congr 1
      rw [List.drop_drop, show lst + (k - lst) = k by omega, List.drop_eq_getElem_cons (by omega)]
      congr 1
      rw [← hp]; simp [List.getD, show k < (bs s).length by omega]
    rw [e, spl_hit 46 _ _ (no_point s lst k (by omega) h3), piece]
    rfl
  · omega
theorem cut_skip (s : ByteArray) (k lst : Nat) (done : List ByteArray) (h : CutInv s k lst done) (hk : k < s.size) (hp : (bs s).getD k 0 ≠ 46) : CutInv s (k + 1) lst done := by
  rcases h with ⟨_, h2, h3, h4⟩ | ⟨h1, _⟩
  · refine .inl ⟨by omega, by omega, fun j h1 h2 => ?_, h4⟩
    by_cases e : j = k
    · rw [e]; exact hp
    · exact h3 j h1 (by omega)
  · omega
theorem cut_end (s : ByteArray) (lst : Nat) (done : List ByteArray) (h : CutInv s s.size lst done) : CutInv s (s.size + 1) (s.size + 1) (done ++ [s.extract lst s.size]) := by
  rcases h with ⟨_, h2, h3, h4⟩ | ⟨h1, _⟩
  · refine .inr ⟨rfl, ?_⟩
    have hn := no_point s lst s.size (Nat.le_refl _) h3
    have hlen := bs_length s
    have e : ((bs s).drop lst).take (s.size - lst) = (bs s).drop lst := List.take_of_length_le (by rw [List.length_drop]; omega)
    rw [e] at hn
    rw [← h4, List.map_append, List.map_cons, List.map_nil, piece, e, spl_none 46 _ hn]
  · omega
theorem cut_le (s : ByteArray) (k lst : Nat) (done : List ByteArray) (h : CutInv s k lst done) (hk : k ≤ s.size) : lst ≤ k := by
  rcases h with ⟨_, h2, _⟩ | ⟨h1, _⟩
  · exact h2
  · omega
theorem map_data_inj : ∀ (a b : List ByteArray), a.map (fun x => x.data.toList) = b.map (fun x => x.data.toList) → a = b
  | [], [], _ => rfl
  | [], y :: b, h => by simp at h
  | x :: a, [], h => by simp at h
  | x :: a, y :: b, h => by
    simp only [List.map_cons, List.cons.injEq] at h
    have e : x = y := by
      cases x; cases y
      simp only [ByteArray.mk.injEq]
      exact Array.toList_inj.1 h.1
    rw [e, map_data_inj a b h.2]
theorem cut_done (s : ByteArray) (lst : Nat) (done : List ByteArray) (h : CutInv s (s.size + 1) lst done) : done = splL s := by
  rcases h with ⟨h1, _⟩ | ⟨_, h2⟩
  · omega
  · exact map_data_inj _ _ (h2.trans (splL_data s).symm)

theorem isStrs_owns {w : World} {base : Nat} {v : Value} {l : List ByteArray} (h : w.ownsRow base 9 1 v l.length (l.map Value.string)) : IsStrs w v l := by
  obtain ⟨h1, h2⟩ := h
  rcases h2 with ⟨rfl, h0⟩ | ⟨g, cap, cur, rfl, hg, hh, hn, hm, hsz, htk⟩
  · have : l = [] := List.length_eq_zero_iff.1 h0
    subst this
    exact isStrs_nil w
  · refine ⟨_, cap, rfl, hn, fun _ => ⟨g, 0, rfl, ?_, fun j hj => ?_⟩⟩
    · rcases Nat.lt_or_ge g w.heap.size with h' | h'
      · exact h'
      · rw [Array.getElem?_eq_none h'] at hh; cases hh
    · rw [Nat.mul_one] at htk hsz
      have e1 : cur.toList[j]? = some (Value.string (l.getD j ByteArray.empty)) := by
        have : (cur.toList.take l.length)[j]? = (l.map Value.string)[j]? := by rw [htk]
        rw [List.getElem?_take, if_pos hj] at this
        rw [this]; simp [hj]
      simp only [World.cell?, hh, Nat.zero_add]
      simpa using e1

theorem own_ge {w : World} {base : Nat} {e : TypeId} {size : Nat} {v : Value} {n : Nat} {xs : List Value} (h : w.ownsRow base e size v n xs) {g : Nat} (hg : v.ownBlock = some g) : base ≤ g := by
  obtain ⟨_, h2⟩ := h
  rcases h2 with ⟨rfl, _⟩ | ⟨g', cap, cur, rfl, hb, _⟩
  · cases hg
  · cases hg; exact hb
theorem info_str : (Tryd.prog.info? 9).map (fun i => (i.zero, i.size, i.bytes)) = some (some (.string ByteArray.empty), 1, 16) := by kernel_rfl

def RppOk (s : ByteArray) (w : World) (e : Ending) (w' : World) : Prop := ∃ v, e = .returned (.tuple #[v, .bool (pathB (splL s))]) ∧ IsStrs w' v (ppL s) ∧ Below w.heap.size w w'
def CutSlots (s : ByteArray) (B : Nat) (w : World) (v lv iv : Value) (wr : World) : Prop :=
  ∃ (k lst : Nat) (done : List ByteArray), iv = .int .i64 k ∧ lv = .int .i64 lst ∧ k ≤ s.size + 1 ∧ lst ≤ s.size + 1 ∧ done.length ≤ k ∧ wr.ownsRow B 9 1 v done.length (done.map Value.string) ∧ Below B w wr ∧ CutInv s k lst done
theorem cutSlots_mk {s : ByteArray} {B : Nat} {w : World} {v : Value} {wr : World} (k lst : Nat) (done : List ByteArray) (h1 : k ≤ s.size + 1) (h2 : lst ≤ s.size + 1) (h3 : done.length ≤ k)
    (h4 : wr.ownsRow B 9 1 v done.length (done.map Value.string)) (h5 : Below B w wr) (h6 : CutInv s k lst done) : CutSlots s B w v (.int .i64 lst) (.int .i64 k) wr :=
  ⟨k, lst, done, rfl, rfl, h1, h2, h3, h4, h5, h6⟩

set_option maxHeartbeats 1000000 in
set_option maxRecDepth 100000 in
theorem rParsePath_any (s : ByteArray) (w : World) (hs : s.size ≤ 1000) :
    Calls Tryd.prog 32 #[.string s] w (RppOk s w) := by
  obtain ⟨i0, hi, hz0, hz1, hz2⟩ := info_parts info_str
  go_enter Tryd.func32, Tryd.ntmps32
  go_wp2_with fail
  go_loopw [4, 5, 6] (fun v lv iv wr => CutSlots s w.heap.size w v lv iv wr) (fun _ _ iv _ => s.size + 2 - (intOf iv).toNat)
  case atStart => exact cutSlots_mk 0 0 [] (by omega) (by omega) (Nat.le_refl _) ⟨rfl, .inl ⟨rfl, rfl⟩⟩ (Below.refl _ _) (cut_start s)
  case round =>
    obtain ⟨k, lst, done, rfl, rfl, hk, hlst, hdl, hown, hbr, hinv⟩ := hrel
    have Hinv := Lib.hid hinv
    have Hown := Lib.hid hown
    clear hinv hown
    by_cases hks : k ≤ s.size
    · have hle := cut_le s k lst done Hinv.out hks
      by_cases hke : k = s.size
      · have hq : ((k : Int) == (s.size : Int)) = true := by rw [hke]; simp
        have Hke := Lib.hid hke
        clear hke
        go_wp2_with (at_builtin; refine wpList_append_own _ rfl _ _ 33 rfl w.heap.size 9 i0 (.string ByteArray.empty) 1 16 Tryd.underlying33 hi hz0 hz1 hz2 rfl (by decide) _ done.length (done.map Value.string) rfl (Hown.out.alloc _) ⟨wr.heap.size, 0, none⟩ 1 1 [.string (s.extract lst k)] rfl rfl ?c1 ?c2 ?c3 ?c4 ?c5 ?_)
        case c1 => exact cell_one_new _ _ _
        case c2 => intro u hu; simp at hu; subst hu; rfl
        case c3 => unfold maxLen; omega
        case c4 => omega
        case c5 => have := hbr.size; simp; omega
        intro v' w1 hown1 hgrow1 _
        have hb1 : Below w.heap.size w w1 := (hbr.alloc hbr.size _).grown hgrow1 (by have := hbr.size; simp; omega) (fun g hg => own_ge Hown.out hg)
        have hown2 : Hid (w1.ownsRow w.heap.size 9 1 v' (done ++ [s.extract lst k]).length ((done ++ [s.extract lst k]).map Value.string)) := by
          show World.ownsRow _ _ _ _ _ _ _
          rw [List.length_append, List.map_append]; exact hown1
        clear hown1 hgrow1
        have hinv2 : Hid (CutInv s (k + 1) (k + 1) (done ++ [s.extract lst k])) := by
          have := Hinv.out
          rw [Hke.out] at this ⊢
          exact cut_end s lst done this
        go_wp2_with fail
        go_roundw
        case rel => exact ⟨k + 1, k + 1, _, by go_num, by go_num, by omega, by omega, by simp; omega, hown2.out, hb1, hinv2.out⟩
        case measure => simp [intOf]; omega
      · have hkl : k < s.size := by omega
        have hq : ((k : Int) == (s.size : Int)) = false := by simp; omega
        by_cases hp : (s[k].toNat : Int) = 46
        · have hp2 : ((s[k].toNat : Int) == 46) = true := by rw [hp]; rfl
          have hinv2 : Hid (CutInv s (k + 1) (k + 1) (done ++ [s.extract lst k])) := cut_hit s k lst done Hinv.out hkl (by
            have e1 : (bs s).getD k 0 = s[k] := by simp [bs, ByteArray.getElem_eq_getElem_data, hkl]
            rw [e1]
            apply UInt8.toNat_inj.1
            show s[k].toNat = 46
            omega)
          clear hp
          go_wp2_with (at_builtin; refine wpList_append_own _ rfl _ _ 33 rfl w.heap.size 9 i0 (.string ByteArray.empty) 1 16 Tryd.underlying33 hi hz0 hz1 hz2 rfl (by decide) _ done.length (done.map Value.string) rfl (Hown.out.alloc _) ⟨wr.heap.size, 0, none⟩ 1 1 [.string (s.extract lst k)] rfl rfl ?c1 ?c2 ?c3 ?c4 ?c5 ?_)
          case c1 => exact cell_one_new _ _ _
          case c2 => intro u hu; simp at hu; subst hu; rfl
          case c3 => unfold maxLen; omega
          case c4 => omega
          case c5 => have := hbr.size; simp; omega
          intro v' w1 hown1 hgrow1 _
          have hb1 : Below w.heap.size w w1 := (hbr.alloc hbr.size _).grown hgrow1 (by have := hbr.size; simp; omega) (fun g hg => own_ge Hown.out hg)
          have hown2 : Hid (w1.ownsRow w.heap.size 9 1 v' (done ++ [s.extract lst k]).length ((done ++ [s.extract lst k]).map Value.string)) := by
            show World.ownsRow _ _ _ _ _ _ _
            rw [List.length_append, List.map_append]; exact hown1
          clear hown1 hgrow1
          go_wp2_with fail
          go_roundw
          case rel => exact ⟨k + 1, k + 1, _, by go_num, by go_num, by omega, by omega, by simp; omega, hown2.out, hb1, hinv2.out⟩
          case measure => simp [intOf]; omega
        · have hp2 : ((s[k].toNat : Int) == 46) = false := by simpa using hp
          have hinv2 : Hid (CutInv s (k + 1) lst done) := cut_skip s k lst done Hinv.out hkl (by
            intro e; apply hp
            have e1 : (bs s).getD k 0 = s[k] := by simp [bs, ByteArray.getElem_eq_getElem_data, hkl]
            rw [← e1, e]; rfl)
          clear hp
          go_wp2_with fail
          go_roundw
          case rel => exact ⟨k + 1, lst, done, by go_num, rfl, by omega, by omega, by omega, Hown.out, hbr, hinv2.out⟩
          case measure => simp [intOf]; omega
    · obtain rfl : k = s.size + 1 := by omega
      have hd := cut_done s lst done Hinv.out
      have hI : IsStrs wr _ done := isStrs_owns Hown.out
      have hsz := splL_small s 1000 hs
      have hle := splL_le s
      rw [← hd] at hsz hle
      have Hd := Lib.hid hd
      have Hsz := Lib.hid hsz
      clear hd hsz
      go_wp2_with fail
      refine (rIsPath_any _ done _ hI Hsz.out (by omega)).mono ?_
      rintro e w2 ⟨rfl, hb2⟩
      have hI2 := hI.below hb2
      have hB : Below w.heap.size w w2 := hbr.trans (hb2.mono hbr.size)
      obtain ⟨bb, hbb⟩ : ∃ bb, pathB done = bb := ⟨_, rfl⟩
      have Hbb := Lib.hid hbb
      rw [hbb]
      clear hbb
      cases bb
      · go_wp2_with fail
        go_ret2
        refine ⟨.slice none 0 0, ?_, ?_, hB⟩
        · rw [← Hd.out, Hbb.out]; rfl
        · unfold ppL; rw [← Hd.out, Hbb.out]; exact isStrs_nil _
      · go_wp2_with fail
        go_ret2
        have ep : ppL s = done := by unfold ppL; rw [← Hd.out, Hbb.out]; rfl
        rw [← ep] at hI2
        refine ⟨_, ?_, hI2, hB⟩
        rw [← Hd.out, Hbb.out]; rfl

end Go.Proofs.YtbjjimfdbbhjgaaDoor
