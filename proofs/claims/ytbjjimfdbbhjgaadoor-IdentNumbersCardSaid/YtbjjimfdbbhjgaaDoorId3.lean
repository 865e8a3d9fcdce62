/- Slices of strings as lists; Find, Keys, word, IsLower and their references. -/
import Derived.Test.YtbjjimfdbbhjgaaDoorId2
import Derived.Test.YtbjjimfdbbhjgaaDoorShelf
namespace Go.Proofs.YtbjjimfdbbhjgaaDoor
open Go Go.RowKit

def IsStrs (w : World) (v : Value) (l : List ByteArray) : Prop :=
  ∃ (a : Option Addr) (c : Nat), v = .slice a l.length c ∧ l.length ≤ c ∧ (l ≠ [] → ∃ b off, a = some ⟨b, off, none⟩ ∧ b < w.heap.size ∧ ∀ j, j < l.length → w.cell? ⟨b, off + j, none⟩ = some (.string (l.getD j ByteArray.empty)))

theorem IsStrs.below {w w' : World} {v : Value} {l : List ByteArray} (h : IsStrs w v l) (hb : Below w.heap.size w w') : IsStrs w' v l := by
  obtain ⟨a, c, hv, hlc, hl⟩ := h
  refine ⟨a, c, hv, hlc, fun hne => ?_⟩
  obtain ⟨b, off, ha, hlt, hc⟩ := hl hne
  exact ⟨b, off, ha, by have := hb.size; omega, fun j hj => by rw [hb.cell (p := ⟨b, off + j, none⟩) hlt]; exact hc j hj⟩

theorem cell_new (w : World) (cs : Array Value) (t : TypeId) (j : Nat) : (w.alloc (.cells cs t)).cell? ⟨w.heap.size, j, none⟩ = cs[j]? := by
  simp [World.cell?, World.alloc, -World.alloc_eq]

def findL (l : List ByteArray) (s : ByteArray) : Int := Lib.idxOfS l s

theorem find_any (v : Value) (l : List ByteArray) (s : ByteArray) (w : World) (h : IsStrs w v l) (hl : l.length ≤ 1000000) :
    Calls Tryd.prog 27 #[v, .string s] w fun e w' => e = .returned (.int .i64 (findL l s)) ∧ w = w' := by
  obtain ⟨a, c, rfl, _, hcell⟩ := h
  by_cases hne : l = []
  · subst hne
    clear hcell
    go_enter Tryd.func27, Tryd.ntmps27
    go_wp2
    go_loop [9] (fun i => i = .int .i64 0) (fun i => 0)
    case atStart => rfl
    case round =>
      subst hrel
      go_wp2
      go_ret
      exact ⟨rfl, rfl⟩
  · obtain ⟨b, off, rfl, hlt, hc⟩ := hcell hne
    clear hcell
    have Hc := Lib.hid hc
    clear hc
    go_enter Tryd.func27, Tryd.ntmps27
    go_wp2
    go_loop [9] (fun i => ∃ k : Nat, k ≤ l.length ∧ i = .int .i64 k ∧ Hid (∀ j, j < k → l.getD j ByteArray.empty ≠ s)) (fun i => l.length - (intOf i).toNat)
    case atStart => exact ⟨0, Nat.zero_le _, rfl, fun j hj => absurd hj (Nat.not_lt_zero _)⟩
    case round =>
      obtain ⟨k, hk, rfl, hno⟩ := hrel
      by_cases hlt : k < l.length
      · have hc := Hc.out k hlt
        obtain ⟨x, hx⟩ : ∃ x, l.getD k ByteArray.empty = x := ⟨_, rfl⟩
        rw [hx] at hc
        have Hx := Lib.hid hx
        clear hx
        by_cases hxs : x = s
        · have hq : (x.toList == s.toList) = true := (Lib.bytes_beq_iff _ _).2 hxs
          have Hxs := Lib.hid hxs
          clear hxs
          go_wp2
          go_ret
          refine ⟨ret_int ?_, rfl⟩
          have := Lib.idxOfS_hit l l.length k s hlt (Nat.le_refl _) (Hx.out.trans Hxs.out) hno.out
          rw [List.take_length] at this
          exact this.symm
        · have hq : (x.toList == s.toList) = false := (Lib.bytes_beq_false_iff _ _).2 hxs
          have Hxs := Lib.hid hxs
          clear hxs
          go_wp2
          go_round
          case rel =>
            refine ⟨k + 1, by omega, by go_num, fun j hj => ?_⟩
            by_cases e : j = k
            · subst e; rw [Hx.out]; exact Hxs.out
            · exact hno.out j (by omega)
          case measure => simp [intOf]; omega
      · go_wp2
        go_ret
        refine ⟨ret_int ?_, rfl⟩
        have := Lib.idxOfS_miss l l.length s fun j hj => hno.out j (by omega)
        rw [List.take_length] at this
        exact this.symm

theorem rFind_any (v : Value) (l : List ByteArray) (s : ByteArray) (w : World) (h : IsStrs w v l) (hl : l.length ≤ 1000000) :
    Calls Tryd.prog 47 #[v, .string s] w fun e w' => e = .returned (.int .i64 (findL l s)) ∧ w = w' := by
  obtain ⟨a, c, rfl, _, hcell⟩ := h
  by_cases hne : l = []
  · subst hne
    clear hcell
    go_enter Tryd.func47, Tryd.ntmps47
    go_wp2
    go_loop [5] (fun i => i = .int .i64 0) (fun i => 0)
    case atStart => rfl
    case round =>
      subst hrel
      go_wp2
      go_ret
      exact ⟨rfl, rfl⟩
  · obtain ⟨b, off, rfl, hlt, hc⟩ := hcell hne
    clear hcell
    have Hc := Lib.hid hc
    clear hc
    go_enter Tryd.func47, Tryd.ntmps47
    go_wp2
    go_loop [5] (fun i => ∃ k : Nat, k ≤ l.length ∧ i = .int .i64 k ∧ Hid (∀ j, j < k → l.getD j ByteArray.empty ≠ s)) (fun i => l.length - (intOf i).toNat)
    case atStart => exact ⟨0, Nat.zero_le _, rfl, fun j hj => absurd hj (Nat.not_lt_zero _)⟩
    case round =>
      obtain ⟨k, hk, rfl, hno⟩ := hrel
      by_cases hlt : k < l.length
      · have hc := Hc.out k hlt
        obtain ⟨x, hx⟩ : ∃ x, l.getD k ByteArray.empty = x := ⟨_, rfl⟩
        rw [hx] at hc
        have Hx := Lib.hid hx
        clear hx
        by_cases hxs : x = s
        · have hq : (x.toList == s.toList) = true := (Lib.bytes_beq_iff _ _).2 hxs
          have Hxs := Lib.hid hxs
          clear hxs
          go_wp2
          go_ret
          refine ⟨ret_int ?_, rfl⟩
          have := Lib.idxOfS_hit l l.length k s hlt (Nat.le_refl _) (Hx.out.trans Hxs.out) hno.out
          rw [List.take_length] at this
          exact this.symm
        · have hq : (x.toList == s.toList) = false := (Lib.bytes_beq_false_iff _ _).2 hxs
          have Hxs := Lib.hid hxs
          clear hxs
          go_wp2
          go_round
          case rel =>
            refine ⟨k + 1, by omega, by go_num, fun j hj => ?_⟩
            by_cases e : j = k
            · subst e; rw [Hx.out]; exact Hxs.out
            · exact hno.out j (by omega)
          case measure => simp [intOf]; omega
      · go_wp2
        go_ret
        refine ⟨ret_int ?_, rfl⟩
        have := Lib.idxOfS_miss l l.length s fun j hj => hno.out j (by omega)
        rw [List.take_length] at this
        exact this.symm

/-- Go's key words, as the fields of ident's text. -/
def keyText : List UInt8 := [97, 110, 100, 97, 108, 115, 111, 32, 99, 97, 115, 101, 32, 100, 97, 116, 97, 32, 100, 105, 118, 32, 101, 108, 115, 101, 32, 101, 110, 100, 32, 102, 110, 32, 102, 117, 110, 32, 102, 117, 110, 99, 116, 111, 114, 32, 103, 101, 110, 101, 114, 97, 116, 105, 118, 101, 32, 105, 102, 32, 105, 109, 112, 111, 114, 116, 32, 105, 110, 32, 105, 110, 99, 108, 117, 100, 101, 32, 108, 101, 116, 32, 109, 111, 100, 32, 109, 111, 100, 117, 108, 101, 32, 111, 102, 32, 111, 112, 101, 110, 32, 111, 114, 101, 108, 115, 101, 32, 112, 97, 99, 107, 32, 115, 104, 97, 114, 105, 110, 103, 32, 115, 105, 103, 32, 115, 105, 103, 110, 97, 116, 117, 114, 101, 32, 115, 116, 114, 117, 99, 116, 32, 115, 116, 114, 117, 99, 116, 117, 114, 101, 32, 116, 104, 101, 110, 32, 116, 121, 112, 101, 32, 117, 110, 112, 97, 99, 107, 32, 118, 97, 108, 32, 119, 105, 116, 104]
def keyList : List ByteArray := (Lib.fields keyText).map fun l => ⟨l.toArray⟩
theorem keyList_length : keyList.length = 31 := by decide +kernel
def kwB (s : ByteArray) : Bool := Lib.containsS keyList s

theorem isStrs_alloc (w : World) (l : List ByteArray) (n : Nat) (t : TypeId) (hn : n = l.length) : IsStrs (w.alloc (.cells (l.map Value.string).toArray t)) (.slice (some ⟨w.heap.size, 0, none⟩) n n) l := by
  subst hn
  refine ⟨_, _, rfl, Nat.le_refl _, fun _ => ⟨w.heap.size, 0, rfl, by simp, fun j hj => ?_⟩⟩
  rw [Nat.zero_add, cell_new]
  simp [hj]

theorem keys_any0 (w : World) :
    Calls Tryd.prog 48 #[] w fun e w' => e = .returned (.slice (some ⟨w.heap.size, 0, none⟩) 31 31) ∧ w' = w.alloc (.cells (keyList.map Value.string).toArray 9) := by
  go_enter Tryd.func48, Tryd.ntmps48
  go_wp2
  go_ret
  refine ⟨rfl, ?_⟩
  congr 2

theorem keys_any (w : World) :
    Calls Tryd.prog 48 #[] w fun e w' => ∃ v, e = .returned v ∧ IsStrs w' v keyList ∧ Below w.heap.size w w' :=
  (keys_any0 w).mono fun e w' ⟨he, hw⟩ => ⟨_, he, by rw [hw]; exact isStrs_alloc w keyList 31 _ keyList_length.symm, by rw [hw]; exact (Below.refl _ _).alloc (Nat.le_refl _) _⟩

/-- What the calls need of the world: two of the library's variables. -/
structure Env (w : World) : Prop where
  tab : Lib.TabIs Tryd.prog w "strings.asciiSpace" .u8 Lib.asciiSpaceTab
  ml : ∃ m : Int, w.cell? ⟨0, 0, none⟩ = some (.int .i64 m)
  sz : 0 < w.heap.size

theorem var_below {P : Program} {w w' : World} {n : String} {cs : Array Value} (h : w.var? P n = some cs) (hb : Below w.heap.size w w') : w'.var? P n = some cs := by
  unfold World.var? at h ⊢
  cases hg : P.globalNamed n with
  | none => simp [hg] at h
  | some g =>
    simp only [hg, Option.bind_some] at h ⊢
    have hlt : g < w.heap.size := by
      rcases Nat.lt_or_ge g w.heap.size with h' | h'
      · exact h'
      · simp [Array.getElem?_eq_none h'] at h
    rw [hb.block g hlt]
    exact h

theorem Env.below {w w' : World} (h : Env w) (hb : Below w.heap.size w w') : Env w' :=
  ⟨var_below h.tab hb, by obtain ⟨m, hm⟩ := h.ml; exact ⟨m, by rw [hb.cell (p := ⟨_, 0, none⟩) h.sz]; exact hm⟩, Nat.lt_of_lt_of_le h.sz hb.size⟩

theorem keyAscii : ∀ (j : Nat) (b : UInt8), (ByteArray.mk keyText.toArray).data.toList[j]? = some b → b.toNat < 128 := by
  have h : keyText.all (fun b => decide (b.toNat < 128)) = true := by decide +kernel
  intro j b hj
  have := List.all_eq_true.1 h b (List.mem_of_getElem? hj)
  simpa using this

theorem kw_any (s : ByteArray) (w : World) (hE : Env w) :
    Calls Tryd.prog 44 #[.string s] w fun e w' => e = .returned (.bool (kwB s)) ∧ Below w.heap.size w w' := by
  have H := Tryd.strings_Fields_laid ⟨keyText.toArray⟩ w (by decide +kernel) keyAscii hE.tab
  have HH := Lib.hid H
  clear H
  go_enter Tryd.func44, Tryd.ntmps44
  go_wp2_with fail
  refine HH.out.mono ?_
  rintro e w' ⟨rfl, hw⟩
  have hlen : (Lib.fields (ByteArray.mk keyText.toArray).data.toList).length = 31 := by decide +kernel
  rw [hlen]
  have hI : IsStrs w' (.slice (some ⟨w.heap.size, 0, none⟩) 31 31) keyList := by
    rw [hw]
    have := isStrs_alloc w keyList 31 9 keyList_length.symm
    unfold keyList at this ⊢
    rw [List.map_map] at this
    exact this
  have hb : Below w.heap.size w w' := by rw [hw]; exact (Below.refl _ _).alloc (Nat.le_refl _) _
  have Hw := Lib.hid hw
  clear hw hlen
  obtain ⟨a, c, hv, _, hc⟩ := hI
  rw [keyList_length] at hv
  cases hv
  obtain ⟨b, off, ha, hlt, hc⟩ := hc (by intro h; have := keyList_length; rw [h] at this; cases this)
  cases ha
  have HC := Tryd.slices_Contains_string w.heap.size 0 31 31 keyList s w' (Nat.le_of_eq keyList_length.symm) (by decide) hc
  have HCC := Lib.hid HC
  clear HC hc
  go_wp2_with fail
  refine HCC.out.mono ?_
  rintro e w'' ⟨rfl, rfl⟩
  go_wp2_with fail
  go_ret
  refine ⟨?_, hb⟩
  rw [← keyList_length, List.take_length]
  rfl

def lowB (s : ByteArray) : Bool := nmB (bs s) 1 && !kwB s

theorem isLower_any (s : ByteArray) (w : World) (hE : Env w) (hs : s.size ≤ 1000) :
    Calls Tryd.prog 16 #[.string s] w fun e w' => e = .returned (.bool (lowB s)) ∧ Below w.heap.size w w' := by
  go_enter Tryd.func16, Tryd.ntmps16
  go_wp2_with fail
  refine (name_any _ _ _ hs).mono ?_
  rintro e w1 ⟨rfl, hb⟩
  obtain ⟨bb, hbb⟩ : ∃ bb, nmB (bs s) 1 = bb := ⟨_, rfl⟩
  have Hbb := Lib.hid hbb
  rw [hbb]
  clear hbb
  cases bb
  · go_wp2_with fail
    go_ret
    exact ⟨ret_bool (by unfold lowB; rw [Hbb.out]; rfl), hb⟩
  · go_wp2_with fail
    refine (kw_any _ _ (hE.below hb)).mono ?_
    rintro e w2 ⟨rfl, hb2⟩
    go_wp2_with fail
    go_ret
    exact ⟨ret_bool (by unfold lowB; rw [Hbb.out]; rfl), hb.trans (hb2.mono hb.size)⟩

theorem lowB_eq (s : ByteArray) : lowB s = (wordB (bs s) && smallB ((bs s).headD 0).toNat && decide (findL keyList s < 0)) := by
  unfold lowB kwB Lib.containsS findL
  rw [nm1]
  congr 1
  by_cases h : 0 ≤ Lib.idxOfS keyList s <;> simp [h] <;> omega

theorem rIsLower_any (s : ByteArray) (w : World) (hs : s.size ≤ 1000) :
    Calls Tryd.prog 17 #[.string s] w fun e w' => e = .returned (.bool (lowB s)) ∧ Below w.heap.size w w' := by
  rw [lowB_eq]
  by_cases hw : wordB (bs s) = true
  · have hp : 0 < s.size := by simp [wordB, bs_length] at hw; omega
    have hh := bs_head s hp
    obtain ⟨u0, u1⟩ := ub s[0]
    rw [hw, hh]
    have Hh := Lib.hid hh
    clear hh
    have Hw := Lib.hid hw
    clear hw
    go_enter Tryd.func17, Tryd.ntmps17
    go_wp2_with fail
    refine (word_any _ _ hs).mono ?_
    rintro e w1 ⟨rfl, rfl⟩
    rw [Hw.out]
    go_wp2_with fail
    refine (small_any _ _ (by assumption) (by assumption)).mono ?_
    rintro e w1 ⟨rfl, rfl⟩
    obtain ⟨bb, hbb⟩ : ∃ bb, smallB s[0].toNat = bb := ⟨_, rfl⟩
    have Hbb := Lib.hid hbb
    rw [hbb]
    clear hbb
    cases bb
    · go_wp2_with fail
      go_ret
      exact ⟨ret_bool (by rw [Hbb.out]; rfl), Below.refl _ _⟩
    · go_wp2_with fail
      refine (keys_any _).mono ?_
      rintro e w1 ⟨v, rfl, hv, hb⟩
      go_wp2_with fail
      refine (rFind_any _ keyList _ _ hv (by rw [keyList_length]; decide)).mono ?_
      rintro e w2 ⟨rfl, rfl⟩
      go_wp2_with fail
      go_ret
      exact ⟨ret_bool (by rw [Hbb.out]; rfl), hb⟩
  · have hw' : wordB (bs s) = false := by simpa using hw
    rw [hw']
    have Hw := Lib.hid hw'
    clear hw hw'
    go_enter Tryd.func17, Tryd.ntmps17
    go_wp2_with fail
    refine (word_any _ _ hs).mono ?_
    rintro e w1 ⟨rfl, rfl⟩
    rw [Hw.out]
    go_wp2_with fail
    go_ret
    exact ⟨rfl, Below.refl _ _⟩
end Go.Proofs.YtbjjimfdbbhjgaaDoor
