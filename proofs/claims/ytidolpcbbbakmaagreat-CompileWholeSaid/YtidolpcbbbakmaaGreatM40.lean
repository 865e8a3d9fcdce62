/- The slots of a call, written out. Observing a value: the plain function; observed values in memory. -/
import Derived.Test.YtidolpcbbbakmaaGreatM39
import Derived.Deep.LoopGhost
namespace Go.Proofs.YtidolpcbbbakmaaGreat
open Go Go.RowKit
theorem list_tab (l : List Value) (n : Nat) (h : l.length = n) : l = (List.range n).map (fun i => l.getD i undef) := by
  subst h
  refine List.ext_getElem (by simp) fun i h1 h2 => ?_
  simp [List.getD, h1]
set_option maxRecDepth 20000 in
theorem range_279 (f : Nat → Value) : (List.range 279).map f = [f 0, f 1, f 2, f 3, f 4, f 5, f 6, f 7, f 8, f 9, f 10, f 11, f 12, f 13, f 14, f 15, f 16, f 17, f 18, f 19, f 20, f 21, f 22, f 23, f 24, f 25, f 26, f 27, f 28, f 29, f 30, f 31, f 32, f 33, f 34, f 35, f 36, f 37, f 38, f 39, f 40, f 41, f 42, f 43, f 44, f 45, f 46, f 47, f 48, f 49, f 50, f 51, f 52, f 53, f 54, f 55, f 56, f 57, f 58, f 59, f 60, f 61, f 62, f 63, f 64, f 65, f 66, f 67, f 68, f 69, f 70, f 71, f 72, f 73, f 74, f 75, f 76, f 77, f 78, f 79, f 80, f 81, f 82, f 83, f 84, f 85, f 86, f 87, f 88, f 89, f 90, f 91, f 92, f 93, f 94, f 95, f 96, f 97, f 98, f 99, f 100, f 101, f 102, f 103, f 104, f 105, f 106, f 107, f 108, f 109, f 110, f 111, f 112, f 113, f 114, f 115, f 116, f 117, f 118, f 119, f 120, f 121, f 122, f 123, f 124, f 125, f 126, f 127, f 128, f 129, f 130, f 131, f 132, f 133, f 134, f 135, f 136, f 137, f 138, f 139, f 140, f 141, f 142, f 143, f 144, f 145, f 146, f 147, f 148, f 149, f 150, f 151, f 152, f 153, f 154, f 155, f 156, f 157, f 158, f 159, f 160, f 161, f 162, f 163, f 164, f 165, f 166, f 167, f 168, f 169, f 170, f 171, f 172, f 173, f 174, f 175, f 176, f 177, f 178, f 179, f 180, f 181, f 182, f 183, f 184, f 185, f 186, f 187, f 188, f 189, f 190, f 191, f 192, f 193, f 194, f 195, f 196, f 197, f 198, f 199, f 200, f 201, f 202, f 203, f 204, f 205, f 206, f 207, f 208, f 209, f 210, f 211, f 212, f 213, f 214, f 215, f 216, f 217, f 218, f 219, f 220, f 221, f 222, f 223, f 224, f 225, f 226, f 227, f 228, f 229, f 230, f 231, f 232, f 233, f 234, f 235, f 236, f 237, f 238, f 239, f 240, f 241, f 242, f 243, f 244, f 245, f 246, f 247, f 248, f 249, f 250, f 251, f 252, f 253, f 254, f 255, f 256, f 257, f 258, f 259, f 260, f 261, f 262, f 263, f 264, f 265, f 266, f 267, f 268, f 269, f 270, f 271, f 272, f 273, f 274, f 275, f 276, f 277, f 278] := rfl
set_option maxRecDepth 20000 in
@[elab_as_elim] theorem act_lit {C : Act → Prop} (a : Act) (hs : a.tmps.size = 279) (hd : a.defers = []) (h : ∀ u0 u1 u2 u3 u4 u5 u6 u7 u8 u9 u10 u11 u12 u13 u14 u15 u16 u17 u18 u19 u20 u21 u22 u23 u24 u25 u26 u27 u28 u29 u30 u31 u32 u33 u34 u35 u36 u37 u38 u39 u40 u41 u42 u43 u44 u45 u46 u47 u48 u49 u50 u51 u52 u53 u54 u55 u56 u57 u58 u59 u60 u61 u62 u63 u64 u65 u66 u67 u68 u69 u70 u71 u72 u73 u74 u75 u76 u77 u78 u79 u80 u81 u82 u83 u84 u85 u86 u87 u88 u89 u90 u91 u92 u93 u94 u95 u96 u97 u98 u99 u100 u101 u102 u103 u104 u105 u106 u107 u108 u109 u110 u111 u112 u113 u114 u115 u116 u117 u118 u119 u120 u121 u122 u123 u124 u125 u126 u127 u128 u129 u130 u131 u132 u133 u134 u135 u136 u137 u138 u139 u140 u141 u142 u143 u144 u145 u146 u147 u148 u149 u150 u151 u152 u153 u154 u155 u156 u157 u158 u159 u160 u161 u162 u163 u164 u165 u166 u167 u168 u169 u170 u171 u172 u173 u174 u175 u176 u177 u178 u179 u180 u181 u182 u183 u184 u185 u186 u187 u188 u189 u190 u191 u192 u193 u194 u195 u196 u197 u198 u199 u200 u201 u202 u203 u204 u205 u206 u207 u208 u209 u210 u211 u212 u213 u214 u215 u216 u217 u218 u219 u220 u221 u222 u223 u224 u225 u226 u227 u228 u229 u230 u231 u232 u233 u234 u235 u236 u237 u238 u239 u240 u241 u242 u243 u244 u245 u246 u247 u248 u249 u250 u251 u252 u253 u254 u255 u256 u257 u258 u259 u260 u261 u262 u263 u264 u265 u266 u267 u268 u269 u270 u271 u272 u273 u274 u275 u276 u277 u278 : Value, C ⟨#[u0, u1, u2, u3, u4, u5, u6, u7, u8, u9, u10, u11, u12, u13, u14, u15, u16, u17, u18, u19, u20, u21, u22, u23, u24, u25, u26, u27, u28, u29, u30, u31, u32, u33, u34, u35, u36, u37, u38, u39, u40, u41, u42, u43, u44, u45, u46, u47, u48, u49, u50, u51, u52, u53, u54, u55, u56, u57, u58, u59, u60, u61, u62, u63, u64, u65, u66, u67, u68, u69, u70, u71, u72, u73, u74, u75, u76, u77, u78, u79, u80, u81, u82, u83, u84, u85, u86, u87, u88, u89, u90, u91, u92, u93, u94, u95, u96, u97, u98, u99, u100, u101, u102, u103, u104, u105, u106, u107, u108, u109, u110, u111, u112, u113, u114, u115, u116, u117, u118, u119, u120, u121, u122, u123, u124, u125, u126, u127, u128, u129, u130, u131, u132, u133, u134, u135, u136, u137, u138, u139, u140, u141, u142, u143, u144, u145, u146, u147, u148, u149, u150, u151, u152, u153, u154, u155, u156, u157, u158, u159, u160, u161, u162, u163, u164, u165, u166, u167, u168, u169, u170, u171, u172, u173, u174, u175, u176, u177, u178, u179, u180, u181, u182, u183, u184, u185, u186, u187, u188, u189, u190, u191, u192, u193, u194, u195, u196, u197, u198, u199, u200, u201, u202, u203, u204, u205, u206, u207, u208, u209, u210, u211, u212, u213, u214, u215, u216, u217, u218, u219, u220, u221, u222, u223, u224, u225, u226, u227, u228, u229, u230, u231, u232, u233, u234, u235, u236, u237, u238, u239, u240, u241, u242, u243, u244, u245, u246, u247, u248, u249, u250, u251, u252, u253, u254, u255, u256, u257, u258, u259, u260, u261, u262, u263, u264, u265, u266, u267, u268, u269, u270, u271, u272, u273, u274, u275, u276, u277, u278], []⟩) : C a := by
  obtain ⟨⟨l⟩, d⟩ := a
  simp only at hd
  subst hd
  have e := (list_tab l 279 hs).trans (range_279 _)
  rw [e]
  exact h (l.getD 0 undef) (l.getD 1 undef) (l.getD 2 undef) (l.getD 3 undef) (l.getD 4 undef) (l.getD 5 undef) (l.getD 6 undef) (l.getD 7 undef) (l.getD 8 undef) (l.getD 9 undef) (l.getD 10 undef) (l.getD 11 undef) (l.getD 12 undef) (l.getD 13 undef) (l.getD 14 undef) (l.getD 15 undef) (l.getD 16 undef) (l.getD 17 undef) (l.getD 18 undef) (l.getD 19 undef) (l.getD 20 undef) (l.getD 21 undef) (l.getD 22 undef) (l.getD 23 undef) (l.getD 24 undef) (l.getD 25 undef) (l.getD 26 undef) (l.getD 27 undef) (l.getD 28 undef) (l.getD 29 undef) (l.getD 30 undef) (l.getD 31 undef) (l.getD 32 undef) (l.getD 33 undef) (l.getD 34 undef) (l.getD 35 undef) (l.getD 36 undef) (l.getD 37 undef) (l.getD 38 undef) (l.getD 39 undef) (l.getD 40 undef) (l.getD 41 undef) (l.getD 42 undef) (l.getD 43 undef) (l.getD 44 undef) (l.getD 45 undef) (l.getD 46 undef) (l.getD 47 undef) (l.getD 48 undef) (l.getD 49 undef) (l.getD 50 undef) (l.getD 51 undef) (l.getD 52 undef) (l.getD 53 undef) (l.getD 54 undef) (l.getD 55 undef) (l.getD 56 undef) (l.getD 57 undef) (l.getD 58 undef) (l.getD 59 undef) (l.getD 60 undef) (l.getD 61 undef) (l.getD 62 undef) (l.getD 63 undef) (l.getD 64 undef) (l.getD 65 undef) (l.getD 66 undef) (l.getD 67 undef) (l.getD 68 undef) (l.getD 69 undef) (l.getD 70 undef) (l.getD 71 undef) (l.getD 72 undef) (l.getD 73 undef) (l.getD 74 undef) (l.getD 75 undef) (l.getD 76 undef) (l.getD 77 undef) (l.getD 78 undef) (l.getD 79 undef) (l.getD 80 undef) (l.getD 81 undef) (l.getD 82 undef) (l.getD 83 undef) (l.getD 84 undef) (l.getD 85 undef) (l.getD 86 undef) (l.getD 87 undef) (l.getD 88 undef) (l.getD 89 undef) (l.getD 90 undef) (l.getD 91 undef) (l.getD 92 undef) (l.getD 93 undef) (l.getD 94 undef) (l.getD 95 undef) (l.getD 96 undef) (l.getD 97 undef) (l.getD 98 undef) (l.getD 99 undef) (l.getD 100 undef) (l.getD 101 undef) (l.getD 102 undef) (l.getD 103 undef) (l.getD 104 undef) (l.getD 105 undef) (l.getD 106 undef) (l.getD 107 undef) (l.getD 108 undef) (l.getD 109 undef) (l.getD 110 undef) (l.getD 111 undef) (l.getD 112 undef) (l.getD 113 undef) (l.getD 114 undef) (l.getD 115 undef) (l.getD 116 undef) (l.getD 117 undef) (l.getD 118 undef) (l.getD 119 undef) (l.getD 120 undef) (l.getD 121 undef) (l.getD 122 undef) (l.getD 123 undef) (l.getD 124 undef) (l.getD 125 undef) (l.getD 126 undef) (l.getD 127 undef) (l.getD 128 undef) (l.getD 129 undef) (l.getD 130 undef) (l.getD 131 undef) (l.getD 132 undef) (l.getD 133 undef) (l.getD 134 undef) (l.getD 135 undef) (l.getD 136 undef) (l.getD 137 undef) (l.getD 138 undef) (l.getD 139 undef) (l.getD 140 undef) (l.getD 141 undef) (l.getD 142 undef) (l.getD 143 undef) (l.getD 144 undef) (l.getD 145 undef) (l.getD 146 undef) (l.getD 147 undef) (l.getD 148 undef) (l.getD 149 undef) (l.getD 150 undef) (l.getD 151 undef) (l.getD 152 undef) (l.getD 153 undef) (l.getD 154 undef) (l.getD 155 undef) (l.getD 156 undef) (l.getD 157 undef) (l.getD 158 undef) (l.getD 159 undef) (l.getD 160 undef) (l.getD 161 undef) (l.getD 162 undef) (l.getD 163 undef) (l.getD 164 undef) (l.getD 165 undef) (l.getD 166 undef) (l.getD 167 undef) (l.getD 168 undef) (l.getD 169 undef) (l.getD 170 undef) (l.getD 171 undef) (l.getD 172 undef) (l.getD 173 undef) (l.getD 174 undef) (l.getD 175 undef) (l.getD 176 undef) (l.getD 177 undef) (l.getD 178 undef) (l.getD 179 undef) (l.getD 180 undef) (l.getD 181 undef) (l.getD 182 undef) (l.getD 183 undef) (l.getD 184 undef) (l.getD 185 undef) (l.getD 186 undef) (l.getD 187 undef) (l.getD 188 undef) (l.getD 189 undef) (l.getD 190 undef) (l.getD 191 undef) (l.getD 192 undef) (l.getD 193 undef) (l.getD 194 undef) (l.getD 195 undef) (l.getD 196 undef) (l.getD 197 undef) (l.getD 198 undef) (l.getD 199 undef) (l.getD 200 undef) (l.getD 201 undef) (l.getD 202 undef) (l.getD 203 undef) (l.getD 204 undef) (l.getD 205 undef) (l.getD 206 undef) (l.getD 207 undef) (l.getD 208 undef) (l.getD 209 undef) (l.getD 210 undef) (l.getD 211 undef) (l.getD 212 undef) (l.getD 213 undef) (l.getD 214 undef) (l.getD 215 undef) (l.getD 216 undef) (l.getD 217 undef) (l.getD 218 undef) (l.getD 219 undef) (l.getD 220 undef) (l.getD 221 undef) (l.getD 222 undef) (l.getD 223 undef) (l.getD 224 undef) (l.getD 225 undef) (l.getD 226 undef) (l.getD 227 undef) (l.getD 228 undef) (l.getD 229 undef) (l.getD 230 undef) (l.getD 231 undef) (l.getD 232 undef) (l.getD 233 undef) (l.getD 234 undef) (l.getD 235 undef) (l.getD 236 undef) (l.getD 237 undef) (l.getD 238 undef) (l.getD 239 undef) (l.getD 240 undef) (l.getD 241 undef) (l.getD 242 undef) (l.getD 243 undef) (l.getD 244 undef) (l.getD 245 undef) (l.getD 246 undef) (l.getD 247 undef) (l.getD 248 undef) (l.getD 249 undef) (l.getD 250 undef) (l.getD 251 undef) (l.getD 252 undef) (l.getD 253 undef) (l.getD 254 undef) (l.getD 255 undef) (l.getD 256 undef) (l.getD 257 undef) (l.getD 258 undef) (l.getD 259 undef) (l.getD 260 undef) (l.getD 261 undef) (l.getD 262 undef) (l.getD 263 undef) (l.getD 264 undef) (l.getD 265 undef) (l.getD 266 undef) (l.getD 267 undef) (l.getD 268 undef) (l.getD 269 undef) (l.getD 270 undef) (l.getD 271 undef) (l.getD 272 undef) (l.getD 273 undef) (l.getD 274 undef) (l.getD 275 undef) (l.getD 276 undef) (l.getD 277 undef) (l.getD 278 undef)
/-- What holds at the head of the loop: of the slots, and of the memory. -/
def InvA (pre : List Value) (rel : Value → Value → World → Prop) (mu : World → Nat) (n : Nat) (a : Act) (w : World) : Prop := a.tmps.size = 279 ∧ a.defers = [] ∧ a.tmps.toList.take 9 = pre ∧ rel (a.tmps.getD 9 undef) (a.tmps.getD 10 undef) w ∧ mu w = n
def obEnc (x : ExpD) : List Value := [.int .i64 x.op, .int .i64 x.n, .string x.s, .slice none 0 0, x.lv]
def obCells (l : List ExpD) : List Value := l.flatMap obEnc
theorem obCells_snoc (l : List ExpD) (x : ExpD) : obCells (l ++ [x]) = obCells l ++ obEnc x := by simp [obCells]
theorem obCells_length (l : List ExpD) : (obCells l).length = l.length * 5 := by
  induction l with
  | nil => rfl
  | cons x l ih => rw [show obCells (x :: l) = obEnc x ++ obCells l from rfl, List.length_append, ih]; simp [obEnc]; omega
theorem obCells_at : ∀ (l : List ExpD) (k : Nat), k < l.length → (obCells l).getD (k * 5) undef = .int .i64 (l.getD k default).op ∧ (obCells l).getD (k * 5 + 1) undef = .int .i64 (l.getD k default).n ∧ (obCells l).getD (k * 5 + 2) undef = .string (l.getD k default).s ∧ (obCells l).getD (k * 5 + 3) undef = .slice none 0 0 ∧ (obCells l).getD (k * 5 + 4) undef = (l.getD k default).lv
  | [], k, h => by simp at h
  | x :: l, 0, _ => by simp [obCells, obEnc]
  | x :: l, k + 1, h => by
    have ih := obCells_at l k (by simpa using h)
    have e : obCells (x :: l) = [.int .i64 x.op, .int .i64 x.n, .string x.s, .slice none 0 0, x.lv] ++ obCells l := rfl
    have g : ∀ j, (obCells (x :: l)).getD (j + 5) undef = (obCells l).getD j undef := fun j => by
      rw [e]; simp [List.getD]
    have e1 : (k + 1) * 5 = k * 5 + 5 := by omega
    refine ⟨?_, ?_, ?_, ?_, ?_⟩
    · rw [e1, g]; exact ih.1
    · rw [show (k + 1) * 5 + 1 = k * 5 + 1 + 5 by omega, g]; exact ih.2.1
    · rw [show (k + 1) * 5 + 2 = k * 5 + 2 + 5 by omega, g]; exact ih.2.2.1
    · rw [show (k + 1) * 5 + 3 = k * 5 + 3 + 5 by omega, g]; exact ih.2.2.2.1
    · rw [show (k + 1) * 5 + 4 = k * 5 + 4 + 5 by omega, g]; exact ih.2.2.2.2
/-- A row of observed values, in a block from lo on that is not r. -/
def RowO (lo : Nat) (r : Option Nat) (w : World) (v : Value) (len : Nat) (xs : List Value) : Prop :=
  ∃ (a : Option Addr) (c : Nat), v = .slice a len c ∧ len ≤ c ∧ (0 < len → ∃ b off, a = some ⟨b, off, none⟩ ∧ b < w.heap.size ∧ lo ≤ b ∧ r ≠ some b ∧ (∃ cur, w.heap[b]? = some (.cells cur 48 (0, 0))) ∧ ∀ j, j < xs.length → w.cell? ⟨b, off + j, none⟩ = some (xs.getD j undef))
inductive IsO (lo : Nat) (r : Option Nat) (w : World) : ExpD → Prop
  | mk {op n : Int} {s : ByteArray} {lv : Value} {l : List ExpD} : RowO lo r w lv l.length (obCells l) → l.length ≤ 20000 → (∀ y ∈ l, IsO lo r w y) → IsO lo r w (.mk op n s lv l)
theorem IsO.parts {lo : Nat} {r : Option Nat} {w : World} {op n : Int} {s : ByteArray} {lv : Value} {l : List ExpD} (h : IsO lo r w (.mk op n s lv l)) : RowO lo r w lv l.length (obCells l) ∧ l.length ≤ 20000 ∧ ∀ y ∈ l, IsO lo r w y := by
  cases h with
  | mk h1 h2 h3 => exact ⟨h1, h2, h3⟩
/-- What a step leaves: r is the block that it may have written, r' the one that the next may write. -/
theorem RowO.keep {lo lo' : Nat} {r r' : Option Nat} {w w' : World} {v : Value} {n : Nat} {xs : List Value} (h : RowO lo r w v n xs) (hs : w.heap.size ≤ w'.heap.size) (hk : ∀ b, b < w.heap.size → lo ≤ b → r ≠ some b → w'.heap[b]? = w.heap[b]?) (hlo : lo' ≤ lo) (hr : ∀ b, b < w.heap.size → lo ≤ b → r ≠ some b → r' ≠ some b) : RowO lo' r' w' v n xs := by
  obtain ⟨a, c, hv, hlc, hl⟩ := h
  refine ⟨a, c, hv, hlc, fun hne => ?_⟩
  obtain ⟨b, off, ha, hb, hlb, hm, ⟨cur, hcur⟩, hc⟩ := hl hne
  have e := hk b hb hlb hm
  exact ⟨b, off, ha, Nat.lt_of_lt_of_le hb hs, Nat.le_trans hlo hlb, hr b hb hlb hm, ⟨cur, e.trans hcur⟩, fun j hj => by rw [← hc j hj]; unfold World.cell?; rw [e]⟩
theorem IsO.keep {lo lo' : Nat} {r r' : Option Nat} {w w' : World} {x : ExpD} (h : IsO lo r w x) (hs : w.heap.size ≤ w'.heap.size) (hk : ∀ b, b < w.heap.size → lo ≤ b → r ≠ some b → w'.heap[b]? = w.heap[b]?) (hlo : lo' ≤ lo) (hr : ∀ b, b < w.heap.size → lo ≤ b → r ≠ some b → r' ≠ some b) : IsO lo' r' w' x := by
  induction h with
  | mk h1 h2 _ ih => exact .mk (h1.keep hs hk hlo hr) h2 ih
/-- The blocks of observed values and of texts are kept. -/
structure Kept2 (w w' : World) : Prop where
  size : w.heap.size ≤ w'.heap.size
  blk : ∀ (b : Nat) (cur : Array Value) (t : TypeId), t = 48 ∨ t = 9 → w.heap[b]? = some (.cells cur t (0, 0)) → w'.heap[b]? = w.heap[b]?
theorem RowO.kept2 {lo : Nat} {r : Option Nat} {w w' : World} {v : Value} {n : Nat} {xs : List Value} (h : RowO lo r w v n xs) (k : Kept2 w w') : RowO lo r w' v n xs := by
  obtain ⟨a, c, hv, hlc, hl⟩ := h
  refine ⟨a, c, hv, hlc, fun hne => ?_⟩
  obtain ⟨b, off, ha, hb, hlb, hm, ⟨cur, hcur⟩, hc⟩ := hl hne
  have e := k.blk b cur _ (.inl rfl) hcur
  exact ⟨b, off, ha, Nat.lt_of_lt_of_le hb k.size, hlb, hm, ⟨cur, e.trans hcur⟩, fun j hj => by rw [← hc j hj]; unfold World.cell?; rw [e]⟩
theorem IsO.kept2 {lo : Nat} {r : Option Nat} {w w' : World} {x : ExpD} (h : IsO lo r w x) (k : Kept2 w w') : IsO lo r w' x := by
  induction h with
  | mk h1 h2 _ ih => exact .mk (h1.kept2 k) h2 ih
theorem owns_kept2 {B n s : Nat} {w w' : World} {v : Value} {xs : List Value} (h : w.ownsRow B 9 s v n xs) (k : Kept2 w w') : w'.ownsRow B 9 s v n xs := by
  obtain ⟨h1, h2⟩ := h
  refine ⟨h1, ?_⟩
  rcases h2 with h2 | ⟨g, cap, cur, rfl, hb, hh, hrest⟩
  · exact .inl h2
  · exact .inr ⟨g, cap, cur, rfl, hb, (k.blk g cur _ (.inr rfl) hh).trans hh, hrest⟩
theorem kept2_below {w w' : World} (h : Below w.heap.size w w') : Kept2 w w' := ⟨h.size, fun b cur t _ hb => h.block b (heap_lt hb)⟩
theorem kept2_row {w : World} {q : Nat} {cs : Array Value} {old : Array Value} (hq : w.heap[q]? = some (.cells old 50 (0, 0))) : Kept2 w (w.setRow q cs) := ⟨by rw [setRow_size]; exact Nat.le_refl _, fun b cur t ht hb => setRow_other _ _ _ _ (fun e => by
  subst e
  rw [hq] at hb
  have h2 := (Obj.cells.inj (Option.some.inj hb)).2.1
  rcases ht with rfl | rfl
  · exact absurd h2 (by decide)
  · exact absurd h2 (by decide))⟩
theorem isO_flat (lo : Nat) (r : Option Nat) (w : World) (op n : Int) (s : ByteArray) : IsO lo r w (.mk op n s (.slice none 0 0) []) := .mk ⟨none, 0, rfl, Nat.le_refl _, fun h => by simp at h⟩ (Nat.zero_le _) (fun _ h => by cases h)
theorem rowO_owned {lo B : Nat} {r : Option Nat} {w : World} {v : Value} {n : Nat} {xs : List Value} {size : Nat} (h : w.ownsRow B 48 size v n xs) (hB : lo ≤ B) (hr : v.ownBlock ≠ none → r ≠ v.ownBlock) : RowO lo r w v n xs := by
  have h' := h
  obtain ⟨_, ⟨rfl, rfl⟩ | ⟨g, cap, cur, rfl, hb, hh, h1, _⟩⟩ := h
  · exact ⟨none, 0, rfl, Nat.le_refl _, fun h => by omega⟩
  · refine ⟨_, _, rfl, h1, fun _ => ⟨g, 0, rfl, heap_lt hh, by omega, hr (by nofun), ⟨cur, hh⟩, fun j hj => ?_⟩⟩
    have := h'.cells rfl j _ (List.getElem?_eq_getElem hj)
    rw [Addr.add_lit] at this
    rw [this]
    simp [List.getD, List.getElem?_eq_getElem hj]
theorem rowO_at {lo : Nat} {r : Option Nat} {w : World} {v : Value} {l : List ExpD} (h : RowO lo r w v l.length (obCells l)) (n : Nat) (hn : n < l.length) :
    ∃ b off c, v = .slice (some ⟨b, off, none⟩) l.length c ∧ l.length ≤ c ∧ b < w.heap.size ∧ w.cell? ⟨b, off + n * 5, none⟩ = some (.int .i64 (l.getD n default).op) ∧ w.cell? ⟨b, off + n * 5 + 1, none⟩ = some (.int .i64 (l.getD n default).n) ∧ w.cell? ⟨b, off + n * 5 + 2, none⟩ = some (.string (l.getD n default).s) ∧ w.cell? ⟨b, off + n * 5 + 3, none⟩ = some (.slice none 0 0) ∧ w.cell? ⟨b, off + n * 5 + 4, none⟩ = some (l.getD n default).lv := by
  obtain ⟨a, c, rfl, hlc, hcell⟩ := h
  obtain ⟨b, off, rfl, hlt, _, _, _, hc⟩ := hcell (by omega)
  obtain ⟨c0, c1, c2, c3, c4⟩ := obCells_at l n hn
  have hlen := obCells_length l
  refine ⟨b, off, c, rfl, hlc, hlt, ?_, ?_, ?_, ?_, ?_⟩
  · rw [hc (n * 5) (by omega), c0]
  · rw [Nat.add_assoc, hc (n * 5 + 1) (by omega), c1]
  · rw [Nat.add_assoc, hc (n * 5 + 2) (by omega), c2]
  · rw [Nat.add_assoc, hc (n * 5 + 3) (by omega), c3]
  · rw [Nat.add_assoc, hc (n * 5 + 4) (by omega), c4]
/-- The plain function. -/
def obsL (f : ValD → Int → ValD × Int) : List ValD → Int → List ValD → List ValD × Int
  | [], left, acc => (acc, left)
  | x :: r, left, acc => if (f x left).2 < 0 then ([], -1) else obsL f r (f x left).2 (acc ++ [(f x left).1])
def obsE (v : ValD) (r : List ValD × Int) : ValD × Int := if r.2 < 0 then (default, -1) else (.mk v.op v.n v.s r.1, r.2)
def obsP : Nat → ValD → Int → ValD × Int
  | 0, _, _ => (default, -1)
  | d + 1, v, left => if left ≤ 0 then (default, -1) else if v.op = 7 then (.mk 7 0 ⟨#[]⟩ [], left - 1) else obsE v (obsL (obsP d) v.l (left - 1) [])
theorem obsL_b (f : ValD → Int → ValD × Int) (hf : ∀ x left, 0 ≤ left → -1 ≤ (f x left).2 ∧ (f x left).2 ≤ left - 1) : ∀ (l : List ValD) (left : Int) (acc : List ValD), 0 ≤ left → -1 ≤ (obsL f l left acc).2 ∧ (obsL f l left acc).2 ≤ left
  | [], left, acc, h => ⟨by rw [obsL]; simp only; omega, by rw [obsL]; exact Int.le_refl _⟩
  | x :: r, left, acc, h => by
    have h1 := hf x left h
    rw [obsL]
    split
    · exact ⟨Int.le_refl _, by simp only; omega⟩
    · have := obsL_b f hf r (f x left).2 (acc ++ [(f x left).1]) (by omega)
      omega
theorem obsP_b : ∀ (d : Nat) (v : ValD) (left : Int), 0 ≤ left → -1 ≤ (obsP d v left).2 ∧ (obsP d v left).2 ≤ left - 1
  | 0, v, left, h => ⟨Int.le_refl _, by show (-1 : Int) ≤ left - 1; omega⟩
  | d + 1, v, left, h => by
    rw [obsP]
    split
    · exact ⟨Int.le_refl _, by simp only; omega⟩
    · split
      · exact ⟨by simp only; omega, Int.le_refl _⟩
      · have := obsL_b (obsP d) (obsP_b d) v.l (left - 1) [] (by omega)
        unfold obsE
        split
        · exact ⟨Int.le_refl _, by simp only; omega⟩
        · exact this
def ObOk (r : ValD × Int) (w : World) (e : Ending) (w' : World) : Prop := ∃ y : ExpD, e = .returned (.tuple #[.agg (rowV y.op y.n y.s y.lv), .int .i64 r.2]) ∧ stripX y = r.1 ∧ IsO w.heap.size none w' y ∧ w.grownBy w' none
theorem obOk_zero (w : World) {w' : World} (hg : w.grownBy w' none) : ObOk (default, -1) w (.returned (.tuple #[.agg (rowV 0 0 ⟨#[]⟩ (.slice none 0 0)), .int .i64 (-1)])) w' :=
  ⟨.mk 0 0 ⟨#[]⟩ (.slice none 0 0) [], rfl, default_strip, isO_flat _ _ _ _ _ _, hg⟩
set_option maxHeartbeats 2000000 in
set_option maxRecDepth 100000 in
theorem observe_zero (x : ExpD) (left d : Int) (w : World) (hx : ∃ a c n, x.lv = .slice a n c) (h : left ≤ 0 ∨ d ≤ 0) :
    Calls Tryz.prog 30 #[expV x, .int .i64 left, .int .i64 d] w (ObOk (default, -1) w) := by
  obtain ⟨xo, xn, xs, xv, xl⟩ := x
  obtain ⟨a, c, n, rfl⟩ := hx
  rw [expV_mk]
  have g0 := grown_alloc w (.cells #[.int .i64 xo, .int .i64 xn, .string xs, .slice a n c] 77)
  have e0 : (w.alloc (.cells #[.int .i64 xo, .int .i64 xn, .string xs, .slice a n c] 77)).heap.size = w.heap.size + 1 := by simp
  go_enter Tryz.func30, Tryz.ntmps30
  go_upto_region 1 with fail
  change Code.wp _ _ _ _ ((w.alloc (.cells #[.int .i64 xo, .int .i64 xn, .string xs, .slice a n c] 77)).alloc (.cells (rowV 0 0 ⟨#[]⟩ (.slice none 0 0)) 48))
  generalize w.alloc (.cells #[.int .i64 xo, .int .i64 xn, .string xs, .slice a n c] 77) = W at *
  have g1 := grown_alloc W (.cells (rowV 0 0 ⟨#[]⟩ (.slice none 0 0)) 48)
  have n1 := heap_alloc_at e0 (.cells (rowV 0 0 ⟨#[]⟩ (.slice none 0 0)) 48)
  generalize W.alloc (.cells (rowV 0 0 ⟨#[]⟩ (.slice none 0 0)) 48) = A at *
  have gg := both g0 g1
  have hd : (decide (left ≤ 0) || decide (d ≤ 0)) = true := by rcases h with h | h <;> simp [h]
  by_cases hl : left ≤ 0
  · go_wp2_with (refine wpList_store_row rfl 48 _ _ rfl (w.heap.size + 1) (rowV 0 0 ⟨#[]⟩ (.slice none 0 0)) rfl rfl 48 _ n1 infoV rfl (all_one _ rfl) ?_)
    have q2 := setRow_heap _ _ _ (rowV 0 0 ⟨#[]⟩ (.slice none 0 0)) _ _ n1
    exact bodyPost_ret (results_row_tmp (p := 6) (u := 7) rfl _ _ (w.heap.size + 1) 48 _ (0, 0) _ rfl q2 Tryz.underlying48 infoV) rfl (obOk_zero w (grown_setRow gg (by omega) _))
  · have hd2 : d ≤ 0 := by omega
    go_wp2_with (refine wpList_store_row rfl 48 _ _ rfl (w.heap.size + 1) (rowV 0 0 ⟨#[]⟩ (.slice none 0 0)) rfl rfl 48 _ n1 infoV rfl (all_one _ rfl) ?_)
    have q2 := setRow_heap _ _ _ (rowV 0 0 ⟨#[]⟩ (.slice none 0 0)) _ _ n1
    exact bodyPost_ret (results_row_tmp (p := 6) (u := 7) rfl _ _ (w.heap.size + 1) 48 _ (0, 0) _ rfl q2 Tryz.underlying48 infoV) rfl (obOk_zero w (grown_setRow gg (by omega) _))
set_option maxHeartbeats 2000000 in
set_option maxRecDepth 100000 in
theorem observe_fun (x : ExpD) (left d : Int) (w : World) (hx : ∃ a c n, x.lv = .slice a n c) (h : 0 < left) (hl2 : left ≤ 20000) (hd : 0 < d) (h7 : x.op = 7) :
    Calls Tryz.prog 30 #[expV x, .int .i64 left, .int .i64 d] w (ObOk (.mk 7 0 ⟨#[]⟩ [], left - 1) w) := by
  obtain ⟨xo, xn, xs, xv, xl⟩ := x
  obtain ⟨a, c, n, rfl⟩ := hx
  obtain rfl : xo = 7 := h7
  rw [expV_mk]
  have g0 := grown_alloc w (.cells #[.int .i64 7, .int .i64 xn, .string xs, .slice a n c] 77)
  have n0 := heap_alloc_new w (.cells #[.int .i64 7, .int .i64 xn, .string xs, .slice a n c] 77)
  have e0 : (w.alloc (.cells #[.int .i64 7, .int .i64 xn, .string xs, .slice a n c] 77)).heap.size = w.heap.size + 1 := by simp
  have w1 : IntKind.i64.wrap (left - 1) = left - 1 := wrap_ok _ (by omega) (by omega)
  go_enter Tryz.func30, Tryz.ntmps30
  go_upto_region 1 with fail
  change Code.wp _ _ _ _ ((w.alloc (.cells #[.int .i64 7, .int .i64 xn, .string xs, .slice a n c] 77)).alloc (.cells (rowV 0 0 ⟨#[]⟩ (.slice none 0 0)) 48))
  generalize w.alloc (.cells #[.int .i64 7, .int .i64 xn, .string xs, .slice a n c] 77) = W at *
  have g1 := grown_alloc W (.cells (rowV 0 0 ⟨#[]⟩ (.slice none 0 0)) 48)
  have n1 := heap_alloc_at e0 (.cells (rowV 0 0 ⟨#[]⟩ (.slice none 0 0)) 48)
  generalize W.alloc (.cells (rowV 0 0 ⟨#[]⟩ (.slice none 0 0)) 48) = A at *
  obtain ⟨c0, c1, c2, c3⟩ := cells4 ((g1.block _ (heap_lt n0) (by nofun)).trans n0)
  have gg := both g0 g1
  have hl1 : ¬ left ≤ 0 := by omega
  have hd1 : ¬ d ≤ 0 := by omega
  go_wp2_with (refine wpList_store_row rfl 48 _ _ rfl (w.heap.size + 1) (rowV 7 0 ⟨#[]⟩ (.slice none 0 0)) rfl rfl 48 _ n1 infoV rfl (all_one _ rfl) ?_)
  have q2 := setRow_heap _ _ _ (rowV 7 0 ⟨#[]⟩ (.slice none 0 0)) _ _ n1
  exact bodyPost_ret (results_row_tmp (p := 6) (u := 7) rfl _ _ (w.heap.size + 1) 48 _ (0, 0) _ rfl q2 Tryz.underlying48 infoV) rfl ⟨.mk 7 0 ⟨#[]⟩ (.slice none 0 0) [], rfl, by rw [stripX_mk, stripL], isO_flat _ _ _ _ _ _, grown_setRow gg (by omega) _⟩
end Go.Proofs.YtidolpcbbbakmaaGreat
