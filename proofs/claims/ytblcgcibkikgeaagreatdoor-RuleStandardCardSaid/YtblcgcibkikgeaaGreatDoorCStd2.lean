/- Part 2 of the proof of RuleStandard: contracts of the functions that the law reaches (walked over the translation), and plain lemmas; no condition of its own beyond those that each theorem states. -/
import Derived.Test.YtblcgcibkikgeaaGreatDoorProg
import Derived.WalkSmall
import Derived.Lib.ItoaMem
import Derived.Sort.Walk0
import Derived.Shelf.Abstract
import Derived.Shelf.Strings.BuilderF
import Derived.Shelf.Strings.OnBuilder
import Derived.Shelf.Strings.Repeat
import Derived.Shelf.Small.Wraps
import Derived.Shelf.Pu.ParseUintPublic10
import Derived.Shelf.Strings.SlTrimAscii
import Derived.Shelf.Strings.Shaped
import Derived.Shelf.Strconv.Itoa3
import Derived.Lib.LazyBuf
import Derived.Laws.CopyOwn
import Derived.Lib.Walk
import Derived.BigCall
import Derived.BigGuard
import Derived.Lib.AppendIntMem
import Derived.Test.YtblcgcibkikgeaaGreatDoorCStd1
section
namespace Go.Proofs.YtblcgcibkikgeaaGreatDoor.K
open Go.RowKit
@[go_sem] theorem string_gtr_own (t : TypeId) (a b : ByteArray) : binOp .gtr t (.string a) (.string b) = pure (.bool (Op.bytesLess b.toList a.toList)) := by
  have h : (!(Op.bytesLess a.toList b.toList || a.toList == b.toList)) = Op.bytesLess b.toList a.toList := by
    rw [bytesLess_eq, bytesLess_eq]
    by_cases h1 : a.toList < b.toList
    · have h2 : ¬ b.toList < a.toList := List.lt_asymm h1
      simp [h1, h2]
    · by_cases h2 : a.toList = b.toList
      · rw [h2]
        have := List.lt_irrefl b.toList
        simp [this]
      · have h3 : b.toList < a.toList := Classical.byContradiction fun h => h2 (List.le_antisymm (List.not_lt.1 h) (List.not_lt.1 h1))
        simp [h1, h2, h3]
  rw [← h]
  simp [binOp, Op.stringOp]
structure Laid (w : World) : Prop where
  tab : Lib.TabIs Tryz.prog w "internal/strconv.uint64pow10" .u64 Lib.pow10Tab
  most : ∃ m : Int, w.cell? ⟨0, 0, none⟩ = some (.int .i64 m)
theorem named_pow10 : Tryz.prog.globalNamed "internal/strconv.uint64pow10" = some 5 := by kernel_rfl
theorem Laid.lt {w : World} (h : Laid w) : 5 < w.heap.size := by
  have := h.tab
  unfold Lib.TabIs World.var? at this
  rw [named_pow10] at this
  simp only [Option.bind_some] at this
  rcases Nat.lt_or_ge 5 w.heap.size with h1 | h1
  · exact h1
  · rw [Array.getElem?_eq_none h1] at this
    simp at this
theorem Laid.below {w w' : World} (h : Laid w) (hb : Below w.heap.size w w') : Laid w' :=
  ⟨var?_below hb named_pow10 h.lt h.tab, by
    obtain ⟨m, hm⟩ := h.most
    exact ⟨m, (hb.cell (World.block_lt_of_cell? w _ hm)).trans hm⟩⟩
end Go.Proofs.YtblcgcibkikgeaaGreatDoor.K
end
section
namespace Go.Proofs.YtblcgcibkikgeaaGreatDoor.K
open Go.RowKit Go.Proofs.YtblcgcibkikgeaaGreatDoorW.PrintWords Go.Proofs.YtblcgcibkikgeaaGreatDoorW.PrintLast Go.Proofs.YtblcgcibkikgeaaGreatDoorW.PrintMore
attribute [local go_sem] max2_int min2_int max_two min_two max_three min_three max_four min_four
set_option linter.unusedVariables false
set_option linter.unusedSimpArgs false
def errW : Option Int → Value
 | none => .nilIface
 | some c => .iface 0 (.int .i64 c)
theorem info9 : (Tryz.prog.info? 9).map (fun i => (i.zero, i.size, i.bytes)) = some (some (.string ⟨#[]⟩), 1, 16) := by kernel_rfl
theorem info32 : (Tryz.prog.info? 32).map (fun i => (i.zero, i.size, i.bytes)) = some (some (.agg #[(.int .i64 0), (.slice none 0 0)]), 2, 32) := by kernel_rfl
theorem info48 : (Tryz.prog.info? 48).map (fun i => (i.zero, i.size, i.bytes)) = some (some (.agg #[(.string ⟨#[]⟩), (.int .i64 0)]), 2, 24) := by kernel_rfl
theorem info53 : (Tryz.prog.info? 53).map (fun i => (i.zero, i.size, i.bytes)) = some (some (.agg #[(.string ⟨#[]⟩), (.bool false), (.slice none 0 0)]), 3, 48) := by kernel_rfl
theorem info113 : (Tryz.prog.info? 113).map (fun i => (i.zero, i.size, i.bytes)) = some (some (.agg #[(.string ⟨#[]⟩), (.string ⟨#[]⟩)]), 2, 32) := by kernel_rfl
theorem info198 : (Tryz.prog.info? 198).map (fun i => (i.zero, i.size, i.bytes)) = some (some (.int .u64 0), 1, 8) := by kernel_rfl
structure S113 where
 f0 : ByteArray
 f1 : ByteArray
def z113 : S113 := ⟨(⟨#[]⟩ : ByteArray), (⟨#[]⟩ : ByteArray)⟩
def k113 : Kd S113 := Kd.iso (Kd.pair Kd.string Kd.string) (fun x : S113 => (x.f0, x.f1))
theorem k113_open {w : World} {x : S113} {cs : List Value} (h : k113.K w x cs) : cs = [.string x.f0, .string x.f1] := by
 obtain ⟨_, _, rfl, rfl, rfl⟩ := h
 exact rfl
theorem k113_mkM (w : World) (base : Nat) (ok : Nat → Prop) (x : S113)  : k113.M w base ok x [.string x.f0, .string x.f1] := ⟨[.string x.f0], [.string x.f1], rfl, rfl, rfl⟩
def rd_T113 (xs : List S113) (i : Int) : S113 := xs.getD i.toNat z113
theorem at_T113 {w : World} {A : Option Addr} {n : Nat} {xs : List S113} (h : Kd.C k113 w A n xs) (i : Int) (h0 : 0 ≤ i) (h1 : i < n) : ∃ ad , A = some ad ∧ w.cell? (ad.add (i.toNat * 2)) = some (.string (rd_T113 xs i).f0) ∧ w.cell? ⟨(ad.add (i.toNat * 2)).block, (ad.add (i.toNat * 2)).off + 1, none⟩ = some (.string (rd_T113 xs i).f1) := by
 obtain ⟨ad, c, e, _, hK, hc0⟩ := Kd.C_get h z113 i h0 h1
 have hc : ∀ j u, c[j]? = some u → w.cell? (ad.add (i.toNat * 2 + j)) = some u := hc0
 obtain rfl := k113_open hK
 exact ⟨ad, e, hc 0 _ rfl, by rw [← add_field _ _ 1 (by omega)]; exact hc 1 _ rfl⟩
structure S53 where
 f0 : ByteArray
 f1 : Bool
 f2 : (List S113)
def z53 : S53 := ⟨(⟨#[]⟩ : ByteArray), false, ([] : List S113)⟩
def k53 : Kd S53 := Kd.iso (Kd.pair Kd.string (Kd.pair Kd.bool (Kd.slice 113 k113))) (fun x : S53 => (x.f0, x.f1, x.f2))
theorem k53_open {w : World} {x : S53} {cs : List Value} (h : k53.K w x cs) : ∃ A2 c2, cs = [.string x.f0, .bool x.f1, .slice A2 x.f2.length c2] ∧ x.f2.length ≤ c2 ∧ k113.C w A2 x.f2.length x.f2 := by
 obtain ⟨_, _, rfl, rfl, ⟨_, _, rfl, rfl, ⟨A2, c2, rfl, l2, g2⟩⟩⟩ := h
 exact ⟨A2, c2, rfl, l2, g2⟩
theorem k53_mkM (w : World) (base : Nat) (ok : Nat → Prop) (x : S53) {v2 : Value} (g2 : k113.R 113 w base ok v2 x.f2) : k53.M w base ok x [.string x.f0, .bool x.f1, v2] := ⟨[.string x.f0], [.bool x.f1, v2], rfl, rfl, ⟨[.bool x.f1], [v2], rfl, rfl, ⟨v2, rfl, g2⟩⟩⟩
def rd_T53 (xs : List S53) (i : Int) : S53 := xs.getD i.toNat z53
theorem at_T53 {w : World} {A : Option Addr} {n : Nat} {xs : List S53} (h : Kd.C k53 w A n xs) (i : Int) (h0 : 0 ≤ i) (h1 : i < n) : ∃ ad A2 c2, A = some ad ∧ w.cell? (ad.add (i.toNat * 3)) = some (.string (rd_T53 xs i).f0) ∧ w.cell? ⟨(ad.add (i.toNat * 3)).block, (ad.add (i.toNat * 3)).off + 1, none⟩ = some (.bool (rd_T53 xs i).f1) ∧ w.cell? ⟨(ad.add (i.toNat * 3)).block, (ad.add (i.toNat * 3)).off + 2, none⟩ = some (.slice A2 (rd_T53 xs i).f2.length c2) ∧ (rd_T53 xs i).f2.length ≤ c2 ∧ k113.C w A2 (rd_T53 xs i).f2.length (rd_T53 xs i).f2 := by
 obtain ⟨ad, c, e, _, hK, hc0⟩ := Kd.C_get h z53 i h0 h1
 have hc : ∀ j u, c[j]? = some u → w.cell? (ad.add (i.toNat * 3 + j)) = some u := hc0
 obtain ⟨A2, c2, rfl, l2, g2⟩ := k53_open hK
 exact ⟨ad, A2, c2, e, hc 0 _ rfl, by rw [← add_field _ _ 1 (by omega)]; exact hc 1 _ rfl, by rw [← add_field _ _ 2 (by omega)]; exact hc 2 _ rfl, l2, g2⟩
structure S32 where
 f0 : Int
 f1 : (List S53)
def z32 : S32 := ⟨(0 : Int), ([] : List S53)⟩
def k32 : Kd S32 := Kd.iso (Kd.pair (Kd.int .i64) (Kd.slice 53 k53)) (fun x : S32 => (x.f0, x.f1))
theorem k32_open {w : World} {x : S32} {cs : List Value} (h : k32.K w x cs) : ∃ A1 c1, cs = [.int .i64 x.f0, .slice A1 x.f1.length c1] ∧ x.f1.length ≤ c1 ∧ k53.C w A1 x.f1.length x.f1 := by
 obtain ⟨_, _, rfl, rfl, ⟨A1, c1, rfl, l1, g1⟩⟩ := h
 exact ⟨A1, c1, rfl, l1, g1⟩
theorem k32_openM {w : World} {base : Nat} {ok : Nat → Prop} {x : S32} {cs : List Value} (h : k32.M w base ok x cs) : ∃ v1, cs = [.int .i64 x.f0, v1] ∧ k53.R 53 w base ok v1 x.f1 := by
 obtain ⟨_, _, rfl, rfl, ⟨v1, rfl, g1⟩⟩ := h
 exact ⟨v1, rfl, g1⟩
theorem k32_mkM (w : World) (base : Nat) (ok : Nat → Prop) (x : S32) {v1 : Value} (g1 : k53.R 53 w base ok v1 x.f1) : k32.M w base ok x [.int .i64 x.f0, v1] := ⟨[.int .i64 x.f0], [v1], rfl, rfl, ⟨v1, rfl, g1⟩⟩
def rd_T32 (xs : List S32) (i : Int) : S32 := xs.getD i.toNat z32
theorem at_T32 {w : World} {A : Option Addr} {n : Nat} {xs : List S32} (h : Kd.C k32 w A n xs) (i : Int) (h0 : 0 ≤ i) (h1 : i < n) : ∃ ad A1 c1, A = some ad ∧ w.cell? (ad.add (i.toNat * 2)) = some (.int .i64 (rd_T32 xs i).f0) ∧ w.cell? ⟨(ad.add (i.toNat * 2)).block, (ad.add (i.toNat * 2)).off + 1, none⟩ = some (.slice A1 (rd_T32 xs i).f1.length c1) ∧ (rd_T32 xs i).f1.length ≤ c1 ∧ k53.C w A1 (rd_T32 xs i).f1.length (rd_T32 xs i).f1 := by
 obtain ⟨ad, c, e, _, hK, hc0⟩ := Kd.C_get h z32 i h0 h1
 have hc : ∀ j u, c[j]? = some u → w.cell? (ad.add (i.toNat * 2 + j)) = some u := hc0
 obtain ⟨A1, c1, rfl, l1, g1⟩ := k32_open hK
 exact ⟨ad, A1, c1, e, hc 0 _ rfl, by rw [← add_field _ _ 1 (by omega)]; exact hc 1 _ rfl, l1, g1⟩
structure S48 where
 f0 : ByteArray
 f1 : Int
def z48 : S48 := ⟨(⟨#[]⟩ : ByteArray), (0 : Int)⟩
def k48 : Kd S48 := Kd.iso (Kd.pair Kd.string (Kd.int .i64)) (fun x : S48 => (x.f0, x.f1))
theorem k48_open {w : World} {x : S48} {cs : List Value} (h : k48.K w x cs) : cs = [.string x.f0, .int .i64 x.f1] := by
 obtain ⟨_, _, rfl, rfl, rfl⟩ := h
 exact rfl
theorem k48_mkM (w : World) (base : Nat) (ok : Nat → Prop) (x : S48)  : k48.M w base ok x [.string x.f0, .int .i64 x.f1] := ⟨[.string x.f0], [.int .i64 x.f1], rfl, rfl, rfl⟩
def rd_T48 (xs : List S48) (i : Int) : S48 := xs.getD i.toNat z48
theorem at_T48 {w : World} {A : Option Addr} {n : Nat} {xs : List S48} (h : Kd.C k48 w A n xs) (i : Int) (h0 : 0 ≤ i) (h1 : i < n) : ∃ ad , A = some ad ∧ w.cell? (ad.add (i.toNat * 2)) = some (.string (rd_T48 xs i).f0) ∧ w.cell? ⟨(ad.add (i.toNat * 2)).block, (ad.add (i.toNat * 2)).off + 1, none⟩ = some (.int .i64 (rd_T48 xs i).f1) := by
 obtain ⟨ad, c, e, _, hK, hc0⟩ := Kd.C_get h z48 i h0 h1
 have hc : ∀ j u, c[j]? = some u → w.cell? (ad.add (i.toNat * 2 + j)) = some u := hc0
 obtain rfl := k48_open hK
 exact ⟨ad, e, hc 0 _ rfl, by rw [← add_field _ _ 1 (by omega)]; exact hc 1 _ rfl⟩
end Go.Proofs.YtblcgcibkikgeaaGreatDoor.K
end
section
namespace Go.Proofs
open Go.Shelf
def Tryz.lays169_ren : Go.Shelf.Ren := ⟨fun | 169 => 91 | n => n, fun | 70 => 128 | 9 => 9 | 0 => 0 | 72 => 131 | 37 => 129 | 127 => 176 | 3 => 3 | 5 => 5 | n => n, fun | n => n⟩
theorem Tryz.lays169 : Go.Proofs.Lays.n169 Tryz.prog Tryz.lays169_ren := {
  mixed := by kernel_rfl
  f169 := Tryz.func91.trans (congrArg some (by kernel_rfl))
  t0 := Tryz.underlying0
  a0 := Tryz.isAgg0
  z0 := Tryz.sizeOf0
  v0 := Tryz.zeroValue0
  t3 := Tryz.underlying3
  a3 := Tryz.isAgg3
  z3 := Tryz.sizeOf3
  v3 := Tryz.zeroValue3
  t9 := Tryz.underlying9
  a9 := Tryz.isAgg9
  z9 := Tryz.sizeOf9
  v9 := Tryz.zeroValue9
  t37 := Tryz.underlying129
  a37 := Tryz.isAgg129
  z37 := Tryz.sizeOf129
  v37 := Tryz.zeroValue129
  t70 := Tryz.underlying128
  a70 := Tryz.isAgg128
  z70 := Tryz.sizeOf128
  v70 := Tryz.zeroValue128
  t72 := Tryz.underlying131
  a72 := Tryz.isAgg131
  z72 := Tryz.sizeOf131
  v72 := Tryz.zeroValue131
  t127 := Tryz.underlying176
  a127 := Tryz.isAgg176
  z127 := Tryz.sizeOf176
  v127 := Tryz.zeroValue176 }
theorem Tryz.Builder_Extra_169 : Builder.Extra Tryz.prog Tryz.lays169_ren := {
  sizeBuilder := by kernel_rfl
  liesBuilder := by kernel_rfl
  t5 := Tryz.underlying5
  a5 := Tryz.isAgg5
  z5 := Tryz.sizeOf5
  v5 := Tryz.zeroValue5
  infoByte := by kernel_rfl
  cellsByte := by kernel_rfl
  sizeByte := by kernel_rfl
  neB5 := by decide }
def Tryz.lays156_ren : Go.Shelf.Ren := ⟨fun | 156 => 183 | 165 => 225 | 166 => 88 | 169 => 91 | 240 => 132 | 241 => 247 | 276 => 186 | 277 => 265 | n => n, fun | 31 => 36 | 9 => 9 | 3 => 3 | 4 => 4 | 0 => 0 | 20 => 20 | 72 => 131 | 76 => 134 | 70 => 128 | 37 => 129 | 75 => 133 | 127 => 176 | 164 => 216 | 5 => 5 | 80 => 106 | n => n, fun | n => n⟩
theorem Tryz.lays156 : Go.Proofs.Lays.n156 Tryz.prog Tryz.lays156_ren := {
  mixed := by kernel_rfl
  f156 := Tryz.func183.trans (congrArg some (by kernel_rfl))
  f165 := Tryz.func225.trans (congrArg some (by kernel_rfl))
  f166 := Tryz.func88.trans (congrArg some (by kernel_rfl))
  f169 := Tryz.func91.trans (congrArg some (by kernel_rfl))
  f240 := Tryz.func132.trans (congrArg some (by kernel_rfl))
  f241 := Tryz.func247.trans (congrArg some (by kernel_rfl))
  f276 := Tryz.func186.trans (congrArg some (by kernel_rfl))
  f277 := Tryz.func265.trans (congrArg some (by kernel_rfl))
  t0 := Tryz.underlying0
  a0 := Tryz.isAgg0
  z0 := Tryz.sizeOf0
  v0 := Tryz.zeroValue0
  t3 := Tryz.underlying3
  a3 := Tryz.isAgg3
  z3 := Tryz.sizeOf3
  v3 := Tryz.zeroValue3
  t4 := Tryz.underlying4
  a4 := Tryz.isAgg4
  z4 := Tryz.sizeOf4
  v4 := Tryz.zeroValue4
  t9 := Tryz.underlying9
  a9 := Tryz.isAgg9
  z9 := Tryz.sizeOf9
  v9 := Tryz.zeroValue9
  t20 := Tryz.underlying20
  a20 := Tryz.isAgg20
  z20 := Tryz.sizeOf20
  v20 := Tryz.zeroValue20
  t31 := Tryz.underlying36
  a31 := Tryz.isAgg36
  z31 := Tryz.sizeOf36
  v31 := Tryz.zeroValue36
  t37 := Tryz.underlying129
  a37 := Tryz.isAgg129
  z37 := Tryz.sizeOf129
  v37 := Tryz.zeroValue129
  t70 := Tryz.underlying128
  a70 := Tryz.isAgg128
  z70 := Tryz.sizeOf128
  v70 := Tryz.zeroValue128
  t72 := Tryz.underlying131
  a72 := Tryz.isAgg131
  z72 := Tryz.sizeOf131
  v72 := Tryz.zeroValue131
  t75 := Tryz.underlying133
  a75 := Tryz.isAgg133
  z75 := Tryz.sizeOf133
  v75 := Tryz.zeroValue133
  t76 := Tryz.underlying134
  a76 := Tryz.isAgg134
  z76 := Tryz.sizeOf134
  v76 := Tryz.zeroValue134
  t127 := Tryz.underlying176
  a127 := Tryz.isAgg176
  z127 := Tryz.sizeOf176
  v127 := Tryz.zeroValue176
  t164 := Tryz.underlying216
  a164 := Tryz.isAgg216
  z164 := Tryz.sizeOf216
  v164 := Tryz.zeroValue216 }
theorem Tryz.Builder_Extra_156 : Builder.Extra Tryz.prog Tryz.lays156_ren := {
  sizeBuilder := by kernel_rfl
  liesBuilder := by kernel_rfl
  t5 := Tryz.underlying5
  a5 := Tryz.isAgg5
  z5 := Tryz.sizeOf5
  v5 := Tryz.zeroValue5
  infoByte := by kernel_rfl
  cellsByte := by kernel_rfl
  sizeByte := by kernel_rfl
  neB5 := by decide }
open Go.RowKit in
theorem Tryz.strings_Join (bk o c : Nat) (xs : List ByteArray) (sep : ByteArray) (w : World) (hcells : ∀ (j : Nat) x, xs[j]? = some x → w.cell? ⟨bk, o + j, none⟩ = some (.string x)) (hbk : bk < w.heap.size) (hN : xs.length ≤ 140737488355328) (hcap : xs.length ≤ c) (hlen : (Lib.join (xs.map (·.data.toList)) sep.data.toList).length ≤ 140737488355328) :
    Calls Tryz.prog 183 #[.slice (some ⟨bk, o, none⟩) xs.length c, .string sep] w fun e w' => e = .returned (.string ⟨(Lib.join (xs.map (·.data.toList)) sep.data.toList).toArray⟩) ∧ Below w.heap.size w w' := Any.strings_Join Tryz.lays156 Tryz.Builder_Extra_156 bk o c xs sep w hcells hbk hN hcap hlen
def Tryz.lays161_ren : Go.Shelf.Ren := ⟨fun | 161 => 190 | 231 => 226 | 227 => 228 | 233 => 229 | 235 => 231 | 228 => 248 | 197 => 217 | 151 => 249 | 260 => 244 | 152 => 266 | 137 => 275 | 119 => 276 | 224 => 221 | 225 => 220 | 217 => 219 | 266 => 245 | n => n, fun | 9 => 9 | 4 => 4 | 3 => 3 | 5 => 5 | 117 => 251 | 116 => 250 | 0 => 0 | 124 => 254 | 105 => 243 | 21 => 21 | 119 => 282 | 46 => 151 | 139 => 285 | 138 => 284 | n => n, fun | 3 => 1 | 4 => 2 | n => n⟩
theorem Tryz.lays161 : Go.Proofs.Lays.n161 Tryz.prog Tryz.lays161_ren := {
  mixed := by kernel_rfl
  f119 := Tryz.func276.trans (congrArg some (by kernel_rfl))
  f137 := Tryz.func275.trans (congrArg some (by kernel_rfl))
  f151 := Tryz.func249.trans (congrArg some (by kernel_rfl))
  f152 := Tryz.func266.trans (congrArg some (by kernel_rfl))
  f161 := Tryz.func190.trans (congrArg some (by kernel_rfl))
  f197 := Tryz.func217.trans (congrArg some (by kernel_rfl))
  f217 := Tryz.func219.trans (congrArg some (by kernel_rfl))
  f224 := Tryz.func221.trans (congrArg some (by kernel_rfl))
  f225 := Tryz.func220.trans (congrArg some (by kernel_rfl))
  f227 := Tryz.func228.trans (congrArg some (by kernel_rfl))
  f228 := Tryz.func248.trans (congrArg some (by kernel_rfl))
  f231 := Tryz.func226.trans (congrArg some (by kernel_rfl))
  f233 := Tryz.func229.trans (congrArg some (by kernel_rfl))
  f235 := Tryz.func231.trans (congrArg some (by kernel_rfl))
  f260 := Tryz.func244.trans (congrArg some (by kernel_rfl))
  f266 := Tryz.func245.trans (congrArg some (by kernel_rfl))
  t0 := Tryz.underlying0
  a0 := Tryz.isAgg0
  z0 := Tryz.sizeOf0
  v0 := Tryz.zeroValue0
  t3 := Tryz.underlying3
  a3 := Tryz.isAgg3
  z3 := Tryz.sizeOf3
  v3 := Tryz.zeroValue3
  t4 := Tryz.underlying4
  a4 := Tryz.isAgg4
  z4 := Tryz.sizeOf4
  v4 := Tryz.zeroValue4
  t5 := Tryz.underlying5
  a5 := Tryz.isAgg5
  z5 := Tryz.sizeOf5
  v5 := Tryz.zeroValue5
  t9 := Tryz.underlying9
  a9 := Tryz.isAgg9
  z9 := Tryz.sizeOf9
  v9 := Tryz.zeroValue9
  t21 := Tryz.underlying21
  a21 := Tryz.isAgg21
  z21 := Tryz.sizeOf21
  v21 := Tryz.zeroValue21
  t46 := Tryz.underlying151
  a46 := Tryz.isAgg151
  z46 := Tryz.sizeOf151
  v46 := Tryz.zeroValue151
  t105 := Tryz.underlying243
  a105 := Tryz.isAgg243
  z105 := Tryz.sizeOf243
  v105 := Tryz.zeroValue243
  t116 := Tryz.underlying250
  a116 := Tryz.isAgg250
  z116 := Tryz.sizeOf250
  t117 := Tryz.underlying251
  a117 := Tryz.isAgg251
  z117 := Tryz.sizeOf251
  v117 := Tryz.zeroValue251
  t119 := Tryz.underlying282
  a119 := Tryz.isAgg282
  z119 := Tryz.sizeOf282
  t124 := Tryz.underlying254
  a124 := Tryz.isAgg254
  z124 := Tryz.sizeOf254
  v124 := Tryz.zeroValue254
  t138 := Tryz.underlying284
  a138 := Tryz.isAgg284
  z138 := Tryz.sizeOf284
  v138 := Tryz.zeroValue284
  t139 := Tryz.underlying285
  a139 := Tryz.isAgg285
  z139 := Tryz.sizeOf285
  v139 := Tryz.zeroValue285
  g3 := by kernel_rfl
  g4 := by kernel_rfl }
def Tryz.lays160_ren : Go.Shelf.Ren := ⟨fun | 160 => 189 | 232 => 227 | 231 => 226 | 227 => 228 | 234 => 230 | 233 => 229 | 236 => 232 | 235 => 231 | 228 => 248 | 271 => 250 | 151 => 249 | 197 => 217 | 120 => 267 | 152 => 266 | 260 => 244 | 137 => 275 | 119 => 276 | 224 => 221 | 225 => 220 | 217 => 219 | 266 => 245 | n => n, fun | 9 => 9 | 4 => 4 | 3 => 3 | 5 => 5 | 117 => 251 | 116 => 250 | 0 => 0 | 124 => 254 | 21 => 21 | 105 => 243 | 46 => 151 | 119 => 282 | 139 => 285 | 138 => 284 | n => n, fun | 3 => 1 | 4 => 2 | n => n⟩
theorem Tryz.lays160 : Go.Proofs.Lays.n160 Tryz.prog Tryz.lays160_ren := {
  mixed := by kernel_rfl
  f119 := Tryz.func276.trans (congrArg some (by kernel_rfl))
  f120 := Tryz.func267.trans (congrArg some (by kernel_rfl))
  f137 := Tryz.func275.trans (congrArg some (by kernel_rfl))
  f151 := Tryz.func249.trans (congrArg some (by kernel_rfl))
  f152 := Tryz.func266.trans (congrArg some (by kernel_rfl))
  f160 := Tryz.func189.trans (congrArg some (by kernel_rfl))
  f197 := Tryz.func217.trans (congrArg some (by kernel_rfl))
  f217 := Tryz.func219.trans (congrArg some (by kernel_rfl))
  f224 := Tryz.func221.trans (congrArg some (by kernel_rfl))
  f225 := Tryz.func220.trans (congrArg some (by kernel_rfl))
  f227 := Tryz.func228.trans (congrArg some (by kernel_rfl))
  f228 := Tryz.func248.trans (congrArg some (by kernel_rfl))
  f231 := Tryz.func226.trans (congrArg some (by kernel_rfl))
  f232 := Tryz.func227.trans (congrArg some (by kernel_rfl))
  f233 := Tryz.func229.trans (congrArg some (by kernel_rfl))
  f234 := Tryz.func230.trans (congrArg some (by kernel_rfl))
  f235 := Tryz.func231.trans (congrArg some (by kernel_rfl))
  f236 := Tryz.func232.trans (congrArg some (by kernel_rfl))
  f260 := Tryz.func244.trans (congrArg some (by kernel_rfl))
  f266 := Tryz.func245.trans (congrArg some (by kernel_rfl))
  f271 := Tryz.func250.trans (congrArg some (by kernel_rfl))
  t0 := Tryz.underlying0
  a0 := Tryz.isAgg0
  z0 := Tryz.sizeOf0
  v0 := Tryz.zeroValue0
  t3 := Tryz.underlying3
  a3 := Tryz.isAgg3
  z3 := Tryz.sizeOf3
  v3 := Tryz.zeroValue3
  t4 := Tryz.underlying4
  a4 := Tryz.isAgg4
  z4 := Tryz.sizeOf4
  v4 := Tryz.zeroValue4
  t5 := Tryz.underlying5
  a5 := Tryz.isAgg5
  z5 := Tryz.sizeOf5
  v5 := Tryz.zeroValue5
  t9 := Tryz.underlying9
  a9 := Tryz.isAgg9
  z9 := Tryz.sizeOf9
  v9 := Tryz.zeroValue9
  t21 := Tryz.underlying21
  a21 := Tryz.isAgg21
  z21 := Tryz.sizeOf21
  v21 := Tryz.zeroValue21
  t46 := Tryz.underlying151
  a46 := Tryz.isAgg151
  z46 := Tryz.sizeOf151
  v46 := Tryz.zeroValue151
  t105 := Tryz.underlying243
  a105 := Tryz.isAgg243
  z105 := Tryz.sizeOf243
  v105 := Tryz.zeroValue243
  t116 := Tryz.underlying250
  a116 := Tryz.isAgg250
  z116 := Tryz.sizeOf250
  t117 := Tryz.underlying251
  a117 := Tryz.isAgg251
  z117 := Tryz.sizeOf251
  v117 := Tryz.zeroValue251
  t119 := Tryz.underlying282
  a119 := Tryz.isAgg282
  z119 := Tryz.sizeOf282
  t124 := Tryz.underlying254
  a124 := Tryz.isAgg254
  z124 := Tryz.sizeOf254
  v124 := Tryz.zeroValue254
  t138 := Tryz.underlying284
  a138 := Tryz.isAgg284
  z138 := Tryz.sizeOf284
  v138 := Tryz.zeroValue284
  t139 := Tryz.underlying285
  a139 := Tryz.isAgg285
  z139 := Tryz.sizeOf285
  v139 := Tryz.zeroValue285
  g3 := by kernel_rfl
  g4 := by kernel_rfl }
def Tryz.lays103_ren : Go.Shelf.Ren := ⟨fun | 103 => 121 | 210 => 164 | 206 => 211 | n => n, fun | 9 => 9 | 4 => 4 | 24 => 161 | 3 => 3 | n => n, fun | n => n⟩
theorem Tryz.lays103 : Go.Proofs.Lays.n103 Tryz.prog Tryz.lays103_ren := {
  mixed := by kernel_rfl
  f103 := Tryz.func121.trans (congrArg some (by kernel_rfl))
  f206 := Tryz.func211.trans (congrArg some (by kernel_rfl))
  f210 := Tryz.func164.trans (congrArg some (by kernel_rfl))
  t3 := Tryz.underlying3
  a3 := Tryz.isAgg3
  z3 := Tryz.sizeOf3
  v3 := Tryz.zeroValue3
  t4 := Tryz.underlying4
  a4 := Tryz.isAgg4
  z4 := Tryz.sizeOf4
  v4 := Tryz.zeroValue4
  t9 := Tryz.underlying9
  a9 := Tryz.isAgg9
  z9 := Tryz.sizeOf9
  v9 := Tryz.zeroValue9
  t24 := Tryz.underlying161
  a24 := Tryz.isAgg161
  z24 := Tryz.sizeOf161
  v24 := Tryz.zeroValue161 }
open Go.RowKit in
theorem Tryz.strings_CutPrefix (s p : ByteArray) (w : World) :
    Calls Tryz.prog 121 #[.string s, .string p] w fun e w' => e = .returned (.tuple #[.string ⟨(Lib.trimPrefix s.data.toList p.data.toList).toArray⟩, .bool (Lib.hasPrefix s.data.toList p.data.toList)]) ∧ w' = w := Any.strings_CutPrefix Tryz.lays103 s p w
open Go.RowKit in
theorem Tryz.Builder_String_any_f (B b : Nat) (l : List UInt8) (w : World) (h : Lib.IsBuilderF 131 5 B b (Lib.byteCells l) w) (hBw : B ≤ w.heap.size) :
    Calls Tryz.prog 91 #[.pointer (some ⟨b, 0, none⟩)] w fun e w' => e = .returned (.string ⟨l.toArray⟩) ∧ (Lib.IsBuilderF 131 5 B b (Lib.byteCells l) w' ∧ Below B w w') := Any.Builder_String_any_f Tryz.lays169 Tryz.Builder_Extra_169 B b l w h hBw
def Tryz.laysPu14_ren : Go.Shelf.Ren := ⟨fun | 14 => 192 | 16 => 233 | 17 => 234 | 19 => 251 | 20 => 252 | 21 => 253 | 22 => 254 | 23 => 255 | 24 => 256 | 25 => 268 | 27 => 270 | 26 => 269 | 28 => 277 | 29 => 280 | 30 => 257 | 31 => 258 | 32 => 259 | 33 => 260 | 35 => 154 | 34 => 271 | 36 => 272 | 37 => 273 | 38 => 274 | 39 => 278 | 40 => 279 | n => n, fun | 9 => 9 | 3 => 3 | 22 => 198 | 24 => 133 | 25 => 221 | 4 => 4 | 34 => 268 | 5 => 5 | 36 => 151 | 37 => 129 | 0 => 0 | 39 => 270 | 21 => 21 | 44 => 290 | 47 => 176 | 50 => 298 | 48 => 296 | 2 => 2 | 52 => 273 | 55 => 275 | 59 => 293 | 60 => 196 | 20 => 20 | 61 => 294 | 65 => 300 | 66 => 301 | 67 => 106 | n => n, fun | 0 => 3 | 1 => 4 | 2 => 5 | 3 => 6 | 4 => 7 | n => n⟩
theorem Tryz.laysPu14 : Go.Proofs.LaysPu.n14 Tryz.prog Tryz.laysPu14_ren := {
  mixed := by kernel_rfl
  f14 := Tryz.func192.trans (congrArg some (by kernel_rfl))
  f16 := Tryz.func233.trans (congrArg some (by kernel_rfl))
  f17 := Tryz.func234.trans (congrArg some (by kernel_rfl))
  f19 := Tryz.func251.trans (congrArg some (by kernel_rfl))
  f20 := Tryz.func252.trans (congrArg some (by kernel_rfl))
  f21 := Tryz.func253.trans (congrArg some (by kernel_rfl))
  f22 := Tryz.func254.trans (congrArg some (by kernel_rfl))
  f23 := Tryz.func255.trans (congrArg some (by kernel_rfl))
  f24 := Tryz.func256.trans (congrArg some (by kernel_rfl))
  f25 := Tryz.func268.trans (congrArg some (by kernel_rfl))
  f26 := Tryz.func269.trans (congrArg some (by kernel_rfl))
  f27 := Tryz.func270.trans (congrArg some (by kernel_rfl))
  f28 := Tryz.func277.trans (congrArg some (by kernel_rfl))
  f29 := Tryz.func280.trans (congrArg some (by kernel_rfl))
  f30 := Tryz.func257.trans (congrArg some (by kernel_rfl))
  f31 := Tryz.func258.trans (congrArg some (by kernel_rfl))
  f32 := Tryz.func259.trans (congrArg some (by kernel_rfl))
  f33 := Tryz.func260.trans (congrArg some (by kernel_rfl))
  f34 := Tryz.func271.trans (congrArg some (by kernel_rfl))
  f35 := Tryz.func154.trans (congrArg some (by kernel_rfl))
  f36 := Tryz.func272.trans (congrArg some (by kernel_rfl))
  f37 := Tryz.func273.trans (congrArg some (by kernel_rfl))
  f38 := Tryz.func274.trans (congrArg some (by kernel_rfl))
  f39 := Tryz.func278.trans (congrArg some (by kernel_rfl))
  f40 := Tryz.func279.trans (congrArg some (by kernel_rfl))
  t0 := Tryz.underlying0
  a0 := Tryz.isAgg0
  z0 := Tryz.sizeOf0
  v0 := Tryz.zeroValue0
  i0 := by kernel_rfl
  t2 := Tryz.underlying2
  a2 := Tryz.isAgg2
  z2 := Tryz.sizeOf2
  v2 := Tryz.zeroValue2
  i2 := by kernel_rfl
  t3 := Tryz.underlying3
  a3 := Tryz.isAgg3
  z3 := Tryz.sizeOf3
  v3 := Tryz.zeroValue3
  i3 := by kernel_rfl
  t4 := Tryz.underlying4
  a4 := Tryz.isAgg4
  z4 := Tryz.sizeOf4
  v4 := Tryz.zeroValue4
  i4 := by kernel_rfl
  t5 := Tryz.underlying5
  a5 := Tryz.isAgg5
  z5 := Tryz.sizeOf5
  v5 := Tryz.zeroValue5
  i5 := by kernel_rfl
  t9 := Tryz.underlying9
  a9 := Tryz.isAgg9
  z9 := Tryz.sizeOf9
  v9 := Tryz.zeroValue9
  i9 := by kernel_rfl
  t20 := Tryz.underlying20
  a20 := Tryz.isAgg20
  z20 := Tryz.sizeOf20
  v20 := Tryz.zeroValue20
  i20 := by kernel_rfl
  t21 := Tryz.underlying21
  a21 := Tryz.isAgg21
  z21 := Tryz.sizeOf21
  v21 := Tryz.zeroValue21
  i21 := by kernel_rfl
  t22 := Tryz.underlying198
  a22 := Tryz.isAgg198
  z22 := Tryz.sizeOf198
  v22 := Tryz.zeroValue198
  i22 := by kernel_rfl
  t24 := Tryz.underlying133
  a24 := Tryz.isAgg133
  z24 := Tryz.sizeOf133
  v24 := Tryz.zeroValue133
  i24 := by kernel_rfl
  t25 := Tryz.underlying221
  a25 := Tryz.isAgg221
  z25 := Tryz.sizeOf221
  v25 := Tryz.zeroValue221
  i25 := by kernel_rfl
  t34 := Tryz.underlying268
  a34 := Tryz.isAgg268
  z34 := Tryz.sizeOf268
  v34 := Tryz.zeroValue268
  i34 := by kernel_rfl
  c34 := by kernel_rfl
  t36 := Tryz.underlying151
  a36 := Tryz.isAgg151
  z36 := Tryz.sizeOf151
  v36 := Tryz.zeroValue151
  i36 := by kernel_rfl
  t37 := Tryz.underlying129
  a37 := Tryz.isAgg129
  z37 := Tryz.sizeOf129
  v37 := Tryz.zeroValue129
  i37 := by kernel_rfl
  t39 := Tryz.underlying270
  a39 := Tryz.isAgg270
  z39 := Tryz.sizeOf270
  v39 := Tryz.zeroValue270
  i39 := by kernel_rfl
  t44 := Tryz.underlying290
  a44 := Tryz.isAgg290
  z44 := Tryz.sizeOf290
  v44 := Tryz.zeroValue290
  i44 := by kernel_rfl
  t47 := Tryz.underlying176
  a47 := Tryz.isAgg176
  z47 := Tryz.sizeOf176
  v47 := Tryz.zeroValue176
  i47 := by kernel_rfl
  t48 := Tryz.underlying296
  a48 := Tryz.isAgg296
  z48 := Tryz.sizeOf296
  v48 := Tryz.zeroValue296
  i48 := by kernel_rfl
  t50 := Tryz.underlying298
  a50 := Tryz.isAgg298
  z50 := Tryz.sizeOf298
  v50 := Tryz.zeroValue298
  i50 := by kernel_rfl
  t52 := Tryz.underlying273
  a52 := Tryz.isAgg273
  z52 := Tryz.sizeOf273
  v52 := Tryz.zeroValue273
  i52 := by kernel_rfl
  t55 := Tryz.underlying275
  a55 := Tryz.isAgg275
  z55 := Tryz.sizeOf275
  v55 := Tryz.zeroValue275
  i55 := by kernel_rfl
  t59 := Tryz.underlying293
  a59 := Tryz.isAgg293
  z59 := Tryz.sizeOf293
  v59 := Tryz.zeroValue293
  i59 := by kernel_rfl
  t60 := Tryz.underlying196
  a60 := Tryz.isAgg196
  z60 := Tryz.sizeOf196
  v60 := Tryz.zeroValue196
  i60 := by kernel_rfl
  t61 := Tryz.underlying294
  a61 := Tryz.isAgg294
  z61 := Tryz.sizeOf294
  t65 := Tryz.underlying300
  a65 := Tryz.isAgg300
  z65 := Tryz.sizeOf300
  v65 := Tryz.zeroValue300
  i65 := by kernel_rfl
  t66 := Tryz.underlying301
  a66 := Tryz.isAgg301
  z66 := Tryz.sizeOf301
  v66 := Tryz.zeroValue301
  i66 := by kernel_rfl
  t67 := Tryz.underlying106
  a67 := Tryz.isAgg106
  z67 := Tryz.sizeOf106
  v67 := Tryz.zeroValue106
  i67 := by kernel_rfl
  g0 := by kernel_rfl
  m0 := by kernel_rfl
  g1 := by kernel_rfl
  m1 := by kernel_rfl
  g2 := by kernel_rfl
  m2 := by kernel_rfl
  g3 := by kernel_rfl
  m3 := by kernel_rfl
  g4 := by kernel_rfl
  m4 := by kernel_rfl }
open Go.RowKit in
theorem Tryz.strconv_ParseUint_10_at64_ok (s : ByteArray) (hmax : s.size ≤ 9223372036854775806) (u : Nat) (h : Lib.parseUintB 64 s.data.toList = .ok u) (w : World) :
    Calls Tryz.prog 192 #[.string s, .int .i64 10, .int .i64 64] w fun e w' => e = .returned (.tuple #[.int .u64 u, .nilIface]) ∧ (w' = w ∨ w' = Lib.bytesWorld w 5 s) := Any.strconv_ParseUint_10_at64_ok Tryz.laysPu14 s hmax u h w
open Go.RowKit Go.Lib in
def Tryz.lays105_ren : Go.Shelf.Ren := ⟨fun | 105 => 196 | 212 => 236 | 99 => 237 | 165 => 225 | 166 => 88 | 170 => 90 | 169 => 91 | 263 => 261 | 264 => 262 | 206 => 211 | 240 => 132 | 241 => 247 | 276 => 186 | 277 => 265 | n => n, fun | 9 => 9 | 3 => 3 | 4 => 4 | 20 => 20 | 0 => 0 | 46 => 151 | 109 => 256 | 5 => 5 | 72 => 131 | 76 => 134 | 51 => 196 | 146 => 264 | 53 => 198 | 148 => 278 | 70 => 128 | 37 => 129 | 75 => 133 | 127 => 176 | 164 => 216 | 80 => 106 | n => n, fun | n => n⟩
theorem Tryz.lays105 : Go.Proofs.Lays.n105 Tryz.prog Tryz.lays105_ren := {
  mixed := by kernel_rfl
  f99 := Tryz.func237.trans (congrArg some (by kernel_rfl))
  f105 := Tryz.func196.trans (congrArg some (by kernel_rfl))
  f165 := Tryz.func225.trans (congrArg some (by kernel_rfl))
  f166 := Tryz.func88.trans (congrArg some (by kernel_rfl))
  f169 := Tryz.func91.trans (congrArg some (by kernel_rfl))
  f170 := Tryz.func90.trans (congrArg some (by kernel_rfl))
  f206 := Tryz.func211.trans (congrArg some (by kernel_rfl))
  f212 := Tryz.func236.trans (congrArg some (by kernel_rfl))
  f240 := Tryz.func132.trans (congrArg some (by kernel_rfl))
  f241 := Tryz.func247.trans (congrArg some (by kernel_rfl))
  f263 := Tryz.func261.trans (congrArg some (by kernel_rfl))
  f264 := Tryz.func262.trans (congrArg some (by kernel_rfl))
  f276 := Tryz.func186.trans (congrArg some (by kernel_rfl))
  f277 := Tryz.func265.trans (congrArg some (by kernel_rfl))
  t0 := Tryz.underlying0
  a0 := Tryz.isAgg0
  z0 := Tryz.sizeOf0
  v0 := Tryz.zeroValue0
  t3 := Tryz.underlying3
  a3 := Tryz.isAgg3
  z3 := Tryz.sizeOf3
  v3 := Tryz.zeroValue3
  t4 := Tryz.underlying4
  a4 := Tryz.isAgg4
  z4 := Tryz.sizeOf4
  v4 := Tryz.zeroValue4
  t5 := Tryz.underlying5
  a5 := Tryz.isAgg5
  z5 := Tryz.sizeOf5
  v5 := Tryz.zeroValue5
  t9 := Tryz.underlying9
  a9 := Tryz.isAgg9
  z9 := Tryz.sizeOf9
  v9 := Tryz.zeroValue9
  t20 := Tryz.underlying20
  a20 := Tryz.isAgg20
  z20 := Tryz.sizeOf20
  v20 := Tryz.zeroValue20
  t37 := Tryz.underlying129
  a37 := Tryz.isAgg129
  z37 := Tryz.sizeOf129
  v37 := Tryz.zeroValue129
  t46 := Tryz.underlying151
  a46 := Tryz.isAgg151
  z46 := Tryz.sizeOf151
  v46 := Tryz.zeroValue151
  t51 := Tryz.underlying196
  a51 := Tryz.isAgg196
  z51 := Tryz.sizeOf196
  v51 := Tryz.zeroValue196
  t53 := Tryz.underlying198
  a53 := Tryz.isAgg198
  z53 := Tryz.sizeOf198
  v53 := Tryz.zeroValue198
  t70 := Tryz.underlying128
  a70 := Tryz.isAgg128
  z70 := Tryz.sizeOf128
  v70 := Tryz.zeroValue128
  t72 := Tryz.underlying131
  a72 := Tryz.isAgg131
  z72 := Tryz.sizeOf131
  v72 := Tryz.zeroValue131
  t75 := Tryz.underlying133
  a75 := Tryz.isAgg133
  z75 := Tryz.sizeOf133
  v75 := Tryz.zeroValue133
  t76 := Tryz.underlying134
  a76 := Tryz.isAgg134
  z76 := Tryz.sizeOf134
  v76 := Tryz.zeroValue134
  t109 := Tryz.underlying256
  a109 := Tryz.isAgg256
  z109 := Tryz.sizeOf256
  v109 := Tryz.zeroValue256
  t127 := Tryz.underlying176
  a127 := Tryz.isAgg176
  z127 := Tryz.sizeOf176
  v127 := Tryz.zeroValue176
  t146 := Tryz.underlying264
  a146 := Tryz.isAgg264
  z146 := Tryz.sizeOf264
  v146 := Tryz.zeroValue264
  t148 := Tryz.underlying278
  a148 := Tryz.isAgg278
  z148 := Tryz.sizeOf278
  v148 := Tryz.zeroValue278
  t164 := Tryz.underlying216
  a164 := Tryz.isAgg216
  z164 := Tryz.sizeOf216
  v164 := Tryz.zeroValue216 }
theorem Tryz.Builder_Extra_105 : Builder.Extra Tryz.prog Tryz.lays105_ren := {
  sizeBuilder := by kernel_rfl
  liesBuilder := by kernel_rfl
  t5 := Tryz.underlying5
  a5 := Tryz.isAgg5
  z5 := Tryz.sizeOf5
  v5 := Tryz.zeroValue5
  infoByte := by kernel_rfl
  cellsByte := by kernel_rfl
  sizeByte := by kernel_rfl
  neB5 := by decide }
open Go.RowKit Go.Lib in
theorem Tryz.strings_Repeat (s : ByteArray) (c : Nat) (w : World) (hc : c ≤ 9223372036854775807) (hlen : s.size * c ≤ 140737488355328) :
    Calls Tryz.prog 196 #[.string s, .int .i64 c] w fun e w' => e = .returned (.string ⟨(Lib.repeatL s.data.toList c).toArray⟩) ∧ Below w.heap.size w w' := Any.strings_Repeat Tryz.lays105 Tryz.Builder_Extra_105 s c w hc hlen
def Tryz.lays167_ren : Go.Shelf.Ren := ⟨fun | 167 => 194 | 240 => 132 | 276 => 186 | n => n, fun | 9 => 9 | 4 => 4 | 0 => 0 | 20 => 20 | 72 => 131 | 70 => 128 | 37 => 129 | 75 => 133 | 164 => 216 | 5 => 5 | 80 => 106 | n => n, fun | n => n⟩
theorem Tryz.lays167 : Go.Proofs.Lays.n167 Tryz.prog Tryz.lays167_ren := {
  mixed := by kernel_rfl
  f167 := Tryz.func194.trans (congrArg some (by kernel_rfl))
  f240 := Tryz.func132.trans (congrArg some (by kernel_rfl))
  f276 := Tryz.func186.trans (congrArg some (by kernel_rfl))
  t0 := Tryz.underlying0
  a0 := Tryz.isAgg0
  z0 := Tryz.sizeOf0
  v0 := Tryz.zeroValue0
  t4 := Tryz.underlying4
  a4 := Tryz.isAgg4
  z4 := Tryz.sizeOf4
  v4 := Tryz.zeroValue4
  t5 := Tryz.underlying5
  a5 := Tryz.isAgg5
  z5 := Tryz.sizeOf5
  v5 := Tryz.zeroValue5
  t9 := Tryz.underlying9
  a9 := Tryz.isAgg9
  z9 := Tryz.sizeOf9
  v9 := Tryz.zeroValue9
  t20 := Tryz.underlying20
  a20 := Tryz.isAgg20
  z20 := Tryz.sizeOf20
  v20 := Tryz.zeroValue20
  t37 := Tryz.underlying129
  a37 := Tryz.isAgg129
  z37 := Tryz.sizeOf129
  v37 := Tryz.zeroValue129
  t70 := Tryz.underlying128
  a70 := Tryz.isAgg128
  z70 := Tryz.sizeOf128
  v70 := Tryz.zeroValue128
  t72 := Tryz.underlying131
  a72 := Tryz.isAgg131
  z72 := Tryz.sizeOf131
  v72 := Tryz.zeroValue131
  t75 := Tryz.underlying133
  a75 := Tryz.isAgg133
  z75 := Tryz.sizeOf133
  v75 := Tryz.zeroValue133
  t164 := Tryz.underlying216
  a164 := Tryz.isAgg216
  z164 := Tryz.sizeOf216
  v164 := Tryz.zeroValue216 }
theorem Tryz.Builder_Extra_167 : Builder.Extra Tryz.prog Tryz.lays167_ren := {
  sizeBuilder := by kernel_rfl
  liesBuilder := by kernel_rfl
  t5 := Tryz.underlying5
  a5 := Tryz.isAgg5
  z5 := Tryz.sizeOf5
  v5 := Tryz.zeroValue5
  infoByte := by kernel_rfl
  cellsByte := by kernel_rfl
  sizeByte := by kernel_rfl
  neB5 := by decide }
open Go.RowKit in
theorem Tryz.Builder_WriteString_f (B b : Nat) (bs : List Value) (s : ByteArray) (w : World) (h : Lib.IsBuilderF 131 5 B b bs w) (hlen : bs.length + s.size ≤ 140737488355328) (hBw : B ≤ w.heap.size) :
    Calls Tryz.prog 88 #[.pointer (some ⟨b, 0, none⟩), .string s] w fun e w' => e = .returned (.tuple #[.int .i64 s.size, .nilIface]) ∧ (Lib.BuilderAtF 131 5 B b (.pointer (some ⟨b, 0, none⟩)) (bs ++ Lib.strCells s) w' ∧ Below B w w') := Any.Builder_WriteString_f { Tryz.lays156 with } Tryz.Builder_Extra_156 B b bs s w h hlen hBw
open Go.RowKit in
theorem Tryz.Builder_WriteByte_f (B b : Nat) (bs : List Value) (c : Int) (w : World) (h : Lib.IsBuilder 131 5 B b bs w) (hlen : bs.length + 1 ≤ 140737488355328) (hBw : B ≤ w.heap.size) :
    Calls Tryz.prog 194 #[.pointer (some ⟨b, 0, none⟩), .int .u8 c] w fun e w' => e = .returned .nilIface ∧ (Lib.BuilderAt 131 5 B b (.pointer (some ⟨b, 0, none⟩)) (bs ++ [.int .u8 c]) w' ∧ Below B w w') := Any.Builder_WriteByte Tryz.lays167 Tryz.Builder_Extra_167 B b bs c w h hlen hBw
open Go.RowKit in
theorem Tryz.strings_digits_Trim (s : ByteArray) (w : World) (hs : s.size ≤ 9223372036854775807) :
    Calls Tryz.prog 189 #[.string s, .string ⟨#[48, 49, 50, 51, 52, 53, 54, 55, 56, 57]⟩] w fun e w' => e = .returned (.string ⟨(Lib.trimS s.data.toList [48, 49, 50, 51, 52, 53, 54, 55, 56, 57]).toArray⟩) ∧ Below w.heap.size w w' :=
  Any.strings_Trim_laid Tryz.lays160 (by kernel_rfl) s ⟨#[48, 49, 50, 51, 52, 53, 54, 55, 56, 57]⟩ w hs (by decide) (ascii_of_all (by decide))
open Go.RowKit in
theorem Tryz.strings_zero_TrimLeft (s : ByteArray) (w : World) :
    Calls Tryz.prog 190 #[.string s, .string ⟨#[48]⟩] w fun e w' => e = .returned (.string ⟨(Lib.trimLeftS s.data.toList [48]).toArray⟩) ∧ Below w.heap.size w w' :=
  Any.strings_TrimLeft_laid Tryz.lays161 (by kernel_rfl) s ⟨#[48]⟩ w (by decide) (ascii_of_all (by decide))
def Tryz.lays283_ren : Go.Shelf.Ren := ⟨fun | 283 => 257 | n => n, fun | 3 => 3 | 9 => 9 | 4 => 4 | n => n, fun | n => n⟩
theorem Tryz.lays283 : Go.Proofs.Lays.n283 Tryz.prog Tryz.lays283_ren := {
  mixed := by kernel_rfl
  f283 := Tryz.func257.trans (congrArg some (by kernel_rfl))
  t3 := Tryz.underlying3
  a3 := Tryz.isAgg3
  z3 := Tryz.sizeOf3
  v3 := Tryz.zeroValue3
  t4 := Tryz.underlying4
  a4 := Tryz.isAgg4
  z4 := Tryz.sizeOf4
  v4 := Tryz.zeroValue4
  t9 := Tryz.underlying9
  a9 := Tryz.isAgg9
  z9 := Tryz.sizeOf9
  v9 := Tryz.zeroValue9 }
open Go.Lib in
theorem Tryz.internal_strconv_small (i : Nat) (h : i < 100) (w : World) :
    Calls Tryz.prog 257 #[.int .i64 i] w fun e w' => e = .returned (.string ⟨(Lib.decDigits i).toArray⟩) ∧ w' = w := Any.internal_strconv_small Tryz.lays283 i h w
def Tryz.laysM284_ren : Go.Shelf.Ren := ⟨fun | 284 => 258 | 129 => 154 | 317 => 271 | 318 => 272 | n => n, fun | 53 => 198 | 3 => 3 | 212 => 293 | 0 => 0 | 4 => 4 | 46 => 151 | 5 => 5 | 9 => 9 | n => n, fun | 17 => 5 | n => n⟩
theorem Tryz.laysM284 : Go.Proofs.LaysM.n284 Tryz.prog Tryz.laysM284_ren := {
  mixed := by kernel_rfl
  f129 := Tryz.func154.trans (congrArg some (by kernel_rfl))
  f284 := Tryz.func258.trans (congrArg some (by kernel_rfl))
  f317 := Tryz.func271.trans (congrArg some (by kernel_rfl))
  f318 := Tryz.func272.trans (congrArg some (by kernel_rfl))
  t0 := Tryz.underlying0
  a0 := Tryz.isAgg0
  z0 := Tryz.sizeOf0
  v0 := Tryz.zeroValue0
  t3 := Tryz.underlying3
  a3 := Tryz.isAgg3
  z3 := Tryz.sizeOf3
  v3 := Tryz.zeroValue3
  t4 := Tryz.underlying4
  a4 := Tryz.isAgg4
  z4 := Tryz.sizeOf4
  v4 := Tryz.zeroValue4
  t5 := Tryz.underlying5
  a5 := Tryz.isAgg5
  z5 := Tryz.sizeOf5
  v5 := Tryz.zeroValue5
  t9 := Tryz.underlying9
  a9 := Tryz.isAgg9
  z9 := Tryz.sizeOf9
  v9 := Tryz.zeroValue9
  t46 := Tryz.underlying151
  a46 := Tryz.isAgg151
  z46 := Tryz.sizeOf151
  v46 := Tryz.zeroValue151
  t53 := Tryz.underlying198
  a53 := Tryz.isAgg198
  z53 := Tryz.sizeOf198
  v53 := Tryz.zeroValue198
  t212 := Tryz.underlying293
  a212 := Tryz.isAgg293
  z212 := Tryz.sizeOf293
  v212 := Tryz.zeroValue293
  g17 := by kernel_rfl
  i0 := by kernel_rfl
  i3 := by kernel_rfl
  i4 := by kernel_rfl
  i5 := by kernel_rfl
  i9 := by kernel_rfl
  i46 := by kernel_rfl
  i53 := by kernel_rfl
  i212 := by kernel_rfl
  m17 := by kernel_rfl }
open Go.Lib in
theorem Tryz.internal_strconv_numDigits (u : Nat) (h1 : 1 ≤ u) (h2 : u < 18446744073709551616) (w : World) (htab : Lib.TabIs Tryz.prog w "internal/strconv.uint64pow10" .u64 Lib.pow10Tab) :
    Calls Tryz.prog 258 #[.int .u64 u] w fun e w' => e = .returned (.int .i64 (Lib.nDigits u)) ∧ w' = w := Any.internal_strconv_numDigits Tryz.laysM284 u h1 h2 w htab
def Tryz.lays285_ren : Go.Shelf.Ren := ⟨fun | 285 => 259 | n => n, fun | 37 => 129 | 53 => 198 | 3 => 3 | 4 => 4 | 51 => 196 | 9 => 9 | 5 => 5 | 0 => 0 | n => n, fun | n => n⟩
theorem Tryz.lays285 : Go.Proofs.Lays.n285 Tryz.prog Tryz.lays285_ren := {
  mixed := by kernel_rfl
  f285 := Tryz.func259.trans (congrArg some (by kernel_rfl))
  t0 := Tryz.underlying0
  a0 := Tryz.isAgg0
  z0 := Tryz.sizeOf0
  v0 := Tryz.zeroValue0
  t3 := Tryz.underlying3
  a3 := Tryz.isAgg3
  z3 := Tryz.sizeOf3
  v3 := Tryz.zeroValue3
  t4 := Tryz.underlying4
  a4 := Tryz.isAgg4
  z4 := Tryz.sizeOf4
  v4 := Tryz.zeroValue4
  t5 := Tryz.underlying5
  a5 := Tryz.isAgg5
  z5 := Tryz.sizeOf5
  v5 := Tryz.zeroValue5
  t9 := Tryz.underlying9
  a9 := Tryz.isAgg9
  z9 := Tryz.sizeOf9
  v9 := Tryz.zeroValue9
  t37 := Tryz.underlying129
  a37 := Tryz.isAgg129
  z37 := Tryz.sizeOf129
  v37 := Tryz.zeroValue129
  t51 := Tryz.underlying196
  a51 := Tryz.isAgg196
  z51 := Tryz.sizeOf196
  v51 := Tryz.zeroValue196
  t53 := Tryz.underlying198
  a53 := Tryz.isAgg198
  z53 := Tryz.sizeOf198
  v53 := Tryz.zeroValue198 }
open Go.RowKit Go.Sort Go.Lib in
theorem Tryz.internal_strconv_formatBase10 (blk off cap : Nat) (u : Nat) (d : Array UInt8) (w : World) (hH : Holds (fun (b : UInt8) => Value.int .u8 (b.toNat : Int)) w blk off d) (hu : u < 10 ^ d.size) (hu64 : u < 18446744073709551616) (hsz : d.size < 4611686018427387904) :
    Calls Tryz.prog 259 #[.slice (some ⟨blk, off, none⟩) d.size cap, .int .u64 u] w fun e w' =>
      e = .returned (.tuple #[]) ∧ ∃ (n v' : Nat) (dk : Array UInt8), w' = (putRow (fun (b : UInt8) => Value.int .u8 (b.toNat : Int)) w blk off dk).drewN n ∧ FmtInv d.size u 0 v' dk := Any.internal_strconv_formatBase10 Tryz.lays285 blk off cap u d w hH hu hu64 hsz
end Go.Proofs
end
section
set_option linter.unusedVariables false
set_option linter.unusedSimpArgs false
namespace Go.Proofs.YtblcgcibkikgeaaGreatDoor.P
abbrev Bs := List UInt8
def isDig (c : UInt8) : Bool := 48 ≤ c && c ≤ 57
def dval (c : UInt8) : Nat := c.toNat - 48
def dnumF (a : Nat) (l : Bs) : Nat := l.foldl (fun n c => 10 * n + dval c) a
def dnum (l : Bs) : Nat := dnumF 0 l
def strip0 (l : Bs) : Bs := l.dropWhile (· == 48)
def unsign : Bs → Bool × Bs
  | 45 :: r => (true, r)
  | l => (false, l)
def digs (l : Bs) : Bs × Bool :=
  if (unsign l).2.all isDig then (strip0 (unsign l).2, (unsign l).1 && !(strip0 (unsign l).2).isEmpty) else ([], false)
def ival (l : Bs) : Int := if (digs l).2 then -(dnum (digs l).1 : Int) else (dnum (digs l).1 : Int)
def digc (n : Nat) : UInt8 := UInt8.ofNat (48 + n % 10)
def dtext (n : Nat) : Bs := if h : n = 0 then [] else dtext (n / 10) ++ [digc n]
termination_by n
decreasing_by omega
def itext (n : Int) : Bs := if n < 0 then 45 :: dtext n.natAbs else dtext n.natAbs
def canon (l : Bs) : Bs := if (digs l).2 then 45 :: (digs l).1 else (digs l).1
theorem dtext_zero : dtext 0 = [] := by rw [dtext]; simp
theorem dtext_pos {n : Nat} (h : n ≠ 0) : dtext n = dtext (n / 10) ++ [digc n] := by rw [dtext]; simp [h]
theorem digc_toNat (n : Nat) : (digc n).toNat = 48 + n % 10 := by
  unfold digc; rw [UInt8.toNat_ofNat']; omega
theorem digc_isDig (n : Nat) : isDig (digc n) = true := by
  simp only [isDig, Bool.and_eq_true, decide_eq_true_eq, UInt8.le_iff_toNat_le, digc_toNat]
  have : (48 : UInt8).toNat = 48 := rfl
  have : (57 : UInt8).toNat = 57 := rfl
  omega
theorem dval_digc (n : Nat) : dval (digc n) = n % 10 := by unfold dval; rw [digc_toNat]; omega
theorem isDig_iff (c : UInt8) : isDig c = true ↔ 48 ≤ c.toNat ∧ c.toNat ≤ 57 := by
  simp only [isDig, Bool.and_eq_true, decide_eq_true_eq, UInt8.le_iff_toNat_le]
  exact Iff.rfl
theorem digc_dval {c : UInt8} (h : isDig c = true) : digc (dval c) = c := by
  rw [isDig_iff] at h
  apply UInt8.toNat_inj.1
  rw [digc_toNat]; unfold dval; omega
theorem dval_lt {c : UInt8} (h : isDig c = true) : dval c ≤ 9 := by
  rw [isDig_iff] at h; unfold dval; omega
theorem digc_add (n m : Nat) (h : m ≤ 9) : digc (10 * n + m) = digc m := by
  unfold digc; congr 2; omega
theorem dnumF_append (a : Nat) (l m : Bs) : dnumF a (l ++ m) = dnumF (dnumF a l) m := by simp [dnumF]
theorem dnum_snoc (l : Bs) (c : UInt8) : dnum (l ++ [c]) = 10 * dnum l + dval c := by simp [dnum, dnumF]
theorem dnumF_eq (a : Nat) (l : Bs) : dnumF a l = a * 10 ^ l.length + dnum l := by
  induction l generalizing a with
  | nil => simp [dnum, dnumF]
  | cons c l ih =>
    have h1 : dnumF a (c :: l) = dnumF (10 * a + dval c) l := rfl
    have h2 : dnum (c :: l) = dnumF (dval c) l := by simp [dnum, dnumF]
    rw [h1, h2, ih, ih (dval c), List.length_cons, Nat.pow_succ]
    grind
theorem dnum_append (l m : Bs) : dnum (l ++ m) = dnum l * 10 ^ m.length + dnum m := by
  show dnumF 0 (l ++ m) = _
  rw [dnumF_append, dnumF_eq]; rfl
theorem dnum_dtext (n : Nat) : dnum (dtext n) = n := by
  induction n using Nat.strongRecOn with
  | _ n ih =>
    by_cases h : n = 0
    · subst h; rw [dtext_zero]; rfl
    · rw [dtext_pos h, dnum_snoc, ih _ (by omega), dval_digc]; omega
theorem dtext_all (n : Nat) : (dtext n).all isDig = true := by
  induction n using Nat.strongRecOn with
  | _ n ih =>
    by_cases h : n = 0
    · subst h; rw [dtext_zero]; rfl
    · rw [dtext_pos h, List.all_append, ih _ (by omega)]; simp [digc_isDig]
def noLead (l : Bs) : Prop := l.head? ≠ some 48
theorem dtext_noLead (n : Nat) : noLead (dtext n) := by
  induction n using Nat.strongRecOn with
  | _ n ih =>
    by_cases h : n = 0
    · subst h; rw [dtext_zero]; simp [noLead]
    · rw [dtext_pos h]
      by_cases h1 : n / 10 = 0
      · rw [h1, dtext_zero]
        intro e
        simp only [List.nil_append, List.head?_cons, Option.some.injEq] at e
        have := congrArg UInt8.toNat e
        rw [digc_toNat] at this
        have e2 : (48 : UInt8).toNat = 48 := rfl
        omega
      · have := ih (n / 10) (by omega)
        unfold noLead at *
        rw [dtext_pos h1] at this ⊢
        simpa using this
theorem dtext_eq_nil {n : Nat} : dtext n = [] ↔ n = 0 := by
  constructor
  · intro h
    have := dnum_dtext n
    rw [h] at this
    simpa [dnum, dnumF] using this.symm
  · rintro rfl; exact dtext_zero
theorem strip0_noLead {l : Bs} (h : noLead l) : strip0 l = l := by
  cases l with
  | nil => rfl
  | cons c l =>
    have : c ≠ 48 := by simpa [noLead] using h
    simp [strip0, List.dropWhile_cons, this]
theorem noLead_strip0 (l : Bs) : noLead (strip0 l) := by
  induction l with
  | nil => simp [strip0, noLead]
  | cons c l ih =>
    unfold strip0 at *
    rw [List.dropWhile_cons]
    split
    · exact ih
    · rename_i h
      simpa [noLead] using h
theorem all_strip0 {l : Bs} (h : l.all isDig = true) : (strip0 l).all isDig = true := by
  rw [List.all_eq_true] at *
  intro c hc
  exact h c ((List.dropWhile_sublist _).subset hc)
theorem dtext_dnum : ∀ {l : Bs}, l.all isDig = true → noLead l → dtext (dnum l) = l := by
  intro l
  induction hn : l.length using Nat.strongRecOn generalizing l with
  | _ n ih =>
    intro ha hl
    rcases List.eq_nil_or_concat l with rfl | ⟨m, c, rfl⟩
    · show dtext 0 = []; exact dtext_zero
    · simp only [List.concat_eq_append] at *
      rw [List.all_append] at ha
      simp only [List.all_cons, List.all_nil, Bool.and_true, Bool.and_eq_true] at ha
      have hc := dval_lt ha.2
      have hm : noLead m := by
        cases m with
        | nil => simp [noLead]
        | cons d m => simpa [noLead] using hl
      rw [dnum_snoc]
      by_cases h0 : 10 * dnum m + dval c = 0
      · exfalso
        have h1 : dnum m = 0 := by omega
        have h2 : m = [] := by
          have := ih m.length (by rw [← hn]; simp) rfl ha.1 hm
          rw [h1, dtext_zero] at this
          exact this.symm
        subst h2
        have h3 : dval c = 0 := by omega
        have : c = 48 := by
          rw [← digc_dval ha.2, h3]; rfl
        subst this
        simp [noLead] at hl
      · rw [dtext_pos h0, show (10 * dnum m + dval c) / 10 = dnum m from by omega, ih m.length (by rw [← hn]; simp) rfl ha.1 hm, digc_add _ _ hc, digc_dval ha.2]
theorem digs_all (l : Bs) : (digs l).1.all isDig = true := by
  unfold digs; split
  · rename_i h; exact all_strip0 h
  · rfl
theorem digs_noLead (l : Bs) : noLead (digs l).1 := by
  unfold digs; split
  · exact noLead_strip0 _
  · simp [noLead]
theorem digs_neg {l : Bs} (h : (digs l).2 = true) : (digs l).1 ≠ [] := by
  unfold digs at *; split at h
  · simp only [Bool.and_eq_true, Bool.not_eq_true', List.isEmpty_eq_false_iff] at h
    rename_i h1
    rw [if_pos h1]; exact h.2
  · simp at h
theorem dnum_pos {l : Bs} (ha : l.all isDig = true) (hl : noLead l) (h : l ≠ []) : 0 < dnum l := by
  rcases Nat.eq_zero_or_pos (dnum l) with h0 | h0
  · have := dtext_dnum ha hl
    rw [h0, dtext_zero] at this
    exact absurd this.symm h
  · exact h0
theorem canon_eq (l : Bs) : canon l = itext (ival l) := by
  unfold canon ival itext
  have h1 := dtext_dnum (digs_all l) (digs_noLead l)
  by_cases h : (digs l).2 = true
  · have := dnum_pos (digs_all l) (digs_noLead l) (digs_neg h)
    rw [if_pos h, if_pos h, if_pos (by omega), Int.natAbs_neg, Int.natAbs_natCast, h1]
  · rw [if_neg h, if_neg h, if_neg (by omega), Int.natAbs_natCast, h1]
theorem unsign_dtext (n : Nat) : unsign (dtext n) = (false, dtext n) := by
  have h := dtext_all n
  cases hd : dtext n with
  | nil => rfl
  | cons c l =>
    rw [hd] at h
    simp only [List.all_cons, Bool.and_eq_true] at h
    unfold unsign
    split
    · rename_i heq
      injection heq with h1 _
      subst h1
      exact absurd h.1 (by decide)
    · rfl
theorem digs_itext (n : Int) : digs (itext n) = (dtext n.natAbs, decide (n < 0)) := by
  unfold itext digs
  split
  · rename_i h
    simp only [unsign]
    rw [if_pos (dtext_all _), strip0_noLead (dtext_noLead _)]
    have : dtext n.natAbs ≠ [] := fun e => by have := dtext_eq_nil.1 e; omega
    simp [h, this]
  · rename_i h
    rw [unsign_dtext]
    simp only
    rw [if_pos (dtext_all _), strip0_noLead (dtext_noLead _)]
    simp [h]
theorem ival_itext (n : Int) : ival (itext n) = n := by
  unfold ival
  rw [digs_itext]
  simp only [dnum_dtext, decide_eq_true_eq]
  split <;> omega
theorem itext_inj {a b : Int} (h : itext a = itext b) : a = b := by
  have := congrArg ival h
  rwa [ival_itext, ival_itext] at this
theorem itext_zero : itext 0 = [] := by simp [itext, dtext_zero]
theorem itext_eq_nil {n : Int} : itext n = [] ↔ n = 0 := by
  constructor
  · intro h; exact itext_inj (h.trans itext_zero.symm)
  · rintro rfl; exact itext_zero
def fix : Nat → Nat → Bs
  | 0, _ => []
  | k + 1, n => fix k (n / 10) ++ [digc n]
theorem fix_length (k n : Nat) : (fix k n).length = k := by
  induction k generalizing n with
  | zero => rfl
  | succ k ih => simp [fix, ih]
theorem dtext_fix (k a g : Nat) (ha : a ≠ 0) (hg : g < 10 ^ k) : dtext (a * 10 ^ k + g) = dtext a ++ fix k g := by
  induction k generalizing g with
  | zero => simp at hg; subst hg; simp [fix]
  | succ k ih =>
    have h1 : a * 10 ^ (k + 1) + g = 10 * (a * 10 ^ k) + g := by rw [Nat.pow_succ]; grind
    have h2 : 1 ≤ a * 10 ^ k := Nat.mul_pos (Nat.pos_of_ne_zero ha) (Nat.pow_pos (by decide))
    have h3 : g < 10 * 10 ^ k := by rw [Nat.pow_succ] at hg; omega
    rw [h1, dtext_pos (by omega), show (10 * (a * 10 ^ k) + g) / 10 = a * 10 ^ k + g / 10 from by omega, ih (g / 10) (by omega)]
    rw [fix, List.append_assoc]
    congr 2
    unfold digc; congr 3; omega
theorem fix_dtext (k n : Nat) (h : n < 10 ^ k) : fix k n = List.replicate (k - (dtext n).length) 48 ++ dtext n := by
  induction k generalizing n with
  | zero => simp at h; subst h; simp [fix, dtext_zero]
  | succ k ih =>
    rw [Nat.pow_succ] at h
    rw [fix, ih (n / 10) (by omega)]
    by_cases h0 : n = 0
    · subst h0
      rw [show (0 : Nat) / 10 = 0 from rfl, dtext_zero]
      simp only [List.length_nil, Nat.sub_zero, List.append_nil]
      rw [List.replicate_succ']
      rfl
    · conv => rhs; rw [dtext_pos h0]
      simp only [List.length_append, List.length_cons, List.length_nil]
      rw [show k + 1 - ((dtext (n / 10)).length + (0 + 1)) = k - (dtext (n / 10)).length from by omega, List.append_assoc]
theorem dnum_lt {l : Bs} (h : l.all isDig = true) : dnum l < 10 ^ l.length := by
  induction hn : l.length generalizing l with
  | zero => have := List.eq_nil_of_length_eq_zero hn; subst this; simp [dnum, dnumF]
  | succ n ih =>
    rcases List.eq_nil_or_concat l with rfl | ⟨m, c, rfl⟩
    · simp at hn
    · simp only [List.concat_eq_append] at *
      rw [List.all_append] at h
      simp only [List.all_cons, List.all_nil, Bool.and_true, Bool.and_eq_true] at h
      have := ih h.1 (by simpa using hn)
      have h9 := dval_lt h.2
      rw [dnum_snoc, Nat.pow_succ]; omega
theorem dtext_length_le {n k : Nat} (h : n < 10 ^ k) : (dtext n).length ≤ k := by
  induction k generalizing n with
  | zero => simp at h; subst h; simp [dtext_zero]
  | succ k ih =>
    by_cases h0 : n = 0
    · subst h0; simp [dtext_zero]
    · rw [Nat.pow_succ] at h
      rw [dtext_pos h0, List.length_append]
      have := ih (n := n / 10) (by omega)
      simp; omega
def gval : List Int → Int
  | [] => 0
  | g :: r => g + 1000000000 * gval r
def okG (m : List Int) : Prop := ∀ g ∈ m, 0 ≤ g ∧ g < 1000000000
theorem okG_nil : okG [] := by intro g h; cases h
theorem okG_cons {g : Int} {m : List Int} : okG (g :: m) ↔ (0 ≤ g ∧ g < 1000000000) ∧ okG m := by simp [okG]
theorem okG_append {l m : List Int} : okG (l ++ m) ↔ okG l ∧ okG m := by
  constructor
  · intro h; exact ⟨fun g hg => h g (by simp [hg]), fun g hg => h g (by simp [hg])⟩
  · intro h g hg; rw [List.mem_append] at hg; exact hg.elim (h.1 g) (h.2 g)
theorem gval_nonneg {m : List Int} (h : okG m) : 0 ≤ gval m := by
  induction m with
  | nil => simp [gval]
  | cons g m ih => rw [okG_cons] at h; have := ih h.2; unfold gval; omega
def B9 (k : Nat) : Int := 1000000000 ^ k
theorem B9_zero : B9 0 = 1 := rfl
theorem B9_succ (k : Nat) : B9 (k + 1) = B9 k * 1000000000 := by unfold B9; rw [Int.pow_succ]
theorem B9_pos (k : Nat) : 0 < B9 k := by unfold B9; exact Int.pow_pos (by decide)
theorem gval_append (l m : List Int) : gval (l ++ m) = gval l + B9 l.length * gval m := by
  induction l with
  | nil => simp [gval, B9_zero]
  | cons g l ih => simp only [List.cons_append, gval, ih, List.length_cons, B9_succ]; grind
theorem gval_lt {m : List Int} (h : okG m) : gval m < B9 m.length := by
  induction m with
  | nil => simp [gval, B9_zero]
  | cons g m ih => rw [okG_cons] at h; have := ih h.2; unfold gval; rw [List.length_cons, B9_succ]; omega
def normG (m : List Int) : Prop := m.getLast? ≠ some 0
theorem normG_nil : normG [] := by simp [normG]
def cutG (m : List Int) : List Int := (m.reverse.dropWhile (· == 0)).reverse
theorem cutG_snoc_zero (m : List Int) : cutG (m ++ [0]) = cutG m := by simp [cutG]
theorem cutG_snoc {m : List Int} {g : Int} (h : g ≠ 0) : cutG (m ++ [g]) = m ++ [g] := by simp [cutG, List.dropWhile_cons, h]
theorem cutG_nil : cutG [] = [] := rfl
theorem snocRec {p : List Int → Prop} (h0 : p []) (h1 : ∀ l g, p l → p (l ++ [g])) (m : List Int) : p m := by
  induction hn : m.length generalizing m with
  | zero => rw [List.eq_nil_of_length_eq_zero hn]; exact h0
  | succ n ih =>
    rcases List.eq_nil_or_concat m with rfl | ⟨l, g, rfl⟩
    · exact h0
    · simp only [List.concat_eq_append] at *
      exact h1 l g (ih l (by simpa using hn))
theorem cutG_facts (m : List Int) : gval (cutG m) = gval m ∧ normG (cutG m) ∧ (cutG m).length ≤ m.length ∧ (∃ k, m = cutG m ++ List.replicate k 0) := by
  refine snocRec (p := fun m => gval (cutG m) = gval m ∧ normG (cutG m) ∧ (cutG m).length ≤ m.length ∧ (∃ k, m = cutG m ++ List.replicate k 0)) ⟨rfl, normG_nil, Nat.le_refl _, 0, rfl⟩ ?_ m
  intro l g ⟨h1, h2, h3, k, h4⟩
  by_cases hg : g = 0
  · subst hg
    rw [cutG_snoc_zero]
    refine ⟨?_, h2, by simp; omega, k + 1, ?_⟩
    · rw [h1, gval_append]; simp [gval]
    · conv => lhs; rw [h4]
      rw [List.replicate_succ', List.append_assoc]
  · rw [cutG_snoc hg]
    exact ⟨rfl, by simp [normG, hg], Nat.le_refl _, 0, by simp⟩
theorem cutG_ok {m : List Int} (h : okG m) : okG (cutG m) := by
  obtain ⟨_, _, _, k, hk⟩ := cutG_facts m
  intro g hg
  exact h g (by rw [hk]; simp [hg])
theorem gval_pos {m : List Int} (h : okG m) (hn : normG m) (h0 : m ≠ []) : 0 < gval m := by
  rcases List.eq_nil_or_concat m with rfl | ⟨l, g, rfl⟩
  · exact absurd rfl h0
  · simp only [List.concat_eq_append] at *
    rw [okG_append, okG_cons] at h
    have hg : g ≠ 0 := by simpa [normG] using hn
    have := gval_nonneg h.1
    rw [gval_append]
    have hb := B9_pos l.length
    have h1 : 1 ≤ g := by omega
    have : B9 l.length * 1 ≤ B9 l.length * g := Int.mul_le_mul_of_nonneg_left h1 (by omega)
    simp only [gval]
    simp only [Int.mul_zero, Int.add_zero]
    omega
theorem gval_len {m n : List Int} (hm : okG m) (hn : okG n) (hnn : normG n) (h : m.length < n.length) : gval m < gval n := by
  rcases List.eq_nil_or_concat n with rfl | ⟨l, g, rfl⟩
  · simp at h
  · simp only [List.concat_eq_append] at *
    rw [okG_append, okG_cons] at hn
    have hg : g ≠ 0 := by simpa [normG] using hnn
    have h0 := gval_nonneg hn.1
    have h1 := gval_lt hm
    rw [gval_append]
    have hb := B9_pos l.length
    have : B9 l.length * 1 ≤ B9 l.length * g := Int.mul_le_mul_of_nonneg_left (by omega) (by omega)
    have hmono : B9 m.length ≤ B9 l.length := by
      have hle : m.length ≤ l.length := by simp at h; omega
      obtain ⟨d, hd⟩ : ∃ d, l.length = m.length + d := ⟨l.length - m.length, by omega⟩
      rw [hd]
      clear hd
      induction d with
      | zero => exact Int.le_refl _
      | succ d ih => rw [← Nat.add_assoc, B9_succ]; have := B9_pos (m.length + d); omega
    simp only [gval, Int.mul_zero, Int.add_zero]
    omega
def grp (l : Bs) : List Int := if _h : l = [] then [] else (dnum (l.drop (l.length - 9)) : Int) :: grp (l.take (l.length - 9))
termination_by l.length
decreasing_by
  have := List.length_pos_iff.2 _h
  rw [List.length_take]; omega
theorem grp_nil : grp [] = [] := by rw [grp]; simp
theorem grp_ne {l : Bs} (h : l ≠ []) : grp l = (dnum (l.drop (l.length - 9)) : Int) :: grp (l.take (l.length - 9)) := by rw [grp]; simp [h]
theorem grp_facts (l : Bs) (ha : l.all isDig = true) : okG (grp l) ∧ gval (grp l) = dnum l ∧ (noLead l → normG (grp l)) ∧ (grp l).length * 9 < l.length + 9 := by
  induction hn : l.length using Nat.strongRecOn generalizing l with
  | _ n ih =>
    by_cases h0 : l = []
    · subst h0; rw [grp_nil]; exact ⟨okG_nil, by simp [gval, dnum, dnumF], fun _ => normG_nil, by simp⟩
    · have hp := List.length_pos_iff.2 h0
      have hsplit := List.take_append_drop (l.length - 9) l
      have ha2 : (l.take (l.length - 9)).all isDig = true ∧ (l.drop (l.length - 9)).all isDig = true := by
        rw [← hsplit, List.all_append, Bool.and_eq_true] at ha; exact ha
      obtain ⟨i1, i2, i3, i4⟩ := ih (l.take (l.length - 9)).length (by rw [List.length_take]; omega) _ ha2.1 rfl
      have hlt := dnum_lt ha2.2
      have hlen : (l.drop (l.length - 9)).length = min 9 l.length := by rw [List.length_drop]; omega
      have hle9 : (10 : Nat) ^ (l.drop (l.length - 9)).length ≤ 10 ^ 9 := Nat.pow_le_pow_right (by decide) (by omega)
      have h109 : (10 : Nat) ^ 9 = 1000000000 := by decide
      rw [grp_ne h0]
      refine ⟨okG_cons.2 ⟨⟨by omega, by omega⟩, i1⟩, ?_, ?_, ?_⟩
      · unfold gval
        rw [i2]
        have : dnum l = dnum (l.take (l.length - 9)) * 10 ^ (l.drop (l.length - 9)).length + dnum (l.drop (l.length - 9)) := by
          conv => lhs; rw [← hsplit]
          rw [dnum_append]
        by_cases h9 : 9 ≤ l.length
        · rw [hlen, Nat.min_eq_left h9, h109] at this
          rw [this]; omega
        · have ht : l.take (l.length - 9) = [] := by rw [show l.length - 9 = 0 from by omega]; rfl
          rw [ht] at this ⊢
          have hd0 : dnum [] = 0 := rfl
          rw [hd0] at this ⊢
          rw [this]; omega
      · intro hl
        by_cases ht : l.take (l.length - 9) = []
        · rw [ht, grp_nil]
          rw [ht, List.nil_append] at hsplit
          rw [hsplit]
          have := dnum_pos ha hl h0
          simp [normG]; omega
        · have hl2 : noLead (l.take (l.length - 9)) := by
            unfold noLead at *
            rw [List.head?_take]
            split
            · simp
            · exact hl
          have := i3 hl2
          unfold normG at *
          rw [grp_ne ht] at this ⊢
          simpa using this
      · rw [List.length_cons]
        rw [List.length_take] at i4
        by_cases h9 : 9 ≤ l.length
        · omega
        · have ht : l.take (l.length - 9) = [] := by rw [show l.length - 9 = 0 from by omega]; rfl
          rw [ht, grp_nil]; simp; omega
def padG : List Int → Bs
  | [] => []
  | g :: r => padG r ++ fix 9 g.toNat
theorem dtext_padG (m : List Int) (a : Nat) (ha : a ≠ 0) (h : okG m) : dtext (gval m + B9 m.length * a).toNat = dtext a ++ padG m := by
  induction m generalizing a with
  | nil => simp [gval, B9_zero, padG]
  | cons g m ih =>
    rw [okG_cons] at h
    have h0 := gval_nonneg h.2
    have hb := B9_pos m.length
    have e : (gval (g :: m) + B9 (g :: m).length * (a : Int)).toNat = (gval m + B9 m.length * a).toNat * 10 ^ 9 + g.toNat := by
      have e1 : gval (g :: m) + B9 (g :: m).length * (a : Int) = (gval m + B9 m.length * a) * 1000000000 + g := by
        simp only [gval, List.length_cons, B9_succ]; grind
      have h1 : 0 ≤ B9 m.length * (a : Int) := Int.mul_nonneg (by omega) (by omega)
      rw [e1]; omega
    have hpos : (gval m + B9 m.length * a).toNat ≠ 0 := by
      have h1 : B9 m.length * 1 ≤ B9 m.length * (a : Int) := Int.mul_le_mul_of_nonneg_left (by omega) (by omega)
      omega
    rw [e, dtext_fix 9 _ _ hpos (by have : (10 : Nat) ^ 9 = 1000000000 := by decide
                                    omega), ih a ha h.2, padG, List.append_assoc]
theorem dtext_top (m : List Int) (g : Int) (h : okG (m ++ [g])) (hg : g ≠ 0) : dtext (gval (m ++ [g])).toNat = dtext g.toNat ++ padG m := by
  rw [okG_append, okG_cons] at h
  have := dtext_padG m g.toNat (by omega) h.1
  rw [gval_append]
  simp only [gval, Int.mul_zero, Int.add_zero]
  rw [← this]
  congr 4
  omega
end Go.Proofs.YtblcgcibkikgeaaGreatDoor.P
end
section
namespace Go.Proofs.YtblcgcibkikgeaaGreatDoor.P
theorem dropWhile_nil (p : UInt8 → Bool) (l : Bs) : l.dropWhile p = [] ↔ ∀ x ∈ l, p x = true := by
  induction l with
  | nil => simp
  | cons c l ih =>
    rw [List.dropWhile_cons]
    split
    · rename_i h; rw [ih]; simp [h]
    · rename_i h; simp [h]
theorem trimS_nil (l cs : Bs) : Lib.trimS l cs = [] ↔ l.all (cs.contains ·) = true := by
  unfold Lib.trimS Lib.trimRightS Lib.trimLeftS
  rw [dropWhile_nil, List.all_eq_true]
  constructor
  · intro h
    have h1 : l.reverse.dropWhile (cs.contains ·) = [] := by
      cases hd : l.reverse.dropWhile (cs.contains ·) with
      | nil => rfl
      | cons c m =>
        exfalso
        have hne : l.reverse.dropWhile (cs.contains ·) ≠ [] := by rw [hd]; simp
        have h2 := List.head_dropWhile_not (p := (cs.contains ·)) (l := l.reverse) hne
        have h3 := h ((l.reverse.dropWhile (cs.contains ·)).head hne) (by simp)
        rw [h3] at h2
        exact absurd h2 (by decide)
    intro x hx
    exact (dropWhile_nil _ _).1 h1 x (by simpa using hx)
  · intro h x hx
    have h1 : l.reverse.dropWhile (cs.contains ·) = [] := (dropWhile_nil _ _).2 (fun y hy => h y (by simpa using hy))
    rw [h1] at hx
    simp at hx
theorem digit_contains (c : UInt8) : ([48, 49, 50, 51, 52, 53, 54, 55, 56, 57] : List UInt8).contains c = isDig c := by
  rw [Bool.eq_iff_iff, isDig_iff]
  simp only [List.contains_eq_mem, List.mem_cons, List.mem_nil_iff, or_false, decide_eq_true_eq, ← UInt8.toNat_inj]
  simp
  omega
theorem trimS_digits (l : Bs) : Lib.trimS l [48, 49, 50, 51, 52, 53, 54, 55, 56, 57] = [] ↔ l.all isDig = true := by
  rw [trimS_nil]
  have : (fun c => ([48, 49, 50, 51, 52, 53, 54, 55, 56, 57] : List UInt8).contains c) = isDig := funext digit_contains
  rw [show (fun x => ([48, 49, 50, 51, 52, 53, 54, 55, 56, 57] : List UInt8).contains x) = isDig from this]
theorem trimLeft_zero (l : Bs) : Lib.trimLeftS l [48] = strip0 l := by
  unfold Lib.trimLeftS strip0
  congr 1
  funext c
  rw [Bool.eq_iff_iff]; simp
theorem unsign_prefix (l : Bs) : unsign l = (Lib.hasPrefix l [45], Lib.trimPrefix l [45]) := by
  unfold Lib.trimPrefix Lib.hasPrefix
  cases l with
  | nil => rfl
  | cons c l =>
    by_cases h : c = 45
    · subst h; rfl
    · have h1 : List.isPrefixOf [45] (c :: l) = false := by simp [List.isPrefixOf, Ne.symm h]
      rw [h1]
      unfold unsign
      split
      · rename_i heq; injection heq with h2 _; exact absurd h2 h
      · rfl
end Go.Proofs.YtblcgcibkikgeaaGreatDoor.P
namespace Go.Proofs.YtblcgcibkikgeaaGreatDoor.G1
open Go.RowKit Go.Proofs.YtblcgcibkikgeaaGreatDoorW.PrintWords Go.Proofs.YtblcgcibkikgeaaGreatDoorW.PrintLast Go.Proofs.YtblcgcibkikgeaaGreatDoorW.PrintMore Go.Proofs.YtblcgcibkikgeaaGreatDoor.K
set_option linter.unusedVariables false
def bsz (l : List UInt8) : ByteArray := ⟨l.toArray⟩
theorem bsz_list (l : List UInt8) : (bsz l).data.toList = l := by simp [bsz]
theorem bsz_toList (l : List UInt8) : (bsz l).toList = l := by rw [ByteArray.toList_eq]; exact bsz_list l
theorem bsz_eta (s : ByteArray) : bsz s.data.toList = s := by cases s; simp [bsz]
def integer_digits.f (a0 : ByteArray) : Option (ByteArray × Bool) :=
  if a0.size ≤ 9223372036854775807 then some (bsz (P.digs a0.data.toList).1, (P.digs a0.data.toList).2) else none
set_option maxHeartbeats 1000000 in
theorem integer_digits.calls (a0 : ByteArray) (r1 : ByteArray) (r2 : Bool) (w : World) (h : integer_digits.f a0 = some (r1, r2)) :
    Calls Tryz.prog 139 #[.string a0] w fun e w' => e = .returned (.tuple #[.string r1, .bool r2]) ∧ Below w.heap.size w w' := by
  unfold integer_digits.f at h
  split at h
  case isFalse => cases h
  rename_i hs
  simp only [Option.some.injEq, Prod.mk.injEq] at h
  obtain ⟨rfl, rfl⟩ := h
  have hp := P.unsign_prefix a0.data.toList
  have hlen : (Lib.trimPrefix a0.data.toList [45]).length ≤ 9223372036854775807 := by
    have hz : a0.data.toList.length ≤ 9223372036854775807 := by simpa using hs
    unfold Lib.trimPrefix
    split
    · rw [List.length_drop]; omega
    · exact hz
  have C1 := Tryz.strings_CutPrefix a0 ⟨#[45]⟩ w
  unfold P.digs
  rw [hp]
  generalize Lib.hasPrefix a0.data.toList [45] = ng at C1 ⊢
  generalize Lib.trimPrefix a0.data.toList [45] = m at C1 hlen ⊢
  simp only
  have hsz : (bsz m).size ≤ 9223372036854775807 := by show m.toArray.size ≤ _; simpa using hlen
  change Calls _ _ _ _ (fun e w' => e = .returned (.tuple #[.string (bsz m), .bool ng]) ∧ w' = w) at C1
  have C2 := Tryz.strings_digits_Trim (bsz m) w hsz
  rw [bsz_list] at C2
  by_cases hd : m.all P.isDig = true
  · rw [(P.trimS_digits m).2 hd] at C2
    rw [if_pos hd]
    have C3 := fun W => Tryz.strings_zero_TrimLeft (bsz m) W
    rw [bsz_list, P.trimLeft_zero] at C3
    clear hd hp hs hlen
    generalize P.strip0 m = z at C3 ⊢
    change Calls _ _ _ _ (fun e w' => e = .returned (.string (bsz [])) ∧ Below w.heap.size w w') at C2
    change ∀ W, Calls _ _ _ _ (fun e w' => e = .returned (.string (bsz z)) ∧ Below W.heap.size W w') at C3
    have e0 : (bsz []).toList = [] := bsz_toList []
    have e1 : (bsz z).toList = z := bsz_toList z
    cases z with
    | nil =>
      cases ng
      all_goals
        go_enter Tryz.func139, Tryz.ntmps139
        go_wp2_with (first | (go_at_call 121; refine C1.mono ?_; rintro e w' ⟨rfl, rfl⟩) | (go_at_call 189; refine C2.mono ?_; rintro e w1 ⟨rfl, hb1⟩) | (go_at_call 190; refine (C3 _).mono ?_; rintro e w2 ⟨rfl, hb2⟩))
        go_ret2
        exact ⟨rfl, hb1.trans (hb2.mono hb1.size)⟩
    | cons c z =>
      cases ng
      all_goals
        go_enter Tryz.func139, Tryz.ntmps139
        go_wp2_with (first | (go_at_call 121; refine C1.mono ?_; rintro e w' ⟨rfl, rfl⟩) | (go_at_call 189; refine C2.mono ?_; rintro e w1 ⟨rfl, hb1⟩) | (go_at_call 190; refine (C3 _).mono ?_; rintro e w2 ⟨rfl, hb2⟩))
        go_ret2
        exact ⟨rfl, hb1.trans (hb2.mono hb1.size)⟩
  · have hne : Lib.trimS m [48, 49, 50, 51, 52, 53, 54, 55, 56, 57] ≠ [] := fun e => hd ((P.trimS_digits m).1 e)
    rw [if_neg hd]
    generalize Lib.trimS m [48, 49, 50, 51, 52, 53, 54, 55, 56, 57] = z at C2 hne
    change Calls _ _ _ _ (fun e w' => e = .returned (.string (bsz z)) ∧ Below w.heap.size w w') at C2
    have e1 : (bsz z).toList = z := bsz_toList z
    clear hd hp hs hlen
    cases z with
    | nil => exact absurd rfl hne
    | cons c z =>
      clear hne
      go_enter Tryz.func139, Tryz.ntmps139
      go_wp2_with (first | (go_at_call 121; refine C1.mono ?_; rintro e w' ⟨rfl, rfl⟩) | (go_at_call 189; refine C2.mono ?_; rintro e w1 ⟨rfl, hb1⟩))
      go_ret2
      exact ⟨rfl, hb1⟩
def strconv_ParseUint.f (a0 : ByteArray) (a1 : Int) (a2 : Int) : Option (Int × Option Int) :=
  if a1 = 10 ∧ a2 = 64 ∧ a0.data.toList.all P.isDig = true ∧ 1 ≤ a0.data.toList.length ∧ a0.data.toList.length ≤ 9 then some ((P.dnum a0.data.toList : Int), none) else none
theorem parse_m (M : Nat) (l : List UInt8) (ha : l.all P.isDig = true) : ∀ acc : Nat, P.dnumF acc l ≤ M → P.dnumF acc l ≤ 18446744073709551609 → Lib.parseUintM M acc l = .ok (P.dnumF acc l) := by
  induction l with
  | nil => intro acc _ _; rfl
  | cons c l ih =>
    intro acc h1 h2
    simp only [List.all_cons, Bool.and_eq_true] at ha
    have hc := (P.isDig_iff c).1 ha.1
    have he : P.dnumF acc (c :: l) = P.dnumF (acc * 10 + (c.toNat - 48)) l := by show P.dnumF (10 * acc + P.dval c) l = _; unfold P.dval; rw [Nat.mul_comm]
    rw [he] at h1 h2 ⊢
    have hle : acc * 10 + (c.toNat - 48) ≤ P.dnumF (acc * 10 + (c.toNat - 48)) l := by
      rw [P.dnumF_eq]
      have := Nat.le_mul_of_pos_right (acc * 10 + (c.toNat - 48)) (Nat.pow_pos (n := l.length) (show 0 < 10 by decide))
      omega
    unfold Lib.parseUintM
    rw [if_pos hc, if_neg (by omega), if_neg (by omega)]
    exact ih ha.2 _ h1 h2
theorem parse_ok {l : List UInt8} (ha : l.all P.isDig = true) (h1 : 1 ≤ l.length) (h9 : l.length ≤ 9) : Lib.parseUintB 64 l = .ok (P.dnum l) := by
  have hlt := P.dnum_lt ha
  have hle : (10 : Nat) ^ l.length ≤ 10 ^ 9 := Nat.pow_le_pow_right (by decide) h9
  have h109 : (10 : Nat) ^ 9 = 1000000000 := by decide
  unfold Lib.parseUintB
  rw [if_neg (by intro e; rw [e] at h1; simp at h1)]
  exact parse_m _ l ha 0 (by show P.dnum l ≤ _; have : (2 : Nat) ^ 64 = 18446744073709551616 := by decide
                             omega) (by show P.dnum l ≤ _; omega)
theorem strconv_ParseUint.calls (a0 : ByteArray) (a1 : Int) (a2 : Int) (r1 : Int) (r2 : Option Int) (w : World) (h : strconv_ParseUint.f a0 a1 a2 = some (r1, r2)) :
    Calls Tryz.prog 192 #[.string a0, .int .i64 a1, .int .i64 a2] w fun e w' => e = .returned (.tuple #[.int .u64 r1, errW r2]) ∧ Below w.heap.size w w' := by
  unfold strconv_ParseUint.f at h
  split at h
  case isFalse => cases h
  rename_i hs
  obtain ⟨rfl, rfl, ha, h1, h9⟩ := hs
  simp only [Option.some.injEq, Prod.mk.injEq] at h
  obtain ⟨rfl, rfl⟩ := h
  have hsz : a0.size = a0.data.toList.length := by rw [Array.length_toList]; rfl
  refine (Tryz.strconv_ParseUint_10_at64_ok a0 (by omega) _ (parse_ok ha h1 h9) w).mono ?_
  rintro e w' ⟨rfl, hw⟩
  refine ⟨rfl, ?_⟩
  rcases hw with rfl | rfl
  · exact Below.refl _ _
  · exact Lib.bytesWorld_below _ _ _
def integer_magnitude_uint64.f (l0 : List Int) : Option (List Int) := if l0.length ≤ 1000000000000 then some l0 else none
theorem infoU64 : (Tryz.prog.info? 198).map (fun i => (i.zero, i.size, i.bytes)) = some (some (.int .u64 0), 1, 8) := by kernel_rfl
set_option maxHeartbeats 1000000 in
theorem integer_magnitude_uint64.calls (A0 : Option Addr) (c0 : Nat) (l0 : List Int) (r : List Int) (w : World) (hr0 : Kd.C (Kd.int .u64) w A0 l0.length l0) (hc0 : l0.length ≤ c0) (h : integer_magnitude_uint64.f l0 = some r) :
    Calls Tryz.prog 238 #[.slice A0 l0.length c0] w fun e w' => ∃ v0_ : Value, e = .returned (v0_) ∧ Kd.R (Kd.int .u64) 198 w' w.heap.size (fun _ => True) v0_ r ∧ Below w.heap.size w w' := by
  unfold integer_magnitude_uint64.f at h
  split at h
  case isFalse => cases h
  rename_i hlen
  simp only [Option.some.injEq] at h
  subst h
  cases A0 with
  | none =>
    have hl : l0 = [] := by
      cases l0 with
      | nil => rfl
      | cons x l =>
        obtain ⟨ad, h1, _⟩ := hr0.2.2 (by simp)
        cases h1
    subst hl
    clear hr0
    have hnil := fun W => run_eql_slice_nil (P := Tryz.prog) W 181 198 none 0 c0 Tryz.underlying181
    go_enter Tryz.func238, Tryz.ntmps238
    go_wp2
    go_ret
    exact ⟨_, rfl, Kd.R_nil _ _ _ _ _, Below.refl _ _⟩
  | some ad =>
    have hnil := fun W => run_eql_slice_nil (P := Tryz.prog) W 181 198 (some ad) l0.length c0 Tryz.underlying181
    have HR := Aside0.mk hr0
    have HC := Aside0.mk hlen
    clear hr0 hlen hc0
    go_enter Tryz.func238, Tryz.ntmps238
    go_wp2_with (first
      | ((with_reducible refine gate_dst (N := 5) rfl ?_); refine Kd.R_lit (Kd.int .u64) w.heap.size 198 ?hg (N := 5) ?hd (xs := ([] : List Int)) (inner := []) (ok := fun _ => True) (okp := fun _ => True) ?hr ?hp (fun _ hk => hk) trivial (Below.refl _ _) (Nat.le_refl _) (by simp) ?_; (case hd => rfl); (case hg => rfl); (case hr => first | (go_simp; done) | (go_simp; rfl)); (case hp => exact (Reps.none _ _)); intro v1 w1 ho hb hg_ hnew_; clear hg_ hnew_; have HO := Aside0.mk ho; have HB := Aside0.mk hb; clear ho hb)
      | ((with_reducible refine gate_builtin (b := .append) (xs := #[.tmp 5, .tmp 6]) rfl ?_); at_builtin; refine Kd.R_append_rows (Kd.int .u64) (Rr := (Kd.int .u64).K w1) (w0 := w) w.heap.size rfl (.tmp 5) (.tmp 6) 181 198 (.int .u64 0) 8 rfl Tryz.underlying181 infoU64 rfl (by decide) (by omega) v1 [] l0 (some ad) l0.length c0 (fun _ => True) (fun _ => False) rfl rfl HO.out (Kd.C_below HR.out HB.out) (fun x cs hk => hk) (fun _ hk => hk.elim) (fun _ _ => trivial) HB.out HB.out.size (by have := HC.out; simp; omega) ?_; intro v2 w2 ho2 hb2 hg2 hn2; clear hg2 hn2; have HO2 := Aside0.mk ho2; have HB2 := Aside0.mk hb2; clear ho2 hb2))
    go_ret
    exact ⟨_, rfl, by simpa using HO2.out, HB2.out⟩
end Go.Proofs.YtblcgcibkikgeaaGreatDoor.G1
end
section
namespace Go.Proofs.YtblcgcibkikgeaaGreatDoor.P
def addC : List Int → List Int → Int → List Int
  | [], _, c => if c > 0 then [c] else []
  | a :: l, [], c => (a + c) % 1000000000 :: addC l [] ((a + c) / 1000000000)
  | a :: l, b :: m, c => (a + c + b) % 1000000000 :: addC l m ((a + c + b) / 1000000000)
theorem addC_facts (l : List Int) : ∀ (m : List Int) (c : Int), okG l → okG m → 0 ≤ c → c ≤ 1 → m.length ≤ l.length →
    okG (addC l m c) ∧ gval (addC l m c) = gval l + gval m + c ∧ (addC l m c).length ≤ l.length + 1 ∧ (normG l → normG (addC l m c)) := by
  induction l with
  | nil =>
    intro m c _ _ h0 h1 hl
    have : m = [] := List.eq_nil_of_length_eq_zero (by simpa using hl)
    subst this
    unfold addC
    split
    · exact ⟨okG_cons.2 ⟨by omega, okG_nil⟩, by simp [gval], by simp, fun _ => by simp [normG]; omega⟩
    · exact ⟨okG_nil, by simp [gval]; omega, by simp, fun _ => normG_nil⟩
  | cons a l ih =>
    intro m c hl hm h0 h1 hle
    rw [okG_cons] at hl
    have key : ∀ (m' : List Int) (b : Int), okG m' → 0 ≤ b → b < 1000000000 → m'.length ≤ l.length →
        okG ((a + c + b) % 1000000000 :: addC l m' ((a + c + b) / 1000000000)) ∧ gval ((a + c + b) % 1000000000 :: addC l m' ((a + c + b) / 1000000000)) = gval (a :: l) + (b + 1000000000 * gval m') + c ∧ ((a + c + b) % 1000000000 :: addC l m' ((a + c + b) / 1000000000)).length ≤ (a :: l).length + 1 ∧ (normG (a :: l) → normG ((a + c + b) % 1000000000 :: addC l m' ((a + c + b) / 1000000000))) := by
      intro m' b hm' hb0 hb1 hle'
      obtain ⟨i1, i2, i3, i4⟩ := ih m' ((a + c + b) / 1000000000) hl.2 hm' (by omega) (by omega) hle'
      refine ⟨okG_cons.2 ⟨by omega, i1⟩, by simp only [gval, i2]; omega, by simp only [List.length_cons]; omega, ?_⟩
      intro hn
      cases hl2 : l with
      | nil =>
        subst hl2
        have hm2 : m' = [] := List.eq_nil_of_length_eq_zero (by simpa using hle')
        have ha : a ≠ 0 := by simpa [normG] using hn
        unfold addC
        split
        · simp [normG]; omega
        · simp [normG]; omega
      | cons x l' =>
        have hn2 : normG l := by rw [hl2] at hn ⊢; simpa [normG] using hn
        have := i4 hn2
        rw [hl2] at this
        cases h3 : addC (x :: l') m' ((a + c + b) / 1000000000) with
        | nil =>
          exfalso
          cases m' <;> simp [addC] at h3
        | cons y z => rw [h3] at this; simpa [normG] using this
    cases m with
    | nil =>
      have := key [] 0 okG_nil (by omega) (by omega) (by simp)
      simp only [Int.add_zero] at this
      unfold addC
      simpa [gval] using this
    | cons b m =>
      rw [okG_cons] at hm
      have := key m b hm.2 hm.1.1 hm.1.2 (by simpa using hle)
      unfold addC
      simpa [gval] using this
end Go.Proofs.YtblcgcibkikgeaaGreatDoor.P
namespace Go.Proofs.YtblcgcibkikgeaaGreatDoor.G1
open Go.RowKit Go.Proofs.YtblcgcibkikgeaaGreatDoorW.PrintWords Go.Proofs.YtblcgcibkikgeaaGreatDoorW.PrintLast Go.Proofs.YtblcgcibkikgeaaGreatDoorW.PrintMore Go.Proofs.YtblcgcibkikgeaaGreatDoor.K
set_option linter.unusedVariables false
def integer_magnitude_plus.f (l0 : List Int) (l1 : List Int) : Option (List Int) :=
  if (∀ g ∈ l0, 0 ≤ g ∧ g < 1000000000) ∧ (∀ g ∈ l1, 0 ≤ g ∧ g < 1000000000) ∧ l0.length ≤ 1000000000000 ∧ l1.length ≤ 1000000000000 then
    some (if l0.length < l1.length then P.addC l1 l0 0 else P.addC l0 l1 0) else none
theorem alloc_new (w : World) (o : Obj) : (w.alloc o).heap[w.heap.size]? = some o := by
  show (w.heap.push o)[w.heap.size]? = some o
  simp
theorem made_one (z : Value) (n : Nat) : madeCells #[z] n = (List.replicate n z).toArray := by
  apply Array.ext
  · simp [madeCells]
  · intro i h1 h2
    simp [madeCells, Nat.mod_one]
theorem copy_cells {A : Option Addr} {l : List Int} {w : World} {o : Obj} {ad : Addr} (h : Kd.C (Kd.int .u64) w A l.length l) (e : A = some ad) (j : Nat) (v : Value) (hj : (l.map (Value.int .u64))[j]? = some v) : (w.alloc o).cell? (ad.add j) = some v := by
  rw [List.getElem?_map] at hj
  obtain ⟨x, hx, rfl⟩ := Option.map_eq_some_iff.1 hj
  have hlt : j < l.length := (List.getElem?_eq_some_iff.1 hx).1
  obtain ⟨ad2, e2, hc⟩ := Kd.at_int h (j : Int) (by omega) (by omega)
  obtain rfl : ad = ad2 := by rw [e] at e2; injection e2
  have hb := below_alloc (Below.refl w.heap.size w) o
  have := pw_cell_below hb hc
  rw [Int.toNat_natCast] at this
  rw [this]
  have : rd l (j : Int) = x := by unfold rd; rw [Int.toNat_natCast, List.getD_eq_getElem?_getD, hx]; rfl
  rw [this]
theorem made_row {w' : World} {g base n : Nat} {l : List Int} (hl : l.length = n) (hb : base ≤ g) (hn : n ≤ 1000000000000)
    (h : w'.heap[g]? = some (.cells (splice (List.replicate (n + 1) (Value.int .u64 0)) 0 (l.map (Value.int .u64))).toArray 198 (0, 0))) :
    Kd.R (Kd.int .u64) 198 w' base (fun _ => True) (.slice (some ⟨g, 0, none⟩) n (n + 1)) l := by
  subst hl
  refine Kd.R_of_own (enc := fun x => Value.int .u64 x) (h1 := fun _ => rfl) ⟨?_, .inr ⟨g, l.length + 1, _, rfl, hb, h, by omega, by unfold maxLen; omega, ?_, ?_⟩⟩ (fun _ _ => trivial)
  · simp [encs]
  · simp [splice]
  · simp [splice, encs]
theorem step_list {l0 xs done : List Int} {i : Nat} {q : Int} (h1 : done.length = i) (h2 : xs = done ++ l0.drop i) (hi : i < l0.length) :
    (done ++ [q]).length = i + 1 ∧ xs.set i q = (done ++ [q]) ++ l0.drop (i + 1) := by
  refine ⟨by simp [h1], ?_⟩
  have e : (l0.drop i).set 0 q = q :: l0.drop (i + 1) := by
    cases hd : l0.drop i with
    | nil => exact absurd (List.drop_eq_nil_iff.1 hd) (by omega)
    | cons x t => rw [List.set_cons_zero]; congr 1; rw [← List.drop_drop, hd]; rfl
  rw [h2, List.set_append_right _ _ (by omega), h1, Nat.sub_self, e]
  simp
theorem step_both {l0 l1 done : List Int} {i : Nat} {a b c : Int} (hi : i < l0.length) (hi1 : i < l1.length) (ha : l0.getD i 0 = a) (hb : l1.getD i 0 = b)
    (h3 : P.addC l0 l1 0 = done ++ P.addC (l0.drop i) (l1.drop i) c) :
    P.addC l0 l1 0 = (done ++ [(a + c + b) % 1000000000]) ++ P.addC (l0.drop (i + 1)) (l1.drop (i + 1)) ((a + c + b) / 1000000000) := by
  rw [h3, List.drop_eq_getElem_cons hi, List.drop_eq_getElem_cons hi1]
  rw [List.getD_eq_getElem?_getD, List.getElem?_eq_getElem hi] at ha
  rw [List.getD_eq_getElem?_getD, List.getElem?_eq_getElem hi1] at hb
  simp only [Option.getD_some] at ha hb
  rw [ha, hb, P.addC]
  simp
theorem step_one {l0 l1 done : List Int} {i : Nat} {a c : Int} (hi : i < l0.length) (hi1 : ¬ i < l1.length) (ha : l0.getD i 0 = a)
    (h3 : P.addC l0 l1 0 = done ++ P.addC (l0.drop i) (l1.drop i) c) :
    P.addC l0 l1 0 = (done ++ [(a + c) % 1000000000]) ++ P.addC (l0.drop (i + 1)) (l1.drop (i + 1)) ((a + c) / 1000000000) := by
  rw [h3, List.drop_eq_getElem_cons hi, List.drop_eq_nil_of_le (by omega : l1.length ≤ i), List.drop_eq_nil_of_le (by omega : l1.length ≤ i + 1)]
  rw [List.getD_eq_getElem?_getD, List.getElem?_eq_getElem hi] at ha
  simp only [Option.getD_some] at ha
  rw [ha, P.addC]
  simp
set_option maxHeartbeats 2000000 in
set_option maxRecDepth 100000 in
theorem integer_magnitude_plus.calls (A0 : Option Addr) (c0 : Nat) (l0 : List Int) (A1 : Option Addr) (c1 : Nat) (l1 : List Int) (r : List Int) (w : World) (hr0 : Kd.C (Kd.int .u64) w A0 l0.length l0) (hc0 : l0.length ≤ c0) (hr1 : Kd.C (Kd.int .u64) w A1 l1.length l1) (hc1 : l1.length ≤ c1) (h : integer_magnitude_plus.f l0 l1 = some r) :
    Calls Tryz.prog 197 #[.slice A0 l0.length c0, .slice A1 l1.length c1] w fun e w' => ∃ v0_ : Value, e = .returned (v0_) ∧ Kd.R (Kd.int .u64) 198 w' w.heap.size (fun _ => True) v0_ r ∧ Below w.heap.size w w' := by
  unfold integer_magnitude_plus.f at h
  split at h
  case isFalse => cases h
  rename_i hs
  obtain ⟨ho0, ho1, hn0, hn1⟩ := hs
  simp only [Option.some.injEq] at h
  have HR0 := Aside0.mk hr0
  have HR1 := Aside0.mk hr1
  have HO0 := Aside0.mk ho0
  have HO1 := Aside0.mk ho1
  clear hr0 hr1 ho0 ho1 hc0 hc1
  obtain ⟨i0, hi, hz0, hz1, hz2⟩ := info_parts infoU64
  by_cases hlt : l0.length < l1.length
  · rw [if_pos hlt] at h
    subst h
    have hd : decide (l0.length < l1.length) = true := by simpa using hlt
    have hmk := fun W => run_make (P := Tryz.prog) W 181 198 i0 (.int .u64 0) Tryz.underlying181 hi hz0 .i64 .i64 (l1.length : Int) (l1.length + 1 : Int) (by omega) (by omega) (by rw [hz2]; omega) (by omega)
    have hmk2 : ∀ W : World, (Instr.makeSlice 181 (.int .i64 (l1.length : Int)) (.int .i64 (l1.length + 1 : Int))).run Tryz.prog W = .ok (.slice (some ⟨W.heap.size, 0, none⟩) l1.length (l1.length + 1)) (W.alloc (.cells (List.replicate (l1.length + 1) (Value.int .u64 0)).toArray 198)) := fun W => by
      rw [hmk W, hz1]
      have e1 : ((l1.length : Int) + 1).toNat = l1.length + 1 := by omega
      rw [e1, Nat.mul_one, Int.toNat_natCast]
      show Result.ok _ (W.alloc (.cells (madeCells #[Value.int .u64 0] (l1.length + 1)) _)) = _
      rw [made_one]
    clear hmk hi hz0 hz1 hz2
    go_enter Tryz.func197, Tryz.ntmps197
    go_wp2_with (first
      | ((with_reducible refine gate_builtin (b := .copy) (xs := #[.tmp 21, .tmp 22]) rfl ?_); go_loud (refine wpList_copy_splice rfl (.tmp 21) (.tmp 22) 181 181 rfl 198 Tryz.underlying181 (by kernel_rfl) (some ⟨w.heap.size, 0, none⟩) A1 l1.length (l1.length + 1) l1.length c1 rfl rfl w.heap.size 0 (List.replicate (l1.length + 1) (Value.int .u64 0)) 198 (alloc_new _ _) (l1.map (Value.int .u64)) (by simp) ?hpos (by simp) (by intro v hv; obtain ⟨x, _, rfl⟩ := List.mem_map.1 hv; rfl) w.heap.size w ((Below.refl _ _).alloc (Nat.le_refl _) _) (Nat.le_refl _) ?_); (case hpos => (intro hp; obtain ⟨ad, e1, _⟩ := HR1.out.2.2 (by simpa using hp); refine ⟨rfl, ad, e1, fun j v hj => ?_⟩; exact copy_cells HR1.out e1 j v hj)); intro w2 hg2 hb2; have HG2 := Aside0.mk hg2.out; have HB2 := Aside0.mk hb2; clear hg2 hb2))
    have HL := Aside0.mk (made_row (base := w.heap.size) rfl (Nat.le_refl _) hn1 HG2.out)
    clear HG2 hmk2 hd
    go_loopw [6, 26] (fun v6 v26 wr => ∃ (i : Nat) (c : Int) (xs done : List Int), v6 = .int .u64 c ∧ v26 = .int .i64 (i : Int) ∧ i ≤ l1.length ∧ 0 ≤ c ∧ c ≤ 1 ∧ Aside0 (Kd.R (Kd.int .u64) 198 wr w.heap.size (fun _ => True) (.slice (some ⟨w.heap.size, 0, none⟩) l1.length (l1.length + 1)) xs) ∧ Aside0 (Below w.heap.size w wr) ∧ Aside0 (done.length = i ∧ xs = done ++ l1.drop i ∧ P.addC l1 l0 0 = done ++ P.addC (l1.drop i) (l0.drop i) c)) (fun _ v26 _ => l1.length - (intOf v26).toNat)
    case atStart => exact ⟨0, 0, l1, [], rfl, rfl, Nat.zero_le _, by omega, by omega, HL, HB2, ⟨rfl, rfl, rfl⟩⟩
    case round =>
      obtain ⟨i, c, xs, done, rfl, rfl, hile, hc0, hc1, HX, HB, HE⟩ := hrel
      clear HL HB2
      by_cases hil : i < l1.length
      · obtain ⟨hx, hf⟩ := Kd.R_celln 0 HX.out (i : Int) (by omega) (by omega)
        rw [Int.toNat_natCast] at hx hf
        have ha := HO1.out (l1.getD i 0) (by rw [List.getD_eq_getElem?_getD, List.getElem?_eq_getElem hil]; exact List.getElem_mem hil)
        have hval : rdOf 0 xs (i : Int) = l1.getD i 0 := by
          unfold rdOf
          rw [Int.toNat_natCast, HE.out.2.1, List.getD_eq_getElem?_getD, List.getElem?_append_right (by have := HE.out.1; omega), HE.out.1, Nat.sub_self, List.getElem?_drop, Nat.add_zero, ← List.getD_eq_getElem?_getD]
        rw [hval] at hx
        have HV := Aside0.mk hval
        clear hval
        generalize hga : l1.getD i 0 = a at *
        have HA := Aside0.mk hga
        clear hga
        have hlti : decide ((i : Int) < (l1.length : Int)) = true := by simp; omega
        obtain ⟨ha0, ha1⟩ := ha
        by_cases hil1 : i < l0.length
        · obtain ⟨ad, e1, h1⟩ := Kd.at_int HR0.out (i : Int) (by omega) (by omega)
          cases e1
          rw [Int.toNat_natCast] at h1
          have hb := HO0.out (l0.getD i 0) (by rw [List.getD_eq_getElem?_getD, List.getElem?_eq_getElem hil1]; exact List.getElem_mem hil1)
          have hvb : rd l0 (i : Int) = l0.getD i 0 := by unfold rd; rw [Int.toNat_natCast]
          rw [hvb] at h1
          clear hvb
          generalize hgb : l0.getD i 0 = b at *
          have HBv := Aside0.mk hgb
          clear hgb
          obtain ⟨hb0, hb1⟩ := hb
          have hne : (ad.add i).block < w.heap.size := World.block_lt_of_cell? w _ h1
          have h1w : ∀ v, (wr.setCell ⟨w.heap.size, i, none⟩ v).cell? (ad.add i) = some (.int .u64 b) := fun v => by
            rw [World.cell?_setCell_other _ _ _ _ (by intro e; rw [← e] at hne; exact absurd hne (Nat.lt_irrefl _))]
            exact pw_cell_below HB.out h1
          have hlt1 : decide ((i : Int) < (l0.length : Int)) = true := by simp; omega
          clear h1 hne
          go_wp2
          go_region
          go_wp2
          go_roundw
          case rel =>
            have HX3 := Kd.R_putn (Kd.R_putn (Kd.R_putn HX.out (i : Int) (a + c)) (i : Int) (a + c + b)) (i : Int) ((a + c + b) % 1000000000)
            rw [Int.toNat_natCast, List.set_set, List.set_set] at HX3
            obtain ⟨s1, s2⟩ := step_list (q := (a + c + b) % 1000000000) HE.out.1 HE.out.2.1 hil
            exact ⟨i + 1, (a + c + b) / 1000000000, xs.set i ((a + c + b) % 1000000000), done ++ [(a + c + b) % 1000000000], rfl, by go_num, by omega, by omega, by omega, ⟨Kd.R_drew HX3⟩, ⟨(below_set (below_set (below_set HB.out (Nat.le_refl _)) (Nat.le_refl _)) (Nat.le_refl _)).drew⟩, ⟨s1, s2, step_both hil hil1 HA.out HBv.out HE.out.2.2⟩⟩
          case measure => simp [intOf]; omega
        · have hlt1 : decide ((i : Int) < (l0.length : Int)) = false := by simp; omega
          go_wp2
          go_roundw
          case rel =>
            have HX3 := Kd.R_putn (Kd.R_putn HX.out (i : Int) (a + c)) (i : Int) ((a + c) % 1000000000)
            rw [Int.toNat_natCast, List.set_set] at HX3
            obtain ⟨s1, s2⟩ := step_list (q := (a + c) % 1000000000) HE.out.1 HE.out.2.1 hil
            exact ⟨i + 1, (a + c) / 1000000000, xs.set i ((a + c) % 1000000000), done ++ [(a + c) % 1000000000], rfl, by go_num, by omega, by omega, by omega, ⟨HX3⟩, ⟨below_set (below_set HB.out (Nat.le_refl _)) (Nat.le_refl _)⟩, ⟨s1, s2, step_one hil hil1 HA.out HE.out.2.2⟩⟩
          case measure => simp [intOf]; omega
      · obtain rfl : i = l1.length := by omega
        have hend : decide ((l1.length : Int) < (l1.length : Int)) = false := by simp
        have hdone : P.addC l1 l0 0 = done ++ P.addC [] [] c ∧ xs = done ∧ xs.length = l1.length := by
          have h0 := HE.out.1
          have h1 := HE.out.2.1
          have h2 := HE.out.2.2
          rw [List.drop_eq_nil_of_le (Nat.le_refl _)] at h1 h2
          rw [List.drop_eq_nil_of_le (by omega : l0.length ≤ l1.length)] at h2
          rw [List.append_nil] at h1
          exact ⟨h2, h1, by rw [h1]; exact h0⟩
        have HE := Aside0.mk hdone
        have HM := Aside0.mk hn1
        have HLEN := Aside0.mk hdone.2.2
        clear hdone hn1 hn0 hlt
        by_cases hc : 0 < c
        · obtain rfl : c = 1 := by omega
          clear hc hc0 hc1
          go_wp2_with (first | ((with_reducible refine gate_builtin (b := .append) (xs := #[.tmp 64, .tmp 66]) rfl ?_); at_builtin; refine Kd.R_append (Kd.int .u64) (w0 := w) w.heap.size rfl (.tmp 64) (.tmp 66) 181 198 (.int .u64 0) 8 rfl Tryz.underlying181 infoU64 rfl (by decide) (by omega) _ xs 1 [.int .u64 1] (fun _ => True) (fun _ => False) rfl rfl ?aP (fun _ hk => hk.elim) ?aF ?aO ?aB ?aS ?aL ?_; (case aP => exact rfl); (case aB => exact HB.out); (case aF => exact (fun _ _ => trivial)); (case aO => exact HX.out); (case aS => exact HB.out.size); (case aL => have := HM.out; have := HLEN.out; omega); intro v2 w2 ho2 hb2 hg2 hn2; clear hg2 hn2; have HO2 := Aside0.mk ho2; have HB2 := Aside0.mk hb2; clear ho2 hb2))
          go_ret
          refine ⟨_, rfl, ?_, HB2.out⟩
          rw [HE.out.1, ← HE.out.2.1]
          exact HO2.out
        · obtain rfl : c = 0 := by omega
          clear hc hc0 hc1
          go_wp2
          go_ret
          refine ⟨_, rfl, ?_, HB.out⟩
          rw [HE.out.1, ← HE.out.2.1]
          simpa [P.addC] using HX.out
  · rw [if_neg hlt] at h
    subst h
    have hd : decide (l0.length < l1.length) = false := by simpa using hlt
    have hmk := fun W => run_make (P := Tryz.prog) W 181 198 i0 (.int .u64 0) Tryz.underlying181 hi hz0 .i64 .i64 (l0.length : Int) (l0.length + 1 : Int) (by omega) (by omega) (by rw [hz2]; omega) (by omega)
    have hmk2 : ∀ W : World, (Instr.makeSlice 181 (.int .i64 (l0.length : Int)) (.int .i64 (l0.length + 1 : Int))).run Tryz.prog W = .ok (.slice (some ⟨W.heap.size, 0, none⟩) l0.length (l0.length + 1)) (W.alloc (.cells (List.replicate (l0.length + 1) (Value.int .u64 0)).toArray 198)) := fun W => by
      rw [hmk W, hz1]
      have e1 : ((l0.length : Int) + 1).toNat = l0.length + 1 := by omega
      rw [e1, Nat.mul_one, Int.toNat_natCast]
      show Result.ok _ (W.alloc (.cells (madeCells #[Value.int .u64 0] (l0.length + 1)) _)) = _
      rw [made_one]
    clear hmk hi hz0 hz1 hz2
    go_enter Tryz.func197, Tryz.ntmps197
    go_wp2_with (first
      | ((with_reducible refine gate_builtin (b := .copy) (xs := #[.tmp 21, .tmp 22]) rfl ?_); go_loud (refine wpList_copy_splice rfl (.tmp 21) (.tmp 22) 181 181 rfl 198 Tryz.underlying181 (by kernel_rfl) (some ⟨w.heap.size, 0, none⟩) A0 l0.length (l0.length + 1) l0.length c0 rfl rfl w.heap.size 0 (List.replicate (l0.length + 1) (Value.int .u64 0)) 198 (alloc_new _ _) (l0.map (Value.int .u64)) (by simp) ?hpos (by simp) (by intro v hv; obtain ⟨x, _, rfl⟩ := List.mem_map.1 hv; rfl) w.heap.size w ((Below.refl _ _).alloc (Nat.le_refl _) _) (Nat.le_refl _) ?_); (case hpos => (intro hp; obtain ⟨ad, e1, _⟩ := HR0.out.2.2 (by simpa using hp); refine ⟨rfl, ad, e1, fun j v hj => ?_⟩; exact copy_cells HR0.out e1 j v hj)); intro w2 hg2 hb2; have HG2 := Aside0.mk hg2.out; have HB2 := Aside0.mk hb2; clear hg2 hb2))
    have HL := Aside0.mk (made_row (base := w.heap.size) rfl (Nat.le_refl _) hn0 HG2.out)
    clear HG2 hmk2 hd
    go_loopw [6, 26] (fun v6 v26 wr => ∃ (i : Nat) (c : Int) (xs done : List Int), v6 = .int .u64 c ∧ v26 = .int .i64 (i : Int) ∧ i ≤ l0.length ∧ 0 ≤ c ∧ c ≤ 1 ∧ Aside0 (Kd.R (Kd.int .u64) 198 wr w.heap.size (fun _ => True) (.slice (some ⟨w.heap.size, 0, none⟩) l0.length (l0.length + 1)) xs) ∧ Aside0 (Below w.heap.size w wr) ∧ Aside0 (done.length = i ∧ xs = done ++ l0.drop i ∧ P.addC l0 l1 0 = done ++ P.addC (l0.drop i) (l1.drop i) c)) (fun _ v26 _ => l0.length - (intOf v26).toNat)
    case atStart => exact ⟨0, 0, l0, [], rfl, rfl, Nat.zero_le _, by omega, by omega, HL, HB2, ⟨rfl, rfl, rfl⟩⟩
    case round =>
      obtain ⟨i, c, xs, done, rfl, rfl, hile, hc0, hc1, HX, HB, HE⟩ := hrel
      clear HL HB2
      by_cases hil : i < l0.length
      · obtain ⟨hx, hf⟩ := Kd.R_celln 0 HX.out (i : Int) (by omega) (by omega)
        rw [Int.toNat_natCast] at hx hf
        have ha := HO0.out (l0.getD i 0) (by rw [List.getD_eq_getElem?_getD, List.getElem?_eq_getElem hil]; exact List.getElem_mem hil)
        have hval : rdOf 0 xs (i : Int) = l0.getD i 0 := by
          unfold rdOf
          rw [Int.toNat_natCast, HE.out.2.1, List.getD_eq_getElem?_getD, List.getElem?_append_right (by have := HE.out.1; omega), HE.out.1, Nat.sub_self, List.getElem?_drop, Nat.add_zero, ← List.getD_eq_getElem?_getD]
        rw [hval] at hx
        have HV := Aside0.mk hval
        clear hval
        generalize hga : l0.getD i 0 = a at *
        have HA := Aside0.mk hga
        clear hga
        have hlti : decide ((i : Int) < (l0.length : Int)) = true := by simp; omega
        obtain ⟨ha0, ha1⟩ := ha
        by_cases hil1 : i < l1.length
        · obtain ⟨ad, e1, h1⟩ := Kd.at_int HR1.out (i : Int) (by omega) (by omega)
          cases e1
          rw [Int.toNat_natCast] at h1
          have hb := HO1.out (l1.getD i 0) (by rw [List.getD_eq_getElem?_getD, List.getElem?_eq_getElem hil1]; exact List.getElem_mem hil1)
          have hvb : rd l1 (i : Int) = l1.getD i 0 := by unfold rd; rw [Int.toNat_natCast]
          rw [hvb] at h1
          clear hvb
          generalize hgb : l1.getD i 0 = b at *
          have HBv := Aside0.mk hgb
          clear hgb
          obtain ⟨hb0, hb1⟩ := hb
          have hne : (ad.add i).block < w.heap.size := World.block_lt_of_cell? w _ h1
          have h1w : ∀ v, (wr.setCell ⟨w.heap.size, i, none⟩ v).cell? (ad.add i) = some (.int .u64 b) := fun v => by
            rw [World.cell?_setCell_other _ _ _ _ (by intro e; rw [← e] at hne; exact absurd hne (Nat.lt_irrefl _))]
            exact pw_cell_below HB.out h1
          have hlt1 : decide ((i : Int) < (l1.length : Int)) = true := by simp; omega
          clear h1 hne
          go_wp2
          go_region
          go_wp2
          go_roundw
          case rel =>
            have HX3 := Kd.R_putn (Kd.R_putn (Kd.R_putn HX.out (i : Int) (a + c)) (i : Int) (a + c + b)) (i : Int) ((a + c + b) % 1000000000)
            rw [Int.toNat_natCast, List.set_set, List.set_set] at HX3
            obtain ⟨s1, s2⟩ := step_list (q := (a + c + b) % 1000000000) HE.out.1 HE.out.2.1 hil
            exact ⟨i + 1, (a + c + b) / 1000000000, xs.set i ((a + c + b) % 1000000000), done ++ [(a + c + b) % 1000000000], rfl, by go_num, by omega, by omega, by omega, ⟨Kd.R_drew HX3⟩, ⟨(below_set (below_set (below_set HB.out (Nat.le_refl _)) (Nat.le_refl _)) (Nat.le_refl _)).drew⟩, ⟨s1, s2, step_both hil hil1 HA.out HBv.out HE.out.2.2⟩⟩
          case measure => simp [intOf]; omega
        · have hlt1 : decide ((i : Int) < (l1.length : Int)) = false := by simp; omega
          go_wp2
          go_roundw
          case rel =>
            have HX3 := Kd.R_putn (Kd.R_putn HX.out (i : Int) (a + c)) (i : Int) ((a + c) % 1000000000)
            rw [Int.toNat_natCast, List.set_set] at HX3
            obtain ⟨s1, s2⟩ := step_list (q := (a + c) % 1000000000) HE.out.1 HE.out.2.1 hil
            exact ⟨i + 1, (a + c) / 1000000000, xs.set i ((a + c) % 1000000000), done ++ [(a + c) % 1000000000], rfl, by go_num, by omega, by omega, by omega, ⟨HX3⟩, ⟨below_set (below_set HB.out (Nat.le_refl _)) (Nat.le_refl _)⟩, ⟨s1, s2, step_one hil hil1 HA.out HE.out.2.2⟩⟩
          case measure => simp [intOf]; omega
      · obtain rfl : i = l0.length := by omega
        have hend : decide ((l0.length : Int) < (l0.length : Int)) = false := by simp
        have hdone : P.addC l0 l1 0 = done ++ P.addC [] [] c ∧ xs = done ∧ xs.length = l0.length := by
          have h0 := HE.out.1
          have h1 := HE.out.2.1
          have h2 := HE.out.2.2
          rw [List.drop_eq_nil_of_le (Nat.le_refl _)] at h1 h2
          rw [List.drop_eq_nil_of_le (by omega : l1.length ≤ l0.length)] at h2
          rw [List.append_nil] at h1
          exact ⟨h2, h1, by rw [h1]; exact h0⟩
        have HE := Aside0.mk hdone
        have HM := Aside0.mk hn0
        have HLEN := Aside0.mk hdone.2.2
        clear hdone hn0 hn1 hlt
        by_cases hc : 0 < c
        · obtain rfl : c = 1 := by omega
          clear hc hc0 hc1
          go_wp2_with (first | ((with_reducible refine gate_builtin (b := .append) (xs := #[.tmp 64, .tmp 66]) rfl ?_); at_builtin; refine Kd.R_append (Kd.int .u64) (w0 := w) w.heap.size rfl (.tmp 64) (.tmp 66) 181 198 (.int .u64 0) 8 rfl Tryz.underlying181 infoU64 rfl (by decide) (by omega) _ xs 1 [.int .u64 1] (fun _ => True) (fun _ => False) rfl rfl ?aP (fun _ hk => hk.elim) ?aF ?aO ?aB ?aS ?aL ?_; (case aP => exact rfl); (case aB => exact HB.out); (case aF => exact (fun _ _ => trivial)); (case aO => exact HX.out); (case aS => exact HB.out.size); (case aL => have := HM.out; have := HLEN.out; omega); intro v2 w2 ho2 hb2 hg2 hn2; clear hg2 hn2; have HO2 := Aside0.mk ho2; have HB2 := Aside0.mk hb2; clear ho2 hb2))
          go_ret
          refine ⟨_, rfl, ?_, HB2.out⟩
          rw [HE.out.1, ← HE.out.2.1]
          exact HO2.out
        · obtain rfl : c = 0 := by omega
          clear hc hc0 hc1
          go_wp2
          go_ret
          refine ⟨_, rfl, ?_, HB.out⟩
          rw [HE.out.1, ← HE.out.2.1]
          simpa [P.addC] using HX.out
end Go.Proofs.YtblcgcibkikgeaaGreatDoor.G1
end
section
namespace Go.Proofs.YtblcgcibkikgeaaGreatDoor.G1
open Go.Shelf Go.RowKit Go.Sort Go.Lib Go.Proofs.YtblcgcibkikgeaaGreatDoor.K
set_option linter.unusedVariables false
set_option maxHeartbeats 6400000 in
set_option maxRecDepth 100000 in
theorem internal_FormatUint (u : Nat) (hu64 : u < 18446744073709551616) (w : World) (hL : Laid w) :
    Calls Tryz.prog 235 #[.int .u64 u, .int .i64 10] w fun e w' => e = .returned (.string ⟨(Lib.decDigits u).toArray⟩) ∧ Below w.heap.size w w' := by
  have htab := hL.tab
  clear hL
  by_cases hs : u < 100
  · have hi : decide ((u : Int) < 100) = true := by simp; omega
    go_enter Tryz.func235, Tryz.ntmps235
    go_wp2_with (go_at_call 257; refine (Tryz.internal_strconv_small u hs _).mono ?_; rintro e w' ⟨rfl, rfl⟩)
    go_ret
    exact ⟨rfl, Below.refl _ _⟩
  · have hu1 : 1 ≤ u := by omega
    have hi : decide ((u : Int) < 100) = false := by simp; omega
    have hnd20 : Lib.nDigits u ≤ 20 := by have := Lib.numDigits_eq u hu1 hu64; split at this <;> omega
    have hb3 : Lib.nDigits u ≤ 24 := by omega
    have hal : Tryz.prog.arrayLen 273 = 24 := by kernel_rfl
    have hsl1 : ∀ W, (Instr.sliceAt 273 (.pointer (some ⟨w.heap.size, 0, none⟩)) none (some (.int .i64 (Lib.nDigits u : Int))) none).run Tryz.prog W = .ok (.slice (some ⟨w.heap.size, 0, none⟩) (Lib.nDigits u) 24) W := fun W => by
      rw [run_sliceAt_array_h W 273 ⟨w.heap.size, 0, none⟩ (by simp [Program.arrayLen, Program.elem, Tryz.underlying273]) .i64 (Lib.nDigits u : Int) (by omega) (by rw [hal]; omega)]
      go_simp
    have hH0 : Holds (fun (b : UInt8) => Value.int .u8 (b.toNat : Int)) (w.alloc (.cells Lib.zeros24 273)) w.heap.size 0 (Array.replicate (Lib.nDigits u) (0 : UInt8)) := fun j hj => by
      have hj' : j < Lib.nDigits u := by simpa using hj
      refine ⟨?_, World.frozen?_alloc_new _ _ _ _⟩
      rw [World.cell?_alloc_new, Lib.zeros24_at _ (by omega), getElem!_pos _ j hj]
      simp
    have hfmt := Tryz.internal_strconv_formatBase10 w.heap.size 0 24 u (Array.replicate (Lib.nDigits u) 0) (w.alloc (.cells Lib.zeros24 273)) hH0 (by rw [Array.size_replicate]; exact Lib.lt_pow_nDigits u) hu64 (by rw [Array.size_replicate]; omega)
    rw [Array.size_replicate] at hfmt
    have HH0 := Lib.hid hH0
    clear hH0 hal
    go_enter Tryz.func235, Tryz.ntmps235
    go_wp2_with (go_at_call 258; refine (Tryz.internal_strconv_numDigits u hu1 hu64 _ (Lib.tabIs_alloc htab _)).mono ?_; rintro e w' ⟨rfl, rfl⟩)
    go_at_call 259
    refine hfmt.mono ?_
    rintro e w' ⟨rfl, k, v', dk, rfl, hF⟩
    have hcv : (convert 129 9 (.slice (some ⟨w.heap.size, 0, none⟩) (Lib.nDigits u) 24)).run Tryz.prog ((putRow (fun (b : UInt8) => Value.int .u8 (b.toNat : Int)) (w.alloc (.cells Lib.zeros24 273)) w.heap.size 0 dk).drewN k) = .ok (.string ⟨(Lib.decDigits u).toArray⟩) ((putRow (fun (b : UInt8) => Value.int .u8 (b.toNat : Int)) (w.alloc (.cells Lib.zeros24 273)) w.heap.size 0 dk).drewN k) := by
      have h := run_convert_bytes_back (P := Tryz.prog) ((putRow (fun (b : UInt8) => Value.int .u8 (b.toNat : Int)) (w.alloc (.cells Lib.zeros24 273)) w.heap.size 0 dk).drewN k) 129 9 5 ⟨w.heap.size, 0, none⟩ 24 (Lib.decDigits u) Tryz.underlying129 Tryz.underlying5 Tryz.underlying9 (fun j hj => by
        rw [Lib.row_is_numeral hF j hj, Lib.add_plain, World.cell?_drewN]
        exact cell?_putRow (fun (b : UInt8) => Value.int .u8 (b.toNat : Int)) _ w.heap.size 0 _ dk HH0.out (by rw [hF.size, Array.size_replicate]) j (by rw [hF.size]; rw [Lib.decDigits_length] at hj; exact hj))
      rw [Lib.decDigits_length] at h
      exact h
    go_wp2
    go_ret
    refine ⟨rfl, ?_⟩
    rw [alloc_eq_grow]
    obtain ⟨os', _, e⟩ := putRow_grow_new (fun (b : UInt8) => Value.int .u8 (b.toNat : Int)) w #[.cells Lib.zeros24 273] w.heap.size 0 dk (Nat.le_refl _)
    rw [e]
    exact Lib.below_grow w.heap.size w (Nat.le_refl _) k os'
set_option maxHeartbeats 1000000 in
theorem FormatUint_10 (u : Nat) (hu64 : u < 18446744073709551616) (w : World) (hL : Laid w) :
    Calls Tryz.prog 195 #[.int .u64 u, .int .i64 10] w fun e w' => e = .returned (.string ⟨(Lib.decDigits u).toArray⟩) ∧ Below w.heap.size w w' := by
  go_enter Tryz.func195, Tryz.ntmps195
  go_wp2_with (go_at_call 235; refine (internal_FormatUint u hu64 _ hL).mono ?_; rintro e w' ⟨rfl, hb⟩)
  go_ret
  exact ⟨rfl, hb⟩
end Go.Proofs.YtblcgcibkikgeaaGreatDoor.G1
end
section
namespace Go.Proofs.YtblcgcibkikgeaaGreatDoor.P
theorem decDigits_dtext {u : Nat} (h : u ≠ 0) : Lib.decDigits u = dtext u := by
  induction u using Nat.strongRecOn with
  | _ u ih =>
    rw [Lib.decDigits]
    split
    · rename_i h9
      rw [dtext_pos h, show u / 10 = 0 from by omega, dtext_zero]
      unfold digc
      simp only [List.nil_append]
      congr 3
      omega
    · rw [ih (u / 10) (by omega) (by omega), dtext_pos h]
      rfl
theorem pad_dec {u : Nat} (h : u < 1000000000) : 1 ≤ (Lib.decDigits u).length ∧ (Lib.decDigits u).length ≤ 9 ∧ List.replicate (9 - (Lib.decDigits u).length) 48 ++ Lib.decDigits u = fix 9 u := by
  by_cases h0 : u = 0
  · subst h0
    have : Lib.decDigits 0 = [48] := by rw [Lib.decDigits]; rfl
    rw [this]
    exact ⟨by decide, by decide, by rfl⟩
  · have h9 : u < 10 ^ 9 := by have : (10 : Nat) ^ 9 = 1000000000 := by decide
                               omega
    rw [decDigits_dtext h0, ← fix_dtext 9 u h9]
    have h1 := dtext_length_le h9
    have h2 : dtext u ≠ [] := fun e => h0 (dtext_eq_nil.1 e)
    exact ⟨by cases hd : dtext u with
              | nil => exact absurd hd h2
              | cons _ _ => simp, h1, rfl⟩
end Go.Proofs.YtblcgcibkikgeaaGreatDoor.P
namespace Go.Proofs.YtblcgcibkikgeaaGreatDoor.G1
open Go.RowKit Go.Proofs.YtblcgcibkikgeaaGreatDoorW.PrintWords Go.Proofs.YtblcgcibkikgeaaGreatDoorW.PrintLast Go.Proofs.YtblcgcibkikgeaaGreatDoorW.PrintMore Go.Proofs.YtblcgcibkikgeaaGreatDoor.K
set_option linter.unusedVariables false
theorem fmt9 (u : Int) (h0 : 0 ≤ u) (h1 : u < 1000000000) (w : World) (hL : Laid w) :
    Calls Tryz.prog 195 #[.int .u64 u, .int .i64 10] w fun e w' => ∃ S : ByteArray, e = .returned (.string S) ∧ S.data.toList = Lib.decDigits u.toNat ∧ 1 ≤ S.size ∧ S.size ≤ 9 ∧ Below w.heap.size w w' := by
  obtain ⟨n, rfl⟩ := Int.eq_ofNat_of_zero_le h0
  refine (FormatUint_10 n (by omega) w hL).mono ?_
  rintro e w' ⟨rfl, hb⟩
  have hp := P.pad_dec (u := n) (by omega)
  have hs : (⟨(Lib.decDigits n).toArray⟩ : ByteArray).size = (Lib.decDigits n).length := by show (Lib.decDigits n).toArray.size = _; simp
  exact ⟨_, rfl, by simp, by rw [hs]; exact hp.1, by rw [hs]; exact hp.2.1, hb⟩
theorem rep0 (c : Int) (h0 : 0 ≤ c) (h1 : c ≤ 9) (w : World) :
    Calls Tryz.prog 196 #[.string ⟨#[48]⟩, .int .i64 c] w fun e w' => ∃ S : ByteArray, e = .returned (.string S) ∧ S.data.toList = List.replicate c.toNat 48 ∧ S.size ≤ 9 ∧ Below w.heap.size w w' := by
  obtain ⟨n, rfl⟩ := Int.eq_ofNat_of_zero_le h0
  refine (Tryz.strings_Repeat ⟨#[48]⟩ n w (by omega) (by show 1 * n ≤ _; omega)).mono ?_
  rintro e w' ⟨rfl, hb⟩
  have h1 := Lib.repeatL_replicate 48 1 n
  have h2 : Lib.repeatL (⟨#[48]⟩ : ByteArray).data.toList n = List.replicate (n : Int).toNat 48 := by simpa using h1
  rw [h2]
  exact ⟨_, rfl, by simp, by show (List.replicate (n : Int).toNat (48 : UInt8)).toArray.size ≤ 9; simp; omega, hb⟩
def Bld (w0 : World) (b : Nat) (l : List UInt8) (w : World) : Prop := Lib.IsBuilderF 131 5 w0.heap.size b (Lib.byteCells l) w
theorem Bld.write {w0 w : World} {b : Nat} {l : List UInt8} (h : Bld w0 b l w) (hw : w0.heap.size ≤ w.heap.size) (S : ByteArray) (x : List UInt8) (hS : S.data.toList = x) (hlen : l.length + S.size ≤ 140737488355328) :
    Calls Tryz.prog 88 #[.pointer (some ⟨b, 0, none⟩), .string S] w fun e w' => e = .returned (.tuple #[.int .i64 S.size, .nilIface]) ∧ Bld w0 b (l ++ x) w' ∧ Below w0.heap.size w w' := by
  refine (Tryz.Builder_WriteString_f w0.heap.size b _ S w h (by rw [Lib.byteCells_length]; exact hlen) hw).mono ?_
  rintro e w' ⟨rfl, h1, h2⟩
  refine ⟨rfl, .inr ?_, h2⟩
  rw [Lib.byteCells_append, ← hS]
  exact h1
theorem Bld.string {w0 w : World} {b : Nat} {l : List UInt8} (h : Bld w0 b l w) (hw : w0.heap.size ≤ w.heap.size) :
    Calls Tryz.prog 91 #[.pointer (some ⟨b, 0, none⟩)] w fun e w' => e = .returned (.string (bsz l)) ∧ Bld w0 b l w' ∧ Below w0.heap.size w w' :=
  Tryz.Builder_String_any_f w0.heap.size b l w h hw
theorem Bld.byte {w0 w : World} {b : Nat} (hb : w0.heap.size ≤ b) (h : w.heap[b]? = some (.cells #[.pointer none, .slice none 0 0] 131 (0, 0))) (hw : w0.heap.size ≤ w.heap.size) (c : UInt8) :
    Calls Tryz.prog 194 #[.pointer (some ⟨b, 0, none⟩), .int .u8 (c.toNat : Int)] w fun e w' => e = .returned .nilIface ∧ Bld w0 b [c] w' ∧ Below w0.heap.size w w' := by
  refine (Tryz.Builder_WriteByte_f w0.heap.size b [] c.toNat w (.inl ⟨hb, _, h, World.ownsRow_nil _ _ _ _, by simp [Value.ownBlock]⟩) (by simp) hw).mono ?_
  rintro e w' ⟨rfl, h1, h2⟩
  exact ⟨rfl, .inr (Lib.BuilderAtF.of h1), h2⟩
theorem Bld.new {w0 w : World} {b : Nat} (hb : w0.heap.size ≤ b) (h : w.heap[b]? = some (.cells #[.pointer none, .slice none 0 0] 131 (0, 0))) : Bld w0 b [] w :=
  .inl (Lib.BuilderAtF.of ⟨hb, _, h, World.ownsRow_nil _ _ _ _, by simp [Value.ownBlock]⟩)
theorem padG_length (l : List Int) : (P.padG l).length = 9 * l.length := by
  induction l with
  | nil => rfl
  | cons g l ih => simp only [P.padG, List.length_append, ih, P.fix_length, List.length_cons]; omega
theorem Bld.keep {w0 w w' : World} {b : Nat} {l : List UInt8} (h : Bld w0 b l w) (hb : Below w.heap.size w w') : Bld w0 b l w' := by
  have hat : ∀ p, Lib.BuilderAtF 131 5 w0.heap.size b p (Lib.byteCells l) w → Lib.BuilderAtF 131 5 w0.heap.size b p (Lib.byteCells l) w' := by
    rintro p ⟨h1, v, h2, h3, h4⟩
    exact ⟨h1, v, blk_below h2 hb, h3.kept (grown_of_below hb none) (by cases v.ownBlock <;> simp), h4⟩
  exact Or.imp (hat _) (hat _) h
theorem pad_of {S9 S8 : ByteArray} {m : List UInt8} {x : List UInt8} (h9 : S9.data.toList = List.replicate (9 - (S8.size : Int)).toNat 48) (h8 : S8.data.toList = m) (hp : List.replicate (9 - m.length) 48 ++ m = x) : (S9 ++ S8).data.toList = x := by
  have hs : S8.size = m.length := by rw [← h8, Array.length_toList]; rfl
  rw [ByteArray.data_append, Array.toList_append, h9, h8, hs, ← hp, show (9 - (m.length : Int)).toNat = 9 - m.length by omega]
theorem room_of {S : ByteArray} {pre d : List UInt8} {rest : List Int} {n q N : Nat} (h1 : d.length ≤ 9) (hpre : pre.length ≤ 1) (hN : N ≤ 1000000000) (hr : rest.length + 1 ≤ N) (hS : S.data.toList = P.fix 9 q) : ((pre ++ d) ++ P.padG (rest.drop n)).length + S.size ≤ 140737488355328 := by
  have hs : S.size = 9 := by rw [← P.fix_length 9 q, ← hS, Array.length_toList]; rfl
  rw [List.length_append, List.length_append, padG_length, List.length_drop, hs]
  omega
theorem cut_C (A : Option Addr) (c : Nat) (l : List Int) (w : World) (hr : Kd.C (Kd.int .u64) w A l.length l) (hc : l.length ≤ c) :
    Calls Tryz.prog 193 #[.slice A l.length c] w fun e w' => e = .returned (.slice A (P.cutG l).length c) ∧ Below w.heap.size w w' := by
  have hm := Kd.C_max hr
  obtain ⟨i0, hi, _, _, _⟩ := info_parts infoU64
  have hcut : ∀ (n : Nat) (j : Int), 0 ≤ j → j ≤ n → n ≤ c → ∀ W : World, (Instr.slice 181 (.slice A n c) none (some (.int .i64 j)) none).run Tryz.prog W = .ok (.slice A j.toNat c) W := fun n j h0 h1 h2 => cut_to (P := Tryz.prog) 181 198 .i64 Tryz.underlying181 hi A n c j h0 h1 h2
  have HR := Aside0.mk hr
  clear hr
  go_enter Tryz.func193, Tryz.ntmps193
  go_wp2
  go_loopw [0] (fun v0 wr => ∃ n : Nat, v0 = .slice A n c ∧ n ≤ l.length ∧ Aside0 (P.cutG (l.take n) = P.cutG l) ∧ Aside0 (Below w.heap.size w wr)) (fun v0 _ => match v0 with | .slice _ n _ => n | _ => 0)
  case atStart => exact ⟨l.length, rfl, Nat.le_refl _, ⟨by rw [List.take_length]⟩, ⟨Below.refl _ _⟩⟩
  case round =>
    obtain ⟨n, rfl, hn, HE, HB⟩ := hrel
    cases n with
    | zero =>
      have hd : decide ((0 : Int) < ((0 : Nat) : Int)) = false := by simp
      go_wp2
      go_ret
      have := HE.out
      rw [List.take_zero, P.cutG_nil] at this
      rw [← this]
      exact ⟨rfl, HB.out⟩
    | succ n =>
      have hd : decide ((0 : Int) < ((n + 1 : Nat) : Int)) = true := decide_eq_true (by omega)
      obtain ⟨ad, e1, h1⟩ := Kd.at_int HR.out (n : Int) (by omega) (by omega)
      cases e1
      rw [Int.toNat_natCast] at h1
      have h1w : wr.cell? (ad.add n) = some (.int .u64 (rd l (n : Int))) := pw_cell_below HB.out h1
      have htake : l.take (n + 1) = l.take n ++ [rd l (n : Int)] := by
        have e : rd l (n : Int) = l[n]'(by omega) := by unfold rd; rw [Int.toNat_natCast, List.getD_eq_getElem?_getD, List.getElem?_eq_getElem (by omega)]; rfl
        rw [e]
        exact List.take_succ_eq_append_getElem (by omega)
      generalize rd l (n : Int) = q at h1w htake
      have HT := Aside0.mk htake
      clear htake h1
      have hsub : ((n + 1 : Nat) : Int) - 1 = (n : Int) := by omega
      by_cases hq : q = 0
      · subst hq
        have hcut1 := fun W => hcut (n + 1) (n : Int) (by omega) (by omega) (by omega) W
        simp only [Int.toNat_natCast] at hcut1
        clear hcut
        go_wp2
        go_roundw
        case rel => exact ⟨n, rfl, by omega, ⟨by rw [← HE.out, HT.out, P.cutG_snoc_zero]⟩, HB⟩
        case measure => simp
      · have hq0 : (q == 0) = false := by simpa using hq
        go_wp2
        go_ret
        have := HE.out
        rw [HT.out, P.cutG_snoc hq] at this
        rw [← this]
        exact ⟨by simp; omega, HB.out⟩
def integer_number_text.f (a0_0 : Bool) (l0_1 : List Int) : Option (ByteArray) :=
  if (∀ g ∈ l0_1, 0 ≤ g ∧ g < 1000000000) ∧ l0_1.length ≤ 1000000000 then some (bsz (P.itext (if a0_0 then -(P.gval l0_1) else P.gval l0_1))) else none
def sgn (b : Bool) : List UInt8 := if b then [45] else []
theorem text_of {b : Bool} {l rest : List Int} {g : Int} (ho : P.okG l) (h : P.cutG l = rest ++ [g]) (hg : g ≠ 0) : P.itext (if b then -(P.gval l) else P.gval l) = (sgn b ++ Lib.decDigits g.toNat) ++ P.padG rest := by
  obtain ⟨h1, h2, _, _⟩ := P.cutG_facts l
  have ho2 := P.cutG_ok ho
  have hpos := P.gval_pos ho2 h2 (by rw [h]; simp)
  have hg0 : 0 ≤ g := by have := ho2 g (by rw [h]; simp); omega
  have ht := P.dtext_top rest g (by rw [← h]; exact ho2) hg
  rw [← h, h1] at ht
  rw [h1] at hpos
  rw [P.decDigits_dtext (by omega)]
  cases b
  · rw [P.itext, if_neg (by simp; omega)]
    simp only [Bool.false_eq_true, if_false, sgn, List.nil_append]
    rw [← ht]; congr 1; omega
  · rw [P.itext, if_pos (by simp; omega)]
    simp only [if_true, sgn]
    rw [List.append_assoc, ← ht]
    show _ = 45 :: _
    congr 2; omega
set_option maxHeartbeats 2000000 in
set_option maxRecDepth 100000 in
theorem integer_number_text.calls (a0_0 : Bool) (A0_1 : Option Addr) (c0_1 : Nat) (l0_1 : List Int) (r : ByteArray) (w : World) (hL : Laid w) (hr0_1 : Kd.C (Kd.int .u64) w A0_1 l0_1.length l0_1) (hc0_1 : l0_1.length ≤ c0_1) (h : integer_number_text.f a0_0 l0_1 = some r) :
    Calls Tryz.prog 143 #[.agg #[.bool a0_0, .slice A0_1 l0_1.length c0_1]] w fun e w' => e = .returned (.string r) ∧ Below w.heap.size w w' := by
  unfold integer_number_text.f at h
  split at h
  case isFalse => cases h
  rename_i hs
  obtain ⟨ho, hn⟩ := hs
  simp only [Option.some.injEq] at h
  obtain ⟨cf1, cf2, cf3, zs, cf4⟩ := P.cutG_facts l0_1
  by_cases hz : P.cutG l0_1 = []
  · have hr : r = bsz [] := by
      rw [hz] at cf1
      rw [← h, ← cf1]
      cases a0_0 <;> simp [P.gval, P.itext_zero]
    subst hr
    have hz0 : (P.cutG l0_1).length = 0 := by rw [hz]; rfl
    have HR := Aside0.mk hr0_1
    clear cf1 cf2 cf3 cf4 ho h hr0_1 hz
    go_enter Tryz.func143, Tryz.ntmps143
    go_wp2_with (first
      | ((with_reducible refine gate_dst (N := 1) rfl ?_); refine box_event ?hg (N := 1) ?hd (cs := #[.bool a0_0, .slice A0_1 l0_1.length c0_1]) (t := 183) ?hr ?_; (case hd => rfl); (case hg => rfl); (case hr => first | (go_simp; done) | (go_simp; rfl)); intro gb hg w3 hbox hb; have hcz1 := (blk_cell hbox 1).trans rfl; have HB := Aside0.mk hb; clear hb hbox hg)
      | (go_at_call 193; refine (cut_C A0_1 c0_1 l0_1 _ (Kd.C_below HR.out HB.out) hc0_1).mono ?_; rw [hz0]; rintro e w4 ⟨rfl, hb⟩; have HB4 := Aside0.mk (below_step HB.out hb); clear hb))
    go_ret
    exact ⟨rfl, HB4.out⟩
  · obtain ⟨rest, g, hrg⟩ : ∃ rest g, P.cutG l0_1 = rest ++ [g] := ⟨_, _, (List.dropLast_concat_getLast hz).symm⟩
    have hg : g ≠ 0 := by
      intro e
      rw [hrg, e] at cf2
      simp [P.normG] at cf2
    rw [text_of ho hrg hg] at h
    have hlen : (P.cutG l0_1).length = rest.length + 1 := by rw [hrg]; simp
    rw [hlen] at cf3
    have hget : ∀ j : Nat, j < rest.length → rd l0_1 (j : Int) = rest.getD j 0 := fun j hj => by
      unfold rd
      rw [Int.toNat_natCast, cf4, hrg, List.append_assoc, List.getD_eq_getElem?_getD, List.getElem?_append_left hj, ← List.getD_eq_getElem?_getD]
    have htop : rd l0_1 (rest.length : Int) = g := by
      unfold rd
      rw [Int.toNat_natCast, cf4, hrg, List.append_assoc, List.getD_eq_getElem?_getD, List.getElem?_append_right (Nat.le_refl _), Nat.sub_self]
      rfl
    have hok2 : P.okG (rest ++ [g]) := by rw [← hrg]; exact P.cutG_ok ho
    rw [P.okG_append, P.okG_cons] at hok2
    obtain ⟨hokr, ⟨hg0, hg1⟩, _⟩ := hok2
    obtain ⟨ad, e1, hx0⟩ := Kd.at_int hr0_1 (rest.length : Int) (by omega) (by omega)
    cases e1
    rw [Int.toNat_natCast, htop] at hx0
    have HX := Aside0.mk hx0
    have HR := Aside0.mk hr0_1
    have HG := Aside0.mk hget
    have HK := Aside0.mk hokr
    have HH := Aside0.mk h
    have HLaid := Aside0.mk hL
    have hpd := P.pad_dec (u := g.toNat) (by omega)
    have HP := Aside0.mk hpd
    clear cf1 cf2 cf4 ho h hr0_1 hz hg hrg hget htop hokr hx0 hL hpd
    have hdz : ((((rest.length + 1 : Nat) : Int)) == 0) = false := by simp; omega
    have hsub1 : ((rest.length + 1 : Nat) : Int) - 1 = (rest.length : Int) := by omega
    cases a0_0
    · have hsg : sgn false = [] := rfl
      rw [hsg] at HH
      clear hsg
      go_enter Tryz.func143, Tryz.ntmps143
      go_wp2_with (first
        | ((with_reducible refine gate_dst (N := 1) rfl ?_); refine box_event ?hg (N := 1) ?hd (cs := #[.bool false, .slice (some ad) l0_1.length c0_1]) (t := 183) ?hr ?_; (case hd => rfl); (case hg => rfl); (case hr => first | (go_simp; done) | (go_simp; rfl)); intro gb hg w3 hbox hb; have hcz1 : w3.cell? ⟨gb, 1, none⟩ = some (.slice (some ad) l0_1.length c0_1) := (blk_cell hbox 1).trans rfl; have HBX := Aside0.mk hbox; have HB := Aside0.mk hb; clear hb hbox hg)
        | (go_at_call 193; refine (cut_C (some ad) c0_1 l0_1 _ (Kd.C_below HR.out HB.out) hc0_1).mono ?_; rw [hlen]; rintro e w4 ⟨rfl, hb⟩; have HB4 := Aside0.mk (below_step HB.out hb); have HBX4 := Aside0.mk (blk_below HBX.out hb); clear hb hcz1 HBX HB)
        | ((with_reducible refine gate_dst (N := 4) rfl ?_); refine box_event ?hg (N := 4) ?hd (cs := #[.pointer none, .slice none 0 0]) (t := 131) ?hr ?_; (case hd => rfl); (case hg => rfl); (case hr => first | (go_simp; done) | (go_simp; rfl)); intro gs hgs w5 hbox hb; have hgs2 : w.heap.size ≤ gs := (by rw [hgs]; exact HB4.out.size); have hcz0 : w5.cell? ⟨gb, 0, none⟩ = some (.bool false) := (blk_cell (blk_below HBX4.out hb) 0).trans rfl; have HS := Aside0.mk hbox; have HB5 := Aside0.mk (below_step HB4.out hb); have HGS := Aside0.mk hgs2; have HW := Aside0.mk (Bld.new hgs2 hbox); have hx : w5.cell? (ad.add rest.length) = some (.int .u64 g) := pw_cell_below HB5.out HX.out; clear hb hbox hgs hgs2 HBX4 HB4)
        | (go_at_call 195; refine (fmt9 g hg0 hg1 _ (HLaid.out.below HB5.out)).mono ?_; rintro e w6 ⟨S, rfl, hS1, hS2, hS3, hb⟩; have HS1 := Aside0.mk hS1; have HB6 := Aside0.mk (below_step HB5.out hb); have HW6 := Aside0.mk (HW.out.keep hb); clear hS1 HB5 HW hx hb)
        | (go_at_call 88; refine (HW6.out.write HB6.out.size S (Lib.decDigits g.toNat) HS1.out (by simp; omega)).mono ?_; rintro e w7 ⟨rfl, hw7, hb⟩; have HB := Aside0.mk (HB6.out.trans hb); have HW := Aside0.mk hw7; clear hw7 hb HB6 HW6))
      clear hdz hsub1
      have HGE := Aside0.mk HGS.out
      go_loopw [5] (fun v5 wr => ∃ j : Int, v5 = .int .i64 j ∧ -1 ≤ j ∧ j < rest.length ∧ Aside0 (Bld w gs (([] ++ Lib.decDigits g.toNat) ++ P.padG (rest.drop (j + 1).toNat)) wr) ∧ Aside0 (Below w.heap.size w wr)) (fun v5 _ => (intOf v5 + 1).toNat)
      case atStart => exact ⟨(rest.length : Int) - 1, by go_num, by omega, by omega, ⟨by rw [show ((rest.length : Int) - 1 + 1).toNat = rest.length by omega, List.drop_length]; simpa [P.padG] using HW.out⟩, HB⟩
      case round =>
        clear HW HB
        obtain ⟨j, rfl, hj0, hj1, HW, HB⟩ := hrel
        by_cases hj : 0 ≤ j
        · have hd : decide (0 ≤ j) = true := decide_eq_true hj
          obtain ⟨n, rfl⟩ := Int.eq_ofNat_of_zero_le hj
          have hn1 : n < rest.length := by omega
          obtain ⟨ad2, e2, h1⟩ := Kd.at_int HR.out (n : Int) (by omega) (by omega)
          cases e2
          rw [Int.toNat_natCast, HG.out n hn1] at h1
          have hx : wr.cell? (ad.add n) = some (.int .u64 (rest.getD n 0)) := pw_cell_below HB.out h1
          have hq := HK.out (rest.getD n 0) (by rw [List.getD_eq_getElem?_getD, List.getElem?_eq_getElem hn1]; exact List.getElem_mem hn1)
          have hdrop : rest.drop n = rest.getD n 0 :: rest.drop (n + 1) := by rw [List.drop_eq_getElem_cons hn1, List.getD_eq_getElem?_getD, List.getElem?_eq_getElem hn1]; rfl
          have hj12 : ((n : Int) + 1).toNat = n + 1 := by omega
          rw [hj12] at HW
          clear h1
          generalize rest.getD n 0 = q at hx hq hdrop
          have HD := Aside0.mk hdrop
          obtain ⟨hq0, hq1⟩ := hq
          have HPD := Aside0.mk (P.pad_dec (u := q.toNat) (by omega))
          clear hdrop hj12
          go_wp2_with (first
            | (go_at_call 195; refine (fmt9 q hq0 hq1 _ (HLaid.out.below HB.out)).mono ?_; rintro e w8 ⟨S8, rfl, hS1, hS82, hS83, hb⟩; have HS81 := Aside0.mk hS1; have HB8 := Aside0.mk (below_step HB.out hb); have HW8 := Aside0.mk (HW.out.keep hb); clear hS1 HB HW hx hb)
            | (go_at_call 196; refine (rep0 (9 - (S8.size : Int)) (by omega) (by omega) _).mono ?_; rintro e w9 ⟨S9, rfl, hS9, hS9z, hb⟩; have hcc : ¬ 9223372036854775807 < S9.size + S8.size := (by omega); have HS9 := Aside0.mk hS9; have HB9 := Aside0.mk (below_step HB8.out hb); have HW9 := Aside0.mk (HW8.out.keep hb); clear hS9 HB8 HW8 hb)
            | (go_at_call 88; refine (HW9.out.write HB9.out.size (S9 ++ S8) (P.fix 9 q.toNat) (pad_of HS9.out HS81.out HPD.out.2.2) (room_of HP.out.2.1 (by simp) hn cf3 (pad_of HS9.out HS81.out HPD.out.2.2))).mono ?_; rintro e w10 ⟨rfl, hw7, hb⟩; have HB := Aside0.mk (HB9.out.trans hb); have HW := Aside0.mk hw7; clear hw7 hb HB9 HW9))
          go_roundw
          case rel => exact ⟨(n : Int) - 1, by go_num, by omega, by omega, ⟨by rw [show ((n : Int) - 1 + 1).toNat = n by omega, HD.out]; rw [P.padG, ← List.append_assoc]; exact HW.out⟩, HB⟩
          case measure => simp [intOf]
        · have hd : decide (0 ≤ j) = false := decide_eq_false hj
          obtain rfl : j = -1 := by omega
          have HW := Aside0.mk (show Bld w gs (([] ++ Lib.decDigits g.toNat) ++ P.padG rest) wr from HW.out)
          go_wp2_with (go_at_call 91; refine (HW.out.string HB.out.size).mono ?_; rintro e w11 ⟨rfl, _, hb⟩; have HB11 := Aside0.mk (HB.out.trans hb); clear hb)
          go_ret
          exact ⟨congrArg (fun x => Ending.returned (Value.string x)) HH.out, HB11.out⟩
    · have hsg : sgn true = [45] := rfl
      rw [hsg] at HH
      clear hsg
      go_enter Tryz.func143, Tryz.ntmps143
      go_wp2_with (first
        | ((with_reducible refine gate_dst (N := 1) rfl ?_); refine box_event ?hg (N := 1) ?hd (cs := #[.bool true, .slice (some ad) l0_1.length c0_1]) (t := 183) ?hr ?_; (case hd => rfl); (case hg => rfl); (case hr => first | (go_simp; done) | (go_simp; rfl)); intro gb hg w3 hbox hb; have hcz1 : w3.cell? ⟨gb, 1, none⟩ = some (.slice (some ad) l0_1.length c0_1) := (blk_cell hbox 1).trans rfl; have HBX := Aside0.mk hbox; have HB := Aside0.mk hb; clear hb hbox hg)
        | (go_at_call 193; refine (cut_C (some ad) c0_1 l0_1 _ (Kd.C_below HR.out HB.out) hc0_1).mono ?_; rw [hlen]; rintro e w4 ⟨rfl, hb⟩; have HB4 := Aside0.mk (below_step HB.out hb); have HBX4 := Aside0.mk (blk_below HBX.out hb); clear hb hcz1 HBX HB)
        | ((with_reducible refine gate_dst (N := 4) rfl ?_); refine box_event ?hg (N := 4) ?hd (cs := #[.pointer none, .slice none 0 0]) (t := 131) ?hr ?_; (case hd => rfl); (case hg => rfl); (case hr => first | (go_simp; done) | (go_simp; rfl)); intro gs hgs w5 hbox hb; have hgs2 : w.heap.size ≤ gs := (by rw [hgs]; exact HB4.out.size); have hcz0 : w5.cell? ⟨gb, 0, none⟩ = some (.bool true) := (blk_cell (blk_below HBX4.out hb) 0).trans rfl; have HS := Aside0.mk hbox; have HB5 := Aside0.mk (below_step HB4.out hb); have HGS := Aside0.mk hgs2; skip; clear hb hbox hgs hgs2 HBX4 HB4)
        | (go_at_call 194; refine (Bld.byte HGS.out HS.out HB5.out.size 45).mono ?_; rintro e w51 ⟨rfl, hw51, hb⟩; have HW := Aside0.mk hw51; have HB5 := Aside0.mk (HB5.out.trans hb); have hx : w51.cell? (ad.add rest.length) = some (.int .u64 g) := pw_cell_below HB5.out HX.out; clear hw51 hb HS hcz0)
        | (go_at_call 195; refine (fmt9 g hg0 hg1 _ (HLaid.out.below HB5.out)).mono ?_; rintro e w6 ⟨S, rfl, hS1, hS2, hS3, hb⟩; have HS1 := Aside0.mk hS1; have HB6 := Aside0.mk (below_step HB5.out hb); have HW6 := Aside0.mk (HW.out.keep hb); clear hS1 HB5 HW hx hb)
        | (go_at_call 88; refine (HW6.out.write HB6.out.size S (Lib.decDigits g.toNat) HS1.out (by simp; omega)).mono ?_; rintro e w7 ⟨rfl, hw7, hb⟩; have HB := Aside0.mk (HB6.out.trans hb); have HW := Aside0.mk hw7; clear hw7 hb HB6 HW6))
      clear hdz hsub1
      have HGE := Aside0.mk HGS.out
      go_loopw [5] (fun v5 wr => ∃ j : Int, v5 = .int .i64 j ∧ -1 ≤ j ∧ j < rest.length ∧ Aside0 (Bld w gs (([45] ++ Lib.decDigits g.toNat) ++ P.padG (rest.drop (j + 1).toNat)) wr) ∧ Aside0 (Below w.heap.size w wr)) (fun v5 _ => (intOf v5 + 1).toNat)
      case atStart => exact ⟨(rest.length : Int) - 1, by go_num, by omega, by omega, ⟨by rw [show ((rest.length : Int) - 1 + 1).toNat = rest.length by omega, List.drop_length]; simpa [P.padG] using HW.out⟩, HB⟩
      case round =>
        clear HW HB
        obtain ⟨j, rfl, hj0, hj1, HW, HB⟩ := hrel
        by_cases hj : 0 ≤ j
        · have hd : decide (0 ≤ j) = true := decide_eq_true hj
          obtain ⟨n, rfl⟩ := Int.eq_ofNat_of_zero_le hj
          have hn1 : n < rest.length := by omega
          obtain ⟨ad2, e2, h1⟩ := Kd.at_int HR.out (n : Int) (by omega) (by omega)
          cases e2
          rw [Int.toNat_natCast, HG.out n hn1] at h1
          have hx : wr.cell? (ad.add n) = some (.int .u64 (rest.getD n 0)) := pw_cell_below HB.out h1
          have hq := HK.out (rest.getD n 0) (by rw [List.getD_eq_getElem?_getD, List.getElem?_eq_getElem hn1]; exact List.getElem_mem hn1)
          have hdrop : rest.drop n = rest.getD n 0 :: rest.drop (n + 1) := by rw [List.drop_eq_getElem_cons hn1, List.getD_eq_getElem?_getD, List.getElem?_eq_getElem hn1]; rfl
          have hj12 : ((n : Int) + 1).toNat = n + 1 := by omega
          rw [hj12] at HW
          clear h1
          generalize rest.getD n 0 = q at hx hq hdrop
          have HD := Aside0.mk hdrop
          obtain ⟨hq0, hq1⟩ := hq
          have HPD := Aside0.mk (P.pad_dec (u := q.toNat) (by omega))
          clear hdrop hj12
          go_wp2_with (first
            | (go_at_call 195; refine (fmt9 q hq0 hq1 _ (HLaid.out.below HB.out)).mono ?_; rintro e w8 ⟨S8, rfl, hS1, hS82, hS83, hb⟩; have HS81 := Aside0.mk hS1; have HB8 := Aside0.mk (below_step HB.out hb); have HW8 := Aside0.mk (HW.out.keep hb); clear hS1 HB HW hx hb)
            | (go_at_call 196; refine (rep0 (9 - (S8.size : Int)) (by omega) (by omega) _).mono ?_; rintro e w9 ⟨S9, rfl, hS9, hS9z, hb⟩; have hcc : ¬ 9223372036854775807 < S9.size + S8.size := (by omega); have HS9 := Aside0.mk hS9; have HB9 := Aside0.mk (below_step HB8.out hb); have HW9 := Aside0.mk (HW8.out.keep hb); clear hS9 HB8 HW8 hb)
            | (go_at_call 88; refine (HW9.out.write HB9.out.size (S9 ++ S8) (P.fix 9 q.toNat) (pad_of HS9.out HS81.out HPD.out.2.2) (room_of HP.out.2.1 (by simp) hn cf3 (pad_of HS9.out HS81.out HPD.out.2.2))).mono ?_; rintro e w10 ⟨rfl, hw7, hb⟩; have HB := Aside0.mk (HB9.out.trans hb); have HW := Aside0.mk hw7; clear hw7 hb HB9 HW9))
          go_roundw
          case rel => exact ⟨(n : Int) - 1, by go_num, by omega, by omega, ⟨by rw [show ((n : Int) - 1 + 1).toNat = n by omega, HD.out]; rw [P.padG, ← List.append_assoc]; exact HW.out⟩, HB⟩
          case measure => simp [intOf]
        · have hd : decide (0 ≤ j) = false := decide_eq_false hj
          obtain rfl : j = -1 := by omega
          have HW := Aside0.mk (show Bld w gs (([45] ++ Lib.decDigits g.toNat) ++ P.padG rest) wr from HW.out)
          go_wp2_with (go_at_call 91; refine (HW.out.string HB.out.size).mono ?_; rintro e w11 ⟨rfl, _, hb⟩; have HB11 := Aside0.mk (HB.out.trans hb); clear hb)
          go_ret
          exact ⟨congrArg (fun x => Ending.returned (Value.string x)) HH.out, HB11.out⟩
end Go.Proofs.YtblcgcibkikgeaaGreatDoor.G1
end
section
namespace Go.Proofs.YtblcgcibkikgeaaGreatDoor.I
open Go.RowKit Go.Proofs.YtblcgcibkikgeaaGreatDoorW.PrintWords Go.Proofs.YtblcgcibkikgeaaGreatDoorW.PrintLast Go.Proofs.YtblcgcibkikgeaaGreatDoorW.PrintMore Go.Proofs.YtblcgcibkikgeaaGreatDoor.K Go.Proofs.YtblcgcibkikgeaaGreatDoor.G1
attribute [local go_sem] max2_int min2_int max_two min_two max_three min_three max_four min_four
set_option linter.unusedVariables false
set_option linter.unusedSimpArgs false
end Go.Proofs.YtblcgcibkikgeaaGreatDoor.I
end
section
namespace Go.Proofs.YtblcgcibkikgeaaGreatDoor.I
open Go.RowKit Go.Proofs.YtblcgcibkikgeaaGreatDoorW.PrintWords Go.Proofs.YtblcgcibkikgeaaGreatDoorW.PrintLast Go.Proofs.YtblcgcibkikgeaaGreatDoorW.PrintMore Go.Proofs.YtblcgcibkikgeaaGreatDoor.K Go.Proofs.YtblcgcibkikgeaaGreatDoor.G1
attribute [local go_sem] max2_int min2_int max_two min_two max_three min_three max_four min_four
set_option linter.unusedVariables false
set_option linter.unusedSimpArgs false
def integer_read.l0 : Nat → ByteArray → Bool → List Int → Int → Option (Bool × List Int)
  | 0, _, _, _, _ => none
  | k + 1, x3, x4, x5, x6 => if x6 > 0 then (if 0 ≤ (mx 0 (wrap64 (x6 - 9))) then (if (mx 0 (wrap64 (x6 - 9))) ≤ x6 then (if x6 ≤ (x3.size : Int) then ((strconv_ParseUint.f (x3.extract ((mx 0 (wrap64 (x6 - 9))) : Int).toNat (x6 : Int).toNat) 10 64).bind fun bt104 => (if x5.length < 17592186044416 then (integer_read.l0 k x3 x4 (x5 ++ [bt104.1]) (wrap64 (x6 - 9))) else (none))) else (none)) else (none)) else (none)) else (some (x4, x5))
def integer_read.f (k : Nat) (a0 : ByteArray) : Option (Bool × List Int) := (integer_digits.f a0).bind fun bt102 => (integer_read.l0 k bt102.1 bt102.2 ([] : List Int) (bt102.1.size : Int))
set_option maxHeartbeats 8000000 in
set_option maxRecDepth 100000 in
theorem integer_read.calls (k : Nat) (a0 : ByteArray) (r1 : Bool) (r2 : List Int) (w : World) (h : integer_read.f k a0 = some (r1, r2)) :
    Calls Tryz.prog 142 #[.string a0] w fun e w' => ∃ v1_ : Value, e = .returned (.agg #[.bool r1, v1_]) ∧ Kd.R (Kd.int .u64) 198 w' w.heap.size (fun _ => True) v1_ r2 ∧ Below w.heap.size w w' := by
  have hu183 := Tryz.underlying183
  have HB := Aside0.mk (Below.refl w.heap.size w)
  have H : ((integer_digits.f a0).bind fun bt102 => (integer_read.l0 k bt102.1 bt102.2 ([] : List Int) (bt102.1.size : Int))) = some (r1, r2) := h
  clear h
  replace H := Option.bind_eq_some_iff.mp H
  obtain ⟨⟨t102, t103⟩, A20, H⟩ := H
  replace H : (integer_read.l0 k t102 t103 ([] : List Int) (t102.size : Int)) = some (r1, r2) := H
  have A2 := Aside0.mk A20
  clear A20
  have H' := Aside0.mk H
  clear H
  go_enter Tryz.func142, Tryz.ntmps142
  go_wp2_with (first | ((with_reducible refine gate_dst (N := 2) rfl ?_); refine box_event ?hg (N := 2) ?hd (cs := #[.bool false, .slice none 0 0]) (t := 183) ?hr ?_; (case hd => rfl); (case hg => rfl); (case hr => first | (go_simp; done) | (go_simp; rfl)); intro gb101 hg w3 hbox hb; have n0_ := Aside0.mk (below_step (by repeat (first | (with_reducible first | exact HB.out | apply below_alloc | apply pw_below_drewN | apply below_drew1) | exact HB.out)) hb); have n1_ := Aside0.mk (hbox); have n2_ := Aside0.mk ((by rw [hg]; exact (below_size (by repeat (first | (with_reducible first | exact HB.out | apply below_alloc | apply pw_below_drewN | apply below_drew1) | exact HB.out))) : w.heap.size ≤ gb101)); have n3_ := Aside0.mk ((by rw [hg]; exact (below_size (by repeat (first | (with_reducible first | exact HB.out | apply below_alloc | apply pw_below_drewN | apply below_drew1) | exact HB.out))) : w.heap.size ≤ gb101)); clear HB; have HB := n0_; have BK101 := n1_; have GW101 := n2_; have GE101 := n3_; clear n0_ n1_ n2_ n3_; clear hb hbox hg) | ((with_reducible refine gate_callee (f := 139) rfl ?_); refine goesL_ (some 11) rfl rfl Tryz.func139 (by kernel_rfl) rfl #[.string a0] rfl (by (try simp only [List.map_toArray, List.map_cons, List.map_nil]); first | done | rfl | (simp only [List.length_drop, List.length_take]; rfl)) ?_; (with_reducible refine (integer_digits.calls a0 t102 t103 _ A2.out).mono ?_); rintro e w4 ⟨rfl, hb⟩; refine ⟨_, rfl, ?_⟩; have n0_ := Aside0.mk (blk_below (g := gb101) (o := .cells #[.bool false, .slice none 0 0] 183 (0, 0)) (by (with_reducible repeat (first | refine blk_drewN ?_ _ | refine blk_drew ?_ | refine blk_alloc ?_ _)); exact BK101.out) hb); have n1_ := Aside0.mk (below_step (by repeat (first | (with_reducible first | exact HB.out | apply below_alloc | apply pw_below_drewN | apply below_drew1 | refine below_set ?_ GE101.out) | exact HB.out)) hb); clear BK101; clear HB; have BK101 := n0_; have HB := n1_; clear n0_ n1_; (try clear hb); (try clear hb2); (try clear hk); (try clear hi)))
  go_loopg [5, 6] k (fun kq v5 v6 w' => ∃ (x5_1 : List Int) (x6_1 : Int), v6 = .int .i64 x6_1 ∧ Aside0 (integer_read.l0 kq t102 t103 x5_1 x6_1 = some (r1, r2)) ∧ Aside0 (kq ≤ k) ∧ Aside0 (Kd.R (Kd.int .u64) 198 w' w.heap.size (fun _ => True) v5 x5_1) ∧ Aside0 (w'.heap[gb101]? = some (.cells #[.bool false, (.slice none 0 0)] 183 (0, 0))) ∧ Aside0 (Below w.heap.size w w'))
  case atStart => exact ⟨(([] : List Int)), ((t102.size : Int)), (by first | rfl | (simp; done) | (simp [*]; done)), H', ⟨Nat.le_refl _⟩, ⟨by first | exact Kd.R_nil _ _ _ _ _ | exact Kd.N_nil _ _ _ _ _ | exact Kd.V_nil _ _ _ _ _ | exact Kd.Q_nil _ _ _ _ _ | exact Kd.S_nil _ _ _ _ _⟩, ⟨by (with_reducible repeat (first | refine blk_drewN ?_ _ | refine blk_drew ?_ | refine blk_alloc ?_ _)); exact BK101.out⟩, ⟨by repeat (first | (with_reducible first | exact HB.out | apply below_alloc | apply pw_below_drewN | apply below_drew1 | refine below_set ?_ GE101.out) | exact HB.out)⟩⟩
  case round =>
    clear H'
    try clear c1
    try clear p2
    obtain ⟨x5_1, x6_1, rfl, HA, HK1, HO_5, BK101, HB⟩ := hrel
    cases gk with
    | zero => exact absurd HA.out (by simp [integer_read.l0])
    | succ k1 =>
      have H := HA.out
      clear HA
      simp only [integer_read.l0] at H
      by_cases c5 : x6_1 > 0
      · rw [if_pos c5] at H
        have c5b0 : decide (0 < x6_1) = true := decide_eq_true c5
        clear c5
        obtain ⟨ji6, hji6⟩ : ∃ j_ : Int, (mx 0 (wrap64 (x6_1 - 9))) = j_ := ⟨_, rfl⟩
        replace H : (if 0 ≤ (ji6) then (if (ji6) ≤ x6_1 then (if x6_1 ≤ (t102.size : Int) then ((strconv_ParseUint.f (t102.extract ((ji6) : Int).toNat (x6_1 : Int).toNat) 10 64).bind fun bt104 => (if x5_1.length < 17592186044416 then (integer_read.l0 k1 t102 t103 (x5_1 ++ [bt104.1]) (wrap64 (x6_1 - 9))) else (none))) else (none)) else (none)) else (none)) = some (r1, r2) := by first | (rw [hji6] at H; exact H) | (simp only [hji6] at H ⊢; exact H)
        have hji6_ : (if 0 < (wrap64 (x6_1 - 9)) then (wrap64 (x6_1 - 9)) else 0) = ji6 := hji6
        by_cases c7 : 0 ≤ (ji6)
        · rw [if_pos c7] at H
          have c7b0 := eq_true c7
          have c7b1 : decide (0 ≤ (ji6)) = true := decide_eq_true c7
          clear c7
          by_cases c8 : (ji6) ≤ x6_1
          · rw [if_pos c8] at H
            have c8b0 := eq_true c8
            have c8b1 : decide ((ji6) ≤ x6_1) = true := decide_eq_true c8
            clear c8
            by_cases c9 : x6_1 ≤ (t102.size : Int)
            · rw [if_pos c9] at H
              have c9b0 := eq_true c9
              have c9b1 : decide (x6_1 ≤ (t102.size : Int)) = true := decide_eq_true c9
              clear c9
              replace H := Option.bind_eq_some_iff.mp H
              obtain ⟨⟨t104, t105⟩, A100, H⟩ := H
              replace H : (if x5_1.length < 17592186044416 then (integer_read.l0 k1 t102 t103 (x5_1 ++ [t104]) (wrap64 (x6_1 - 9))) else (none)) = some (r1, r2) := H
              have A10 := Aside0.mk A100
              clear A100
              by_cases c11 : x5_1.length < 17592186044416
              · rw [if_pos c11] at H
                have LMc11 := Aside0.mk c11
                clear c11
                obtain ⟨y106, hy106⟩ : ∃ y_ : List Int, y_ = (x5_1 ++ [t104]) := ⟨_, rfl⟩
                replace H : (integer_read.l0 k1 t102 t103 y106 (wrap64 (x6_1 - 9))) = some (r1, r2) := by first | (rw [hy106]; with_reducible exact H) | (have H2_ := (Option.bind_some _ _).symm.trans H; rw [hy106]; with_reducible exact H2_) | (have H2_ := (Option.bind_some _ _).symm.trans H; with_reducible exact H2_) | with_reducible exact H | (rw [hy106]; exact H) | exact H
                have Ny106 := Aside0.mk hy106
                clear hy106
                have H' := Aside0.mk H
                clear H
                go_wp2_with (first | ((with_reducible refine gate_callee (f := 192) rfl ?_); refine goesL_ (some 27) rfl rfl Tryz.func192 (by kernel_rfl) rfl #[.string (t102.extract ((ji6) : Int).toNat (x6_1 : Int).toNat), .int .i64 10, .int .i64 64] rfl (by (try simp only [List.map_toArray, List.map_cons, List.map_nil]); first | done | (simp only [hji6]; rfl) | rfl | (simp only [List.length_drop, List.length_take]; rfl)) ?_; (with_reducible refine (strconv_ParseUint.calls (t102.extract ((ji6) : Int).toNat (x6_1 : Int).toNat) 10 64 t104 t105 _ A10.out).mono ?_); rintro e w12 ⟨rfl, hb⟩; refine ⟨_, rfl, ?_⟩; have n0_ := Aside0.mk (Kd.R_below (by (with_reducible repeat (first | apply Kd.R_alloc | apply Kd.R_drewN | apply Kd.R_drew)); exact HO_5.out) hb); have n1_ := Aside0.mk (blk_below (g := gb101) (o := .cells #[.bool false, .slice none 0 0] 183 (0, 0)) (by (with_reducible repeat (first | refine blk_drewN ?_ _ | refine blk_drew ?_ | refine blk_alloc ?_ _)); exact BK101.out) hb); have n2_ := Aside0.mk (below_step (by repeat (first | (with_reducible first | exact HB.out | apply below_alloc | apply pw_below_drewN | apply below_drew1 | refine below_set ?_ GE101.out) | exact HB.out)) hb); clear HO_5; clear BK101; clear HB; have HO_5 := n0_; have BK101 := n1_; have HB := n2_; clear n0_ n1_ n2_; (try clear hb); (try clear hb2); (try clear hk); (try clear hi); (try simp only [errW_none, errW_some])) | ((with_reducible refine gate_builtin (b := .append) (xs := #[.tmp 30, .tmp 32]) rfl ?_); at_builtin; refine Kd.R_append (Kd.int .u64) (w0 := w) w.heap.size rfl (.tmp 30) (.tmp 32) 181 198 (.int .u64 0) 8 rfl Tryz.underlying181 info198 rfl (by decide) (by omega) u5 x5_1 t104 [.int .u64 t104] (fun _ => True) (fun _ => False) rfl rfl ?aP (fun _ hk => hk.elim) ?aF ?aO ?aB ?aS ?aL ?_; (case aP => exact rfl); (case aB => exact (by repeat (first | (with_reducible first | exact HB.out | apply below_alloc | apply pw_below_drewN | apply below_drew1 | refine below_set ?_ GE101.out) | exact HB.out))); (case aF => exact (fun _ _ => trivial)); (case aO => exact (by (with_reducible repeat (first | apply Kd.R_alloc | apply Kd.R_drewN | apply Kd.R_drew)); exact HO_5.out)); (case aS => exact (below_size (by repeat (first | (with_reducible first | exact HB.out | apply below_alloc | apply pw_below_drewN | apply below_drew1 | refine below_set ?_ GE101.out) | exact HB.out)))); (case aL => have := LMc11.out; omega); intro v107 w13 ho hb hg hat; rw [← Ny106.out] at ho; have n0_ := Aside0.mk (blk_grown (g := gb101) (o := .cells #[.bool false, .slice none 0 0] 183 (0, 0)) (by (with_reducible repeat (first | refine blk_drewN ?_ _ | refine blk_drew ?_ | refine blk_alloc ?_ _)); exact BK101.out) hg (Kd.R_ne HO_5.out BK101.out (by decide))); have n1_ := Aside0.mk (hb); have n2_ := Aside0.mk (ho); clear BK101; clear HB; clear HO_5; have BK101 := n0_; have HB := n1_; have HO108 := n2_; clear n0_ n1_ n2_; clear ho hb hg hat))
                go_roundg k1
                case measure => have := HK1.out; omega
                case rel => exact ⟨(y106), (wrap64 (x6_1 - 9)), (by first | rfl | (simp; done) | (simp [*]; done)), H', ⟨by have := HK1.out; omega⟩, ⟨by (with_reducible repeat (first | apply Kd.R_alloc | apply Kd.R_drewN | apply Kd.R_drew)); exact HO108.out⟩, ⟨by (with_reducible repeat (first | refine blk_drewN ?_ _ | refine blk_drew ?_ | refine blk_alloc ?_ _)); exact BK101.out⟩, ⟨by repeat (first | (with_reducible first | exact HB.out | apply below_alloc | apply pw_below_drewN | apply below_drew1 | refine below_set ?_ GE101.out) | exact HB.out)⟩⟩
              · rw [if_neg c11] at H
                exact absurd H (by simp)
            · rw [if_neg c9] at H
              exact absurd H (by simp)
          · rw [if_neg c8] at H
            exact absurd H (by simp)
        · rw [if_neg c7] at H
          exact absurd H (by simp)
      · rw [if_neg c5] at H
        have c5b0 : decide (0 < x6_1) = false := decide_eq_false c5
        clear c5
        simp only [Option.some.injEq, Prod.mk.injEq] at H
        obtain ⟨rfl, rfl⟩ := H
        obtain ⟨Ao14, co14, eo14⟩ := Kd.R_slice HO_5.out
        subst eo14
        have hcz15_0 : wr.cell? ⟨gb101, 0, none⟩ = some (.bool false) := (blk_cell BK101.out 0).trans rfl
        have hcz15_1 : wr.cell? ⟨gb101, 1, none⟩ = some (.slice none 0 0) := (blk_cell BK101.out 1).trans rfl
        have hfz15_0 := blk_frozen BK101.out 0
        have hfz15_1 := blk_frozen BK101.out 1
        go_wp2
        refine bodyPost_ret (results_cell_row rfl _ _ gb101 183 #[.bool t103, .slice Ao14 x5_1.length co14] (0, 0) _ rfl (by (with_reducible repeat (first | refine blk_drewN ?_ _ | refine blk_drew ?_ | refine blk_alloc ?_ _)); refine blk_put (cs := #[.bool t103, .slice none 0 0]) ?_ 1 _ rfl; (with_reducible repeat (first | refine blk_drewN ?_ _ | refine blk_drew ?_ | refine blk_alloc ?_ _)); refine blk_put (cs := #[.bool false, .slice none 0 0]) ?_ 0 _ rfl; (with_reducible repeat (first | refine blk_drewN ?_ _ | refine blk_drew ?_ | refine blk_alloc ?_ _)); exact BK101.out) Tryz.underlying183 rfl (by kernel_rfl)) rfl ?_
        exact ⟨_, by first | rfl | (simp [errW_none, errW_some] <;> rfl) | (simp [*, errW_none, errW_some] <;> rfl), by (with_reducible repeat (first | apply Kd.R_alloc | apply Kd.R_drewN | apply Kd.R_drew)); exact Kd.R_mono (Kd.R_far (p := ⟨gb101, 1, none⟩) (Kd.R_far (p := ⟨gb101, 0, none⟩) (Kd.R_types HO_5.out BK101.out (by decide)) (fun _ hk => hk.2) (.bool t103)) (fun _ hk => hk.2) (.slice Ao14 x5_1.length co14)) (fun _ hk => trivial), by repeat (first | (with_reducible first | exact HB.out | apply below_alloc | apply pw_below_drewN | apply below_drew1 | refine below_set ?_ GE101.out) | exact HB.out)⟩
end Go.Proofs.YtblcgcibkikgeaaGreatDoor.I
end
section
namespace Go.Proofs.YtblcgcibkikgeaaGreatDoor.I
open Go.RowKit Go.Proofs.YtblcgcibkikgeaaGreatDoorW.PrintWords Go.Proofs.YtblcgcibkikgeaaGreatDoorW.PrintLast Go.Proofs.YtblcgcibkikgeaaGreatDoorW.PrintMore Go.Proofs.YtblcgcibkikgeaaGreatDoor.K Go.Proofs.YtblcgcibkikgeaaGreatDoor.G1
attribute [local go_sem] max2_int min2_int max_two min_two max_three min_three max_four min_four
set_option linter.unusedVariables false
set_option linter.unusedSimpArgs false
end Go.Proofs.YtblcgcibkikgeaaGreatDoor.I
end
section
namespace Go.Proofs.YtblcgcibkikgeaaGreatDoor.I
open Go.RowKit Go.Proofs.YtblcgcibkikgeaaGreatDoorW.PrintWords Go.Proofs.YtblcgcibkikgeaaGreatDoorW.PrintLast Go.Proofs.YtblcgcibkikgeaaGreatDoorW.PrintMore Go.Proofs.YtblcgcibkikgeaaGreatDoor.K Go.Proofs.YtblcgcibkikgeaaGreatDoor.G1
attribute [local go_sem] max2_int min2_int max_two min_two max_three min_three max_four min_four
set_option linter.unusedVariables false
set_option linter.unusedSimpArgs false
def integer_magnitude_compare.l0 : Nat → List Int → List Int → Int → Option (Int)
  | 0, _, _, _ => none
  | k + 1, x0, x1, x5 => if x5 ≥ 0 then (if 0 ≤ x5 then (if x5 < (x0.length : Int) then (if x5 < (x1.length : Int) then (if (rd x0 x5) < (rd x1 x5) then (some (-1)) else (if (rd x0 x5) > (rd x1 x5) then (some 1) else (integer_magnitude_compare.l0 k x0 x1 (wrap64 (x5 - 1))))) else (none)) else (none)) else (none)) else (some 0)
def integer_magnitude_compare.f (k : Nat) (l0 : List Int) (l1 : List Int) : Option (Int) := if (l0.length : Int) = (l1.length : Int) then (integer_magnitude_compare.l0 k l0 l1 (wrap64 ((l0.length : Int) - 1))) else (some (wrap64 ((l0.length : Int) - (l1.length : Int))))
set_option maxHeartbeats 8000000 in
set_option maxRecDepth 100000 in
theorem integer_magnitude_compare.calls (k : Nat) (A0 : Option Addr) (c0 : Nat) (l0 : List Int) (A1 : Option Addr) (c1 : Nat) (l1 : List Int) (r : Int) (w : World) (hr0 : Kd.C (Kd.int .u64) w A0 l0.length l0) (hc0 : l0.length ≤ c0) (hr1 : Kd.C (Kd.int .u64) w A1 l1.length l1) (hc1 : l1.length ≤ c1) (h : integer_magnitude_compare.f k l0 l1 = some r) :
    Calls Tryz.prog 187 #[.slice A0 l0.length c0, .slice A1 l1.length c1] w fun e w' => e = .returned (.int .i64 r) ∧ Drawn0 w w' := by
  have HR0 := Aside0.mk hr0
  have HC0 := Aside0.mk hc0
  clear hr0 hc0
  have HR1 := Aside0.mk hr1
  have HC1 := Aside0.mk hc1
  clear hr1 hc1
  have H : (if (l0.length : Int) = (l1.length : Int) then (integer_magnitude_compare.l0 k l0 l1 (wrap64 ((l0.length : Int) - 1))) else (some (wrap64 ((l0.length : Int) - (l1.length : Int))))) = some r := h
  clear h
  by_cases c3 : (l0.length : Int) = (l1.length : Int)
  · rw [if_pos c3] at H
    have c3b0 : ((l0.length : Int) == (l1.length : Int)) = true := beq_iff_eq.mpr c3
    have c3b1 : ((l0.length : Int) != (l1.length : Int)) = false := bne_eq_false_iff_eq.mpr c3
    have c3b2 : (l0.length == l1.length) = true := by first | simpa using c3 | (simp at c3 ⊢; omega)
    clear c3
    have H' := Aside0.mk H
    clear H
    go_enter Tryz.func187, Tryz.ntmps187
    go_wp2
    repeat (go_quiet (fail); try go_wp2)
    go_loopg [5] k (fun kq v5 w' => ∃ (x5_1 : Int), v5 = .int .i64 x5_1 ∧ Aside0 (integer_magnitude_compare.l0 kq l0 l1 x5_1 = some r) ∧ Aside0 (kq ≤ k) ∧ Drawn0 w w')
    case atStart => exact ⟨(wrap64 ((l0.length : Int) - 1)), (by first | rfl | (simp; done) | (simp [*]; done)), H', ⟨Nat.le_refl _⟩, by repeat (first | exact Drawn0.refl _ | apply Drawn0.step)⟩
    case round =>
      clear H'
      try clear c1
      try clear p2
      try clear c3
      try clear c3b0
      try clear c3b1
      try clear c3b2
      obtain ⟨x5_1, rfl, HA, HK1, ⟨m1, rfl⟩⟩ := hrel
      cases gk with
      | zero => exact absurd HA.out (by simp [integer_magnitude_compare.l0])
      | succ k1 =>
        have H := HA.out
        clear HA
        simp only [integer_magnitude_compare.l0] at H
        by_cases c4 : x5_1 ≥ 0
        · rw [if_pos c4] at H
          have c4b0 : decide (0 ≤ x5_1) = true := decide_eq_true c4
          clear c4
          by_cases c5 : 0 ≤ x5_1
          · rw [if_pos c5] at H
            have c5b0 : decide (0 ≤ x5_1) = true := decide_eq_true c5
            clear c5
            by_cases c6 : x5_1 < (l0.length : Int)
            · rw [if_pos c6] at H
              have c6b0 : decide (x5_1 < (l0.length : Int)) = true := decide_eq_true c6
              clear c6
              by_cases c7 : x5_1 < (l1.length : Int)
              · rw [if_pos c7] at H
                have c7b0 : decide (x5_1 < (l1.length : Int)) = true := decide_eq_true c7
                clear c7
                by_cases c8 : (rd l0 x5_1) < (rd l1 x5_1)
                · rw [if_pos c8] at H
                  have c8b0 : decide ((rd l0 x5_1) < (rd l1 x5_1)) = true := decide_eq_true c8
                  clear c8
                  obtain rfl := Option.some.inj H
                  have p109 : 0 ≤ (x5_1 : Int) := of_decide_eq_true (by first | (with_reducible assumption) | assumption)
                  have q109 : x5_1 < (l0.length : Int) := of_decide_eq_true (by first | (with_reducible assumption) | assumption)
                  obtain ⟨ad109, e109, hx109_0⟩ := Kd.at_int HR0.out x5_1 p109 q109
                  cases e109
                  replace p109 := eq_true p109
                  replace q109 := eq_true q109
                  have p110 : 0 ≤ (x5_1 : Int) := of_decide_eq_true (by first | (with_reducible assumption) | assumption)
                  have q110 : x5_1 < (l1.length : Int) := of_decide_eq_true (by first | (with_reducible assumption) | assumption)
                  obtain ⟨ad110, e110, hx110_0⟩ := Kd.at_int HR1.out x5_1 p110 q110
                  cases e110
                  replace p110 := eq_true p110
                  replace q110 := eq_true q110
                  go_wp2
                  repeat (go_quiet (fail); try go_wp2)
                  go_ret
                  exact ⟨by first | rfl | (simp; done) | (simp [*]; done), by repeat (first | exact Drawn0.refl _ | apply Drawn0.step)⟩
                · rw [if_neg c8] at H
                  have c8b0 : decide ((rd l0 x5_1) < (rd l1 x5_1)) = false := decide_eq_false c8
                  clear c8
                  by_cases c9 : (rd l0 x5_1) > (rd l1 x5_1)
                  · rw [if_pos c9] at H
                    have c9b0 : decide ((rd l1 x5_1) < (rd l0 x5_1)) = true := decide_eq_true c9
                    clear c9
                    obtain rfl := Option.some.inj H
                    have p109 : 0 ≤ (x5_1 : Int) := of_decide_eq_true (by first | (with_reducible assumption) | assumption)
                    have q109 : x5_1 < (l0.length : Int) := of_decide_eq_true (by first | (with_reducible assumption) | assumption)
                    obtain ⟨ad109, e109, hx109_0⟩ := Kd.at_int HR0.out x5_1 p109 q109
                    cases e109
                    replace p109 := eq_true p109
                    replace q109 := eq_true q109
                    have p110 : 0 ≤ (x5_1 : Int) := of_decide_eq_true (by first | (with_reducible assumption) | assumption)
                    have q110 : x5_1 < (l1.length : Int) := of_decide_eq_true (by first | (with_reducible assumption) | assumption)
                    obtain ⟨ad110, e110, hx110_0⟩ := Kd.at_int HR1.out x5_1 p110 q110
                    cases e110
                    replace p110 := eq_true p110
                    replace q110 := eq_true q110
                    have p111 : 0 ≤ (x5_1 : Int) := of_decide_eq_true (by first | (with_reducible assumption) | assumption)
                    have q111 : x5_1 < (l0.length : Int) := of_decide_eq_true (by first | (with_reducible assumption) | assumption)
                    obtain ⟨ad111, e111, hx111_0⟩ := Kd.at_int HR0.out x5_1 p111 q111
                    obtain rfl : ad109 = ad111 := (by injection e111)
                    replace p111 := eq_true p111
                    replace q111 := eq_true q111
                    have p112 : 0 ≤ (x5_1 : Int) := of_decide_eq_true (by first | (with_reducible assumption) | assumption)
                    have q112 : x5_1 < (l1.length : Int) := of_decide_eq_true (by first | (with_reducible assumption) | assumption)
                    obtain ⟨ad112, e112, hx112_0⟩ := Kd.at_int HR1.out x5_1 p112 q112
                    obtain rfl : ad110 = ad112 := (by injection e112)
                    replace p112 := eq_true p112
                    replace q112 := eq_true q112
                    go_wp2
                    repeat (go_quiet (fail); try go_wp2)
                    go_ret
                    exact ⟨by first | rfl | (simp; done) | (simp [*]; done), by repeat (first | exact Drawn0.refl _ | apply Drawn0.step)⟩
                  · rw [if_neg c9] at H
                    have c9b0 : decide ((rd l1 x5_1) < (rd l0 x5_1)) = false := decide_eq_false c9
                    clear c9
                    have H' := Aside0.mk H
                    clear H
                    have p109 : 0 ≤ (x5_1 : Int) := of_decide_eq_true (by first | (with_reducible assumption) | assumption)
                    have q109 : x5_1 < (l0.length : Int) := of_decide_eq_true (by first | (with_reducible assumption) | assumption)
                    obtain ⟨ad109, e109, hx109_0⟩ := Kd.at_int HR0.out x5_1 p109 q109
                    cases e109
                    replace p109 := eq_true p109
                    replace q109 := eq_true q109
                    have p110 : 0 ≤ (x5_1 : Int) := of_decide_eq_true (by first | (with_reducible assumption) | assumption)
                    have q110 : x5_1 < (l1.length : Int) := of_decide_eq_true (by first | (with_reducible assumption) | assumption)
                    obtain ⟨ad110, e110, hx110_0⟩ := Kd.at_int HR1.out x5_1 p110 q110
                    cases e110
                    replace p110 := eq_true p110
                    replace q110 := eq_true q110
                    have p111 : 0 ≤ (x5_1 : Int) := of_decide_eq_true (by first | (with_reducible assumption) | assumption)
                    have q111 : x5_1 < (l0.length : Int) := of_decide_eq_true (by first | (with_reducible assumption) | assumption)
                    obtain ⟨ad111, e111, hx111_0⟩ := Kd.at_int HR0.out x5_1 p111 q111
                    obtain rfl : ad109 = ad111 := (by injection e111)
                    replace p111 := eq_true p111
                    replace q111 := eq_true q111
                    have p112 : 0 ≤ (x5_1 : Int) := of_decide_eq_true (by first | (with_reducible assumption) | assumption)
                    have q112 : x5_1 < (l1.length : Int) := of_decide_eq_true (by first | (with_reducible assumption) | assumption)
                    obtain ⟨ad112, e112, hx112_0⟩ := Kd.at_int HR1.out x5_1 p112 q112
                    obtain rfl : ad110 = ad112 := (by injection e112)
                    replace p112 := eq_true p112
                    replace q112 := eq_true q112
                    go_wp2
                    repeat (go_quiet (fail); try go_wp2)
                    go_roundg k1
                    case measure => have := HK1.out; omega
                    case rel => exact ⟨(wrap64 (x5_1 - 1)), (by first | rfl | (simp; done) | (simp [*]; done)), H', ⟨by have := HK1.out; omega⟩, by repeat (first | exact Drawn0.refl _ | apply Drawn0.step)⟩
              · rw [if_neg c7] at H
                exact absurd H (by simp)
            · rw [if_neg c6] at H
              exact absurd H (by simp)
          · rw [if_neg c5] at H
            exact absurd H (by simp)
        · rw [if_neg c4] at H
          have c4b0 : decide (0 ≤ x5_1) = false := decide_eq_false c4
          clear c4
          obtain rfl := Option.some.inj H
          go_wp2
          repeat (go_quiet (fail); try go_wp2)
          go_ret
          exact ⟨by first | rfl | (simp; done) | (simp [*]; done), by repeat (first | exact Drawn0.refl _ | apply Drawn0.step)⟩
  · rw [if_neg c3] at H
    have c3b0 : ((l0.length : Int) == (l1.length : Int)) = false := beq_eq_false_iff_ne.mpr c3
    have c3b1 : ((l0.length : Int) != (l1.length : Int)) = true := bne_iff_ne.mpr c3
    have c3b2 : (l0.length == l1.length) = false := by first | simpa using c3 | (simp at c3 ⊢; omega)
    obtain rfl := Option.some.inj H
    go_enter Tryz.func187, Tryz.ntmps187
    go_wp2
    repeat (go_quiet (fail); try go_wp2)
    go_ret
    exact ⟨by first | rfl | (simp; done) | (simp [*]; done), by repeat (first | exact Drawn0.refl _ | apply Drawn0.step)⟩
end Go.Proofs.YtblcgcibkikgeaaGreatDoor.I
end
section
namespace Go.Proofs.YtblcgcibkikgeaaGreatDoor.I
open Go.RowKit Go.Proofs.YtblcgcibkikgeaaGreatDoorW.PrintWords Go.Proofs.YtblcgcibkikgeaaGreatDoorW.PrintLast Go.Proofs.YtblcgcibkikgeaaGreatDoorW.PrintMore Go.Proofs.YtblcgcibkikgeaaGreatDoor.K Go.Proofs.YtblcgcibkikgeaaGreatDoor.G1
attribute [local go_sem] max2_int min2_int max_two min_two max_three min_three max_four min_four
set_option linter.unusedVariables false
set_option linter.unusedSimpArgs false
end Go.Proofs.YtblcgcibkikgeaaGreatDoor.I
end
section
namespace Go.Proofs.YtblcgcibkikgeaaGreatDoor.I
open Go.RowKit Go.Proofs.YtblcgcibkikgeaaGreatDoorW.PrintWords Go.Proofs.YtblcgcibkikgeaaGreatDoorW.PrintLast Go.Proofs.YtblcgcibkikgeaaGreatDoorW.PrintMore Go.Proofs.YtblcgcibkikgeaaGreatDoor.K Go.Proofs.YtblcgcibkikgeaaGreatDoor.G1
attribute [local go_sem] max2_int min2_int max_two min_two max_three min_three max_four min_four
set_option linter.unusedVariables false
set_option linter.unusedSimpArgs false
def integer_magnitude_cut.l0 : Nat → List Int → Option (List Int)
  | 0, _ => none
  | k + 1, x0 => if (x0.length : Int) > 0 then (if 0 ≤ (wrap64 ((x0.length : Int) - 1)) then (if (wrap64 ((x0.length : Int) - 1)) < (x0.length : Int) then (if (rd x0 (wrap64 ((x0.length : Int) - 1))) = 0 then (if (wrap64 ((x0.length : Int) - 1)) ≤ (x0.length : Int) then (integer_magnitude_cut.l0 k (x0.take ((wrap64 ((x0.length : Int) - 1)) : Int).toNat)) else (none)) else (some x0)) else (none)) else (none)) else (some x0)
def integer_magnitude_cut.f (k : Nat) (l0 : List Int) : Option (List Int) := integer_magnitude_cut.l0 k l0
set_option maxHeartbeats 8000000 in
set_option maxRecDepth 100000 in
theorem integer_magnitude_cut.calls (k : Nat) (P0_ : Nat → Prop) (A0 : Option Addr) (c0 : Nat) (l0 : List Int) (r : List Int) (w : World) (hs0 : Kd.V (Kd.int .u64) 198 w w.heap.size (fun k_ => P0_ k_) (.slice A0 l0.length c0) l0) (h : integer_magnitude_cut.f k l0 = some r) :
    Calls Tryz.prog 193 #[.slice A0 l0.length c0] w fun e w' => ∃ v0_ : Value, e = .returned (v0_) ∧ Kd.V (Kd.int .u64) 198 w' w.heap.size (fun k_ => (P0_ k_ ∨ w.heap.size ≤ k_)) v0_ r ∧ Below w.heap.size w w' := by
  have HO0 := Aside0.mk (show Kd.V (Kd.int .u64) 198 w w.heap.size (fun k_ => (P0_ k_ ∨ w.heap.size ≤ k_)) (.slice A0 l0.length c0) l0 from Kd.V_mono hs0 (fun k_ hk => .inl hk))
  have HB := Aside0.mk (Below.refl w.heap.size w)
  have H : (integer_magnitude_cut.l0 k l0) = some r := h
  clear h
  have H' := Aside0.mk H
  clear H
  go_enter Tryz.func193, Tryz.ntmps193
  go_wp2
  go_loopg [0] k (fun kq v0 w' => ∃ (x0_1 : List Int), Aside0 (integer_magnitude_cut.l0 kq x0_1 = some r) ∧ Aside0 (kq ≤ k) ∧ Aside0 (Kd.V (Kd.int .u64) 198 w' w.heap.size (fun k_ => (P0_ k_ ∨ w.heap.size ≤ k_)) v0 x0_1) ∧ Aside0 (Below w.heap.size w w'))
  case atStart => exact ⟨(l0), H', ⟨Nat.le_refl _⟩, ⟨by (with_reducible repeat (first | apply Kd.V_alloc | apply Kd.V_drewN | apply Kd.V_drew)); exact HO0.out⟩, ⟨by repeat (first | (with_reducible first | exact HB.out | apply below_alloc | apply pw_below_drewN | apply below_drew1) | exact HB.out)⟩⟩
  case round =>
    clear H'
    try clear c1
    obtain ⟨x0_1, HA, HK1, HO_0, HB⟩ := hrel
    cases gk with
    | zero => exact absurd HA.out (by simp [integer_magnitude_cut.l0])
    | succ k1 =>
      have H := HA.out
      clear HA
      simp only [integer_magnitude_cut.l0] at H
      by_cases c2 : (x0_1.length : Int) > 0
      · rw [if_pos c2] at H
        have c2b0 : decide (0 < (x0_1.length : Int)) = true := decide_eq_true c2
        have c2b1 : decide (0 < x0_1.length) = true := decide_eq_true (by omega)
        clear c2
        obtain ⟨ji3, hji3⟩ : ∃ j_ : Int, (wrap64 ((x0_1.length : Int) - 1)) = j_ := ⟨_, rfl⟩
        replace H : (if 0 ≤ (ji3) then (if (ji3) < (x0_1.length : Int) then (if (rd x0_1 (ji3)) = 0 then (if (ji3) ≤ (x0_1.length : Int) then (integer_magnitude_cut.l0 k1 (x0_1.take ((ji3) : Int).toNat)) else (none)) else (some x0_1)) else (none)) else (none)) = some r := by first | (rw [hji3] at H; exact H) | (simp only [hji3] at H ⊢; exact H)
        have hji3w : (IntKind.i64.wrap ((x0_1.length : Int) - 1)) = ji3 := (i64_w _).trans hji3
        by_cases c4 : 0 ≤ (ji3)
        · rw [if_pos c4] at H
          have c4b0 : decide (0 ≤ (ji3)) = true := decide_eq_true c4
          clear c4
          by_cases c5 : (ji3) < (x0_1.length : Int)
          · rw [if_pos c5] at H
            have c5b0 : decide ((ji3) < (x0_1.length : Int)) = true := decide_eq_true c5
            clear c5
            by_cases c6 : (rd x0_1 (ji3)) = 0
            · rw [if_pos c6] at H
              have c6b0 : ((rd x0_1 (ji3)) == 0) = true := beq_iff_eq.mpr c6
              have c6b1 : ((rd x0_1 (ji3)) != 0) = false := bne_eq_false_iff_eq.mpr c6
              clear c6
              have c7b0 := eq_true (of_decide_eq_true (by first | (with_reducible assumption) | assumption) : 0 ≤ (ji3))
              by_cases c8 : (ji3) ≤ (x0_1.length : Int)
              · rw [if_pos c8] at H
                have c8b0 := eq_true c8
                have c8b1 : decide ((ji3) ≤ (x0_1.length : Int)) = true := decide_eq_true c8
                clear c8
                obtain ⟨y114, hy114⟩ : ∃ y_ : List Int, y_ = (x0_1.take ((ji3) : Int).toNat) := ⟨_, rfl⟩
                replace H : (integer_magnitude_cut.l0 k1 y114) = some r := by first | (rw [hy114]; with_reducible exact H) | (have H2_ := (Option.bind_some _ _).symm.trans H; rw [hy114]; with_reducible exact H2_) | (have H2_ := (Option.bind_some _ _).symm.trans H; with_reducible exact H2_) | with_reducible exact H | (rw [hy114]; exact H) | exact H
                have Ny114 := Aside0.mk hy114
                clear hy114
                have H' := Aside0.mk H
                clear H
                obtain ⟨Ao9, co9, eo9⟩ := Kd.V_slice HO_0.out
                subst eo9
                have p113 : 0 ≤ ((ji3) : Int) := of_decide_eq_true (by first | (with_reducible assumption) | assumption)
                have q113 : (ji3) < (x0_1.length : Int) := of_decide_eq_true (by first | (with_reducible assumption) | assumption)
                obtain ⟨ad113, e113, hx113_0⟩ := Kd.at_int (Kd.V_reads' HO_0.out).2.2 (ji3) p113 q113
                cases e113
                replace p113 := eq_true p113
                replace q113 := eq_true q113
                have q10 : ((ji3) : Int) ≤ ((x0_1.length : Int) : Int) := of_decide_eq_true (by first | (with_reducible assumption) | assumption)
                obtain ⟨i010, hi010, _, hsz10, _⟩ := info_parts info198
                have hroom10 : x0_1.length ≤ co9 := (Kd.V_reads' HO_0.out).2.1
                have hC10 : Kd.F (Kd.int .u64) _ _ (some ad113) x0_1.length x0_1 := (Kd.V_at (base := w.heap.size) HO_0.out).2.2
                have hcut10 := cut_to (P := Tryz.prog) 181 198 .i64 Tryz.underlying181 hi010 (some ad113) x0_1.length co9 (ji3) (of_decide_eq_true (by first | (with_reducible assumption) | assumption)) q10 hroom10
                have hr10 := Kd.F_take (m := ((ji3) : Int).toNat) hC10 (by omega)
                have hy10 : y114.length = ((ji3) : Int).toNat := (by rw [Ny114.out, List.length_take]; omega)
                rw [← Ny114.out] at hr10
                rw [← hy10] at hcut10
                have HO118 := Aside0.mk (show Kd.V (Kd.int .u64) 198 _ w.heap.size _ (.slice (some ad113) y114.length co9) y114 from Kd.V_mk (by omega) hr10)
                have HC118 := Aside0.mk (show y114.length ≤ co9 from by omega)
                clear hr10 hC10 hroom10 hi010 hsz10
                have KY10 := Aside0.mk hy10
                clear hy10
                replace q10 := eq_true q10
                go_wp2
                go_roundg k1
                case measure => have := HK1.out; omega
                case rel => exact ⟨(y114), H', ⟨by have := HK1.out; omega⟩, ⟨by (with_reducible repeat (first | apply Kd.V_alloc | apply Kd.V_drewN | apply Kd.V_drew)); exact HO118.out⟩, ⟨by repeat (first | (with_reducible first | exact HB.out | apply below_alloc | apply pw_below_drewN | apply below_drew1) | exact HB.out)⟩⟩
              · rw [if_neg c8] at H
                exact absurd H (by simp)
            · rw [if_neg c6] at H
              have c6b0 : ((rd x0_1 (ji3)) == 0) = false := beq_eq_false_iff_ne.mpr c6
              have c6b1 : ((rd x0_1 (ji3)) != 0) = true := bne_iff_ne.mpr c6
              obtain rfl := Option.some.inj H
              obtain ⟨Ao11, co11, eo11⟩ := Kd.V_slice HO_0.out
              subst eo11
              have p113 : 0 ≤ ((ji3) : Int) := of_decide_eq_true (by first | (with_reducible assumption) | assumption)
              have q113 : (ji3) < (x0_1.length : Int) := of_decide_eq_true (by first | (with_reducible assumption) | assumption)
              obtain ⟨ad113, e113, hx113_0⟩ := Kd.at_int (Kd.V_reads' HO_0.out).2.2 (ji3) p113 q113
              cases e113
              replace p113 := eq_true p113
              replace q113 := eq_true q113
              go_wp2
              go_ret
              exact ⟨_, by first | rfl | (simp [errW_none, errW_some] <;> rfl) | (simp only [← hji3]; first | rfl | (simp [errW_none, errW_some] <;> rfl)) | (simp [*, errW_none, errW_some] <;> rfl), by (with_reducible repeat (first | apply Kd.V_alloc | apply Kd.V_drewN | apply Kd.V_drew)); exact HO_0.out, by repeat (first | (with_reducible first | exact HB.out | apply below_alloc | apply pw_below_drewN | apply below_drew1) | exact HB.out)⟩
          · rw [if_neg c5] at H
            exact absurd H (by simp)
        · rw [if_neg c4] at H
          exact absurd H (by simp)
      · rw [if_neg c2] at H
        have c2b0 : decide (0 < (x0_1.length : Int)) = false := decide_eq_false c2
        have c2b1 : decide (0 < x0_1.length) = false := decide_eq_false (by omega)
        clear c2
        obtain rfl := Option.some.inj H
        obtain ⟨Ao12, co12, eo12⟩ := Kd.V_slice HO_0.out
        subst eo12
        go_wp2
        go_ret
        exact ⟨_, by first | rfl | (simp [errW_none, errW_some] <;> rfl) | (simp [*, errW_none, errW_some] <;> rfl), by (with_reducible repeat (first | apply Kd.V_alloc | apply Kd.V_drewN | apply Kd.V_drew)); exact HO_0.out, by repeat (first | (with_reducible first | exact HB.out | apply below_alloc | apply pw_below_drewN | apply below_drew1) | exact HB.out)⟩
end Go.Proofs.YtblcgcibkikgeaaGreatDoor.I
end
section
namespace Go.Proofs.YtblcgcibkikgeaaGreatDoor.I
open Go.RowKit Go.Proofs.YtblcgcibkikgeaaGreatDoorW.PrintWords Go.Proofs.YtblcgcibkikgeaaGreatDoorW.PrintLast Go.Proofs.YtblcgcibkikgeaaGreatDoorW.PrintMore Go.Proofs.YtblcgcibkikgeaaGreatDoor.K Go.Proofs.YtblcgcibkikgeaaGreatDoor.G1
attribute [local go_sem] max2_int min2_int max_two min_two max_three min_three max_four min_four
set_option linter.unusedVariables false
set_option linter.unusedSimpArgs false
end Go.Proofs.YtblcgcibkikgeaaGreatDoor.I
end
section
namespace Go.Proofs.YtblcgcibkikgeaaGreatDoor.I
open Go.RowKit Go.Proofs.YtblcgcibkikgeaaGreatDoorW.PrintWords Go.Proofs.YtblcgcibkikgeaaGreatDoorW.PrintLast Go.Proofs.YtblcgcibkikgeaaGreatDoorW.PrintMore Go.Proofs.YtblcgcibkikgeaaGreatDoor.K Go.Proofs.YtblcgcibkikgeaaGreatDoor.G1
attribute [local go_sem] max2_int min2_int max_two min_two max_three min_three max_four min_four
set_option linter.unusedVariables false
set_option linter.unusedSimpArgs false
def integer_magnitude_minus.l0 : Nat → List Int → List Int → Int → Int → Int → Option (List Int)
  | 0, _, _, _, _, _ => none
  | k + 1, x1, x5, x6, x12, x13 => if x13 < x12 then (if x13 < (x1.length : Int) then (if 0 ≤ x13 then (if x13 < (x5.length : Int) then (if (rd x5 x13) < (IntKind.u64.wrap (x6 + (rd x1 x13))) then ((some (x5.set (x13 : Int).toNat (IntKind.u64.wrap ((rd x5 x13) + 1000000000)) : List Int)).bind fun y128 => (integer_magnitude_minus.l0 k x1 (y128.set (x13 : Int).toNat (IntKind.u64.wrap ((rd y128 x13) - (IntKind.u64.wrap (x6 + (rd x1 x13)))))) 1 x12 (wrap64 (x13 + 1)))) else (integer_magnitude_minus.l0 k x1 (x5.set (x13 : Int).toNat (IntKind.u64.wrap ((rd x5 x13) - (IntKind.u64.wrap (x6 + (rd x1 x13)))))) 0 x12 (wrap64 (x13 + 1)))) else (none)) else (none)) else (if 0 ≤ x13 then (if x13 < (x5.length : Int) then (if (rd x5 x13) < x6 then ((some (x5.set (x13 : Int).toNat (IntKind.u64.wrap ((rd x5 x13) + 1000000000)) : List Int)).bind fun y135 => (integer_magnitude_minus.l0 k x1 (y135.set (x13 : Int).toNat (IntKind.u64.wrap ((rd y135 x13) - x6))) 1 x12 (wrap64 (x13 + 1)))) else (integer_magnitude_minus.l0 k x1 (x5.set (x13 : Int).toNat (IntKind.u64.wrap ((rd x5 x13) - x6))) 0 x12 (wrap64 (x13 + 1)))) else (none)) else (none))) else ((integer_magnitude_cut.f k x5).bind fun t122 => (some t122))
def integer_magnitude_minus.f (k : Nat) (l0 : List Int) (l1 : List Int) : Option (List Int) := (integer_magnitude_uint64.f l0).bind fun t119 => (integer_magnitude_minus.l0 k l1 t119 0 (t119.length : Int) 0)
set_option maxHeartbeats 8000000 in
set_option maxRecDepth 100000 in
theorem integer_magnitude_minus.calls (k : Nat) (A0 : Option Addr) (c0 : Nat) (l0 : List Int) (A1 : Option Addr) (c1 : Nat) (l1 : List Int) (r : List Int) (w : World) (hr0 : Kd.C (Kd.int .u64) w A0 l0.length l0) (hc0 : l0.length ≤ c0) (hr1 : Kd.C (Kd.int .u64) w A1 l1.length l1) (hc1 : l1.length ≤ c1) (h : integer_magnitude_minus.f k l0 l1 = some r) :
    Calls Tryz.prog 198 #[.slice A0 l0.length c0, .slice A1 l1.length c1] w fun e w' => ∃ v0_ : Value, e = .returned (v0_) ∧ Kd.V (Kd.int .u64) 198 w' w.heap.size (fun k_ => (w.heap.size ≤ k_)) v0_ r ∧ Below w.heap.size w w' := by
  have HR0 := Aside0.mk hr0
  have HC0 := Aside0.mk hc0
  clear hr0 hc0
  have HR1 := Aside0.mk hr1
  have HC1 := Aside0.mk hc1
  clear hr1 hc1
  have HB := Aside0.mk (Below.refl w.heap.size w)
  have H : ((integer_magnitude_uint64.f l0).bind fun t119 => (integer_magnitude_minus.l0 k l1 t119 0 (t119.length : Int) 0)) = some r := h
  clear h
  replace H := Option.bind_eq_some_iff.mp H
  obtain ⟨t119, A30, H⟩ := H
  replace H : (integer_magnitude_minus.l0 k l1 t119 0 (t119.length : Int) 0) = some r := H
  have A3 := Aside0.mk A30
  clear A30
  have H' := Aside0.mk H
  clear H
  go_enter Tryz.func198, Tryz.ntmps198
  go_wp2_with (first | ((with_reducible refine gate_callee (f := 238) rfl ?_); refine goesL_ (some 10) rfl rfl Tryz.func238 (by kernel_rfl) rfl #[.slice A0 l0.length c0] rfl (by (try simp only [List.map_toArray, List.map_cons, List.map_nil]); first | done | rfl | (simp only [List.length_drop, List.length_take]; rfl)) ?_; (with_reducible refine (integer_magnitude_uint64.calls _ _ l0 t119 _ ?side1 ?side2 A3.out).mono ?_); (case side1 => repeat (first | exact HR0.out | (with_reducible refine Kd.C_alloc ?_ _) | (with_reducible refine Kd.C_drewN ?_ _) | (with_reducible refine Kd.C_drew ?_))); (case side2 => exact HC0.out); rintro e w4 ⟨v120, rfl, ho0, hb⟩; refine ⟨_, rfl, ?_⟩; have n0_ := Aside0.mk (Kd.R_lower (Kd.R_newM (M := fun k_ => (w.heap.size ≤ k_)) ho0 (below_size (by repeat (first | (with_reducible first | exact HB.out | apply below_alloc | apply pw_below_drewN | apply below_drew1) | exact HB.out))) (fun k_ h_ => h_)) (below_size (by repeat (first | (with_reducible first | exact HB.out | apply below_alloc | apply pw_below_drewN | apply below_drew1) | exact HB.out)))); have n1_ := Aside0.mk (below_step (by repeat (first | (with_reducible first | exact HB.out | apply below_alloc | apply pw_below_drewN | apply below_drew1) | exact HB.out)) hb); clear HB; have HO121 := n0_; have HB := n1_; clear n0_ n1_; (try clear hb); (try clear hb2); (try clear hk); (try clear hi); (try clear ho0); obtain ⟨Ao5, co5, eo5⟩ := Kd.R_slice HO121.out; subst eo5))
  go_loopg [6, 13] k (fun kq v6 v13 w' => ∃ (x5_1 : List Int) (x6_1 : Int) (x13_1 : Int), v6 = .int .u64 x6_1 ∧ v13 = .int .i64 x13_1 ∧ Aside0 (integer_magnitude_minus.l0 kq l1 x5_1 x6_1 (t119.length : Int) x13_1 = some r) ∧ Aside0 (kq ≤ k) ∧ Aside0 (Kd.R (Kd.int .u64) 198 w' w.heap.size (fun k_ => (w.heap.size ≤ k_)) (.slice Ao5 t119.length co5) x5_1) ∧ Aside0 (Below w.heap.size w w'))
  case atStart => exact ⟨(t119), (0), (0), (by first | rfl | (simp; done) | (simp [*]; done)), (by first | rfl | (simp; done) | (simp [*]; done)), H', ⟨Nat.le_refl _⟩, ⟨by (with_reducible repeat (first | apply Kd.R_alloc | apply Kd.R_drewN | apply Kd.R_drew)); exact Kd.R_mono HO121.out (fun _ hk => hk.1)⟩, ⟨by repeat (first | (with_reducible first | exact HB.out | apply below_alloc | apply pw_below_drewN | apply below_drew1) | exact HB.out)⟩⟩
  case round =>
    clear H'
    try clear c1
    try clear c2
    try clear p2
    obtain ⟨x5_1, x6_1, x13_1, rfl, rfl, HA, HK1, HO_5, HB⟩ := hrel
    have hl5_1 := (Kd.R_reads' HO_5.out).1
    rw [hl5_1] at HO_5
    (try simp only [hl5_1])
    cases gk with
    | zero => exact absurd HA.out (by simp [integer_magnitude_minus.l0])
    | succ k1 =>
      have H := HA.out
      clear HA
      simp only [integer_magnitude_minus.l0] at H
      by_cases c6 : x13_1 < (t119.length : Int)
      · rw [if_pos c6] at H
        have c6b0 : decide (x13_1 < (t119.length : Int)) = true := decide_eq_true c6
        clear c6
        by_cases c7 : x13_1 < (l1.length : Int)
        · rw [if_pos c7] at H
          have c7b0 : decide (x13_1 < (l1.length : Int)) = true := decide_eq_true c7
          clear c7
          by_cases c8 : 0 ≤ x13_1
          · rw [if_pos c8] at H
            have c8b0 : decide (0 ≤ x13_1) = true := decide_eq_true c8
            clear c8
            by_cases c9 : x13_1 < (x5_1.length : Int)
            · rw [if_pos c9] at H
              have c9b0 : decide (x13_1 < (x5_1.length : Int)) = true := decide_eq_true c9
              clear c9
              by_cases c10 : (rd x5_1 x13_1) < (IntKind.u64.wrap (x6_1 + (rd l1 x13_1)))
              · rw [if_pos c10] at H
                have c10b0 : decide ((rd x5_1 x13_1) < (IntKind.u64.wrap (x6_1 + (rd l1 x13_1)))) = true := decide_eq_true c10
                clear c10
                obtain ⟨y128, hy128⟩ : ∃ y_ : List Int, y_ = (x5_1.set (x13_1 : Int).toNat (IntKind.u64.wrap ((rd x5_1 x13_1) + 1000000000))) := ⟨_, rfl⟩
                replace H : (integer_magnitude_minus.l0 k1 l1 (y128.set (x13_1 : Int).toNat (IntKind.u64.wrap ((rd y128 x13_1) - (IntKind.u64.wrap (x6_1 + (rd l1 x13_1)))))) 1 (t119.length : Int) (wrap64 (x13_1 + 1))) = some r := by first | (rw [hy128]; with_reducible exact H) | (have H2_ := (Option.bind_some _ _).symm.trans H; rw [hy128]; with_reducible exact H2_) | (have H2_ := (Option.bind_some _ _).symm.trans H; with_reducible exact H2_) | with_reducible exact H | (rw [hy128]; exact H) | exact H
                have Ny128 := Aside0.mk hy128
                clear hy128
                obtain ⟨y130, hy130⟩ : ∃ y_ : List Int, y_ = (y128.set (x13_1 : Int).toNat (IntKind.u64.wrap ((rd y128 x13_1) - (IntKind.u64.wrap (x6_1 + (rd l1 x13_1)))))) := ⟨_, rfl⟩
                replace H : (integer_magnitude_minus.l0 k1 l1 y130 1 (t119.length : Int) (wrap64 (x13_1 + 1))) = some r := by first | (rw [hy130]; with_reducible exact H) | (have H2_ := (Option.bind_some _ _).symm.trans H; rw [hy130]; with_reducible exact H2_) | (have H2_ := (Option.bind_some _ _).symm.trans H; with_reducible exact H2_) | with_reducible exact H | (rw [hy130]; exact H) | exact H
                have Ny130 := Aside0.mk hy130
                clear hy130
                have H' := Aside0.mk H
                clear H
                have p125 : 0 ≤ (x13_1 : Int) := of_decide_eq_true (by first | (with_reducible assumption) | assumption)
                have q125 : x13_1 < (l1.length : Int) := of_decide_eq_true (by first | (with_reducible assumption) | assumption)
                obtain ⟨ad125, e125, hx125_0⟩ := Kd.at_int HR1.out x13_1 p125 q125
                cases e125
                replace hx125_0 := (HB.out.cell (World.block_lt_of_cell? w _ hx125_0)).trans hx125_0
                replace p125 := eq_true p125
                replace q125 := eq_true q125
                have p126 : 0 ≤ (x13_1 : Int) := of_decide_eq_true (by first | (with_reducible assumption) | assumption)
                have q126 : x13_1 < (x5_1.length : Int) := of_decide_eq_true (by first | (with_reducible assumption) | assumption)
                obtain ⟨ad126, e126, hx126_0⟩ := Kd.at_int (Kd.R_reads' HO_5.out).2.2 x13_1 p126 q126
                cases e126
                replace p126 := eq_true p126
                replace q126 := eq_true q126
                have p127 : 0 ≤ (x13_1 : Int) := of_decide_eq_true (by first | (with_reducible assumption) | assumption)
                have q127 : x13_1 < (x5_1.length : Int) := of_decide_eq_true (by first | (with_reducible assumption) | assumption)
                obtain ⟨ad127, e127, hx127_0⟩ := Kd.at_int (Kd.R_reads' HO_5.out).2.2 x13_1 p127 q127
                obtain rfl : ad126 = ad127 := (by injection e127)
                replace p127 := eq_true p127
                replace q127 := eq_true q127
                have p11 : 0 ≤ (x13_1 : Int) := of_decide_eq_true (by first | (with_reducible assumption) | assumption)
                have q11 : (x13_1 : Int) < ((x5_1.length : Int) : Int) := of_decide_eq_true (by first | (with_reducible assumption) | assumption)
                obtain ⟨go11, co11, eo11, gb11, gl11, cl11, HG11⟩ := Kd.R_form HO_5.out (by omega)
                (first | cases eo11 | (injection eo11 with ea_ en_ ec_; (first | subst ea_ | (injection ea_ with ea_; subst ea_)); subst ec_; clear en_))
                have GB11 := Aside0.mk gb11
                have GG11 := Aside0.mk HG11
                clear gb11 gl11 HG11
                (first | simp only [add_plain] at hx126_0 | skip)
                (first | simp only [add_plain] at hx127_0 | skip)
                obtain ⟨hx11_0, hf11_0⟩ := Kd.R_celln 0 HO_5.out (x13_1 : Int) p11 q11
                replace p11 := eq_true p11
                replace q11 := eq_true q11
                have HP13 := Kd.R_putg HO_5.out (x13_1 : Int) (IntKind.u64.wrap ((rd x5_1 x13_1) + 1000000000))
                go_wp2_with (first | ((with_reducible refine gate_store (t := 198) (p := 38) rfl ?_); refine store_event (t := 198) (p := 38) (v := ?vo_w14) (w1 := (wr.setCell ⟨go11, (x13_1 : Int).toNat, none⟩ (.int .u64 (IntKind.u64.wrap ((rd x5_1 x13_1) + 1000000000))))) ?hg ?ho ?hn ?hr ?_; (case ho => rfl); (case hg => rfl); (case hn => rfl); (case hr => first | (go_simp; done) | (go_simp; rfl)); intro w14 hw; have hg : wr.grownBy w14 (some go11) := (by rw [hw]; exact HP13.2); have hp_ : Kd.R (Kd.int .u64) 198 w14 w.heap.size (fun k_ => (w.heap.size ≤ k_)) (.slice (some ⟨go11, 0, none⟩) x5_1.length co5) y128 := (by rw [hw, Ny128.out]; exact HP13.1); clear HP13; have n0_ := Aside0.mk (hp_); have n1_ := Aside0.mk ((by rw [hw]; exact below_set (HB.out) GB11.out : Below w.heap.size w w14)); clear HO_5; clear HB; have HO_5 := n0_; have HB := n1_; clear n0_ n1_; clear hg hw hp_; have p129 : 0 ≤ (x13_1 : Int) := of_decide_eq_true (by first | (with_reducible assumption) | assumption); have q129 : x13_1 < (y128.length : Int) := (by have h_ : (x13_1 : Int) < ((x5_1.length : Int) : Int) := of_decide_eq_true (by first | (with_reducible assumption) | assumption); first | (have e_ := (Kd.R_reads' HO_5.out).1; omega) | simpa only [Ny128.out, List.length_set] using h_); have ql129 : ((x13_1 : Int) < ((x5_1.length : Int) : Int)) = True := eq_true (of_decide_eq_true (by first | (with_reducible assumption) | assumption)); obtain ⟨ad129, e129, hx129_0⟩ := Kd.at_int (Kd.R_reads' HO_5.out).2.2 x13_1 p129 q129; obtain rfl : (⟨go11, 0, none⟩ : Addr) = ad129 := (by injection e129); (first | simp only [add_plain] at hx129_0 | simp only [add_at] at hx129_0 | simp only [Addr.add, Nat.zero_add] at hx129_0 | skip); replace p129 := eq_true p129; replace q129 := eq_true q129; have p12 : 0 ≤ (x13_1 : Int) := of_decide_eq_true (by first | (with_reducible assumption) | assumption); have q12 : (x13_1 : Int) < ((x5_1.length : Int) : Int) := of_decide_eq_true (by first | (with_reducible assumption) | assumption); obtain ⟨hx12_0, hf12_0⟩ := Kd.R_celln 0 HO_5.out (x13_1 : Int) p12 q12; replace p12 := eq_true p12; replace q12 := eq_true q12; obtain ⟨hy15_, hz15_⟩ := Kd.R_celln 0 HO_5.out (x13_1 : Int) (of_decide_eq_true (by first | (with_reducible assumption) | assumption)) (of_decide_eq_true (by first | (with_reducible assumption) | assumption)); have HP15 := Kd.R_putg HO_5.out (x13_1 : Int) (IntKind.u64.wrap ((rd y128 x13_1) - (IntKind.u64.wrap (x6_1 + (rd l1 x13_1)))))) | ((with_reducible refine gate_store (t := 198) (p := 45) rfl ?_); refine store_event (t := 198) (p := 45) (v := ?vo_w16) (w1 := (w14.setCell ⟨go11, (x13_1 : Int).toNat, none⟩ (.int .u64 (IntKind.u64.wrap ((rd y128 x13_1) - (IntKind.u64.wrap (x6_1 + (rd l1 x13_1)))))))) ?hg ?ho ?hn ?hr ?_; (case ho => rfl); (case hg => rfl); (case hn => rfl); (case hr => first | (go_simp; done) | (go_simp; rfl)); intro w16 hw; have hg : w14.grownBy w16 (some go11) := (by rw [hw]; exact HP15.2); have hp_ : Kd.R (Kd.int .u64) 198 w16 w.heap.size (fun k_ => (w.heap.size ≤ k_)) (.slice (some ⟨go11, 0, none⟩) x5_1.length co5) y130 := (by rw [hw, Ny130.out]; exact HP15.1); clear HP15; have n0_ := Aside0.mk (hp_); have n1_ := Aside0.mk ((by rw [hw]; exact below_set (HB.out) GB11.out : Below w.heap.size w w16)); clear HO_5; clear HB; have HO_5 := n0_; have HB := n1_; clear n0_ n1_; clear hg hw hp_))
                (try simp only [← hl5_1])
                go_roundg k1
                case measure => have := HK1.out; omega
                case rel => exact ⟨(y130), (1), (wrap64 (x13_1 + 1)), (by first | rfl | (simp; done) | (simp [*]; done)), (by first | rfl | (simp; done) | (simp [*]; done)), H', ⟨by have := HK1.out; omega⟩, ⟨by (try simp only [hl5_1]); (with_reducible repeat (first | apply Kd.R_alloc | apply Kd.R_drewN | apply Kd.R_drew)); exact HO_5.out⟩, ⟨by repeat (first | (with_reducible first | exact HB.out | apply below_alloc | apply pw_below_drewN | apply below_drew1) | exact HB.out)⟩⟩
              · rw [if_neg c10] at H
                have c10b0 : decide ((rd x5_1 x13_1) < (IntKind.u64.wrap (x6_1 + (rd l1 x13_1)))) = false := decide_eq_false c10
                clear c10
                obtain ⟨y132, hy132⟩ : ∃ y_ : List Int, y_ = (x5_1.set (x13_1 : Int).toNat (IntKind.u64.wrap ((rd x5_1 x13_1) - (IntKind.u64.wrap (x6_1 + (rd l1 x13_1)))))) := ⟨_, rfl⟩
                replace H : (integer_magnitude_minus.l0 k1 l1 y132 0 (t119.length : Int) (wrap64 (x13_1 + 1))) = some r := by first | (rw [hy132]; with_reducible exact H) | (have H2_ := (Option.bind_some _ _).symm.trans H; rw [hy132]; with_reducible exact H2_) | (have H2_ := (Option.bind_some _ _).symm.trans H; with_reducible exact H2_) | with_reducible exact H | (rw [hy132]; exact H) | exact H
                have Ny132 := Aside0.mk hy132
                clear hy132
                have H' := Aside0.mk H
                clear H
                have p125 : 0 ≤ (x13_1 : Int) := of_decide_eq_true (by first | (with_reducible assumption) | assumption)
                have q125 : x13_1 < (l1.length : Int) := of_decide_eq_true (by first | (with_reducible assumption) | assumption)
                obtain ⟨ad125, e125, hx125_0⟩ := Kd.at_int HR1.out x13_1 p125 q125
                cases e125
                replace hx125_0 := (HB.out.cell (World.block_lt_of_cell? w _ hx125_0)).trans hx125_0
                replace p125 := eq_true p125
                replace q125 := eq_true q125
                have p126 : 0 ≤ (x13_1 : Int) := of_decide_eq_true (by first | (with_reducible assumption) | assumption)
                have q126 : x13_1 < (x5_1.length : Int) := of_decide_eq_true (by first | (with_reducible assumption) | assumption)
                obtain ⟨ad126, e126, hx126_0⟩ := Kd.at_int (Kd.R_reads' HO_5.out).2.2 x13_1 p126 q126
                cases e126
                replace p126 := eq_true p126
                replace q126 := eq_true q126
                have p131 : 0 ≤ (x13_1 : Int) := of_decide_eq_true (by first | (with_reducible assumption) | assumption)
                have q131 : x13_1 < (x5_1.length : Int) := of_decide_eq_true (by first | (with_reducible assumption) | assumption)
                obtain ⟨ad131, e131, hx131_0⟩ := Kd.at_int (Kd.R_reads' HO_5.out).2.2 x13_1 p131 q131
                obtain rfl : ad126 = ad131 := (by injection e131)
                replace p131 := eq_true p131
                replace q131 := eq_true q131
                have p17 : 0 ≤ (x13_1 : Int) := of_decide_eq_true (by first | (with_reducible assumption) | assumption)
                have q17 : (x13_1 : Int) < ((x5_1.length : Int) : Int) := of_decide_eq_true (by first | (with_reducible assumption) | assumption)
                obtain ⟨go17, co17, eo17, gb17, gl17, cl17, HG17⟩ := Kd.R_form HO_5.out (by omega)
                (first | cases eo17 | (injection eo17 with ea_ en_ ec_; (first | subst ea_ | (injection ea_ with ea_; subst ea_)); subst ec_; clear en_))
                have GB17 := Aside0.mk gb17
                have GG17 := Aside0.mk HG17
                clear gb17 gl17 HG17
                (first | simp only [add_plain] at hx126_0 | skip)
                (first | simp only [add_plain] at hx131_0 | skip)
                obtain ⟨hx17_0, hf17_0⟩ := Kd.R_celln 0 HO_5.out (x13_1 : Int) p17 q17
                replace p17 := eq_true p17
                replace q17 := eq_true q17
                have HP18 := Kd.R_putg HO_5.out (x13_1 : Int) (IntKind.u64.wrap ((rd x5_1 x13_1) - (IntKind.u64.wrap (x6_1 + (rd l1 x13_1)))))
                go_wp2_with (first | ((with_reducible refine gate_store (t := 198) (p := 45) rfl ?_); refine store_event (t := 198) (p := 45) (v := ?vo_w19) (w1 := (wr.setCell ⟨go17, (x13_1 : Int).toNat, none⟩ (.int .u64 (IntKind.u64.wrap ((rd x5_1 x13_1) - (IntKind.u64.wrap (x6_1 + (rd l1 x13_1)))))))) ?hg ?ho ?hn ?hr ?_; (case ho => rfl); (case hg => rfl); (case hn => rfl); (case hr => first | (go_simp; done) | (go_simp; rfl)); intro w19 hw; have hg : wr.grownBy w19 (some go17) := (by rw [hw]; exact HP18.2); have hp_ : Kd.R (Kd.int .u64) 198 w19 w.heap.size (fun k_ => (w.heap.size ≤ k_)) (.slice (some ⟨go17, 0, none⟩) x5_1.length co5) y132 := (by rw [hw, Ny132.out]; exact HP18.1); clear HP18; have n0_ := Aside0.mk (hp_); have n1_ := Aside0.mk ((by rw [hw]; exact below_set (HB.out) GB17.out : Below w.heap.size w w19)); clear HO_5; clear HB; have HO_5 := n0_; have HB := n1_; clear n0_ n1_; clear hg hw hp_))
                (try simp only [← hl5_1])
                go_roundg k1
                case measure => have := HK1.out; omega
                case rel => exact ⟨(y132), (0), (wrap64 (x13_1 + 1)), (by first | rfl | (simp; done) | (simp [*]; done)), (by first | rfl | (simp; done) | (simp [*]; done)), H', ⟨by have := HK1.out; omega⟩, ⟨by (try simp only [hl5_1]); (with_reducible repeat (first | apply Kd.R_alloc | apply Kd.R_drewN | apply Kd.R_drew)); exact HO_5.out⟩, ⟨by repeat (first | (with_reducible first | exact HB.out | apply below_alloc | apply pw_below_drewN | apply below_drew1) | exact HB.out)⟩⟩
            · rw [if_neg c9] at H
              exact absurd H (by simp)
          · rw [if_neg c8] at H
            exact absurd H (by simp)
        · rw [if_neg c7] at H
          have c7b0 : decide (x13_1 < (l1.length : Int)) = false := decide_eq_false c7
          clear c7
          by_cases c20 : 0 ≤ x13_1
          · rw [if_pos c20] at H
            have c20b0 : decide (0 ≤ x13_1) = true := decide_eq_true c20
            clear c20
            by_cases c21 : x13_1 < (x5_1.length : Int)
            · rw [if_pos c21] at H
              have c21b0 : decide (x13_1 < (x5_1.length : Int)) = true := decide_eq_true c21
              clear c21
              by_cases c22 : (rd x5_1 x13_1) < x6_1
              · rw [if_pos c22] at H
                have c22b0 : decide ((rd x5_1 x13_1) < x6_1) = true := decide_eq_true c22
                clear c22
                obtain ⟨y135, hy135⟩ : ∃ y_ : List Int, y_ = (x5_1.set (x13_1 : Int).toNat (IntKind.u64.wrap ((rd x5_1 x13_1) + 1000000000))) := ⟨_, rfl⟩
                replace H : (integer_magnitude_minus.l0 k1 l1 (y135.set (x13_1 : Int).toNat (IntKind.u64.wrap ((rd y135 x13_1) - x6_1))) 1 (t119.length : Int) (wrap64 (x13_1 + 1))) = some r := by first | (rw [hy135]; with_reducible exact H) | (have H2_ := (Option.bind_some _ _).symm.trans H; rw [hy135]; with_reducible exact H2_) | (have H2_ := (Option.bind_some _ _).symm.trans H; with_reducible exact H2_) | with_reducible exact H | (rw [hy135]; exact H) | exact H
                have Ny135 := Aside0.mk hy135
                clear hy135
                obtain ⟨y137, hy137⟩ : ∃ y_ : List Int, y_ = (y135.set (x13_1 : Int).toNat (IntKind.u64.wrap ((rd y135 x13_1) - x6_1))) := ⟨_, rfl⟩
                replace H : (integer_magnitude_minus.l0 k1 l1 y137 1 (t119.length : Int) (wrap64 (x13_1 + 1))) = some r := by first | (rw [hy137]; with_reducible exact H) | (have H2_ := (Option.bind_some _ _).symm.trans H; rw [hy137]; with_reducible exact H2_) | (have H2_ := (Option.bind_some _ _).symm.trans H; with_reducible exact H2_) | with_reducible exact H | (rw [hy137]; exact H) | exact H
                have Ny137 := Aside0.mk hy137
                clear hy137
                have H' := Aside0.mk H
                clear H
                have p133 : 0 ≤ (x13_1 : Int) := of_decide_eq_true (by first | (with_reducible assumption) | assumption)
                have q133 : x13_1 < (x5_1.length : Int) := of_decide_eq_true (by first | (with_reducible assumption) | assumption)
                obtain ⟨ad133, e133, hx133_0⟩ := Kd.at_int (Kd.R_reads' HO_5.out).2.2 x13_1 p133 q133
                cases e133
                replace p133 := eq_true p133
                replace q133 := eq_true q133
                have p134 : 0 ≤ (x13_1 : Int) := of_decide_eq_true (by first | (with_reducible assumption) | assumption)
                have q134 : x13_1 < (x5_1.length : Int) := of_decide_eq_true (by first | (with_reducible assumption) | assumption)
                obtain ⟨ad134, e134, hx134_0⟩ := Kd.at_int (Kd.R_reads' HO_5.out).2.2 x13_1 p134 q134
                obtain rfl : ad133 = ad134 := (by injection e134)
                replace p134 := eq_true p134
                replace q134 := eq_true q134
                have p23 : 0 ≤ (x13_1 : Int) := of_decide_eq_true (by first | (with_reducible assumption) | assumption)
                have q23 : (x13_1 : Int) < ((x5_1.length : Int) : Int) := of_decide_eq_true (by first | (with_reducible assumption) | assumption)
                obtain ⟨go23, co23, eo23, gb23, gl23, cl23, HG23⟩ := Kd.R_form HO_5.out (by omega)
                (first | cases eo23 | (injection eo23 with ea_ en_ ec_; (first | subst ea_ | (injection ea_ with ea_; subst ea_)); subst ec_; clear en_))
                have GB23 := Aside0.mk gb23
                have GG23 := Aside0.mk HG23
                clear gb23 gl23 HG23
                (first | simp only [add_plain] at hx133_0 | skip)
                (first | simp only [add_plain] at hx134_0 | skip)
                obtain ⟨hx23_0, hf23_0⟩ := Kd.R_celln 0 HO_5.out (x13_1 : Int) p23 q23
                replace p23 := eq_true p23
                replace q23 := eq_true q23
                have HP25 := Kd.R_putg HO_5.out (x13_1 : Int) (IntKind.u64.wrap ((rd x5_1 x13_1) + 1000000000))
                go_wp2_with (first | ((with_reducible refine gate_store (t := 198) (p := 38) rfl ?_); refine store_event (t := 198) (p := 38) (v := ?vo_w26) (w1 := (wr.setCell ⟨go23, (x13_1 : Int).toNat, none⟩ (.int .u64 (IntKind.u64.wrap ((rd x5_1 x13_1) + 1000000000))))) ?hg ?ho ?hn ?hr ?_; (case ho => rfl); (case hg => rfl); (case hn => rfl); (case hr => first | (go_simp; done) | (go_simp; rfl)); intro w26 hw; have hg : wr.grownBy w26 (some go23) := (by rw [hw]; exact HP25.2); have hp_ : Kd.R (Kd.int .u64) 198 w26 w.heap.size (fun k_ => (w.heap.size ≤ k_)) (.slice (some ⟨go23, 0, none⟩) x5_1.length co5) y135 := (by rw [hw, Ny135.out]; exact HP25.1); clear HP25; have n0_ := Aside0.mk (hp_); have n1_ := Aside0.mk ((by rw [hw]; exact below_set (HB.out) GB23.out : Below w.heap.size w w26)); clear HO_5; clear HB; have HO_5 := n0_; have HB := n1_; clear n0_ n1_; clear hg hw hp_; have p136 : 0 ≤ (x13_1 : Int) := of_decide_eq_true (by first | (with_reducible assumption) | assumption); have q136 : x13_1 < (y135.length : Int) := (by have h_ : (x13_1 : Int) < ((x5_1.length : Int) : Int) := of_decide_eq_true (by first | (with_reducible assumption) | assumption); first | (have e_ := (Kd.R_reads' HO_5.out).1; omega) | simpa only [Ny135.out, List.length_set] using h_); have ql136 : ((x13_1 : Int) < ((x5_1.length : Int) : Int)) = True := eq_true (of_decide_eq_true (by first | (with_reducible assumption) | assumption)); obtain ⟨ad136, e136, hx136_0⟩ := Kd.at_int (Kd.R_reads' HO_5.out).2.2 x13_1 p136 q136; obtain rfl : (⟨go23, 0, none⟩ : Addr) = ad136 := (by injection e136); (first | simp only [add_plain] at hx136_0 | simp only [add_at] at hx136_0 | simp only [Addr.add, Nat.zero_add] at hx136_0 | skip); replace p136 := eq_true p136; replace q136 := eq_true q136; have p24 : 0 ≤ (x13_1 : Int) := of_decide_eq_true (by first | (with_reducible assumption) | assumption); have q24 : (x13_1 : Int) < ((x5_1.length : Int) : Int) := of_decide_eq_true (by first | (with_reducible assumption) | assumption); obtain ⟨hx24_0, hf24_0⟩ := Kd.R_celln 0 HO_5.out (x13_1 : Int) p24 q24; replace p24 := eq_true p24; replace q24 := eq_true q24; obtain ⟨hy27_, hz27_⟩ := Kd.R_celln 0 HO_5.out (x13_1 : Int) (of_decide_eq_true (by first | (with_reducible assumption) | assumption)) (of_decide_eq_true (by first | (with_reducible assumption) | assumption)); have HP27 := Kd.R_putg HO_5.out (x13_1 : Int) (IntKind.u64.wrap ((rd y135 x13_1) - x6_1))) | ((with_reducible refine gate_store (t := 198) (p := 45) rfl ?_); refine store_event (t := 198) (p := 45) (v := ?vo_w28) (w1 := (w26.setCell ⟨go23, (x13_1 : Int).toNat, none⟩ (.int .u64 (IntKind.u64.wrap ((rd y135 x13_1) - x6_1))))) ?hg ?ho ?hn ?hr ?_; (case ho => rfl); (case hg => rfl); (case hn => rfl); (case hr => first | (go_simp; done) | (go_simp; rfl)); intro w28 hw; have hg : w26.grownBy w28 (some go23) := (by rw [hw]; exact HP27.2); have hp_ : Kd.R (Kd.int .u64) 198 w28 w.heap.size (fun k_ => (w.heap.size ≤ k_)) (.slice (some ⟨go23, 0, none⟩) x5_1.length co5) y137 := (by rw [hw, Ny137.out]; exact HP27.1); clear HP27; have n0_ := Aside0.mk (hp_); have n1_ := Aside0.mk ((by rw [hw]; exact below_set (HB.out) GB23.out : Below w.heap.size w w28)); clear HO_5; clear HB; have HO_5 := n0_; have HB := n1_; clear n0_ n1_; clear hg hw hp_))
                (try simp only [← hl5_1])
                go_roundg k1
                case measure => have := HK1.out; omega
                case rel => exact ⟨(y137), (1), (wrap64 (x13_1 + 1)), (by first | rfl | (simp; done) | (simp [*]; done)), (by first | rfl | (simp; done) | (simp [*]; done)), H', ⟨by have := HK1.out; omega⟩, ⟨by (try simp only [hl5_1]); (with_reducible repeat (first | apply Kd.R_alloc | apply Kd.R_drewN | apply Kd.R_drew)); exact HO_5.out⟩, ⟨by repeat (first | (with_reducible first | exact HB.out | apply below_alloc | apply pw_below_drewN | apply below_drew1) | exact HB.out)⟩⟩
              · rw [if_neg c22] at H
                have c22b0 : decide ((rd x5_1 x13_1) < x6_1) = false := decide_eq_false c22
                clear c22
                obtain ⟨y139, hy139⟩ : ∃ y_ : List Int, y_ = (x5_1.set (x13_1 : Int).toNat (IntKind.u64.wrap ((rd x5_1 x13_1) - x6_1))) := ⟨_, rfl⟩
                replace H : (integer_magnitude_minus.l0 k1 l1 y139 0 (t119.length : Int) (wrap64 (x13_1 + 1))) = some r := by first | (rw [hy139]; with_reducible exact H) | (have H2_ := (Option.bind_some _ _).symm.trans H; rw [hy139]; with_reducible exact H2_) | (have H2_ := (Option.bind_some _ _).symm.trans H; with_reducible exact H2_) | with_reducible exact H | (rw [hy139]; exact H) | exact H
                have Ny139 := Aside0.mk hy139
                clear hy139
                have H' := Aside0.mk H
                clear H
                have p133 : 0 ≤ (x13_1 : Int) := of_decide_eq_true (by first | (with_reducible assumption) | assumption)
                have q133 : x13_1 < (x5_1.length : Int) := of_decide_eq_true (by first | (with_reducible assumption) | assumption)
                obtain ⟨ad133, e133, hx133_0⟩ := Kd.at_int (Kd.R_reads' HO_5.out).2.2 x13_1 p133 q133
                cases e133
                replace p133 := eq_true p133
                replace q133 := eq_true q133
                have p138 : 0 ≤ (x13_1 : Int) := of_decide_eq_true (by first | (with_reducible assumption) | assumption)
                have q138 : x13_1 < (x5_1.length : Int) := of_decide_eq_true (by first | (with_reducible assumption) | assumption)
                obtain ⟨ad138, e138, hx138_0⟩ := Kd.at_int (Kd.R_reads' HO_5.out).2.2 x13_1 p138 q138
                obtain rfl : ad133 = ad138 := (by injection e138)
                replace p138 := eq_true p138
                replace q138 := eq_true q138
                have p29 : 0 ≤ (x13_1 : Int) := of_decide_eq_true (by first | (with_reducible assumption) | assumption)
                have q29 : (x13_1 : Int) < ((x5_1.length : Int) : Int) := of_decide_eq_true (by first | (with_reducible assumption) | assumption)
                obtain ⟨go29, co29, eo29, gb29, gl29, cl29, HG29⟩ := Kd.R_form HO_5.out (by omega)
                (first | cases eo29 | (injection eo29 with ea_ en_ ec_; (first | subst ea_ | (injection ea_ with ea_; subst ea_)); subst ec_; clear en_))
                have GB29 := Aside0.mk gb29
                have GG29 := Aside0.mk HG29
                clear gb29 gl29 HG29
                (first | simp only [add_plain] at hx133_0 | skip)
                (first | simp only [add_plain] at hx138_0 | skip)
                obtain ⟨hx29_0, hf29_0⟩ := Kd.R_celln 0 HO_5.out (x13_1 : Int) p29 q29
                replace p29 := eq_true p29
                replace q29 := eq_true q29
                have HP30 := Kd.R_putg HO_5.out (x13_1 : Int) (IntKind.u64.wrap ((rd x5_1 x13_1) - x6_1))
                go_wp2_with (first | ((with_reducible refine gate_store (t := 198) (p := 45) rfl ?_); refine store_event (t := 198) (p := 45) (v := ?vo_w31) (w1 := (wr.setCell ⟨go29, (x13_1 : Int).toNat, none⟩ (.int .u64 (IntKind.u64.wrap ((rd x5_1 x13_1) - x6_1))))) ?hg ?ho ?hn ?hr ?_; (case ho => rfl); (case hg => rfl); (case hn => rfl); (case hr => first | (go_simp; done) | (go_simp; rfl)); intro w31 hw; have hg : wr.grownBy w31 (some go29) := (by rw [hw]; exact HP30.2); have hp_ : Kd.R (Kd.int .u64) 198 w31 w.heap.size (fun k_ => (w.heap.size ≤ k_)) (.slice (some ⟨go29, 0, none⟩) x5_1.length co5) y139 := (by rw [hw, Ny139.out]; exact HP30.1); clear HP30; have n0_ := Aside0.mk (hp_); have n1_ := Aside0.mk ((by rw [hw]; exact below_set (HB.out) GB29.out : Below w.heap.size w w31)); clear HO_5; clear HB; have HO_5 := n0_; have HB := n1_; clear n0_ n1_; clear hg hw hp_))
                (try simp only [← hl5_1])
                go_roundg k1
                case measure => have := HK1.out; omega
                case rel => exact ⟨(y139), (0), (wrap64 (x13_1 + 1)), (by first | rfl | (simp; done) | (simp [*]; done)), (by first | rfl | (simp; done) | (simp [*]; done)), H', ⟨by have := HK1.out; omega⟩, ⟨by (try simp only [hl5_1]); (with_reducible repeat (first | apply Kd.R_alloc | apply Kd.R_drewN | apply Kd.R_drew)); exact HO_5.out⟩, ⟨by repeat (first | (with_reducible first | exact HB.out | apply below_alloc | apply pw_below_drewN | apply below_drew1) | exact HB.out)⟩⟩
            · rw [if_neg c21] at H
              exact absurd H (by simp)
          · rw [if_neg c20] at H
            exact absurd H (by simp)
      · rw [if_neg c6] at H
        have c6b0 : decide (x13_1 < (t119.length : Int)) = false := decide_eq_false c6
        clear c6
        rw [hl5_1] at c6b0
        replace H := Option.bind_eq_some_iff.mp H
        obtain ⟨t122, A320, H⟩ := H
        replace H : (some t122) = some r := H
        have A32 := Aside0.mk A320
        clear A320
        obtain rfl := Option.some.inj H
        go_wp2_with (first | ((with_reducible refine gate_callee (f := 193) rfl ?_); refine goesL_ (some 48) rfl rfl Tryz.func193 (by kernel_rfl) rfl #[.slice Ao5 x5_1.length co5] rfl (by (try simp only [List.map_toArray, List.map_cons, List.map_nil]); first | done | rfl | (simp only [List.length_drop, List.length_take]; rfl)) ?_; (with_reducible refine (integer_magnitude_cut.calls k1 (fun k_ => some k_ = (.slice Ao5 x5_1.length co5 : Value).ownBlock) _ _ x5_1 t122 _ ?side1 A32.out).mono ?_); (case side1 => exact Kd.R_V (Kd.R_tight rfl (HO_5.out))); rintro e w33 ⟨v123, rfl, ho0, hb⟩; refine ⟨_, rfl, ?_⟩; have n0_ := Aside0.mk (Kd.R_below (by (with_reducible repeat (first | apply Kd.R_alloc | apply Kd.R_drewN | apply Kd.R_drew)); exact HO_5.out) hb); have n1_ := Aside0.mk (Kd.V_lower (Kd.V_mono (ok' := fun k_ => (w.heap.size ≤ k_)) ho0 (fun k_ hk_ => Or.elim hk_ (fun hs_ => ((HO_5.out).1 k_ hs_.symm)) (fun hn_ => (Nat.le_trans (below_size (by repeat (first | (with_reducible first | exact HB.out | apply below_alloc | apply pw_below_drewN | apply below_drew1) | exact HB.out))) hn_)))) (below_size (by repeat (first | (with_reducible first | exact HB.out | apply below_alloc | apply pw_below_drewN | apply below_drew1) | exact HB.out)))); have n2_ := Aside0.mk (below_step (by repeat (first | (with_reducible first | exact HB.out | apply below_alloc | apply pw_below_drewN | apply below_drew1) | exact HB.out)) hb); clear HO_5; clear HB; have HO_5 := n0_; have HO124 := n1_; have HB := n2_; clear n0_ n1_ n2_; (try clear hb); (try clear hb2); (try clear hk); (try clear hi); (try clear ho0)))
        go_ret
        exact ⟨_, by first | rfl | (simp [errW_none, errW_some] <;> rfl) | (simp [*, errW_none, errW_some] <;> rfl), by (with_reducible repeat (first | apply Kd.V_alloc | apply Kd.V_drewN | apply Kd.V_drew)); exact HO124.out, by repeat (first | (with_reducible first | exact HB.out | apply below_alloc | apply pw_below_drewN | apply below_drew1) | exact HB.out)⟩
end Go.Proofs.YtblcgcibkikgeaaGreatDoor.I
end
