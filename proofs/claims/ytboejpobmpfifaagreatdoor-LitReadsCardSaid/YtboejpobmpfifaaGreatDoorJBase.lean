/-
 The table and the primitive functions together; that they are the program's. Condition: what the two packages' tables hold.
-/
import Derived.Test.YtboejpobmpfifaaGreatDoorJTab
import Derived.Test.YtboejpobmpfifaaGreatDoorShelf
import Derived.Lib.SmallJoins
set_option linter.unusedSimpArgs false
set_option linter.unusedVariables false
namespace Go.Proofs.YtboejpobmpfifaaGreatDoor.Eng
open Go Go.RowKit
def Au : List V → St → Option (V × St)
 | [.str b], s => some (.tup [.int .i32 (Lib.decodeGo ⟨b.toArray⟩).1, .int .i64 (Lib.decodeGo ⟨b.toArray⟩).2], s)
 | _, _ => none
def vZ : List V → St → Option (V × St)
 | [.str b, .int .u8 c], s => some (.int .i64 (Lib.indexByte b c.toNat.toUInt8), s)
 | _, _ => none
def qN : List V → St → Option (V × St)
 | [.str b, .int .i64 10, .int .i64 64], s =>
  if b.length ≤ 281474976710656 then
   match Lib.parseIntB 64 b with
   | .ok v => some (.tup [.int .i64 v, .nilI], s)
   | Lib.NumEnd.syntax => some (.tup [.int .i64 0, .ifc 341 .junk], s)
   | .range => some (.tup [.int .i64 (Lib.intSat 64 b), .ifc 341 .junk], s)
  else none
 | _, _ => none
def rQ : List V → St → Option (V × St)
 | [.str b, .str c], s => if b.length ≤ 1000000000 then some (.int .i64 (Lib.index b c), s) else none
 | _, _ => none
def rR : List V → St → Option (V × St)
 | [.str b, .str o, .str n], s => if b.length ≤ 1000000000 ∧ 1 ≤ o.length ∧ n.length ≤ 10000 then some (.str (Lib.replaceAll b o n), s) else none
 | _, _ => none
def rS : List V → St → Option (V × St)
 | [.str b, .str c], s => if c.length ≤ 1000000000 ∧ c.all (fun x => decide (x.toNat < 128)) = true then some (.str (Lib.trimLeftS b c), s) else none
 | _, _ => none
def mF : List V → Option (List (List UInt8))
 | [] => some []
 | .str l :: vs => (mF vs).map (l :: ·)
 | _ => none
def mU : List V → St → Option (V × St)
 | [.sl _ xs, .str sep], s => (mF xs).bind fun ls => if ls.length ≤ 1000000000 ∧ (Lib.join ls sep).length ≤ 140737488355328 then some (.str (Lib.join ls sep), s) else none
 | [.msl id 1 off len, .str sep], s =>
  match s.obs[id]? with
  | some (.arr _ cs) => (mF ((cs.drop off).take len)).bind fun ls => if ls.length = len ∧ ls.length ≤ 1000000000 ∧ (Lib.join ls sep).length ≤ 140737488355328 then some (.str (Lib.join ls sep), s) else none
  | _ => none
 | _, _ => none
def Kc : FuncId → Option (List V → St → Option (V × St))
 | 256 => some vZ
 | 273 => some qN
 | 240 => some Au
 | 227 => some Dd
 | 322 => some rQ
 | 325 => some rR
 | 356 => some rS
 | 79 => some mU
 | _ => none
def G : Gp := ⟨tab, Kc⟩
structure Tabs (w : World) : Prop where
 pow : Lib.TabIs Tryz.prog w "internal/strconv.uint64pow10" .u64 Lib.pow10Tab
 utf : Lib.Utf8Tabs 1 2 w
 mx : ∃ m, w.cell? ⟨0, 0, none⟩ = some (.int .i64 m)
 syn : ∃ tp p, w.cell? ⟨4, 0, none⟩ = some (.iface tp p)
 rng : ∃ tp p, w.cell? ⟨5, 0, none⟩ = some (.iface tp p)
theorem Tabs.below {B : Nat} {w0 w : World} (h : Tabs w0) (hb : Below B w0 w) (hB : 8 ≤ B) : Tabs w := by
 have hc : ∀ b o, b < 8 → w.cell? ⟨b, o, none⟩ = w0.cell? ⟨b, o, none⟩ := fun b o hlt => World.cell?_of_block (w := w0) (a := ⟨b, o, none⟩) (hb.block b (by omega))
 refine ⟨?_, ⟨?_, ?_⟩, by rw [hc 0 0 (by omega)]; exact h.mx, by rw [hc 4 0 (by omega)]; exact h.syn, by rw [hc 5 0 (by omega)]; exact h.rng⟩
 ·have := h.pow
  unfold Lib.TabIs at this ⊢
  rw [← this]
  unfold World.var?
  have hg : Tryz.prog.globalNamed "internal/strconv.uint64pow10" = some 3 := by kernel_rfl
  rw [hg]
  simp only [Option.bind_some]
  rw [hb.block 3 (by omega)]
 ·intro c hlt
  rw [hc 1 c (by omega)]
  exact h.utf.1 c hlt
 ·intro i hi
  rw [hc 2 _ (by omega), hc 2 _ (by omega)]
  exact h.utf.2 i hi
theorem Dc {B : Nat} {w0 : World} (hT : Tabs w0) (hB : 8 ≤ B) {args : List V} {s : St} {r : V × St} (h : Au args s = some r) : Qu Tryz.prog B w0 240 args s r := by
 unfold Au at h
 split at h
 ·rename_i b
  cases h
  refine eQ (enters_of Tryz.func240 (by kernel_rfl) rfl) (fun S cargs hst hI hargs => ⟨.tuple #[.int .i32 (Lib.decodeGo ⟨b.toArray⟩).1, .int .i64 (Lib.decodeGo ⟨b.toArray⟩).2],
   .tup _ [.int .i32 (Lib.decodeGo ⟨b.toArray⟩).1, .int .i64 (Lib.decodeGo ⟨b.toArray⟩).2] (.cons _ _ _ _ (.int _ _) (.cons _ _ _ _ (.int _ _) .nil)), ?_⟩)
  cases hargs with
  | cons _ c1 _ _ h1 hl =>
   cases hl
   rw [h1.str_inv]
   refine (Tryz.utf8_DecodeRuneInString _ S.w (hT.below hI.below hB).utf).mono ?_
   rintro e w' ⟨rfl, hb⟩
   exact ⟨rfl, hb⟩
 ·cases h
theorem FB {B : Nat} {w0 : World} {args : List V} {s : St} {r : V × St} (h : vZ args s = some r) : Qu Tryz.prog B w0 256 args s r := by
 unfold vZ at h
 split at h
 ·rename_i b c
  cases h
  refine eQ (enters_of Tryz.func256 (by kernel_rfl) rfl) (fun S cargs hst hI hargs => ⟨.int .i64 (Lib.indexByte b c.toNat.toUInt8), .int _ _, ?_⟩)
  cases hargs with
  | cons _ c1 _ _ h1 hl =>
   cases hl with
   | cons _ c2 _ _ h2 hl =>
    cases hl
    rw [h1.str_inv, h2.int_inv]
    refine (Tryz.strings_IndexByte _ _ S.w).mono ?_
    rintro e w' ⟨rfl, rfl⟩
    exact ⟨rfl, Below.refl _ _⟩
 ·cases h
theorem kH {f : FuncId} {args : List V} {s : St} {v : V} {B : Nat} {w0 : World} (he : ∀ args w, (callFunc f args).run Tryz.prog w = .ok (.enter f args) w)
  (h : ∀ (S : Sit) (cargs : List Value), S.st = s → Inv B w0 S → RelL S args cargs → Calls Tryz.prog f cargs.toArray S.w fun e w' => ∃ c, e = .returned c ∧ (∀ S' : Sit, Rel S' v c) ∧ Below S.w.heap.size S.w w') :
  Qu Tryz.prog B w0 f args s (v, s) := by
 intro S cargs hst hI hargs
 left
 refine ⟨he _ _, (h S cargs hst hI hargs).mono ?_⟩
 rintro e w' ⟨c, rfl, hc, hb⟩
 exact ⟨c, S.later w', rfl, rfl, hst, hI.later hb, Ext.later hI hb, hc _⟩
theorem FD {B : Nat} {w0 : World} (hT : Tabs w0) (hB : 8 ≤ B) {args : List V} {s : St} {r : V × St} (h : qN args s = some r) : Qu Tryz.prog B w0 273 args s r := by
 have tup2 : ∀ (S' : Sit) (n : Int) (v : V) (c : Value), Rel S' v c → Rel S' (.tup [.int .i64 n, v]) (.tuple #[.int .i64 n, c]) :=
  fun S' n v c hv => .tup _ [.int .i64 n, c] (.cons _ _ _ _ (.int _ _) (.cons _ _ _ _ hv .nil))
 unfold qN at h
 split at h
 ·rename_i b
  split at h
  ·rename_i hlen
   have hargs3 : ∀ (S : Sit) (cargs : List Value), RelL S [.str b, .int .i64 10, .int .i64 64] cargs → cargs = [.string ⟨b.toArray⟩, .int .i64 10, .int .i64 64] := by
    intro S cargs hl
    cases hl with
    | cons _ c1 _ _ h1 hl =>
     cases hl with
     | cons _ c2 _ _ h2 hl =>
      cases hl with
      | cons _ c3 _ _ h3 hl =>
       cases hl
       rw [h1.str_inv, h2.int_inv, h3.int_inv]
   have hsz : (⟨b.toArray⟩ : ByteArray).size = b.length := by simp [ByteArray.size]
   split at h
   ·rename_i v hv
    cases h
    refine kH (enters_of Tryz.func273 (by kernel_rfl) rfl) (fun S cargs hst hI hargs => ?_)
    rw [hargs3 S cargs hargs]
    refine (Tryz.strconv_ParseInt_10_at64_ok ⟨b.toArray⟩ (by rw [hsz]; omega) v (by simpa using hv) S.w).mono ?_
    rintro e w' ⟨rfl, hw⟩
    refine ⟨_, rfl, fun S' => tup2 S' v _ _ .nilI, ?_⟩
    rcases hw with rfl | ⟨t, rfl⟩
    ·exact Below.refl _ _
    ·exact Joins.below_bytesWorld _ _ _ _ (Nat.le_refl _)
   ·rename_i hv
    cases h
    refine kH (enters_of Tryz.func273 (by kernel_rfl) rfl) (fun S cargs hst hI hargs => ?_)
    rw [hargs3 S cargs hargs]
    obtain ⟨tp, p, hp⟩ := (hT.below hI.below hB).syn
    refine (Tryz.strconv_ParseInt_10_at64_syntax ⟨b.toArray⟩ (by rw [hsz]; exact hlen) (by simpa using hv) _ S.w hp (.inr ⟨_, _, rfl⟩)).mono ?_
    rintro e w' ⟨N, rfl, _, _, hb⟩
    exact ⟨_, rfl, fun S' => tup2 S' 0 _ _ (.ifc _ _ _ (.junk _)), hb⟩
   ·rename_i hv
    cases h
    refine kH (enters_of Tryz.func273 (by kernel_rfl) rfl) (fun S cargs hst hI hargs => ?_)
    rw [hargs3 S cargs hargs]
    obtain ⟨tp, p, hp⟩ := (hT.below hI.below hB).rng
    refine (Tryz.strconv_ParseInt_10_at64_range ⟨b.toArray⟩ (by rw [hsz]; exact hlen) (by simpa using hv) _ S.w hp (.inr ⟨_, _, rfl⟩)).mono ?_
    rintro e w' ⟨N, rfl, _, _, hb⟩
    exact ⟨_, rfl, fun S' => tup2 S' _ _ _ (.ifc _ _ _ (.junk _)), hb⟩
  ·cases h
 ·cases h
theorem De {B : Nat} {w0 : World} (hT : Tabs w0) (hB : 8 ≤ B) {args : List V} {s : St} {r : V × St} (h : rQ args s = some r) : Qu Tryz.prog B w0 322 args s r := by
 unfold rQ at h
 split at h
 ·rename_i b c
  split at h
  ·rename_i hb
   cases h
   refine eQ (enters_of Tryz.func322 (by kernel_rfl) rfl) (fun S cargs hst hI hargs => ⟨.int .i64 (Lib.index b c), .int _ _, ?_⟩)
   cases hargs with
   | cons _ c1 _ _ h1 hl =>
    cases hl with
    | cons _ c2 _ _ h2 hl =>
     cases hl
     rw [h1.str_inv, h2.str_inv]
     obtain ⟨m, hm⟩ := (hT.below hI.below hB).mx
     have hs : (⟨b.toArray⟩ : ByteArray).size < 4294967281 := by show b.toArray.size < _; simp; omega
     refine (Tryz.strings_Index _ _ m S.w hs hm).mono ?_
     rintro e w' ⟨rfl, rfl⟩
     exact ⟨rfl, Below.refl _ _⟩
  ·cases h
 ·cases h
theorem Df {B : Nat} {w0 : World} (hT : Tabs w0) (hB : 8 ≤ B) {args : List V} {s : St} {r : V × St} (h : rR args s = some r) : Qu Tryz.prog B w0 325 args s r := by
 unfold rR at h
 split at h
 ·rename_i b o n
  split at h
  ·rename_i hb
   obtain ⟨hb, ho, hn⟩ := hb
   cases h
   refine eQ (enters_of Tryz.func325 (by kernel_rfl) rfl) (fun S cargs hst hI hargs => ⟨.string ⟨(Lib.replaceAll b o n).toArray⟩, .str _, ?_⟩)
   cases hargs with
   | cons _ c1 _ _ h1 hl =>
    cases hl with
    | cons _ c2 _ _ h2 hl =>
     cases hl with
     | cons _ c3 _ _ h3 hl =>
      cases hl
      rw [h1.str_inv, h2.str_inv, h3.str_inv]
      obtain ⟨m, hm⟩ := (hT.below hI.below hB).mx
      have e1 : (⟨b.toArray⟩ : ByteArray).size = b.length := by show b.toArray.size = _; simp
      have e2 : (⟨o.toArray⟩ : ByteArray).size = o.length := by show o.toArray.size = _; simp
      have e3 : (⟨n.toArray⟩ : ByteArray).size = n.length := by show n.toArray.size = _; simp
      have hc := Lib.countB_le ⟨o.toArray⟩ (by rw [e2]; exact ho) _ ⟨b.toArray⟩ (Nat.le_refl _)
      rw [e1] at hc
      have hlen : (⟨b.toArray⟩ : ByteArray).size + Lib.countB ⟨b.toArray⟩ ⟨o.toArray⟩ * (⟨n.toArray⟩ : ByteArray).size ≤ 140737488355328 := by
       rw [e1, e3]
       have := Nat.mul_le_mul hc hn
       omega
      refine (Tryz.strings_ReplaceAll _ _ _ m S.w (by rw [e1]; omega) hm (by rw [e2]; exact ho) hlen).mono ?_
      rintro e w' ⟨rfl, hbl⟩
      exact ⟨rfl, hbl⟩
  ·cases h
 ·cases h
theorem BE {B : Nat} {w0 : World} {args : List V} {s : St} {r : V × St} (h : rS args s = some r) : Qu Tryz.prog B w0 356 args s r := by
 unfold rS at h
 split at h
 ·rename_i b c
  split at h
  ·rename_i hb
   obtain ⟨hb, ha⟩ := hb
   cases h
   refine eQ (enters_of Tryz.func356 (by kernel_rfl) rfl) (fun S cargs hst hI hargs => ⟨.string ⟨(Lib.trimLeftS b c).toArray⟩, .str _, ?_⟩)
   cases hargs with
   | cons _ c1 _ _ h1 hl =>
    cases hl with
    | cons _ c2 _ _ h2 hl =>
     cases hl
     rw [h1.str_inv, h2.str_inv]
     have hs : (⟨c.toArray⟩ : ByteArray).size < 4294967281 := by show c.toArray.size < _; simp; omega
     refine (Tryz.strings_TrimLeft _ _ S.w hs (fun j x hx => ?_)).mono ?_
     ·have := List.all_eq_true.1 ha x (List.mem_of_getElem? (by simpa using hx))
      simpa using this
     rintro e w' ⟨rfl, hbl⟩
     exact ⟨rfl, hbl⟩
  ·cases h
 ·cases h
theorem tC : ∀ (xs : List V) (ls : List (List UInt8)), mF xs = some ls → xs = ls.map V.str
 | [], ls, h => by simp [mF] at h; subst h; rfl
 | .str l :: vs, ls, h => by
  simp only [mF, Option.map_eq_some_iff] at h
  obtain ⟨m, hm, rfl⟩ := h
  rw [tC vs m hm]
  rfl
 | .junk :: _, _, h | .bool _ :: _, _, h | .int _ _ :: _, _, h | .nilF :: _, _, h | .nilI :: _, _, h | .pnil :: _, _, h | .mnil :: _, _, h | .fn _ _ _ :: _, _, h | .sl _ _ :: _, _, h | .msl _ _ _ _ :: _, _, h
 | .agg _ :: _, _, h | .tup _ :: _, _, h | .ptr _ _ :: _, _, h | .ept _ :: _, _, h | .map _ :: _, _, h | .itr _ :: _, _, h | .ifc _ _ :: _, _, h | .dat _ _ :: _, _, h | .slx _ _ _ :: _, _, h | .spp _ _ _ :: _, _, h | .epz _ _ _ _ :: _, _, h => by simp [mF] at h
theorem yS {S : Sit} {b : Nat} : ∀ (ls : List (List UInt8)) (off : Nat), RelC S (ls.map V.str) b off → ∀ (j : Nat) x, ls[j]? = some x → S.w.cell? ⟨b, off + j, none⟩ = some (.string ⟨x.toArray⟩)
 | [], _, _, j, x, h => by simp at h
 | l :: ls, off, .cons _ c _ _ _ _ hc _ hr hk, j, x, h => by
  cases j with
  | zero => simp at h; subst h; rw [hr.str_inv] at hc; exact hc
  | succ j =>
   have := yS ls (off + 1) hk j x (by simpa using h)
   rw [show off + (j + 1) = off + 1 + j by omega]
   exact this
theorem GZ (ls : List (List UInt8)) : (ls.map V.str).flatMap V.cells = ls.map V.str := by
 induction ls with
 | nil => rfl
 | cons l ls ih => simp [List.flatMap_cons, ih, V.cells]
theorem vO {w : World} (ls : List (List UInt8)) (sep : List UInt8) (b off cap : Nat) (hc : ∀ (j : Nat) x, ls[j]? = some x → w.cell? ⟨b, off + j, none⟩ = some (.string ⟨x.toArray⟩)) (hcap : ls.length ≤ cap) (h1 : ls.length ≤ 1000000000) (h2 : (Lib.join ls sep).length ≤ 140737488355328) :
  Calls Tryz.prog 79 #[.slice (some ⟨b, off, none⟩) ls.length cap, .string ⟨sep.toArray⟩] w fun e w' => e = .returned (.string ⟨(Lib.join ls sep).toArray⟩) ∧ Below w.heap.size w w' := by
 by_cases hn : ls = []
 ·subst hn
  refine (Tryz.strings_Join_none _ _ _ w).mono ?_
  rintro e w' ⟨rfl, rfl⟩
  exact ⟨rfl, Below.refl _ _⟩
 ·obtain ⟨l, t, rfl⟩ := List.exists_cons_of_ne_nil hn
  have hb : b < w.heap.size := World.block_lt_of_cell? (a := ⟨b, off + 0, none⟩) _ (hc 0 l rfl)
  have em : ((l :: t).map fun x : List UInt8 => (⟨x.toArray⟩ : ByteArray)).map (·.data.toList) = l :: t := by
   rw [List.map_map]
   conv => rhs; rw [← List.map_id (l :: t)]
   exact List.map_congr_left fun x _ => by simp
  have es : (⟨sep.toArray⟩ : ByteArray).data.toList = sep := by simp
  have := Tryz.strings_Join b off cap ((l :: t).map fun x => ⟨x.toArray⟩) ⟨sep.toArray⟩ w (fun j x hj => by
   rw [List.getElem?_map, Option.map_eq_some_iff] at hj
   obtain ⟨y, hy, rfl⟩ := hj
   exact hc j y hy) hb (by rw [List.length_map]; omega) (by rw [List.length_map]; exact hcap) (by rw [em, es]; exact h2)
  rw [em, es, List.length_map] at this
  exact this
theorem BD {B : Nat} {w0 : World} {args : List V} {s : St} {r : V × St} (h : mU args s = some r) : Qu Tryz.prog B w0 79 args s r := by
 unfold mU at h
 split at h
 ·rename_i o xs sep
  rw [Option.bind_eq_some_iff] at h
  obtain ⟨ls, hls, h⟩ := h
  split at h
  ·rename_i hc
   cases h
   obtain rfl := tC _ _ hls
   refine eQ (enters_of Tryz.func79 (by kernel_rfl) rfl) (fun S cargs hst hI hargs => ⟨.string ⟨(Lib.join ls sep).toArray⟩, .str _, ?_⟩)
   cases hargs with
   | cons _ c1 _ _ h1 hl =>
    cases hl with
    | cons _ c2 _ _ h2 hl =>
     cases hl
     rw [h2.str_inv]
     have none_ : ∀ (a : Option Addr) (c : Nat), ls.map V.str = [] → Calls Tryz.prog 79 #[.slice a 0 c, .string ⟨sep.toArray⟩] S.w fun e w' => e = .returned (.string ⟨(Lib.join ls sep).toArray⟩) ∧ Below S.w.heap.size S.w w' := by
      intro a c hn
      have : ls = [] := by simpa using hn
      subst this
      refine (Tryz.strings_Join_none a c ⟨sep.toArray⟩ S.w).mono ?_
      rintro e w' ⟨rfl, rfl⟩
      exact ⟨rfl, Below.refl _ _⟩
     generalize hX : ls.map V.str = X at h1 none_
     cases h1 with
     | slNil => exact none_ _ _ rfl
     | slNo => exact none_ _ _ rfl
     | slNew a => exact none_ _ _ rfl
     | slEmp a => exact none_ _ _ rfl
     | slBuf i hi => exact none_ _ _ rfl
     | slAt _ _ b off cap sz q1 q2 q3 q4 =>
      subst hX
      rw [GZ] at q3
      rw [List.length_map] at q1 ⊢
      exact vO ls sep b off cap (yS ls off q3) q1 hc.1 hc.2
  ·cases h
 ·rename_i id off len sep
  split at h
  ·rename_i t cs hob
   rw [Option.bind_eq_some_iff] at h
   obtain ⟨ls, hls, h⟩ := h
   split at h
   ·rename_i hc
    cases h
    have hls' := tC _ _ hls
    refine eQ (enters_of Tryz.func79 (by kernel_rfl) rfl) (fun S cargs hst hI hargs => ⟨.string ⟨(Lib.join ls sep).toArray⟩, .str _, ?_⟩)
    cases hargs with
    | cons _ c1 _ _ h1 hl =>
     cases hl with
     | cons _ c2 _ _ h2 hl =>
      cases hl
      rw [h2.str_inv]
      cases h1 with
      | msl _ _ _ _ cap t' hid hlc hsh =>
       obtain ⟨_, cc, rest, hcc, hrl⟩ := hI.obj id _ (by rw [hst]; exact hob)
       have := vO (w := S.w) ls sep (S.μ id) off cap (fun j x hj => by
        have hv : ((cs.drop off).take len)[j]? = some (.str x) := by rw [hls', List.getElem?_map, hj]; rfl
        have hjl : j < len := by
         have := (List.getElem?_eq_some_iff.1 hj).1
         omega
        rw [List.getElem?_take, if_pos hjl, List.getElem?_drop] at hv
        obtain ⟨c, hc1, hc2⟩ := hrl.get _ _ hv
        rw [hc2.str_inv] at hc1
        have hk2 : (cc ++ rest)[off + j]? = some (.string ⟨x.toArray⟩) := by rw [List.getElem?_append_left (List.getElem?_eq_some_iff.1 hc1).1]; exact hc1
        simp only [World.cell?, hcc]
        simpa using hk2) (by omega) hc.2.1 hc.2.2
       rw [hc.1] at this
       exact this
   ·cases h
  ·cases h
 ·cases h
theorem KY {B : Nat} {w0 : World} (hT : Tabs w0) (hB : 8 ≤ B) : Fits Tryz.prog B w0 G where
 tab f F h := KM h
 prim f p hp args s r hr := by
  unfold G Kc at hp
  simp only at hp
  split at hp
  ·cases hp; exact FB hr
  ·cases hp; exact FD hT hB hr
  ·cases hp; exact Dc hT hB hr
  ·cases hp; exact FC Tryz.func227 (by kernel_rfl) (by kernel_rfl) (by kernel_rfl) (by kernel_rfl) hr
  ·cases hp; exact De hT hB hr
  ·cases hp; exact Df hT hB hr
  ·cases hp; exact BE hr
  ·cases hp; exact BD hr
  ·cases hp
