/-
  The table and the primitive functions together; that they are the program's. Condition: what the two packages' tables hold.
-/
import Derived.Test.YtjdppboomglenaaDoorJTab
import Derived.Test.YtjdppboomglenaaDoorShelf
namespace Go.Proofs.YtjdppboomglenaaDoor.Eng
open Go Go.RowKit
set_option linter.unusedSimpArgs false

/-- strconv.FormatInt at base 10. -/
def primFmt : List V → St → Option (V × St)
  | [.int .i64 n, .int .i64 10], s => if -9223372036854775808 ≤ n ∧ n ≤ 9223372036854775807 then some (.str (Lib.itoa n), s) else none
  | _, _ => none

/-- utf8.DecodeRuneInString. -/
def primDec : List V → St → Option (V × St)
  | [.str b], s => some (.tup [.int .i32 (Lib.decodeGo ⟨b.toArray⟩).1, .int .i64 (Lib.decodeGo ⟨b.toArray⟩).2], s)
  | _, _ => none

def prims : FuncId → Option (List V → St → Option (V × St))
  | 32 => some primFmt
  | 59 => some primDec
  | 60 => some primId
  | _ => none

def G : Gp := ⟨tab, prims⟩

/-- What the library's tables hold. -/
structure Tabs (w : World) : Prop where
  pow : Lib.TabIs Tryd.prog w "internal/strconv.uint64pow10" .u64 Lib.pow10Tab
  utf : Lib.Utf8Tabs 1 2 w

theorem Tabs.below {B : Nat} {w0 w : World} (h : Tabs w0) (hb : Below B w0 w) (hB : 3 ≤ B) : Tabs w := by
  have hc : ∀ b o, b < 3 → w.cell? ⟨b, o, none⟩ = w0.cell? ⟨b, o, none⟩ := fun b o hlt => World.cell?_of_block (w := w0) (a := ⟨b, o, none⟩) (hb.block b (by omega))
  refine ⟨?_, ?_, ?_⟩
  · have := h.pow
    unfold Lib.TabIs at this ⊢
    rw [← this]
    unfold World.var?
    have hg : Tryd.prog.globalNamed "internal/strconv.uint64pow10" = some 0 := by kernel_rfl
    rw [hg]
    simp only [Option.bind_some]
    rw [hb.block 0 (by omega)]
  · intro c hlt
    rw [hc 1 c (by omega)]
    exact h.utf.1 c hlt
  · intro i hi
    rw [hc 2 _ (by omega), hc 2 _ (by omega)]
    exact h.utf.2 i hi

theorem primFmt_ok {B : Nat} {w0 : World} (hT : Tabs w0) (hB : 3 ≤ B) {args : List V} {s : St} {r : V × St} (h : primFmt args s = some r) : SoundCall Tryd.prog B w0 32 args s r := by
  unfold primFmt at h
  split at h
  · rename_i n
    split at h
    · rename_i hn
      cases h
      refine sound_of_calls (enters_of Tryd.func32 (by kernel_rfl) rfl) (fun S cargs hst hI hargs => ⟨.string ⟨(Lib.itoa n).toArray⟩, .str _, ?_⟩)
      cases hargs with
      | cons _ c1 _ _ h1 hl =>
        cases hl with
        | cons _ c2 _ _ h2 hl =>
          cases hl
          rw [h1.int_inv, h2.int_inv]
          refine (Tryd.strconv_FormatInt_10 n hn.1 hn.2 S.w (hT.below hI.below hB).pow).mono ?_
          rintro e w' ⟨rfl, k, os, rfl⟩
          exact ⟨rfl, below_grow _ _ _⟩
    · cases h
  · cases h

theorem primDec_ok {B : Nat} {w0 : World} (hT : Tabs w0) (hB : 3 ≤ B) {args : List V} {s : St} {r : V × St} (h : primDec args s = some r) : SoundCall Tryd.prog B w0 59 args s r := by
  unfold primDec at h
  split at h
  · rename_i b
    cases h
    refine sound_of_calls (enters_of Tryd.func59 (by kernel_rfl) rfl) (fun S cargs hst hI hargs => ⟨.tuple #[.int .i32 (Lib.decodeGo ⟨b.toArray⟩).1, .int .i64 (Lib.decodeGo ⟨b.toArray⟩).2],
      .tup _ [.int .i32 (Lib.decodeGo ⟨b.toArray⟩).1, .int .i64 (Lib.decodeGo ⟨b.toArray⟩).2] (.cons _ _ _ _ (.int _ _) (.cons _ _ _ _ (.int _ _) .nil)), ?_⟩)
    cases hargs with
    | cons _ c1 _ _ h1 hl =>
      cases hl
      rw [h1.str_inv]
      refine (Tryd.utf8_DecodeRuneInString _ S.w (hT.below hI.below hB).utf).mono ?_
      rintro e w' ⟨rfl, hb⟩
      exact ⟨rfl, hb⟩
  · cases h

theorem fitsG {B : Nat} {w0 : World} (hT : Tabs w0) (hB : 3 ≤ B) : Fits Tryd.prog B w0 G where
  tab f F h := tab_ok h
  prim f p hp args s r hr := by
    unfold G prims at hp
    simp only at hp
    split at hp
    · cases hp; exact primFmt_ok hT hB hr
    · cases hp; exact primDec_ok hT hB hr
    · cases hp; exact primId_ok Tryd.func60 (by kernel_rfl) (by kernel_rfl) (by kernel_rfl) (by kernel_rfl) hr
    · cases hp

end Go.Proofs.YtjdppboomglenaaDoor.Eng
