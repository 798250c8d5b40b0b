/-
  The table and the primitive functions together; that they are the program's. Condition: what the two packages' tables hold.
-/
import Derived.Test.YtboejpobmpfifaaGreatDoorJTab
import Derived.Test.YtboejpobmpfifaaGreatDoorShelf
import Derived.Lib.SmallJoins
namespace Go.Proofs.YtboejpobmpfifaaGreatDoor.Eng
open Go Go.RowKit
set_option linter.unusedSimpArgs false
set_option linter.unusedVariables false

/-- strconv.FormatInt at base 10. -/
def primFmt : List V → St → Option (V × St)
  | [.int .i64 n, .int .i64 10], s => if -9223372036854775808 ≤ n ∧ n ≤ 9223372036854775807 then some (.str (Lib.itoa n), s) else none
  | _, _ => none

/-- utf8.DecodeRuneInString. -/
def primDec : List V → St → Option (V × St)
  | [.str b], s => some (.tup [.int .i32 (Lib.decodeGo ⟨b.toArray⟩).1, .int .i64 (Lib.decodeGo ⟨b.toArray⟩).2], s)
  | _, _ => none

/-- strconv.Atoi. -/
def primAtoi : List V → St → Option (V × St)
  | [.str b], s =>
    if b.length ≤ 281474976710656 then
      match Lib.atoiAll b with
      | .ok v => some (.tup [.int .i64 v, .nilI], s)
      | Lib.NumEnd.syntax => some (.tup [.int .i64 0, .ifc 341 .junk], s)
      | .range => some (.tup [.int .i64 (Lib.atoiSat b), .ifc 341 .junk], s)
    else none
  | _, _ => none

def prims0 : FuncId → Option (List V → St → Option (V × St))
  | 276 => some primFmt
  | 240 => some primDec
  | 242 => some primAtoi
  | _ => none

def G0 : Gp := ⟨tab, prims0⟩

/-- What the library's tables hold. -/
structure Tabs (w : World) : Prop where
  pow : Lib.TabIs Tryz.prog w "internal/strconv.uint64pow10" .u64 Lib.pow10Tab
  utf : Lib.Utf8Tabs 1 2 w
  mx : ∃ m, w.cell? ⟨0, 0, none⟩ = some (.int .i64 m)
  syn : ∃ tp p, w.cell? ⟨4, 0, none⟩ = some (.iface tp p)
  rng : ∃ tp p, w.cell? ⟨5, 0, none⟩ = some (.iface tp p)

theorem Tabs.below {B : Nat} {w0 w : World} (h : Tabs w0) (hb : Below B w0 w) (hB : 8 ≤ B) : Tabs w := by
  have hc : ∀ b o, b < 8 → w.cell? ⟨b, o, none⟩ = w0.cell? ⟨b, o, none⟩ := fun b o hlt => World.cell?_of_block (w := w0) (a := ⟨b, o, none⟩) (hb.block b (by omega))
  refine ⟨?_, ⟨?_, ?_⟩, by rw [hc 0 0 (by omega)]; exact h.mx, by rw [hc 4 0 (by omega)]; exact h.syn, by rw [hc 5 0 (by omega)]; exact h.rng⟩
  · have := h.pow
    unfold Lib.TabIs at this ⊢
    rw [← this]
    unfold World.var?
    have hg : Tryz.prog.globalNamed "internal/strconv.uint64pow10" = some 3 := by kernel_rfl
    rw [hg]
    simp only [Option.bind_some]
    rw [hb.block 3 (by omega)]
  · intro c hlt
    rw [hc 1 c (by omega)]
    exact h.utf.1 c hlt
  · intro i hi
    rw [hc 2 _ (by omega), hc 2 _ (by omega)]
    exact h.utf.2 i hi

theorem primFmt_ok {B : Nat} {w0 : World} (hT : Tabs w0) (hB : 8 ≤ B) {args : List V} {s : St} {r : V × St} (h : primFmt args s = some r) : SoundCall Tryz.prog B w0 276 args s r := by
  unfold primFmt at h
  split at h
  · rename_i n
    split at h
    · rename_i hn
      cases h
      refine sound_of_calls (enters_of Tryz.func276 (by kernel_rfl) rfl) (fun S cargs hst hI hargs => ⟨.string ⟨(Lib.itoa n).toArray⟩, .str _, ?_⟩)
      cases hargs with
      | cons _ c1 _ _ h1 hl =>
        cases hl with
        | cons _ c2 _ _ h2 hl =>
          cases hl
          rw [h1.int_inv, h2.int_inv]
          refine (Tryz.internal_strconv_FormatInt_10 n hn.1 hn.2 S.w (hT.below hI.below hB).pow).mono ?_
          rintro e w' ⟨rfl, k, os, rfl⟩
          exact ⟨rfl, below_grow _ _ _⟩
    · cases h
  · cases h

theorem primDec_ok {B : Nat} {w0 : World} (hT : Tabs w0) (hB : 8 ≤ B) {args : List V} {s : St} {r : V × St} (h : primDec args s = some r) : SoundCall Tryz.prog B w0 240 args s r := by
  unfold primDec at h
  split at h
  · rename_i b
    cases h
    refine sound_of_calls (enters_of Tryz.func240 (by kernel_rfl) rfl) (fun S cargs hst hI hargs => ⟨.tuple #[.int .i32 (Lib.decodeGo ⟨b.toArray⟩).1, .int .i64 (Lib.decodeGo ⟨b.toArray⟩).2],
      .tup _ [.int .i32 (Lib.decodeGo ⟨b.toArray⟩).1, .int .i64 (Lib.decodeGo ⟨b.toArray⟩).2] (.cons _ _ _ _ (.int _ _) (.cons _ _ _ _ (.int _ _) .nil)), ?_⟩)
    cases hargs with
    | cons _ c1 _ _ h1 hl =>
      cases hl
      rw [h1.str_inv]
      refine (Tryz.utf8_DecodeRuneInString _ S.w (hT.below hI.below hB).utf).mono ?_
      rintro e w' ⟨rfl, hb⟩
      exact ⟨rfl, hb⟩
  · cases h

theorem sound_of_calls' {f : FuncId} {args : List V} {s : St} {v : V} {B : Nat} {w0 : World} (he : ∀ args w, (callFunc f args).run Tryz.prog w = .ok (.enter f args) w)
    (h : ∀ (S : Sit) (cargs : List Value), S.st = s → Inv B w0 S → RelL S args cargs → Calls Tryz.prog f cargs.toArray S.w fun e w' => ∃ c, e = .returned c ∧ (∀ S' : Sit, Rel S' v c) ∧ Below S.w.heap.size S.w w') :
    SoundCall Tryz.prog B w0 f args s (v, s) := by
  intro S cargs hst hI hargs
  left
  refine ⟨he _ _, (h S cargs hst hI hargs).mono ?_⟩
  rintro e w' ⟨c, rfl, hc, hb⟩
  exact ⟨c, S.later w', rfl, rfl, hst, hI.later hb, Ext.later hI hb, hc _⟩

theorem primAtoi_ok {B : Nat} {w0 : World} (hT : Tabs w0) (hB : 8 ≤ B) {args : List V} {s : St} {r : V × St} (h : primAtoi args s = some r) : SoundCall Tryz.prog B w0 242 args s r := by
  have tup2 : ∀ (S' : Sit) (n : Int) (v : V) (c : Value), Rel S' v c → Rel S' (.tup [.int .i64 n, v]) (.tuple #[.int .i64 n, c]) :=
    fun S' n v c hv => .tup _ [.int .i64 n, c] (.cons _ _ _ _ (.int _ _) (.cons _ _ _ _ hv .nil))
  unfold primAtoi at h
  split at h
  · rename_i b
    split at h
    · rename_i hlen
      have hargs1 : ∀ (S : Sit) (cargs : List Value), RelL S [.str b] cargs → cargs = [.string ⟨b.toArray⟩] := by
        intro S cargs hl
        cases hl with
        | cons _ c1 _ _ h1 hl =>
          cases hl
          rw [h1.str_inv]
      have hsz : (⟨b.toArray⟩ : ByteArray).size = b.length := by simp [ByteArray.size]
      split at h
      · rename_i v hv
        cases h
        refine sound_of_calls' (enters_of Tryz.func242 (by kernel_rfl) rfl) (fun S cargs hst hI hargs => ?_)
        rw [hargs1 S cargs hargs]
        refine (Tryz.strconv_Atoi_ok ⟨b.toArray⟩ (by rw [hsz]; omega) v (by simpa using hv) S.w).mono ?_
        rintro e w' ⟨rfl, hw⟩
        refine ⟨_, rfl, fun S' => tup2 S' v _ _ .nilI, ?_⟩
        rcases hw with rfl | ⟨t, rfl⟩
        · exact Below.refl _ _
        · exact Joins.below_bytesWorld _ _ _ _ (Nat.le_refl _)
      · rename_i hv
        cases h
        refine sound_of_calls' (enters_of Tryz.func242 (by kernel_rfl) rfl) (fun S cargs hst hI hargs => ?_)
        rw [hargs1 S cargs hargs]
        obtain ⟨tp, p, hp⟩ := (hT.below hI.below hB).syn
        refine (Tryz.strconv_Atoi_syntax ⟨b.toArray⟩ (by rw [hsz]; exact hlen) (by simpa using hv) _ S.w hp (.inr ⟨_, _, rfl⟩)).mono ?_
        rintro e w' ⟨N, rfl, _, _, hb⟩
        exact ⟨_, rfl, fun S' => tup2 S' 0 _ _ (.ifc _ _ _ (.junk _)), hb⟩
      · rename_i hv
        cases h
        refine sound_of_calls' (enters_of Tryz.func242 (by kernel_rfl) rfl) (fun S cargs hst hI hargs => ?_)
        rw [hargs1 S cargs hargs]
        obtain ⟨tp, p, hp⟩ := (hT.below hI.below hB).rng
        refine (Tryz.strconv_Atoi_range ⟨b.toArray⟩ (by rw [hsz]; exact hlen) (by simpa using hv) _ S.w hp (.inr ⟨_, _, rfl⟩)).mono ?_
        rintro e w' ⟨N, rfl, _, _, hb⟩
        exact ⟨_, rfl, fun S' => tup2 S' _ _ _ (.ifc _ _ _ (.junk _)), hb⟩
    · cases h
  · cases h

/-- What the library's tables hold. -/
theorem fitsG0 {B : Nat} {w0 : World} (hT : Tabs w0) (hB : 8 ≤ B) : Fits Tryz.prog B w0 G0 where
  tab f F h := tab_ok h
  prim f p hp args s r hr := by
    unfold G0 prims0 at hp
    simp only at hp
    split at hp
    · cases hp; exact primFmt_ok hT hB hr
    · cases hp; exact primDec_ok hT hB hr
    · cases hp; exact primAtoi_ok hT hB hr
    · cases hp

end Go.Proofs.YtboejpobmpfifaaGreatDoor.Eng
