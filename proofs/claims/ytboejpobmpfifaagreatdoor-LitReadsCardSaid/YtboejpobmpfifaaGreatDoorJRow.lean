/-
 What a call meets: texts and numbers; the tables are laid. Condition: the laid tables.
-/
import Derived.Test.YtboejpobmpfifaaGreatDoorJBase
import Derived.Test.YtboejpobmpfifaaGreatDoorEngT
import Derived.Test.YtboejpobmpfifaaGreatDoorCards
import Derived.Test.YtboejpobmpfifaaGreatDoorTie
import Derived.WalkKit
import Derived.ProofKit
import Derived.OpenShut
import Derived.Deep.DeepHandedRow
import Derived.Lib.LaidU8
import Derived.Shelf.Vars
set_option linter.constructorNameAsVariable false
set_option linter.unusedSimpArgs false
set_option linter.unusedVariables false
namespace Go.Proofs.YtboejpobmpfifaaGreatDoor.Eng
open Go Go.RowKit Go.ChangeShapes Go.WideShapes Go.ChangeAt
set_option maxRecDepth 100000
theorem u9 : Tryz.prog.underlying 9 = some .string := by kernel_rfl
theorem Fv : maxLen ≤ 9223372036854775807 := by decide
theorem Im {d : Nat} {t : TypeId} (ht : Tryz.prog.underlying t = some .string) {vs : List V} (h : Ty Tryz.prog d t vs) : ∃ s : List UInt8, vs = [.str s] ∧ s.length ≤ 9223372036854775807 := by
 cases d with
 | zero => exact h.elim
 | succ d =>
  simp only [Ty, ht] at h
  obtain ⟨n, h1, h2⟩ := h
  exact ⟨n, h1, Nat.le_trans h2 Fv⟩
theorem is9 (x : V) : iV Tryz.prog 9 [x] = x := by
 unfold iV kF
 rw [u9]; rfl
theorem wS {P : Program} {W : World} {name : String} {k : IntKind} {zs : List Int} {g : Nat} {t e : TypeId} {n : Nat}
  (hg : P.globalNamed name = some g) (hty : (P.globals[g]?).map (·.type) = some t) (ht : P.underlying t = some (.array n e)) (he : P.underlying e = some (.int k)) (hce : P.cellsOf e = 1) (hct : P.cellsOf t = n)
  (h : Lib.VarReads P W name (Lib.tabData k zs)) : Lib.TabIs P W name k zs := by
 obtain ⟨g', t', cs, fuel, p, hg', ht', hvar, hd⟩ := h
 obtain rfl := Option.some.inj (hg.symm.trans hg')
 obtain rfl := Option.some.inj (hty.symm.trans ht')
 unfold Lib.TabIs
 rw [hvar, ← Lib.cells_of_tab ht he hce hct hd]
theorem oQ {P : Program} {W : World} {name nm : String} {d : DataW Unit} {g : Nat} {t : TypeId}
  (hg : P.globalNamed name = some g) (hty : (P.globals[g]?).map (·.type) = some t) (ht : ∃ m, P.underlying t = some (.interface m))
  (h : Lib.VarReads P W name (.iface nm d)) : ∃ tp p, W.cell? ⟨g, 0, none⟩ = some (.iface tp p) := by
 obtain ⟨g', t', cs, fuel, p, hg', ht', hvar, hd⟩ := h
 obtain rfl := Option.some.inj (hg.symm.trans hg')
 obtain rfl := Option.some.inj (hty.symm.trans ht')
 obtain ⟨m, hm⟩ := ht
 cases fuel with
 | zero => simp [DataW.trod] at hd
 | succ fuel =>
  have hc : ∃ u v, cs.toList = [.iface u v] := by
   generalize cs.toList = l at hd
   unfold DataW.trod at hd
   rw [hm] at hd
   split at hd <;> first
    | (exact ⟨_, _, rfl⟩)
    | (rename_i h1 _; cases h1; done)
    | (cases hd; done)
    | (simp at hd; done)
    | skip
   all_goals (first | (exfalso; simp_all; done) | skip)
  obtain ⟨u, v, hl⟩ := hc
  refine ⟨u, v, ?_⟩
  unfold World.var? at hvar
  rw [hg] at hvar
  simp only [Option.bind_some] at hvar
  split at hvar
  ·rename_i cs' _ _ hh
   simp only [Option.some.injEq] at hvar
   subst hvar
   have : cs'[0]? = some (.iface u v) := by rw [← Array.getElem?_toList, hl]; rfl
   simp [World.cell?, hh, this]
  ·cases hvar
def Bs (P : Program) (t : TypeId) : Bool := match P.underlying t with | some (.interface _) => true | _ => false
theorem vL {P : Program} {t : TypeId} (h : Bs P t = true) : ∃ m, P.underlying t = some (.interface m) := by
 unfold Bs at h
 split at h
 ·rename_i m hm; exact ⟨m, hm⟩
 ·cases h
theorem JH {W : World} {l : List (String × DataW Unit)} (hsh : W.ShapedOpen Tryz.prog) (hL : laidMet Tryz.prog l W) (h1 : ("internal/strconv.uint64pow10", Rows.laid_internal_strconv_uint64pow10) ∈ l)
  (h2 : ("unicode/utf8.first", Rows.laid_unicode_utf8_first) ∈ l) (h3 : ("unicode/utf8.acceptRanges", Rows.laid_unicode_utf8_acceptRanges) ∈ l)
  (h4 : ("strconv.ErrSyntax", Rows.laid_strconv_ErrSyntax) ∈ l) (h5 : ("strconv.ErrRange", Rows.laid_strconv_ErrRange) ∈ l) : Tabs W where
 pow := wS (g := 3) (t := 355) (n := 20) (by kernel_rfl) (by kernel_rfl) Tryz.underlying355 (by kernel_rfl) (by kernel_rfl) (by kernel_rfl) (Lib.laidMet.reads hL h1)
 utf := Go.Proofs.utf8Tabs_of_reads (ρ := Tryz.lays197_ren) { Tryz.lays197 with } ⟨by kernel_rfl, by kernel_rfl, by kernel_rfl, by kernel_rfl, by kernel_rfl, by kernel_rfl, by kernel_rfl⟩
  (Lib.laidMet.reads hL h2) (Lib.laidMet.reads hL h3)
 mx := Go.Proofs.cell_of_shapedOpen_int (zero := #[.int .i64 0]) (t := 3) hsh (of_decide_eq_true (by kernel_rfl)) (by kernel_rfl) rfl (by kernel_rfl) (by kernel_rfl) (by kernel_rfl)
 syn := oQ (g := 4) (t := 132) (by kernel_rfl) (by kernel_rfl) (vL (by kernel_rfl)) (Lib.laidMet.reads hL h4)
 rng := oQ (g := 5) (t := 132) (by kernel_rfl) (by kernel_rfl) (vL (by kernel_rfl)) (Lib.laidMet.reads hL h5)
theorem uS {P : Program} {W : World} {name : String} {d : DataW Unit} {g : Nat} (hg : P.globalNamed name = some g) (h : Lib.VarReads P W name d) : g < W.heap.size := by
 obtain ⟨g', t', cs, fuel, p, hg', ht', hvar, hd⟩ := h
 unfold World.var? at hvar
 rw [hg] at hvar
 simp only [Option.bind_some] at hvar
 split at hvar
 ·rename_i cs' _ _ hh
  exact (Array.getElem?_eq_some_iff.1 hh).1
 ·cases hvar
theorem KZ {W : World} {l : List (String × DataW Unit)} (hL : laidMet Tryz.prog l W) (h : ("math/bits.deBruijn64tab", Rows.laid_math_bits_deBruijn64tab) ∈ l) : 8 ≤ W.heap.size :=
 uS (g := 7) (by kernel_rfl) (Lib.laidMet.reads hL h)
