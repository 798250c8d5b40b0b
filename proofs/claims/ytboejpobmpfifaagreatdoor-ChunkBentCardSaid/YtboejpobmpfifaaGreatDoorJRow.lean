/-
  What a call meets: values of package api; the tables are laid. Condition: the laid tables.
-/
import Derived.Test.YtboejpobmpfifaaGreatDoorJSpecs
import Derived.Test.YtboejpobmpfifaaGreatDoorEngT
import Derived.Test.YtboejpobmpfifaaGreatDoorCards
import Derived.Test.YtboejpobmpfifaaGreatDoorTie
import Derived.WalkKit
import Derived.ProofKit
import Derived.OpenShut
import Derived.Deep.DeepHandedRow
import Derived.Lib.LaidU8
import Derived.Shelf.Vars
namespace Go.Proofs.YtboejpobmpfifaaGreatDoor.Eng
open Go Go.RowKit Go.ChangeShapes Go.WideShapes Go.ChangeAt
set_option linter.unusedSimpArgs false
set_option linter.unusedVariables false
set_option linter.constructorNameAsVariable false
set_option maxRecDepth 100000

theorem c3 : Tryz.prog.cellsOf 3 = 1 := by kernel_rfl
theorem c2 : Tryz.prog.cellsOf 2 = 1 := by kernel_rfl
theorem c9 : Tryz.prog.cellsOf 9 = 1 := by kernel_rfl
theorem c43 : Tryz.prog.cellsOf 43 = 1 := by kernel_rfl
theorem c44 : Tryz.prog.cellsOf 44 = 1 := by kernel_rfl
theorem c46 : Tryz.prog.cellsOf 46 = 5 := by kernel_rfl
theorem c63 : Tryz.prog.cellsOf 63 = 6 := by kernel_rfl
theorem u3 : Tryz.prog.underlying 3 = some (.int .i64) := by kernel_rfl
theorem u2 : Tryz.prog.underlying 2 = some (.int .i64) := by kernel_rfl
theorem u9 : Tryz.prog.underlying 9 = some .string := by kernel_rfl
theorem u43 : Tryz.prog.underlying 43 = some (.slice 46) := by kernel_rfl
theorem u44 : Tryz.prog.underlying 44 = some (.slice 63) := by kernel_rfl
theorem u46 : ∃ fs, Tryz.prog.underlying 46 = some (.struct fs) ∧ fs.toList.map (fun f => (f.type, f.offset)) = [(3, 0), (2, 1), (9, 2), (43, 3), (44, 4)] := ⟨_, Tryz.underlying46, by rfl⟩
theorem u63 : ∃ fs, Tryz.prog.underlying 63 = some (.struct fs) ∧ fs.toList.map (fun f => (f.type, f.offset)) = [(9, 0), (46, 1)] := ⟨_, Tryz.underlying63, by rfl⟩

theorem wf64 {n : Int} (h : (Lit.int .i64 n).wf = true) : -9223372036854775808 ≤ n ∧ n ≤ 9223372036854775807 := by
  have e1 : IntKind.i64.min = -9223372036854775808 := rfl
  have e2 : IntKind.i64.max = 9223372036854775807 := rfl
  simp [Lit.wf, e1, e2] at h
  exact h

theorem ty_int {d : Nat} {t : TypeId} (ht : Tryz.prog.underlying t = some (.int .i64)) {vs : List V} (h : Ty Tryz.prog d t vs) : ∃ n, vs = [.int .i64 n] ∧ -9223372036854775808 ≤ n ∧ n ≤ 9223372036854775807 := by
  cases d with
  | zero => exact h.elim
  | succ d =>
    simp only [Ty, ht] at h
    obtain ⟨n, h1, h2⟩ := h
    exact ⟨n, h1, wf64 h2⟩

theorem maxLen_le : maxLen ≤ 9223372036854775807 := by decide

theorem ty_str {d : Nat} {t : TypeId} (ht : Tryz.prog.underlying t = some .string) {vs : List V} (h : Ty Tryz.prog d t vs) : ∃ s : List UInt8, vs = [.str s] ∧ s.length ≤ 9223372036854775807 := by
  cases d with
  | zero => exact h.elim
  | succ d =>
    simp only [Ty, ht] at h
    obtain ⟨n, h1, h2⟩ := h
    exact ⟨n, h1, Nat.le_trans h2 maxLen_le⟩

theorem ty_slice {d : Nat} {t e : TypeId} (ht : Tryz.prog.underlying t = some (.slice e)) {vs : List V} (h : Ty Tryz.prog (d + 1) t vs) :
    ∃ xs : List (List V), vs = [.sl .no (xs.map (packT Tryz.prog e))] ∧ xs.length ≤ 9223372036854775807 ∧ ∀ x ∈ xs, Ty Tryz.prog d e x := by
  simp only [Ty, ht] at h
  obtain ⟨xs, h1, h2, h3⟩ := h
  exact ⟨xs, h1, Nat.le_trans h2 maxLen_le, h3⟩

theorem one_of {vs : List V} {off : Nat} {x : V} (h : (vs.drop off).take 1 = [x]) : vs[off]? = some x := by
  have := congrArg (·[0]?) h
  simpa [List.getElem?_take, List.getElem?_drop] using this

theorem is46 (x : List V) : packT Tryz.prog 46 x = .agg x := by
  obtain ⟨fs, hu, _⟩ := u46
  unfold packT isAggT
  rw [hu]; rfl
theorem is63 (x : List V) : packT Tryz.prog 63 x = .agg x := by
  obtain ⟨fs, hu, _⟩ := u63
  unfold packT isAggT
  rw [hu]; rfl

theorem fld_ty {d : Nat} {t : TypeId} {fs : Array Field} {vs : List V} (hu : Tryz.prog.underlying t = some (.struct fs)) (h : Ty Tryz.prog (d + 1) t vs) {u off : Nat} (hm : (u, off) ∈ fs.toList.map (fun f => (f.type, f.offset))) :
    vs.length = Tryz.prog.cellsOf t ∧ Ty Tryz.prog d u ((vs.drop off).take (Tryz.prog.cellsOf u)) := by
  simp only [Ty, hu] at h
  obtain ⟨f, hf, he⟩ := List.mem_map.1 hm
  simp only [Prod.mk.injEq] at he
  obtain ⟨rfl, rfl⟩ := he
  exact ⟨h.1, h.2 f hf⟩

theorem vs_of {xs : List (List V)} (h : ∀ x ∈ xs, ∃ v : JV, v.ok ∧ x = vc v) : ∃ l : List JV, okVs l ∧ xs.map (packT Tryz.prog 46) = toVs l ∧ l.length = xs.length := by
  induction xs with
  | nil => exact ⟨[], trivial, rfl, rfl⟩
  | cons x xs ih =>
    obtain ⟨l, h1, h2, h3⟩ := ih (fun y hy => h y (by simp [hy]))
    obtain ⟨v, hv, rfl⟩ := h x (by simp)
    exact ⟨v :: l, ⟨hv, h1⟩, by simp [toVs, h2, is46], by simp [h3]⟩
theorem ps_of {xs : List (List V)} (h : ∀ x ∈ xs, ∃ (s : List UInt8) (v : JV), s.length ≤ 9223372036854775807 ∧ v.ok ∧ x = .str s :: vc v) : ∃ l : List (List UInt8 × JV), okPs l ∧ xs.map (packT Tryz.prog 63) = toPs l ∧ l.length = xs.length := by
  induction xs with
  | nil => exact ⟨[], trivial, rfl, rfl⟩
  | cons x xs ih =>
    obtain ⟨l, h1, h2, h3⟩ := ih (fun y hy => h y (by simp [hy]))
    obtain ⟨s, v, hs, hv, rfl⟩ := h x (by simp)
    exact ⟨(s, v) :: l, ⟨hs, hv, h1⟩, by simp [toPs, h2, is63], by simp [h3]⟩

theorem list5 {vs : List V} (h : vs.length = 5) {a b c d e : V} (h0 : vs[0]? = some a) (h1 : vs[1]? = some b) (h2 : vs[2]? = some c) (h3 : vs[3]? = some d) (h4 : vs[4]? = some e) : vs = [a, b, c, d, e] := by
  match vs, h with
  | [v0, v1, v2, v3, v4], _ => simp at h0 h1 h2 h3 h4; simp [h0, h1, h2, h3, h4]

theorem jv_of : ∀ (fuel : Nat) (x : List V), Ty Tryz.prog fuel 46 x → ∃ v : JV, v.ok ∧ x = vc v := by
  intro fuel
  induction fuel using Nat.strongRecOn with
  | _ fuel ih =>
    intro x h
    match fuel, h, ih with
    | 0, h, _ => exact h.elim
    | 1, h, _ =>
      obtain ⟨fs, hu, hf⟩ := u46
      obtain ⟨_, h0⟩ := fld_ty (u := 3) (off := 0) hu h (by rw [hf]; simp)
      exact h0.elim
    | d + 2, h, ih =>
      obtain ⟨fs, hu, hf⟩ := u46
      obtain ⟨hlen, h0⟩ := fld_ty (u := 3) (off := 0) hu h (by rw [hf]; simp)
      obtain ⟨_, h1⟩ := fld_ty (u := 2) (off := 1) hu h (by rw [hf]; simp)
      obtain ⟨_, h2⟩ := fld_ty (u := 9) (off := 2) hu h (by rw [hf]; simp)
      obtain ⟨_, h3⟩ := fld_ty (u := 43) (off := 3) hu h (by rw [hf]; simp)
      obtain ⟨_, h4⟩ := fld_ty (u := 44) (off := 4) hu h (by rw [hf]; simp)
      rw [c46] at hlen
      rw [c3] at h0
      rw [c2] at h1
      rw [c9] at h2
      rw [c43] at h3
      rw [c44] at h4
      obtain ⟨k, e0, k0, k1⟩ := ty_int u3 h0
      obtain ⟨n, e1, n0, n1⟩ := ty_int u2 h1
      obtain ⟨s, e2, s0⟩ := ty_str u9 h2
      obtain ⟨xs, e3, l0, l1⟩ := ty_slice u43 h3
      obtain ⟨ys, e4, p0, p1⟩ := ty_slice u44 h4
      obtain ⟨l, okl, hl, hll⟩ := vs_of (fun x hx => ih d (by omega) x (l1 x hx))
      obtain ⟨f, okf, hff, hfl⟩ := ps_of (xs := ys) (fun y hy => by
        have hy' := p1 y hy
        match d, hy', ih with
        | 0, hy', _ => exact hy'.elim
        | d + 1, hy', ih =>
          obtain ⟨gs, hv, hg⟩ := u63
          obtain ⟨gl, g0⟩ := fld_ty (u := 9) (off := 0) hv hy' (by rw [hg]; simp)
          obtain ⟨_, g1⟩ := fld_ty (u := 46) (off := 1) hv hy' (by rw [hg]; simp)
          rw [c63] at gl
          rw [c9] at g0
          rw [c46] at g1
          obtain ⟨t, et, t0⟩ := ty_str u9 g0
          obtain ⟨v, hv, ev⟩ := ih d (by omega) _ g1
          refine ⟨t, v, t0, hv, ?_⟩
          have ht : y[0]? = some (.str t) := one_of et
          have hd : (y.drop 1) = vc v := by rw [← ev, List.take_of_length_le (by simp; omega)]
          cases y with
          | nil => simp at gl
          | cons a r => simp at ht hd; rw [ht, hd])
      refine ⟨.mk k n s l f, ⟨⟨k0, k1⟩, ⟨n0, n1⟩, s0, by omega, by omega, okl, okf⟩, ?_⟩
      rw [hl] at e3
      rw [hff] at e4
      exact list5 hlen (one_of e0) (one_of e1) (one_of e2) (one_of e3) (one_of e4)

/-! ### The tables -/
theorem tabIs_of_reads {P : Program} {W : World} {name : String} {k : IntKind} {zs : List Int} {g : Nat} {t e : TypeId} {n : Nat}
    (hg : P.globalNamed name = some g) (hty : (P.globals[g]?).map (·.type) = some t) (ht : P.underlying t = some (.array n e)) (he : P.underlying e = some (.int k)) (hce : P.cellsOf e = 1) (hct : P.cellsOf t = n)
    (h : Lib.VarReads P W name (Lib.tabData k zs)) : Lib.TabIs P W name k zs := by
  obtain ⟨g', t', cs, fuel, p, hg', ht', hvar, hd⟩ := h
  obtain rfl := Option.some.inj (hg.symm.trans hg')
  obtain rfl := Option.some.inj (hty.symm.trans ht')
  unfold Lib.TabIs
  rw [hvar, ← Lib.cells_of_tab ht he hce hct hd]

theorem iface_of_reads {P : Program} {W : World} {name nm : String} {d : DataW Unit} {g : Nat} {t : TypeId}
    (hg : P.globalNamed name = some g) (hty : (P.globals[g]?).map (·.type) = some t) (ht : ∃ m, P.underlying t = some (.interface m))
    (h : Lib.VarReads P W name (.iface nm d)) : ∃ tp p, W.cell? ⟨g, 0, none⟩ = some (.iface tp p) := by
  obtain ⟨g', t', cs, fuel, p, hg', ht', hvar, hd⟩ := h
  obtain rfl := Option.some.inj (hg.symm.trans hg')
  obtain rfl := Option.some.inj (hty.symm.trans ht')
  obtain ⟨m, hm⟩ := ht
  cases fuel with
  | zero => simp [DataW.trod] at hd
  | succ fuel =>
    have hc : ∃ u v, cs.toList = [.iface u v] := by
      generalize cs.toList = l at hd
      unfold DataW.trod at hd
      rw [hm] at hd
      split at hd <;> first
        | (exact ⟨_, _, rfl⟩)
        | (rename_i h1 _; cases h1; done)
        | (cases hd; done)
        | (simp at hd; done)
        | skip
      all_goals (first | (exfalso; simp_all; done) | skip)
    obtain ⟨u, v, hl⟩ := hc
    refine ⟨u, v, ?_⟩
    unfold World.var? at hvar
    rw [hg] at hvar
    simp only [Option.bind_some] at hvar
    split at hvar
    · rename_i cs' _ _ hh
      simp only [Option.some.injEq] at hvar
      subst hvar
      have : cs'[0]? = some (.iface u v) := by rw [← Array.getElem?_toList, hl]; rfl
      simp [World.cell?, hh, this]
    · cases hvar

def isIfaceB (P : Program) (t : TypeId) : Bool := match P.underlying t with | some (.interface _) => true | _ => false
theorem isIface_of {P : Program} {t : TypeId} (h : isIfaceB P t = true) : ∃ m, P.underlying t = some (.interface m) := by
  unfold isIfaceB at h
  split at h
  · rename_i m hm; exact ⟨m, hm⟩
  · cases h

theorem tabs_of {W : World} {l : List (String × DataW Unit)} (hsh : W.ShapedOpen Tryz.prog) (hL : laidMet Tryz.prog l W) (h1 : ("internal/strconv.uint64pow10", Rows.laid_internal_strconv_uint64pow10) ∈ l)
    (h2 : ("unicode/utf8.first", Rows.laid_unicode_utf8_first) ∈ l) (h3 : ("unicode/utf8.acceptRanges", Rows.laid_unicode_utf8_acceptRanges) ∈ l)
    (h4 : ("strconv.ErrSyntax", Rows.laid_strconv_ErrSyntax) ∈ l) (h5 : ("strconv.ErrRange", Rows.laid_strconv_ErrRange) ∈ l) : Tabs W where
  pow := tabIs_of_reads (g := 3) (t := 355) (n := 20) (by kernel_rfl) (by kernel_rfl) Tryz.underlying355 (by kernel_rfl) (by kernel_rfl) (by kernel_rfl) (Lib.laidMet.reads hL h1)
  utf := Go.Proofs.utf8Tabs_of_reads (ρ := Tryz.lays197_ren) { Tryz.lays197 with } ⟨by kernel_rfl, by kernel_rfl, by kernel_rfl, by kernel_rfl, by kernel_rfl, by kernel_rfl, by kernel_rfl⟩
    (Lib.laidMet.reads hL h2) (Lib.laidMet.reads hL h3)
  mx := Go.Proofs.cell_of_shapedOpen_int (zero := #[.int .i64 0]) (t := 3) hsh (of_decide_eq_true (by kernel_rfl)) (by kernel_rfl) rfl (by kernel_rfl) (by kernel_rfl) (by kernel_rfl)
  syn := iface_of_reads (g := 4) (t := 132) (by kernel_rfl) (by kernel_rfl) (isIface_of (by kernel_rfl)) (Lib.laidMet.reads hL h4)
  rng := iface_of_reads (g := 5) (t := 132) (by kernel_rfl) (by kernel_rfl) (isIface_of (by kernel_rfl)) (Lib.laidMet.reads hL h5)

theorem block_of_reads {P : Program} {W : World} {name : String} {d : DataW Unit} {g : Nat} (hg : P.globalNamed name = some g) (h : Lib.VarReads P W name d) : g < W.heap.size := by
  obtain ⟨g', t', cs, fuel, p, hg', ht', hvar, hd⟩ := h
  unfold World.var? at hvar
  rw [hg] at hvar
  simp only [Option.bind_some] at hvar
  split at hvar
  · rename_i cs' _ _ hh
    exact (Array.getElem?_eq_some_iff.1 hh).1
  · cases hvar
theorem heap8 {W : World} {l : List (String × DataW Unit)} (hL : laidMet Tryz.prog l W) (h : ("math/bits.deBruijn64tab", Rows.laid_math_bits_deBruijn64tab) ∈ l) : 8 ≤ W.heap.size :=
  block_of_reads (g := 7) (by kernel_rfl) (Lib.laidMet.reads hL h)

end Go.Proofs.YtboejpobmpfifaaGreatDoor.Eng
