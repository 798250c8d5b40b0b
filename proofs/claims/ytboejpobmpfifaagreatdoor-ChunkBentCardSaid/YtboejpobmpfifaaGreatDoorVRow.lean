/-
  What a call meets: payloads. No condition.
-/
import Derived.Test.YtboejpobmpfifaaGreatDoorJRow
import Derived.Test.YtboejpobmpfifaaGreatDoorDFs
namespace Go.Proofs.YtboejpobmpfifaaGreatDoor.Eng
open Go Go.RowKit Go.ChangeShapes Go.WideShapes Go.ChangeAt
set_option linter.unusedSimpArgs false
set_option linter.unusedVariables false
set_option linter.constructorNameAsVariable false
set_option maxRecDepth 100000

theorem c4 : Tryz.prog.cellsOf 4 = 1 := by kernel_rfl
theorem c27 : Tryz.prog.cellsOf 27 = 1 := by kernel_rfl
theorem c47 : Tryz.prog.cellsOf 47 = 1 := by kernel_rfl
theorem c48 : Tryz.prog.cellsOf 48 = 1 := by kernel_rfl
theorem c49 : Tryz.prog.cellsOf 49 = 1 := by kernel_rfl
theorem c51 : Tryz.prog.cellsOf 51 = 15 := by kernel_rfl
theorem c144 : Tryz.prog.cellsOf 144 = 1 := by kernel_rfl
theorem c146 : Tryz.prog.cellsOf 146 = 2 := by kernel_rfl
theorem c148 : Tryz.prog.cellsOf 148 = 4 := by kernel_rfl
theorem c214 : Tryz.prog.cellsOf 214 = 3 := by kernel_rfl
theorem u4 : Tryz.prog.underlying 4 = some .bool := by kernel_rfl
theorem u27 : Tryz.prog.underlying 27 = some (.int .i64) := by kernel_rfl
theorem u47 : Tryz.prog.underlying 47 = some (.slice 146) := by kernel_rfl
theorem u48 : Tryz.prog.underlying 48 = some (.slice 148) := by kernel_rfl
theorem u49 : Tryz.prog.underlying 49 = some (.slice 9) := by kernel_rfl
theorem u144 : Tryz.prog.underlying 144 = some (.slice 214) := by kernel_rfl
theorem u51 : ∃ fs, Tryz.prog.underlying 51 = some (.struct fs) ∧ fs.toList.map (fun f => (f.type, f.offset)) = [(4, 0), (46, 1), (47, 6), (48, 7), (4, 8), (3, 9), (4, 10), (49, 11), (4, 12), (4, 13), (4, 14)] := ⟨_, Tryz.underlying51, by rfl⟩
theorem u146 : ∃ fs, Tryz.prog.underlying 146 = some (.struct fs) ∧ fs.toList.map (fun f => (f.type, f.offset)) = [(144, 0), (27, 1)] := ⟨_, Tryz.underlying146, by rfl⟩
theorem u148 : ∃ fs, Tryz.prog.underlying 148 = some (.struct fs) ∧ fs.toList.map (fun f => (f.type, f.offset)) = [(3, 0), (144, 1), (9, 2), (4, 3)] := ⟨_, Tryz.underlying148, by rfl⟩
theorem u214 : ∃ fs, Tryz.prog.underlying 214 = some (.struct fs) ∧ fs.toList.map (fun f => (f.type, f.offset)) = [(9, 0), (3, 1), (4, 2)] := ⟨_, Tryz.underlying214, by rfl⟩
theorem isStruct {t : TypeId} {fs : Array Field} (hu : Tryz.prog.underlying t = some (.struct fs)) (x : List V) : packT Tryz.prog t x = .agg x := by
  unfold packT isAggT
  rw [hu]; rfl
theorem is9 (x : V) : packT Tryz.prog 9 [x] = x := by
  unfold packT isAggT
  rw [u9]; rfl
theorem ty_bool {d : Nat} {vs : List V} (h : Ty Tryz.prog d 4 vs) : ∃ b : Bool, vs = [.bool b] := by
  cases d with
  | zero => exact h.elim
  | succ d =>
    simp only [Ty, u4] at h
    exact h
theorem list_of {α : Type} {t : TypeId} (enc : α → List V) (pk : α → V) (hp : ∀ a, packT Tryz.prog t (enc a) = pk a) (ok : α → Prop) : ∀ {xs : List (List V)}, (∀ x ∈ xs, ∃ a, ok a ∧ x = enc a) → ∃ l : List α, (∀ a ∈ l, ok a) ∧ xs.map (packT Tryz.prog t) = l.map pk
  | [], _ => ⟨[], by simp, rfl⟩
  | x :: xs, h => by
    obtain ⟨l, h1, h2⟩ := list_of enc pk hp ok (xs := xs) (fun y hy => h y (by simp [hy]))
    obtain ⟨a, ha, rfl⟩ := h x (by simp)
    exact ⟨a :: l, by simp [ha]; exact h1, by simp [hp, h2]⟩

theorem ty_step : ∀ (d : Nat) (x : List V), Ty Tryz.prog d 214 x → ∃ p : PStep, p.lim ∧ x = [.str p.key, .int .i64 p.at_, .bool p.idx]
  | 0, _, h => h.elim
  | d + 1, x, h => by
    obtain ⟨fs, hu, hf⟩ := u214
    obtain ⟨hl, h0⟩ := fld_ty (u := 9) (off := 0) hu h (by rw [hf]; simp)
    obtain ⟨_, h1⟩ := fld_ty (u := 3) (off := 1) hu h (by rw [hf]; simp)
    obtain ⟨_, h2⟩ := fld_ty (u := 4) (off := 2) hu h (by rw [hf]; simp)
    rw [c214] at hl
    rw [c9] at h0
    rw [c3] at h1
    rw [c4] at h2
    obtain ⟨s, e0, s0⟩ := ty_str u9 h0
    obtain ⟨n, e1, n0, n1⟩ := ty_int u3 h1
    obtain ⟨b, e2⟩ := ty_bool h2
    refine ⟨⟨s, n, b⟩, ⟨s0, n0, n1⟩, ?_⟩
    match x, hl with
    | [v0, v1, v2], _ =>
      have a := one_of e0
      have b := one_of e1
      have c := one_of e2
      simp at a b c
      simp [a, b, c]
theorem ty_path {d : Nat} {vs : List V} (h : Ty Tryz.prog d 144 vs) : ∃ l : List PStep, (∀ x ∈ l, x.lim) ∧ vs = [.sl .no (pSs l)] := by
  cases d with
  | zero => exact h.elim
  | succ d =>
    obtain ⟨xs, h1, _, h2⟩ := ty_slice u144 h
    obtain ⟨fs, hu, _⟩ := u214
    obtain ⟨l, hl, he⟩ := list_of (t := 214) (fun p : PStep => [.str p.key, .int .i64 p.at_, .bool p.idx]) pS (fun p => isStruct hu _) PStep.lim (fun x hx => ty_step _ x (h2 x hx))
    exact ⟨l, hl, by rw [h1, he]; rfl⟩
theorem ty_err : ∀ (d : Nat) (x : List V), Ty Tryz.prog d 146 x → ∃ e : PErr, (e.num ∧ ∀ y ∈ e.path, y.lim) ∧ x = [.sl .no (pSs e.path), .int .i64 e.e]
  | 0, _, h => h.elim
  | d + 1, x, h => by
    obtain ⟨fs, hu, hf⟩ := u146
    obtain ⟨hl, h0⟩ := fld_ty (u := 144) (off := 0) hu h (by rw [hf]; simp)
    obtain ⟨_, h1⟩ := fld_ty (u := 27) (off := 1) hu h (by rw [hf]; simp)
    rw [c146] at hl
    rw [c144] at h0
    rw [c27] at h1
    obtain ⟨l, l0, e0⟩ := ty_path h0
    obtain ⟨n, e1, n0, n1⟩ := ty_int u27 h1
    refine ⟨⟨l, n⟩, ⟨⟨n0, n1⟩, l0⟩, ?_⟩
    match x, hl with
    | [v0, v1], _ =>
      have a := one_of e0
      have b := one_of e1
      simp at a b
      simp [a, b]
theorem ty_pen : ∀ (d : Nat) (x : List V), Ty Tryz.prog d 148 x →
    ∃ e : PPen, ((-9223372036854775808 ≤ e.id ∧ e.id ≤ 9223372036854775807) ∧ (∀ y ∈ e.path, y.lim) ∧ e.label.length ≤ 9223372036854775807) ∧ x = [.int .i64 e.id, .sl .no (pSs e.path), .str e.label, .bool e.named]
  | 0, _, h => h.elim
  | d + 1, x, h => by
    obtain ⟨fs, hu, hf⟩ := u148
    obtain ⟨hl, h0⟩ := fld_ty (u := 3) (off := 0) hu h (by rw [hf]; simp)
    obtain ⟨_, h1⟩ := fld_ty (u := 144) (off := 1) hu h (by rw [hf]; simp)
    obtain ⟨_, h2⟩ := fld_ty (u := 9) (off := 2) hu h (by rw [hf]; simp)
    obtain ⟨_, h3⟩ := fld_ty (u := 4) (off := 3) hu h (by rw [hf]; simp)
    rw [c148] at hl
    rw [c3] at h0
    rw [c144] at h1
    rw [c9] at h2
    rw [c4] at h3
    obtain ⟨n, e0, n0, n1⟩ := ty_int u3 h0
    obtain ⟨l, l0, e1⟩ := ty_path h1
    obtain ⟨s, e2, s0⟩ := ty_str u9 h2
    obtain ⟨b, e3⟩ := ty_bool h3
    refine ⟨⟨n, l, s, b⟩, ⟨⟨n0, n1⟩, l0, s0⟩, ?_⟩
    match x, hl with
    | [v0, v1, v2, v3], _ =>
      have a := one_of e0
      have b := one_of e1
      have c := one_of e2
      have d := one_of e3
      simp at a b c d
      simp [a, b, c, d]
theorem ty_strs {d : Nat} {vs : List V} (h : Ty Tryz.prog d 49 vs) : ∃ l : List (List UInt8), (∀ x ∈ l, x.length ≤ 9223372036854775807) ∧ vs = [.sl .no (sgVs l)] := by
  cases d with
  | zero => exact h.elim
  | succ d =>
    obtain ⟨xs, h1, _, h2⟩ := ty_slice u49 h
    obtain ⟨l, hl, he⟩ := list_of (t := 9) (fun s : List UInt8 => [.str s]) V.str (fun s => is9 _) (fun s => s.length ≤ 9223372036854775807) (fun x hx => by
      obtain ⟨s, e, hs⟩ := ty_str u9 (h2 x hx)
      exact ⟨s, hs, e⟩)
    exact ⟨l, hl, by rw [h1, he]; rfl⟩

theorem pay_of : ∀ (d : Nat) (x : List V), Ty Tryz.prog d 51 x → ∃ p : Pay, p.ok ∧ x = payC p
  | 0, _, h => h.elim
  | d + 1, x, h => by
    obtain ⟨fs, hu, hf⟩ := u51
    obtain ⟨hl, h0⟩ := fld_ty (u := 4) (off := 0) hu h (by rw [hf]; simp)
    obtain ⟨_, h1⟩ := fld_ty (u := 46) (off := 1) hu h (by rw [hf]; simp)
    obtain ⟨_, h2⟩ := fld_ty (u := 47) (off := 6) hu h (by rw [hf]; simp)
    obtain ⟨_, h3⟩ := fld_ty (u := 48) (off := 7) hu h (by rw [hf]; simp)
    obtain ⟨_, h4⟩ := fld_ty (u := 4) (off := 8) hu h (by rw [hf]; simp)
    obtain ⟨_, h5⟩ := fld_ty (u := 3) (off := 9) hu h (by rw [hf]; simp)
    obtain ⟨_, h6⟩ := fld_ty (u := 4) (off := 10) hu h (by rw [hf]; simp)
    obtain ⟨_, h7⟩ := fld_ty (u := 49) (off := 11) hu h (by rw [hf]; simp)
    obtain ⟨_, h8⟩ := fld_ty (u := 4) (off := 12) hu h (by rw [hf]; simp)
    obtain ⟨_, h9⟩ := fld_ty (u := 4) (off := 13) hu h (by rw [hf]; simp)
    obtain ⟨_, h10⟩ := fld_ty (u := 4) (off := 14) hu h (by rw [hf]; simp)
    rw [c51] at hl
    rw [c4] at h0 h4 h6 h8 h9 h10
    rw [c46] at h1
    rw [c47] at h2
    rw [c48] at h3
    rw [c3] at h5
    rw [c49] at h7
    obtain ⟨fi, e0⟩ := ty_bool h0
    obtain ⟨v, hv, e1⟩ := jv_of _ _ h1
    obtain ⟨er, her, e2⟩ : ∃ l : List PErr, (∀ e ∈ l, e.num ∧ ∀ y ∈ e.path, y.lim) ∧ (x.drop 6).take 1 = [.sl .no (erVs l)] := by
      cases d with
      | zero => exact h2.elim
      | succ d =>
        obtain ⟨xs, q1, _, q2⟩ := ty_slice u47 h2
        obtain ⟨gs, hg, _⟩ := u146
        obtain ⟨l, hl, he⟩ := list_of (t := 146) (fun e : PErr => [.sl .no (pSs e.path), .int .i64 e.e]) erV (fun p => isStruct hg _) (fun e => e.num ∧ ∀ y ∈ e.path, y.lim) (fun x hx => ty_err _ x (q2 x hx))
        exact ⟨l, hl, by rw [q1, he]; rfl⟩
    obtain ⟨pe, hpe, e3⟩ : ∃ l : List PPen, (∀ e ∈ l, (-9223372036854775808 ≤ e.id ∧ e.id ≤ 9223372036854775807) ∧ (∀ y ∈ e.path, y.lim) ∧ e.label.length ≤ 9223372036854775807) ∧ (x.drop 7).take 1 = [.sl .no (pnVs l)] := by
      cases d with
      | zero => exact h3.elim
      | succ d =>
        obtain ⟨xs, q1, _, q2⟩ := ty_slice u48 h3
        obtain ⟨gs, hg, _⟩ := u148
        obtain ⟨l, hl, he⟩ := list_of (t := 148) (fun e : PPen => [.int .i64 e.id, .sl .no (pSs e.path), .str e.label, .bool e.named]) pnV (fun p => isStruct hg _)
          (fun e => (-9223372036854775808 ≤ e.id ∧ e.id ≤ 9223372036854775807) ∧ (∀ y ∈ e.path, y.lim) ∧ e.label.length ≤ 9223372036854775807) (fun x hx => ty_pen _ x (q2 x hx))
        exact ⟨l, hl, by rw [q1, he]; rfl⟩
    obtain ⟨rc, e4⟩ := ty_bool h4
    obtain ⟨id, e5, i0, i1⟩ := ty_int u3 h5
    obtain ⟨st, e6⟩ := ty_bool h6
    obtain ⟨od, hod, e7⟩ := ty_strs h7
    obtain ⟨en, e8⟩ := ty_bool h8
    obtain ⟨fa, e9⟩ := ty_bool h9
    obtain ⟨mo, e10⟩ := ty_bool h10
    refine ⟨⟨fi, v, er, pe, rc, id, st, od, en, fa, mo⟩, ⟨hv, her, hpe, hod, ⟨i0, i1⟩⟩, ?_⟩
    have a0 := one_of e0
    have a2 := one_of e2
    have a3 := one_of e3
    have a4 := one_of e4
    have a5 := one_of e5
    have a6 := one_of e6
    have a7 := one_of e7
    have a8 := one_of e8
    have a9 := one_of e9
    have a10 := one_of e10
    clear h0 h1 h2 h3 h4 h5 h6 h7 h8 h9 h10 e0 e2 e3 e4 e5 e6 e7 e8 e9 e10 h
    match x, hl with
    | [v0, v1, v2, v3, v4, v5, v6, v7, v8, v9, v10, v11, v12, v13, v14], _ =>
      simp at a0 a2 a3 a4 a5 a6 a7 a8 a9 a10 e1
      simp [payC, ← e1, a0, a2, a3, a4, a5, a6, a7, a8, a9, a10]
theorem is51 (x : List V) : packT Tryz.prog 51 x = .agg x := by
  obtain ⟨fs, hu, _⟩ := u51
  exact isStruct hu x

end Go.Proofs.YtboejpobmpfifaaGreatDoor.Eng
