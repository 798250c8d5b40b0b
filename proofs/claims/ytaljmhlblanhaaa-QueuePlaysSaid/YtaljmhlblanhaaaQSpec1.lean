/-
  The queue of numbers: what stands in the memory, Len, Put, New. No condition.
-/
import Derived.Test.YtaljmhlblanhaaaEngS
import Derived.Test.YtaljmhlblanhaaaQTab
namespace Go.Proofs.Ytaljmhlblanhaaa.Eng
open Go
set_option linter.unusedSimpArgs false
set_option linter.unusedVariables false

attribute [local simp] evC_reg evC_regD evR_cons evR_nil runR_some regK_some evC_ret evC_skip evC_exit Out_seq Out_blk Out_some seqQ_norm seqQ_ret seqQ_exit blkQ_norm blkQ_ret blkQ_exit loopQ_norm loopQ_ret loopQ_exit
attribute [local simp] stepR evOp put upd_apply X.ev initEnv cells_agg cells_int cells_str cells_bool cells_sl cells_ptr cells_pnil cells_fn cells_map takeN evBin isSh intBin strBin callK resOf packR fin V.plain plainL V.und undL scK kill dstsO dstsL dstsR ite_some ite_pair ite_vbool evUn evLoad evLen V.real finLoop_false quietK_false kill_none

def G : Gp := ⟨tab, fun _ => none⟩

theorem putL_eq : ∀ (vs cs : List V) (off : Nat), off + vs.length ≤ cs.length → putL cs off vs = cs.take off ++ (vs ++ cs.drop (off + vs.length))
  | [], cs, off, h => by simp [putL]
  | v :: vs, cs, off, h => by
    have hlt : off < cs.length := by simp at h; omega
    simp only [putL]
    rw [putL_eq vs (cs.set off v) (off + 1) (by simp at h ⊢; omega), List.take_add_one, List.take_set_of_le (by omega), List.drop_set_of_lt (by omega)]
    simp [hlt]
    congr 1
    omega

abbrev T := Int
@[reducible] def tv (x : T) : V := .int .i64 x
abbrev E := T × Int
def fl : List E → List V
  | [] => []
  | e :: L => tv e.1 :: .int .i64 e.2 :: fl L

@[simp] theorem fl_length : ∀ L : List E, (fl L).length = L.length * 2
  | [] => rfl
  | e :: L => by simp [fl, fl_length L]; omega
theorem fl_append : ∀ L M : List E, fl (L ++ M) = fl L ++ fl M
  | [], M => rfl
  | e :: L, M => by simp [fl, fl_append L M]
theorem fl_drop : ∀ (L : List E) (i : Nat), (fl L).drop (i * 2) = fl (L.drop i)
  | [], i => by simp [fl]
  | e :: L, 0 => by simp
  | e :: L, i + 1 => by
    have : (i + 1) * 2 = i * 2 + 1 + 1 := by omega
    rw [this]
    simp [fl, fl_drop L i]
theorem fl_take : ∀ (L : List E) (i : Nat), (fl L).take (i * 2) = fl (L.take i)
  | [], i => by simp [fl]
  | e :: L, 0 => by simp [fl]
  | e :: L, i + 1 => by
    have : (i + 1) * 2 = i * 2 + 1 + 1 := by omega
    rw [this]
    simp [fl, fl_take L i]
theorem fl_one : ∀ (L : List E), (fl L).all V.one = true
  | [] => rfl
  | e :: L => by
    have := fl_one L
    simp only [fl, List.all_cons, this, Bool.and_true]
    rfl

/-- Queue q of patience p holds L; its things stand in object a (if any). -/
def QS (s : St) (q : Nat) (a : Option Nat) (p : Int) (L : List E) : Prop :=
  match a with
  | none => L = [] ∧ s.obs[q]? = some (.cells 54 [.int .i64 p, .sl .nil []])
  | some a => s.obs[q]? = some (.cells 54 [.int .i64 p, .msl a 2 0 L.length]) ∧ ∃ rest k, s.obs[a]? = some (.arr 56 (fl L ++ rest)) ∧ rest.all V.one = true ∧ rest.length = k * 2

theorem QS.lt {s : St} {q : Nat} {a : Option Nat} {p : Int} {L : List E} (h : QS s q a p L) : q < s.obs.length ∧ ∀ i, a = some i → i < s.obs.length ∧ i ≠ q := by
  have hl : ∀ (i : Nat) (o : AObj), s.obs[i]? = some o → i < s.obs.length := fun i o h => (List.getElem?_eq_some_iff.1 h).1
  cases a with
  | none => exact ⟨hl _ _ h.2, fun i hi => by cases hi⟩
  | some a =>
    obtain ⟨h1, rest, k, h2, _⟩ := h
    refine ⟨hl _ _ h1, fun i hi => ?_⟩
    cases hi
    refine ⟨hl _ _ h2, fun e => ?_⟩
    subst e
    rw [h1] at h2
    cases h2

/-- What another object's turn leaves. -/
theorem QS.frame {s s' : St} {q : Nat} {a : Option Nat} {p : Int} {L : List E} (h : QS s q a p L) (hq : s'.obs[q]? = s.obs[q]?) (ha : ∀ i, a = some i → s'.obs[i]? = s.obs[i]?) : QS s' q a p L := by
  cases a with
  | none => exact ⟨h.1, by rw [hq]; exact h.2⟩
  | some a =>
    obtain ⟨h1, rest, k, h2, h3⟩ := h
    exact ⟨by rw [hq]; exact h1, rest, k, by rw [ha a rfl]; exact h2, h3⟩

theorem len_spec {s : St} {q : Nat} {a : Option Nat} {p : Int} {L : List E} (h : QS s q a p L) : call G 8 [.ptr q 0] s = some (.int .i64 L.length, s) := by
  refine call_out (F := af8) rfl rfl ?_
  cases a with
  | none =>
    obtain ⟨rfl, h⟩ := h
    simp [af8, af8b, h]
  | some a =>
    obtain ⟨h1, _⟩ := h
    simp [af8, af8b, h1]

theorem new_spec (p : Int) (s : St) : ∃ s', call G 7 [.int .i64 p] s = some (.ptr s.obs.length 0, s') ∧ QS s' s.obs.length none (if 0 > p then 0 else p) [] ∧ s'.obs.length = s.obs.length + 1 ∧ (∀ i, i < s.obs.length → s'.obs[i]? = s.obs[i]?) ∧ s'.bufs = s.bufs := by
  refine ⟨{ s with obs := s.obs ++ [.cells 54 [.int .i64 (if 0 > p then 0 else p), .sl .nil []]] }, ?_, ?_, ?_, ?_, rfl⟩
  · refine call_out (F := af7) rfl rfl ?_
    simp [af7, af7b, evMxn, fillL, putL]
  · simp [QS]
  · simp
  · intro i hi
    simp [List.getElem?_append_left hi]

theorem put_spec {s : St} {q : Nat} {a : Option Nat} {p : Int} {L : List E} (h : QS s q a p L) (x : T) (hL : L.length ≤ 1000000) :
    ∃ s' a', call G 9 [.ptr q 0, tv x] s = some (.tup [], s') ∧ QS s' q (some a') p (L ++ [(x, 0)]) ∧ s.obs.length ≤ s'.obs.length ∧ (a = some a' ∨ s.obs.length ≤ a') ∧
      (∀ i, i < s.obs.length → i ≠ q → a ≠ some i → s'.obs[i]? = s.obs[i]?) ∧ s'.bufs = s.bufs := by
  have hlt := h.lt
  cases a with
  | none =>
    obtain ⟨rfl, h⟩ := h
    have hA : ∀ o, (s.obs ++ [o])[q]? = some (.cells 54 [.int .i64 p, .sl .nil []]) := fun o => by rw [List.getElem?_append_left hlt.1]; exact h
    have hS : ∀ o o', (s.obs ++ [o]).set q o' = s.obs.set q o' ++ [o] := fun o o' => by rw [List.set_append_left _ _ hlt.1]
    refine ⟨{ s with obs := s.obs.set q (.cells 54 [.int .i64 p, .msl s.obs.length 2 0 1]) ++ [.arr 56 [tv x, .int .i64 0]] }, s.obs.length, ?_, ?_, ?_, ?_, ?_, rfl⟩
    · refine call_out (F := af9) rfl rfl ?_
      simp [af9, af9b, h, fillL, fillS, putL, evAppm, srcCells, fits, room, V.one, evStore, V.cells, hA, hS]
    · refine ⟨?_, [], 0, ?_, rfl, rfl⟩
      · simp [List.getElem?_append_left, hlt.1]
      · simp [fl]
    · simp
    · simp
    · intro i hi hq _
      simp [List.getElem?_append_left, hi, Ne.symm hq]
  | some a =>
    obtain ⟨h1, rest, k, h2, h3, h4⟩ := h
    obtain ⟨ha, haq⟩ := hlt.2 a rfl
    have hone' := fl_one L
    cases k with
    | zero =>
      have : rest = [] := by cases rest with
        | nil => rfl
        | cons _ _ => simp at h4
      subst this
      have hA : ∀ o, (s.obs.set a .dead ++ [o])[q]? = some (.cells 54 [.int .i64 p, .msl a 2 0 L.length]) := fun o => by
        rw [List.getElem?_append_left (by simpa using hlt.1), List.getElem?_set_ne haq]; exact h1
      have hS : ∀ o o', (s.obs.set a .dead ++ [o]).set q o' = (s.obs.set a .dead).set q o' ++ [o] := fun o o' => by rw [List.set_append_left _ _ (by simpa using hlt.1)]
      have c3 : (L.length + 1) * 16 ≤ 140737488355328 := by omega
      have c2 : ¬ (L.length + 1) * 2 ≤ L.length * 2 := by omega
      refine ⟨{ s with obs := (s.obs.set a .dead).set q (.cells 54 [.int .i64 p, .msl s.obs.length 2 0 (L.length + 1)]) ++ [.arr 56 (fl L ++ [tv x, .int .i64 0])] }, s.obs.length, ?_, ?_, ?_, ?_, ?_, rfl⟩
      · rw [List.append_nil] at h2
        have hap : evAppm 2 (16, 56) (.msl a 2 0 L.length) (.sl .no [.agg [tv x, .int .i64 0]]) s = some (.msl s.obs.length 2 0 (L.length + 1), { s with obs := s.obs.set a .dead ++ [.arr 56 (fl L ++ [tv x, .int .i64 0])] }) := by
          have hsrc : srcCells 2 (.sl .no [.agg [tv x, .int .i64 0]]) s = some ([tv x, .int .i64 0], 1) := by simp [srcCells, fits, V.one, V.cells]
          simp only [evAppm, hsrc, h2]
          rw [if_neg (by decide), if_pos ⟨trivial, trivial⟩, if_neg (by simp <;> omega), if_pos ⟨trivial, by simp, by simp [room] <;> omega, hone'⟩]
        refine call_out (F := af9) rfl rfl ?_
        simp [af9, af9b, h1, fillL, fillS, putL, hap, V.one, evStore, V.cells, hA, hS]
      · refine ⟨?_, [], 0, ?_, rfl, rfl⟩
        · simp [List.getElem?_append_left, hlt.1]
        · simp [fl_append, fl]
      · simp
      · simp
      · intro i hi hq ha'
        have : ¬ a = i := fun e => ha' (by rw [e])
        simp [List.getElem?_append_left, hi, Ne.symm hq, List.getElem?_set, this]
    | succ k => 
      have c2 : (L.length + 1) * 2 ≤ (fl L ++ rest).length := by simp; omega
      have hp : putL (fl L ++ rest) (L.length * 2) [tv x, .int .i64 0] = fl (L ++ [(x, 0)]) ++ rest.drop 2 := by
        rw [putL_eq _ _ _ (by simp; omega)]
        have e1 : (fl L ++ rest).take (L.length * 2) = fl L := by rw [List.take_append_of_le_length (by simp), List.take_of_length_le (by simp)]
        have e2 : (fl L ++ rest).drop (L.length * 2 + 2) = rest.drop 2 := by rw [List.drop_append, List.drop_of_length_le (by simp), fl_length, Nat.add_sub_cancel_left, List.nil_append]
        simp [e1, e2, fl_append, fl]
      have hA : ∀ o, (s.obs.set a o)[q]? = some (.cells 54 [.int .i64 p, .msl a 2 0 L.length]) := fun o => by rw [List.getElem?_set_ne haq]; exact h1
      refine ⟨{ s with obs := (s.obs.set a (.arr 56 (fl (L ++ [(x, 0)]) ++ rest.drop 2))).set q (.cells 54 [.int .i64 p, .msl a 2 0 (L.length + 1)]) }, a, ?_, ?_, ?_, ?_, ?_, rfl⟩
      · have hap : evAppm 2 (16, 56) (.msl a 2 0 L.length) (.sl .no [.agg [tv x, .int .i64 0]]) s = some (.msl a 2 0 (L.length + 1), { s with obs := s.obs.set a (.arr 56 (fl (L ++ [(x, 0)]) ++ rest.drop 2)) }) := by
          have hsrc : srcCells 2 (.sl .no [.agg [tv x, .int .i64 0]]) s = some ([tv x, .int .i64 0], 1) := by simp [srcCells, fits, V.one, V.cells]
          simp only [evAppm, hsrc, h2]
          rw [if_neg (by decide), if_pos ⟨trivial, trivial⟩, if_pos (by rw [Nat.zero_add]; exact c2), Nat.zero_add, hp]
        refine call_out (F := af9) rfl rfl ?_
        simp [af9, af9b, h1, fillL, fillS, putL, hap, V.one, evStore, V.cells, hA]
      · refine ⟨?_, rest.drop 2, k, ?_, ?_, ?_⟩
        · simp [hlt.1]
        · rw [List.getElem?_set_ne (Ne.symm haq)]
          simp [ha]
        · rw [List.all_eq_true] at h3 ⊢
          exact fun v hv => h3 v (List.mem_of_mem_drop hv)
        · simp [h4]; omega
      · simp
      · simp
      · intro i hi hq ha'
        have : ¬ a = i := fun e => ha' (by rw [e])
        simp [Ne.symm hq, List.getElem?_set, this]
end Go.Proofs.Ytaljmhlblanhaaa.Eng
