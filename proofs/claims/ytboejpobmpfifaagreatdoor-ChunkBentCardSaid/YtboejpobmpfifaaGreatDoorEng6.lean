/-
  Each operation does in the world what the evaluator says (all but append and calls): the cases. No condition.
-/
import Derived.Test.YtboejpobmpfifaaGreatDoorEng5
import Derived.Laws.Strings
import Derived.Laws.Strings2
namespace Go.Proofs.YtboejpobmpfifaaGreatDoor.Eng
open Go Go.RowKit
set_option linter.unusedSimpArgs false

section
variable {P : Program} {B : Nat} {w0 : World} {S : Sit}

/-- A growing buffer, still empty. -/
def Sit.nilb (S : Sit) (by_ : Nat × TypeId) : Sit :=
  { S with st := ⟨S.st.obs, S.st.bufs ++ [(0, by_)]⟩, ρ := fun i => if i = S.st.bufs.length then (0, 0, 0) else S.ρ i }

theorem Ext.nilb (S : Sit) (by_ : Nat × TypeId) : Ext S (S.nilb by_) where
  hid b q hb := ⟨hb, rfl⟩
  size := Nat.le_refl _
  shape _ _ := rfl
  cell _ _ _ := rfl
  own a _ ho := by
    rcases ho with ho | ⟨i, hi, h1, h2, h3⟩ | hh
    rotate_left 2
    · exact .inr (.inr hh)
    · exact .inl ho
    · simp only [Sit.nilb, List.length_append, List.length_cons, List.length_nil] at hi h1 h2 h3
      by_cases e : i = S.st.bufs.length
      · rw [if_pos e] at h3; simp at h3
      · rw [if_neg e] at h1 h2 h3; exact .inr (.inl ⟨i, by omega, h1, h2, h3⟩)
  obs := Nat.le_refl _
  bufs := by simp [Sit.nilb]
  mu _ _ := rfl
  buf i m b hi hm := by
    simp only [Sit.nilb] at hm ⊢
    rw [List.getElem?_append_left hi] at hm
    rw [if_neg (by omega)]
    exact ⟨m, b, hm, .inr (.inl ⟨rfl, rfl, rfl⟩)⟩
  tau _ _ _ _ _ _ := rfl

theorem nilb_live {by_ : Nat × TypeId} {i : Nat} (hi : i ≠ S.st.bufs.length) (h : (S.nilb by_).live i) : S.live i := by
  rcases h with h | ⟨m, q, h, h0⟩
  · simp only [Sit.nilb, if_neg hi] at h; exact .inl h
  · refine .inr ⟨m, q, ?_, h0⟩
    simp only [Sit.nilb] at h
    rcases Nat.lt_or_ge i S.st.bufs.length with x | x
    · rwa [List.getElem?_append_left x] at h
    · rw [List.getElem?_eq_none (by simp; omega)] at h; cases h

theorem nilb_dead {by_ : Nat × TypeId} : ¬ (S.nilb by_).live S.st.bufs.length := by
  rintro (h | ⟨m, q, h, h0⟩)
  · simp [Sit.nilb] at h
  · simp [Sit.nilb] at h
    omega

theorem Inv.nilb (h : Inv B w0 S) (by_ : Nat × TypeId) : Inv B w0 (S.nilb by_) where
  below := h.below
  base := h.base
  hid b q hb := by
    obtain ⟨h1, h2, h3, h4⟩ := h.hid b q hb
    refine ⟨h1, h2, h3, ?_⟩
    intro i hi hl
    by_cases e : i = S.st.bufs.length
    · subst e; exact absurd hl nilb_dead
    · have := h4 i (by simp [Sit.nilb] at hi; omega) (nilb_live e hl)
      simp only [Sit.nilb, if_neg e]
      exact this
  obj i o hi := ⟨(h.obj i o hi).1, (h.obj i o hi).2.mono (Ext.nilb S by_) rfl⟩
  inj := h.inj
  injc := h.injc
  buf i hi j h1 h2 := by
    simp only [Sit.nilb, List.length_append, List.length_cons, List.length_nil] at hi h1 h2 ⊢
    by_cases e : i = S.st.bufs.length
    · rw [if_pos e] at h2; simp at h2
    · rw [if_neg e] at h1 h2 ⊢; exact h.buf i (by omega) j h1 h2
  froz i hi hr := by
    simp only [Sit.nilb, List.length_append, List.length_cons, List.length_nil] at hi hr ⊢
    by_cases e : i = S.st.bufs.length
    · rw [if_pos e] at hr; simp at hr
    · rw [if_neg e] at hr ⊢; exact h.froz i (by omega) hr
  live i hi hr := by
    by_cases e : i = S.st.bufs.length
    · subst e; exact absurd hr nilb_dead
    · have := h.live i (by simp [Sit.nilb] at hi; omega) (nilb_live e hr)
      simp only [Sit.nilb, if_neg e]
      exact this
  bufobj i k hi hk hr := by
    by_cases e : i = S.st.bufs.length
    · subst e; exact absurd hr nilb_dead
    · have := h.bufobj i k (by simp [Sit.nilb] at hi; omega) (by simpa [Sit.nilb] using hk) (nilb_live e hr)
      simp only [Sit.nilb, if_neg e]
      exact this
  bufbuf i j hi hj hne h1 h2 := by
    by_cases e : i = S.st.bufs.length
    · subst e; exact absurd h1 nilb_dead
    · by_cases e' : j = S.st.bufs.length
      · subst e'; exact absurd h2 nilb_dead
      · have := h.bufbuf i j (by simp [Sit.nilb] at hi; omega) (by simp [Sit.nilb] at hj; omega) hne (nilb_live e h1) (nilb_live e' h2)
        simp only [Sit.nilb, if_neg e, if_neg e']
        exact this

/-! ### What a value is, by what it is worth -/
theorem Rel.int_inv {k : IntKind} {n : Int} {c : Value} (h : Rel S (.int k n) c) : c = .int k n := by cases h; rfl
theorem Rel.bool_inv {b : Bool} {c : Value} (h : Rel S (.bool b) c) : c = .bool b := by cases h; rfl
theorem Rel.str_inv {l : List UInt8} {c : Value} (h : Rel S (.str l) c) : c = .string ⟨l.toArray⟩ := by cases h; rfl
theorem Rel.ptr_inv {id off : Nat} {c : Value} (h : Rel S (.ptr id off) c) : c = .pointer (some ⟨S.μ id, off, none⟩) ∧ id < S.st.obs.length := by
  cases h with | ptr _ _ h => exact ⟨rfl, h⟩
theorem Rel.pnil_inv {c : Value} (h : Rel S .pnil c) : c = .pointer none := by cases h; rfl
theorem Rel.mnil_inv {c : Value} (h : Rel S .mnil c) : c = .map none := by cases h; rfl
theorem Rel.map_inv {id : Nat} {c : Value} (h : Rel S (.map id) c) : c = .map (some (S.μ id)) ∧ id < S.st.obs.length := by
  cases h with | map _ h => exact ⟨rfl, h⟩
theorem Rel.itr_inv {id : Nat} {c : Value} (h : Rel S (.itr id) c) : c = .pointer (some ⟨S.μ id, 0, none⟩) ∧ id < S.st.obs.length := by
  cases h with | itr _ h => exact ⟨rfl, h⟩
theorem Rel.ept_inv {cs : List V} {c : Value} (h : Rel S (.ept cs) c) : ∃ b off, c = .pointer (some ⟨b, off, none⟩) ∧ RelC S cs b off := by
  cases h with | ept _ b off h => exact ⟨b, off, rfl, h⟩
theorem Rel.agg_inv {cs : List V} {c : Value} (h : Rel S (.agg cs) c) : ∃ cc : List Value, c = .agg cc.toArray ∧ RelL S cs cc := by
  cases h with | agg _ cc h => exact ⟨cc, rfl, h⟩
theorem Rel.tup_inv {cs : List V} {c : Value} (h : Rel S (.tup cs) c) : ∃ cc : List Value, c = .tuple cc.toArray ∧ RelL S cs cc := by
  cases h with | tup _ cc h => exact ⟨cc, rfl, h⟩
theorem Rel.fn_inv {f : Fn} {xs ys : List V} {c : Value} (h : Rel S (.fn f xs ys) c) : ∃ cx cy : List Value, c = .func f cx.toArray cy.toArray ∧ RelL S xs cx ∧ RelL S ys cy := by
  cases h with | fn _ _ _ cx cy h1 h2 => exact ⟨cx, cy, rfl, h1, h2⟩

/-! ### Binary operators -/
theorem eqGuard_plain {op : BinOp} {t : TypeId} (x y : Operand) {c d : Value} (h : (∃ k n k' m, c = .int k n ∧ d = .int k' m) ∨ (∃ a b, c = .string a ∧ d = .string b) ∨
    (∃ a b, c = .bool a ∧ d = .bool b) ∨ (∃ a b, c = .pointer a ∧ d = .pointer b)) :
    (eqGuard op t x y c d).run P S.w = .ok () S.w := by
  rcases h with ⟨k, n, k', m, rfl, rfl⟩ | ⟨a, b, rfl, rfl⟩ | ⟨a, b, rfl, rfl⟩ | ⟨a, b, rfl, rfl⟩ <;> unfold eqGuard <;> split <;> simp

theorem intBin_ok {op : BinOp} {t : TypeId} {k : IntKind} {a b : Int} {v : V} (hs : isSh op = false) (he : intBin op k a b = some v) :
    ∃ r, (Go.binOp op t (.int k a) (.int k b)).run P S.w = .ok r S.w ∧ Rel S v r := by
  have hd : (a == b) = decide (a = b) := by rw [Bool.eq_iff_iff]; simp
  cases op <;> simp [isSh] at hs <;> simp only [intBin, Option.some.injEq] at he <;>
    first
      | (subst he; exact ⟨.bool (!decide (a = b)), by rw [← hd]; rfl, .bool _⟩)
      | (subst he; exact ⟨.bool (decide (a = b)), by rw [← hd]; rfl, .bool _⟩)
      | (subst he; exact ⟨.int k (k.wrap (BitVec.ofInt k.bits a &&& ~~~BitVec.ofInt k.bits b).toNat), by simp only [Go.binOp, Op.intBits]; rw [if_neg (by simp)]; rfl, .int _ _⟩)
      | (subst he; exact ⟨_, by simp [Go.binOp, Op.intArith, Op.intBits, Op.intCmp]; try rfl, by constructor⟩)
      | (split at he
         · cases he
         · rename_i hb
           simp at he; subst he
           exact ⟨_, by simp [Go.binOp, Op.intDiv, hb]; try rfl, by constructor⟩)

theorem shBin_ok {op : BinOp} {t : TypeId} {k k' : IntKind} {a b : Int} {v : V} (he : shBin op k a b = some v) :
    ∃ r, (Go.binOp op t (.int k a) (.int k' b)).run P S.w = .ok r S.w ∧ Rel S v r := by
  unfold shBin at he
  split at he
  · cases he
  · rename_i hb
    cases op <;> simp at he <;> (subst he; exact ⟨_, by simp [Go.binOp, Op.shift, hb]; try rfl, by constructor⟩)

theorem strBin_ok {op : BinOp} {t : TypeId} {a b : List UInt8} {v : V} (he : strBin op a b = some v) :
    ∃ r, (Go.binOp op t (.string ⟨a.toArray⟩) (.string ⟨b.toArray⟩)).run P S.w = .ok r S.w ∧ Rel S v r := by
  have happ : (⟨a.toArray⟩ : ByteArray) ++ ⟨b.toArray⟩ = ⟨(a ++ b).toArray⟩ := by
    apply ByteArray.ext
    simp
  have hsz : ∀ l : List UInt8, (⟨l.toArray⟩ : ByteArray).size = l.length := fun l => rfl
  have hd : ((⟨a.toArray⟩ : ByteArray).toList == (⟨b.toArray⟩ : ByteArray).toList) = decide (a = b) := by
    rw [ByteArray.toList_mk, ByteArray.toList_mk, Bool.eq_iff_iff]; simp
  cases op <;> simp only [strBin, Option.some.injEq] at he <;>
    first
      | (subst he; exact ⟨.bool (decide (a = b)), by rw [← hd]; rfl, .bool _⟩)
      | (subst he; exact ⟨.bool (!decide (a = b)), by rw [← hd]; rfl, .bool _⟩)
      | (subst he; exact ⟨.bool (Op.bytesLess a b), by simp [Go.binOp, Op.stringOp], .bool _⟩)
      | (subst he; exact ⟨.bool (Op.bytesLess a b || decide (a = b)), by rw [← hd]; simp [Go.binOp, Op.stringOp], .bool _⟩)
      | (subst he; exact ⟨.bool (!(Op.bytesLess a b || decide (a = b))), by rw [← hd]; simp [Go.binOp, Op.stringOp], .bool _⟩)
      | (subst he; exact ⟨.bool (!Op.bytesLess a b), by simp [Go.binOp, Op.stringOp], .bool _⟩)
      | (subst he; exact ⟨_, by simp [Go.binOp, Op.stringOp, ByteArray.toList_mk]; try rfl, by constructor⟩)
      | (split at he
         · rename_i hb
           simp only [Option.some.injEq] at he; subst he
           have hb' : ¬ (((a.length + b.length : Nat) : Int) > IntKind.i64.max) := by
             have : IntKind.i64.max = i64max := rfl
             rw [this]; omega
           refine ⟨.string ⟨(a ++ b).toArray⟩, ?_, .str _⟩
           simp only [Go.binOp, Op.stringOp, hsz, if_neg hb', happ]
           rfl
         · cases he)
      | cases he

theorem evBin_ok {op : BinOp} {t : TypeId} {x y v : V} {c d : Value} (x' y' : Operand) (hx : Rel S x c) (hy : Rel S y d) (he : evBin op x y = some v) :
    (eqGuard op t x' y' c d).run P S.w = .ok () S.w ∧ ∃ r, (Go.binOp op t c d).run P S.w = .ok r S.w ∧ Rel S v r := by
  unfold evBin at he
  split at he
  · rename_i k a k' b
    rw [hx.int_inv, hy.int_inv]
    refine ⟨eqGuard_plain _ _ (.inl ⟨_, _, _, _, rfl, rfl⟩), ?_⟩
    split at he
    · exact shBin_ok he
    · rename_i hs
      split at he
      · rename_i hk
        subst hk
        exact intBin_ok (by simpa using hs) he
      · cases he
  · rename_i a b
    rw [hx.str_inv, hy.str_inv]
    exact ⟨eqGuard_plain _ _ (.inr (.inl ⟨_, _, rfl, rfl⟩)), strBin_ok he⟩
  · cases he

/-! ### The pure operations, and loads -/
theorem evUn_ok {op : UnOp} {x v : V} {c : Value} (hx : Rel S x c) (he : evUn op x = some v) : ∃ r, (Op.unary op c).run P S.w = .ok r S.w ∧ Rel S v r := by
  unfold evUn at he
  split at he
  · rw [hx.int_inv]; simp at he; subst he
    rename_i k n
    exact ⟨.int k (k.wrap (-n)), by simp [Op.unary, Op.intArith], .int _ _⟩
  · rw [hx.bool_inv]; simp at he; subst he
    exact ⟨_, by simp [Op.unary], .bool _⟩
  · cases he

theorem equal_unfold (t : TypeId) (x y : Value) : Op.equal t x y = Op.equalIn (9999 + 1) t x y := rfl

theorem bool_eq_run {t : TypeId} (hu : P.underlying t = some .bool) (a b : Bool) (w : World) : (Op.equal t (.bool a) (.bool b)).run P w = .ok (a == b) w := by
  rw [equal_unfold, Op.equalIn, Sem.run_bind, run_underlying hu]
  rfl

theorem eqb_ok {op : BinOp} {neg : Bool} {t : TypeId} (hu : P.underlying t = some .bool) (hop : (op = .eql ∧ neg = false) ∨ (op = .neq ∧ neg = true)) (a b : Bool) :
    (Go.binOp op t (.bool a) (.bool b)).run P S.w = .ok (.bool ((a == b) != neg)) S.w := by
  rcases hop with ⟨rfl, rfl⟩ | ⟨rfl, rfl⟩ <;> simp [Go.binOp, bool_eq_run hu] <;> cases a <;> cases b <;> rfl

theorem samePtr_run {t e : TypeId} {n : Nat} (hu : P.underlying t = some (.pointer e)) (hn : szOf P e = some n) (h0 : n ≠ 0) {a b : Addr} (hs : a.block = b.block ∨
    (a.block ≠ b.block ∧ (∃ c ty, S.w.heap[a.block]? = some (.cells c ty (0, 0))) ∧ (∃ c ty, S.w.heap[b.block]? = some (.cells c ty (0, 0)) ∧ 0 < c.size) ∧ (∃ c ty, S.w.heap[a.block]? = some (.cells c ty (0, 0)) ∧ 0 < c.size))) :
    (Op.equal t (.pointer (some a)) (.pointer (some b))).run P S.w = .ok (decide (a.block = b.block ∧ a = b)) S.w := by
  have hsame : (sameAddr a b).run P S.w = .ok (decide (a.block = b.block ∧ a = b)) S.w := by
    rcases hs with h | ⟨h, ⟨c, ty, hc⟩, ⟨d, ty', hd, hd0⟩, ⟨c', ty'', hc', hc0⟩⟩
    · unfold sameAddr
      simp [h]
      by_cases e : a = b <;> simp [e, h]
    · have hb : (a.block == b.block) = false := by simpa using h
      have hf : S.w.frozen? a = false := by simp [World.frozen?, hc]
      have hf' : S.w.frozen? b = false := by simp [World.frozen?, hd]
      unfold sameAddr
      have hsa : S.w.shape? a.block = some (ty, c.size) := by simp [World.shape?, hc]
      have hsb : S.w.shape? b.block = some (ty', d.size) := by simp [World.shape?, hd]
      have hc0' : c.size ≠ 0 := by rw [hc] at hc'; cases hc'; omega
      have hg : ∀ n, S.w.frozen? { block := a.block, off := n } = false := by intro n; simp [World.frozen?, hc]
      have hg' : ∀ n, S.w.frozen? { block := b.block, off := n } = false := by intro n; simp [World.frozen?, hd]
      have hne : ¬ (a.block = b.block) := h
      simp [hb, hf, hf', noView, viewAt, hsa, hsb, mayBeOne, stringish, hg, hg', hne]
  have he : (sizeOf e).run P S.w = .ok n S.w := run_sizeOf' hn S.w
  rw [equal_unfold, Op.equalIn, Sem.run_bind, run_underlying hu]
  simp [he, h0, hsame]

theorem Rel.one_real {v : V} (h : v.one = true) : v.real = true := by cases v <;> first | rfl | simp [V.one] at h

end
end Go.Proofs.YtboejpobmpfifaaGreatDoor.Eng
