/-
  What names nothing that is dropped stays worth what it was. No condition.
-/
import Derived.Test.YtboejpobmpfifaaGreatDoorEngB
namespace Go.Proofs.YtboejpobmpfifaaGreatDoor.Eng
open Go Go.RowKit
set_option linter.unusedSimpArgs false

mutual
theorem V.und_mono {n b n' b' : Nat} (hn : n ≤ n') (hb : b ≤ b') : ∀ v : V, v.und n b = true → v.und n' b' = true
  | .fn f xs ys, h => by
    simp only [V.und, Bool.and_eq_true] at h ⊢
    exact ⟨undL_mono hn hb xs h.1, undL_mono hn hb ys h.2⟩
  | .sl (.buf i) xs, h => by
    simp only [V.und, Bool.and_eq_true, decide_eq_true_eq] at h ⊢
    exact ⟨by omega, undL_mono hn hb xs h.2⟩
  | .sl .no xs, h => by
    simp only [V.und] at h ⊢
    exact undL_mono hn hb xs h
  | .sl .nil xs, h => by
    simp only [V.und] at h ⊢
    exact undL_mono hn hb xs h
  | .sl .emp xs, h => by
    simp only [V.und] at h ⊢
    exact undL_mono hn hb xs h
  | .agg cs, h => by simp only [V.und] at h ⊢; exact undL_mono hn hb cs h
  | .tup cs, h => by simp only [V.und] at h ⊢; exact undL_mono hn hb cs h
  | .ept cs, h => by simp only [V.und] at h ⊢; exact undL_mono hn hb cs h
  | .ptr _ _, h => by simp only [V.und, decide_eq_true_eq] at h ⊢; omega
  | .map _, h => by simp only [V.und, decide_eq_true_eq] at h ⊢; omega
  | .msl _ _ _ _, h => by simp only [V.und, decide_eq_true_eq] at h ⊢; omega
  | .itr _, h => by simp only [V.und, decide_eq_true_eq] at h ⊢; omega
  | .ifc _ v, h => by simp only [V.und] at h ⊢; exact V.und_mono hn hb v h
  | .dat i xs, h => by
    simp only [V.und, Bool.and_eq_true, decide_eq_true_eq] at h ⊢
    exact ⟨by omega, undL_mono hn hb xs h.2⟩
  | .slx i _ xs, h => by
    simp only [V.und, Bool.and_eq_true, decide_eq_true_eq] at h ⊢
    exact ⟨by omega, undL_mono hn hb xs h.2⟩
  | .spp i _ _, h => by simp only [V.und, decide_eq_true_eq] at h ⊢; omega
  | .epz i _ _ cs, h => by
    simp only [V.und, Bool.and_eq_true, decide_eq_true_eq] at h ⊢
    exact ⟨by omega, undL_mono hn hb cs h.2⟩
  | .junk, _ => rfl | .bool _, _ => rfl | .int _ _, _ => rfl | .str _, _ => rfl | .nilF, _ => rfl | .nilI, _ => rfl | .pnil, _ => rfl | .mnil, _ => rfl
theorem undL_mono {n b n' b' : Nat} (hn : n ≤ n') (hb : b ≤ b') : ∀ l : List V, undL n b l = true → undL n' b' l = true
  | [], _ => rfl
  | v :: l, h => by
    simp only [undL, Bool.and_eq_true] at h ⊢
    exact ⟨V.und_mono hn hb v h.1, undL_mono hn hb l h.2⟩
end

theorem AObj.und_mono {n b n' b' : Nat} (hn : n ≤ n') (hb : b ≤ b') (o : AObj) (h : o.und n b = true) : o.und n' b' = true := by
  cases o with
  | cells t cs => exact undL_mono hn hb cs h
  | map es clock =>
    simp only [AObj.und, List.all_eq_true, Bool.and_eq_true] at h ⊢
    exact fun e he => ⟨V.und_mono hn hb _ (h e he).1, V.und_mono hn hb _ (h e he).2⟩
  | iter _ _ => rfl
  | arr t cs => exact undL_mono hn hb cs h
  | dead => rfl

theorem undL_append (n b : Nat) (l m : List V) : undL n b (l ++ m) = (undL n b l && undL n b m) := by
  induction l with
  | nil => simp [undL]
  | cons v l ih => simp [undL, ih, Bool.and_assoc]

theorem V.und_cells (n b : Nat) (v : V) : undL n b v.cells = v.und n b := by
  cases v <;> simp [V.cells, undL, V.und]

theorem undL_flat (n b : Nat) : ∀ xs : List V, undL n b (xs.flatMap V.cells) = undL n b xs
  | [] => rfl
  | x :: xs => by simp only [List.flatMap_cons, undL_append, undL, V.und_cells, undL_flat n b xs]

section
variable {P : Program} {B : Nat} {w0 : World} {S : Sit}

mutual
theorem Rel.und {S : Sit} : ∀ {v : V} {c : Value}, Rel S v c → v.und S.st.obs.length S.st.bufs.length = true
  | _, _, .junk c => rfl
  | _, _, .bool b => rfl
  | _, _, .int k n => rfl
  | _, _, .str l => rfl
  | _, _, .nilF => rfl
  | _, _, .nilI => rfl
  | _, _, .pnil => rfl
  | _, _, .mnil => rfl
  | _, _, .fn f xs ys cx cy hx hy => by simp only [V.und, Bool.and_eq_true]; exact ⟨RelL.und hx, RelL.und hy⟩
  | _, _, .slNil => rfl
  | _, _, .slNo => rfl
  | _, _, .slNew _ => rfl
  | _, _, .slEmp _ => rfl
  | _, _, .slBuf i hi => by simp [V.und, undL, hi]
  | _, _, .slAt o xs b off cap sz h1 h2 h3 h4 => by
    have := RelC.und h3
    rw [undL_flat] at this
    cases o with
    | no => simpa only [V.und] using this
    | nil => exact h4.elim
    | emp => exact h4.elim
    | buf i =>
      obtain ⟨m, by_, hm, _⟩ := h4
      simp only [V.und, Bool.and_eq_true, decide_eq_true_eq]
      exact ⟨lt_of_get hm, this⟩
  | _, _, .msl id sz off len cap t hi _ _ => by simp [V.und, hi]
  | _, _, .agg cs cc hl => by simp only [V.und]; exact RelL.und hl
  | _, _, .tup cs cc hl => by simp only [V.und]; exact RelL.und hl
  | _, _, .ptr id off hi => by simp [V.und, hi]
  | _, _, .ept cs b off hc => by simp only [V.und]; exact RelC.und hc
  | _, _, .map id hi => by simp [V.und, hi]
  | _, _, .itr id hi => by simp [V.und, hi]
  | _, _, .ifc t v c hv => by simp only [V.und]; exact Rel.und hv
  | _, _, .dat i xs b off cap sz h1 h2 h3 h4 => by
    have := RelC.und h3
    rw [undL_flat] at this
    obtain ⟨m, by_, hm, _⟩ := h4
    simp only [V.und, Bool.and_eq_true, decide_eq_true_eq]
    exact ⟨lt_of_get hm, this⟩
  | _, _, .slx i sz xs b cap m by_ h1 h2 h3 h4 h5 h6 h7 => by
    have := RelC.und h4
    rw [undL_flat] at this
    simp only [V.und, Bool.and_eq_true, decide_eq_true_eq]
    exact ⟨lt_of_get h5, this⟩
  | _, _, .spp i sz n m by_ h1 h2 => by
    simp only [V.und, decide_eq_true_eq]
    exact lt_of_get h1
  | _, _, .epz i sz n cs m by_ h1 h2 h3 h4 => by
    simp only [V.und, Bool.and_eq_true, decide_eq_true_eq]
    exact ⟨lt_of_get h1, RelC.und h3⟩
theorem RelL.und {S : Sit} : ∀ {vs : List V} {cs : List Value}, RelL S vs cs → undL S.st.obs.length S.st.bufs.length vs = true
  | _, _, .nil => rfl
  | _, _, .cons v c vs cs hv hl => by simp only [undL, Bool.and_eq_true]; exact ⟨Rel.und hv, RelL.und hl⟩
theorem RelC.und {S : Sit} : ∀ {vs : List V} {b off : Nat}, RelC S vs b off → undL S.st.obs.length S.st.bufs.length vs = true
  | _, _, _, .nil b off => rfl
  | _, _, _, .cons v c vs b off h1 hc ho hv hl => by simp only [undL, Bool.and_eq_true]; exact ⟨Rel.und hv, RelC.und hl⟩
end

theorem RelO.und {o : AObj} {b : Nat} (h : RelO S o b) : o.und S.st.obs.length S.st.bufs.length = true := by
  cases o with
  | cells e cs => obtain ⟨cc, _, hl⟩ := h; exact hl.und
  | map es clock =>
    obtain ⟨l, hq, hr⟩ := h
    clear hq
    simp only [AObj.und, List.all_eq_true, Bool.and_eq_true]
    induction hr with
    | nil => intro e he; cases he
    | cons k v b es e l h1 h2 h3 h4 _ ih =>
      intro x hx
      rcases List.mem_cons.1 hx with rfl | hx
      · exact ⟨h2.und, h3.und⟩
      · exact ih x hx
  | iter _ _ => rfl
  | arr e cs => obtain ⟨cc, _, _, hl⟩ := h; exact hl.und
  | dead => rfl

/-- Objects from n on, and buffers from b on, dropped; blocks X hidden. -/
def Sit.dropH (S : Sit) (n b : Nat) (X : Nat → (Nat → Prop) → Prop) : Sit := { S with st := ⟨S.st.obs.take n, S.st.bufs.take b⟩, hid := fun k q => S.hid k q ∨ X k q }

def Sit.drop (S : Sit) (n b : Nat) : Sit := S.dropH n b fun _ _ => False

theorem Sit.drop_own {n b : Nat} {a : Addr} (h : (S.drop n b).own a) : S.own a := by
  rcases h with ⟨i, ⟨hi, hd⟩, hb⟩ | ⟨i, hi, hb⟩ | ⟨q, hh | hh, hq⟩
  · simp only [Sit.drop, Sit.dropH, List.length_take] at hi hd
    rw [List.getElem?_take, if_pos (by omega)] at hd
    exact .inl ⟨i, ⟨by omega, hd⟩, hb⟩
  · exact .inr (.inl ⟨i, by simp [Sit.drop, Sit.dropH] at hi; omega, hb⟩)
  · exact .inr (.inr ⟨q, hh, hq⟩)
  · exact hh.elim

mutual
theorem Rel.cutH {n b : Nat} {X : Nat → (Nat → Prop) → Prop} (hX : ∀ a, (S.dropH n b X).own a → S.own a) (hn : n ≤ S.st.obs.length) (hb : b ≤ S.st.bufs.length) : ∀ {v : V} {c : Value}, Rel S v c → v.und n b = true → Rel (S.dropH n b X) v c
  | _, _, .junk c, _ => .junk c
  | _, _, .bool b, _ => .bool b
  | _, _, .int k n, _ => .int k n
  | _, _, .str l, _ => .str l
  | _, _, .nilF, _ => .nilF
  | _, _, .nilI, _ => .nilI
  | _, _, .pnil, _ => .pnil
  | _, _, .mnil, _ => .mnil
  | _, _, .fn f xs ys cx cy hx hy, h => by
    simp only [V.und, Bool.and_eq_true] at h
    exact .fn f xs ys cx cy (RelL.cutH hX hn hb hx h.1) (RelL.cutH hX hn hb hy h.2)
  | _, _, .slNil, _ => .slNil
  | _, _, .slNo, _ => .slNo
  | _, _, .slNew a, _ => .slNew a
  | _, _, .slEmp a, _ => .slEmp a
  | _, _, .slBuf i hi, h => by
    simp only [V.und, Bool.and_eq_true, decide_eq_true_eq] at h
    exact .slBuf i (by simp [Sit.dropH]; omega)
  | _, _, .slAt o xs bl off cap sz h1 h2 h3 h4, h => by
    have hx : undL n b xs = true := by
      cases o with
      | no => simpa only [V.und] using h
      | nil => exact h4.elim
      | emp => exact h4.elim
      | buf i => simp only [V.und, Bool.and_eq_true] at h; exact h.2
    refine .slAt o xs bl off cap sz h1 h2 (RelC.cutH hX hn hb h3 (by rw [undL_flat]; exact hx)) ?_
    cases o with
    | no => trivial
    | nil => exact h4.elim
    | emp => exact h4.elim
    | buf i =>
      obtain ⟨m, by_, hm, hk⟩ := h4
      simp only [V.und, Bool.and_eq_true, decide_eq_true_eq] at h
      refine ⟨m, by_, ?_, hk⟩
      simp only [Sit.dropH]
      rw [List.getElem?_take, if_pos h.1]
      exact hm
  | _, _, .msl id sz off len cap t hi h1 h2, h => by
    simp only [V.und, decide_eq_true_eq] at h
    exact .msl (S := S.dropH n b X) id sz off len cap t (by simp [Sit.dropH]; omega) h1 h2
  | _, _, .agg cs cc hl, h => by simp only [V.und] at h; exact .agg cs cc (RelL.cutH hX hn hb hl h)
  | _, _, .tup cs cc hl, h => by simp only [V.und] at h; exact .tup cs cc (RelL.cutH hX hn hb hl h)
  | _, _, .ptr id off hi, h => by
    simp only [V.und, decide_eq_true_eq] at h
    exact .ptr (S := S.dropH n b X) id off (by simp [Sit.dropH]; omega)
  | _, _, .ept cs bl off hc, h => by simp only [V.und] at h; exact .ept cs bl off (RelC.cutH hX hn hb hc h)
  | _, _, .map id hi, h => by
    simp only [V.und, decide_eq_true_eq] at h
    exact .map (S := S.dropH n b X) id (by simp [Sit.dropH]; omega)
  | _, _, .itr id hi, h => by
    simp only [V.und, decide_eq_true_eq] at h
    exact .itr (S := S.dropH n b X) id (by simp [Sit.dropH]; omega)
  | _, _, .ifc t v c hv, h => by simp only [V.und] at h; exact .ifc t v c (Rel.cutH hX hn hb hv h)
  | _, _, .dat i xs bl off cap sz h1 h2 h3 h4, h => by
    simp only [V.und, Bool.and_eq_true, decide_eq_true_eq] at h
    refine .dat i xs bl off cap sz h1 h2 (RelC.cutH hX hn hb h3 (by rw [undL_flat]; exact h.2)) ?_
    obtain ⟨m, by_, hm, hk⟩ := h4
    refine ⟨m, by_, ?_, hk⟩
    simp only [Sit.dropH]
    rw [List.getElem?_take, if_pos h.1]
    exact hm
  | _, _, .slx i sz xs bl cap m by_ h1 h2 h3 h4 h5 h6 h7, h => by
    simp only [V.und, Bool.and_eq_true, decide_eq_true_eq] at h
    refine .slx (S := S.dropH n b X) i sz xs bl cap m by_ h1 h2 h3 (RelC.cutH hX hn hb h4 (by rw [undL_flat]; exact h.2)) ?_ h6 h7
    simp only [Sit.dropH]
    rw [List.getElem?_take, if_pos h.1]
    exact h5
  | _, _, .spp i sz k m by_ h1 h2, h => by
    simp only [V.und, decide_eq_true_eq] at h
    refine .spp (S := S.dropH n b X) i sz k m by_ ?_ h2
    simp only [Sit.dropH]
    rw [List.getElem?_take, if_pos h]
    exact h1
  | _, _, .epz i sz k cs m by_ h1 h2 h3 h4, h => by
    simp only [V.und, Bool.and_eq_true, decide_eq_true_eq] at h
    refine .epz (S := S.dropH n b X) i sz k cs m by_ ?_ h2 (RelC.cutH hX hn hb h3 h.2) h4
    simp only [Sit.dropH]
    rw [List.getElem?_take, if_pos h.1]
    exact h1
theorem RelL.cutH {n b : Nat} {X : Nat → (Nat → Prop) → Prop} (hX : ∀ a, (S.dropH n b X).own a → S.own a) (hn : n ≤ S.st.obs.length) (hb : b ≤ S.st.bufs.length) : ∀ {vs : List V} {cs : List Value}, RelL S vs cs → undL n b vs = true → RelL (S.dropH n b X) vs cs
  | _, _, .nil, _ => .nil
  | _, _, .cons v c vs cs hv hl, h => by
    simp only [undL, Bool.and_eq_true] at h
    exact .cons v c vs cs (Rel.cutH hX hn hb hv h.1) (RelL.cutH hX hn hb hl h.2)
theorem RelC.cutH {n b : Nat} {X : Nat → (Nat → Prop) → Prop} (hX : ∀ a, (S.dropH n b X).own a → S.own a) (hn : n ≤ S.st.obs.length) (hb : b ≤ S.st.bufs.length) : ∀ {vs : List V} {bl off : Nat}, RelC S vs bl off → undL n b vs = true → RelC (S.dropH n b X) vs bl off
  | _, _, _, .nil bl off, _ => .nil bl off
  | _, _, _, .cons v c vs bl off h1 hc ho hv hl, h => by
    simp only [undL, Bool.and_eq_true] at h
    exact .cons v c vs bl off h1 hc (fun o => ho (hX _ o)) (Rel.cutH hX hn hb hv h.1) (RelC.cutH hX hn hb hl h.2)
end

theorem Rel.cut {n b : Nat} (hn : n ≤ S.st.obs.length) (hb : b ≤ S.st.bufs.length) {v : V} {c : Value} (h : Rel S v c) (hu : v.und n b = true) : Rel (S.drop n b) v c := Rel.cutH (fun _ h => Sit.drop_own h) hn hb h hu
theorem RelL.cut {n b : Nat} (hn : n ≤ S.st.obs.length) (hb : b ≤ S.st.bufs.length) {vs : List V} {cs : List Value} (h : RelL S vs cs) (hu : undL n b vs = true) : RelL (S.drop n b) vs cs := RelL.cutH (fun _ h => Sit.drop_own h) hn hb h hu

theorem RelO.cutH {n b : Nat} {X : Nat → (Nat → Prop) → Prop} (hX : ∀ a, (S.dropH n b X).own a → S.own a) (hn : n ≤ S.st.obs.length) (hb : b ≤ S.st.bufs.length) {o : AObj} {k : Nat} (h : RelO S o k) (hu : o.und n b = true) : RelO (S.dropH n b X) o k := by
  cases o with
  | cells e cs => obtain ⟨cc, h1, hl⟩ := h; exact ⟨cc, h1, hl.cutH hX hn hb hu⟩
  | map es clock =>
    obtain ⟨l, h1, hr⟩ := h
    refine ⟨l, h1, ?_⟩
    simp only [AObj.und, List.all_eq_true, Bool.and_eq_true] at hu
    clear h1
    induction hr with
    | nil => exact .nil
    | cons k v b' es e l h1 h2 h3 h4 _ ih =>
      have := hu (k, v, b') (by simp)
      exact .cons k v b' es e l h1 (h2.cutH hX hn hb this.1) (h3.cutH hX hn hb this.2) h4 (ih (fun x hx => hu x (by simp [hx])))
  | iter _ _ => exact h
  | arr e cs => obtain ⟨cc, rest, h1, hl⟩ := h; exact ⟨cc, rest, h1, hl.cutH hX hn hb hu⟩
  | dead => exact h

theorem RelO.cut {n b : Nat} (hn : n ≤ S.st.obs.length) (hb : b ≤ S.st.bufs.length) {o : AObj} {k : Nat} (h : RelO S o k) (hu : o.und n b = true) : RelO (S.drop n b) o k := RelO.cutH (fun _ h => Sit.drop_own h) hn hb h hu

theorem drop_live {n b i : Nat} (h : (S.drop n b).live i) : S.live i := by
  rcases h with h | ⟨m, q, h, h0⟩
  · exact .inl h
  · refine .inr ⟨m, q, ?_, h0⟩
    simp only [Sit.drop, Sit.dropH] at h
    rw [List.getElem?_take] at h
    split at h
    · exact h
    · cases h

theorem Inv.drop (h : Inv B w0 S) {n b : Nat} (hn : n ≤ S.st.obs.length) (hb : b ≤ S.st.bufs.length)
    (hu : ∀ i o, i < n → S.st.obs[i]? = some o → o.und n b = true) : Inv B w0 (S.drop n b) where
  below := h.below
  base := h.base
  obj i o ho := by
    simp only [Sit.drop, Sit.dropH] at ho
    rw [List.getElem?_take] at ho
    split at ho
    · rename_i hi
      have := h.obj i o ho
      exact ⟨this.1, this.2.cut hn hb (hu i o hi ho)⟩
    · cases ho
  inj i j hi hj e := by
    have hi' : i < n := by simp [Sit.drop, Sit.dropH] at hi; omega
    have hj' : j < n := by simp [Sit.drop, Sit.dropH] at hj; omega
    simp only [Sit.drop, Sit.dropH, List.getElem?_take, if_pos hi', if_pos hj']
    exact h.inj i j (by omega) (by omega) e
  buf i hi := h.buf i (by simp [Sit.drop, Sit.dropH] at hi; omega)
  froz i hi := h.froz i (by simp [Sit.drop, Sit.dropH] at hi; omega)
  live i hi hl := h.live i (by simp [Sit.drop, Sit.dropH] at hi; omega) (drop_live hl)
  bufobj i k hi hk hl := h.bufobj i k (by simp [Sit.drop, Sit.dropH] at hi; omega) (by simp [Sit.drop, Sit.dropH] at hk; omega) (drop_live hl)
  bufbuf i j hi hj hne h1 h2 := h.bufbuf i j (by simp [Sit.drop, Sit.dropH] at hi; omega) (by simp [Sit.drop, Sit.dropH] at hj; omega) hne (drop_live h1) (drop_live h2)
  hid c q hc := by
    obtain ⟨h1, h2, h3, h4⟩ := h.hid c q (hc.resolve_right id)
    exact ⟨h1, h2, fun k hk => h3 k (by simp [Sit.drop, Sit.dropH] at hk; omega), fun i hi hl => h4 i (by simp [Sit.drop, Sit.dropH] at hi; omega) (drop_live hl)⟩
  injc i j t cs hi hj e := by
    have hj' : j < n := by simp [Sit.drop, Sit.dropH] at hj; omega
    simp only [Sit.drop, Sit.dropH, List.getElem?_take] at hi
    split at hi
    · exact h.injc i j t cs hi (by omega) e
    · cases hi

theorem Ext.drop {S S' : Sit} (h : Ext S S') {n b : Nat} (hn : S.st.obs.length ≤ n) (hb : S.st.bufs.length ≤ b) : Ext S (S'.drop n b) where
  hid b q hb := ⟨.inl (h.hid b q hb).1, (h.hid b q hb).2⟩
  size := h.size
  shape := h.shape
  cell := h.cell
  own a ha ho := h.own a ha (Sit.drop_own ho)
  obs := by have := h.obs; simp [Sit.drop, Sit.dropH]; omega
  bufs := by have := h.bufs; simp [Sit.drop, Sit.dropH]; omega
  mu := h.mu
  buf i m by_ hi hm := by
    simp only [Sit.drop, Sit.dropH] at hm
    rw [List.getElem?_take] at hm
    split at hm
    · exact h.buf i m by_ hi hm
    · cases hm
  tau := h.tau

/-- A round's end. -/
theorem finLoop_ok {S S' : Sit} (hI : Inv B w0 S) (hI' : Inv B w0 S') (hE : Ext S S') {env : Env} {a : Act} (hV : EnvOk S' env a) (gc : Bool) :
    ∃ S'', S''.w = S'.w ∧ S''.st = (finLoop gc S.st S'.st env).2 ∧ Inv B w0 S'' ∧ Ext S S'' ∧ EnvOk S'' (finLoop gc S.st S'.st env).1 a := by
  unfold finLoop
  split
  · rename_i hc
    obtain ⟨_, hs⟩ := hc
    have hu : ∀ i o, i < S.st.obs.length → S'.st.obs[i]? = some o → o.und S.st.obs.length S'.st.bufs.length = true := by
      intro i o hi ho
      rcases hs i hi with h | h
      · rw [h] at ho
        exact AObj.und_mono (Nat.le_refl _) hE.bufs o (hI.obj i o ho).2.und
      · exact h o ho
    refine ⟨S'.drop S.st.obs.length S'.st.bufs.length, rfl, by simp [Sit.drop, Sit.dropH], hI'.drop hE.obs (Nat.le_refl _) hu, hE.drop (Nat.le_refl _) hE.bufs, ?_⟩
    intro t
    simp only [scrub]
    split
    · rename_i h
      exact (hV t).cut hE.obs (Nat.le_refl _) h
    · exact .junk _
  · exact ⟨S', rfl, rfl, hI', hE, hV⟩

/-- An array that is dropped is nobody's. -/
theorem arr_own (hI : Inv B w0 S) {n b : Nat} (hn : n ≤ S.st.obs.length) (hb : b ≤ S.st.bufs.length) {id : Nat} {t : TypeId} {cs : List V} (hid : n ≤ id) (ho : S.st.obs[id]? = some (.arr t cs)) (k : Nat) :
    ¬ (S.drop n b).own ⟨S.μ id, k, none⟩ := by
  have hil := (List.getElem?_eq_some_iff.1 ho).1
  rintro (⟨i, ⟨hi, hid'⟩, e⟩ | ⟨i, hi, e, h1, h2⟩ | ⟨q, hq, hq2⟩)
  · have hi' : i < n := by simp [Sit.drop, Sit.dropH] at hi; omega
    simp only [Sit.drop, Sit.dropH] at hid'
    rw [List.getElem?_take, if_pos hi'] at hid'
    have e' : S.μ id = S.μ i := e
    rcases hI.inj id i hil (by omega) e' with g | g | g
    · omega
    · rw [ho] at g; cases g
    · exact hid' g
  · have hi' : i < b := by simp [Sit.drop, Sit.dropH] at hi; omega
    exact hI.bufobj i id (by omega) hil (.inl (Nat.lt_of_le_of_lt h1 h2)) e.symm
  · exact (hI.hid _ q (hq.resolve_right (fun h => h))).2.2.1 id hil rfl

theorem chunkV_len (sz : Nat) : ∀ (n : Nat) (l : List V), (chunkV sz n l).length = n
  | 0, _ => rfl
  | n + 1, l => by simp [chunkV, chunkV_len sz n]
theorem chunkV_flat (sz : Nat) : ∀ (n : Nat) (l : List V), l.length = n * sz → l.all V.one = true → (chunkV sz n l).flatMap V.cells = l ∧ ∀ x ∈ chunkV sz n l, x.cells.length = sz
  | 0, l, h, _ => by
    have : l = [] := List.length_eq_zero_iff.1 (by omega)
    subst this
    simp [chunkV]
  | n + 1, l, h, h1 => by
    have hsz : sz ≤ l.length := by rw [h, Nat.add_mul]; omega
    have ht : (l.take sz).all V.one = true := by
      rw [List.all_eq_true] at h1 ⊢
      exact fun x hx => h1 x (List.mem_of_mem_take hx)
    have hd : (l.drop sz).all V.one = true := by
      rw [List.all_eq_true] at h1 ⊢
      exact fun x hx => h1 x (List.mem_of_mem_drop hx)
    obtain ⟨i1, i2⟩ := chunkV_flat sz n (l.drop sz) (by rw [List.length_drop, h, Nat.add_mul]; omega) hd
    have hp := packV_cells ht
    refine ⟨by simp only [chunkV, List.flatMap_cons, hp, i1, List.take_append_drop], ?_⟩
    intro x hx
    simp only [chunkV, List.mem_cons] at hx
    rcases hx with rfl | hx
    · rw [hp, List.length_take]; omega
    · exact i2 x hx
theorem rowV_some {sz len : Nat} {cs xs : List V} (h : rowV sz len cs = some xs) : xs.length = len ∧ xs.flatMap V.cells = plainL cs ∧ (∀ x ∈ xs, x.cells.length = sz) ∧ ∀ v ∈ plainL cs, v.one = true := by
  unfold rowV at h
  split at h
  · rename_i hc
    obtain ⟨_, hl, h1⟩ := hc
    simp only [Option.some.injEq] at h
    subst h
    have hpl : ∀ l : List V, (plainL l).length = l.length := by
      intro l; induction l with
      | nil => rfl
      | cons v l ih => simp [plainL, ih]
    obtain ⟨i1, i2⟩ := chunkV_flat sz len (plainL cs) (by rw [hpl, hl]) h1
    exact ⟨chunkV_len _ _ _, i1, i2, List.all_eq_true.1 h1⟩
  · cases h
mutual
theorem tellV_rel (hI : Inv B w0 S) {n b : Nat} (hn : n ≤ S.st.obs.length) (hb : b ≤ S.st.bufs.length) : ∀ {v : V} {c : Value}, Rel S v c → (tellV S.st.obs n v).und n b = true → Rel (S.drop n b) (tellV S.st.obs n v) c
  | _, _, .msl id sz off len cap t hi hlc hsh, hu => by
    have hself : (V.msl id sz off len).und n b = true → Rel (S.drop n b) (.msl id sz off len) (.slice (some ⟨S.μ id, off, none⟩) len cap) := fun h => (Rel.msl (S := S) id sz off len cap t hi hlc hsh).cut hn hb h
    simp only [tellV, tell1] at hu ⊢
    split at hu
    · rename_i ty cs ho
      split at hu
      · rename_i hc
        obtain ⟨hid, rfl⟩ := hc
        rw [if_pos ⟨hid, rfl⟩]
        split at hu
        · rename_i xs hx
          obtain ⟨x1, x2, x3, x4⟩ := rowV_some hx
          obtain ⟨_, cc, rest, hcc, hrl⟩ := hI.obj _ _ ho
          have hu' : undL n b (plainL cs) = true := by
            rw [← x2, undL_flat]
            simpa only [V.und] using hu
          have := Rel.slAt (S := S.drop n b) .no xs (S.μ id) 0 cap sz (by rw [x1]; exact hlc) x3 (by
            rw [x2]
            refine RelC.of (hrl.plain.cut hn hb hu') x4 (fun k d hk => ⟨?_, ?_⟩)
            · have hk2 : (cc ++ rest)[k]? = some d := by rw [List.getElem?_append_left (List.getElem?_eq_some_iff.1 hk).1]; exact hk
              simp only [Sit.drop, Sit.dropH, World.cell?, hcc, Nat.zero_add]
              simpa using hk2
            · rw [Nat.zero_add]
              exact arr_own hI hn hb hid ho k) trivial
          rw [x1] at this
          exact this
        · exact hself hu
      · rename_i hc
        rw [if_neg hc]
        exact hself hu
    · exact hself hu
  | _, _, .agg cs cc hl, hu => by
    simp only [tellV, V.und] at hu ⊢
    exact .agg _ _ (tellL_rel hI hn hb hl hu)
  | _, _, .tup cs cc hl, hu => by
    simp only [tellV, V.und] at hu ⊢
    exact .tup _ _ (tellL_rel hI hn hb hl hu)
  | _, _, .junk c, _ => .junk c
  | _, _, .bool b, _ => .bool b
  | _, _, .int k n, _ => .int k n
  | _, _, .str l, _ => .str l
  | _, _, .nilF, _ => .nilF
  | _, _, .nilI, _ => .nilI
  | _, _, .pnil, _ => .pnil
  | _, _, .mnil, _ => .mnil
  | _, _, .fn f xs ys cx cy hx hy, hu => (Rel.fn f xs ys cx cy hx hy).cut hn hb hu
  | _, _, .slNil, _ => .slNil
  | _, _, .slNo, _ => .slNo
  | _, _, .slNew a, _ => .slNew a
  | _, _, .slEmp a, _ => .slEmp a
  | _, _, .slBuf i hi, hu => (Rel.slBuf i hi).cut hn hb hu
  | _, _, .slAt o xs bl off cap sz h1 h2 h3 h4, hu => (Rel.slAt o xs bl off cap sz h1 h2 h3 h4).cut hn hb hu
  | _, _, .ptr id off hi, hu => (Rel.ptr id off hi).cut hn hb hu
  | _, _, .ept cs bl off hc, hu => (Rel.ept cs bl off hc).cut hn hb hu
  | _, _, .map id hi, hu => (Rel.map id hi).cut hn hb hu
  | _, _, .itr id hi, hu => (Rel.itr id hi).cut hn hb hu
  | _, _, .ifc t v c hv, hu => (Rel.ifc t v c hv).cut hn hb hu
  | _, _, .dat i xs bl off cap sz h1 h2 h3 h4, hu => (Rel.dat i xs bl off cap sz h1 h2 h3 h4).cut hn hb hu
  | _, _, .slx i sz xs bl cap m by_ h1 h2 h3 h4 h5 h6 h7, hu => (Rel.slx i sz xs bl cap m by_ h1 h2 h3 h4 h5 h6 h7).cut hn hb hu
  | _, _, .spp i sz n m by_ h1 h2, hu => (Rel.spp i sz n m by_ h1 h2).cut hn hb hu
  | _, _, .epz i sz n cs m by_ h1 h2 h3 h4, hu => (Rel.epz i sz n cs m by_ h1 h2 h3 h4).cut hn hb hu
theorem tellL_rel (hI : Inv B w0 S) {n b : Nat} (hn : n ≤ S.st.obs.length) (hb : b ≤ S.st.bufs.length) : ∀ {vs : List V} {cs : List Value}, RelL S vs cs → undL n b (tellL S.st.obs n vs) = true → RelL (S.drop n b) (tellL S.st.obs n vs) cs
  | _, _, .nil, _ => .nil
  | _, _, .cons v c vs cs hv hl, hu => by
    simp only [tellL, undL, Bool.and_eq_true] at hu ⊢
    exact .cons _ _ _ _ (tellV_rel hI hn hb hv hu.1) (tellL_rel hI hn hb hl hu.2)
end

/-- A call's end. -/
theorem fin_ok {S S' : Sit} (hI : Inv B w0 S) (hI' : Inv B w0 S') (hE : Ext S S') {r : V} {c : Value} (hr : Rel S' r c) (keep : Bool) :
    ∃ S'', S''.w = S'.w ∧ S''.st = (fin keep S.st S'.st r).2 ∧ Inv B w0 S'' ∧ Ext S S'' ∧ Rel S'' (fin keep S.st S'.st r).1 c := by
  unfold fin
  split
  · exact ⟨S', rfl, rfl, hI', hE, hr⟩
  · split
    · rename_i hc
      obtain ⟨htake, hund⟩ := hc
      have hu : ∀ i o, i < S.st.obs.length → S'.st.obs[i]? = some o → o.und S.st.obs.length S.st.bufs.length = true := by
        intro i o hi ho
        have : S.st.obs[i]? = some o := by rw [← htake, List.getElem?_take, if_pos hi]; exact ho
        exact (hI.obj i o this).2.und
      refine ⟨S'.drop S.st.obs.length S.st.bufs.length, rfl, by simp [Sit.drop, Sit.dropH, htake], hI'.drop hE.obs hE.bufs hu, hE.drop (Nat.le_refl _) (Nat.le_refl _), ?_⟩
      exact hr.plain.cut hE.obs hE.bufs (V.und_mono (Nat.le_refl _) (Nat.zero_le _) _ hund)
    split
    · rename_i hc
      obtain ⟨htake, hund⟩ := hc
      have hu : ∀ i o, i < S.st.obs.length → S'.st.obs[i]? = some o → o.und S.st.obs.length S.st.bufs.length = true := by
        intro i o hi ho
        have : S.st.obs[i]? = some o := by rw [← htake, List.getElem?_take, if_pos hi]; exact ho
        exact (hI.obj i o this).2.und
      refine ⟨S'.drop S.st.obs.length S.st.bufs.length, rfl, by simp [Sit.drop, Sit.dropH, htake], hI'.drop hE.obs hE.bufs hu, hE.drop (Nat.le_refl _) (Nat.le_refl _), ?_⟩
      exact tellV_rel hI' hE.obs hE.bufs hr.plain (V.und_mono (Nat.le_refl _) (Nat.zero_le _) _ hund)
    · split
      · rename_i hc
        obtain ⟨hs, hund⟩ := hc
        have hu : ∀ i o, i < S.st.obs.length → S'.st.obs[i]? = some o → o.und S.st.obs.length S'.st.bufs.length = true := by
          intro i o hi ho
          rcases hs i hi with h | h
          · rw [h] at ho
            exact AObj.und_mono (Nat.le_refl _) hE.bufs o (hI.obj i o ho).2.und
          · exact h o ho
        refine ⟨S'.drop S.st.obs.length S'.st.bufs.length, rfl, by simp [Sit.drop, Sit.dropH], hI'.drop hE.obs (Nat.le_refl _) hu, hE.drop (Nat.le_refl _) hE.bufs, ?_⟩
        exact hr.plain.cut hE.obs (Nat.le_refl _) (V.und_mono (Nat.le_refl _) (Nat.zero_le _) _ hund)
      · exact ⟨S', rfl, rfl, hI', hE, hr.plain⟩

end
end Go.Proofs.YtboejpobmpfifaaGreatDoor.Eng
