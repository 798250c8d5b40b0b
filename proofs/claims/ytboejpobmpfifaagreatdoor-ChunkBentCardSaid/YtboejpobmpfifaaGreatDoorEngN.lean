/-
  Slices that may be written: append, make, clear, slices of three bounds; the greater of two numbers. No condition.
-/
import Derived.Test.YtboejpobmpfifaaGreatDoorEngA
import Derived.Laws.MakeOwn
namespace Go.Proofs.YtboejpobmpfifaaGreatDoor.Eng
open Go Go.RowKit
set_option linter.unusedSimpArgs false
set_option linter.unusedVariables false

section
variable {P : Program} {B : Nat} {w0 : World} {S : Sit}

/-- An array whose name nobody may use any more. -/
def Sit.bury (S : Sit) (id : Nat) : Sit := { S with st := ⟨S.st.obs.set id .dead, S.st.bufs⟩ }

theorem Ext.bury (S : Sit) (id : Nat) : Ext S (S.bury id) where
  hid b q hb := ⟨hb, rfl⟩
  size := Nat.le_refl _
  shape _ _ := rfl
  cell _ _ _ := rfl
  own a _ ho := by
    rcases ho with ⟨i, ⟨hi, hd⟩, hb⟩ | ho
    · refine .inl ⟨i, ⟨by simpa [Sit.bury] using hi, ?_⟩, hb⟩
      by_cases e : i = id
      · subst e
        simp only [Sit.bury, List.length_set] at hi hd
        rw [List.getElem?_set_self hi] at hd
        exact absurd rfl hd
      · simp only [Sit.bury] at hd
        rwa [List.getElem?_set_ne (fun q => e q.symm)] at hd
    · exact .inr ho
  obs := by simp [Sit.bury]
  bufs := Nat.le_refl _
  mu _ _ := rfl
  buf i m b _ hm := ⟨m, b, hm, .inr (.inl ⟨rfl, rfl, rfl⟩)⟩
  tau _ _ _ _ _ _ := rfl

theorem bury_get {id k : Nat} (hid : id < S.st.obs.length) : (S.bury id).st.obs[k]? = if k = id then some AObj.dead else S.st.obs[k]? := by
  simp only [Sit.bury]
  by_cases h : k = id
  · subst h; rw [if_pos rfl, List.getElem?_set_self hid]
  · rw [if_neg h, List.getElem?_set_ne (fun e => h e.symm)]

theorem Inv.bury (h : Inv B w0 S) {id : Nat} (hid : id < S.st.obs.length) : Inv B w0 (S.bury id) where
  below := h.below
  base := h.base
  obj i o ho := by
    rw [bury_get hid] at ho
    split at ho
    · rename_i e
      subst e
      cases ho
      exact ⟨h.mu_ge hid, h.mu_lt hid⟩
    · have := h.obj i o ho
      exact ⟨this.1, this.2.mono (Ext.bury S id) rfl⟩
  inj i j hi hj e := by
    have hi' : i < S.st.obs.length := by simpa [Sit.bury] using hi
    have hj' : j < S.st.obs.length := by simpa [Sit.bury] using hj
    rw [bury_get hid, bury_get hid]
    rcases h.inj i j hi' hj' e with g | g | g
    · exact .inl g
    · right; left; split
      · rfl
      · exact g
    · right; right; split
      · rfl
      · exact g
  buf := h.buf
  froz := h.froz
  live := h.live
  bufobj i k hi hk := h.bufobj i k hi (by simpa [Sit.bury] using hk)
  bufbuf := h.bufbuf
  hid b q hb := by
    obtain ⟨h1, h2, h3, h4⟩ := h.hid b q hb
    exact ⟨h1, h2, fun k hk => h3 k (by simpa [Sit.bury] using hk), h4⟩
  injc i j t cs hi hj e := by
    rw [bury_get hid] at hi
    split at hi
    · cases hi
    · exact h.injc i j t cs hi (by simpa [Sit.bury] using hj) e

/-- A new name for an array that has none. -/
def Sit.reborn (S : Sit) (id : Nat) (o : AObj) (w : World) : Sit :=
  { st := ⟨S.st.obs ++ [o], S.st.bufs⟩, μ := fun i => if i = S.st.obs.length then S.μ id else S.μ i, ρ := S.ρ, τ := S.τ, w := w, hid := S.hid }

theorem Ext.reborn (h : Inv B w0 S) {id : Nat} (hid : id < S.st.obs.length) (hnd : S.st.obs[id]? ≠ some .dead) {w : World} (t : Turns S.w w (S.μ id)) (o : AObj) : Ext S ((S.bury id).reborn id o w) where
  hid b q hb := ⟨hb, t.block b (fun e => (h.hid b q hb).2.2.1 id hid e.symm)⟩
  size := Nat.le_of_eq t.size.symm
  shape b _ := t.shapes b
  cell a _ ho := World.cell?_of_block (w := S.w) (t.block a.block (fun e => ho (.inl ⟨id, ⟨hid, hnd⟩, e⟩)))
  own a _ ho := by
    rcases ho with ⟨i, ⟨hi, hd⟩, hb⟩ | ho
    · simp only [Sit.reborn, Sit.bury, List.length_append, List.length_cons, List.length_nil, List.length_set] at hi hb hd
      split at hb
      · exact .inl ⟨id, ⟨hid, hnd⟩, hb⟩
      · rw [List.getElem?_append_left (by simp; omega)] at hd
        refine .inl ⟨i, ⟨by omega, ?_⟩, hb⟩
        by_cases e : i = id
        · rw [e]; exact hnd
        · rwa [List.getElem?_set_ne (fun q => e q.symm)] at hd
    · exact .inr ho
  obs := by simp [Sit.reborn, Sit.bury]
  bufs := Nat.le_refl _
  mu i hi := by simp only [Sit.reborn, Sit.bury, List.length_set]; rw [if_neg (by omega)]
  buf i m b _ hm := ⟨m, b, hm, .inr (.inl ⟨rfl, rfl, rfl⟩)⟩
  tau _ _ _ _ _ _ := rfl

theorem Inv.reborn (h : Inv B w0 S) {id : Nat} (hid : id < S.st.obs.length) (hd : ∀ j, j < S.st.obs.length → S.μ j = S.μ id → S.st.obs[j]? = some AObj.dead)
    {w : World} (t : Turns S.w w (S.μ id)) {o : AObj} (hO : RelO (S.reborn id o w) o (S.μ id)) (hoc : ∀ t cs, o ≠ .cells t cs)
    (hmo : ∀ i p, S.st.obs[i]? = some p → p ≠ .dead → RelO (S.reborn id o w) p (S.μ i)) : Inv B w0 (S.reborn id o w) where
  below := h.below.trans ⟨t.os, t.tape, t.output, Nat.le_of_eq t.size.symm, fun k hk => t.block k (by have := h.mu_ge hid; omega)⟩
  base := by have := h.base; simp only [Sit.reborn, t.size]; exact this
  obj i p hp := by
    simp only [Sit.reborn] at hp ⊢
    by_cases e : i = S.st.obs.length
    · subst e
      simp at hp; subst hp
      rw [if_pos rfl]
      exact ⟨h.mu_ge hid, hO⟩
    · rw [if_neg e]
      have hi : i < S.st.obs.length := by
        rcases Nat.lt_trichotomy i S.st.obs.length with q | q | q
        · exact q
        · exact absurd q e
        · rw [List.getElem?_eq_none (by simp; omega)] at hp; cases hp
      rw [List.getElem?_append_left hi] at hp
      have := h.obj i p hp
      refine ⟨this.1, ?_⟩
      by_cases hpd : p = .dead
      · subst hpd
        have h2 : S.μ i < S.w.heap.size := this.2
        show S.μ i < w.heap.size
        rw [t.size]; exact h2
      · exact hmo i p hp hpd
  inj i j hi hj e := by
    simp only [Sit.reborn, List.length_append, List.length_cons, List.length_nil] at hi hj e ⊢
    have left : ∀ k, k < S.st.obs.length → (S.st.obs ++ [o])[k]? = S.st.obs[k]? := fun k hk => List.getElem?_append_left hk
    by_cases ei : i = S.st.obs.length <;> by_cases ej : j = S.st.obs.length
    · left; omega
    · rw [if_pos ei, if_neg ej] at e
      right; right
      rw [left j (by omega)]
      exact hd j (by omega) e.symm
    · rw [if_neg ei, if_pos ej] at e
      right; left
      rw [left i (by omega)]
      exact hd i (by omega) e
    · rw [if_neg ei, if_neg ej] at e
      rw [left i (by omega), left j (by omega)]
      exact h.inj i j (by omega) (by omega) e
  buf i hi j h1 h2 := by
    obtain ⟨hb, ⟨c, hc⟩, hf⟩ := h.buf i hi j h1 h2
    have hne : (S.ρ i).1 ≠ S.μ id := h.bufobj i id hi hid (.inl (Nat.lt_of_le_of_lt h1 h2))
    exact ⟨hb, ⟨c, (World.cell?_of_block (w := S.w) (a := ⟨(S.ρ i).1, j, none⟩) (t.block _ hne)).trans hc⟩,
      (World.frozen?_of_block (w := S.w) (a := ⟨(S.ρ i).1, j, none⟩) (t.block _ hne)).trans hf⟩
  froz i hi hr := by
    intro cc e lo hi' hq
    have hne : (S.ρ i).1 ≠ S.μ id := h.bufobj i id hi hid (.inl hr)
    simp only [Sit.reborn] at hq
    rw [t.block _ hne] at hq
    exact h.froz i hi hr cc e lo hi' hq
  live i hi hr := by
    have := h.live i hi hr
    simp only [Sit.reborn]
    exact ⟨this.1, by rw [t.size]; exact this.2⟩
  bufobj i k hi hk hr := by
    simp only [Sit.reborn, List.length_append, List.length_cons, List.length_nil] at hi hk hr ⊢
    by_cases e : k = S.st.obs.length
    · rw [if_pos e]; exact h.bufobj i id hi hid hr
    · rw [if_neg e]; exact h.bufobj i k hi (by omega) hr
  bufbuf := h.bufbuf
  hid b q hb := by
    obtain ⟨h1, h2, h3, h4⟩ := h.hid b q hb
    refine ⟨h1, by simp only [Sit.reborn, t.size]; exact h2, ?_, h4⟩
    intro k hk
    simp only [Sit.reborn, List.length_append, List.length_cons, List.length_nil] at hk ⊢
    by_cases e : k = S.st.obs.length
    · rw [if_pos e]; exact h3 id hid
    · rw [if_neg e]; exact h3 k (by omega)
  injc i j ty cs hi hj e := by
    simp only [Sit.reborn, List.length_append, List.length_cons, List.length_nil] at hi hj e
    by_cases ei : i = S.st.obs.length
    · subst ei
      simp at hi
      exact absurd hi (hoc ty cs)
    · have hl : i < S.st.obs.length := by
        rcases Nat.lt_trichotomy i S.st.obs.length with q | q | q
        · exact q
        · exact absurd q ei
        · rw [List.getElem?_eq_none (by simp; omega)] at hi; cases hi
      rw [List.getElem?_append_left hl] at hi
      rw [if_neg ei] at e
      by_cases ej : j = S.st.obs.length
      · rw [if_pos ej] at e
        have := hd i hl e
        rw [hi] at this
        cases this
      · rw [if_neg ej] at e
        exact h.injc i j ty cs hi (by omega) e

/-- The elements that are appended. -/
theorem srcCells_ok (hI : Inv B w0 S) {sz : Nat} {tx e' : TypeId} (hk : P.underlying tx = some (.slice e')) {y : V} {d : Value} (hy : Rel S y d) {nv : List V} {n : Nat} (he : srcCells sz y S.st = some (nv, n)) :
    ∃ news, Src P sz tx d n news S.w ∧ RelL S nv news ∧ (∀ v ∈ nv, v.one = true) ∧ nv.length = n * sz := by
  unfold srcCells at he
  split at he
  · rename_i o ys
    split at he
    · rename_i hc
      obtain ⟨hf, h1, hl⟩ := hc
      simp only [Option.some.injEq, Prod.mk.injEq] at he
      obtain ⟨rfl, rfl⟩ := he
      obtain ⟨news, hS, hr, ho, hsz, _⟩ := src_ok (P := P) (str := false) (by unfold appTy; rw [hk]) hy rfl hf
      exact ⟨news, hS, hr, ho, flat_length ys hsz⟩
    · cases he
  · rename_i id z off len
    split at he
    · rename_i ty cs hob
      split at he
      · rename_i hc
        obtain ⟨rfl, hl, h1⟩ := hc
        simp only [Option.some.injEq, Prod.mk.injEq] at he
        obtain ⟨rfl, rfl⟩ := he
        cases hy with
        | msl _ _ _ _ cap t hi1 hcap hsh =>
          obtain ⟨cc, rest, hh, hrl⟩ := hI.arrOf hob
          have hcl := hrl.length
          refine ⟨(cc.drop off).take (len * z), Src.ofSlice S.w hk ⟨S.μ id, off, none⟩ len cap _ (by simp; omega) ?_ ?_, (hrl.drop off).take _, fun v hv => List.all_eq_true.1 h1 v hv, by simp; omega⟩
          · intro j u hu
            rw [Addr.add_at, cell_of_heap hh]
            rw [List.getElem?_take] at hu
            split at hu
            · rw [List.getElem?_drop] at hu
              rw [List.getElem?_append_left (lt_of_get hu)]
              exact hu
            · cases hu
          · exact ((hrl.drop off).take (len * z)).ones (by simpa using h1)
      · cases he
    · cases he
  · cases he

theorem arr_alloc (hI : Inv B w0 S) {cs : List V} {cc rest : List Value} (h : RelL S cs cc) (e : TypeId) :
    Inv B w0 (S.alloc (.arr e cs) (.cells (cc ++ rest).toArray e)) ∧ Ext S (S.alloc (.arr e cs) (.cells (cc ++ rest).toArray e)) := by
  have hE := Ext.alloc hI (.arr e cs) (.cells (cc ++ rest).toArray e)
  exact ⟨hI.alloc ⟨cc, rest, heap_alloc_new _ _, h.mono hE⟩, hE⟩

theorem arr_new_rel {o : AObj} {cc : List Value} {e : TypeId} {sz len cap : Nat} (hl : len ≤ cap) (hs : cc.length = cap * sz) :
    Rel (S.alloc o (.cells cc.toArray e)) (.msl S.st.obs.length sz 0 len) (.slice (some ⟨S.w.heap.size, 0, none⟩) len cap) := by
  have := Rel.msl (S := S.alloc o (.cells cc.toArray e)) S.st.obs.length sz 0 len cap e (by simp [Sit.alloc]) hl (by
    simp only [Sit.alloc, if_true, World.shape?]
    rw [heap_alloc_new]
    simp [hs])
  simpa [Sit.alloc] using this

theorem elemOf_spec {t e : TypeId} {sz by_ : Nat} (het : elemOf P t = some (e, sz, by_)) : P.underlying t = some (.slice e) ∧ ∃ i, P.info? e = some i ∧ i.size = sz ∧ i.bytes = by_ := by
  unfold elemOf at het
  split at het
  · rename_i e' h'
    simp only [Option.map_eq_some_iff] at het
    obtain ⟨i, hi, h2⟩ := het
    simp only [Prod.mk.injEq] at h2
    obtain ⟨rfl, rfl, rfl⟩ := h2
    exact ⟨h', i, hi, rfl, rfl⟩
  · cases het

theorem appm_ok (hI : Inv B w0 S) {t tx ty e e' : TypeId} {sz by_ : Nat} (het : elemOf P t = some (e, sz, by_)) (hzz : zeroSz P e = some sz) (hb0 : 0 < by_) (hs0 : 0 < sz)
    (hk : P.underlying tx = some (.slice e')) {x y v : V} {c d : Value} (hx : Rel S x c) (hy : Rel S y d) {s' : St} (he : evAppm sz (by_, e) x y S.st = some (v, s')) :
    ∃ S' r, (Builtin.append_ #[t, tx] ty #[c, d]).run P S.w = .ok r S'.w ∧ S'.st = s' ∧ Inv B w0 S' ∧ Ext S S' ∧ Rel S' v r := by
  obtain ⟨hu, i, hi, rfl, rfl⟩ := elemOf_spec het
  have hz : ∃ zc, i.zero = some zc ∧ zc.cells.size = i.size := by
    simp only [zeroSz, hi, Option.bind_some, Option.map_eq_some_iff] at hzz
    exact hzz
  obtain ⟨zc, hz, hzs⟩ := hz
  unfold evAppm at he
  split at he
  · cases he
  rename_i nv n hsrc
  obtain ⟨news, hS, hnr, hn1, hnl⟩ := srcCells_ok (P := P) hI hk hy hsrc
  have hnewl : news.length = n * i.size := by rw [← hnr.length]; exact hnl
  have nothing : n = 0 → ∀ (a : Option Addr) (l cap : Nat), l ≤ cap → c = .slice a l cap → v = x → s' = S.st →
      ∃ S' r, (Builtin.append_ #[t, tx] ty #[c, d]).run P S.w = .ok r S'.w ∧ S'.st = s' ∧ Inv B w0 S' ∧ Ext S S' ∧ Rel S' v r := by
    rintro rfl a l cap hl rfl rfl rfl
    have hn0 : news = [] := List.eq_nil_of_length_eq_zero (by rw [hnewl]; simp)
    subst hn0
    exact ⟨S, _, run_append_nothing S.w t tx ty e i hu hi a l cap hl d hS, rfl, hI, Ext.refl S, hx⟩
  -- a new row
  have grow : ∀ (base : Option Addr) (len cap : Nat) (oldv : List V) (olds : List Value), RelL S oldv olds → olds.length = len * i.size →
      (Builtin.firstCells i.size len (.slice base len cap)).run P S.w.drew = .ok olds.toArray S.w.drew → cap < len + n → (len + n) * i.bytes ≤ room → c = .slice base len cap →
      ∃ S' r, (Builtin.append_ #[t, tx] ty #[c, d]).run P S.w = .ok r S'.w ∧ S'.st = ⟨S.st.obs ++ [.arr e (oldv ++ nv)], S.st.bufs⟩ ∧ Inv B w0 S' ∧ Ext S S' ∧ Rel S' (.msl S.st.obs.length i.size 0 (len + n)) r := by
    rintro base len cap oldv olds hor hol hold hg hbound rfl
    have hfit := nextslicecap_fits hg hbound
    have h63 := len_fits hb0 hbound
    have hrun := run_append_grow_src S.w t tx ty e i zc hu hi hz base len cap olds hold d n news hS hg h63 hfit
    have hge := grownCap_ge S.w (len + n) cap e
    generalize grownCap S.w (len + n) cap e = nc at *
    have hall : RelL S.drew (oldv ++ nv) (olds ++ news) := (hor.append hnr).mono (Ext.drew S)
    obtain ⟨hI', hE⟩ := arr_alloc (hI.drew) hall e (rest := (Builtin.zeroCells zc.cells (nc - (len + n))).toList)
    have hcc : (olds ++ news).toArray ++ Builtin.zeroCells zc.cells (nc - (len + n)) = (olds ++ news ++ (Builtin.zeroCells zc.cells (nc - (len + n))).toList).toArray := by
      apply Array.ext'; simp
    rw [hcc] at hrun
    refine ⟨_, _, hrun, rfl, hI', (Ext.drew S).trans hE, ?_⟩
    have := arr_new_rel (S := S.drew) (o := .arr e (oldv ++ nv)) (cc := olds ++ news ++ (Builtin.zeroCells zc.cells (nc - (len + n))).toList) (e := e) (sz := i.size) (len := len + n) (cap := nc) hge (by
      rw [List.length_append, List.length_append, hol, hnewl, Array.length_toList, zeroCells_size, hzs, ← Nat.add_mul, ← Nat.add_mul]
      congr 1; omega)
    exact this
  split at he
  · -- the first
    rename_i hs
    have hcn : c = .slice none 0 0 := by
      cases hx with
      | slNil => rfl
      | slAt _ _ _ _ _ _ _ _ _ h4 => exact h4.elim
    split at he
    · rename_i h0
      simp only [Option.some.injEq, Prod.mk.injEq] at he
      exact nothing h0 none 0 0 (Nat.le_refl _) hcn he.1.symm he.2.symm
    · rename_i h0
      split at he
      · rename_i hbound
        simp only [Option.some.injEq, Prod.mk.injEq] at he
        obtain ⟨rfl, rfl⟩ := he
        have := grow none 0 0 [] [] .nil (by simp) (run_firstCells_none S.w.drew i.size 0 0 0) (by omega) (by simpa using hbound) hcn
        simpa using this
      · cases he
  · -- the first, of an empty one
    rename_i hs
    obtain ⟨a, hcn⟩ : ∃ a, c = .slice (some a) 0 0 := by
      cases hx with
      | slNew a => exact ⟨a, rfl⟩
      | slAt _ _ _ _ _ _ _ _ _ h4 => exact h4.elim
    split at he
    · rename_i h0
      simp only [Option.some.injEq, Prod.mk.injEq] at he
      exact nothing h0 (some a) 0 0 (Nat.le_refl _) hcn he.1.symm he.2.symm
    · rename_i h0
      split at he
      · rename_i hbound
        simp only [Option.some.injEq, Prod.mk.injEq] at he
        obtain ⟨rfl, rfl⟩ := he
        have := grow (some a) 0 0 [] [] .nil (by simp) (run_firstCells_some S.w.drew i.size 0 a 0 0 [] (by simp) (by simp)) (by omega) (by simpa using hbound) hcn
        simpa using this
      · cases he
  · rename_i id z off len
    cases hx with
    | msl _ _ _ _ cap t' hi1 hcap hsh =>
    split at he
    · rename_i h0
      simp only [Option.some.injEq, Prod.mk.injEq] at he
      exact nothing h0 _ len cap hcap rfl he.1.symm he.2.symm
    · rename_i h0
      split at he
      · rename_i ta cs hob
        split at he
        · rename_i hzt
          obtain ⟨rfl, hte0⟩ := hzt
          simp only at hte0
          rw [hte0] at hob he
          obtain ⟨cc, rest, hh, hrl⟩ := hI.arrOf hob
          have hcl := hrl.length
          have hsize : off + cap * i.size = cc.length + rest.length := by
            have : S.w.shape? (S.μ id) = some (e, (cc ++ rest).toArray.size) := by simp only [World.shape?]; rw [hh]
            rw [this] at hsh
            simp only [Option.some.injEq, Prod.mk.injEq] at hsh
            rw [← hsh.2]; simp
          have hte : t' = e := by
            have : S.w.shape? (S.μ id) = some (e, (cc ++ rest).toArray.size) := by simp only [World.shape?]; rw [hh]
            rw [this] at hsh
            simp only [Option.some.injEq, Prod.mk.injEq] at hsh
            exact hsh.1.symm
          -- in place
          have place : len + n ≤ cap → (Builtin.append_ #[t, tx] ty #[.slice (some ⟨S.μ id, off, none⟩) len cap, d]).run P S.w =
              .ok (.slice (some ⟨S.μ id, off, none⟩) (len + n) cap) (S.w.setCells (S.μ id) (off + len * i.size) news) := by
            intro hfit
            have hle : off + len * i.size + n * i.size ≤ cc.length + rest.length := by
              have : (len + n) * i.size ≤ cap * i.size := Nat.mul_le_mul_right _ hfit
              rw [Nat.add_mul] at this
              omega
            refine run_append_room_src S.w t tx ty e i hu hi (S.μ id) off len cap d n news hS hfit ?_ ?_
            · intro j hj
              rw [cell_of_heap hh, List.getElem?_eq_getElem (by simp; omega)]
              rfl
            · intro j hj
              simp [World.frozen?, hh]
          split at he
          · rename_i hfit
            simp only [Option.some.injEq, Prod.mk.injEq] at he
            obtain ⟨rfl, rfl⟩ := he
            have hfc : len + n ≤ cap := by
              have : (len + n) * i.size ≤ cap * i.size := by omega
              exact Nat.le_of_mul_le_mul_right this hs0
            have hbnd : off + len * i.size + nv.length ≤ cs.length := by
              rw [hnl]
              rw [Nat.add_mul] at hfit
              omega
            obtain ⟨w', hr, ht, hI', hE⟩ := arr_turn hI hob hnr (off := off + len * i.size) hbnd (hnr.ones (by simpa using hn1))
            have hst := run_storeCells_cells (P := P) (S.μ id) (off + len * i.size) news 0 S.w (fun j hj => by
                rw [cell_of_heap hh, List.getElem?_eq_getElem (by simp; omega)]; rfl) (fun j hj => by simp [World.frozen?, hh]) (hnr.ones (by simpa using hn1))
            simp only [Nat.add_zero] at hst
            have hww : w' = S.w.setCells (S.μ id) (off + len * i.size) news := by
              have := (hr P).symm.trans hst
              simpa using this
            subst hww
            refine ⟨_, _, place hfc, rfl, hI', hE, ?_⟩
            have := Rel.msl (S := S.turn id (.arr e (putL cs (off + len * i.size) nv)) (S.w.setCells (S.μ id) (off + len * i.size) news)) id i.size off (len + n) cap t' (by simpa [Sit.turn] using hi1) hfc (by
              simp only [Sit.turn]; rw [ht.shapes]; exact hsh)
            simpa [Sit.turn] using this
          · rename_i hnfit
            split at he
            · rename_i hcond
              obtain ⟨rfl, hlen, hbound, hone⟩ := hcond
              simp only [Option.some.injEq, Prod.mk.injEq] at he
              obtain ⟨rfl, rfl⟩ := he
              simp only [Nat.zero_add] at hsize
              by_cases hfc : len + n ≤ cap
              · -- perhaps in place: another name
                have hbury := hI.bury hi1
                have hst := run_storeCells_cells (P := P) (S.μ id) (0 + len * i.size) news 0 S.w (fun j hj => by
                    have h2 : len * i.size + n * i.size ≤ cc.length + rest.length := by
                      have : (len + n) * i.size ≤ cap * i.size := Nat.mul_le_mul_right _ hfc
                      rw [Nat.add_mul] at this
                      omega
                    rw [cell_of_heap hh, List.getElem?_eq_getElem (by simp; omega)]; rfl) (fun j hj => by simp [World.frozen?, hh]) (hnr.ones (by simpa using hn1))
                simp only [Nat.add_zero, Nat.zero_add] at hst
                have hst2 := run_storeCells_at (P := P) (S.μ id) (len * i.size) e news 0 (cc ++ rest).toArray S.w hh (by
                    have h2 : len * i.size + n * i.size ≤ cc.length + rest.length := by
                      have : (len + n) * i.size ≤ cap * i.size := Nat.mul_le_mul_right _ hfc
                      rw [Nat.add_mul] at this
                      omega
                    simp; omega) (hnr.ones (by simpa using hn1))
                simp only [Nat.add_zero, List.toList_toArray] at hst2
                have hww := hst.symm.trans hst2
                simp only [Result.ok.injEq, true_and] at hww
                have hccl : len * i.size = cc.length := by omega
                have hlist : (cc ++ rest).take (len * i.size) ++ news ++ (cc ++ rest).drop (len * i.size + news.length) = (cc ++ news) ++ rest.drop news.length := by
                  rw [hccl, List.take_left, List.drop_append, List.drop_of_length_le (by omega)]
                  simp
                rw [hlist] at hww
                have hheap : (S.w.setRow (S.μ id) ((cc ++ news) ++ rest.drop news.length).toArray).heap[S.μ id]? = some (.cells ((cc ++ news) ++ rest.drop news.length).toArray e (0, 0)) := setRow_heap S.w _ _ _ e _ hh
                have htn : Turns S.w (S.w.setRow (S.μ id) ((cc ++ news) ++ rest.drop news.length).toArray) (S.μ id) := by
                  refine ⟨rfl, rfl, rfl, ?_, ?_, ?_⟩
                  · simp [World.setRow]
                  · intro k hk
                    simp [World.setRow, Array.getElem?_modify, Ne.symm hk]
                  · have h2 : len * i.size + n * i.size ≤ cc.length + rest.length := by
                      have : (len + n) * i.size ≤ cap * i.size := Nat.mul_le_mul_right _ hfc
                      rw [Nat.add_mul] at this
                      omega
                    simp only [World.shape?]
                    rw [hheap, hh]
                    simp only [List.size_toArray, List.length_append, List.length_drop]
                    congr 2
                    omega
                have hidb : id < (S.bury id).st.obs.length := by simpa [Sit.bury] using hi1
                have hdead : ∀ j, j < (S.bury id).st.obs.length → (S.bury id).μ j = (S.bury id).μ id → (S.bury id).st.obs[j]? = some AObj.dead := by
                  intro j hj hq
                  rw [bury_get hi1]
                  split
                  · rfl
                  · rename_i hne
                    rcases hI.inj j id (by simpa [Sit.bury] using hj) hi1 hq with g | g | g
                    · exact absurd g hne
                    · exact g
                    · rw [hob] at g; cases g
                have hnd : S.st.obs[id]? ≠ some .dead := by rw [hob]; simp
                have hE := Ext.reborn hI hi1 hnd htn (.arr e (cs ++ nv))
                have hI' := hbury.reborn hidb hdead htn (o := .arr e (cs ++ nv)) ⟨cc ++ news, rest.drop news.length, hheap, (hrl.append hnr).mono hE⟩ (fun _ _ q => by cases q) (fun k p hp hpd => by
                  rw [bury_get hi1] at hp
                  split at hp
                  · exact absurd (Option.some.inj hp).symm hpd
                  · rename_i hne
                    refine (hI.obj k p hp).2.mono hE (htn.block _ (fun q => ?_))
                    rcases hI.inj k id (lt_of_get hp) hi1 q with g | g | g
                    · exact hne g
                    · rw [hp] at g; exact hpd (Option.some.inj g)
                    · exact hnd g)
                have hpl := place hfc
                simp only [Nat.zero_add] at hpl
                rw [hww] at hpl
                refine ⟨_, _, hpl, rfl, hI', hE, ?_⟩
                have hlen2 : (S.bury id).st.obs.length = S.st.obs.length := by simp [Sit.bury]
                have := Rel.msl (S := (S.bury id).reborn id (.arr e (cs ++ nv)) (S.w.setRow (S.μ id) ((cc ++ news) ++ rest.drop news.length).toArray)) S.st.obs.length i.size 0 (len + n) cap t' (by simp [Sit.reborn, Sit.bury]) hfc (by
                  simp only [Sit.reborn, hlen2, if_true]
                  show (S.w.setRow (S.μ id) _).shape? (S.μ id) = _
                  rw [htn.shape]; exact hsh)
                simpa [Sit.reborn, hlen2, Sit.bury] using this
              · -- a new row
                have hcell : ∀ j u, cc[j]? = some u → S.w.cell? ((⟨S.μ id, 0, none⟩ : Addr).add j) = some u := fun j u hu => by
                  rw [Addr.add_at, cell_of_heap hh, Nat.zero_add, List.getElem?_append_left (lt_of_get hu)]; exact hu
                have hccl : cc.length = len * i.size := by omega
                obtain ⟨S1, r, hrun, hs1, hI1, hE1, hrel⟩ := grow (some ⟨S.μ id, 0, none⟩) len cap cs cc hrl hccl
                  (run_firstCells_some S.w.drew i.size len ⟨S.μ id, 0, none⟩ len cap cc hccl (by simpa using hcell)) (by omega) hbound rfl
                have hid1 : id < S1.st.obs.length := Nat.lt_of_lt_of_le hi1 hE1.obs
                refine ⟨S1.bury id, r, hrun, ?_, hI1.bury hid1, hE1.trans (Ext.bury S1 id), hrel.mono (Ext.bury S1 id)⟩
                simp only [Sit.bury, hs1]
                rw [List.set_append_left _ _ hi1]
            · cases he
        · cases he
      · cases he
  · cases he

theorem mks_ok (hI : Inv B w0 S) {t e : TypeId} {sz by_ : Nat} (het : elemOf P t = some (e, sz, by_)) {z : V} (hz : zeroV P e = some z) (hs0 : 0 < sz) (hb0 : 0 < by_) (hzl : z.cells.length = sz)
    {x y v : V} {c d : Value} (hx : Rel S x c) (hy : Rel S y d) {s' : St} (he : evMks sz (by_, e) z x y S.st = some (v, s')) :
    ∃ S' r, (Instr.makeSlice t c d).run P S.w = .ok r S'.w ∧ S'.st = s' ∧ Inv B w0 S' ∧ Ext S S' ∧ Rel S' v r := by
  obtain ⟨hu, i, hi, rfl, rfl⟩ := elemOf_spec het
  unfold evMks at he
  split at he
  · rename_i k n k' m
    split at he
    · rename_i hc
      obtain ⟨rfl, h0, hbound⟩ := hc
      simp only [Option.some.injEq, Prod.mk.injEq] at he
      obtain ⟨rfl, rfl⟩ := he
      obtain ⟨_, _, _, hreal⟩ := run_zeroV (S := S) hz
      simp only [zeroV, Option.bind_eq_some_iff] at hz
      obtain ⟨zc, ⟨i', hi', hz⟩, hv⟩ := hz
      rw [hi] at hi'
      cases hi'
      have hroom : room = 140737488355328 := by decide
      rw [hroom] at hbound
      simp only at hbound
      have hnb : m.toNat ≤ m.toNat * i.bytes := Nat.le_mul_of_pos_right _ hb0
      have hb2 : (i.bytes : Int) * m ≤ 281474976710656 := by
        have h3 : ((m.toNat * i.bytes : Nat) : Int) = (i.bytes : Int) * m := by
          rw [Int.natCast_mul, Int.toNat_of_nonneg h0, Int.mul_comm]
        omega
      have hrun := run_make (P := P) S.w t e i zc hu hi hz k k' m m h0 (Int.le_refl _) hb2 (by omega)
      have hzrel := ofVal_ok (S := S) 4 zc z hv
      have hzc := hzrel.cells hreal
      have hzs : zc.cells.size = i.size := by have := hzc.length; simp at this; omega
      have hmade : madeCells zc.cells (m.toNat * i.size) = ((List.replicate m.toNat zc.cells.toList).flatten ++ []).toArray := by
        apply Array.ext'
        rw [List.append_nil]
        unfold madeCells
        rw [← hzs]
        have := range_replicate zc.cells (by omega) m.toNat
        simpa using this
      rw [hmade] at hrun
      obtain ⟨hI', hE⟩ := arr_alloc hI (hzc.flatten m.toNat) e (rest := [])
      rw [hx.int_inv, hy.int_inv]
      refine ⟨_, _, hrun, rfl, hI', hE, ?_⟩
      exact arr_new_rel (Nat.le_refl _) (by simp [hzs])
    · cases he
  · cases he

theorem storeCells_nil (a : Addr) (w : World) : (storeCells a []).run P w = .ok () w := rfl

theorem clr_ok (hI : Inv B w0 S) {t e : TypeId} {sz by_ : Nat} (het : elemOf P t = some (e, sz, by_)) {z : V} (hz : zeroV P e = some z) (hs0 : 0 < sz) (hzl : z.cells.length = sz) (hz1 : z.cells.all V.one = true)
    {x v : V} {c : Value} (hx : Rel S x c) {ty : TypeId} {s' : St} (he : evClr sz z x S.st = some (v, s')) :
    v = .tup [] ∧ ∃ S', (Builtin.clear_ #[t] ty #[c]).run P S.w = .ok (.tuple #[]) S'.w ∧ S'.st = s' ∧ Inv B w0 S' ∧ Ext S S' := by
  obtain ⟨hu, i, hi, rfl, rfl⟩ := elemOf_spec het
  obtain ⟨zc, hzr, hzrel, hreal⟩ := run_zeroV (S := S) hz
  have hzc := hzrel.cells hreal
  have hzs : zc.cells.size = i.size := by have := hzc.length; simp at this; omega
  unfold evClr at he
  split at he
  · simp only [Option.some.injEq, Prod.mk.injEq] at he
    obtain ⟨rfl, rfl⟩ := he
    refine ⟨rfl, S, ?_, rfl, hI, Ext.refl S⟩
    have hnothing : ∀ (a : Option Addr) (cap : Nat), (Builtin.clear_ #[t] ty #[.slice a 0 cap]).run P S.w = .ok (.tuple #[]) S.w := by
      intro a cap
      cases a <;> simp [Builtin.clear_, run_underlying hu]
    cases hx with
    | slNo => exact hnothing _ _
    | slEmp a => exact hnothing _ _
    | slAt _ _ b off cap sz' h1 h2 h3 h4 => exact hnothing _ _
  · rename_i id zz off len
    split at he
    · rename_i ta cs hob
      split at he
      · rename_i hc
        obtain ⟨rfl, hfit⟩ := hc
        simp only [Option.some.injEq, Prod.mk.injEq] at he
        obtain ⟨rfl, rfl⟩ := he
        cases hx with
        | msl _ _ _ _ cap t' hi1 hcap hsh =>
          have hvl : (List.replicate len z.cells).flatten.length = len * i.size := by simp [hzl]
          have hflat := hzc.flatten len
          have hall : (List.replicate len z.cells).flatten.all V.one = true := by
            simp only [List.all_eq_true] at hz1 ⊢
            intro v hv
            obtain ⟨l, hl, hv⟩ := List.mem_flatten.1 hv
            rw [List.eq_of_mem_replicate hl] at hv
            exact hz1 v hv
          obtain ⟨w', hr, ht, hI', hE⟩ := arr_turn hI hob hflat (off := off) (by rw [hvl]; exact hfit) (hflat.ones hall)
          refine ⟨rfl, _, ?_, rfl, hI', hE⟩
          have hzero : (Builtin.zeroCells zc.cells len).toList = (List.replicate len zc.cells.toList).flatten := by
            unfold Builtin.zeroCells
            have := range_replicate zc.cells (by omega) len
            simpa using this
          cases len with
          | zero =>
            have : w' = S.w := by
              have h1 := hr P
              simp at h1
              rw [storeCells_nil] at h1
              simpa using h1.symm
            subst this
            simp [Builtin.clear_, run_underlying hu, Sit.turn]
          | succ n =>
            simp only [Builtin.clear_, Sem.run_bind, run_underlying hu, Result.andThen_ok]
            simp [run_underlying hu, hzr, hzero, hr, Sit.turn]
      · cases he
    · cases he
  · cases he

theorem slc3_ok (hI : Inv B w0 S) {t e : TypeId} {n : Nat} (hu : P.underlying t = some (.slice e)) (hn : szOf P e = some n) {x lo hi mx v : V} {c lc hc mc : Value} (hx : Rel S x c) (hlo : Rel S lo lc) (hhi : Rel S hi hc) (hmx : Rel S mx mc)
    (he : evSlc3 n x lo hi mx S.st = some v) : v = .junk ∧ ∃ r, (Instr.sliceAt t c (some lc) (some hc) (some mc)).run P S.w = .ok r S.w := by
  have a1 : ∀ (x : V) (c : Value) (l : Nat), Rel S x c → bnd (some x) 0 = some l → ∃ k n, c = .int k n ∧ 0 ≤ n ∧ n.toNat = l := by
    intro x c l hx hb
    unfold bnd at hb
    split at hb
    · rename_i he; cases he
    · rename_i k n he
      cases he
      split at hb
      · rename_i h0
        simp at hb
        exact ⟨_, _, hx.int_inv, h0, hb⟩
      · cases hb
    · cases hb
  unfold evSlc3 at he
  split at he
  · rename_i id z off len l h m h1 h2 h3
    split at he
    · rename_i ta cs hob
      split at he
      · rename_i hcond
        obtain ⟨rfl, hz0, hlh, hhm, hfit⟩ := hcond
        simp only [Option.some.injEq] at he
        subst he
        refine ⟨rfl, ?_⟩
        cases hx with
        | msl _ _ _ _ cap t' hi1 hcap hsh =>
          obtain ⟨cc, rest, hh, hrl⟩ := hI.arrOf hob
          have hsize : off + cap * z = cc.length + rest.length := by
            have : S.w.shape? (S.μ id) = some (ta, (cc ++ rest).toArray.size) := by simp only [World.shape?]; rw [hh]
            rw [this] at hsh
            simp only [Option.some.injEq, Prod.mk.injEq] at hsh
            rw [← hsh.2]; simp
          have hcl := hrl.length
          have hmc : m ≤ cap := by
            have : m * z ≤ cap * z := by omega
            exact Nat.le_of_mul_le_mul_right this hz0
          obtain ⟨k1, n1, rfl, g1, rfl⟩ := a1 _ _ _ hlo h1
          obtain ⟨k2, n2, rfl, g2, rfl⟩ := a1 _ _ _ hhi h2
          obtain ⟨k3, n3, rfl, g3, rfl⟩ := a1 _ _ _ hmx h3
          have hb : (Instr.sliceBounds true len cap (some (.int k1 n1)) (some (.int k2 n2)) (some (.int k3 n3))).run P S.w = .ok (n1.toNat, n2.toNat, n3.toNat) S.w := by
            simp [Instr.sliceBounds, sliceBound_ok g3 hmc, sliceBound_ok g2 hhm, sliceBound_ok g1 hlh]
          exact ⟨_, by simp [Instr.sliceAt, Instr.slice, run_underlying hu, hb, run_sizeOf' hn]; rfl⟩
      · cases he
    · cases he
  · cases he

theorem mxn_ok {t u ty : TypeId} {mx : Bool} {x y v : V} {c d : Value} (hx : Rel S x c) (hy : Rel S y d) (he : evMxn mx x y = some v) :
    ∃ r, ((if mx then Builtin.max_ else Builtin.min_) #[t, u] ty #[c, d]).run P S.w = .ok r S.w ∧ Rel S v r := by
  unfold evMxn at he
  split at he
  · rename_i k a k' b
    split at he
    · rename_i hk
      subst hk
      simp only [Option.some.injEq] at he
      subst he
      rw [hx.int_inv, hy.int_inv]
      cases mx with
      | true => exact ⟨_, by simp [Builtin.max_, Builtin.max2]; rfl, by simpa using Rel.int k _⟩
      | false => exact ⟨_, by simp [Builtin.min_, Builtin.min2]; rfl, by simpa using Rel.int k _⟩
    · cases he
  · cases he

theorem indexMsl_ok {t e : TypeId} {sz : Nat} (hu : P.underlying t = some (.slice e)) (hn : szOf P e = some sz) {id off len : Nat} {k : IntKind} {n : Int} {c : Value}
    (hx : Rel S (.msl id sz off len) c) (h0 : 0 ≤ n) (h1 : n < len) :
    ∃ r, (Instr.indexAt t c (.int k n)).run P S.w = .ok r S.w ∧ Rel S (.ptr id (off + n.toNat * sz)) r := by
  cases hx with
  | msl _ _ _ _ cap t' hi1 hcap hsh =>
    refine ⟨.pointer (some ⟨S.μ id, off + n.toNat * sz, none⟩), ?_, .ptr id _ hi1⟩
    have hr : 0 ≤ n ∧ n < (len : Int) := ⟨h0, h1⟩
    simp [Instr.indexAt, asIntOf, run_underlying hu, hr, run_sizeOf' hn, Addr.add_at]

end
end Go.Proofs.YtboejpobmpfifaaGreatDoor.Eng
