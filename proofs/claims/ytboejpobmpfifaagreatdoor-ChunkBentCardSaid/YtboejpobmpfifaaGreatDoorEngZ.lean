/-
  An element that is appended ahead of being told. No condition.
-/
import Derived.Test.YtboejpobmpfifaaGreatDoorEngN
namespace Go.Proofs.YtboejpobmpfifaaGreatDoor.Eng
open Go Go.RowKit
set_option linter.unusedSimpArgs false
set_option linter.unusedVariables false

section
variable {P : Program} {B : Nat} {w0 : World} {S : Sit}

theorem indexSlx_ok {t e : TypeId} {sz : Nat} (hu : P.underlying t = some (.slice e)) (hn : szOf P e = some sz) {i : Nat} {xs : List V} {k : IntKind} {c : Value}
    (hx : Rel S (.slx i sz xs) c) : ∃ r, (Instr.indexAt t c (.int k (xs.length : Int))).run P S.w = .ok r S.w ∧ Rel S (.spp i sz xs.length) r := by
  cases hx with
  | slx _ _ _ b cap m by_ h1 h2 h3 h4 h5 h6 h7 =>
    refine ⟨.pointer (some ⟨b, 0 + xs.length * sz, none⟩), ?_, ?_⟩
    · have hr : (0 : Int) ≤ (xs.length : Int) ∧ (xs.length : Int) < ((xs.length + 1 : Nat) : Int) := by omega
      simp [Instr.indexAt, asIntOf, run_underlying hu, run_sizeOf' hn, Addr.add_at]
    · have hp : Rel S (.spp i sz xs.length) (.pointer (some ⟨(S.τ i xs.length).1, (S.τ i xs.length).2.1, none⟩)) := by
        refine .spp i sz xs.length m by_ h5 ?_
        rcases h6 with h6 | ⟨q1, q2, q3, k, q4⟩
        · exact .inl h6
        · refine .inr ⟨q1, q2, q3, by rw [h7], ?_, h2, k, q4⟩
          rw [h7]
          simp only
          have : (xs.length + 1) * sz ≤ cap * sz := Nat.mul_le_mul_right _ h1
          rw [Nat.add_mul, Nat.one_mul] at this
          exact this
      rw [h7] at hp
      simpa using hp

theorem shape_heap {w : World} {b : Nat} {cc : Array Value} {e : TypeId} {f : Nat × Nat} (h : w.heap[b]? = some (.cells cc e f)) : w.shape? b = some (e, cc.size) := by
  simp only [World.shape?]; rw [h]

/-- The growth, of one element that is told later. -/
theorem growz_ok (hI : Inv B w0 S) {t tx ty e : TypeId} {i : TypeInfo} {zc : Value} (ht : P.underlying t = some (.slice e)) (hi : P.info? e = some i) (hz : i.zero = some zc)
    (hzs : zc.cells.size = i.size) (hb1 : i.bytes ≤ 2 ^ 20) (hb0 : 0 < i.bytes) (hs0 : 0 < i.size)
    (hty : appTy P i.size tx = some false) {y z : V} {d : Value} {oy : Own} (hy : Rel S y d) (hsrc : appSrc false y = some [z]) (hf : fits i.size [z] = true)
    {xs : List V} {base : Option Addr} {cap : Nat} {olds : List Value} (hold : (Builtin.firstCells i.size xs.length (.slice base xs.length cap)).run P S.w.drew = .ok olds.toArray S.w.drew)
    (hor : RelL S (xs.flatMap V.cells) olds) (ho1 : ∀ v ∈ xs.flatMap V.cells, v.one = true) (hosz : ∀ x ∈ xs, x.cells.length = i.size)
    (hl : xs.length ≤ cap) (hg : cap < xs.length + 1) (hbound : (xs.length + 1) * i.bytes ≤ room)
    {bi : Nat} (hbi : bi ≤ S.st.bufs.length) (hbm : bi < S.st.bufs.length → S.st.bufs[bi]? = some (xs.length, i.bytes, e)) :
    ∃ S' r, (Builtin.append_ #[t, tx] ty #[.slice base xs.length cap, d]).run P S.w = .ok r S'.w ∧
      S'.st = ⟨S.st.obs, if bi < S.st.bufs.length then S.st.bufs.set bi (xs.length, i.bytes + pendF, e) else S.st.bufs ++ [(xs.length, i.bytes + pendF, e)]⟩ ∧
      Inv B w0 S' ∧ Ext S S' ∧ Rel S' (.slx bi i.size xs) r := by
  obtain ⟨news, hS, hnr, hn1, hnsz, hlen, dd, hdd, hdi⟩ := src_ok hty hy hsrc hf
  simp only [List.length_cons, List.length_nil, Nat.zero_add] at hS
  have hfit := nextslicecap_fits hg hbound
  have h63 := len_fits hb0 hbound
  have hrun := run_append_grow_src S.w t tx ty e i zc ht hi hz base xs.length cap olds hold d 1 news hS hg h63 hfit
  have hge := grownCap_ge S.w (xs.length + 1) cap e
  let nc := grownCap S.w (xs.length + 1) cap e
  have hnc : nc = grownCap S.w (xs.length + 1) cap e := rfl
  rw [← hnc] at hrun hge
  have hol : olds.length = xs.length * i.size := by rw [← hor.length, flat_length xs hosz]
  have hnl : news.length = 1 * i.size := by rw [← hnr.length, flat_length [z] hnsz]; rfl
  let cc : List Value := olds ++ news ++ (Builtin.zeroCells zc.cells (nc - (xs.length + 1))).toList
  have hcc : (olds ++ news).toArray ++ Builtin.zeroCells zc.cells (nc - (xs.length + 1)) = cc.toArray := by
    apply Array.ext'; simp [cc]
  have hccl : cc.length = nc * i.size := by
    have : (Builtin.zeroCells zc.cells (nc - (xs.length + 1))).toList.length = (nc - (xs.length + 1)) * i.size := by
      rw [Array.length_toList, zeroCells_size, hzs]
    simp only [cc, List.length_append, this, hol, hnl]
    rw [← Nat.add_mul, ← Nat.add_mul]
    congr 1
    omega
  have hpf : pendF < i.bytes + pendF := by omega
  have hunf : ¬ pendF < i.bytes := by
    have : pendF = 1099511627776 := rfl
    have : (2 : Nat) ^ 20 = 1048576 := by decide
    omega
  have hb : bi < S.drew.st.bufs.length → ∃ m0 by0, S.drew.st.bufs[bi]? = some (m0, by0) ∧ (m0 < xs.length ∨ (m0 = xs.length ∧ ¬ pendF < by0.1 ∧ pendF < (i.bytes + pendF, e).1)) :=
    fun h => ⟨xs.length, _, hbm h, .inr ⟨rfl, hunf, hpf⟩⟩
  have hE := (Ext.drew S).trans (Ext.grown (S := S.drew) hI.drew hbi hb (.cells cc.toArray e) (xs.length * i.size) (nc * i.size))
  have hI' := (hI.drew).grown hbi hb (cc := cc.toArray) (e := e) (f := xs.length * i.size) (t := nc * i.size) (by simp [hccl])
  refine ⟨_, .slice (some ⟨S.w.heap.size, 0, none⟩) (xs.length + 1) nc, ?_, rfl, hI', hE, ?_⟩
  · rw [hrun, hcc]; rfl
  · have hheap : (S.drew.grown bi xs.length (i.bytes + pendF, e) (.cells cc.toArray e) (xs.length * i.size) (nc * i.size)).w.heap[S.w.heap.size]? =
        some (.cells cc.toArray e (0, 0)) := heap_alloc_new S.w.drew _
    have htau : (S.drew.grown bi xs.length (i.bytes + pendF, e) (.cells cc.toArray e) (xs.length * i.size) (nc * i.size)).τ bi xs.length = (S.w.heap.size, xs.length * i.size, nc * i.size) := by
      show (if bi = bi ∧ pendF < i.bytes + pendF ∧ xs.length = xs.length then _ else _) = _
      rw [if_pos ⟨rfl, hpf, rfl⟩]
      rfl
    refine .slx bi i.size xs S.w.heap.size nc xs.length (i.bytes + pendF, e) hge hs0 hosz ?_ (grown_get (S := S.drew) hbi) (.inr ⟨rfl, hpf, ?_, cc.length, ?_⟩) htau
    · refine row_relC (n := xs.length * i.size) hheap ?_ ho1 ?_
      · have htake : cc.take (xs.length * i.size) = olds := by
          rw [← hol]
          simp only [cc, List.append_assoc]
          exact List.take_left
        rw [htake]
        exact hor.mono hE
      · intro j hj ho
        rcases ho with ⟨k, hk, hb'⟩ | ⟨k, hk, hb', h2, h3⟩ | hh
        rotate_left 2
        · obtain ⟨q0, hh, _⟩ := hh
          have hq : S.w.heap.size < S.w.heap.size := (hI.hid _ q0 hh).2.1
          omega
        · have := hI.mu_lt (i := k) hk.1
          simp only [Sit.grown, Sit.drew] at hb'
          omega
        · have hk₀ := hk
          simp only [Sit.grown, Sit.drew] at hb' h2 h3
          by_cases ek : k = bi
          · rw [if_pos ek] at h2; simp only at h2; omega
          · rw [if_neg ek] at hb' h2 h3
            have hk' : k < S.st.bufs.length := (grown_len (S := S.drew) hbi hk₀).resolve_right ek
            have := hI.rho_lt hk' (by omega)
            omega
    · rw [htau]
      simp [Sit.grown, Sit.drew]
    · rw [htau]
      rw [shape_heap hheap]
      simp

theorem appz_ok (hI : Inv B w0 S) {t tx ty e : TypeId} {sz by_ : Nat} (het : elemOf P t = some (e, sz, by_)) (hzz : zeroSz P e = some sz) (hb1 : by_ ≤ 2 ^ 20) (hb0 : 0 < by_) (hs0 : 0 < sz)
    (hty : appTy P sz tx = some false) {x y v : V} {c d : Value} (hx : Rel S x c) (hy : Rel S y d) {s' : St} (he : evAppz sz (by_, e) x y S.st = some (v, s')) :
    ∃ S' r, (Builtin.append_ #[t, tx] ty #[c, d]).run P S.w = .ok r S'.w ∧ S'.st = s' ∧ Inv B w0 S' ∧ Ext S S' ∧ Rel S' v r := by
  have hu : P.underlying t = some (.slice e) ∧ ∃ i, P.info? e = some i ∧ i.size = sz ∧ i.bytes = by_ := by
    unfold elemOf at het
    split at het
    · rename_i e' h'
      simp only [Option.map_eq_some_iff] at het
      obtain ⟨i, hi, h2⟩ := het
      simp only [Prod.mk.injEq] at h2
      obtain ⟨rfl, rfl, rfl⟩ := h2
      exact ⟨h', i, hi, rfl, rfl⟩
    · cases het
  obtain ⟨hu, i, hi, rfl, rfl⟩ := hu
  have hunf : i.bytes < pendF := by
    have : pendF = 1099511627776 := rfl
    have : (2 : Nat) ^ 20 = 1048576 := by decide
    omega
  have hpf : pendF < i.bytes + pendF := by omega
  have hz : ∃ zc, i.zero = some zc ∧ zc.cells.size = i.size := by
    simp only [zeroSz, hi, Option.bind_some, Option.map_eq_some_iff] at hzz
    exact hzz
  obtain ⟨zc, hz, hzs⟩ := hz
  unfold evAppz at he
  split at he
  · rename_i o xs oy z
    split at he
    · rename_i hcond
      obtain ⟨hfx, hfy, hbound⟩ := hcond
      have hsrc : appSrc false (.sl oy [z]) = some [z] := rfl
      cases o with
      | no => cases he
      | nil =>
        simp only at he
        split at he
        · rename_i hx0
          simp only [Option.some.injEq, Prod.mk.injEq] at he
          obtain ⟨rfl, rfl⟩ := he
          have hxs := List.eq_nil_of_length_eq_zero hx0
          subst hxs
          cases hx with
          | slNil =>
            have := growz_ok (ty := ty) (oy := oy) hI hu hi hz hzs hb1 hb0 hs0 hty hy hsrc hfy (xs := []) (base := none) (cap := 0) (olds := [])
              (run_firstCells_none S.w.drew i.size 0 0 0) .nil (by simp) (by simp) (by simp) (by simp) (by simpa using hbound)
              (bi := S.st.bufs.length) (Nat.le_refl _) (fun h => by omega)
            simpa using this
          | slAt _ _ _ _ _ _ _ _ _ h4 => exact h4.elim
        · cases he
      | emp =>
        simp only at he
        split at he
        · rename_i hx0
          simp only [Option.some.injEq, Prod.mk.injEq] at he
          obtain ⟨rfl, rfl⟩ := he
          have hxs := List.eq_nil_of_length_eq_zero hx0
          subst hxs
          cases hx with
          | slNew ad =>
            have := growz_ok (ty := ty) (oy := oy) hI hu hi hz hzs hb1 hb0 hs0 hty hy hsrc hfy (xs := []) (base := some ad) (cap := 0) (olds := [])
              (run_firstCells_some S.w.drew i.size 0 ad 0 0 [] (by simp) (by simp)) .nil (by simp) (by simp) (by simp) (by simp) (by simpa using hbound)
              (bi := S.st.bufs.length) (Nat.le_refl _) (fun h => by omega)
            simpa using this
          | slAt _ _ _ _ _ _ _ _ _ h4 => exact h4.elim
        · cases he
      | buf bi =>
        simp only at he
        split at he
        · rename_i hbuf
          simp only [Option.some.injEq, Prod.mk.injEq] at he
          obtain ⟨rfl, rfl⟩ := he
          have hbl := lt_of_get hbuf
          have hgrow := fun (base : Option Addr) (cap : Nat) (olds : List Value) h1 h2 h3 h4 h5 h7 =>
            growz_ok (ty := ty) (oy := oy) hI hu hi hz hzs hb1 hb0 hs0 hty hy hsrc hfy (xs := xs) (base := base) (cap := cap) (olds := olds) h1 h2 h3 h4 h5 h7 hbound
              (bi := bi) (Nat.le_of_lt hbl) (fun _ => hbuf)
          rw [if_pos hbl] at hgrow
          cases hx with
          | slBuf _ _ =>
            exact hgrow none 0 [] (run_firstCells_none S.w.drew i.size 0 0 0) .nil (by simp) (by simp) (by simp) (by simp)
          | slAt _ _ b off cap sz h1 h2 h3 h4 =>
            obtain ⟨m, by', hm, hn, hk⟩ := h4
            rw [hbuf] at hm
            simp only [Option.some.injEq, Prod.mk.injEq] at hm
            obtain ⟨rfl, rfl⟩ := hm
            obtain ⟨hpos, _, hoff0, ⟨ksh, hksh⟩, hρ⟩ := hk rfl hunf
            have hne : xs ≠ [] := fun q => by rw [q] at hpos; simp at hpos
            have hsz := fits_eq hfx h2 hne
            subst hsz
            obtain ⟨olds, g1, g2, g3⟩ := h3.values
            have hol : olds.length = xs.length * i.size := by rw [← g1.length, flat_length xs h2]
            by_cases hfit : xs.length + 1 ≤ cap
            · obtain ⟨news, hS, hnr, hn1, hnsz, _⟩ := src_ok hty hy hsrc hfy
              simp only [List.length_cons, List.length_nil, Nat.zero_add] at hS
              have hnl : news.length = i.size := by rw [← hnr.length, flat_length [z] hnsz]; simp
              subst hoff0
              rw [Nat.zero_add, Nat.zero_add] at hρ
              have hend : xs.length * i.size + news.length ≤ cap * i.size := by
                rw [hnl]
                have := Nat.mul_le_mul_right i.size hfit
                rw [Nat.add_mul, Nat.one_mul] at this
                exact this
              have hspare := fun j (hj : j < news.length) => hI.buf bi hbl (xs.length * i.size + j) (by rw [hρ]; simp only; omega) (by rw [hρ]; simp only; omega)
              rw [hρ] at hspare
              have hrun := run_append_room_src (P := P) S.w t tx ty e i hu hi b 0 xs.length cap d 1 news hS hfit
                (fun j hj => by obtain ⟨_, ⟨c, hc⟩, _⟩ := hspare j hj; simp only at hc; rw [Nat.zero_add, hc]; rfl) (fun j hj => by have := (hspare j hj).2.2; simpa using this)
              rw [Nat.zero_add] at hrun
              have hflag : xs.length < xs.length ∨ (xs.length = xs.length ∧ ¬ pendF < (i.bytes, e).1 ∧ pendF < (i.bytes + pendF, e).1) := .inr ⟨rfl, by simp only; omega, hpf⟩
              have hE := Ext.filled (by_ := (i.bytes + pendF, e)) (st' := xs.length * i.size) hI hbl hbuf hflag (Nat.le_refl _) hρ hend (by omega)
              have hI' := hI.filled (by_ := (i.bytes + pendF, e)) (st' := xs.length * i.size) hbl hbuf hflag (Nat.le_refl _) hρ hend (by omega)
              have htau : (S.filled bi xs.length (i.bytes + pendF, e) b (xs.length * i.size) (xs.length * i.size) (cap * i.size) news).τ bi xs.length = (b, xs.length * i.size, cap * i.size) := by
                show (if bi = bi ∧ pendF < i.bytes + pendF ∧ xs.length = xs.length then _ else _) = _
                rw [if_pos ⟨rfl, hpf, rfl⟩]
              refine ⟨_, .slice (some ⟨b, 0, none⟩) (xs.length + 1) cap, hrun, rfl, hI', hE, ?_⟩
              refine .slx bi i.size xs b cap xs.length (i.bytes + pendF, e) hfit hs0 h2 (h3.mono hE) ?_ (.inr ⟨rfl, hpf, ?_, ksh, ?_⟩) htau
              · simp only [Sit.filled]
                rw [List.getElem?_set_self hbl]
              · rw [htau]
                simp [Sit.filled]
              · rw [htau]
                exact (hE.shape b (shape_lt hksh)).trans hksh
            · have hcell : ∀ j u, olds[j]? = some u → S.w.cell? ((⟨b, off, none⟩ : Addr).add j) = some u := fun j u hu => by
                rw [Addr.add_at]; exact (g2 j u hu).1
              exact hgrow (some ⟨b, off, none⟩) cap olds (run_firstCells_some S.w.drew i.size xs.length ⟨b, off, none⟩ xs.length cap olds hol (by simpa using hcell)) g1 h3.all_one h2 h1 (by omega)
        · cases he
    · cases he
  · cases he

/-- The telling. -/
theorem stz_ok (hI : Inv B w0 S) {t : TypeId} {n : Nat} (hn : szOf P t = some n) {p x v : V} {c d : Value} (hp : Rel S p c) (hx : Rel S x d) {s' : St} (he : evStz n p x S.st = some (v, s')) :
    ∃ S', (Instr.storeAt t c d).run P S.w = .ok () S'.w ∧ S'.st = s' ∧ Inv B w0 S' ∧ Ext S S' ∧ Rel S' v c := by
  unfold evStz at he
  split at he
  · rename_i i sz k
    split at he
    · rename_i m b ty hbuf
      split at he
      · rename_i hcond
        obtain ⟨rfl, hfl, hxl, rfl, h1⟩ := hcond
        simp only [Option.some.injEq, Prod.mk.injEq] at he
        obtain ⟨rfl, rfl⟩ := he
        cases hp with
        | spp _ _ _ m' by_ g1 g2 =>
          rw [hbuf] at g1
          simp only [Option.some.injEq, Prod.mk.injEq] at g1
          obtain ⟨rfl, rfl⟩ := g1
          rcases g2 with g2 | ⟨_, _, hρτ, hlo, hhi, hs0, ksh, hksh⟩
          · omega
          have hbl := lt_of_get hbuf
          generalize hT : S.τ i m = T at *
          obtain ⟨bb, lo, hi⟩ := T
          simp only at hlo hhi hksh hρτ
          have hcs := hx.cells (V.real_of_all_one h1)
          have hsz : d.cells.toList.length = n := by rw [← hcs.length]; exact hxl
          have hone := hcs.ones h1
          have hend : lo + d.cells.toList.length ≤ hi := by omega
          have hspare := fun j (hj : j < d.cells.toList.length) => hI.buf i hbl (lo + j) (by rw [hρτ]; simp only; omega) (by rw [hρτ]; simp only; omega)
          rw [hρτ] at hspare
          have hst := run_storeCells_cells (P := P) bb lo d.cells.toList 0 S.w (fun j hj => by obtain ⟨_, ⟨c, hc⟩, _⟩ := hspare j hj; simp only at hc; simp [hc]) (fun j hj => by have := (hspare j hj).2.2; simpa using this) hone
          simp only [Nat.add_zero] at hst
          have hlt : m < m + 1 ∨ (m = m + 1 ∧ ¬ pendF < (b, ty).1 ∧ pendF < (b - pendF, ty).1) := .inl (by omega)
          have hE := Ext.filled (by_ := (b - pendF, ty)) (st' := lo + d.cells.toList.length) hI hbl hbuf hlt (Nat.le_add_right _ _) hρτ hend (by omega)
          have hI' := hI.filled (by_ := (b - pendF, ty)) (st' := lo + d.cells.toList.length) hbl hbuf hlt (Nat.le_add_right _ _) hρτ hend (by omega)
          have htau : (S.filled i (m + 1) (b - pendF, ty) bb lo (lo + d.cells.toList.length) hi d.cells.toList).τ i m = (bb, lo, hi) := by
            simp only [Sit.filled]
            rw [if_neg (by omega), hT]
          refine ⟨_, ?_, rfl, hI', hE, ?_⟩
          · simp only [Instr.storeAt, Instr.sureAddr, Sem.run_bind, Sem.run_pure, Result.andThen_ok]
            unfold storeVar
            rw [Sem.run_bind, run_sizeOf' hn]
            have hcz : d.cells.size = n := by simpa using hsz
            simp only [Result.andThen_ok, hcz, ne_eq, not_true, if_false]
            exact hst
          · have hne' : (S.ρ i).2.1 < (S.ρ i).2.2 := by rw [hρτ]; simp only; omega
            have hrelC : RelC (S.filled i (m + 1) (b - pendF, ty) bb lo (lo + d.cells.toList.length) hi d.cells.toList) x.cells bb lo := by
              refine RelC.of (hcs.mono hE) (by rw [List.all_eq_true] at h1; exact h1) ?_
              intro j c' hj
              have hjl := lt_of_get hj
              refine ⟨?_, ?_⟩
              · have := World.cell?_setCells_in bb d.cells.toList lo S.w (fun j hj => by obtain ⟨_, ⟨c, hc⟩, _⟩ := hspare j hj; simp only at hc; rw [hc]; rfl) j hjl
                rw [List.getElem?_eq_getElem hjl] at hj
                exact this.trans hj
              · intro ho
                rcases ho with ⟨k', hk', hb'⟩ | ⟨k', hk', hb', q2, q3⟩ | hh
                rotate_left 2
                · obtain ⟨q0, hh, _⟩ := hh
                  have := (hI.hid _ q0 hh).2.2.2 i hbl (.inl hne')
                  rw [hρτ] at this
                  exact this rfl
                · have := hI.bufobj i k' hbl hk'.1 (.inl hne')
                  rw [hρτ] at this
                  exact this hb'
                · simp only [Sit.filled, List.length_set] at hk' hb' q2 q3
                  by_cases ek : k' = i
                  · rw [if_pos ek] at q2; simp only at q2; omega
                  · rw [if_neg ek] at hb' q2 q3
                    have := hI.bufbuf k' i hk' hbl ek (.inl (by omega)) (.inl hne')
                    rw [hρτ] at this
                    exact this hb'.symm
            have hfin : Rel (S.filled i (m + 1) (b - pendF, ty) bb lo (lo + d.cells.toList.length) hi d.cells.toList) (.epz i n m x.cells)
                (.pointer (some ⟨((S.filled i (m + 1) (b - pendF, ty) bb lo (lo + d.cells.toList.length) hi d.cells.toList).τ i m).1, ((S.filled i (m + 1) (b - pendF, ty) bb lo (lo + d.cells.toList.length) hi d.cells.toList).τ i m).2.1, none⟩)) := by
              refine .epz i n m x.cells (m + 1) (b - pendF, ty) ?_ (by omega) (by rw [htau]; exact hrelC) ?_
              · simp only [Sit.filled]
                rw [List.getElem?_set_self hbl]
              · intro _ _
                refine ⟨by simp only; omega, ?_, ksh, ?_⟩
                · rw [htau, hxl, ← hsz]
                  simp [Sit.filled]
                · rw [htau]
                  exact (hE.shape bb (shape_lt hksh)).trans hksh
            rw [htau] at hfin
            exact hfin
      · cases he
    · cases he
  · cases he

theorem packV_cells {cs : List V} (h : cs.all V.one = true) : (packV cs).cells = cs := by
  unfold packV
  split
  · rename_i c
    simp only [List.all_cons, List.all_nil, Bool.and_true] at h
    cases c <;> first | rfl | simp [V.one] at h
  · rfl

/-- What was told later is what was appended. -/
theorem told_ok {x q : V} {c d : Value} (hx : Rel S x c) (hq : Rel S q d) : Rel S (told x q) c := by
  unfold told
  split
  · rename_i i sz xs j sz' k cs
    split
    · rename_i hc
      obtain ⟨rfl, rfl, rfl, hcs, h1⟩ := hc
      cases hx with
      | slx _ _ _ b cap m by_ g1 g2 g3 g4 g5 g6 g7 =>
        cases hq with
        | epz _ _ _ _ m' by' k1 k2 k3 k4 =>
          rw [g5] at k1
          simp only [Option.some.injEq, Prod.mk.injEq] at k1
          obtain ⟨rfl, rfl⟩ := k1
          have hl : (xs ++ [packV cs]).length = xs.length + 1 := by simp
          have hflat : [packV cs].flatMap V.cells = cs := by simp [packV_cells h1]
          have hres : Rel S (.sl (.buf i) (xs ++ [packV cs])) (.slice (some ⟨b, 0, none⟩) (xs ++ [packV cs]).length cap) := by
            refine .slAt (.buf i) (xs ++ [packV cs]) b 0 cap sz (by omega) ?_ ?_ ?_
            · intro y hy
              rcases List.mem_append.1 hy with hy | hy
              · exact g3 y hy
              · simp only [List.mem_singleton] at hy
                subst hy
                rw [packV_cells h1]
                exact hcs
            · rw [List.flatMap_append, hflat]
              refine g4.append ?_
              rw [flat_length xs g3, Nat.zero_add]
              rw [g7] at k3
              exact k3
            · refine ⟨m, by_, g5, by omega, ?_⟩
              intro e hfl
              obtain ⟨p0, p1, kk, p2⟩ := k4 (by omega) hfl
              rw [g7] at p1 p2
              refine ⟨by omega, p0, rfl, ⟨kk, p2⟩, ?_⟩
              rw [p1, hl, hcs, Nat.add_mul, Nat.one_mul, Nat.zero_add, Nat.zero_add]
          rw [hl] at hres
          exact hres
    · exact hx
  · exact hx

end
end Go.Proofs.YtboejpobmpfifaaGreatDoor.Eng
