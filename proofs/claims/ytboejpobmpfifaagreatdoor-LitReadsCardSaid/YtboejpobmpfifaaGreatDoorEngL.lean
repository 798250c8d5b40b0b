/-
 Regions that draw their order: the theorem. No condition.
-/
import Derived.Test.YtboejpobmpfifaaGreatDoorEngK
set_option linter.unusedSimpArgs false
namespace Go.Proofs.YtboejpobmpfifaaGreatDoor.Eng
open Go Go.RowKit
section
variable {P : Program} {B : Nat} {w0 : World} {S : Sit}
theorem xP {p p' : Nat → Bool} : ∀ {l : List Nat} {x : Nat}, x ∈ l → p x = true → p' x = false → (∀ y, p' y = true → p y = true) → l.countP p' < l.countP p
 | y :: l, x, hx, h1, h2, h => by
  have hle : l.countP p' ≤ l.countP p := List.countP_mono_left (fun y _ => h y)
  rw [List.countP_cons, List.countP_cons]
  rcases List.mem_cons.1 hx with rfl | hx
  ·rw [h1, h2]; simp; omega
  ·have := xP hx h1 h2 h
   cases hq : p' y with
   | true => rw [h y hq]; simp; omega
   | false => simp; split <;> omega
theorem vS {α β : Type} {f : α → Option β} : ∀ {l : List α} {r : List β}, l.mapM f = some r → r.length = l.length ∧ ∀ (i : Nat) (a : α) (b : β), l[i]? = some a → r[i]? = some b → f a = some b
 | [], r, h => by
  simp at h; subst h
  exact ⟨rfl, fun i a b h => by simp at h⟩
 | x :: l, r, h => by
  simp only [List.mapM_cons, Option.bind_eq_bind, Option.bind_eq_some_iff, Option.pure_def, Option.some.injEq] at h
  obtain ⟨y, hy, r', hr, rfl⟩ := h
  obtain ⟨h1, h2⟩ := vS hr
  refine ⟨by simp [h1], ?_⟩
  intro i a b ha hb
  cases i with
  | zero => simp at ha hb; subst ha; subst hb; exact hy
  | succ i => simp at ha hb; exact h2 i a b ha hb
theorem AA {h : Hint} {ops : Array Oper} {n : Nat} {fs : List Qy} (hm : ops.toList.mapM (kE P h ops n) = some fs) : fs.length = ops.size := by
 rw [(vS hm).1]; simp
theorem JD {h : Hint} {ops : Array Oper} {n : Nat} {fs : List Qy} (hm : ops.toList.mapM (kE P h ops n) = some fs) {i : Nat} {o : Oper} {f : Qy} (ho : ops[i]? = some o) (hf : fs[i]? = some f) :
  kE P h ops n o = some f := (vS hm).2 i o f (by simpa using ho) hf
def rest (fs : List Qy) (L : Array Bool) : List (Qy × Nat) := fs.zipIdx.filter fun p => !L.getD p.2 false
theorem He (a : Act) (d : Option Nat) (c : Value) (t : Nat) (h : d ≠ some t) : (a.put d c).tmps.getD t undef = a.tmps.getD t undef := by
 rw [Array.getD_eq_getD_getElem?, uE _ _ _ _ h, ← Array.getD_eq_getD_getElem?]
theorem xD (a : Act) (t : Nat) (c : Value) (h : t < a.tmps.size) : (a.put (some t) c).tmps.getD t undef = c := by
 simp only [Act.put]
 rw [Array.getD_eq_getD_getElem?, Array.getElem?_setIfInBounds, if_pos rfl, if_pos h]
 rfl
theorem Trd.front {f : Qy} {bs : List Qy} {e' : Env} {s' : St} : ∀ (as : List Qy) (e : Env) (s0 : St),
  (∀ a ∈ as, (∀ t, a.dst = some t → t ∉ f.uses) ∧ (∀ t, f.dst = some t → t ∉ a.uses) ∧ (∀ t, a.dst = some t → f.dst ≠ some t)) →
  (∀ (l : List Qy) (a : Qy) (r : List Qy), as = l ++ a :: r → ∀ (e : Env) (s : St), (∀ t, (∀ g ∈ a :: f :: (r ++ bs), g.dst ≠ some t) → e' t = e t ∨ e' t = .junk) → ((∀ g ∈ l, eW g = false) → s = s0) →
   ∀ ea ef s1 s2 va vf, Less ea e → Less ef (put e a.dst va) → Qh P B w0 a ea s va s1 → Qh P B w0 f ef s1 vf s2 → ∃ s1', Qh P B w0 f ef s vf s1' ∧ Qh P B w0 a ea s1' va s2) →
  Trd P B w0 (as ++ f :: bs) e s0 e' s' → Trd P B w0 (f :: (as ++ bs)) e s0 e' s'
 | [], _, _, _, _, h => h
 | a :: as, e, s, h1, h2, h => by
  have hh : Trd P B w0 (a :: f :: (as ++ bs)) e s e' s' := by
   cases h with
   | cons _ _ _ ea _ _ s1 _ va hla hra h =>
    exact .cons _ _ _ _ _ _ _ _ _ hla hra (Trd.front as _ _ (fun a ha => h1 a (by simp [ha])) (fun l a' r hq e2 s2 hk hs => h2 (a :: l) a' r (by rw [hq]; rfl) e2 s2 hk (fun hall => by
     have hs1 := hra.quiet (hall a (by simp))
     rw [← hs1]
     exact hs (fun g hg => hall g (by simp [hg])))) h)
  obtain ⟨k1, k2, k3⟩ := h1 a (by simp)
  exact hh.swap k1 k2 k3 (h2 [] a as rfl e s (fun t ht => hh.kept ht) (fun _ => rfl))
structure At (P : Program) (B : Nat) (w0 : World) (ops : Array Oper) (fs : List Qy) (e' : Env) (s' : St) (S0 : Sit) (a0 : Act) (L : Array Bool) (S : Sit) (a : Act) : Prop where
 size : L.size = ops.size
 closed : Closed ops L
 inv : Inv B w0 S
 ext : Ext S0 S
 trd : ∃ e, Qp S e a ∧ Trd P B w0 ((rest fs L).map (·.1)) e S.st e' s'
 asize : a.tmps.size = a0.tmps.size
 defers : a.defers = a0.defers
theorem Dm {fs : List Qy} {L : Array Bool} {j : Nat} {f : Qy} (hf : fs[j]? = some f) (hun : L.getD j false = false) (hj : j < L.size) :
  ∃ as bs, rest fs L = as ++ (f, j) :: bs ∧ rest fs (L.setIfInBounds j true) = as ++ bs ∧ (∀ p ∈ as, fs[p.2]? = some p.1 ∧ p.2 < j ∧ L.getD p.2 false = false) ∧ (∀ p ∈ bs, fs[p.2]? = some p.1 ∧ j < p.2 ∧ L.getD p.2 false = false) ∧
   (as.Pairwise fun p q => p.2 < q.2) := by
 have hz : (fs.zipIdx)[j]? = some (f, j) := by simp [hf]
 have hlt := (List.getElem?_eq_some_iff.1 hz).1
 have hsp : fs.zipIdx = fs.zipIdx.take j ++ (f, j) :: fs.zipIdx.drop (j + 1) := by
  have h1 := List.take_append_drop j fs.zipIdx
  rw [List.drop_eq_getElem_cons hlt] at h1
  have h2 : fs.zipIdx[j] = (f, j) := by
   have := List.getElem?_eq_getElem hlt
   rw [hz] at this
   exact (Option.some.inj this).symm
  rw [h2] at h1
  exact h1.symm
 have hta : ∀ p ∈ fs.zipIdx.take j, fs[p.2]? = some p.1 ∧ p.2 < j := by
  intro p hp
  obtain ⟨k, hk⟩ := List.getElem?_of_mem hp
  rw [List.getElem?_take] at hk
  split at hk
  ·have h3 := hk
   rw [List.getElem?_zipIdx] at h3
   simp only [Option.map_eq_some_iff] at h3
   obtain ⟨g, hg, rfl⟩ := h3
   simp only [Nat.zero_add]
   exact ⟨hg, by omega⟩
  ·cases hk
 have htb : ∀ p ∈ fs.zipIdx.drop (j + 1), fs[p.2]? = some p.1 ∧ j < p.2 := by
  intro p hp
  obtain ⟨k, hk⟩ := List.getElem?_of_mem hp
  rw [List.getElem?_drop, List.getElem?_zipIdx] at hk
  simp only [Option.map_eq_some_iff] at hk
  obtain ⟨g, hg, rfl⟩ := hk
  simp only [Nat.zero_add]
  exact ⟨hg, by omega⟩
 have hsame : ∀ p : Qy × Nat, p.2 ≠ j → (!(L.setIfInBounds j true).getD p.2 false) = (!L.getD p.2 false) := by
  intro p hp
  rw [pD hj, if_neg (Ne.symm hp)]
 have hpw : (fs.zipIdx.take j).Pairwise fun p q => p.2 < q.2 := by
  have : (fs.zipIdx).Pairwise fun p q => p.2 < q.2 := by
   rw [List.pairwise_iff_getElem]
   intro i k hi hk hik
   simp only [List.getElem_zipIdx]
   omega
  exact this.sublist (List.take_sublist _ _)
 unfold rest
 generalize fs.zipIdx.take j = X at hsp hta hpw
 generalize fs.zipIdx.drop (j + 1) = Y at hsp htb
 rw [hsp]
 refine ⟨X.filter (fun p => !L.getD p.2 false), Y.filter (fun p => !L.getD p.2 false), ?_, ?_, ?_, ?_, ?_⟩
 ·rw [List.filter_append, List.filter_cons_of_pos (by simp [hun])]
 ·rw [List.filter_append, List.filter_cons_of_neg (by rw [pD hj, if_pos rfl]; simp)]
  congr 1
  ·exact List.filter_congr fun p hp => hsame p (by have := (hta p hp).2; omega)
  ·exact List.filter_congr fun p hp => hsame p (by have := (htb p hp).2; omega)
 ·intro p hp
  obtain ⟨hp1, hp2⟩ := List.mem_filter.1 hp
  exact ⟨(hta p hp1).1, (hta p hp1).2, by simpa using hp2⟩
 ·intro p hp
  obtain ⟨hp1, hp2⟩ := List.mem_filter.1 hp
  exact ⟨(htb p hp1).1, (htb p hp1).2, by simpa using hp2⟩
 ·exact hpw.filter _
theorem At.step {h : Hint} {ops : Array Oper} {n : Nat} {fs : List Qy} {aps : List (Nat × Nat)} {e' : Env} {s' : St} (hm : ops.toList.mapM (kE P h ops n) = some fs) (hd : oI ops fs aps = true) (hap : fP aps e' = true)
  {S0 : Sit} {a0 : Act} (hn : n ≤ a0.tmps.size) {L : Array Bool} {a : Act} (hA : At P B w0 ops fs e' s' S0 a0 L S a) {j : Nat} (hj : j ∈ Region.ready .any ops L)
  {Q : Exit → Act → World → Prop} {K : Act → World → Prop} (k : ∀ S' a', At P B w0 ops fs e' s' S0 a0 (L.setIfInBounds j true) S' a' → K a' S'.w) : wpOp P ops Q j K a S.w := by
 obtain ⟨hlt, hun, hall⟩ := (pU hA.size).1 hj
 have hseg := AA hm
 have hjf : j < fs.length := by rw [hseg]; exact hlt
 have hf : fs[j]? = some fs[j] := List.getElem?_eq_getElem hjf
 have ho : ops[j]? = some ops[j] := Array.getElem?_eq_getElem hlt
 have hc : kE P h ops n ops[j] = some fs[j] := JD hm ho hf
 generalize hfj : fs[j] = f at *
 generalize ops[j] = o at *
 obtain ⟨hd1, hd2⟩ := oJ hd hf
 obtain ⟨as, bs, hr1, hr2, has, hbs, hpw⟩ := Dm hf hun (by rw [hA.size]; exact hlt)
 obtain ⟨e, hE, hT⟩ := hA.trd
 rw [hr1] at hT
 simp only [List.map_append, List.map_cons] at hT
 have hfree : ∀ p ∈ as, (∀ t, p.1.dst = some t → t ∉ f.uses) ∧ (∀ t, f.dst = some t → t ∉ p.1.uses) ∧ (∀ t, p.1.dst = some t → f.dst ≠ some t) := by
  intro p hp
  obtain ⟨hp1, hp2, hp3⟩ := has p hp
  refine ⟨?_, ?_, ?_⟩
  ·intro t ht hu
   rcases ((hd2 p.2 p.1 hp1).1 t ht).2 hu with hq | hq
   ·have := hall p.2 hq.2
    rw [hp3] at this
    cases this
   ·omega
  ·intro t ht hu
   rcases (((oJ hd hp1).2 j f hf).1 t ht).2 hu with hq | ⟨_, hq | hq⟩
   ·omega
   ·omega
   ·have := hall p.2 hq
    rw [hp3] at this
    cases this
  ·intro t ht
   rcases ((hd2 p.2 p.1 hp1).1 t ht).1 (by omega) with hq | ⟨_, hq⟩ | ⟨hq, _⟩
   ·exact hq
   ·have := sL hA.closed hall hq
    rw [hp3] at this
    cases this
   ·omega
 have hfar : ∀ p ∈ as, vX fs aps (mO f.op && sH ops fs j) p.1 p.2 f j = true := by
  intro p hp
  obtain ⟨hp1, hp2, hp3⟩ := has p hp
  rcases (hd2 p.2 p.1 hp1).2 hp2 with hq | hq
  ·have := sL hA.closed hall hq
   rw [hp3] at this
   cases this
  ·exact hq
 have hT2 := Trd.front (f := f) (bs := bs.map (·.1)) (as.map (·.1)) e S.st (fun a ha => by
   obtain ⟨p, hp, rfl⟩ := List.mem_map.1 ha
   exact hfree p hp) (by
  intro l a r hlr e s hkept hst0 ea ef s1 s2 va vf hla hlf hra hrf
  obtain ⟨l', r0, hl1, hl2, hl3⟩ := List.map_eq_append_iff.1 hlr
  obtain ⟨p, r', hp0, hp1, hr'⟩ := List.map_eq_cons_iff.1 hl3
  subst hp0
  have hpm : p ∈ as := by rw [hl1]; simp
  obtain ⟨q1, q2, q3⟩ := has p hpm
  subst hp1
  refine sc (hfar p hpm) hra hrf ?_ hap ?_
  ·intro hcm0 i o hi
   have hcm : sH ops fs j = true := (Bool.and_eq_true_iff.1 hcm0).2
   have hs0 := hst0 (fun g hg => by
    rw [← hl2] at hg
    obtain ⟨q, hq, rfl⟩ := List.mem_map.1 hg
    have hqm : q ∈ as := by rw [hl1]; simp [hq]
    obtain ⟨w1, w2, w3⟩ := has q hqm
    rcases EX hcm w1 w2 with h | h
    ·exact h
    ·have := sL hA.closed hall h
     rw [w3] at this
     cases this)
   rw [hs0] at hi ⊢
   exact (hA.inv.obj i o hi).2.und
  intro x y hyo hsx hsy
  have hnx : ∀ g ∈ p.1 :: f :: (r ++ bs.map (·.1)), g.dst ≠ some x := by
   intro g hg
   simp only [List.mem_cons, List.mem_append] at hg
   rcases hg with rfl | rfl | hg | hg
   ·exact iH hsx q1 (Nat.le_refl _)
   ·exact iH hsx hf (by omega)
   ·rw [← hr'] at hg
    obtain ⟨q, hq, rfl⟩ := List.mem_map.1 hg
    have hqm : q ∈ as := by rw [hl1]; simp [hq]
    have hpq : p.2 < q.2 := by
     rw [hl1, List.pairwise_append] at hpw
     exact (List.pairwise_cons.1 hpw.2.1).1 q hq
    exact iH hsx (has q hqm).1 (by omega)
   ·obtain ⟨q, hq, rfl⟩ := List.mem_map.1 hg
    obtain ⟨w1, w2, w3⟩ := hbs q hq
    exact iH hsx w1 (by omega)
  have hyu : y ∈ f.uses := List.mem_append.2 (.inr hyo)
  have hny : ∀ g ∈ p.1 :: f :: (r ++ bs.map (·.1)), g.dst ≠ some y := by
   intro g hg
   simp only [List.mem_cons, List.mem_append] at hg
   rcases hg with rfl | rfl | hg | hg
   ·intro hgy
    exact (hfree p hpm).1 y hgy hyu
   ·exact iH hsy hf (Nat.le_refl _)
   ·rw [← hr'] at hg
    obtain ⟨q, hq, rfl⟩ := List.mem_map.1 hg
    have hqm : q ∈ as := by rw [hl1]; simp [hq]
    intro hgy
    exact (hfree q hqm).1 y hgy hyu
   ·obtain ⟨q, hq, rfl⟩ := List.mem_map.1 hg
    obtain ⟨w1, w2, w3⟩ := hbs q hq
    exact iH hsy w1 (by omega)
  have hx' := hkept x hnx
  have hy' := hkept y hny
  have hea := hla x
  have hef := hlf y
  rw [gC (e := e) (d := p.1.dst) (by
   intro hm
   have := hny p.1 (by simp)
   cases hq : p.1.dst with
   | none => rw [hq] at hm; simp at hm
   | some d => rw [hq] at hm this; simp at hm; exact this (by rw [hm]))] at hef
  refine ⟨?_, ?_⟩
  ·rcases hx' with hx' | hx'
   ·rcases hea with hea | hea
    ·exact .inl (by rw [hea, hx'])
    ·exact .inr (.inl hea)
   ·exact .inr (.inr hx')
  ·rcases hy' with hy' | hy'
   ·rcases hef with hef | hef
    ·exact .inl (by rw [hef, hy'])
    ·exact .inr (.inl hef)
   ·exact .inr (.inr hy')) hT
 cases hT2 with
 | cons _ _ _ e1 _ _ s1 _ v hle hsem hT3 =>
  refine HQ (e := e1) ho hc hA.inv (fun t _ => ?_) hsem ?_
  ·rcases hle t with h | h
   ·rw [h]; exact hE t
   ·rw [h]; exact .junk _
  intro S' c hst' hI' hX hrel
  refine k S' _ ⟨by simpa using hA.size, ?_, hI', hA.ext.trans hX, ⟨put e f.dst v, ?_, ?_⟩, by rw [rT]; exact hA.asize, by rw [nP]; exact hA.defers⟩
  ·intro i hi m hmi
   rw [pD (by rw [hA.size]; exact hlt)] at hi ⊢
   split
   ·rfl
   ·split at hi
    ·rename_i hji
     subst hji
     exact hall m hmi
    ·exact hA.closed i hi m hmi
  ·intro t
   by_cases ht : f.dst = some t
   ·rw [ht, xD]
    ·simpa [Eng.put, upd] using hrel
    ·have hlt' : t < n := Bb hc ht
     rw [hA.asize]
     exact Nat.lt_of_lt_of_le hlt' hn
   ·rw [He _ _ _ _ ht, gC]
    ·exact (hE t).mono hX
    ·intro hm
     cases hq : f.dst with
     | none => rw [hq] at hm; simp at hm
     | some d => rw [hq] at hm ht; simp at hm; exact ht (by rw [hm])
  ·rw [hr2, hst', List.map_append]
   exact hT3
theorem Cw {ops : Array Oper} {fs : List Qy} {aps : List (Nat × Nat)} (hlen : fs.length = ops.size) (hd : oI ops fs aps = true) {L : Array Bool} (hL : L.size = ops.size) (hr : Region.ready .any ops L = []) : ∀ i, i < ops.size → L.getD i false = true := by
 intro i
 induction i using Nat.strongRecOn with
 | ind i ih =>
  intro hi
  cases hq : L.getD i false with
  | true => rfl
  | false =>
   have : i ∈ Region.ready .any ops L := by
    rw [pU hL]
    refine ⟨hi, hq, fun j hj => ?_⟩
    have hlt := (oJ hd (List.getElem?_eq_getElem (by omega : i < fs.length))).1 j hj
    exact ih j hlt (by omega)
   rw [hr] at this
   cases this
theorem At.done {h : Hint} {ops : Array Oper} {n : Nat} {fs : List Qy} {e' : Env} {s' : St} (hm : ops.toList.mapM (kE P h ops n) = some fs)
  {S0 : Sit} {a0 : Act} {L : Array Bool} {a : Act} (hA : At P B w0 ops fs e' s' S0 a0 L S a) (hall : ∀ i, i < ops.size → L.getD i false = true) : S.st = s' ∧ Qp S e' a := by
 have hlen := AA hm
 obtain ⟨e, hE, hT⟩ := hA.trd
 have hr : rest fs L = [] := by
  unfold rest
  rw [List.filter_eq_nil_iff]
  intro p hp
  have hi : p.2 < ops.size := by
   obtain ⟨k, hk⟩ := List.getElem?_of_mem hp
   rw [List.getElem?_zipIdx] at hk
   simp only [Option.map_eq_some_iff] at hk
   obtain ⟨g, hg, rfl⟩ := hk
   have := (List.getElem?_eq_some_iff.1 hg).1
   simp only [Nat.zero_add]
   omega
  rw [hall _ hi]
  simp
 rw [hr] at hT
 cases hT with
 | nil _ _ _ hl => exact ⟨rfl, fun t => by
   rcases hl t with h | h
   ·rw [h]; exact hE t
   ·rw [h]; exact .junk _⟩
theorem EO {h : Hint} {ops : Array Oper} {n : Nat} {fs : List Qy} {aps : List (Nat × Nat)} {e' : Env} {s' : St} (hm : ops.toList.mapM (kE P h ops n) = some fs) (hd : oI ops fs aps = true) (hap : fP aps e' = true)
  {S0 : Sit} {a0 : Act} (hn : n ≤ a0.tmps.size) {Q : Exit → Act → World → Prop}
  (k : ∀ S' a', S'.st = s' → Inv B w0 S' → Ext S0 S' → Qp S' e' a' → a'.tmps.size = a0.tmps.size → a'.defers = a0.defers → Q .normal a' S'.w) :
  ∀ (fuel : Nat) (L : Array Bool) (S : Sit) (a : Act), At P B w0 ops fs e' s' S0 a0 L S a → (List.range ops.size).countP (fun i => !L.getD i false) ≤ fuel → wpAny P .any ops Q fuel L a S.w := by
 have hlen := AA hm
 have hend : ∀ (L : Array Bool) (S : Sit) (a : Act), At P B w0 ops fs e' s' S0 a0 L S a → Region.ready .any ops L = [] → Q .normal a S.w := by
  intro L S a hA hr
  obtain ⟨h1, h2⟩ := hA.done hm (Cw hlen hd hA.size hr)
  exact k S a h1 hA.inv hA.ext h2 hA.asize hA.defers
 intro fuel
 induction fuel with
 | zero =>
  intro L S a hA hc
  have hr : Region.ready .any ops L = [] := by
   refine List.eq_nil_iff_forall_not_mem.2 fun j hj => ?_
   obtain ⟨hlt, hun, _⟩ := (pU hA.size).1 hj
   have : 0 < (List.range ops.size).countP (fun i => !L.getD i false) := List.countP_pos_iff.2 ⟨j, by simpa using hlt, by rw [hun]; rfl⟩
   omega
  exact ⟨hr, hend L S a hA hr⟩
 | succ fuel ih =>
  intro L S a hA hc
  refine ⟨hend L S a hA, ?_⟩
  intro j hj
  refine hA.step hm hd hap hn hj ?_
  intro S' a' hA'
  refine ih _ S' a' hA' ?_
  obtain ⟨hlt, hun, _⟩ := (pU hA.size).1 hj
  have := xP (p := fun i => !L.getD i false) (p' := fun i => !(L.setIfInBounds j true).getD i false) (l := List.range ops.size) (x := j) (by simpa using hlt) (by rw [hun]; rfl)
   (by rw [pD (by rw [hA.size]; exact hlt), if_pos rfl]; rfl) (fun y hy => by
    rw [pD (by rw [hA.size]; exact hlt)] at hy
    split at hy
    ·cases hy
    ·exact hy)
  omega
theorem Dl {h : Hint} {id : Nat} {ops : Array Oper} {n : Nat} {fs : List Qy} {e e' : Env} {s s' : St} (hT : Trc P B w0 fs e s e' s') (hm : ops.toList.mapM (kE P h ops n) = some fs)
  (hp : P.follows .mixedOrders = true) {aps : List (Nat × Nat)} (hd : oI ops fs aps = true) (hap : fP aps e' = true) {a : Act} (hst : S.st = s) (hI : Inv B w0 S) (hE : Qp S e a) (hn : n ≤ a.tmps.size) {Q : Exit → Act → World → Prop}
  (k : ∀ S' a', S'.st = s' → Inv B w0 S' → Ext S S' → Qp S' e' a' → a'.tmps.size = a.tmps.size → a'.defers = a.defers → Q .normal a' S'.w) : (Code.region id ops true).wp P Q a S.w := by
 have hno : ∀ i, (Array.replicate ops.size false).getD i false = false := by
  intro i
  rw [Array.getD_eq_getD_getElem?, Array.getElem?_replicate]
  split <;> rfl
 have hr : (rest fs (Array.replicate ops.size false)).map (·.1) = fs := by
  unfold rest
  rw [List.filter_eq_self.2 (fun p _ => by rw [hno]; rfl)]
  simp
 refine wp_region_any hp ?_
 refine EO (S0 := S) (a0 := a) hm hd hap hn k ops.size _ S.drew a ⟨by simp, ?_, hI.drew, Ext.drew S, ⟨e, fun t => (hE t).mono (Ext.drew S), ?_⟩, rfl, rfl⟩ ?_
 ·intro i hi
  rw [hno i] at hi
  cases hi
 ·rw [hr]
  have h2 := hT.trd
  rw [← hst] at h2
  exact h2
 ·refine Nat.le_trans List.countP_le_length ?_
  simp
end
