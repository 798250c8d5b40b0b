/-
 Types: names, right ones, what is written of them. No condition.
-/
import Derived.Test.YtboejpobmpfifaaGreatDoorLRds
set_option linter.unusedSimpArgs false
set_option linter.unusedVariables false
namespace Go.Proofs.YtboejpobmpfifaaGreatDoor.Eng
open Go
attribute [local simp] gS gR eT eN dR eV cY cW eU dQ dP eF eS dL cC dU cZ cN dM cA bX cV bW
attribute [local simp] hZ aZ put dB X.ev cF cO cP cS bU dO cR bV dN cQ eR gH kV bM fL gT fE gB V.plain aW V.und bY scK kill aF bQ aG dT dS cT mB bR fU V.real bH bK cU
def GI : Bool → List UInt8 → Bool
 | _, [] => true
 | f, c :: t => (iR c || (!f && cB c)) && GI false t
def vU (b : List UInt8) : Bool := GI true b && decide (b ≠ [])
def wrp : Bool → List UInt8 → Option Nat
 | _, [] => some 0
 | lb, c :: t => if c = 91 then (wrp false t).map (· + 1) else if c = 33 ∧ lb = false then wrp true t else none
def sU (x w : List UInt8) : Bool := match wrp false w with | some n => decide (n ≤ 4) && vU x | none => false
def shW : List UInt8 → List UInt8 → List UInt8
 | acc, [] => acc
 | acc, c :: t => shW (if c = 91 then 91 :: (acc ++ [93]) else acc ++ [33]) t
theorem ED : ∀ (w acc : List UInt8), (shW acc w).length ≤ acc.length + 2 * w.length
 | [], acc => by simp [shW]
 | c :: t, acc => by
  have := ED t (if c = 91 then 91 :: (acc ++ [93]) else acc ++ [33])
  rw [shW]
  simp only [List.length_cons]
  split at this
  ·rename_i h
   rw [if_pos h]
   simp only [List.length_cons, List.length_append, List.length_nil] at this
   omega
  ·rename_i h
   rw [if_neg h]
   simp only [List.length_cons, List.length_append, List.length_nil] at this
   omega
theorem AM : ∀ (l : List UInt8) (lb : Bool), wrp lb l ≠ none → ∀ c ∈ l, c = 91 ∨ c = 33
 | [], _, _, c, h => by cases h
 | d :: t, lb, hn, c, h => by
  rw [wrp] at hn
  by_cases h91 : d = 91
  ·rw [if_pos h91] at hn
   rcases List.mem_cons.1 h with rfl | h
   ·exact .inl h91
   ·exact AM t false (fun q => hn (by rw [q]; rfl)) c h
  ·rw [if_neg h91] at hn
   by_cases h33 : d = 33 ∧ lb = false
   ·rw [if_pos h33] at hn
    rcases List.mem_cons.1 h with rfl | h
    ·exact .inr h33.1
    ·exact AM t true hn c h
   ·rw [if_neg h33] at hn; exact absurd rfl hn
theorem Do {x w : List UInt8} (h : sU x w = true) : ∀ c ∈ w, c = 91 ∨ c = 33 := by
 unfold sU at h
 refine AM w false ?_
 intro q
 rw [q] at h
 cases h
def ktk (t : Tok) : Int × List UInt8 := (t.k, t.s)
def fB (c : UInt8) : UInt8 := if c = 91 then 93 else 33
def iZ : List UInt8 → Nat
 | [] => 0
 | c :: t => (if c = 91 then 1 else 0) + iZ t
theorem HV : ∀ (w acc : List UInt8), (∀ c ∈ w, c = 91 ∨ c = 33) → shW acc w = List.replicate (iZ w) 91 ++ (acc ++ w.map fB)
 | [], acc, _ => by simp [shW, iZ]
 | c :: t, acc, h => by
  have ih := fun a => HV t a fun d hd => h d (by simp [hd])
  rw [shW, ih]
  rcases h c (by simp) with rfl | rfl
  ·rw [if_pos rfl, iZ, if_pos rfl, Nat.add_comm 1, List.replicate_succ']
   simp [fB]
  ·rw [if_neg (by decide), iZ, if_neg (by decide), Nat.zero_add]
   simp [fB]
theorem AT {b : List UInt8} (h : ∀ c ∈ b, c.toNat < 128) : ∀ f p, mH b f p = -1
 | 0, p => rfl
 | f + 1, p => by
  rw [mH]
  split
  ·rename_i hp
   have hc : (b.getD p 0).toNat < 128 := by
    rw [List.getD_eq_getElem?_getD, List.getElem?_eq_getElem hp]
    exact h _ (List.getElem_mem hp)
   have hs : cI b p = (1, (b.getD p 0).toNat) := by
    unfold cI
    simp only
    rw [if_pos hc]
   rw [hs, if_neg (by simp)]
   exact AT h f _
  ·rfl
theorem Gg {c : UInt8} (h : kG c = true) (r : List UInt8) : fM (c :: r) = .ok (1, [c]) r := by
 have hh : hd0 (c :: r) = c := rfl
 unfold fM
 rw [hh, if_pos h]; rfl
def GW (R : List UInt8) : Prop := eE false R = R
theorem pO {c : UInt8} {t : List UInt8} (h1 : lO c = false) (h2 : c ≠ 35) : GW (c :: t) := by
 unfold GW
 rw [eE, if_neg (by simp [h1]), if_neg h2]
theorem qL (b : List UInt8) : ∀ (S R : List UInt8) (n : Nat) (toks : List Tok), (∀ c ∈ S, kG c = true ∧ lO c = false ∧ c ≠ 35) → GW R → toks.length + S.length ≤ 900 →
  ∃ T, T.map ktk = S.map (fun c => ((1 : Int), [c])) ∧ mC b (S.length + n) (S ++ R) toks = mC b n R (toks ++ T)
 | [], R, n, toks, _, _, _ => ⟨[], rfl, by simp⟩
 | c :: S, R, n, toks, h, hR, hl => by
  obtain ⟨h1, h2, h3⟩ := h c (by simp)
  simp only [List.length_cons] at hl
  have hfirm : eE false (S ++ R) = S ++ R := by
   cases S with
   | nil => exact hR
   | cons d S =>
    obtain ⟨_, d2, d3⟩ := h d (by simp)
    exact pO d2 d3
  obtain ⟨T, hT, hL⟩ := qL b S R n (toks ++ [⟨1, [c], ((b.length - (c :: (S ++ R)).length : Nat) : Int)⟩]) (fun d hd => h d (by simp [hd])) hR (by simp; omega)
  refine ⟨⟨1, [c], ((b.length - (c :: (S ++ R)).length : Nat) : Int)⟩ :: T, by rw [List.map_cons, hT]; rfl, ?_⟩
  rw [List.cons_append, List.length_cons, show S.length + 1 + n = (S.length + n) + 1 by omega, mC, if_neg (by simp), if_neg (by omega), Gg h1]
  simp only
  rw [hfirm, hL]
  simp
theorem qM {x : List UInt8} (h : vU x = true) : ∃ c u, x = c :: u ∧ iR c = true ∧ ∀ d ∈ x, dG d = true := by
 unfold vU at h
 rw [Bool.and_eq_true, decide_eq_true_eq] at h
 obtain ⟨h1, h2⟩ := h
 obtain ⟨c, u, rfl⟩ := List.exists_cons_of_ne_nil h2
 have key : ∀ (l : List UInt8) (f : Bool), GI f l = true → ∀ d ∈ l, dG d = true := by
  intro l
  induction l with
  | nil => intro f _ d hd; cases hd
  | cons e l ih =>
   intro f h d hd
   rw [GI, Bool.and_eq_true] at h
   rcases List.mem_cons.1 hd with rfl | hd
   ·unfold dG
    cases hq : iR d with
    | true => rfl
    | false =>
     have := h.1
     rw [hq, Bool.false_or, Bool.and_eq_true] at this
     rw [this.2]; rfl
   ·exact ih false h.2 d hd
 refine ⟨c, u, rfl, ?_, key _ _ h1⟩
 rw [GI, Bool.and_eq_true] at h1
 simpa using h1.1
theorem EJ {p : UInt8 → Bool} : ∀ {x R : List UInt8}, (∀ c ∈ x, p c = true) → (∀ c t, R = c :: t → p c = false) → (x ++ R).takeWhile p = x ∧ (x ++ R).dropWhile p = R
 | [], R, _, h => by
  cases R with
  | nil => exact ⟨rfl, rfl⟩
  | cons c t =>
   have := h c t rfl
   rw [List.nil_append, List.takeWhile_cons, List.dropWhile_cons, if_neg (by simp [this]), if_neg (by simp [this])]
   exact ⟨rfl, rfl⟩
 | c :: x, R, hx, h => by
  obtain ⟨h1, h2⟩ := EJ (x := x) (R := R) (fun d hd => hx d (by simp [hd])) h
  have hc := hx c (by simp)
  rw [List.cons_append, List.takeWhile_cons, List.dropWhile_cons, if_pos hc, if_pos hc, h1, h2]
  exact ⟨rfl, rfl⟩
theorem yF (c : UInt8) (h : iR c = true) : kG c = false ∧ lO c = false ∧ c ≠ 35 ∧ c ≠ 46 ∧ c.toNat < 128 := by
 have key : ∀ k : Fin 256, iR (UInt8.ofNat k.val) = true → kG (UInt8.ofNat k.val) = false ∧ lO (UInt8.ofNat k.val) = false ∧ UInt8.ofNat k.val ≠ 35 ∧ UInt8.ofNat k.val ≠ 46 ∧ (UInt8.ofNat k.val).toNat < 128 := by decide +kernel
 have := key ⟨c.toNat, c.toNat_lt⟩
 simp only [UInt8.ofNat_toNat] at this
 exact this h
theorem Lc {c : UInt8} (h : dG c = true) : c.toNat < 128 := by
 have key : ∀ k : Fin 256, dG (UInt8.ofNat k.val) = true → (UInt8.ofNat k.val).toNat < 128 := by decide +kernel
 have := key ⟨c.toNat, c.toNat_lt⟩
 simp only [UInt8.ofNat_toNat] at this
 exact this h
theorem DQ {x R : List UInt8} (h : vU x = true) (hR : ∀ c t, R = c :: t → dG c = false) : fM (x ++ R) = .ok (2, x) R := by
 obtain ⟨c, u, rfl, hc, hall⟩ := qM h
 obtain ⟨h1, _, _, h4, _⟩ := yF c hc
 obtain ⟨a, b⟩ := EJ hall hR
 have hh : hd0 ((c :: u) ++ R) = c := rfl
 have h3 : ¬ eG ((c :: u) ++ R) d3 = true := by
  intro hb
  rw [iO, List.isPrefixOf_iff_prefix] at hb
  obtain ⟨z, hz⟩ := hb
  have : (46 : UInt8) = c := by
   have := congrArg hd0 hz
   rw [hh] at this
   exact this
  exact h4 this.symm
 unfold fM
 rw [hh, if_neg (by simp [h1]), if_neg h3, if_pos hc, a, b]
def tD (x w : List UInt8) : List (Int × List UInt8) := List.replicate (iZ w) ((1 : Int), [(91 : UInt8)]) ++ (2, x) :: w.map (fun c => ((1 : Int), [fB c]))
theorem Bd : ∀ w, iZ w ≤ w.length
 | [] => Nat.le_refl _
 | c :: t => by
  have := Bd t
  rw [iZ, List.length_cons]
  split <;> omega
theorem Fm {x w : List UInt8} (hx : vU x = true) (hw : ∀ c ∈ w, c = 91 ∨ c = 33) (hxl : x.length ≤ 1000) (hwl : w.length ≤ 400) : ∃ L, dK (shW x w) = (L, 0, 0) ∧ L.map ktk = tD x w := by
 have hlen := ED w x
 rw [HV w x hw] at *
 have hcl := Bd w
 obtain ⟨c, u, hxc, hc, hall⟩ := qM hx
 obtain ⟨_, l2, l3, _, l5⟩ := yF c hc
 have hB : ∀ d ∈ w.map fB, kG d = true ∧ lO d = false ∧ d ≠ 35 ∧ dG d = false ∧ d.toNat < 128 := by
  intro d hd
  obtain ⟨e, he, rfl⟩ := List.mem_map.1 hd
  rcases hw e he with rfl | rfl <;> decide
 have hlow : ∀ d ∈ List.replicate (iZ w) 91 ++ (x ++ w.map fB), d.toNat < 128 := by
  intro d hd
  rcases List.mem_append.1 hd with hd | hd
  ·rw [List.mem_replicate] at hd; rw [hd.2]; decide
  ·rcases List.mem_append.1 hd with hd | hd
   ·exact Lc (hall d hd)
   ·exact (hB d hd).2.2.2.2
 have hfx : GW (x ++ w.map fB) := by
  rw [hxc, List.cons_append]
  exact pO l2 l3
 have hfB : GW (w.map fB) := by
  cases hq : w.map fB with
  | nil => rfl
  | cons d t =>
   have := hB d (by rw [hq]; simp)
   exact pO this.2.1 this.2.2.1
 generalize hb : List.replicate (iZ w) (91 : UInt8) ++ (x ++ w.map fB) = b at *
 have hbl : b.length = iZ w + (x.length + w.length) := by rw [← hb]; simp
 have hbt : eE false b = b := by
  rw [← hb]
  cases hk : iZ w with
  | zero => rw [List.replicate_zero, List.nil_append]; exact hfx
  | succ k => rw [List.replicate_succ, List.cons_append]; exact pO (by decide) (by decide)
 obtain ⟨T1, hT1, hL1⟩ := qL b (List.replicate (iZ w) 91) (x ++ w.map fB) (w.length + x.length + 1) [] (fun d hd => by rw [List.mem_replicate] at hd; rw [hd.2]; decide) hfx (by simp; omega)
 have hxp : 1 ≤ x.length := by rw [hxc]; simp
 have hT1l : T1.length = iZ w := by have := congrArg List.length hT1; simpa using this
 obtain ⟨T2, hT2, hL2⟩ := qL b (w.map fB) [] (x.length) (T1 ++ [⟨2, x, ((b.length - (x ++ w.map fB).length : Nat) : Int)⟩]) (fun d hd => ⟨(hB d hd).1, (hB d hd).2.1, (hB d hd).2.2.1⟩) rfl (by simp; omega)
 refine ⟨(T1 ++ [⟨2, x, ((b.length - (x ++ w.map fB).length : Nat) : Int)⟩]) ++ T2, ?_, ?_⟩
 ·have hfin : mC b (b.length + 1) b [] = .ok ((T1 ++ [⟨2, x, ((b.length - (x ++ w.map fB).length : Nat) : Int)⟩]) ++ T2) [] := by
   have e0 : b.length + 1 = (List.replicate (iZ w) (91 : UInt8)).length + (w.length + x.length + 1) := by rw [hbl, List.length_replicate]; omega
   have : mC b (b.length + 1) b [] = mC b ((List.replicate (iZ w) (91 : UInt8)).length + (w.length + x.length + 1)) (List.replicate (iZ w) 91 ++ (x ++ w.map fB)) [] := by rw [hb, ← e0]
   rw [this, hL1, List.nil_append, mC, if_neg (by rw [hxc]; simp), if_neg (by omega), DQ hx (fun d t e => (hB d (by rw [e]; simp)).2.2.2.1)]
   simp only
   rw [hfB]
   have e1 : w.length + x.length = (w.map fB).length + x.length := by simp
   rw [e1]
   rw [List.append_nil] at hL2
   rw [hL2]
   obtain ⟨k, hk⟩ : ∃ k, x.length = k + 1 := ⟨x.length - 1, by omega⟩
   rw [hk, mC, if_pos rfl]
  unfold dK
  rw [if_neg (by omega), AT hlow, if_neg (by decide), hbt, hfin]
 ·rw [List.map_append, List.map_append, hT1, hT2]
  simp [tD, ktk]
inductive WR0 : List UInt8 → Nat → Prop
 | nil : WR0 [] 0
 | lst (v : List UInt8) (m : Nat) : WR0 v m → WR0 (v ++ [91]) (m + 1)
 | lsb (v : List UInt8) (m : Nat) : WR0 v m → WR0 (v ++ [33, 91]) (m + 1)
theorem uI : ∀ (l : List UInt8) (lb : Bool) (v : List UInt8) (k m : Nat), WR0 v k → wrp lb l = some m → ∃ v', WR0 v' (k + m) ∧ ((if lb = true then v ++ [33] else v) ++ l = v' ∨ (if lb = true then v ++ [33] else v) ++ l = v' ++ [33])
 | [], lb, v, k, m, hv, h => by
  simp only [wrp, Option.some.injEq] at h
  subst h
  refine ⟨v, hv, ?_⟩
  cases lb with
  | true => exact .inr (by simp)
  | false => exact .inl (by simp)
 | c :: t, lb, v, k, m, hv, h => by
  rw [wrp] at h
  by_cases h91 : c = 91
  ·rw [if_pos h91] at h
   cases hq : wrp false t with
   | none => rw [hq] at h; cases h
   | some m' =>
    rw [hq] at h
    simp only [Option.map_some, Option.some.injEq] at h
    subst h
    cases lb with
    | true =>
     obtain ⟨v', h1, h2⟩ := uI t false (v ++ [33, 91]) (k + 1) m' (.lsb v k hv) hq
     refine ⟨v', by rw [show k + (m' + 1) = k + 1 + m' by omega]; exact h1, ?_⟩
     simp only [Bool.false_eq_true, if_false, if_true, List.append_assoc, List.cons_append, List.nil_append] at h2 ⊢
     rw [h91]; exact h2
    | false =>
     obtain ⟨v', h1, h2⟩ := uI t false (v ++ [91]) (k + 1) m' (.lst v k hv) hq
     refine ⟨v', by rw [show k + (m' + 1) = k + 1 + m' by omega]; exact h1, ?_⟩
     simp only [Bool.false_eq_true, if_false, List.append_assoc, List.cons_append, List.nil_append] at h2 ⊢
     rw [h91]; exact h2
  ·rw [if_neg h91] at h
   by_cases h33 : c = 33 ∧ lb = false
   ·rw [if_pos h33] at h
    obtain ⟨rfl, rfl⟩ := h33
    obtain ⟨v', h1, h2⟩ := uI t true v k m hv h
    refine ⟨v', h1, ?_⟩
    simp only [Bool.false_eq_true, if_false, if_true, List.append_assoc, List.cons_append, List.nil_append] at h2 ⊢
    exact h2
   ·rw [if_neg h33] at h; cases h
theorem mI : ∀ (v u : List UInt8), iZ (v ++ u) = iZ v + iZ u
 | [], u => by simp [iZ]
 | c :: t, u => by rw [List.cons_append, iZ, iZ, mI t u]; omega
theorem Ee {v : List UInt8} {m : Nat} (h : WR0 v m) : iZ v = m := by
 induction h with
 | nil => rfl
 | lst v m _ ih => rw [mI, ih]; rfl
 | lsb v m _ ih => rw [mI, ih]; rfl
theorem Jd (t : Tok) (L : List Tok) (n a : Int) (y : List UInt8) : Qk.is ⟨t :: L, n, 0, a⟩ y = ((decide (t.k = 1) || decide (t.k = 2)) && decide (t.s = y)) := by
 unfold Qk.is
 rw [yE]; rfl
theorem yC {t : Tok} {k : Int} {z : List UInt8} (h : ktk t = (k, z)) (hk : k = 1 ∨ k = 2) (L : List Tok) (n a : Int) (y : List UInt8) : Qk.is ⟨t :: L, n, 0, a⟩ y = decide (z = y) := by
 rw [Jd]
 have h1 : t.k = k := congrArg Prod.fst h
 have h2 : t.s = z := congrArg Prod.snd h
 rw [h1, h2]
 rcases hk with rfl | rfl <;> simp
theorem Kx (n a : Int) (y : List UInt8) : Qk.is ⟨[], n, 0, a⟩ y = false := nL mT y
theorem eO {L : List Tok} {p : Int × List UInt8} {R : List (Int × List UInt8)} (h : L.map ktk = p :: R) : ∃ t T, L = t :: T ∧ ktk t = p ∧ T.map ktk = R := by
 cases L with
 | nil => cases h
 | cons t T =>
  simp only [List.map_cons, List.cons.injEq] at h
  exact ⟨t, T, rfl, h.1, h.2⟩
theorem Co {x : List UInt8} (hx : vU x = true) (N a : Int) {v : List UInt8} {m : Nat} (hv : WR0 v m) : ∀ (n : Nat) (L : List Tok) (R : List (Int × List UInt8)), m ≤ n → L.map ktk = tD x v ++ R →
  ∃ L', L'.map ktk = R ∧ Qk.typ n ⟨L, N, 0, a⟩ = Qk.bang (⟨L', N, 0, a⟩, x, v) := by
 have hx91 : ¬ x = [91] := by
  obtain ⟨c, u, rfl, hc, _⟩ := qM hx
  intro h
  simp only [List.cons.injEq] at h
  rw [h.1] at hc
  revert hc
  decide
 have hopen : ∀ (n : Nat) (t : Tok) (L : List Tok), ktk t = (1, [91]) → Qk.typ (n + 1) ⟨t :: L, N, 0, a⟩ = Qk.bang ((Qk.typ n ⟨L, N, 0, a⟩).1.must [93], (Qk.typ n ⟨L, N, 0, a⟩).2.1, (Qk.typ n ⟨L, N, 0, a⟩).2.2 ++ [91]) := by
  intro n t L h
  rw [Qk.typ, yC h (.inl rfl), if_pos (by simp)]
  rfl
 have hmust : ∀ (t : Tok) (L : List Tok), ktk t = (1, [93]) → Qk.must ⟨t :: L, N, 0, a⟩ [93] = ⟨L, N, 0, a⟩ := by
  intro t L h
  unfold Qk.must
  rw [yC h (.inl rfl), if_pos (by simp)]; rfl
 induction hv with
 | nil =>
  intro n L R _ h
  simp only [tD, iZ, List.replicate_zero, List.nil_append, List.map_nil, List.cons_append] at h
  obtain ⟨t, T, rfl, ht, hT⟩ := eO h
  refine ⟨T, hT, ?_⟩
  have h1 : t.k = 2 := congrArg Prod.fst ht
  have h2 : t.s = x := congrArg Prod.snd ht
  have hi : Qk.is ⟨t :: T, N, 0, a⟩ [91] = false := by rw [yC ht (.inr rfl)]; exact decide_eq_false hx91
  have hnm : Qk.name ⟨t :: T, N, 0, a⟩ = (⟨T, N, 0, a⟩, x) := by
   unfold Qk.name
   rw [yE, if_pos h1]
   simp only [Qk.hd, h2]
   rfl
  cases n with
  | zero => rw [Qk.typ, hi, if_neg (by decide), hnm]
  | succ n => rw [Qk.typ, hi, if_neg (by decide), hnm]
 | lst v m hv ih =>
  intro n L R hn h
  obtain ⟨n, rfl⟩ : ∃ k, n = k + 1 := ⟨n - 1, by omega⟩
  have hc := Ee hv
  have he : tD x (v ++ [91]) ++ R = (1, [91]) :: (tD x v ++ ((1, [93]) :: R)) := by
   simp [tD, mI, iZ, List.replicate_succ, fB]
  rw [he] at h
  obtain ⟨t, T, rfl, ht, hT⟩ := eO h
  obtain ⟨L', hL', hty⟩ := ih n T _ (by omega) hT
  obtain ⟨t2, T2, rfl, ht2, hT2⟩ := eO hL'
  refine ⟨T2, hT2, ?_⟩
  have hb : Qk.bang (⟨t2 :: T2, N, 0, a⟩, x, v) = (⟨t2 :: T2, N, 0, a⟩, x, v) := by
   unfold Qk.bang
   rw [yC ht2 (.inl rfl), if_neg (by simp)]
  rw [hb] at hty
  rw [hopen n t T ht, hty]
  simp only
  rw [hmust t2 T2 ht2]
 | lsb v m hv ih =>
  intro n L R hn h
  obtain ⟨n, rfl⟩ : ∃ k, n = k + 1 := ⟨n - 1, by omega⟩
  have hc := Ee hv
  have he : tD x (v ++ [33, 91]) ++ R = (1, [91]) :: (tD x v ++ ((1, [33]) :: (1, [93]) :: R)) := by
   simp [tD, mI, iZ, List.replicate_succ, fB]
  rw [he] at h
  obtain ⟨t, T, rfl, ht, hT⟩ := eO h
  obtain ⟨L', hL', hty⟩ := ih n T _ (by omega) hT
  obtain ⟨t2, T2, rfl, ht2, hT2⟩ := eO hL'
  obtain ⟨t3, T3, rfl, ht3, hT3⟩ := eO hT2
  refine ⟨T3, hT3, ?_⟩
  have hb : Qk.bang (⟨t2 :: t3 :: T3, N, 0, a⟩, x, v) = (⟨t3 :: T3, N, 0, a⟩, x, v ++ [33]) := by
   unfold Qk.bang
   rw [yC ht2 (.inl rfl), if_pos (by simp)]
   rfl
  rw [hb] at hty
  rw [hopen n t T ht, hty]
  simp only
  rw [hmust t3 T3 ht3]
  simp
theorem BM {x w : List UInt8} (h : sU x w = true) : vU x = true ∧ ∃ v m, WR0 v m ∧ m ≤ 4 ∧ (w = v ∨ w = v ++ [33]) := by
 unfold sU at h
 cases hq : wrp false w with
 | none => rw [hq] at h; cases h
 | some n =>
  rw [hq] at h
  simp only [Bool.and_eq_true, decide_eq_true_eq] at h
  obtain ⟨v, h1, h2⟩ := uI w false [] 0 n .nil hq
  rw [Nat.zero_add] at h1
  exact ⟨h.2, v, n, h1, h.1, by simpa using h2⟩
theorem IG {x w : List UInt8} (h : sU x w = true) (hx : x.length ≤ 1000) (hw : w.length ≤ 400) : PT (shW x w) = (x, w, 0, 0) := by
 obtain ⟨hn, v, m, hv, hm, hw2⟩ := BM h
 obtain ⟨L, hL, hk⟩ := Fm hn (Do h) hx hw
 have hr : rd0 (shW x w) = ⟨L, (shW x w).length, 0, 0⟩ := by unfold rd0; rw [hL]
 have hty : ∃ n : Int, (rd0 (shW x w)).ty = (⟨[], n, 0, 0⟩, x, w) := by
  rw [hr]
  refine ⟨(shW x w).length, ?_⟩
  generalize ((shW x w).length : Int) = N
  unfold Qk.ty
  rcases hw2 with rfl | rfl
  ·obtain ⟨L', h1, h2⟩ := Co hn N 0 hv 4 L [] hm (by rw [List.append_nil]; exact hk)
   have : L' = [] := by simpa using h1
   subst this
   rw [h2]
   unfold Qk.bang
   rw [Kx, if_neg (by decide)]; rfl
  ·have he : tD x (v ++ [33]) = tD x v ++ [(1, [33])] := by simp [tD, mI, iZ, fB]
   rw [he] at hk
   obtain ⟨L', h1, h2⟩ := Co hn N 0 hv 4 L _ hm hk
   obtain ⟨t, T, rfl, ht, hT⟩ := eO h1
   have : T = [] := by simpa using hT
   subst this
   rw [h2]
   unfold Qk.bang
   rw [yC ht (.inl rfl), if_pos (by simp)]; rfl
 obtain ⟨n, hty⟩ := hty
 unfold PT
 rw [hty]
 rfl
theorem Gq : PT [91, 73, 110, 116, 33, 93] = ([73, 110, 116], [33, 91], 0, 0) := by
 have h : sU [73, 110, 116] [33, 91] = true := by decide
 have := IG h (by decide) (by decide)
 have e : shW [73, 110, 116] [33, 91] = [91, 73, 110, 116, 33, 93] := by decide
 rw [e] at this
 exact this
theorem AS (s : St) : call G 44 [] s = some (.bool true, s) := by
 have hl := Ju [91, 73, 110, 116, 33, 93] (by decide)
 rw [Gq] at hl
 simp only [tyV] at hl
 refine aC (F := af44) rfl rfl ?_
 simp [af44, af44b, hl, aI, aK, aB, V.one, xS, kN, nI]
 rw [bZ _ _ _ (by rfl)]
 rfl
