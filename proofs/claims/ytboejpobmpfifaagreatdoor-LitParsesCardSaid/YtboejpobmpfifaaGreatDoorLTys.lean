/-
 Types: names, right ones, what is written of them. No condition.
-/
import Derived.Test.YtboejpobmpfifaaGreatDoorLRds
set_option linter.unusedSimpArgs false
set_option linter.unusedVariables false
namespace Go.Proofs.YtboejpobmpfifaaGreatDoor.Eng
open Go
attribute [local simp] hZ hQ eW eX dV eZ dD dC eY dU dT eG eT dP cE dZ dE cS dQ cD bZ dB bY
attribute [local simp] iD aW put dF X.ev cK cT cU cY bW dS cW bX dR cV eO gG kY bK fM gS fJ gD V.plain aU V.und cB scK kill aF bO aH dX dW cZ mA bR fW V.real bH bN dA
def GE : Bool → List UInt8 → Bool
 | _, [] => true
 | f, c :: t => (iN c || (!f && bV c)) && GE false t
def vJ (b : List UInt8) : Bool := GE true b && decide (b ≠ [])
def wrp : Bool → List UInt8 → Option Nat
 | _, [] => some 0
 | lb, c :: t => if c = 91 then (wrp false t).map (· + 1) else if c = 33 ∧ lb = false then wrp true t else none
def sN (x w : List UInt8) : Bool := match wrp false w with | some n => decide (n ≤ 4) && vJ x | none => false
def shW : List UInt8 → List UInt8 → List UInt8
 | acc, [] => acc
 | acc, c :: t => shW (if c = 91 then 91 :: (acc ++ [93]) else acc ++ [33]) t
theorem EH : ∀ (w acc : List UInt8), (shW acc w).length ≤ acc.length + 2 * w.length
 | [], acc => by simp [shW]
 | c :: t, acc => by
  have := EH t (if c = 91 then 91 :: (acc ++ [93]) else acc ++ [33])
  rw [shW]
  simp only [List.length_cons]
  split at this
  ·rename_i h
   rw [if_pos h]
   simp only [List.length_cons, List.length_append, List.length_nil] at this
   omega
  ·rename_i h
   rw [if_neg h]
   simp only [List.length_cons, List.length_append, List.length_nil] at this
   omega
theorem AE : ∀ (l : List UInt8) (lb : Bool), wrp lb l ≠ none → ∀ c ∈ l, c = 91 ∨ c = 33
 | [], _, _, c, h => by cases h
 | d :: t, lb, hn, c, h => by
  rw [wrp] at hn
  by_cases h91 : d = 91
  ·rw [if_pos h91] at hn
   rcases List.mem_cons.1 h with rfl | h
   ·exact .inl h91
   ·exact AE t false (fun q => hn (by rw [q]; rfl)) c h
  ·rw [if_neg h91] at hn
   by_cases h33 : d = 33 ∧ lb = false
   ·rw [if_pos h33] at hn
    rcases List.mem_cons.1 h with rfl | h
    ·exact .inr h33.1
    ·exact AE t true hn c h
   ·rw [if_neg h33] at hn; exact absurd rfl hn
theorem Dp {x w : List UInt8} (h : sN x w = true) : ∀ c ∈ w, c = 91 ∨ c = 33 := by
 unfold sN at h
 refine AE w false ?_
 intro q
 rw [q] at h
 cases h
def ktk (t : Tok) : Int × List UInt8 := (t.k, t.s)
def fB (c : UInt8) : UInt8 := if c = 91 then 93 else 33
def iU : List UInt8 → Nat
 | [] => 0
 | c :: t => (if c = 91 then 1 else 0) + iU t
theorem HU : ∀ (w acc : List UInt8), (∀ c ∈ w, c = 91 ∨ c = 33) → shW acc w = List.replicate (iU w) 91 ++ (acc ++ w.map fB)
 | [], acc, _ => by simp [shW, iU]
 | c :: t, acc, h => by
  have ih := fun a => HU t a fun d hd => h d (by simp [hd])
  rw [shW, ih]
  rcases h c (by simp) with rfl | rfl
  ·rw [if_pos rfl, iU, if_pos rfl, Nat.add_comm 1, List.replicate_succ']
   simp [fB]
  ·rw [if_neg (by decide), iU, if_neg (by decide), Nat.zero_add]
   simp [fB]
theorem AL {b : List UInt8} (h : ∀ c ∈ b, c.toNat < 128) : ∀ f p, lV b f p = -1
 | 0, p => rfl
 | f + 1, p => by
  rw [lV]
  split
  ·rename_i hp
   have hc : (b.getD p 0).toNat < 128 := by
    rw [List.getD_eq_getElem?_getD, List.getElem?_eq_getElem hp]
    exact h _ (List.getElem_mem hp)
   have hs : cH b p = (1, (b.getD p 0).toNat) := by
    unfold cH
    simp only
    rw [if_pos hc]
   rw [hs, if_neg (by simp)]
   exact AL h f _
  ·rfl
theorem Gh {c : UInt8} (h : kD c = true) (r : List UInt8) : fI (c :: r) = .ok (1, [c]) r := by
 have hh : hd0 (c :: r) = c := rfl
 unfold fI
 rw [hh, if_pos h]; rfl
def GS (R : List UInt8) : Prop := eB false R = R
theorem pH {c : UInt8} {t : List UInt8} (h1 : lH c = false) (h2 : c ≠ 35) : GS (c :: t) := by
 unfold GS
 rw [eB, if_neg (by simp [h1]), if_neg h2]
theorem qD (b : List UInt8) : ∀ (S R : List UInt8) (n : Nat) (toks : List Tok), (∀ c ∈ S, kD c = true ∧ lH c = false ∧ c ≠ 35) → GS R → toks.length + S.length ≤ 900 →
  ∃ T, T.map ktk = S.map (fun c => ((1 : Int), [c])) ∧ kS b (S.length + n) (S ++ R) toks = kS b n R (toks ++ T)
 | [], R, n, toks, _, _, _ => ⟨[], rfl, by simp⟩
 | c :: S, R, n, toks, h, hR, hl => by
  obtain ⟨h1, h2, h3⟩ := h c (by simp)
  simp only [List.length_cons] at hl
  have hfirm : eB false (S ++ R) = S ++ R := by
   cases S with
   | nil => exact hR
   | cons d S =>
    obtain ⟨_, d2, d3⟩ := h d (by simp)
    exact pH d2 d3
  obtain ⟨T, hT, hL⟩ := qD b S R n (toks ++ [⟨1, [c], ((b.length - (c :: (S ++ R)).length : Nat) : Int)⟩]) (fun d hd => h d (by simp [hd])) hR (by simp; omega)
  refine ⟨⟨1, [c], ((b.length - (c :: (S ++ R)).length : Nat) : Int)⟩ :: T, by rw [List.map_cons, hT]; rfl, ?_⟩
  rw [List.cons_append, List.length_cons, show S.length + 1 + n = (S.length + n) + 1 by omega, kS, if_neg (by simp), if_neg (by omega), Gh h1]
  simp only
  rw [hfirm, hL]
  simp
theorem qE {x : List UInt8} (h : vJ x = true) : ∃ c u, x = c :: u ∧ iN c = true ∧ ∀ d ∈ x, dG d = true := by
 unfold vJ at h
 rw [Bool.and_eq_true, decide_eq_true_eq] at h
 obtain ⟨h1, h2⟩ := h
 obtain ⟨c, u, rfl⟩ := List.exists_cons_of_ne_nil h2
 have key : ∀ (l : List UInt8) (f : Bool), GE f l = true → ∀ d ∈ l, dG d = true := by
  intro l
  induction l with
  | nil => intro f _ d hd; cases hd
  | cons e l ih =>
   intro f h d hd
   rw [GE, Bool.and_eq_true] at h
   rcases List.mem_cons.1 hd with rfl | hd
   ·unfold dG
    cases hq : iN d with
    | true => rfl
    | false =>
     have := h.1
     rw [hq, Bool.false_or, Bool.and_eq_true] at this
     rw [this.2]; rfl
   ·exact ih false h.2 d hd
 refine ⟨c, u, rfl, ?_, key _ _ h1⟩
 rw [GE, Bool.and_eq_true] at h1
 simpa using h1.1
theorem EN {p : UInt8 → Bool} : ∀ {x R : List UInt8}, (∀ c ∈ x, p c = true) → (∀ c t, R = c :: t → p c = false) → (x ++ R).takeWhile p = x ∧ (x ++ R).dropWhile p = R
 | [], R, _, h => by
  cases R with
  | nil => exact ⟨rfl, rfl⟩
  | cons c t =>
   have := h c t rfl
   rw [List.nil_append, List.takeWhile_cons, List.dropWhile_cons, if_neg (by simp [this]), if_neg (by simp [this])]
   exact ⟨rfl, rfl⟩
 | c :: x, R, hx, h => by
  obtain ⟨h1, h2⟩ := EN (x := x) (R := R) (fun d hd => hx d (by simp [hd])) h
  have hc := hx c (by simp)
  rw [List.cons_append, List.takeWhile_cons, List.dropWhile_cons, if_pos hc, if_pos hc, h1, h2]
  exact ⟨rfl, rfl⟩
theorem xX (c : UInt8) (h : iN c = true) : kD c = false ∧ lH c = false ∧ c ≠ 35 ∧ c ≠ 46 ∧ c.toNat < 128 := by
 have key : ∀ k : Fin 256, iN (UInt8.ofNat k.val) = true → kD (UInt8.ofNat k.val) = false ∧ lH (UInt8.ofNat k.val) = false ∧ UInt8.ofNat k.val ≠ 35 ∧ UInt8.ofNat k.val ≠ 46 ∧ (UInt8.ofNat k.val).toNat < 128 := by decide +kernel
 have := key ⟨c.toNat, c.toNat_lt⟩
 simp only [UInt8.ofNat_toNat] at this
 exact this h
theorem KU {c : UInt8} (h : dG c = true) : c.toNat < 128 := by
 have key : ∀ k : Fin 256, dG (UInt8.ofNat k.val) = true → (UInt8.ofNat k.val).toNat < 128 := by decide +kernel
 have := key ⟨c.toNat, c.toNat_lt⟩
 simp only [UInt8.ofNat_toNat] at this
 exact this h
theorem DR {x R : List UInt8} (h : vJ x = true) (hR : ∀ c t, R = c :: t → dG c = false) : fI (x ++ R) = .ok (2, x) R := by
 obtain ⟨c, u, rfl, hc, hall⟩ := qE h
 obtain ⟨h1, _, _, h4, _⟩ := xX c hc
 obtain ⟨a, b⟩ := EN hall hR
 have hh : hd0 ((c :: u) ++ R) = c := rfl
 have h3 : ¬ eF ((c :: u) ++ R) d3 = true := by
  intro hb
  rw [iK, List.isPrefixOf_iff_prefix] at hb
  obtain ⟨z, hz⟩ := hb
  have : (46 : UInt8) = c := by
   have := congrArg hd0 hz
   rw [hh] at this
   exact this
  exact h4 this.symm
 unfold fI
 rw [hh, if_neg (by simp [h1]), if_neg h3, if_pos hc, a, b]
def sV (x w : List UInt8) : List (Int × List UInt8) := List.replicate (iU w) ((1 : Int), [(91 : UInt8)]) ++ (2, x) :: w.map (fun c => ((1 : Int), [fB c]))
theorem AV : ∀ w, iU w ≤ w.length
 | [] => Nat.le_refl _
 | c :: t => by
  have := AV t
  rw [iU, List.length_cons]
  split <;> omega
theorem Fq {x w : List UInt8} (hx : vJ x = true) (hw : ∀ c ∈ w, c = 91 ∨ c = 33) (hxl : x.length ≤ 1000) (hwl : w.length ≤ 400) : ∃ L, dJ (shW x w) = (L, 0, 0) ∧ L.map ktk = sV x w := by
 have hlen := EH w x
 rw [HU w x hw] at *
 have hcl := AV w
 obtain ⟨c, u, hxc, hc, hall⟩ := qE hx
 obtain ⟨_, l2, l3, _, l5⟩ := xX c hc
 have hB : ∀ d ∈ w.map fB, kD d = true ∧ lH d = false ∧ d ≠ 35 ∧ dG d = false ∧ d.toNat < 128 := by
  intro d hd
  obtain ⟨e, he, rfl⟩ := List.mem_map.1 hd
  rcases hw e he with rfl | rfl <;> decide
 have hlow : ∀ d ∈ List.replicate (iU w) 91 ++ (x ++ w.map fB), d.toNat < 128 := by
  intro d hd
  rcases List.mem_append.1 hd with hd | hd
  ·rw [List.mem_replicate] at hd; rw [hd.2]; decide
  ·rcases List.mem_append.1 hd with hd | hd
   ·exact KU (hall d hd)
   ·exact (hB d hd).2.2.2.2
 have hfx : GS (x ++ w.map fB) := by
  rw [hxc, List.cons_append]
  exact pH l2 l3
 have hfB : GS (w.map fB) := by
  cases hq : w.map fB with
  | nil => rfl
  | cons d t =>
   have := hB d (by rw [hq]; simp)
   exact pH this.2.1 this.2.2.1
 generalize hb : List.replicate (iU w) (91 : UInt8) ++ (x ++ w.map fB) = b at *
 have hbl : b.length = iU w + (x.length + w.length) := by rw [← hb]; simp
 have hbt : eB false b = b := by
  rw [← hb]
  cases hk : iU w with
  | zero => rw [List.replicate_zero, List.nil_append]; exact hfx
  | succ k => rw [List.replicate_succ, List.cons_append]; exact pH (by decide) (by decide)
 obtain ⟨T1, hT1, hL1⟩ := qD b (List.replicate (iU w) 91) (x ++ w.map fB) (w.length + x.length + 1) [] (fun d hd => by rw [List.mem_replicate] at hd; rw [hd.2]; decide) hfx (by simp; omega)
 have hxp : 1 ≤ x.length := by rw [hxc]; simp
 have hT1l : T1.length = iU w := by have := congrArg List.length hT1; simpa using this
 obtain ⟨T2, hT2, hL2⟩ := qD b (w.map fB) [] (x.length) (T1 ++ [⟨2, x, ((b.length - (x ++ w.map fB).length : Nat) : Int)⟩]) (fun d hd => ⟨(hB d hd).1, (hB d hd).2.1, (hB d hd).2.2.1⟩) rfl (by simp; omega)
 refine ⟨(T1 ++ [⟨2, x, ((b.length - (x ++ w.map fB).length : Nat) : Int)⟩]) ++ T2, ?_, ?_⟩
 ·have hfin : kS b (b.length + 1) b [] = .ok ((T1 ++ [⟨2, x, ((b.length - (x ++ w.map fB).length : Nat) : Int)⟩]) ++ T2) [] := by
   have e0 : b.length + 1 = (List.replicate (iU w) (91 : UInt8)).length + (w.length + x.length + 1) := by rw [hbl, List.length_replicate]; omega
   have : kS b (b.length + 1) b [] = kS b ((List.replicate (iU w) (91 : UInt8)).length + (w.length + x.length + 1)) (List.replicate (iU w) 91 ++ (x ++ w.map fB)) [] := by rw [hb, ← e0]
   rw [this, hL1, List.nil_append, kS, if_neg (by rw [hxc]; simp), if_neg (by omega), DR hx (fun d t e => (hB d (by rw [e]; simp)).2.2.2.1)]
   simp only
   rw [hfB]
   have e1 : w.length + x.length = (w.map fB).length + x.length := by simp
   rw [e1]
   rw [List.append_nil] at hL2
   rw [hL2]
   obtain ⟨k, hk⟩ : ∃ k, x.length = k + 1 := ⟨x.length - 1, by omega⟩
   rw [hk, kS, if_pos rfl]
  unfold dJ
  rw [if_neg (by omega), AL hlow, if_neg (by decide), hbt, hfin]
 ·rw [List.map_append, List.map_append, hT1, hT2]
  simp [sV, ktk]
inductive WR0 : List UInt8 → Nat → Prop
 | nil : WR0 [] 0
 | lst (v : List UInt8) (m : Nat) : WR0 v m → WR0 (v ++ [91]) (m + 1)
 | lsb (v : List UInt8) (m : Nat) : WR0 v m → WR0 (v ++ [33, 91]) (m + 1)
theorem uC : ∀ (l : List UInt8) (lb : Bool) (v : List UInt8) (k m : Nat), WR0 v k → wrp lb l = some m → ∃ v', WR0 v' (k + m) ∧ ((if lb = true then v ++ [33] else v) ++ l = v' ∨ (if lb = true then v ++ [33] else v) ++ l = v' ++ [33])
 | [], lb, v, k, m, hv, h => by
  simp only [wrp, Option.some.injEq] at h
  subst h
  refine ⟨v, hv, ?_⟩
  cases lb with
  | true => exact .inr (by simp)
  | false => exact .inl (by simp)
 | c :: t, lb, v, k, m, hv, h => by
  rw [wrp] at h
  by_cases h91 : c = 91
  ·rw [if_pos h91] at h
   cases hq : wrp false t with
   | none => rw [hq] at h; cases h
   | some m' =>
    rw [hq] at h
    simp only [Option.map_some, Option.some.injEq] at h
    subst h
    cases lb with
    | true =>
     obtain ⟨v', h1, h2⟩ := uC t false (v ++ [33, 91]) (k + 1) m' (.lsb v k hv) hq
     refine ⟨v', by rw [show k + (m' + 1) = k + 1 + m' by omega]; exact h1, ?_⟩
     simp only [Bool.false_eq_true, if_false, if_true, List.append_assoc, List.cons_append, List.nil_append] at h2 ⊢
     rw [h91]; exact h2
    | false =>
     obtain ⟨v', h1, h2⟩ := uC t false (v ++ [91]) (k + 1) m' (.lst v k hv) hq
     refine ⟨v', by rw [show k + (m' + 1) = k + 1 + m' by omega]; exact h1, ?_⟩
     simp only [Bool.false_eq_true, if_false, List.append_assoc, List.cons_append, List.nil_append] at h2 ⊢
     rw [h91]; exact h2
  ·rw [if_neg h91] at h
   by_cases h33 : c = 33 ∧ lb = false
   ·rw [if_pos h33] at h
    obtain ⟨rfl, rfl⟩ := h33
    obtain ⟨v', h1, h2⟩ := uC t true v k m hv h
    refine ⟨v', h1, ?_⟩
    simp only [Bool.false_eq_true, if_false, if_true, List.append_assoc, List.cons_append, List.nil_append] at h2 ⊢
    exact h2
   ·rw [if_neg h33] at h; cases h
theorem lW : ∀ (v u : List UInt8), iU (v ++ u) = iU v + iU u
 | [], u => by simp [iU]
 | c :: t, u => by rw [List.cons_append, iU, iU, lW t u]; omega
theorem Ef {v : List UInt8} {m : Nat} (h : WR0 v m) : iU v = m := by
 induction h with
 | nil => rfl
 | lst v m _ ih => rw [lW, ih]; rfl
 | lsb v m _ ih => rw [lW, ih]; rfl
theorem Ja (t : Tok) (L : List Tok) (n a : Int) (y : List UInt8) : Lrd.is ⟨t :: L, n, 0, a⟩ y = ((decide (t.k = 1) || decide (t.k = 2)) && decide (t.s = y)) := by
 unfold Lrd.is
 rw [xW]; rfl
theorem xU {t : Tok} {k : Int} {z : List UInt8} (h : ktk t = (k, z)) (hk : k = 1 ∨ k = 2) (L : List Tok) (n a : Int) (y : List UInt8) : Lrd.is ⟨t :: L, n, 0, a⟩ y = decide (z = y) := by
 rw [Ja]
 have h1 : t.k = k := congrArg Prod.fst h
 have h2 : t.s = z := congrArg Prod.snd h
 rw [h1, h2]
 rcases hk with rfl | rfl <;> simp
theorem Ks (n a : Int) (y : List UInt8) : Lrd.is ⟨[], n, 0, a⟩ y = false := nE mL y
theorem eM {L : List Tok} {p : Int × List UInt8} {R : List (Int × List UInt8)} (h : L.map ktk = p :: R) : ∃ t T, L = t :: T ∧ ktk t = p ∧ T.map ktk = R := by
 cases L with
 | nil => cases h
 | cons t T =>
  simp only [List.map_cons, List.cons.injEq] at h
  exact ⟨t, T, rfl, h.1, h.2⟩
theorem Cn {x : List UInt8} (hx : vJ x = true) (N a : Int) {v : List UInt8} {m : Nat} (hv : WR0 v m) : ∀ (n : Nat) (L : List Tok) (R : List (Int × List UInt8)), m ≤ n → L.map ktk = sV x v ++ R →
  ∃ L', L'.map ktk = R ∧ Lrd.typ n ⟨L, N, 0, a⟩ = Lrd.bang (⟨L', N, 0, a⟩, x, v) := by
 have hx91 : ¬ x = [91] := by
  obtain ⟨c, u, rfl, hc, _⟩ := qE hx
  intro h
  simp only [List.cons.injEq] at h
  rw [h.1] at hc
  revert hc
  decide
 have hopen : ∀ (n : Nat) (t : Tok) (L : List Tok), ktk t = (1, [91]) → Lrd.typ (n + 1) ⟨t :: L, N, 0, a⟩ = Lrd.bang ((Lrd.typ n ⟨L, N, 0, a⟩).1.must [93], (Lrd.typ n ⟨L, N, 0, a⟩).2.1, (Lrd.typ n ⟨L, N, 0, a⟩).2.2 ++ [91]) := by
  intro n t L h
  rw [Lrd.typ, xU h (.inl rfl), if_pos (by simp)]
  rfl
 have hmust : ∀ (t : Tok) (L : List Tok), ktk t = (1, [93]) → Lrd.must ⟨t :: L, N, 0, a⟩ [93] = ⟨L, N, 0, a⟩ := by
  intro t L h
  unfold Lrd.must
  rw [xU h (.inl rfl), if_pos (by simp)]; rfl
 induction hv with
 | nil =>
  intro n L R _ h
  simp only [sV, iU, List.replicate_zero, List.nil_append, List.map_nil, List.cons_append] at h
  obtain ⟨t, T, rfl, ht, hT⟩ := eM h
  refine ⟨T, hT, ?_⟩
  have h1 : t.k = 2 := congrArg Prod.fst ht
  have h2 : t.s = x := congrArg Prod.snd ht
  have hi : Lrd.is ⟨t :: T, N, 0, a⟩ [91] = false := by rw [xU ht (.inr rfl)]; exact decide_eq_false hx91
  have hnm : Lrd.name ⟨t :: T, N, 0, a⟩ = (⟨T, N, 0, a⟩, x) := by
   unfold Lrd.name
   rw [xW, if_pos h1]
   simp only [Lrd.hd, h2]
   rfl
  cases n with
  | zero => rw [Lrd.typ, hi, if_neg (by decide), hnm]
  | succ n => rw [Lrd.typ, hi, if_neg (by decide), hnm]
 | lst v m hv ih =>
  intro n L R hn h
  obtain ⟨n, rfl⟩ : ∃ k, n = k + 1 := ⟨n - 1, by omega⟩
  have hc := Ef hv
  have he : sV x (v ++ [91]) ++ R = (1, [91]) :: (sV x v ++ ((1, [93]) :: R)) := by
   simp [sV, lW, iU, List.replicate_succ, fB]
  rw [he] at h
  obtain ⟨t, T, rfl, ht, hT⟩ := eM h
  obtain ⟨L', hL', hty⟩ := ih n T _ (by omega) hT
  obtain ⟨t2, T2, rfl, ht2, hT2⟩ := eM hL'
  refine ⟨T2, hT2, ?_⟩
  have hb : Lrd.bang (⟨t2 :: T2, N, 0, a⟩, x, v) = (⟨t2 :: T2, N, 0, a⟩, x, v) := by
   unfold Lrd.bang
   rw [xU ht2 (.inl rfl), if_neg (by simp)]
  rw [hb] at hty
  rw [hopen n t T ht, hty]
  simp only
  rw [hmust t2 T2 ht2]
 | lsb v m hv ih =>
  intro n L R hn h
  obtain ⟨n, rfl⟩ : ∃ k, n = k + 1 := ⟨n - 1, by omega⟩
  have hc := Ef hv
  have he : sV x (v ++ [33, 91]) ++ R = (1, [91]) :: (sV x v ++ ((1, [33]) :: (1, [93]) :: R)) := by
   simp [sV, lW, iU, List.replicate_succ, fB]
  rw [he] at h
  obtain ⟨t, T, rfl, ht, hT⟩ := eM h
  obtain ⟨L', hL', hty⟩ := ih n T _ (by omega) hT
  obtain ⟨t2, T2, rfl, ht2, hT2⟩ := eM hL'
  obtain ⟨t3, T3, rfl, ht3, hT3⟩ := eM hT2
  refine ⟨T3, hT3, ?_⟩
  have hb : Lrd.bang (⟨t2 :: t3 :: T3, N, 0, a⟩, x, v) = (⟨t3 :: T3, N, 0, a⟩, x, v ++ [33]) := by
   unfold Lrd.bang
   rw [xU ht2 (.inl rfl), if_pos (by simp)]
   rfl
  rw [hb] at hty
  rw [hopen n t T ht, hty]
  simp only
  rw [hmust t3 T3 ht3]
  simp
theorem BL {x w : List UInt8} (h : sN x w = true) : vJ x = true ∧ ∃ v m, WR0 v m ∧ m ≤ 4 ∧ (w = v ∨ w = v ++ [33]) := by
 unfold sN at h
 cases hq : wrp false w with
 | none => rw [hq] at h; cases h
 | some n =>
  rw [hq] at h
  simp only [Bool.and_eq_true, decide_eq_true_eq] at h
  obtain ⟨v, h1, h2⟩ := uC w false [] 0 n .nil hq
  rw [Nat.zero_add] at h1
  exact ⟨h.2, v, n, h1, h.1, by simpa using h2⟩
theorem IE {x w : List UInt8} (h : sN x w = true) (hx : x.length ≤ 1000) (hw : w.length ≤ 400) : PT (shW x w) = (x, w, 0, 0) := by
 obtain ⟨hn, v, m, hv, hm, hw2⟩ := BL h
 obtain ⟨L, hL, hk⟩ := Fq hn (Dp h) hx hw
 have hr : rd0 (shW x w) = ⟨L, (shW x w).length, 0, 0⟩ := by unfold rd0; rw [hL]
 have hty : ∃ n : Int, (rd0 (shW x w)).ty = (⟨[], n, 0, 0⟩, x, w) := by
  rw [hr]
  refine ⟨(shW x w).length, ?_⟩
  generalize ((shW x w).length : Int) = N
  unfold Lrd.ty
  rcases hw2 with rfl | rfl
  ·obtain ⟨L', h1, h2⟩ := Cn hn N 0 hv 4 L [] hm (by rw [List.append_nil]; exact hk)
   have : L' = [] := by simpa using h1
   subst this
   rw [h2]
   unfold Lrd.bang
   rw [Ks, if_neg (by decide)]; rfl
  ·have he : sV x (v ++ [33]) = sV x v ++ [(1, [33])] := by simp [sV, lW, iU, fB]
   rw [he] at hk
   obtain ⟨L', h1, h2⟩ := Cn hn N 0 hv 4 L _ hm hk
   obtain ⟨t, T, rfl, ht, hT⟩ := eM h1
   have : T = [] := by simpa using hT
   subst this
   rw [h2]
   unfold Lrd.bang
   rw [xU ht (.inl rfl), if_pos (by simp)]; rfl
 obtain ⟨n, hty⟩ := hty
 unfold PT
 rw [hty]
 rfl
theorem Gr : PT [91, 73, 110, 116, 33, 93] = ([73, 110, 116], [33, 91], 0, 0) := by
 have h : sN [73, 110, 116] [33, 91] = true := by decide
 have := IE h (by decide) (by decide)
 have e : shW [73, 110, 116] [33, 91] = [91, 73, 110, 116, 33, 93] := by decide
 rw [e] at this
 exact this
theorem AK (s : St) : call G 44 [] s = some (.bool true, s) := by
 have hl := ED [91, 73, 110, 116, 33, 93] (by decide)
 rw [Gr] at hl
 simp only [tyV] at hl
 refine aC (F := af44) rfl rfl ?_
 simp [af44, af44b, hl, aI, aK, aB, V.one, xI, kJ, nB]
 rw [bS _ _ _ (by rfl)]
 rfl
end Go.Proofs.YtboejpobmpfifaaGreatDoor.Eng
