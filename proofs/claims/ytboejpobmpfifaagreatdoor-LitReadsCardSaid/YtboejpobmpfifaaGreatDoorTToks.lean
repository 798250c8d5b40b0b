/-
 Tokens: what the functions do, one behind the other. No condition.
-/
import Derived.Test.YtboejpobmpfifaaGreatDoorTLibB
set_option linter.unusedSimpArgs false
set_option linter.unusedVariables false
namespace Go.Proofs.YtboejpobmpfifaaGreatDoor.Eng
open Go
attribute [local simp] gS gR eT eN dR eV cY cW eU dQ dP eF eS dL cC dU cZ cN dM cA bX cV bW
attribute [local simp] hZ aZ put dB X.ev cF cO cP cS bU dO cR bV dN cQ eR gH kV bM fL gT fE gB V.plain aW V.und bY scK kill aF bQ aG dT dS cT mB bR fU V.real bH bK cU
def iR (c : UInt8) : Bool := (decide (97 ≤ c.toNat) && !decide (122 < c.toNat)) || (decide (65 ≤ c.toNat) && !decide (90 < c.toNat)) || decide (c.toNat = 95)
def dG (c : UInt8) : Bool := iR c || cB c
def bN (c : UInt8) : Bool := decide (c ≠ 10) && decide (c ≠ 13)
theorem oS (c : UInt8) (s : St) : call G 262 [.int .u8 c.toNat] s = some (.bool (iR c), s) := by
 have e1 : ((97 : Int) ≤ (c.toNat : Int)) ↔ 97 ≤ c.toNat := by omega
 have e2 : ((c.toNat : Int) ≤ 122) ↔ c.toNat ≤ 122 := by omega
 have e3 : ((65 : Int) ≤ (c.toNat : Int)) ↔ 65 ≤ c.toNat := by omega
 have e4 : ((c.toNat : Int) ≤ 90) ↔ c.toNat ≤ 90 := by omega
 have e5 : ((c.toNat : Int) = 95) ↔ c.toNat = 95 := by omega
 refine aC (F := af262) rfl rfl ?_
 simp [af262, af262b, e1, e2, e3, e4, e5]
 rw [aS _ (v := .bool _) rfl]
 rfl
theorem lZ (c : UInt8) (s : St) : call G 264 [.int .u8 c.toNat] s = some (.bool (cB c), s) := by
 have e1 : ((48 : Int) ≤ (c.toNat : Int)) ↔ 48 ≤ c.toNat := by omega
 have e2 : ((c.toNat : Int) ≤ 57) ↔ c.toNat ≤ 57 := by omega
 refine aC (F := af264) rfl rfl ?_
 simp [af264, af264b, e1, e2]
 rw [aS _ (v := .bool _) rfl]
 simp [cB, ← Nat.not_lt]
theorem Jf (c : UInt8) (s : St) : call G 263 [.int .u8 c.toNat] s = some (.bool (dG c), s) := by
 refine aC (F := af263) rfl rfl ?_
 simp [af263, af263b, oS, lZ]
 rw [aS _ (v := .bool _) rfl]
 rfl
theorem Jn (c : UInt8) (s : St) : call G 258 [.int .u8 c.toNat] s = some (.bool (bN c), s) := by
 have e1 : ((c.toNat : Int) = 10) ↔ c = 10 := gL c 10 (by decide)
 have e2 : ((c.toNat : Int) = 13) ↔ c = 13 := gL c 13 (by decide)
 refine aC (F := af258) rfl rfl ?_
 simp [af258, af258b, e1, e2]
 rw [aS _ (v := .bool _) rfl]
 simp [bN]
theorem Gl {b : List UInt8} (hb : b.length ≤ 1000000000) {k : FuncId} {p : UInt8 → Bool} (hp : ∀ (c : UInt8) (s : St), call G k [.int .u8 c.toNat] s = some (.bool (p c), s)) {r : Nat} {x1 x2 x3 x4 : V} :
  ∀ (l : List UInt8) (env : Env) (s : St), l <:+ b → s.obs[r]? = some (.cells 259 [.str b, x1, x2, x3, x4]) → env 0 = .ptr r 0 → env 1 = .int .i64 ((b.length - l.length : Nat) : Int) → env 2 = .fn (.func k) [] [] →
  Out (evC G (.loop false af257l0) env s) (fun e env' s' => e = .exit 0 ∧ s' = s ∧ env' 1 = .int .i64 ((b.length - (l.dropWhile p).length : Nat) : Int)) := by
 intro l
 induction l with
 | nil =>
  intro env s hl hs h0 h1 h2
  refine aH G false _ _ af257l0.eq_1 _ _ _ ?_
  simp [h0, h1, h2, hs]
 | cons c t ih =>
  intro env s hl hs h0 h1 h2
  have hlen := aO hl
  simp only [List.length_cons] at hlen h1
  have hlt : b.length - (t.length + 1) < b.length := by omega
  have hgi := eM hl
  have hw : IntKind.i64.wrap (((b.length - (t.length + 1) : Nat) : Int) + 1) = ((b.length - t.length : Nat) : Int) := by rw [aD (by omega) (by omega)]; omega
  refine aH G false _ _ af257l0.eq_1 _ _ _ ?_
  cases hc : p c with
  | false => simp [h0, h1, h2, hs, hlt, ↓hgi, hp, hc]
  | true =>
   simp [h0, h1, h2, hs, hlt, ↓hgi, hp, hc, hw]
   exact Out.mono (ih _ s (cJ hl) hs (by simp [h0]) (by simp) (by simp [h2])) (fun e env' s' h => h)
theorem qW {b l : List UInt8} (hb : b.length ≤ 1000000000) (hl : l <:+ b) {k : FuncId} {p : UInt8 → Bool} (hp : ∀ (c : UInt8) (s : St), call G k [.int .u8 c.toNat] s = some (.bool (p c), s)) {r : Nat} {x1 x2 x3 x4 : V} {s : St}
  (hs : s.obs[r]? = some (.cells 259 [.str b, x1, x2, x3, x4])) :
  call G 257 [.ptr r 0, .int .i64 ((b.length - l.length : Nat) : Int), .fn (.func k) [] []] s = some (.int .i64 ((b.length - (l.dropWhile p).length : Nat) : Int), s) := by
 refine aC (F := af257) rfl rfl ?_
 simp [af257, af257b]
 refine Out.mono (Gl hb hp l _ s hl hs (by simp) (by simp) (by simp)) ?_
 rintro e env' s' ⟨rfl, rfl, h⟩
 simp [h]
 rw [aS _ (v := .int _ _) rfl]
 rfl
structure Tok where
 k : Int
 s : List UInt8
 a : Int
def fN (t : Tok) : V := .agg [.int .i64 t.k, .str t.s, .int .i64 t.a]
def bO (l : List Tok) : List V := l.map fN
theorem Ii {t u : Tok} (h : fN t = fN u) : t = u := by
 obtain ⟨a, b, c⟩ := t
 obtain ⟨a', b', c'⟩ := u
 simp [fN] at h
 simp [h]
theorem yU : ∀ {l m : List Tok}, bO l = bO m → l = m
 | [], [], _ => rfl
 | [], _ :: _, h => by simp [bO] at h
 | _ :: _, [], h => by simp [bO] at h
 | t :: l, u :: m, h => by
  simp only [bO, List.map_cons, List.cons.injEq] at h
  rw [Ii h.1, yU (l := l) (m := m) h.2]
theorem dA (l : List Tok) : (bO l).length = l.length := by simp [bO]
theorem aE (l : List Tok) : aW (bO l) = bO l := by
 induction l with
 | nil => rfl
 | cons t l ih =>
  have e : bO (t :: l) = fN t :: bO l := rfl
  rw [e, aW, ih]
  rfl
theorem bE (l : List Tok) (n m : Nat) : bY n m (bO l) = true := by
 induction l with
 | nil => rfl
 | cons t l ih =>
  have e : bO (t :: l) = fN t :: bO l := rfl
  rw [e, bY, ih]
  rfl
theorem yT (l : List Tok) (t : Tok) : bO (l ++ [t]) = bO l ++ [fN t] := by simp [bO]
theorem sN (l : List Tok) : fits 3 (bO l) = true := by cases l <;> simp [bO, fN, fits]
def bF {α : Type} (bufs : List (Nat × Nat × TypeId)) (acc : List α) : Own := if acc = [] then .nil else .buf bufs.length
def dH {α : Type} (by_ : Nat × TypeId) (acc : List α) : List (Nat × Nat × TypeId) := if acc = [] then [] else [(acc.length, by_)]
theorem KX (sz : Nat) (v : V) : fits sz [v] = (v.cells.length == sz) := rfl
theorem KW (sz : Nat) : fits sz [] = true := rfl
theorem nC {α : Type} (enc : List α → List V) (h0 : enc [] = []) (hlen : ∀ a, (enc a).length = a.length) (sz by_ : Nat) (t : TypeId) (o : Own) (z : V) (hf : ∀ a, fits sz (enc a) = true) (hz : z.cells.length = sz)
  (acc : List α) (hr : (acc.length + 1) * by_ ≤ iJ) (obs : List Qw) (B : List (Nat × Nat × TypeId)) :
  gU false sz (by_, t) (.sl (bF B acc) (enc acc)) (.sl o [z]) ⟨obs, B ++ dH (by_, t) acc⟩ = some (.sl (.buf B.length) (enc acc ++ [z]), ⟨obs, B ++ [(acc.length + 1, by_, t)]⟩) := by
 have hfz : fits sz [z] = true := by rw [KX, hz]; simp
 by_cases ha : acc = []
 ·subst ha
  have : by_ ≤ iJ := by simpa using hr
  simp [gU, fX, bF, dH, h0, KW, hfz, this]
 ·have h1 := hlen acc
  simp [gU, fX, bF, dH, ha, hf, hfz, h1, hr]
def lxO (b l : List UInt8) (o : Own) (toks : List Tok) (e fa : Int) : Qw := .cells 259 [.str b, .int .i64 ((b.length - l.length : Nat) : Int), .sl o (bO toks), .int .i64 e, .int .i64 fa]
def LS (s : St) (b l : List UInt8) (toks : List Tok) (e fa : Int) : St := ⟨s.obs ++ [lxO b l (bF s.bufs toks) toks e fa], s.bufs ++ dH (32, 195) toks⟩
section
variable {s : St} {b l : List UInt8} {toks : List Tok} {e fa : Int}
theorem iM : (LS s b l toks e fa).obs[s.obs.length]? = some (lxO b l (bF s.bufs toks) toks e fa) := by simp [LS]
theorem Cu (o : Qw) : (LS s b l toks e fa).obs.set s.obs.length o = s.obs ++ [o] := by
 simp only [LS]
 rw [List.set_append_right _ _ (Nat.le_refl _)]
 simp
theorem yZ : (LS s b l toks e fa).obs.length = s.obs.length + 1 := by simp [LS]
theorem Kj (o : Qw) : (s.obs ++ [o])[s.obs.length]? = some o := by simp
theorem ID (o o' : Qw) : (s.obs ++ [o]).set s.obs.length o' = s.obs ++ [o'] := by
 rw [List.set_append_right _ _ (Nat.le_refl _)]
 simp
theorem Ji (o : Own) (n m : Nat) (h : ∀ i, o = .buf i → i < m) : (lxO b l o toks e fa).und n m = true := by
 have ht := bE toks n m
 cases o with
 | buf i => simp [lxO, Qw.und, ht, h i rfl]
 | no => simp [lxO, Qw.und, ht]
 | nil => simp [lxO, Qw.und, ht]
 | emp => simp [lxO, Qw.und, ht]
theorem Ki (l' : List UInt8) (toks' : List Tok) (e' fa' : Int) (junk : List Qw) :
  fin false (LS s b l toks e fa) ⟨(LS s b l' toks' e' fa').obs ++ junk, (LS s b l' toks' e' fa').bufs⟩ (.tup []) = (.tup [], LS s b l' toks' e' fa') := by
 have ht : ((LS s b l' toks' e' fa').obs ++ junk).take (LS s b l toks e fa).obs.length = (LS s b l' toks' e' fa').obs := by
  rw [yZ, ← yZ (s := s) (b := b) (l := l') (toks := toks') (e := e') (fa := fa'), List.take_left]
 unfold fin
 simp only [Bool.false_eq_true, if_false, ht]
 split
 ·rename_i h
  have h1 := ht.symm.trans h.1
  have h1' := h1
  simp only [LS] at h1
  have h2 := List.append_cancel_left h1
  simp only [lxO, List.cons.injEq, Qw.cells.injEq, V.sl.injEq, true_and, and_true] at h2
  have h3 : toks' = toks := yU h2.2.1.2
  subst h3
  rw [← h1']
  simp [LS]
  rw [← List.length_append, List.take_length]
 ·rw [if_pos]
  ·rfl
  ·refine ⟨fun i hi => ?_, rfl⟩
   rw [yZ] at hi
   by_cases hi2 : i < s.obs.length
   ·left
    simp only [LS]
    rw [List.append_assoc, List.getElem?_append_left hi2, List.getElem?_append_left hi2]
   ·have : i = s.obs.length := by omega
    subst this
    right
    intro o ho
    rw [List.getElem?_append_left (by rw [yZ]; omega), iM] at ho
    cases ho
    refine Ji _ _ _ (fun j hj => ?_)
    unfold bF at hj
    split at hj
    ·cases hj
    ·rename_i hn
     cases hj
     simp [LS, dH, hn]
theorem fO (l' : List UInt8) (toks' : List Tok) (e' fa' : Int) :
  fin false (LS s b l toks e fa) (LS s b l' toks' e' fa') (.tup []) = (.tup [], LS s b l' toks' e' fa') := by
 have := Ki (s := s) (b := b) (l := l) (toks := toks) (e := e) (fa := fa) l' toks' e' fa' []
 simpa using this
end
theorem pN (s : St) (b l : List UInt8) (toks : List Tok) (e fa at_ e2 : Int) :
  call G 259 [.ptr s.obs.length 0, .int .i64 at_, .int .i64 e2] (LS s b l toks e fa) = some (.tup [], if e = 0 then LS s b l toks e2 at_ else LS s b l toks e fa) := by
 refine aC (F := af259) rfl rfl ?_
 have hg := iM (s := s) (b := b) (l := l) (toks := toks) (e := e) (fa := fa)
 have hset := fun o => Cu (s := s) (b := b) (l := l) (toks := toks) (e := e) (fa := fa) o
 simp only [lxO] at hg
 by_cases he : e = 0
 ·subst he
  have hmk := fO (s := s) (b := b) (l := l) (toks := toks) (e := 0) (fa := fa) l toks e2 at_
  simp [af259, af259b, hg, aI, aB, V.one, aK, hset]
  exact hmk
 ·simp [af259, af259b, hg, he]
  exact fO l toks e fa
theorem jP (s : St) (b l l' : List UInt8) (toks : List Tok) (e fa k : Int) (t : List UInt8) (hn : toks.length ≤ 1000000000) :
  call G 260 [.ptr s.obs.length 0, .int .i64 k, .str t, .int .i64 ((b.length - l'.length : Nat) : Int)] (LS s b l toks e fa) = some (.tup [], LS s b l' (toks ++ [⟨k, t, ((b.length - l.length : Nat) : Int)⟩]) e fa) := by
 refine aC (F := af260) rfl rfl ?_
 have hg := iM (s := s) (b := b) (l := l) (toks := toks) (e := e) (fa := fa)
 have hset := fun o => Cu (s := s) (b := b) (l := l) (toks := toks) (e := e) (fa := fa) o
 have hroom : iJ = 140737488355328 := by decide
 have hap := nC bO rfl dA 3 32 195 .no (fN ⟨k, t, ((b.length - l.length : Nat) : Int)⟩) sN rfl toks (by rw [hroom]; omega) (LS s b l toks e fa).obs s.bufs
 have hls : (LS s b l toks e fa) = ⟨(LS s b l toks e fa).obs, s.bufs ++ dH (32, 195) toks⟩ := rfl
 rw [← hls, ← yT] at hap
 have hfn := fO (s := s) (b := b) (l := l) (toks := toks) (e := e) (fa := fa) l' (toks ++ [⟨k, t, ((b.length - l.length : Nat) : Int)⟩]) e fa
 simp only [fN] at hap
 simp only [lxO] at hg
 have hn2 := fun o : Qw => Kj (s := s) o
 have hs2 := fun o o' : Qw => ID (s := s) o o'
 simp [af260, af260b, hg, aI, aY, aB, V.one, aK, hap, hset, hs2]
 simp only [LS, lxO, bF, dH] at hfn ⊢
 simp at hfn ⊢
 exact hfn
def lO (c : UInt8) : Bool := decide (c = 32) || decide (c = 9) || decide (c = 10) || decide (c = 13) || decide (c = 44)
def eE : Bool → List UInt8 → List UInt8
 | _, [] => []
 | false, c :: t => if lO c = true then eE false t else if c = 35 then eE true t else c :: t
 | true, c :: t => if bN c = true then eE true t else eE false t
theorem gY : ∀ (x : Bool) (l : List UInt8), eE x l <:+ l
 | _, [] => List.suffix_refl _
 | false, c :: t => by
  unfold eE
  split
  ·exact (gY false t).trans (List.suffix_cons c t)
  ·split
   ·exact (gY true t).trans (List.suffix_cons c t)
   ·exact List.suffix_refl _
 | true, c :: t => by
  unfold eE
  split
  ·exact (gY true t).trans (List.suffix_cons c t)
  ·exact (gY false t).trans (List.suffix_cons c t)
theorem uR : ∀ l : List UInt8, eE true l = eE false (l.dropWhile bN)
 | [] => rfl
 | c :: t => by
  rw [eE]
  by_cases h : bN c = true
  ·rw [if_pos h, List.dropWhile_cons, if_pos h]; exact uR t
  ·rw [if_neg h, List.dropWhile_cons, if_neg h, eE]
   have : lO c = true := by
    unfold bN at h
    unfold lO
    simp at h
    by_cases h10 : c = 10
    ·simp [h10]
    ·simp [h h10]
   rw [if_pos this]
theorem Hg (c : UInt8) : (0 ≤ Lib.indexByte [32, 9, 10, 13, 44] c) ↔ lO c = true := by
 have key : ∀ k : Fin 256, (0 ≤ Lib.indexByte [32, 9, 10, 13, 44] (UInt8.ofNat k.val)) ↔ lO (UInt8.ofNat k.val) = true := by decide +kernel
 simpa using key ⟨c.toNat, c.toNat_lt⟩
theorem HZ {b : List UInt8} (hb : b.length ≤ 1000000000) (s : St) (toks : List Tok) (e fa : Int) : ∀ (n : Nat) (l : List UInt8) (env : Env), l.length < n → l <:+ b → env 0 = .ptr s.obs.length 0 →
  Out (evC G (.loop false af203l0) env (LS s b l toks e fa)) (fun ex env' s' => (ex = .exit 0 ∨ ex = .ret) ∧ s' = LS s b (eE false l) toks e fa) := by
 intro n
 induction n with
 | zero => intro l env h; omega
 | succ n ih =>
  intro l env hn hl h0
  have hlen := aO hl
  have hg := iM (s := s) (b := b) (l := l) (toks := toks) (e := e) (fa := fa)
  have hset := fun o => Cu (s := s) (b := b) (l := l) (toks := toks) (e := e) (fa := fa) o
  simp only [lxO] at hg
  refine aH G false _ _ af203l0.eq_1 _ _ _ ?_
  cases l with
  | nil =>
   simp at hg
   simp [h0, hg, eE]
  | cons c t =>
   simp only [List.length_cons] at hlen hn hg
   have hlt : b.length - (t.length + 1) < b.length := by omega
   have hgi := eM hl
   have hib := fun s => pP [32, 9, 10, 13, 44] c s
   have e35 : ((c.toNat : Int) = 35) ↔ c = 35 := gL c 35 (by decide)
   have hw : IntKind.i64.wrap (((b.length - (t.length + 1) : Nat) : Int) + 1) = ((b.length - t.length : Nat) : Int) := by rw [aD (by omega) (by omega)]; omega
   by_cases hsep : lO c = true
   ·have hge := (Hg c).2 hsep
    have hbt : eE false (c :: t) = eE false t := by rw [eE, if_pos hsep]
    have hstp : (⟨s.obs ++ [.cells 259 [.str b, .int .i64 ((b.length - t.length : Nat) : Int), .sl (bF s.bufs toks) (bO toks), .int .i64 e, .int .i64 fa]], (LS s b (c :: t) toks e fa).bufs⟩ : St) = LS s b t toks e fa := rfl
    rw [hbt]
    simp [h0, hg, hlt, ↓hgi, hib, hge, hw, aB, V.one, aK, hset]
    rw [hstp]
    exact ih t _ (by omega) (cJ hl) (by simp [h0])
   ·have hge : ¬ 0 ≤ Lib.indexByte [32, 9, 10, 13, 44] c := fun h => hsep ((Hg c).1 h)
    by_cases h35 : c = 35
    ·have hwh := qW hb hl (k := 258) (p := bN) Jn (r := s.obs.length) (s := LS s b (c :: t) toks e fa) (iM (s := s) (b := b) (l := c :: t) (toks := toks) (e := e) (fa := fa))
     have hdw : (c :: t).dropWhile bN = t.dropWhile bN := by rw [List.dropWhile_cons, if_pos (by rw [h35]; decide)]
     rw [hdw] at hwh
     simp only [List.length_cons] at hwh
     have hbt : eE false (c :: t) = eE false (t.dropWhile bN) := by rw [eE, if_neg hsep, if_pos h35, uR]
     have hstp : (⟨s.obs ++ [.cells 259 [.str b, .int .i64 ((b.length - (t.dropWhile bN).length : Nat) : Int), .sl (bF s.bufs toks) (bO toks), .int .i64 e, .int .i64 fa]], (LS s b (c :: t) toks e fa).bufs⟩ : St) = LS s b (t.dropWhile bN) toks e fa := rfl
     have hds := (List.dropWhile_suffix bN (l := t))
     have hdl := aO hds
     rw [hbt]
     have h35t : (c = 35) = True := eq_true h35
     simp [h0, hg, hlt, ↓hgi, hib, hge, e35, h35t, hwh, aB, V.one, aK, hset]
     rw [hstp]
     exact ih _ _ (by omega) (hds.trans (cJ hl)) (by simp [h0])
    ·have hbt : eE false (c :: t) = c :: t := by rw [eE, if_neg hsep, if_neg h35]
     rw [hbt]
     simp [h0, hg, hlt, ↓hgi, hib, hge, e35, h35]
theorem qA {b l : List UInt8} (hb : b.length ≤ 1000000000) (hl : l <:+ b) (s : St) (toks : List Tok) (e fa : Int) :
  call G 203 [.ptr s.obs.length 0] (LS s b l toks e fa) = some (.tup [], LS s b (eE false l) toks e fa) := by
 refine aC (F := af203) rfl rfl ?_
 simp [af203, af203b]
 refine Out.mono (HZ hb s toks e fa (l.length + 1) l _ (by omega) hl (by simp)) ?_
 rintro ex env' s' ⟨rfl | rfl, rfl⟩
 ·simp
  exact fO _ toks e fa
 ·simp
  exact fO _ toks e fa
def q3 : List UInt8 := [34, 34, 34]
def iI : Nat → UInt8 → List UInt8 → Option (List UInt8)
 | _, _, [] => none
 | k + 1, _, c :: t => iI k c t
 | 0, p, c :: t => if eG (c :: t) q3 = true then (if p = 92 then iI 2 c t else some (c :: t)) else iI 0 c t
theorem iO (l w : List UInt8) : eG l w = w.isPrefixOf l := by
 rw [Bool.eq_iff_iff, List.isPrefixOf_iff_prefix, List.prefix_iff_eq_take]
 unfold eG
 simp only [Bool.and_eq_true, decide_eq_true_eq]
 constructor
 ·rintro ⟨_, h⟩; exact h.symm
 ·intro h
  refine ⟨?_, h.symm⟩
  have := congrArg List.length h
  rw [List.length_take] at this
  omega
theorem pK {l : List UInt8} (h : eG l q3 = true) : ∃ r, l = 34 :: 34 :: 34 :: r := by
 rw [iO] at h
 obtain ⟨r, hr⟩ := List.isPrefixOf_iff_prefix.1 h
 exact ⟨r, hr.symm⟩
theorem wC : ∀ (l : List UInt8) (p : UInt8), (Lib.index l q3 = -1 ∧ iI 0 p l = none) ∨
  ∃ (i : Nat) (x : UInt8) (r : List UInt8), Lib.index l q3 = i ∧ i + 3 ≤ l.length ∧ (p :: l)[i]? = some x ∧ l.drop i = 34 :: 34 :: 34 :: r ∧ iI 0 p l = if x = 92 then iI 0 34 r else some (l.drop i)
 | [], p => .inl ⟨rfl, rfl⟩
 | c :: t, p => by
  by_cases h : eG (c :: t) q3 = true
  ·obtain ⟨r, hr⟩ := pK h
   right
   refine ⟨0, p, r, ?_, ?_, rfl, hr, ?_⟩
   ·have : q3.isPrefixOf (c :: t) = true := by rw [← iO]; exact h
    rw [Lib.index, if_pos this]; rfl
   ·rw [hr]; simp
   ·rw [iI, if_pos h]
    split
    ·simp only [List.cons.injEq] at hr
     obtain ⟨rfl, rfl⟩ := hr
     rfl
    ·rfl
  ·have hn : ¬ q3.isPrefixOf (c :: t) = true := by rw [← iO]; exact h
   have hs : iI 0 p (c :: t) = iI 0 c t := by rw [iI, if_neg h]
   have hidx : Lib.index (c :: t) q3 = if Lib.index t q3 == -1 then -1 else Lib.index t q3 + 1 := by rw [Lib.index, if_neg hn]
   rcases wC t c with ⟨h1, h2⟩ | ⟨i, x, r, h1, h2, h3, h4, h5⟩
   ·left
    rw [hidx, h1, hs]
    exact ⟨rfl, h2⟩
   ·right
    have hne : ¬ (((i : Nat) : Int) == -1) = true := by rw [beq_iff_eq]; omega
    refine ⟨i + 1, x, r, ?_, by rw [List.length_cons]; omega, by simpa using h3, by simpa using h4, ?_⟩
    ·rw [hidx, h1, if_neg hne]; omega
    ·rw [hs, h5]; rfl
theorem Dh {b : List UInt8} (hb : b.length ≤ 1000000000) {r : Nat} {x1 x2 x3 x4 : V} : ∀ (n : Nat) (p : UInt8) (l : List UInt8) (env : Env) (s : St), l.length < n → (p :: l) <:+ b → s.obs[r]? = some (.cells 259 [.str b, x1, x2, x3, x4]) →
  env 0 = .ptr r 0 → env 1 = .int .i64 ((b.length - l.length : Nat) : Int) →
  Out (evC G (.loop false af301l0) env s) (fun e env' s' => e = .ret ∧ s' = s ∧ env' 4 = .int .i64 (match iI 0 p l with | some l' => ((b.length - l'.length : Nat) : Int) | none => -1)) := by
 intro n
 induction n with
 | zero => intro p l env s h; omega
 | succ n ih =>
  intro p l env s hn hl hs h0 h1
  have hl' := cJ hl
  have hlen := aO hl
  simp only [List.length_cons] at hlen
  have hsl : bD (.str b) (some (.int .i64 ((b.length - l.length : Nat) : Int))) none = some (.str l) := by
   simp [bD, bnd, dE hl']
  have hix : ∀ s, call G 322 [.str l, .str [34, 34, 34]] s = some (.int .i64 (Lib.index l q3), s) := by
   intro s
   rw [jE G 322 _ s rQ rfl]
   simp only [rQ]
   rw [if_pos (by omega)]
   rfl
  refine aH G false _ _ af301l0.eq_1 _ _ _ ?_
  rcases wC l p with ⟨e1, e2⟩ | ⟨i, x, rr, e1, e2, e3, e4, e5⟩
  ·rw [e2]
   simp [h0, h1, hs, hsl, hix, e1]
  ·rw [e5]
   have hw1 : IntKind.i64.wrap (((b.length - l.length : Nat) : Int) + (i : Int)) = ((b.length - l.length : Nat) : Int) + (i : Int) := aD (by omega) (by omega)
   have hw2 : IntKind.i64.wrap (((b.length - l.length : Nat) : Int) + (i : Int) - 1) = ((b.length - l.length + i - 1 : Nat) : Int) := by rw [aD (by omega) (by omega)]; omega
   have hw3 : IntKind.i64.wrap (((b.length - l.length : Nat) : Int) + (i : Int) + 3) = ((b.length - (l.drop (i + 3)).length : Nat) : Int) := by rw [List.length_drop, aD (by omega) (by omega)]; omega
   have hpos : ((b.length - (l.drop i).length : Nat) : Int) = ((b.length - l.length : Nat) : Int) + (i : Int) := by rw [List.length_drop]; omega
   have hgx : b[((b.length - l.length + i - 1 : Nat) : Int).toNat]? = some x := by
    rw [Int.toNat_natCast]
    have hd := dE hl
    simp only [List.length_cons] at hd
    rw [← e3, ← hd, List.getElem?_drop]
    congr 1
    omega
   have hx92 : ((x.toNat : Int) = 92) ↔ x = 92 := gL x 92 (by decide)
   have hge : ¬ ((i : Nat) : Int) < 0 := by omega
   by_cases hx : x = 92
   ·have hxt : (x = 92) = True := eq_true hx
    have hdr : l.drop (i + 3) = rr := by rw [← List.drop_drop, e4]; rfl
    rw [if_pos hx]
    rw [hdr] at hw3
    have hrs : (34 :: rr) <:+ b := by
     have h5 : l.drop (i + 2) = 34 :: rr := by rw [← List.drop_drop, e4]; rfl
     rw [← h5]
     exact (List.drop_suffix _ _).trans hl'
    have hrl : rr.length < n := by
     have := congrArg List.length hdr
     rw [List.length_drop] at this
     omega
    simp [h0, h1, hs, hsl, hix, e1, hge, hw1, hw2, ↓hgx, hx92, hxt, hw3]
    exact ih 34 rr _ s hrl hrs hs (by simp [h0]) (by simp)
   ·have hxt : (x = 92) = False := eq_false hx
    rw [if_neg hx]
    simp only [hpos]
    simp [h0, h1, hs, hsl, hix, e1, hge, hw1, hw2, ↓hgx, hx92, hxt]
theorem BH {b l : List UInt8} {p : UInt8} (hb : b.length ≤ 1000000000) (hl : (p :: l) <:+ b) {r : Nat} {x1 x2 x3 x4 : V} {s : St} (hs : s.obs[r]? = some (.cells 259 [.str b, x1, x2, x3, x4])) :
  call G 301 [.ptr r 0, .int .i64 ((b.length - l.length : Nat) : Int)] s = some (.int .i64 (match iI 0 p l with | some l' => ((b.length - l'.length : Nat) : Int) | none => -1), s) := by
 refine aC (F := af301) rfl rfl ?_
 simp [af301, af301b]
 refine Out.mono (Dh hb (l.length + 1) p l _ s (by omega) hl hs (by simp) (by simp)) ?_
 rintro e env' s' ⟨rfl, rfl, h⟩
 simp [h]
 rw [aS _ (v := .int _ _) rfl]
 rfl
def fxV (p : Nat → Bool) (b : List UInt8) : Nat → Nat → Int
 | 0, _ => -1
 | f + 1, q => if q < b.length then if p (bS b q).1 = true then (q : Int) else fxV p b f (q + (bS b q).2) else -1
theorem Ku (b : List UInt8) (hb : b.length ≤ 1000000000) {k : FuncId} {p : Nat → Bool} (hp : ∀ (c : Nat) (s : St), c ≤ 1114111 → call G k [.int .i32 (c : Int)] s = some (.bool (p c), s)) (id : Nat) :
  ∀ (f q : Nat) (env : Env) (s : St), q ≤ b.length → b.length < q + f → env 1 = .fn (.func k) [] [] → env 2 = .bool true → env 10 = .itr id → s.obs[id]? = some (.iter b q) →
  Out (evC G (.loop false af343l0) env s) (fun e env' s' => (s'.bufs = s.bufs ∧ ∃ o, s'.obs = s.obs.set id o) ∧
   ((fxV p b f q = -1 ∧ e = .exit 0) ∨ (fxV p b f q ≠ -1 ∧ e = .ret ∧ env' 6 = .int .i64 (fxV p b f q)))) := by
 intro f
 induction f with
 | zero => intro q env s h1 h2; omega
 | succ f ih =>
  intro q env s hq hf h1 h2 h10 hs
  refine aH G false _ _ af343l0.eq_1 _ _ _ ?_
  by_cases hlt : q < b.length
  ·have hd := lH b q hlt
   have hid : id < s.obs.length := bB hs
   have hcall := fun s => hp (bS b q).1 s (by omega)
   have hdv : Utf8.decode ⟨b.toArray⟩ q = bS b q := rfl
   by_cases hpc : p (bS b q).1 = true
   ·have hv : fxV p b (f + 1) q = q := by simp [fxV, hlt, hpc]
    rw [hpc] at hcall
    simp [h10, CZ b q id s hs hlt, hdv, h1, h2, hcall]
    rw [hv]
    exact ⟨⟨_, rfl⟩, by omega, rfl⟩
   ·have hv : fxV p b (f + 1) q = fxV p b f (q + (bS b q).2) := by simp [fxV, hlt, hpc]
    rw [hv]
    rw [show p (bS b q).1 = false by simpa using hpc] at hcall
    simp [h10, CZ b q id s hs hlt, hdv, h1, h2, hcall]
    refine (ih (q + (bS b q).2) _ _ (by omega) (by omega) (by simp [h1]) (by simp [h2]) (by simp [h10]) (by simp [hid])).mono ?_
    rintro e env'' s' ⟨⟨g1, o, g2⟩, g3⟩
    refine ⟨⟨g1, o, ?_⟩, g3⟩
    rw [g2]
    simp
  ·have hv : fxV p b (f + 1) q = -1 := by simp [fxV, hlt]
   simp [h10, Ez b q id s hs hlt, hv]
   exact ⟨.iter b q, by
    apply List.ext_getElem?
    intro j
    by_cases hj : id = j
    ·subst hj; rw [List.getElem?_set_self (bB hs), hs]
    ·rw [List.getElem?_set_ne hj]⟩
theorem vK (b : List UInt8) (hb : b.length ≤ 1000000000) {k : FuncId} {p : Nat → Bool} (hp : ∀ (c : Nat) (s : St), c ≤ 1114111 → call G k [.int .i32 (c : Int)] s = some (.bool (p c), s)) (s : St) :
  call G 343 [.str b, .fn (.func k) [] [], .bool true] s = some (.int .i64 (fxV p b (b.length + 1) 0), s) := by
 refine aC (F := af343) rfl rfl ?_
 simp [af343, af343b]
 refine (Ku b hb hp s.obs.length (b.length + 1) 0 _ _ (by omega) (by omega) (by simp) (by simp) (by simp) (by simp)).mono ?_
 rintro e env s' ⟨⟨hbf, o, hob⟩, ⟨h1, rfl⟩ | ⟨h1, rfl, h2⟩⟩
 ·simp [h1, hbf, hob, List.set_append, fin]
 ·simp [h2, hbf, hob, List.set_append, fin]
theorem rB (b : List UInt8) (hb : b.length ≤ 1000000000) {k : FuncId} {p : Nat → Bool} (hp : ∀ (c : Nat) (s : St), c ≤ 1114111 → call G k [.int .i32 (c : Int)] s = some (.bool (p c), s)) (s : St) :
  call G 302 [.str b, .fn (.func k) [] []] s = some (.bool (decide (0 ≤ fxV p b (b.length + 1) 0)), s) := by
 have h1 := vK b hb hp
 have h2 : ∀ s, call G 323 [.str b, .fn (.func k) [] []] s = some (.int .i64 (fxV p b (b.length + 1) 0), s) := by
  intro s
  refine aC (F := af323) rfl rfl ?_
  simp [af323, af323b, h1]
  rw [aS _ (v := .int _ _) rfl]
  rfl
 refine aC (F := af302) rfl rfl ?_
 simp [af302, af302b, h2]
 rw [aS _ (v := .bool _) rfl]
 simp
def fD (c : Nat) : Bool := decide (c < 32) && !decide (c = 9) && !decide (c = 10) && !decide (c = 13)
theorem GK (c : Nat) (s : St) (hc : c ≤ 1114111) : call G 303 [.int .i32 (c : Int)] s = some (.bool (fD c), s) := by
 have e1 : ((c : Int) < 32) ↔ c < 32 := by omega
 have e2 : ((c : Int) = 9) ↔ c = 9 := by omega
 have e3 : ((c : Int) = 10) ↔ c = 10 := by omega
 have e4 : ((c : Int) = 13) ↔ c = 13 := by omega
 refine aC (F := af303) rfl rfl ?_
 simp [af303, af303b, e1, e2, e3, e4]
 rw [aS _ (v := .bool _) rfl]
 simp [fD]
theorem zT (b : List UInt8) : ∀ (f q : Nat), b.length < q + f → q ≤ b.length → (0 ≤ fxV fD b f q ↔ (b.drop q).any (fun c => fD c.toNat) = true)
 | 0, q, h1, h2 => by omega
 | f + 1, q, h1, h2 => by
  unfold fxV
  by_cases hlt : q < b.length
  ·rw [if_pos hlt]
   have hd := lH b q hlt
   have hne : b.drop q ≠ [] := by
    intro h
    have := congrArg List.length h
    rw [List.length_drop] at this
    simp at this
    omega
   have hq : bS b q = bS (b.drop q) 0 := by
    have hs := Be (List.drop_suffix q b) hne
    rw [List.length_drop, show b.length - (b.length - q) = q by omega] at hs
    exact hs
   obtain ⟨c, t, hct⟩ := List.exists_cons_of_ne_nil hne
   by_cases hlo : c.toNat < 128
   ·have h3 : bS b q = (c.toNat, 1) := by rw [hq, hct, nH hlo]
    have hdt : b.drop (q + 1) = t := by rw [← List.drop_drop, hct]; rfl
    rw [h3, hct]
    simp only [List.any_cons, Bool.or_eq_true]
    by_cases hp : fD c.toNat = true
    ·rw [if_pos hp]
     exact ⟨fun _ => .inl hp, fun _ => by omega⟩
    ·rw [if_neg hp, zT b f (q + 1) (by omega) (by omega), hdt]
     exact ⟨.inr, fun h => h.resolve_left hp⟩
   ·have hhi := tW (t := t) (show 128 ≤ c.toNat by omega)
    rw [← hct, ← hq] at hhi
    have hp : ¬ fD (bS b q).1 = true := by
     unfold fD
     simp
     omega
    rw [if_neg hp, zT b f _ (by omega) (by omega)]
    have hall : ∀ x ∈ (b.drop q).take (bS b q).2, fD x.toNat = false := by
     have h128 : ∀ x : UInt8, 128 ≤ x.toNat → fD x.toNat = false := by
      intro x hx
      unfold fD
      have : ¬ x.toNat < 32 := by omega
      simp [this]
     by_cases hz : bS b q = (65533, 1)
     ·rw [hz, hct]
      intro x hx
      simp at hx
      subst hx
      exact h128 _ (by omega)
     ·have hsz := kT b q hlt
      rw [if_neg hz] at hsz
      have hsb := qT b q hlt (by rw [hsz]; simp only; omega)
      rw [hsz] at hsb
      rcases hsb.2 with ⟨_, h4, h5⟩ | ⟨_, h4⟩
      ·simp only at h4
       omega
      ·exact fun x hx => h128 x (h4 x hx)
    have hsplit : b.drop q = (b.drop q).take (bS b q).2 ++ b.drop (q + (bS b q).2) := by
     rw [← List.drop_drop, List.take_append_drop]
    rw [hsplit, List.any_append]
    have hf : ((b.drop q).take (bS b q).2).any (fun c => fD c.toNat) = false := by
     rw [List.any_eq_false]
     intro x hx
     simp [hall x hx]
    rw [hf, Bool.false_or]
  ·rw [if_neg hlt]
   have : b.drop q = [] := List.drop_eq_nil_of_le (by omega)
   rw [this]
   simp
theorem BG (b : List UInt8) (hb : b.length ≤ 1000000000) (s : St) : call G 302 [.str b, .fn (.func 303) [] []] s = some (.bool (b.any fun c => fD c.toNat), s) := by
 have h := zT b (b.length + 1) 0 (by omega) (by omega)
 rw [List.drop_zero] at h
 rw [rB b hb (p := fD) (fun c s hc => GK c s hc) s]
 congr 3
 rw [Bool.eq_iff_iff, decide_eq_true_eq, h]
def eH : Nat → List UInt8 → List (List UInt8)
 | 0, l => [l]
 | n + 1, l => match l.dropWhile bN with
  | [] => [l]
  | c :: t => l.takeWhile bN :: eH n (if c = 13 ∧ hd0 t = 10 then t.drop 1 else t)
def eC (l : List UInt8) : List (List UInt8) := eH l.length l
theorem Es (c : UInt8) (t : List UInt8) (x : UInt8) : Lib.indexByte (c :: t) x = if c = x then 0 else if Lib.indexByte t x = -1 then -1 else Lib.indexByte t x + 1 := by
 simp only [Lib.indexByte, beq_iff_eq]
def nlI (l : List UInt8) : Int := if l.dropWhile bN = [] then -1 else ((l.takeWhile bN).length : Int)
theorem KC (l : List UInt8) : (if 0 ≤ Lib.indexByte l 13 ∧ (Lib.indexByte l 10 < 0 ∨ Lib.indexByte l 13 < Lib.indexByte l 10) then Lib.indexByte l 13 else Lib.indexByte l 10) = nlI l := by
 unfold nlI
 induction l with
 | nil => rfl
 | cons c t ih =>
  have g13 := Lib.indexByte_ge t 13
  have g10 := Lib.indexByte_ge t 10
  rw [Es, Es]
  by_cases h13 : c = 13
  ·have hn : bN c = false := by rw [h13]; rfl
   have h10 : ¬ c = 10 := by rw [h13]; decide
   have hd : (c :: t).dropWhile bN = c :: t := by simp [List.dropWhile_cons, hn]
   have ht : (c :: t).takeWhile bN = [] := by simp [List.takeWhile_cons, hn]
   rw [if_pos h13, if_neg h10, hd, ht, if_neg (by simp : ¬ c :: t = [])]
   simp only [List.length_nil]
   repeat' split
   all_goals omega
  ·by_cases h10 : c = 10
   ·have hn : bN c = false := by rw [h10]; rfl
    have hd : (c :: t).dropWhile bN = c :: t := by simp [List.dropWhile_cons, hn]
    have ht : (c :: t).takeWhile bN = [] := by simp [List.takeWhile_cons, hn]
    rw [if_neg h13, if_pos h10, hd, ht, if_neg (by simp : ¬ c :: t = [])]
    simp only [List.length_nil]
    repeat' split
    all_goals omega
   ·have hn : bN c = true := by simp [bN, h10, h13]
    have hdc : (c :: t).dropWhile bN = t.dropWhile bN := by simp [List.dropWhile_cons, hn]
    have htc : (c :: t).takeWhile bN = c :: t.takeWhile bN := by simp [List.takeWhile_cons, hn]
    rw [if_neg h13, if_neg h10, hdc, htc]
    revert ih
    simp only [List.length_cons]
    generalize Lib.indexByte t 13 = a at *
    generalize Lib.indexByte t 10 = b at *
    intro ih
    by_cases hd : t.dropWhile bN = []
    ·rw [if_pos hd] at ih ⊢
     revert ih
     repeat' split
     all_goals intro ih
     all_goals omega
    ·rw [if_neg hd] at ih ⊢
     revert ih
     repeat' split
     all_goals intro ih
     all_goals omega
def lnV (s : St) (acc : List (List UInt8)) : V := if acc = [] then .sl .nil [] else .msl (s.obs.length + (acc.length - 1)) 1 0 acc.length
def lnS (s : St) (acc : List (List UInt8)) : St := if acc = [] then s else ⟨s.obs ++ (List.replicate (acc.length - 1) .dead ++ [.arr 9 (acc.map V.str)]), s.bufs⟩
theorem Id (acc : List (List UInt8)) : (acc.map V.str).all V.one = true := by
 rw [List.all_eq_true]
 intro v hv
 obtain ⟨x, _, rfl⟩ := List.mem_map.1 hv
 rfl
theorem Hn (s : St) {acc : List (List UInt8)} (h : acc ≠ []) : (lnS s acc).obs[s.obs.length + (acc.length - 1)]? = some (.arr 9 (acc.map V.str)) := by
 unfold lnS
 rw [if_neg h]
 simp only
 rw [List.getElem?_append_right (by omega), show s.obs.length + (acc.length - 1) - s.obs.length = acc.length - 1 by omega, List.getElem?_append_right (by simp)]
 simp
theorem Hm (s : St) (acc : List (List UInt8)) (x : List UInt8) (hl : acc.length ≤ 1000000000) : uW 1 (16, 9) (lnV s acc) (.sl .no [.str x]) (lnS s acc) = some (lnV s (acc ++ [x]), lnS s (acc ++ [x])) := by
 have hroom : iJ = 140737488355328 := by decide
 have hsrc : rY 1 (.sl .no [.str x]) (lnS s acc) = some ([.str x], 1) := rfl
 simp only [uW, hsrc]
 by_cases h : acc = []
 ·subst h
  simp [lnV, lnS, hroom]
 ·have hg := Hn s h
  have hpos := List.length_pos_iff.2 h
  have hlen : (lnS s acc).obs.length = s.obs.length + acc.length := by
   unfold lnS
   rw [if_neg h]
   simp
   omega
  have hset : (lnS s acc).obs.set (s.obs.length + (acc.length - 1)) .dead = s.obs ++ List.replicate acc.length .dead := by
   unfold lnS
   rw [if_neg h]
   simp only
   rw [List.set_append_right _ _ (by omega), show s.obs.length + (acc.length - 1) - s.obs.length = acc.length - 1 by omega, List.set_append_right _ _ (by simp)]
   simp only [List.length_replicate, Nat.sub_self, List.set_cons_zero]
   have e : acc.length = (acc.length - 1) + 1 := by omega
   conv => rhs; rw [e, List.replicate_succ']
  have hv : lnV s acc = .msl (s.obs.length + (acc.length - 1)) 1 0 acc.length := by unfold lnV; rw [if_neg h]
  have hb : (lnS s acc).bufs = s.bufs := by unfold lnS; rw [if_neg h]
  rw [hv]
  simp only [Nat.one_ne_zero, if_false, hg, and_self, if_true, List.length_map, Nat.zero_add, Nat.mul_one]
  rw [if_neg (by omega), if_pos ⟨trivial, trivial, by rw [hroom]; omega, Id acc⟩]
  rw [hset, hlen, hb]
  simp [lnV, lnS]
theorem ER (c : UInt8) (t : List UInt8) : eG (c :: t) [13, 10] = true ↔ c = 13 ∧ hd0 t = 10 := by
 cases t with
 | nil => simp [eG, hd0]
 | cons d t => simp [eG, hd0]
theorem Fo (s : St) : ∀ (n : Nat) (l : List UInt8) (acc : List (List UInt8)) (env : Env), l.length ≤ n → acc.length + l.length ≤ 1000000000 → env 0 = .str l → env 3 = lnV s acc →
  Out (evC G (.loop false af324l0) env (lnS s acc)) (fun e env' s' => e = .ret ∧ env' 2 = lnV s (acc ++ eH n l) ∧ s' = lnS s (acc ++ eH n l)) := by
 intro n
 induction n with
 | zero =>
  intro l acc env hn hacc h0 h3
  have : l = [] := List.eq_nil_of_length_eq_zero (by omega)
  subst this
  have hi10 : ∀ s, call G 256 [.str [], .int .u8 10] s = some (.int .i64 (-1), s) := pP [] 10
  have hi13 : ∀ s, call G 256 [.str [], .int .u8 13] s = some (.int .i64 (-1), s) := pP [] 13
  have hap := Hm s acc [] (by omega)
  refine aH G false _ _ af324l0.eq_1 _ _ _ ?_
  simp [h0, h3, hi10, hi13, aY, V.one, hap, eH]
 | succ n ih =>
  intro l acc env hn hacc h0 h3
  have hi10 : ∀ s, call G 256 [.str l, .int .u8 10] s = some (.int .i64 (Lib.indexByte l 10), s) := pP l 10
  have hi13 : ∀ s, call G 256 [.str l, .int .u8 13] s = some (.int .i64 (Lib.indexByte l 13), s) := pP l 13
  have hnl := KC l
  have g13 := Lib.indexByte_ge l 13
  have g10 := Lib.indexByte_ge l 10
  refine aH G false _ _ af324l0.eq_1 _ _ _ ?_
  simp [h0, hi10, hi13]
  refine Out.mono (Q := fun ex env' s' => ex = .norm ∧ s' = lnS s acc ∧ env' 0 = .str l ∧ env' 3 = lnV s acc ∧ env' 4 = .int .i64 (nlI l)) ?_ ?_
  ·rw [← hnl]
   generalize Lib.indexByte l 13 = a at *
   generalize Lib.indexByte l 10 = b at *
   by_cases ha : 0 ≤ a
   ·by_cases hb : b < 0
    ·rw [if_pos ⟨ha, .inl hb⟩]
     simp [ha, hb, h0, h3]
    ·have hb' : 0 ≤ b := by omega
     by_cases hc : a < b
     ·rw [if_pos ⟨ha, .inr hc⟩]
      simp [ha, hb, hb', hc, h0, h3]
     ·have hc' : b ≤ a := by omega
      rw [if_neg (by rintro ⟨_, h | h⟩ <;> omega)]
      simp [ha, hb, hb', hc, hc', h0, h3]
   ·have ha' : a < 0 := by omega
    rw [if_neg (by rintro ⟨h, _⟩; omega)]
    simp [ha, ha', h0, h3]
  rintro ex env1 s1 ⟨rfl, rfl, k0, k3, k4⟩
  clear h0 h3 hi10 hi13 hnl g13 g10
  unfold nlI at k4
  cases hD : l.dropWhile bN with
  | nil =>
   rw [hD, if_pos rfl] at k4
   have hap := Hm s acc l (by omega)
   have hlf : eH (n + 1) l = [l] := by rw [eH, hD]
   rw [hlf]
   simp [k0, k3, k4, aY, V.one, hap]
  | cons c t =>
   rw [hD, if_neg (by simp)] at k4
   have hsp : l = l.takeWhile bN ++ c :: t := by rw [← hD]; exact (List.takeWhile_append_dropWhile).symm
   generalize hW : l.takeWhile bN = W at *
   have hlen : l.length = W.length + (t.length + 1) := by rw [hsp]; simp
   have hlf : eH (n + 1) l = W :: eH n (if c = 13 ∧ hd0 t = 10 then t.drop 1 else t) := by rw [eH, hD, hW]
   have hap := Hm s acc W (by omega)
   have sl1 : bD (.str l) none (some (.int .i64 (W.length : Int))) = some (.str W) := by
    have e : l.take W.length = W := by rw [hsp, List.take_left]
    simp only [bD, bnd]
    rw [if_pos (by omega)]
    simp only [Int.toNat_natCast]
    rw [if_pos (by omega), e]
    rfl
   have sl2 : bD (.str l) (some (.int .i64 (W.length : Int))) none = some (.str (c :: t)) := by
    have e : l.drop W.length = c :: t := by rw [hsp, List.drop_left]
    simp only [bD, bnd]
    rw [if_pos (by omega)]
    simp only [Int.toNat_natCast]
    rw [if_pos (by omega), List.take_length, e]
   have slk : ∀ k : Nat, W.length + 1 + k ≤ l.length → bD (.str l) (some (.int .i64 ((W.length : Int) + 1 + (k : Int)))) none = some (.str (t.drop k)) := by
    intro k hk
    have e : l.drop (W.length + 1 + k) = t.drop k := by
     rw [← List.drop_drop, hsp, ← List.drop_drop, List.drop_left]
     rfl
    have e2 : (W.length : Int) + 1 + (k : Int) = ((W.length + 1 + k : Nat) : Int) := by omega
    rw [e2]
    simp only [bD, bnd]
    rw [if_pos (by omega)]
    simp only [Int.toNat_natCast]
    rw [if_pos (by omega), List.take_length, e]
   have hhp := fun s => Ah (c :: t) [13, 10] (by simp; omega) s
   have hbg := ER c t
   have w1 : IntKind.i64.wrap ((W.length : Int) + 1) = (W.length : Int) + 1 := aD (by omega) (by omega)
   have w2 : IntKind.i64.wrap ((W.length : Int) + 1 + 1) = (W.length : Int) + 1 + 1 := aD (by omega) (by omega)
   have hnn : ¬ (W.length : Int) < 0 := by omega
   rw [hlf]
   have happ : ∀ x, acc ++ W :: x = (acc ++ [W]) ++ x := fun x => by simp
   by_cases hcr : c = 13 ∧ hd0 t = 10
   ·have ht1 : 1 ≤ t.length := by
     cases t with
     | nil => exact absurd hcr.2 (by decide)
     | cons d t => simp
    rw [if_pos hcr]
    rw [hbg.2 hcr] at hhp
    have sl3 := slk 1 (by omega)
    simp only [Int.cast_ofNat_Int] at sl3
    simp [k0, k3, k4, hnn, aY, V.one, sl1, hap, sl2, hhp, w1, w2, sl3]
    refine Out.mono (ih t.tail (acc ++ [W]) _ ?_ ?_ ?_ ?_) ?_
    ·simp; omega
    ·simp; omega
    ·simp
    ·simp
    ·intro e env' s' h
     simpa using h
   ·rw [if_neg hcr]
    rw [show eG (c :: t) [13, 10] = false by rw [← Bool.not_eq_true, hbg]; exact hcr] at hhp
    have sl3 := slk 0 (by omega)
    simp only [Int.cast_ofNat_Int, Int.add_zero, List.drop_zero] at sl3
    simp [k0, k3, k4, hnn, aY, V.one, sl1, hap, sl2, hhp, w1, w2, sl3]
    refine Out.mono (ih t (acc ++ [W]) _ ?_ ?_ ?_ ?_) ?_
    ·omega
    ·simp; omega
    ·simp
    ·simp
    ·intro e env' s' h
     simpa using h
theorem yG (n : Nat) (l : List UInt8) : eH n l ≠ [] := by
 cases n with
 | zero => simp [eH]
 | succ n =>
  rw [eH]
  cases l.dropWhile bN <;> simp
theorem Kz (s : St) {acc : List (List UInt8)} (h : acc ≠ []) : fin false s (lnS s acc) (lnV s acc) = (lnV s acc, lnS s acc) := by
 have hv : lnV s acc = .msl (s.obs.length + (acc.length - 1)) 1 0 acc.length := by unfold lnV; rw [if_neg h]
 rw [hv]
 have hlt : ¬ s.obs.length + (acc.length - 1) < s.obs.length := by omega
 unfold fin
 simp [V.plain, V.und, hlt]
theorem CT (l : List UInt8) (hl : l.length ≤ 1000000000) (s : St) : call G 324 [.str l] s = some (lnV s (eC l), lnS s (eC l)) := by
 refine aC (F := af324) rfl rfl ?_
 simp [af324, af324b]
 have h0 : s = lnS s [] := rfl
 have := Fo s l.length l [] (upd (upd (cF [.str l]) 2 (.sl .nil [])) 3 (.sl .nil [])) (Nat.le_refl _) (by simpa using hl) rfl rfl
 rw [← h0] at this
 refine Out.mono this ?_
 rintro e env' s' ⟨rfl, h2, rfl⟩
 rw [List.nil_append] at h2 ⊢
 simp [h2]
 exact Kz s (yG _ _)
def kP (c : UInt8) : Bool := ([32, 9] : List UInt8).contains c
theorem JJ (l : List UInt8) (s : St) : call G 356 [.str l, .str [32, 9]] s = some (.str (l.dropWhile kP), s) := by
 rw [jE G 356 _ s rS rfl]
 rfl
def gV (l : List UInt8) : Nat := (l.takeWhile kP).length
def aV (l : List UInt8) : Bool := decide (l.dropWhile kP = [])
theorem rJ (l : List UInt8) : l.length = gV l + (l.dropWhile kP).length := by
 have := congrArg List.length (List.takeWhile_append_dropWhile (p := kP) (l := l))
 rw [List.length_append] at this
 exact this.symm
theorem sR (l : List UInt8) (hl : l.length ≤ 1000000000) (s : St) : call G 345 [.str l] s = some (.tup [.int .i64 (gV l : Int), .bool (!aV l)], s) := by
 have h := rJ l
 have hw : IntKind.i64.wrap ((l.length : Int) - ((l.dropWhile kP).length : Int)) = (gV l : Int) := by rw [aD (by omega) (by omega)]; omega
 refine aC (F := af345) rfl rfl ?_
 simp [af345, af345b, JJ, hw]
 rw [aS _ (v := .tup _) rfl]
 simp [aV]
theorem uV (l : List UInt8) (hl : l.length ≤ 1000000000) (s : St) : call G 327 [.str l] s = some (.bool (aV l), s) := by
 have h := sR l hl
 refine aC (F := af327) rfl rfl ?_
 simp [af327, af327b, h]
 rw [aS _ (v := .bool _) rfl]
 rfl
def mnO (a : Option Nat) (n : Nat) : Nat := match a with | none => n | some m => if n < m then n else m
def oE : Option Nat → List (List UInt8) → Option Nat
 | a, [] => a
 | a, l :: ls => oE (if aV l = true then a else some (mnO a (gV l))) ls
theorem mM (a : Option Nat) (l : List UInt8) (ls : List (List UInt8)) : oE a (l :: ls) = oE (if aV l = true then a else some (mnO a (gV l))) ls := rfl
def Ak (ls : List (List UInt8)) : Nat := (oE none (ls.drop 1)).getD 0
theorem Jb (ls : List (List UInt8)) (hls : ∀ l ∈ ls, l.length ≤ 1000000000) (hn : ls.length ≤ 1000000000) (id : Nat) (s : St) (hs : s.obs[id]? = some (.arr 9 (ls.map V.str))) :
  ∀ (m i : Nat) (a : Option Nat) (env : Env), ls.length - i = m → 1 ≤ i → i ≤ ls.length → env 3 = .int .i64 ((a.getD 0 : Nat) : Int) → env 4 = .bool a.isSome → env 9 = .msl id 1 0 ls.length → env 10 = .int .i64 ls.length → env 11 = .int .i64 i →
  Out (evC G (.loop false af326l0) env s) (fun e env' s' => e = .exit 0 ∧ s' = s ∧ env' 3 = .int .i64 (((oE a (ls.drop i)).getD 0 : Nat) : Int)) := by
 intro m
 induction m with
 | zero =>
  intro i a env hm h1 hi h3 h4 h9 h10 h11
  have : i = ls.length := by omega
  subst this
  refine aH G false _ _ af326l0.eq_1 _ _ _ ?_
  simp [h3, h10, h11, oE]
 | succ m ih =>
  intro i a env hm h1 hi h3 h4 h9 h10 h11
  have hlt : i < ls.length := by omega
  have hdr := List.drop_eq_getElem_cons hlt
  have hw : IntKind.i64.wrap ((i : Int) + 1) = ((i + 1 : Nat) : Int) := by rw [aD (by omega) (by omega)]; omega
  have hld := sR ls[i] (hls _ (List.getElem_mem hlt))
  have hi0 : ¬ i = 0 := by omega
  rw [hdr]
  have hhd : ((ls.map V.str).drop i).head? = some (.str ls[i]) := by rw [← List.map_drop, hdr]; rfl
  have hevl : ∀ s', s'.obs[id]? = some (.arr 9 (ls.map V.str)) → bR none (.ptr id i) s' = some (.str ls[i], s') := by
   intro s' hs'
   simp only [bR, hs', eR, hhd]
   rfl
  have hev := hevl s hs
  generalize ls[i] = l at *
  refine aH G false _ _ af326l0.eq_1 _ _ _ ?_
  by_cases hb : aV l = true
  ·have hin : oE a (l :: ls.drop (i + 1)) = oE a (ls.drop (i + 1)) := by rw [mM, if_pos hb]
   rw [hin]
   simp [h9, h10, h11, hlt, hi0, hev, hld, hb, hw, mnO, -bR]
   exact ih (i + 1) a _ (by omega) (by omega) (by omega) (by simp [h3]) (by simp [h4]) (by simp [h9]) (by simp [h10]) (by simp)
  ·have hb' : aV l = false := by simpa using hb
   have hin : oE a (l :: ls.drop (i + 1)) = oE (some (mnO a (gV l))) (ls.drop (i + 1)) := by rw [mM, if_neg hb]
   rw [hin]
   cases a with
   | none =>
    simp [h3, h4, h9, h10, h11, hlt, hi0, hev, hld, hb', hw, mnO, -bR]
    exact ih (i + 1) (some (gV l)) _ (by omega) (by omega) (by omega) (by simp) (by simp) (by simp [h9]) (by simp [h10]) (by simp)
   | some k =>
    by_cases hk : gV l < k
    ·simp [h3, h4, h9, h10, h11, hlt, hi0, hev, hld, hb', hw, hk, mnO, -bR]
     exact ih (i + 1) (some (gV l)) _ (by omega) (by omega) (by omega) (by simp) (by simp) (by simp [h9]) (by simp [h10]) (by simp)
    ·have hk' : k ≤ gV l := by omega
     simp [h3, h4, h9, h10, h11, hlt, hi0, hev, hld, hb', hw, hk, hk', mnO, -bR]
     exact ih (i + 1) (some k) _ (by omega) (by omega) (by omega) (by simp [h3]) (by simp) (by simp [h9]) (by simp [h10]) (by simp)
theorem Bp (ls : List (List UInt8)) (hne : ls ≠ []) (hls : ∀ l ∈ ls, l.length ≤ 1000000000) (hn : ls.length ≤ 1000000000) (id : Nat) (s : St) (hs : s.obs[id]? = some (.arr 9 (ls.map V.str))) :
  call G 326 [.msl id 1 0 ls.length] s = some (.int .i64 (Ak ls : Int), s) := by
 refine aC (F := af326) rfl rfl ?_
 obtain ⟨l, t, rfl⟩ := List.exists_cons_of_ne_nil hne
 have hev : bR none (.ptr id 0) s = some (.str l, s) := by simp only [bR, hs]; rfl
 have hld := sR l (hls _ (by simp))
 have hw : IntKind.i64.wrap 1 = 1 := by decide
 have hp : (0 : Int) < (t.length : Int) + 1 := by omega
 have hgo := Jb (l :: t) hls hn id s hs t.length 1 none
 simp [af326, af326b]
 refine aH G false _ _ af326l0.eq_1 _ _ _ ?_
 simp [hev, hld, hp, hw, mnO, -bR]
 refine Out.mono (hgo _ (by simp) (by omega) (by simp) (by simp) (by simp) (by simp) (by simp) (by simp)) ?_
 rintro e env' s' ⟨rfl, rfl, h3⟩
 simp [h3]
 rw [aS _ (v := .int _ _) rfl]
 rfl
end Go.Proofs.YtboejpobmpfifaaGreatDoor.Eng
namespace Go.Proofs.YtboejpobmpfifaaGreatDoor.Eng
open Go
def hid4 : List UInt8 := [92, 34, 34, 34]
def cH : Nat → List UInt8 → List UInt8
 | _, [] => []
 | k + 1, _ :: t => cH k t
 | 0, c :: t => if eG (c :: t) hid4 = true then q3 ++ cH 3 t else c :: cH 0 t
theorem uQ {l : List UInt8} (h : eG l hid4 = true) : ∃ r, l = 92 :: 34 :: 34 :: 34 :: r := by
 rw [iO] at h
 obtain ⟨r, hr⟩ := List.isPrefixOf_iff_prefix.1 h
 exact ⟨r, hr.symm⟩
theorem pA : ∀ (l : List UInt8), (Lib.index l hid4 = -1 ∧ cH 0 l = l) ∨
  ∃ (i : Nat) (r : List UInt8), Lib.index l hid4 = i ∧ l.drop i = 92 :: 34 :: 34 :: 34 :: r ∧ cH 0 l = l.take i ++ q3 ++ cH 0 r
 | [] => .inl ⟨rfl, rfl⟩
 | c :: t => by
  by_cases h : eG (c :: t) hid4 = true
  ·obtain ⟨r, hr⟩ := uQ h
   right
   refine ⟨0, r, ?_, hr, ?_⟩
   ·have : hid4.isPrefixOf (c :: t) = true := by rw [← iO]; exact h
    rw [Lib.index, if_pos this]; rfl
   ·rw [cH, if_pos h]
    simp only [List.cons.injEq] at hr
    obtain ⟨_, rfl⟩ := hr
    rfl
  ·have hn : ¬ hid4.isPrefixOf (c :: t) = true := by rw [← iO]; exact h
   have hs : cH 0 (c :: t) = c :: cH 0 t := by rw [cH, if_neg h]
   have hidx : Lib.index (c :: t) hid4 = if Lib.index t hid4 == -1 then -1 else Lib.index t hid4 + 1 := by rw [Lib.index, if_neg hn]
   rcases pA t with ⟨h1, h2⟩ | ⟨i, r, h1, h4, h5⟩
   ·left
    rw [hidx, h1, hs, h2]
    exact ⟨rfl, rfl⟩
   ·right
    have hne : ¬ (((i : Nat) : Int) == -1) = true := by rw [beq_iff_eq]; omega
    refine ⟨i + 1, r, ?_, by simpa using h4, ?_⟩
    ·rw [hidx, h1, if_neg hne]; omega
    ·rw [hs, h5]; simp
theorem Jx : ∀ (k : Nat) (l : List UInt8), Lib.count l hid4 = k → Lib.replaceK hid4 q3 k l = cH 0 l := by
 intro k
 induction k with
 | zero =>
  intro l h
  rcases pA l with ⟨h1, h2⟩ | ⟨i, r, h1, h4, h5⟩
  ·rw [Lib.replaceK, h2]
  ·rw [Lib.count_hit (by simp [hid4]) h1] at h
   omega
 | succ k ih =>
  intro l h
  rcases pA l with ⟨h1, h2⟩ | ⟨i, r, h1, h4, h5⟩
  ·rw [Lib.count_miss h1] at h
   omega
  ·have hd : l.drop (i + hid4.length) = r := by rw [← List.drop_drop, h4]; rfl
   rw [Lib.count_hit (by simp [hid4]) h1, hd] at h
   rw [Lib.replaceK_hit _ _ _ _ _ h1, hd, ih r (by omega), h5]
theorem FI (l : List UInt8) : Lib.replaceAll l hid4 q3 = cH 0 l := by
 unfold Lib.replaceAll Lib.replace
 rw [if_neg (by decide), Lib.replaceNum, if_pos (.inl (by decide))]
 exact Jx _ l rfl
theorem mX : ∀ (l : List UInt8) (k : Nat), (cH k l).length ≤ l.length
 | [], _ => by simp [cH]
 | c :: t, k + 1 => by
  have := mX t k
  simp only [cH, List.length_cons]
  omega
 | c :: t, 0 => by
  rw [cH]
  split
  ·rename_i h
   obtain ⟨r, hr⟩ := uQ h
   simp only [List.cons.injEq] at hr
   obtain ⟨_, rfl⟩ := hr
   have e : cH 3 (34 :: 34 :: 34 :: r) = cH 0 r := rfl
   have := mX r 0
   rw [e]
   simp [q3]
   omega
  ·have := mX t 0
   simp
   omega
def tot (ls : List (List UInt8)) : Nat := (ls.map fun l => l.length + 1).sum
theorem iB (l : List UInt8) (ls : List (List UInt8)) : tot (l :: ls) = l.length + 1 + tot ls := by simp [tot]
theorem wV (a b : List (List UInt8)) : tot (a ++ b) = tot a + tot b := by simp [tot]
theorem qU : ∀ (n : Nat) (l : List UInt8), tot (eH n l) ≤ l.length + 1
 | 0, l => by simp [eH, tot]
 | n + 1, l => by
  rw [eH]
  cases hD : l.dropWhile bN with
  | nil => simp [tot]
  | cons c t =>
   have hsp : l = l.takeWhile bN ++ c :: t := by rw [← hD]; exact (List.takeWhile_append_dropWhile).symm
   have hlen := congrArg List.length hsp
   simp only [List.length_append, List.length_cons] at hlen
   simp only [iB]
   have := qU n (if c = 13 ∧ hd0 t = 10 then t.drop 1 else t)
   have h2 : (if c = 13 ∧ hd0 t = 10 then t.drop 1 else t).length ≤ t.length := by split <;> simp
   omega
theorem uG (ls : List (List UInt8)) : ls.length ≤ tot ls := by
 induction ls with
 | nil => simp
 | cons l ls ih => rw [iB, List.length_cons]; omega
theorem AG {ls : List (List UInt8)} {l : List UInt8} (h : l ∈ ls) : l.length ≤ tot ls := by
 induction ls with
 | nil => cases h
 | cons x ls ih =>
  rw [iB]
  rcases List.mem_cons.1 h with rfl | h
  ·omega
  ·have := ih h; omega
theorem Cm (ls : List (List UInt8)) (x : UInt8) : (Lib.join ls [x]).length ≤ tot ls := by
 cases ls with
 | nil => simp [Lib.join, tot]
 | cons l ls =>
  rw [Lib.join_cons, List.length_append, iB]
  have : (Lib.joinTail [x] ls).length ≤ tot ls := by
   induction ls with
   | nil => simp [Lib.joinTail]
   | cons y ls ih =>
    have e : Lib.joinTail [x] (y :: ls) = ([x] ++ y) ++ Lib.joinTail [x] ls := by simp [Lib.joinTail]
    rw [e, iB, List.length_append]
    simp
    omega
  omega
def bT (n : Nat) : List (List UInt8) → List (List UInt8)
 | [] => []
 | l :: ls => l :: ls.map (List.drop n)
def dW : List (List UInt8) → List (List UInt8)
 | [] => []
 | l :: ls => if aV l = true then dW ls else l :: ls
def fQ (ls : List (List UInt8)) : List (List UInt8) := (dW ls.reverse).reverse
def nE (raw : List UInt8) : List UInt8 :=
 let ls := eC (cH 0 raw)
 Lib.join (fQ (dW (bT (Ak ls) ls))) [10]
theorem EI (n : Nat) (ls : List (List UInt8)) : tot (bT n ls) ≤ tot ls := by
 cases ls with
 | nil => simp [bT]
 | cons l ls =>
  rw [bT, iB, iB]
  have : tot (ls.map (List.drop n)) ≤ tot ls := by
   induction ls with
   | nil => simp
   | cons x ls ih => rw [List.map_cons, iB, iB, List.length_drop]; omega
  omega
theorem qV : ∀ ls : List (List UInt8), tot (dW ls) ≤ tot ls
 | [] => Nat.le_refl _
 | l :: ls => by
  rw [dW]
  have := qV ls
  split
  ·rw [iB]; omega
  ·exact Nat.le_refl _
theorem JI (ls : List (List UInt8)) : tot ls.reverse = tot ls := by
 unfold tot
 rw [List.map_reverse, List.sum_reverse]
theorem DS (ls : List (List UInt8)) : tot (fQ ls) ≤ tot ls := by
 unfold fQ
 have := qV ls.reverse
 rw [JI] at this ⊢
 exact this
theorem Cf (ls : List (List UInt8)) (l : List UInt8) : fQ (ls ++ [l]) = if aV l = true then fQ ls else ls ++ [l] := by
 unfold fQ
 rw [List.reverse_append, List.reverse_singleton, List.singleton_append, dW]
 split
 ·rfl
 ·simp
theorem xQ (n : Nat) {X : List (List UInt8)} (h : X ≠ []) (l : List UInt8) : bT n (X ++ [l]) = bT n X ++ [l.drop n] := by
 cases X with
 | nil => exact absurd rfl h
 | cons x X => simp [bT]
theorem jW (n : Nat) (ls : List (List UInt8)) : (bT n ls).length = ls.length := by cases ls <;> simp [bT]
end Go.Proofs.YtboejpobmpfifaaGreatDoor.Eng
namespace Go.Proofs.YtboejpobmpfifaaGreatDoor.Eng
open Go
attribute [local simp] gS gR eT eN dR eV cY cW eU dQ dP eF eS dL cC dU cZ cN dM cA bX cV bW
attribute [local simp] hZ aZ put dB X.ev cF cO cP cS bU dO cR bV dN cQ eR gH kV bM fL gT fE gB V.plain aW V.und bY scK kill aF bQ aG dT dS cT mB bR fU V.real bH bK cU
def arS (S : St) (id : Nat) (ls : List (List UInt8)) : St := ⟨S.obs.set id (.arr 9 (ls.map V.str)), S.bufs⟩
theorem uN {S : St} {id : Nat} (hid : id < S.obs.length) (ls : List (List UInt8)) : (arS S id ls).obs[id]? = some (.arr 9 (ls.map V.str)) := by simp [arS, hid]
theorem zK {S : St} {id : Nat} (hid : id < S.obs.length) {ls : List (List UInt8)} {i : Nat} {l : List UInt8} (h : ls[i]? = some l) : bR none (.ptr id i) (arS S id ls) = some (.str l, arS S id ls) := by
 have hd : ((ls.map V.str).drop i).head? = some (.str l) := by
  rw [List.head?_drop, List.getElem?_map, h]; rfl
 simp only [bR, uN hid, eR, hd]
 rfl
theorem Gs {S : St} {id : Nat} (hid : id < S.obs.length) {ls : List (List UInt8)} {i : Nat} (hi : i < ls.length) (l : List UInt8) : aB 1 (.ptr id i) (.str l) (arS S id ls) = some (.tup [], arS S id (ls.set i l)) := by
 have hc : V.cells (.str l) = [.str l] := rfl
 simp only [aB, uN hid, hc, aK]
 rw [if_pos ⟨rfl, by simp; omega, rfl⟩]
 simp [arS, List.map_set]
theorem IO {S : St} {id : Nat} (hid : id < S.obs.length) (ls : List (List UInt8)) (n : Nat) (hn : n ≤ 1000000000) (hls : ∀ l ∈ ls, l.length ≤ 1000000000) (hl : ls.length ≤ 1000000000) :
  ∀ (todo X : List (List UInt8)) (env : Env), X ++ todo = ls → env 3 = .msl id 1 0 ls.length → env 4 = .int .i64 n → env 12 = .int .i64 ls.length → env 13 = .int .i64 X.length →
  Out (evC G (.loop false af304l0) env (arS S id (bT n X ++ todo))) (fun e env' s' => e = .exit 0 ∧ s' = arS S id (bT n ls) ∧ env' 3 = .msl id 1 0 ls.length) := by
 intro todo
 induction todo with
 | nil =>
  intro X env hX h3 h4 h12 h13
  rw [List.append_nil] at hX
  subst hX
  refine aH G false _ _ af304l0.eq_1 _ _ _ ?_
  simp [h3, h12, h13]
 | cons l t ih =>
  intro X env hX h3 h4 h12 h13
  have hlen : ls.length = X.length + (t.length + 1) := by rw [← hX]; simp
  have hlt : X.length < ls.length := by omega
  have hw : IntKind.i64.wrap ((X.length : Int) + 1) = ((X.length + 1 : Nat) : Int) := by rw [aD (by omega) (by omega)]; omega
  have hll := hls l (by rw [← hX]; simp)
  have hget : (bT n X ++ l :: t)[X.length]? = some l := by
   rw [List.getElem?_append_right (by rw [jW]; omega), jW, Nat.sub_self]; rfl
  have hcl : X.length < (bT n X ++ l :: t).length := by rw [List.length_append, jW]; simp
  have hnx : X ++ [l] ++ t = ls := by rw [← hX]; simp
  have hgo := ih (X ++ [l])
  refine aH G false _ _ af304l0.eq_1 _ _ _ ?_
  by_cases hX0 : X = []
  ·subst hX0
   have hc0 : bT n ([] ++ [l]) ++ t = l :: t := rfl
   have hc1 : bT n [] ++ l :: t = l :: t := rfl
   simp only [List.length_nil] at h13 hlt hw
   rw [hc0] at hgo
   rw [hc1]
   have hpos : 0 < ls.length := by omega
   have hpos' : (0 : Int) < (ls.length : Int) := by omega
   have hw1 : IntKind.i64.wrap 1 = 1 := by decide
   simp [h12, h13, hpos, hpos', hw1]
   refine hgo _ (by simpa using hnx) (by simp [h3]) (by simp [h4]) (by simp [h12]) (by simp)
  ·have hXp := List.length_pos_iff.2 hX0
   have hXi : (0 : Int) < (X.length : Int) := by omega
   have hcs : (bT n X ++ l :: t).set X.length (l.drop n) = bT n (X ++ [l]) ++ t := by
    rw [xQ n hX0, List.set_append_right _ _ (by rw [jW]; omega), jW, Nat.sub_self]
    simp
   have hld := zK hid hget
   have hst := Gs hid hcl (l.drop n)
   rw [hcs] at hst
   have hsl : ∀ m : Nat, (l.length < n → m = l.length) → (n ≤ l.length → m = n) → bD (.str l) (some (.int .i64 (m : Int))) none = some (.str (l.drop n)) := by
    intro m h1 h2
    have hm : m ≤ l.length := by
     rcases Nat.lt_or_ge l.length n with h | h
     ·rw [h1 h]; omega
     ·rw [h2 h]; exact h
    have e : l.drop m = l.drop n := by
     rcases Nat.lt_or_ge l.length n with h | h
     ·rw [h1 h, List.drop_length, List.drop_eq_nil_of_le (by omega)]
     ·rw [h2 h]
    simp only [bD, bnd]
    rw [if_pos (by omega)]
    simp only [Int.toNat_natCast]
    rw [if_pos (by omega), List.take_length, e]
   by_cases hln : l.length < n
   ·have h1 := hsl l.length (fun _ => rfl) (fun h => by omega)
    simp [h3, h4, h12, h13, hlt, hXp, hXi, hld, hln, kK, h1, hst, hw, -bR]
    exact hgo _ hnx (by simp [h3]) (by simp [h4]) (by simp [h12]) (by simp)
   ·have h1 := hsl n (fun h => absurd h hln) (fun _ => rfl)
    have hln' : n ≤ l.length := by omega
    simp [h3, h4, h12, h13, hlt, hXp, hXi, hld, hln, hln', kK, h1, hst, hw, -bR]
    exact hgo _ hnx (by simp [h3]) (by simp [h4]) (by simp [h12]) (by simp)
def LV (id off : Nat) (W : List (List UInt8)) (v : V) : Prop := (W = [] ∧ v = .sl .no []) ∨ v = .msl id 1 off W.length
theorem EE {S : St} {id : Nat} (hid : id < S.obs.length) {ls : List (List UInt8)} {off len : Nat} (h : off + len ≤ ls.length) :
  (1 ≤ len → oL 1 (.msl id 1 off len) (some (.int .i64 1)) none (arS S id ls) = some (if len = 1 then .sl .no [] else .msl id 1 (off + 1) (len - 1))) ∧
  (1 ≤ len → oL 1 (.msl id 1 off len) none (some (.int .i64 ((len - 1 : Nat) : Int))) (arS S id ls) = some (.msl id 1 off (len - 1))) := by
 constructor
 ·intro h1
  simp only [oL, bnd, uN hid]
  rw [if_pos (by omega)]
  simp only [show ((1 : Int).toNat) = 1 from rfl]
  rw [if_pos ⟨trivial, by omega, h1, by simp; omega⟩, Nat.mul_one]
  by_cases h2 : len = 1
  ·subst h2; simp
  ·rw [if_neg (by omega), if_neg h2]
 ·intro h1
  simp only [oL, bnd, uN hid]
  rw [if_pos (by omega)]
  simp only [Int.toNat_natCast]
  rw [if_pos ⟨trivial, by omega, by omega, by simp; omega⟩, if_neg (by omega)]
  simp
theorem DN {S : St} {id : Nat} (hid : id < S.obs.length) (ls : List (List UInt8)) (hls : ∀ l ∈ ls, l.length ≤ 1000000000) (hl : ls.length ≤ 1000000000) :
  ∀ (W : List (List UInt8)) (off : Nat) (env : Env), ls.drop off = W → off ≤ ls.length → LV id off W (env 3) →
  Out (evC G (.loop false af304l1) env (arS S id ls)) (fun e env' s' => e = .exit 2 ∧ s' = arS S id ls ∧ ∃ off', off' ≤ ls.length ∧ ls.drop off' = dW W ∧ LV id off' (dW W) (env' 3)) := by
 intro W
 induction W with
 | nil =>
  intro off env hW ho h3
  refine aH G false _ _ af304l1.eq_1 _ _ _ ?_
  rcases h3 with ⟨_, h3⟩ | h3
  ·simp [h3]
   exact ⟨off, ho, hW, .inl ⟨rfl, rfl⟩⟩
  ·simp only [List.length_nil] at h3
   simp [h3]
   exact ⟨off, ho, hW, .inr rfl⟩
 | cons l W ih =>
  intro off env hW ho h3
  have h3' : env 3 = .msl id 1 off (W.length + 1) := by
   rcases h3 with ⟨h, _⟩ | h3
   ·cases h
   ·exact h3
  have hoff : off + (W.length + 1) = ls.length := by
   have := congrArg List.length hW
   rw [List.length_drop, List.length_cons] at this
   omega
  have hget : ls[off]? = some l := by
   have := congrArg (·[0]?) hW
   simpa using this
  have hmem : l ∈ ls := List.mem_of_getElem? hget
  have hld := zK hid hget
  have hem := uV l (hls l hmem)
  have hd1 : ls.drop (off + 1) = W := by rw [← List.drop_drop, hW]; rfl
  have hsl := (EE hid (ls := ls) (off := off) (len := W.length + 1) (by omega)).1 (by omega)
  have hpos : (0 : Int) < (W.length : Int) + 1 := by omega
  refine aH G false _ _ af304l1.eq_1 _ _ _ ?_
  by_cases hb : aV l = true
  ·have hs : dW (l :: W) = dW W := by rw [dW, if_pos hb]
   rw [hs]
   rw [hb] at hem
   simp [h3', hpos, hld, hem, hsl, -bR]
   refine ih (off + 1) _ hd1 (by omega) ?_
   by_cases hW0 : W = []
   ·exact .inl ⟨hW0, by simp [hW0]⟩
   ·right
    simp [hW0]
  ·have hs : dW (l :: W) = l :: W := by rw [dW, if_neg hb]
   rw [hs]
   rw [show aV l = false by simpa using hb] at hem
   simp [h3', hpos, hld, hem, -bR]
   exact ⟨off, by omega, hW, .inr rfl⟩
theorem DM {S : St} {id : Nat} (hid : id < S.obs.length) (ls : List (List UInt8)) (hls : ∀ l ∈ ls, l.length ≤ 1000000000) (hl : ls.length ≤ 1000000000) (off : Nat) (ho : off ≤ ls.length) :
  ∀ (n : Nat) (W : List (List UInt8)) (env : Env), W.length = n → (ls.drop off).take W.length = W → off + W.length ≤ ls.length → LV id off W (env 3) →
  Out (evC G (.loop false af304l2) env (arS S id ls)) (fun e env' s' => e = .exit 4 ∧ s' = arS S id ls ∧ (ls.drop off).take (fQ W).length = fQ W ∧ off + (fQ W).length ≤ ls.length ∧ LV id off (fQ W) (env' 3)) := by
 intro n
 induction n with
 | zero =>
  intro W env hn hW hoff h3
  have : W = [] := List.eq_nil_of_length_eq_zero hn
  subst this
  have hs : fQ [] = [] := rfl
  rw [hs]
  refine aH G false _ _ af304l2.eq_1 _ _ _ ?_
  rcases h3 with ⟨_, h3⟩ | h3
  ·simp [h3]
   exact ⟨ho, .inl ⟨rfl, rfl⟩⟩
  ·simp only [List.length_nil] at h3
   simp [h3]
   exact ⟨ho, .inr rfl⟩
 | succ n ih =>
  intro W env hn hW hoff h3
  have hne : W ≠ [] := by intro h; subst h; cases hn
  obtain ⟨X, l, rfl⟩ : ∃ X l, W = X ++ [l] := ⟨W.dropLast, W.getLast hne, (List.dropLast_concat_getLast hne).symm⟩
  have hXl : (X ++ [l]).length = X.length + 1 := by simp
  rw [hXl] at hW hoff hn
  have h3' : env 3 = .msl id 1 off (X.length + 1) := by
   rcases h3 with ⟨h, _⟩ | h3
   ·simp at h
   ·rw [hXl] at h3; exact h3
  have hget : ls[off + X.length]? = some l := by
   have := congrArg (fun z : List (List UInt8) => z[X.length]?) hW
   rw [List.getElem?_take, if_pos (by omega), List.getElem?_drop] at this
   rw [this]
   simp
  have hWX : (ls.drop off).take X.length = X := by
   have := congrArg (List.take X.length) hW
   rw [List.take_take, Nat.min_eq_left (by omega), List.take_left] at this
   exact this
  have hmem : l ∈ ls := List.mem_of_getElem? hget
  have hld := zK hid hget
  have hem := uV l (hls l hmem)
  have hsl := (EE hid (ls := ls) (off := off) (len := X.length + 1) (by omega)).2 (by omega)
  rw [Nat.add_sub_cancel] at hsl
  have hpos : (0 : Int) < (X.length : Int) + 1 := by omega
  have hw : IntKind.i64.wrap (X.length : Int) = (X.length : Int) := aD (by omega) (by omega)
  have hw2 : IntKind.i64.wrap ((X.length : Int) + 1 - 1) = (X.length : Int) := by rw [aD (by omega) (by omega)]; omega
  have hlt : (X.length : Int) < (X.length : Int) + 1 := by omega
  refine aH G false _ _ af304l2.eq_1 _ _ _ ?_
  rw [Cf]
  by_cases hb : aV l = true
  ·rw [if_pos hb]
   rw [hb] at hem
   simp [h3', hpos, hw, hw2, hlt, hld, hem, hsl, -bR]
   exact ih X _ (by omega) hWX (by omega) (.inr (by simp))
  ·rw [if_neg hb]
   rw [show aV l = false by simpa using hb] at hem
   simp [h3', hpos, hw, hw2, hlt, hld, hem, -bR]
   exact ⟨hW, hoff, .inr (by rw [hXl])⟩
theorem Je {S : St} {id : Nat} (hid : id < S.obs.length) (ls W : List (List UInt8)) (off : Nat) (v : V) (h : LV id off W v) (hW : (ls.drop off).take W.length = W) (h1 : W.length ≤ 1000000000) (h2 : (Lib.join W [10]).length ≤ 140737488355328) :
  call G 79 [v, .str [10]] (arS S id ls) = some (.str (Lib.join W [10]), arS S id ls) := by
 rw [jE G 79 _ _ mU rfl]
 have hso : ∀ X : List (List UInt8), mF (X.map V.str) = some X := by
  intro X
  induction X with
  | nil => rfl
  | cons x X ih => simp [mF, ih]
 rcases h with ⟨rfl, rfl⟩ | rfl
 ·simp only [mU, mF, Option.bind_some]
  rw [if_pos ⟨h1, h2⟩]
 ·have hm : ((ls.map V.str).drop off).take W.length = W.map V.str := by rw [← List.map_drop, ← List.map_take, hW]
  simp only [mU, uN hid, hm, hso, Option.bind_some]
  rw [if_pos ⟨trivial, h1, h2⟩]
theorem Aj (N : Nat) : ∀ (ls : List (List UInt8)) (a : Option Nat), (∀ l ∈ ls, l.length ≤ N) → a.getD 0 ≤ N → (oE a ls).getD 0 ≤ N
 | [], a, _, ha => ha
 | l :: ls, a, hl, ha => by
  rw [mM]
  refine Aj N ls _ (fun x hx => hl x (by simp [hx])) ?_
  split
  ·exact ha
  ·have h1 := rJ l
   have h2 := hl l (by simp)
   cases a with
   | none => simp [mnO]; omega
   | some m =>
    simp only [mnO, Option.getD_some] at ha ⊢
    split <;> omega
theorem AV (raw : List UInt8) (hr : raw.length ≤ 100000000) (s : St) : call G 304 [.str raw] s = some (.str (nE raw), s) := by
 have hrep : ∀ s, call G 325 [.str raw, .str [92, 34, 34, 34], .str [34, 34, 34]] s = some (.str (cH 0 raw), s) := by
  intro s
  rw [jE G 325 _ s rR rfl]
  simp only [rR]
  rw [if_pos ⟨by omega, by simp, by simp⟩]
  have := FI raw
  unfold hid4 q3 at this
  rw [this]
 have hrl := mX raw 0
 have hlines := CT (cH 0 raw) (by omega) s
 have hne : eC (cH 0 raw) ≠ [] := yG _ _
 have htot : tot (eC (cH 0 raw)) ≤ 100000001 := by
  have := qU (cH 0 raw).length (cH 0 raw)
  unfold eC
  omega
 have hbv : nE raw = Lib.join (fQ (dW (bT (Ak (eC (cH 0 raw))) (eC (cH 0 raw))))) [10] := rfl
 rw [hbv]
 generalize eC (cH 0 raw) = ls at *
 have hlen := uG ls
 have hls : ∀ l ∈ ls, l.length ≤ 1000000000 := fun l h => by have := AG h; omega
 have hg := Hn s hne
 have hpos := List.length_pos_iff.2 hne
 have hind := Bp ls hne hls (by omega) _ (lnS s ls) hg
 have hv : lnV s ls = .msl (s.obs.length + (ls.length - 1)) 1 0 ls.length := by unfold lnV; rw [if_neg hne]
 rw [hv] at hlines
 have hidl := bB hg
 have hS : lnS s ls = arS (lnS s ls) (s.obs.length + (ls.length - 1)) ls := by
  unfold arS
  have : (lnS s ls).obs.set (s.obs.length + (ls.length - 1)) (.arr 9 (ls.map V.str)) = (lnS s ls).obs := by
   apply List.ext_getElem?
   intro j
   by_cases hj : s.obs.length + (ls.length - 1) = j
   ·subst hj; rw [List.getElem?_set_self hidl, hg]
   ·rw [List.getElem?_set_ne hj]
  rw [this]
 have hidge : s.obs.length ≤ s.obs.length + (ls.length - 1) := by omega
 have htk : ∀ X, (arS (lnS s ls) (s.obs.length + (ls.length - 1)) X).obs.take s.obs.length = s.obs := by
  intro X
  unfold arS
  simp only
  rw [List.take_set_of_le hidge]
  unfold lnS
  rw [if_neg hne]
  simp only
  rw [List.take_left]
 have hbf : ∀ X, (arS (lnS s ls) (s.obs.length + (ls.length - 1)) X).bufs.take s.bufs.length = s.bufs := by
  intro X
  unfold arS lnS
  rw [if_neg hne]
  simp
 generalize s.obs.length + (ls.length - 1) = id at *
 generalize hn : Ak ls = n at *
 have hcut := IO hidl ls
 have hcl := jW n ls
 have htc := EI n ls
 have hlsc : ∀ l ∈ bT n ls, l.length ≤ 1000000000 := fun l h => by have := AG h; omega
 have hnl : n ≤ 1000000000 := by
  rw [← hn]
  exact Aj 1000000000 (ls.drop 1) none (fun l h => hls l (List.mem_of_mem_drop h)) (by simp)
 refine aC (F := af304) rfl rfl ?_
 simp [af304, af304b, hrep, hlines, hind]
 rw [hS]
 have e0 : bT n [] ++ ls = ls := rfl
 have h1 := hcut n hnl hls (by omega) ls []
 rw [e0] at h1
 refine Out.mono (h1 _ rfl (by simp) (by simp) (by simp) (by simp)) ?_
 rintro ex env1 s1 ⟨rfl, rfl, k3⟩
 simp
 refine Out.mono (DN hidl (bT n ls) hlsc (by omega) (bT n ls) 0 _ rfl (by omega) (.inr (by rw [k3, hcl]))) ?_
 rintro ex env2 s2 ⟨rfl, rfl, off, ho, hd, hlv⟩
 simp
 have hsl : (dW (bT n ls)).length = (bT n ls).length - off := by rw [← hd, List.length_drop]
 refine Out.mono (DM hidl (bT n ls) hlsc (by omega) off ho _ (dW (bT n ls)) _ rfl (by rw [hd, List.take_length]) (by omega) hlv) ?_
 rintro ex env3 s3 ⟨rfl, rfl, ht, hoff, hlv2⟩
 have t1 := qV (bT n ls)
 have t2 := DS (dW (bT n ls))
 have t3 := uG (fQ (dW (bT n ls)))
 have t4 := Cm (fQ (dW (bT n ls))) 10
 have hj := Je hidl (bT n ls) (fQ (dW (bT n ls))) off _ hlv2 ht (by omega) (by omega)
 have hpl : (env3 3).plain = env3 3 := by
  rcases hlv2 with ⟨_, h⟩ | h <;> rw [h] <;> rfl
 simp [hpl, hj]
 rw [CK (htk _) (hbf _) (v := .str _) rfl]
 rfl
theorem IF {G : Gp} {A : Option (Qg × Env × St)} {b : Qq} {Q0 : Qg → Env → St → Prop} (Q1 : Qg → Env → St → Prop) (h1 : Out A (BV G b Q1)) (h2 : ∀ e env s, Q1 e env s → Q0 e env s) : Out A (BV G b Q0) :=
 Out.mono h1 (fun e env s h => FV h2 e env s h)
def tdg (l : List UInt8) : List UInt8 := if hd0 (eX l) = 48 then [48] else (eX l).takeWhile cB
def trs (l : List UInt8) : List UInt8 := if hd0 (eX l) = 48 then (eX l).drop 1 else (eX l).dropWhile cB
def ttx (l : List UInt8) : List UInt8 := if iS l = true then 45 :: tdg l else tdg l
def sA (l : List UInt8) : Prop := tdg l = [] ∨ (iS l = true ∧ tdg l = [48]) ∨ 9007199254740991 < kJ (tdg l)
instance (l : List UInt8) : Decidable (sA l) := by unfold sA; infer_instance
def jL : List UInt8 → Bool
 | [] => false
 | c :: _ => dG c || decide (c = 46)
def iL (l : List UInt8) : PR (Int × List UInt8) :=
 if sA l then .err l 3 else if jL (trs l) = true then .err (trs l) 3 else .ok (3, ttx l) (trs l)
theorem sD (l : List UInt8) : eX l = tdg l ++ trs l := by
 unfold tdg trs
 split
 ·rename_i h
  cases hn : eX l with
  | nil => rw [hn] at h; cases h
  | cons c t => rw [hn] at h; rw [show c = 48 from h]; rfl
 ·exact (List.takeWhile_append_dropWhile).symm
theorem uF (l : List UInt8) : ∀ x ∈ tdg l, cB x = true := by
 unfold tdg
 split
 ·intro x hx
  simp at hx
  subst hx
  decide
 ·exact xJ _
theorem AH (l : List UInt8) : trs l <:+ eX l := by
 rw [sD]
 exact List.suffix_append _ _
theorem DV (l : List UInt8) (hne : l ≠ []) : l = ttx l ++ trs l := by
 have h := sD l
 cases l with
 | nil => exact absurd rfl hne
 | cons c t =>
  unfold ttx
  by_cases h45 : c = 45
  ·have hn : iS (c :: t) = true := by simp [iS, hd0, h45]
   have hT : eX (c :: t) = t := by simp [eX, h45]
   rw [if_pos hn, List.cons_append, ← h, hT, h45]
  ·have hn : ¬ iS (c :: t) = true := by simp [iS, hd0, h45]
   have hT : eX (c :: t) = c :: t := by simp [eX, h45]
   rw [if_neg hn, ← h, hT]
def jC (s : St) (b l : List UInt8) (toks : List Tok) (p : PR (Int × List UInt8)) (S' : St) : Prop :=
 match p with
 | .ok kt l' => S' = LS s b l' (toks ++ [⟨kt.1, kt.2, ((b.length - l.length : Nat) : Int)⟩]) 0 0
 | .err l' e => ∃ l2 toks2, l2 <:+ b ∧ S' = LS s b l2 toks2 e ((b.length - l'.length : Nat) : Int)
theorem Hs {b l : List UInt8} (hb : b.length ≤ 1000000000) (hl : l <:+ b) (hne : l ≠ []) (s : St) (toks : List Tok) (hn : toks.length ≤ 1000000000) :
  ∃ S', call G 265 [.ptr s.obs.length 0] (LS s b l toks 0 0) = some (.tup [], S') ∧ jC s b l toks (iL l) S' := by
 have key : ∃ q, call G 265 [.ptr s.obs.length 0] (LS s b l toks 0 0) = some q ∧ (fun v S' => v = V.tup [] ∧ jC s b l toks (iL l) S') q.1 q.2 := by
  refine kM (G := G) (f := 265) (F := af265) (T := fun v S' => v = V.tup [] ∧ jC s b l toks (iL l) S') rfl rfl ?_
  have hlen := aO hl
  have hT := (vV l).trans hl
  have hTl := aO hT
  have hR := (AH l).trans hT
  have hRl := aO hR
  have hTe := sD l
  have hg := iM (s := s) (b := b) (l := l) (toks := toks) (e := 0) (fa := 0)
  have hwh := qW hb hT (k := 264) (p := cB) lZ (r := s.obs.length) (s := LS s b l toks 0 0) hg
  simp only [lxO] at hg
  have hl0 := List.length_pos_iff.2 hne
  have hi : b[((b.length - l.length : Nat) : Int).toNat]? = some (hd0 l) := by
   obtain ⟨c, t, rfl⟩ := List.exists_cons_of_ne_nil hne
   exact eM hl
  have hlt : b.length - l.length < b.length := by omega
  have e45 : (((hd0 l).toNat : Int) = 45) ↔ hd0 l = 45 := gL _ 45 (by decide)
  have hnum : (eX l).length = if hd0 l = 45 then l.length - 1 else l.length := by
   obtain ⟨c, t, rfl⟩ := List.exists_cons_of_ne_nil hne
   by_cases h45 : c = 45 <;> simp [eX, hd0, h45]
  simp [af265, af265b]
  simp [hg, hlt, ↓hi, e45]
  refine Out.mono (Q := fun ex env' s' => ex = .norm ∧ s' = LS s b l toks 0 0 ∧ env' 0 = .ptr s.obs.length 0 ∧ env' 2 = .int .i64 ((b.length - (eX l).length : Nat) : Int)) ?_ ?_
  ·by_cases h45 : hd0 l = 45
   ·have hw : IntKind.i64.wrap (((b.length - l.length : Nat) : Int) + 1) = ((b.length - (eX l).length : Nat) : Int) := by rw [hnum, if_pos h45, aD (by omega) (by omega)]; omega
    have h45t : (hd0 l = 45) = True := eq_true h45
    simp [h45t, hw]
   ·have h45t : (hd0 l = 45) = False := eq_false h45
    simp [h45t, hnum]
  rintro ex env s1 ⟨rfl, rfl, k0, k2⟩
  simp [k0, k2, hg, hwh]
  refine IF (fun ex env' s' => ex = .norm ∧ s' = LS s b l toks 0 0 ∧ env' 0 = .ptr s.obs.length 0 ∧ env' 2 = .int .i64 ((b.length - (eX l).length : Nat) : Int) ∧ env' 3 = .int .i64 ((b.length - (trs l).length : Nat) : Int)) ?_ ?_
  ·have htr : trs l = if hd0 (eX l) = 48 then (eX l).drop 1 else (eX l).dropWhile cB := rfl
   rw [htr]
   generalize eX l = u at *
   cases u with
   | nil =>
    have h48 : ¬ hd0 [] = 48 := by decide
    rw [if_neg h48]
    simp [k0, k2, hg]
   | cons c t =>
    simp only [List.length_cons] at hTl k2
    have hgi := eM hT
    have hgi2 := hgi
    rw [Int.toNat_natCast] at hgi2
    have hgi3 : b[b.length - (c :: t).length]? = some c := hgi2
    have hlt2 : b.length - (t.length + 1) < b.length := by omega
    have e48 : ((c.toNat : Int) = 48) ↔ c = 48 := gL c 48 (by decide)
    have hh : hd0 (c :: t) = c := rfl
    rw [hh]
    by_cases h48 : c = 48
    ·have hw : IntKind.i64.wrap (((b.length - (t.length + 1) : Nat) : Int) + 1) = ((b.length - t.length : Nat) : Int) := by rw [aD (by omega) (by omega)]; omega
     have h48t : (c = 48) = True := eq_true h48
     rw [if_pos h48]
     simp [k0, k2, hg, hlt2, ↓hgi, ↓hgi2, ↓hgi3, e48, h48t, hw]
    ·have h48t : (c = 48) = False := eq_false h48
     rw [if_neg h48]
     simp [k0, k2, hg, hlt2, ↓hgi, ↓hgi2, ↓hgi3, e48, h48t]
  clear k0 k2
  rintro ex env1 s1 ⟨rfl, rfl, k0, k2, k3⟩
  have hltx := DV l hne
  have hlx := congrArg List.length hltx
  rw [List.length_append] at hlx
  have hsl : bD (.str b) (some (.int .i64 ((b.length - l.length : Nat) : Int))) (some (.int .i64 ((b.length - (trs l).length : Nat) : Int))) = some (.str (ttx l)) := by
   have e : (b.take (b.length - (trs l).length)).drop (b.length - l.length) = ttx l := by
    have h := dE hl
    rw [List.drop_take, h, show b.length - (trs l).length - (b.length - l.length) = (ttx l).length by omega]
    have h3 : (ttx l ++ trs l).take (ttx l).length = ttx l := List.take_left
    rw [← hltx] at h3
    exact h3
   simp only [bD, bnd, Int.toNat_natCast]
   rw [if_pos (by omega), if_pos (by omega)]
   simp only
   rw [if_pos (by omega), e]
  obtain ⟨n, eb, hpi, hpe⟩ := Jt (ttx l) (by omega)
  have hdl := uF l
  have htl : (ttx l).length = if iS l = true then (tdg l).length + 1 else (tdg l).length := by unfold ttx; split <;> simp
  have hval := Hv (ds := tdg l) hdl
  simp [k0, k2, k3, hg, hsl, hpi]
  have hnl := congrArg List.length hTe
  rw [List.length_append] at hnl
  have e1 : (((b.length - (trs l).length : Nat) : Int) = ((b.length - (eX l).length : Nat) : Int)) ↔ tdg l = [] := by
   rw [← List.length_eq_zero_iff]; omega
  have e1' : (b.length - (trs l).length = b.length - (eX l).length) ↔ tdg l = [] := by
   rw [← List.length_eq_zero_iff]; omega
  have e2 : ttx l = [45, 48] ↔ (iS l = true ∧ tdg l = [48]) := by
   unfold ttx
   by_cases hng : iS l = true
   ·simp [hng]
   ·simp only [hng, if_false, false_and, iff_false, Bool.false_eq_true]
    intro h
    have := hdl 45 (by rw [h]; simp)
    revert this
    decide
  refine Out.mono (Q := fun ex env' s' => ex = .norm ∧ (s' = LS s b l toks 0 0 ∧ env' 0 = .ptr s.obs.length 0 ∧ env' 3 = .int .i64 ((b.length - (trs l).length : Nat) : Int) ∧ env' 4 = .str (ttx l)) ∧ env' 56 = .bool (decide (sA l))) ?_ ?_
  ·by_cases h1 : tdg l = []
   ·have hbd : sA l := .inl h1
    simp [e1, e1', h1, hbd, k0, k3]
   by_cases h2 : ttx l = [45, 48]
   ·have hbd : sA l := .inr (.inl (e2.1 h2))
    simp [e1, e1', h1, h2, hbd, k0, k3]
   have h2' : ¬ (iS l = true ∧ tdg l = [48]) := fun h => h2 (e2.2 h)
   have hbig : sA l ↔ 9007199254740991 < kJ (tdg l) := ⟨fun h => h.elim (fun h => absurd h h1) (fun h => h.elim (fun h => absurd h h2') id), fun h => .inr (.inr h)⟩
   by_cases h3 : (17 : Int) < ((ttx l).length : Int)
   ·have h17 : 17 ≤ (tdg l).length := by
     rw [htl] at h3
     split at h3 <;> omega
    have hbd : sA l := hbig.2 (Ir hdl (by
     unfold tdg at h17 ⊢
     split
     ·rename_i h; rw [if_pos h] at h17; simp at h17
     ·rename_i h
      intro h48
      rw [if_neg h] at h17
      cases hu : eX l with
      | nil => rw [hu] at h17; simp at h17
      | cons c t =>
       rw [hu] at h h48 h17
       by_cases hc : cB c = true
       ·rw [List.takeWhile_cons, if_pos hc] at h48; exact h h48
       ·rw [List.takeWhile_cons, if_neg hc] at h17; simp at h17) h17)
    have h3' : 17 < (ttx l).length := by omega
    simp [e1, e1', h1, h2, h3, h3', hbd, k0, k3]
   have h3' : ¬ 17 < (ttx l).length := by omega
   obtain ⟨v1, v2⟩ := hval h1 (iS l)
   have hx : (if iS l = true then 45 :: tdg l else tdg l) = ttx l := rfl
   rw [hx] at v1 v2
   cases eb with
   | true =>
    have hbd : sA l := by
     rw [hbig]
     rcases hpe with ⟨_, h⟩ | ⟨h, _⟩
     ·by_cases hv : kJ (tdg l) ≤ 9007199254740991
      ·exact absurd (v1 hv) (h _)
      ·omega
     ·cases h
    simp [e1, e1', h1, h2, h3, h3', hbd, k0, k3, erV]
   | false =>
    have hok : Lib.parseIntB 64 (ttx l) = .ok n := by
     rcases hpe with ⟨h, _⟩ | ⟨_, h⟩
     ·cases h
     ·exact h
    have hrange : (n < -9007199254740991 ∨ 9007199254740991 < n) ↔ 9007199254740991 < kJ (tdg l) := by
     constructor
     ·intro h
      by_cases hv : kJ (tdg l) ≤ 9007199254740991
      ·have := v1 hv
       rw [hok] at this
       simp only [Lib.NumEnd.ok.injEq] at this
       subst this
       split at h <;> omega
      ·omega
     ·intro h; exact v2 h n hok
    rw [← hrange] at hbig
    by_cases h5 : n < -9007199254740991
    ·have hbd : sA l := hbig.2 (.inl h5)
     simp [e1, e1', h1, h2, h3, h3', h5, hbd, k0, k3, erV]
    ·by_cases h6 : 9007199254740991 < n
     ·have hbd : sA l := hbig.2 (.inr h6)
      simp [e1, e1', h1, h2, h3, h3', h5, h6, hbd, k0, k3, erV]
     ·have hbd : ¬ sA l := fun h => (hbig.1 h).elim h5 h6
      simp [e1, e1', h1, h2, h3, h3', h5, h6, hbd, k0, k3, erV]
  clear k0 k3 k2
  rintro ex env2 s2 ⟨rfl, ⟨rfl, k0, k3, k4⟩, k56⟩
  have hfail : ∀ at_, call G 259 [.ptr s.obs.length 0, .int .i64 at_, .int .i64 3] (LS s b l toks 0 0) = some (.tup [], LS s b l toks 3 at_) := fun at_ => by
   have := pN s b l toks 0 0 at_ 3
   rw [if_pos rfl] at this
   exact this
  have htk := fun e fa => jP s b l (trs l) toks e fa 3 (ttx l) hn
  have hfin := fun e fa => fO (s := s) (b := b) (l := l) (toks := toks) (e := 0) (fa := 0) (trs l) (toks ++ [⟨3, ttx l, ((b.length - l.length : Nat) : Int)⟩]) e fa
  by_cases hbd : sA l
  ·have htn : iL l = .err l 3 := by unfold iL; rw [if_pos hbd]
   rw [htn]
   rw [decide_eq_true hbd] at k56
   simp [k0, k3, k4, k56, hg, hfail, htk, hfin]
   exact ⟨_, _, ⟨rfl, rfl⟩, rfl, _, _, hR, rfl⟩
  ·rw [decide_eq_false hbd] at k56
   cases hr : trs l with
   | nil =>
    have htn : iL l = .ok (3, ttx l) [] := by unfold iL; rw [if_neg hbd, hr]; rfl
    rw [hr] at k3 htk hfin
    rw [htn]
    simp only [List.length_nil, Nat.sub_zero] at k3 htk
    simp [k0, k3, k4, k56, hg, htk, hfin]
    exact ⟨_, _, ⟨rfl, rfl⟩, rfl, rfl⟩
   | cons c t =>
    rw [hr] at k3 htk hfin hR
    have hgi := eM hR
    have hRl2 := aO hR
    simp only [List.length_cons] at k3 htk hRl2
    have hlt3 : b.length - (t.length + 1) < b.length := by omega
    have hle := oS c
    have hdi := lZ c
    have e46 : ((c.toNat : Int) = 46) ↔ c = 46 := gL c 46 (by decide)
    have hnb : jL (c :: t) = (iR c || cB c || decide (c = 46)) := rfl
    by_cases hnx : jL (c :: t) = true
    ·have htn : iL l = .err (c :: t) 3 := by unfold iL; rw [if_neg hbd, hr, if_pos hnx]
     rw [htn]
     rw [hnb] at hnx
     have hfl := hfail ((b.length - (t.length + 1) : Nat) : Int)
     cases hl1 : iR c with
     | true =>
      simp [k0, k3, k4, k56, hg, hlt3, ↓hgi, hle, hl1, hfl, htk, hfin]
      exact ⟨_, _, ⟨rfl, rfl⟩, rfl, _, _, hR, rfl⟩
     | false =>
      cases hl2 : cB c with
      | true =>
       simp [k0, k3, k4, k56, hg, hlt3, ↓hgi, hle, hl1, hdi, hl2, hfl, htk, hfin]
       exact ⟨_, _, ⟨rfl, rfl⟩, rfl, _, _, hR, rfl⟩
      | false =>
       have h46 : c = 46 := by simpa [hl1, hl2] using hnx
       have h46t : (c = 46) = True := eq_true h46
       simp [k0, k3, k4, k56, hg, hlt3, ↓hgi, hle, hl1, hdi, hl2, e46, h46t, hfl, htk, hfin]
       exact ⟨_, _, ⟨rfl, rfl⟩, rfl, _, _, hR, rfl⟩
    ·have htn : iL l = .ok (3, ttx l) (c :: t) := by unfold iL; rw [if_neg hbd, hr, if_neg hnx]
     rw [htn]
     rw [hnb] at hnx
     simp only [Bool.or_eq_true, decide_eq_true_eq, not_or, Bool.not_eq_true] at hnx
     have h46t : (c = 46) = False := eq_false hnx.2
     simp [k0, k3, k4, k56, hg, hlt3, ↓hgi, hle, hnx.1.1, hdi, hnx.1.2, e46, h46t, htk, hfin]
     exact ⟨_, _, ⟨rfl, rfl⟩, rfl, rfl⟩
 obtain ⟨⟨v, S'⟩, hc, h1, h2⟩ := key
 simp only at h1 h2
 subst h1
 exact ⟨S', hc, h2⟩
theorem mW : ∀ (l : List UInt8) (k : Nat) (p : UInt8) (l' : List UInt8), iI k p l = some l' → l' <:+ l ∧ eG l' q3 = true
 | [], _, _, l', h => by simp [iI] at h
 | c :: t, k + 1, p, l', h => by
  have := mW t k c l' (by simpa [iI] using h)
  exact ⟨this.1.trans (List.suffix_cons c t), this.2⟩
 | c :: t, 0, p, l', h => by
  rw [iI] at h
  split at h
  ·rename_i hb
   split at h
   ·have := mW t 2 c l' h
    exact ⟨this.1.trans (List.suffix_cons c t), this.2⟩
   ·cases h
    exact ⟨List.suffix_refl _, hb⟩
  ·have := mW t 0 c l' h
   exact ⟨this.1.trans (List.suffix_cons c t), this.2⟩
def jN (r l' : List UInt8) : List UInt8 := r.take (r.length - l'.length)
def sF (l : List UInt8) : PR (Int × List UInt8) :=
 match iI 0 34 (l.drop 3) with
 | none => .err l 3
 | some l' => if ((jN (l.drop 3) l').any fun c => fD c.toNat) = true then .err l 3 else .ok (4, nE (jN (l.drop 3) l')) (l'.drop 3)
theorem HB {b l r : List UInt8} (hb : b.length ≤ 100000000) (hl : l <:+ b) (hq : l = 34 :: 34 :: 34 :: r) (s : St) (toks : List Tok) (hn : toks.length ≤ 1000000000) :
  ∃ S', call G 266 [.ptr s.obs.length 0] (LS s b l toks 0 0) = some (.tup [], S') ∧ jC s b l toks (sF l) S' := by
 have key : ∃ q, call G 266 [.ptr s.obs.length 0] (LS s b l toks 0 0) = some q ∧ (fun v S' => v = V.tup [] ∧ jC s b l toks (sF l) S') q.1 q.2 := by
  refine kM (G := G) (f := 266) (F := af266) (T := fun v S' => v = V.tup [] ∧ jC s b l toks (sF l) S') rfl rfl ?_
  have hlen := aO hl
  have hll : l.length = r.length + 3 := by rw [hq]; rfl
  have hr34 : (34 :: r) <:+ b := by
   have h1 : (34 :: r) <:+ l := ⟨[34, 34], by rw [hq]; rfl⟩
   exact h1.trans hl
  have hr := cJ hr34
  have hd3 : l.drop 3 = r := by rw [hq]; rfl
  have hg := iM (s := s) (b := b) (l := l) (toks := toks) (e := 0) (fa := 0)
  have hre := BH (by omega) hr34 (s := LS s b l toks 0 0) hg
  simp only [lxO] at hg
  have hw : IntKind.i64.wrap (((b.length - l.length : Nat) : Int) + 3) = ((b.length - r.length : Nat) : Int) := by rw [aD (by omega) (by omega)]; omega
  have hfail : ∀ at_, call G 259 [.ptr s.obs.length 0, .int .i64 at_, .int .i64 3] (LS s b l toks 0 0) = some (.tup [], LS s b l toks 3 at_) := fun at_ => by
   have := pN s b l toks 0 0 at_ 3
   rw [if_pos rfl] at this
   exact this
  unfold sF
  rw [hd3]
  cases hR : iI 0 34 r with
  | none =>
   rw [hR] at hre
   have hfin := fO (s := s) (b := b) (l := l) (toks := toks) (e := 0) (fa := 0) l toks 3 ((b.length - l.length : Nat) : Int)
   simp [af266, af266b, hg, hw, hre, hfail, hfin]
   exact ⟨_, _, ⟨rfl, rfl⟩, rfl, _, _, hl, rfl⟩
  | some l' =>
   rw [hR] at hre
   simp only at hre
   obtain ⟨hs, hbg⟩ := mW r 0 34 l' hR
   obtain ⟨r2, hr2⟩ := pK hbg
   have hsl := aO hs
   have hl'b := hs.trans hr
   have hl'l := aO hl'b
   have h3 : l'.length = r2.length + 3 := by rw [hr2]; rfl
   have hdr2 : l'.drop 3 = r2 := by rw [hr2]; rfl
   have hw2 : IntKind.i64.wrap (((b.length - l'.length : Nat) : Int) + 3) = ((b.length - r2.length : Nat) : Int) := by rw [aD (by omega) (by omega)]; omega
   have hnn : ¬ ((b.length - l'.length : Nat) : Int) < 0 := by omega
   have hslc : bD (.str b) (some (.int .i64 ((b.length - r.length : Nat) : Int))) (some (.int .i64 ((b.length - l'.length : Nat) : Int))) = some (.str (jN r l')) := by
    have e : (b.take (b.length - l'.length)).drop (b.length - r.length) = jN r l' := by
     have h := dE hr
     have hrl := aO hr
     rw [List.drop_take, h]
     unfold jN
     congr 1
     omega
    simp only [bD, bnd, Int.toNat_natCast]
    rw [if_pos (by omega), if_pos (by omega)]
    simp only
    rw [if_pos (by omega), e]
   have hxl : (jN r l').length ≤ 100000000 := by
    unfold jN
    rw [List.length_take]
    have hrl := aO hr
    omega
   have hct := BG (jN r l') (by omega)
   have hbv := AV (jN r l') hxl
   have hr2b : r2 <:+ b := by rw [← hdr2]; exact (List.drop_suffix 3 l').trans hl'b
   have htk := fun e fa => jP s b l r2 toks e fa 4 (nE (jN r l')) hn
   have hfin := fun e fa => fO (s := s) (b := b) (l := l) (toks := toks) (e := 0) (fa := 0) r2 (toks ++ [⟨4, nE (jN r l'), ((b.length - l.length : Nat) : Int)⟩]) e fa
   simp only
   rw [hdr2]
   generalize jN r l' = X at *
   by_cases hc : (X.any fun c => fD c.toNat) = true
   ·rw [if_pos hc]
    rw [hc] at hct
    simp [af266, af266b, hg, hw, hre, hnn, hslc, hct, hfail, hbv, hw2, htk, hfin]
    exact ⟨_, _, ⟨rfl, rfl⟩, rfl, _, _, hr2b, rfl⟩
   ·rw [if_neg hc]
    rw [show (X.any fun c => fD c.toNat) = false by simpa using hc] at hct
    simp [af266, af266b, hg, hw, hre, hnn, hslc, hct, hbv, hw2, htk, hfin]
    exact ⟨_, _, ⟨rfl, rfl⟩, rfl, rfl⟩
 obtain ⟨⟨v, S'⟩, hc, h1, h2⟩ := key
 simp only at h1 h2
 subst h1
 exact ⟨S', hc, h2⟩
def wW (l : List UInt8) : PR (Int × List UInt8) :=
 match oW l with
 | .err l' _ => .err l' 3
 | .ok t l' => .ok (4, t) l'
theorem EK : ∀ (f : Nat) (l acc : List UInt8) (l' : List UInt8) (e : Int), eJ f l acc = .err l' e → e ≠ 0
 | 0, l, acc, l', e, h => by simp [eJ] at h; omega
 | f + 1, l, acc, l', e, h => by
  unfold eJ at h
  repeat' split at h
  all_goals first
   | (cases h; decide)
   | cases h
   | exact EK f _ _ _ _ h
theorem Hw {l l' : List UInt8} {e : Int} (h : oW l = .err l' e) : e ≠ 0 := by
 unfold oW at h
 split at h
 ·exact EK _ _ _ _ _ h
 ·cases h; decide
theorem BF {b l : List UInt8} (hb : b.length ≤ 100000000) (hl : l <:+ b) (s : St) (toks : List Tok) (hn : toks.length ≤ 1000000000) :
  ∃ S', call G 267 [.ptr s.obs.length 0] (LS s b l toks 0 0) = some (.tup [], S') ∧ jC s b l toks (wW l) S' := by
 have key : ∃ q, call G 267 [.ptr s.obs.length 0] (LS s b l toks 0 0) = some q ∧ (fun v S' => v = V.tup [] ∧ jC s b l toks (wW l) S') q.1 q.2 := by
  refine kM (G := G) (f := 267) (F := af267) (T := fun v S' => v = V.tup [] ∧ jC s b l toks (wW l) S') rfl rfl ?_
  have hlen := aO hl
  have hg := iM (s := s) (b := b) (l := l) (toks := toks) (e := 0) (fa := 0)
  simp only [lxO] at hg
  have hsl : bD (.str b) (some (.int .i64 ((b.length - l.length : Nat) : Int))) none = some (.str l) := by
   simp [bD, bnd, dE hl]
  have hunq := Iq (q := l) (by omega)
  have hps := wA l
  have hpe := fun l' e => Hw (l := l) (l' := l') (e := e)
  have hfail : ∀ at_, call G 259 [.ptr s.obs.length 0, .int .i64 at_, .int .i64 3] (LS s b l toks 0 0) = some (.tup [], LS s b l toks 3 at_) := fun at_ => by
   have := pN s b l toks 0 0 at_ 3
   rw [if_pos rfl] at this
   exact this
  unfold wW
  cases hP : oW l with
  | err l' e =>
   rw [hP] at hunq hps
   simp only [prT, PR.rest, PR.e] at hunq hps
   have he := hpe _ _ hP
   have hl'l := aO hps
   have hw : IntKind.i64.wrap (((b.length - l.length : Nat) : Int) + ((l.length - l'.length : Nat) : Int)) = ((b.length - l'.length : Nat) : Int) := by rw [aD (by omega) (by omega)]; omega
   have htk := fun e fa => jP s b l l' toks e fa 4 [] hn
   have hfin := fun e fa => fO (s := s) (b := b) (l := l) (toks := toks) (e := 0) (fa := 0) l' (toks ++ [⟨4, [], ((b.length - l.length : Nat) : Int)⟩]) e fa
   have hg3 := iM (s := s) (b := b) (l := l) (toks := toks) (e := 3) (fa := ((b.length - l'.length : Nat) : Int))
   simp only [lxO] at hg3
   simp [af267, af267b, hg, hg3, hsl, hunq, he, hw, hfail, htk, hfin]
   exact ⟨_, _, ⟨rfl, rfl⟩, rfl, _, _, hps.trans hl, rfl⟩
  | ok t l' =>
   rw [hP] at hunq hps
   simp only [prT, PR.rest, PR.e] at hunq hps
   have hl'l := aO hps
   have hw : IntKind.i64.wrap (((b.length - l.length : Nat) : Int) + ((l.length - l'.length : Nat) : Int)) = ((b.length - l'.length : Nat) : Int) := by rw [aD (by omega) (by omega)]; omega
   have htk := fun e fa => jP s b l l' toks e fa 4 t hn
   have hfin := fun e fa => fO (s := s) (b := b) (l := l) (toks := toks) (e := 0) (fa := 0) l' (toks ++ [⟨4, t, ((b.length - l.length : Nat) : Int)⟩]) e fa
   simp [af267, af267b, hg, hsl, hunq, hw, htk, hfin]
   exact ⟨_, _, ⟨rfl, rfl⟩, rfl, rfl⟩
 obtain ⟨⟨v, S'⟩, hc, h1, h2⟩ := key
 simp only at h1 h2
 subst h1
 exact ⟨S', hc, h2⟩
def signsT : List UInt8 := [33, 36, 38, 40, 41, 58, 61, 64, 91, 93, 123, 124, 125]
def kG (c : UInt8) : Bool := signsT.contains c
def d3 : List UInt8 := [46, 46, 46]
def fM (l : List UInt8) : PR (Int × List UInt8) :=
 if kG (hd0 l) = true then .ok (1, [hd0 l]) (l.drop 1)
 else if eG l d3 = true then .ok (1, d3) (l.drop 3)
 else if iR (hd0 l) = true then .ok (2, l.takeWhile dG) (l.dropWhile dG)
 else if (cB (hd0 l) || decide (hd0 l = 45)) = true then iL l
 else if eG l q3 = true then sF l
 else if hd0 l = 34 then wW l
 else .err l 3
theorem IZ (c : UInt8) : (0 ≤ Lib.indexByte [33, 36, 38, 40, 41, 58, 61, 64, 91, 93, 123, 124, 125] c) ↔ kG c = true := by
 have key : ∀ k : Fin 256, (0 ≤ Lib.indexByte [33, 36, 38, 40, 41, 58, 61, 64, 91, 93, 123, 124, 125] (UInt8.ofNat k.val)) ↔ kG (UInt8.ofNat k.val) = true := by decide +kernel
 simpa using key ⟨c.toNat, c.toNat_lt⟩
theorem Fx {b l : List UInt8} (hb : b.length ≤ 100000000) (hl : l <:+ b) (hne : l ≠ []) (s : St) (toks : List Tok) (hn : toks.length ≤ 1000000000) :
  ∃ S', call G 204 [.ptr s.obs.length 0] (LS s b l toks 0 0) = some (.tup [], S') ∧ jC s b l toks (if toks.length = 900 then .err l 6 else fM l) S' := by
 have key : ∃ q, call G 204 [.ptr s.obs.length 0] (LS s b l toks 0 0) = some q ∧ (fun v S' => v = V.tup [] ∧ jC s b l toks (if toks.length = 900 then .err l 6 else fM l) S') q.1 q.2 := by
  refine kM (G := G) (f := 204) (F := af204) (T := fun v S' => v = V.tup [] ∧ jC s b l toks (if toks.length = 900 then .err l 6 else fM l) S') rfl rfl ?_
  have hlen := aO hl
  obtain ⟨c, t, rfl⟩ := List.exists_cons_of_ne_nil hne
  simp only [List.length_cons] at hlen
  have ht := cJ hl
  have hh : hd0 (c :: t) = c := rfl
  have hg := iM (s := s) (b := b) (l := c :: t) (toks := toks) (e := 0) (fa := 0)
  have hwh := qW (by omega) hl (k := 263) (p := dG) Jf (r := s.obs.length) (s := LS s b (c :: t) toks 0 0) hg
  simp only [lxO, List.length_cons] at hg hwh
  have hsl : bD (.str b) (some (.int .i64 ((b.length - (t.length + 1) : Nat) : Int))) none = some (.str (c :: t)) := by
   have h := dE hl
   simp only [List.length_cons] at h
   simp [bD, bnd, h]
  have hfail : ∀ at_ e, call G 259 [.ptr s.obs.length 0, .int .i64 at_, .int .i64 e] (LS s b (c :: t) toks 0 0) = some (.tup [], LS s b (c :: t) toks e at_) := fun at_ e => by
   have := pN s b (c :: t) toks 0 0 at_ e
   rw [if_pos rfl] at this
   exact this
  have hff := fun e fa => fO (s := s) (b := b) (l := c :: t) (toks := toks) (e := 0) (fa := 0) (c :: t) toks e fa
  have hib : ∀ s, call G 256 [.str [33, 36, 38, 40, 41, 58, 61, 64, 91, 93, 123, 124, 125], .int .u8 c.toNat] s = some (.int .i64 (Lib.indexByte [33, 36, 38, 40, 41, 58, 61, 64, 91, 93, 123, 124, 125] c), s) := pP _ c
  have hsgn := IZ c
  generalize Lib.indexByte [33, 36, 38, 40, 41, 58, 61, 64, 91, 93, 123, 124, 125] c = ix at hib hsgn
  have hend : ∀ (p : PR (Int × List UInt8)) (S' : St), jC s b (c :: t) toks p S' → fin false (LS s b (c :: t) toks 0 0) S' (.tup []) = (.tup [], S') := by
   intro p S' h
   cases p with
   | ok kt l' => rw [show S' = _ from h]; exact fO _ _ _ _
   | err l' e => obtain ⟨l2, toks2, _, h⟩ := h; rw [h]; exact fO _ _ _ _
  by_cases h900 : toks.length = 900
  ·have h9t : ((toks.length : Int) = 900) := by omega
   rw [if_pos h900]
   simp [af204, af204b, hg, hsl, dA, h900, hfail, hff]
   exact ⟨_, _, ⟨rfl, rfl⟩, rfl, _, _, hl, rfl⟩
  rw [if_neg h900]
  have h9t : ¬ ((toks.length : Int) = 900) := by omega
  unfold fM
  rw [hh]
  have hix : ∀ (x : Bool), decide (kG c = true) = x → True := fun _ _ => trivial
  by_cases c1 : kG c = true
  ·have hge : 0 ≤ ix := hsgn.2 c1
   rw [if_pos c1]
   have hw : IntKind.i64.wrap (((b.length - (t.length + 1) : Nat) : Int) + 1) = ((b.length - t.length : Nat) : Int) := by rw [aD (by omega) (by omega)]; omega
   have hs1 : bD (.str (c :: t)) none (some (.int .i64 1)) = some (.str [c]) := by simp [bD, bnd]
   have htk := jP s b (c :: t) t toks 0 0 1 [c] hn
   simp only [List.length_cons] at htk
   have hfn := fO (s := s) (b := b) (l := c :: t) (toks := toks) (e := 0) (fa := 0) t (toks ++ [⟨1, [c], ((b.length - (t.length + 1) : Nat) : Int)⟩]) 0 0
   simp [af204, af204b, hg, hsl, dA, h900, h9t, hib, hge, hs1, hw, htk, hfn]
   exact ⟨_, _, ⟨rfl, rfl⟩, rfl, rfl⟩
  rw [if_neg c1]
  have hge : ¬ 0 ≤ ix := fun h => c1 (hsgn.1 h)
  have hge' : ix < 0 := by omega
  have hhp := fun w s => Ah (c :: t) w (by rw [List.length_cons]; omega) s
  by_cases c2 : eG (c :: t) d3 = true
  ·rw [if_pos c2]
   have hp := hhp d3
   rw [c2] at hp
   obtain ⟨r2, hr2⟩ : ∃ r, c :: t = 46 :: 46 :: 46 :: r := by
    rw [iO] at c2
    obtain ⟨r, hr⟩ := List.isPrefixOf_iff_prefix.1 c2
    exact ⟨r, hr.symm⟩
   have hdr : (c :: t).drop 3 = r2 := by rw [hr2]; rfl
   have h3 : t.length + 1 = r2.length + 3 := by
    have := congrArg List.length hr2
    simpa using this
   have hw : IntKind.i64.wrap (((b.length - (t.length + 1) : Nat) : Int) + 3) = ((b.length - r2.length : Nat) : Int) := by rw [aD (by omega) (by omega)]; omega
   have htk := jP s b (c :: t) r2 toks 0 0 1 d3 hn
   have hfn := fO (s := s) (b := b) (l := c :: t) (toks := toks) (e := 0) (fa := 0) r2 (toks ++ [⟨1, d3, ((b.length - (t.length + 1) : Nat) : Int)⟩]) 0 0
   simp only [d3, List.length_cons] at hp htk hfn
   rw [hdr]
   simp [af204, af204b, hg, hsl, dA, h900, h9t, hib, hge, hge', hp, hw, htk, hfn]
   exact ⟨_, _, ⟨rfl, rfl⟩, rfl, rfl⟩
  rw [if_neg c2]
  have hp3 := hhp d3
  rw [show eG (c :: t) d3 = false by simpa using c2] at hp3
  simp only [d3] at hp3
  have hle := oS c
  by_cases c3 : iR c = true
  ·rw [if_pos c3]
   rw [c3] at hle
   have hds := List.dropWhile_suffix dG (l := c :: t)
   have hdl := aO hds
   simp only [List.length_cons] at hdl
   have htw : ((c :: t).takeWhile dG).length + ((c :: t).dropWhile dG).length = t.length + 1 := by
    have := congrArg List.length (List.takeWhile_append_dropWhile (p := dG) (l := c :: t))
    rw [List.length_append] at this
    simpa using this
   have hs2 : bD (.str b) (some (.int .i64 ((b.length - (t.length + 1) : Nat) : Int))) (some (.int .i64 ((b.length - ((c :: t).dropWhile dG).length : Nat) : Int))) = some (.str ((c :: t).takeWhile dG)) := by
    have e : (b.take (b.length - ((c :: t).dropWhile dG).length)).drop (b.length - (t.length + 1)) = (c :: t).takeWhile dG := by
     have h := dE hl
     simp only [List.length_cons] at h
     rw [List.drop_take, h, show b.length - ((c :: t).dropWhile dG).length - (b.length - (t.length + 1)) = ((c :: t).takeWhile dG).length by omega]
     have h3 : ((c :: t).takeWhile dG ++ (c :: t).dropWhile dG).take ((c :: t).takeWhile dG).length = (c :: t).takeWhile dG := List.take_left
     rw [List.takeWhile_append_dropWhile] at h3
     exact h3
    simp only [bD, bnd, Int.toNat_natCast]
    rw [if_pos (by omega), if_pos (by omega)]
    simp only
    rw [if_pos (by omega), e]
   have htk := jP s b (c :: t) ((c :: t).dropWhile dG) toks 0 0 2 ((c :: t).takeWhile dG) hn
   have hfn := fO (s := s) (b := b) (l := c :: t) (toks := toks) (e := 0) (fa := 0) ((c :: t).dropWhile dG) (toks ++ [⟨2, (c :: t).takeWhile dG, ((b.length - (t.length + 1) : Nat) : Int)⟩]) 0 0
   simp only [List.length_cons] at htk
   generalize (c :: t).takeWhile dG = W at *
   generalize (c :: t).dropWhile dG = D at *
   simp [af204, af204b, hg, hsl, dA, h900, h9t, hib, hge, hge', hp3, hle, hwh, hs2, htk, hfn]
   exact ⟨_, _, ⟨rfl, rfl⟩, rfl, rfl⟩
  rw [if_neg c3]
  rw [show iR c = false by simpa using c3] at hle
  have hdg := lZ c
  have e45 : ((c.toNat : Int) = 45) ↔ c = 45 := gL c 45 (by decide)
  by_cases c4 : (cB c || decide (c = 45)) = true
  ·rw [if_pos c4]
   obtain ⟨S', hnum, haf⟩ := Hs (by omega) hl hne s toks hn
   have hfn := hend _ _ haf
   cases hdd : cB c with
   | true =>
    rw [hdd] at hdg
    simp [af204, af204b, hg, hsl, dA, h900, h9t, hib, hge, hge', hp3, hle, hdg, hnum, hfn]
    exact ⟨_, _, ⟨rfl, rfl⟩, rfl, haf⟩
   | false =>
    rw [hdd] at hdg
    have h45 : c = 45 := by simpa [hdd] using c4
    have h45t : (c = 45) = True := eq_true h45
    simp [af204, af204b, hg, hsl, dA, h900, h9t, hib, hge, hge', hp3, hle, hdg, e45, h45t, hnum, hfn]
    exact ⟨_, _, ⟨rfl, rfl⟩, rfl, haf⟩
  rw [if_neg c4]
  simp only [Bool.or_eq_true, decide_eq_true_eq, not_or, Bool.not_eq_true] at c4
  rw [c4.1] at hdg
  have h45t : (c = 45) = False := eq_false c4.2
  by_cases c5 : eG (c :: t) q3 = true
  ·rw [if_pos c5]
   have hp := hhp q3
   rw [c5] at hp
   obtain ⟨r2, hr2⟩ := pK c5
   obtain ⟨S', hraw, haf⟩ := HB hb hl hr2 s toks hn
   have hfn := hend _ _ haf
   simp only [q3] at hp
   simp [af204, af204b, hg, hsl, dA, h900, h9t, hib, hge, hge', hp3, hle, hdg, e45, h45t, hp, hraw, hfn]
   exact ⟨_, _, ⟨rfl, rfl⟩, rfl, haf⟩
  rw [if_neg c5]
  have hpq := hhp q3
  rw [show eG (c :: t) q3 = false by simpa using c5] at hpq
  simp only [q3] at hpq
  have e34 : ((c.toNat : Int) = 34) ↔ c = 34 := gL c 34 (by decide)
  by_cases c6 : c = 34
  ·rw [if_pos c6]
   obtain ⟨S', hquo, haf⟩ := BF hb hl s toks hn
   have hfn := hend _ _ haf
   have h34t : (c = 34) = True := eq_true c6
   simp [af204, af204b, hg, hsl, dA, h900, h9t, hib, hge, hge', hp3, hle, hdg, e45, h45t, hpq, e34, h34t, hquo, hfn]
   exact ⟨_, _, ⟨rfl, rfl⟩, rfl, haf⟩
  ·rw [if_neg c6]
   have h34t : (c = 34) = False := eq_false c6
   simp [af204, af204b, hg, hsl, dA, h900, h9t, hib, hge, hge', hp3, hle, hdg, e45, h45t, hpq, e34, h34t, hfail, hff]
   exact ⟨_, _, ⟨rfl, rfl⟩, rfl, _, _, hl, rfl⟩
 obtain ⟨⟨v, S'⟩, hc, h1, h2⟩ := key
 simp only at h1 h2
 subst h1
 exact ⟨S', hc, h2⟩
theorem Cl {l l' : List UInt8} {e : Int} (h : fM l = .err l' e) : e = 3 := by
 unfold fM at h
 repeat' split at h
 all_goals first
  | (cases h; done)
  | (cases h; rfl)
  | skip
 ·unfold iL at h
  repeat' split at h
  all_goals first
   | (cases h; done)
   | (cases h; rfl)
 ·unfold sF at h
  repeat' split at h
  all_goals first
   | (cases h; done)
   | (cases h; rfl)
 ·unfold wW at h
  repeat' split at h
  all_goals first
   | (cases h; done)
   | (cases h; rfl)
theorem wU {l l' : List UInt8} {kt : Int × List UInt8} (hne : l ≠ []) (h : fM l = .ok kt l') : l' <:+ l ∧ l'.length < l.length := by
 have hp := List.length_pos_iff.2 hne
 have hdr : ∀ k, 1 ≤ k → (l.drop k) <:+ l ∧ (l.drop k).length < l.length := fun k hk => ⟨List.drop_suffix _ _, by rw [List.length_drop]; omega⟩
 unfold fM at h
 split at h
 ·cases h; exact hdr 1 (by omega)
 ·split at h
  ·cases h; exact hdr 3 (by omega)
  ·split at h
   ·rename_i hlt
    cases h
    refine ⟨List.dropWhile_suffix _, ?_⟩
    obtain ⟨c, t, rfl⟩ := List.exists_cons_of_ne_nil hne
    have hc : dG c = true := by
     unfold dG
     rw [show iR c = true from hlt]
     rfl
    rw [List.dropWhile_cons, if_pos hc]
    have := aO (List.dropWhile_suffix dG (l := t))
    simp only [List.length_cons]
    omega
   ·split at h
    ·unfold iL at h
     split at h
     ·cases h
     ·split at h
      ·cases h
      ·rename_i hb _
       cases h
       have h1 := (AH l).trans (vV l)
       refine ⟨h1, ?_⟩
       have h2 := congrArg List.length (DV l hne)
       rw [List.length_append] at h2
       have h3 : 1 ≤ (ttx l).length := by
        have hd : tdg l ≠ [] := fun h => hb (.inl h)
        have := List.length_pos_iff.2 hd
        unfold ttx
        split <;> simp <;> omega
       omega
    ·split at h
     ·rename_i hq
      unfold sF at h
      cases hR : iI 0 34 (l.drop 3) with
      | none => rw [hR] at h; cases h
      | some l2 =>
       rw [hR] at h
       simp only at h
       split at h
       ·cases h
       ·cases h
        have h1 := (mW _ _ _ _ hR).1
        have h2 := ((List.drop_suffix 3 l2).trans h1).trans (List.drop_suffix 3 l)
        refine ⟨h2, ?_⟩
        have h3 := aO ((List.drop_suffix 3 l2).trans h1)
        rw [List.length_drop (i := 3) (l := l)] at h3
        obtain ⟨r, hr⟩ := pK hq
        rw [hr] at h3 ⊢
        simp only [List.length_cons] at h3 ⊢
        omega
     ·split at h
      ·unfold wW at h
       have hs := wA l
       cases hP : oW l with
       | err l2 e => rw [hP] at h; cases h
       | ok t l2 =>
        rw [hP] at h hs
        cases h
        refine ⟨hs, ?_⟩
        unfold oW at hP
        split at hP
        ·have h4 := qB l.length (l.drop 1) []
         rw [hP] at h4
         have := aO h4
         rw [List.length_drop] at this
         simp only [PR.rest] at this
         omega
        ·cases hP
      ·cases h
def mC (b : List UInt8) : Nat → List UInt8 → List Tok → PR (List Tok)
 | 0, l, _ => .err l 3
 | n + 1, l, toks => if l = [] then .ok toks [] else if toks.length = 900 then .err l 6 else
  match fM l with
  | .err l' e => .err l' e
  | .ok kt l' => mC b n (eE false l') (toks ++ [⟨kt.1, kt.2, ((b.length - l.length : Nat) : Int)⟩])
def dK (b : List UInt8) : List Tok × Int × Int :=
 if 4000 < b.length then ([], 6, 0) else
 if 0 ≤ mH b (b.length + 1) 0 then ([], 2, mH b (b.length + 1) 0) else
 match mC b (b.length + 1) (eE false b) [] with
 | .ok toks _ => (toks, 0, 0)
 | .err l e => ([], e, ((b.length - l.length : Nat) : Int))
theorem Jg {b : List UInt8} (hb : b.length ≤ 100000000) (s : St) : ∀ (n : Nat) (l : List UInt8) (toks : List Tok) (env : Env), l.length < n → l <:+ b → toks.length + l.length ≤ 1000000000 → env 0 = .str b → env 5 = .ptr s.obs.length 0 →
  Out (evC G (.loop false af126l0) env (LS s b l toks 0 0)) (fun ex env' s' => ex = .exit 0 ∧ env' 3 = env 3 ∧ env' 5 = .ptr s.obs.length 0 ∧ match mC b n l toks with
   | .ok toks' _ => s' = LS s b [] toks' 0 0
   | .err l' e => e ≠ 0 ∧ ∃ l2 toks2, s' = LS s b l2 toks2 e ((b.length - l'.length : Nat) : Int)) := by
 intro n
 induction n with
 | zero => intro l toks env h; omega
 | succ n ih =>
  intro l toks env hn hl ht h0 h5
  have hlen := aO hl
  have hg := iM (s := s) (b := b) (l := l) (toks := toks) (e := 0) (fa := 0)
  simp only [lxO] at hg
  refine aH G false _ _ af126l0.eq_1 _ _ _ ?_
  rw [mC]
  by_cases hne : l = []
  ·subst hne
   simp at hg
   simp [h0, h5, hg]
  ·rw [if_neg hne]
   have hp := List.length_pos_iff.2 hne
   have hlt : b.length - l.length < b.length := by omega
   obtain ⟨S', hnx, haf⟩ := Fx hb hl hne s toks (by omega)
   by_cases h900 : toks.length = 900
   ·rw [if_pos h900] at haf ⊢
    obtain ⟨l2, toks2, hl2, rfl⟩ := haf
    have hsk := qA (by omega) hl2 s toks2 6 ((b.length - l.length : Nat) : Int)
    have hg2 := iM (s := s) (b := b) (l := eE false l2) (toks := toks2) (e := 6) (fa := ((b.length - l.length : Nat) : Int))
    simp only [lxO] at hg2
    simp [h0, h5, hg, hlt, hnx, hsk]
    refine aH G false _ _ af126l0.eq_1 _ _ _ ?_
    by_cases hlt2 : b.length - (eE false l2).length < b.length
    ·simp [h0, h5, hg2, hlt2]
     exact ⟨_, _, rfl⟩
    ·simp [h0, h5, hg2, hlt2]
     exact ⟨_, _, rfl⟩
   rw [if_neg h900] at haf ⊢
   cases hT : fM l with
   | err l' e =>
    rw [hT] at haf
    have he := Cl hT
    subst he
    obtain ⟨l2, toks2, hl2, rfl⟩ := haf
    have hsk := qA (by omega) hl2 s toks2 3 ((b.length - l'.length : Nat) : Int)
    have hg2 := iM (s := s) (b := b) (l := eE false l2) (toks := toks2) (e := 3) (fa := ((b.length - l'.length : Nat) : Int))
    simp only [lxO] at hg2
    simp [h0, h5, hg, hlt, hnx, hsk]
    refine aH G false _ _ af126l0.eq_1 _ _ _ ?_
    by_cases hlt2 : b.length - (eE false l2).length < b.length
    ·simp [h0, h5, hg2, hlt2]
     exact ⟨_, _, rfl⟩
    ·simp [h0, h5, hg2, hlt2]
     exact ⟨_, _, rfl⟩
   | ok kt l' =>
    rw [hT] at haf
    obtain ⟨hs1, hs2⟩ := wU hne hT
    have hS : S' = LS s b l' (toks ++ [⟨kt.1, kt.2, ((b.length - l.length : Nat) : Int)⟩]) 0 0 := haf
    subst hS
    have hl' := hs1.trans hl
    have hsk := qA (by omega) hl' s (toks ++ [⟨kt.1, kt.2, ((b.length - l.length : Nat) : Int)⟩]) 0 0
    have hbs := gY false l'
    have hbl := aO hbs
    simp only
    simp [h0, h5, hg, hlt, hnx, hsk]
    refine Out.mono (ih (eE false l') (toks ++ [⟨kt.1, kt.2, ((b.length - l.length : Nat) : Int)⟩]) _ (by omega) (hbs.trans hl') (by simp; omega) (by simp [h0]) (by simp [h5])) ?_
    rintro ex env' s' ⟨a, b1, c, d⟩
    exact ⟨a, by simpa using b1, c, d⟩
theorem Hk (b : List UInt8) (hb : b.length ≤ 9223372036854775807) (s : St) :
  call G 126 [.str b] s = some (.tup [.sl .no (bO (dK b).1), .agg [.int .i64 (dK b).2.1, .int .i64 (dK b).2.2]], s) := by
 refine aC (F := af126) rfl rfl ?_
 by_cases h4 : 4000 < b.length
 ·have h4' : (4000 : Int) < (b.length : Int) := by omega
  simp [af126, af126b, h4, h4', aI, aB, V.one, aK]
  rw [bZ _ _ _ (by rfl)]
  simp [dK, h4, bO]
 have h4' : ¬ (4000 : Int) < (b.length : Int) := by omega
 have hbad := fun s => AE b hb s
 rw [pH] at hbad
 by_cases hbd : 0 ≤ mH b (b.length + 1) 0
 ·simp [af126, af126b, h4, h4', hbad, hbd, aI, aB, V.one, aK]
  rw [bZ _ _ _ (by rfl)]
  simp [dK, h4, hbd, bO]
 have hb' : b.length ≤ 100000000 := by omega
 have hbt := gY false b
 have hbtl := aO hbt
 let s1 : St := ⟨s.obs ++ [.cells 29 [.int .i64 0, .int .i64 0]], s.bufs⟩
 have h1l : s1.obs.length = s.obs.length + 1 := by simp [s1]
 have hinit : (⟨s.obs ++ [.cells 29 [.int .i64 0, .int .i64 0], .cells 259 [.str b, .int .i64 0, .sl .nil [], .int .i64 0, .int .i64 0]], s.bufs⟩ : St) = LS s1 b b [] 0 0 := by
  simp [LS, s1, lxO, bF, dH, bO]
 have hsk := qA (by omega) (List.suffix_refl b) s1 [] 0 0
 rw [h1l] at hsk
 have hgo := Jg hb' s1 (b.length + 1) (eE false b) [] 
 simp only [h1l] at hgo
 simp [af126, af126b, h4, h4', hbad, hbd, aI, aK, V.one]
 rw [hinit]
 simp [hsk]
 refine Out.mono (hgo _ (by omega) hbt (by simp; omega) (by simp) (by simp)) ?_
 rintro ex env' s' ⟨rfl, h3, h5, hm⟩
 simp at h3
 have hres : ∀ l toks e fa, (LS s1 b l toks e fa).obs = s.obs ++ [.cells 29 [.int .i64 0, .int .i64 0], lxO b l (bF s.bufs toks) toks e fa] := by
  intro l toks e fa
  simp [LS, s1]
 have hg1 : ∀ l toks e fa, (LS s1 b l toks e fa).obs[s.obs.length + 1]? = some (lxO b l (bF s.bufs toks) toks e fa) := by
  intro l toks e fa
  have := iM (s := s1) (b := b) (l := l) (toks := toks) (e := e) (fa := fa)
  rw [h1l] at this
  exact this
 have hg0 : ∀ l toks e fa, (LS s1 b l toks e fa).obs[s.obs.length]? = some (.cells 29 [.int .i64 0, .int .i64 0]) := by
  intro l toks e fa
  rw [hres]
  simp
 have hset0 : ∀ l toks e fa o, (LS s1 b l toks e fa).obs.set s.obs.length o = s.obs ++ [o, lxO b l (bF s.bufs toks) toks e fa] := by
  intro l toks e fa o
  rw [hres, List.set_append_right _ _ (Nat.le_refl _)]
  simp
 have hbf : ∀ l toks e fa, (LS s1 b l toks e fa).bufs = s.bufs ++ dH (32, 195) toks := fun _ _ _ _ => rfl
 cases hL : mC b (b.length + 1) (eE false b) [] with
 | ok toks l' =>
  rw [hL] at hm
  have hm' : s' = LS s1 b [] toks 0 0 := hm
  subst hm'
  have hlp : dK b = (toks, 0, 0) := by unfold dK; rw [if_neg h4, if_neg hbd, hL]
  rw [hlp]
  have g1 := hg1 [] toks 0 0
  simp only [lxO] at g1
  simp [h3, h5, g1, aI, aB, V.one, aK, hg0, hset0, hbf]
  rw [vB _ _ _ _ (by cases toks <;> simp [bF, aE, bE])]
  simp [aE]
 | err l' e =>
  rw [hL] at hm
  obtain ⟨he, l2, toks2, rfl⟩ := hm
  have hlp : dK b = ([], e, ((b.length - l'.length : Nat) : Int)) := by unfold dK; rw [if_neg h4, if_neg hbd, hL]
  rw [hlp]
  have g1 := hg1 l2 toks2 e ((b.length - l'.length : Nat) : Int)
  simp only [lxO] at g1
  simp [h3, h5, g1, he, aI, aB, V.one, aK, hg0, hset0, hbf]
  rw [vB _ _ _ _ (by rfl)]
  simp [bO]
