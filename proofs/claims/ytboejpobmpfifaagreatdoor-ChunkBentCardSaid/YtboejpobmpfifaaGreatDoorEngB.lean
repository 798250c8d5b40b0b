/-
  Each operation does in the world what the evaluator says: all together. No condition.
-/
import Derived.Test.YtboejpobmpfifaaGreatDoorEngM
import Derived.Test.YtboejpobmpfifaaGreatDoorEngZ
import Derived.Test.YtboejpobmpfifaaGreatDoorEngN
namespace Go.Proofs.YtboejpobmpfifaaGreatDoor.Eng
open Go Go.RowKit
set_option linter.unusedSimpArgs false

section
variable {P : Program} {B : Nat} {w0 : World} {S : Sit}

theorem ite_pick {α : Type} {c : Prop} [Decidable c] {a b x : α} (h : (if c then some a else some b) = some x) : x = a ∨ x = b := by
  split at h
  · exact .inl (Option.some.inj h).symm
  · exact .inr (Option.some.inj h).symm

theorem eqCell_ok {P : Program} {S : Sit} {k : Nat} {v u : V} {c d : Value} {b : Bool} (hx : Rel S v c) (hy : Rel S u d) (he : eqCell k v u = some b) {t : TypeId}
    (ht : (k = 0 ∧ ∃ q, P.underlying t = some (.int q)) ∨ (k = 1 ∧ P.underlying t = some .bool) ∨ (k = 2 ∧ P.underlying t = some .string)) (n : Nat) (w : World) : (Op.equalIn (n + 1) t c d).run P w = .ok b w := by
  rcases ht with ⟨rfl, q, hu⟩ | ⟨rfl, hu⟩ | ⟨rfl, hu⟩
  · unfold eqCell at he
    split at he <;> first | contradiction | skip
    · split at he
      · rename_i hk
        subst hk
        cases he
        rw [hx.int_inv, hy.int_inv, run_equalIn_int w n t _ q _ _ hu]
        rename_i a b _
        by_cases hab : a = b <;> simp [hab]
      · cases he
    all_goals cases he
  · unfold eqCell at he
    split at he <;> first | contradiction | skip
    · cases he
      rw [hx.bool_inv, hy.bool_inv, run_equalIn_bool' w n t _ _ hu]
    all_goals cases he
  · unfold eqCell at he
    split at he <;> first | contradiction | skip
    · cases he
      rename_i a b _
      rw [hx.str_inv, hy.str_inv]
      simp only [Op.equalIn, Sem.run_bind, run_underlying hu, Result.andThen_ok, Sem.run_pure]
      congr 1
      rw [beq_toListBytes, ByteArray.toList_eq, ByteArray.toList_eq]
      by_cases hab : a = b
      · subst hab; simp
      · simp [hab]
    all_goals cases he

theorem eqFields_ok {P : Program} {S : Sit} {xs ys : List V} {cx cy : List Value} (hx : RelL S xs cx) (hy : RelL S ys cy) (n : Nat) (w : World) : ∀ (fs : List Field) (i : Nat) (ks : List Nat) (b : Bool), kindsOf P i fs = some ks →
    eqCells ks (xs.drop i) (ys.drop i) = some b → (Op.eqFields (n + 1) cx.toArray cy.toArray fs).run P w = .ok b w
  | [], i, ks, b, hk, he => by
    simp only [kindsOf, Option.some.injEq] at hk
    subst hk
    unfold eqCells at he
    split at he
    · cases he; rfl
    · contradiction
    · cases he
  | f :: fs, i, ks, b, hk, he => by
    simp only [kindsOf] at hk
    split at hk
    case isFalse => cases hk
    rename_i hf
    obtain ⟨hname, hoff⟩ := hf
    have key : ∀ (k : Nat) (ks' : List Nat), ((k = 0 ∧ ∃ q, P.underlying f.type = some (.int q)) ∨ (k = 1 ∧ P.underlying f.type = some .bool) ∨ (k = 2 ∧ P.underlying f.type = some .string)) → kindsOf P (i + 1) fs = some ks' → ks = k :: ks' →
        (Op.eqFields (n + 1) cx.toArray cy.toArray (f :: fs)).run P w = .ok b w := by
      rintro k ks' ht hk' rfl
      have hagg : aggN P f.type = some none := by
        unfold aggN
        rcases ht with ⟨_, q, hu⟩ | ⟨_, hu⟩ | ⟨_, hu⟩ <;> rw [hu]
      have hia := (run_isAgg hagg).1
      generalize hdx : xs.drop i = dx at he
      generalize hdy : ys.drop i = dy at he
      unfold eqCells at he
      split at he
      · contradiction
      · rename_i k0 ks0 v vs u us heq
        simp only [List.cons.injEq] at heq
        obtain ⟨rfl, rfl⟩ := heq
        split at he
        · rename_i b1 b2 h1 h2
          cases he
          have hvx : xs[i]? = some v := by
            have := congrArg (·[0]?) hdx
            simpa [List.getElem?_drop] using this
          have hvy : ys[i]? = some u := by
            have := congrArg (·[0]?) hdy
            simpa [List.getElem?_drop] using this
          have hx1 : xs.drop (i + 1) = vs := by
            have := congrArg (List.drop 1) hdx
            simpa [List.drop_drop] using this
          have hy1 : ys.drop (i + 1) = us := by
            have := congrArg (List.drop 1) hdy
            simpa [List.drop_drop] using this
          obtain ⟨c, hc, hrc⟩ := hx.get i v hvx
          obtain ⟨d, hd, hrd⟩ := hy.get i u hvy
          have hcell := eqCell_ok hrc hrd h1 ht n w
          have hrest := eqFields_ok hx hy n w fs (i + 1) ks' b2 hk' (by rw [hx1, hy1]; exact h2)
          have hp1 : (part f.type cx.toArray f.offset).run P w = .ok c w := by
            unfold part
            simp only [Sem.run_bind, hia, Result.andThen_ok, hoff]
            simp [hc]
          have hp2 : (part f.type cy.toArray f.offset).run P w = .ok d w := by
            unfold part
            simp only [Sem.run_bind, hia, Result.andThen_ok, hoff]
            simp [hd]
          simp only [Op.eqFields]
          rw [if_pos hname]
          simp only [Sem.run_bind, hp1, hp2, hcell, Result.andThen_ok]
          cases b1
          · simp
          · simp [hrest]
        · cases he
      · cases he
    split at hk
    · rename_i q hu
      obtain ⟨ks', hk', rfl⟩ := Option.map_eq_some_iff.1 hk
      exact key 0 ks' (.inl ⟨rfl, q, hu⟩) hk' rfl
    · rename_i hu
      obtain ⟨ks', hk', rfl⟩ := Option.map_eq_some_iff.1 hk
      exact key 1 ks' (.inr (.inl ⟨rfl, hu⟩)) hk' rfl
    · rename_i hu
      obtain ⟨ks', hk', rfl⟩ := Option.map_eq_some_iff.1 hk
      exact key 2 ks' (.inr (.inr ⟨rfl, hu⟩)) hk' rfl
    · cases hk

theorem Rel.sl_inv {o : Own} {xs : List V} {c : Value} (h : Rel S (.sl o xs) c) : ∃ b cap, c = .slice b xs.length cap := by
  cases h <;> exact ⟨_, _, rfl⟩

theorem Rel.msl_inv {id sz off len : Nat} {c : Value} (h : Rel S (.msl id sz off len) c) : ∃ b cap, c = .slice b len cap := by
  cases h; exact ⟨_, _, rfl⟩

theorem OpOut.val {B : Nat} {w0 : World} {S S' : Sit} {v : V} {s' : St} {r : Result Next} {c : Value} (hr : r = .ok (.value c) S'.w) (hs : S'.st = s') (hI : Inv B w0 S') (hE : Ext S S') (h : Rel S' v c) :
    OpOut B w0 S v s' r := ⟨S', _, hr, hs, hI, hE, .inl ⟨c, rfl, h⟩⟩

theorem OpOut.skip {B : Nat} {w0 : World} {S S' : Sit} {v : V} {s' : St} {r : Result Next} (hr : r = .ok .skip S'.w) (hs : S'.st = s') (hI : Inv B w0 S') (hE : Ext S S') (h : v = .tup []) :
    OpOut B w0 S v s' r := ⟨S', _, hr, hs, hI, hE, .inr ⟨rfl, h⟩⟩

/-- Bound by 'v': the value is handed on. -/
theorem run_v {s : Sem Value} {w w' : World} {c : Value} (h : s.run P w = .ok c w') : (do Pure.pure (Next.value (← s)) : Sem Next).run P w = .ok (.value c) w' := by
  simp [h]
theorem run_u {s : Sem Unit} {w w' : World} (h : s.run P w = .ok () w') : (do s; Pure.pure Next.skip : Sem Next).run P w = .ok .skip w' := by
  simp [h]

theorem map_pair {α : Type _} {x : Option α} {f : α → V} {s s' : St} {v : V} (h : (x.map fun u => (f u, s)) = some (v, s')) : ∃ u, x = some u ∧ f u = v ∧ s' = s := by
  simp only [Option.map_eq_some_iff, Prod.mk.injEq] at h
  obtain ⟨u, hu, h1, h2⟩ := h
  exact ⟨u, hu, h1, h2.symm⟩

theorem cX_map {l : Array Operand} {ys : List X} {env : Env} {a : Act} (hE : EnvOk S env a) (h : l.toList.mapM cX = some ys) :
    RelL S (ys.map (·.ev env)) (l.map a.eval).toList := by
  have := cX_list hE l.toList ys h
  simpa using this

theorem evOp_ok {h : Hint} {o : Oper} {op : AOp} (hc : cOp P h o = some op) (hnz : isStz op = false) {env : Env} {a : Act} {v : V} {s' : St} (hI : Inv B w0 S) (hE : EnvOk S env a)
    (he : evOp op env S.st = some (v, s')) : OpOut B w0 S v s' ((execOp a.eval o).run P S.w) := by
  unfold cOp at hc
  cases hop : o.op with
  | move x =>
    simp only [hop, Option.map_eq_some_iff] at hc
    obtain ⟨y, hy, rfl⟩ := hc
    simp only [evOp, Option.some.injEq, Prod.mk.injEq] at he
    obtain ⟨rfl, rfl⟩ := he
    exact .pure hI (by simp [execOp, hop]) (cX_ok hE hy)
  | assign x =>
    simp only [hop] at hc
    split at hc
    · rename_i hnil
      simp only [Option.map_eq_some_iff] at hc
      obtain ⟨e, he', rfl⟩ := hc
      simp only [evOp, Option.some.injEq, Prod.mk.injEq] at he
      obtain ⟨rfl, rfl⟩ := he
      have hx : x = .const (.slice none 0 0) := by
        simp only [Bool.and_eq_true] at hnil
        have := hnil.1
        unfold isNilSl at this
        split at this
        · rfl
        · cases this
      subst hx
      refine .val (S' := S.nilb (e.2.2, e.1)) (c := .slice none 0 0) ?_ rfl (hI.nilb _) (Ext.nilb S _) (.slBuf _ (by simp [Sit.nilb]))
      simp [execOp, hop, Act.eval, Sit.nilb]
    · simp only [Option.map_eq_some_iff] at hc
      obtain ⟨y, hy, rfl⟩ := hc
      simp only [evOp, Option.some.injEq, Prod.mk.injEq] at he
      obtain ⟨rfl, rfl⟩ := he
      exact .pure hI (by simp [execOp, hop]) (cX_ok hE hy)
  | pick c x y =>
    simp only [hop, Option.bind_eq_bind, Option.bind_eq_some_iff, Option.pure_def, Option.some.injEq] at hc
    obtain ⟨c', hc', x', hx', y', hy', rfl⟩ := hc
    simp only [evOp] at he
    split at he
    · rename_i t hb
      simp only [Option.some.injEq, Prod.mk.injEq] at he
      obtain ⟨rfl, rfl⟩ := he
      have hcr := cX_ok hE hc'
      rw [hb] at hcr
      have hcv := hcr.bool_inv
      cases t with
      | true => exact .pure hI (by simp [execOp, hop, hcv, asBool]; rfl) (by simpa using cX_ok hE hx')
      | false => exact .pure hI (by simp [execOp, hop, hcv, asBool]; rfl) (by simpa using cX_ok hE hy')
    · cases he
  | alloc e =>
    simp only [hop, Option.map_eq_some_iff] at hc
    obtain ⟨z, hz, rfl⟩ := hc
    simp only [evOp, Option.some.injEq, Prod.mk.injEq] at he
    obtain ⟨rfl, rfl⟩ := he
    obtain ⟨zc, hzr, hzrel, hzreal⟩ := run_zeroV (S := S) hz
    obtain ⟨h1, h2, h3⟩ := alloc_ok hI (hzrel.cells hzreal) e
    refine .val ?_ rfl h1 h2 h3
    simp only [execOp, hop]
    exact run_v (by simp [Instr.alloc, hzr, newVar, newRow, Sit.alloc])
  | box e x =>
    simp only [hop, Option.map_eq_some_iff] at hc
    obtain ⟨y, hy, rfl⟩ := hc
    simp only [evOp] at he
    split at he
    · rename_i hreal
      simp only [Option.some.injEq, Prod.mk.injEq] at he
      obtain ⟨rfl, rfl⟩ := he
      obtain ⟨h1, h2, h3⟩ := alloc_ok hI ((cX_ok hE hy).cells hreal) e
      refine .val ?_ rfl h1 h2 h3
      simp only [execOp, hop]
      exact run_v (by simp [Instr.box, newVar, newRow, Sit.alloc])
    · cases he
  | build t parts =>
    simp only [hop, Option.bind_eq_bind, Option.bind_eq_some_iff, Option.pure_def, Option.some.injEq] at hc
    obtain ⟨pl, hpl, z, hz, ps, hps, rfl⟩ := hc
    obtain ⟨cs, hcs, rfl, rfl⟩ := map_pair he
    obtain ⟨c, hr, hrel⟩ := build_ok hpl hz hps hE hcs
    exact .pure hI (by simp only [execOp, hop]; exact run_v hr) hrel
  | buildSlice t len parts =>
    simp only [hop, Option.bind_eq_bind, Option.bind_eq_some_iff] at hc
    obtain ⟨e, het, z, hz, ps, hps, hc⟩ := hc
    split at hc
    · rename_i hcond
      simp only [Option.pure_def, Option.some.injEq] at hc
      subst hc
      obtain ⟨h0, hbig, _, hzl, hz1⟩ := hcond
      obtain ⟨xs, hxs, rfl, rfl⟩ := map_pair he
      obtain ⟨S', c, hr, hs, hI', hE', hrel⟩ := bsl_ok (bytes := e.2.2) hI (by simpa using het) hz hps h0 hbig hzl hz1 hE hxs
      exact .val (by simp only [execOp, hop]; exact run_v hr) hs hI' hE' hrel
    · cases hc
  | load t x =>
    simp only [hop, Option.bind_eq_bind, Option.bind_eq_some_iff, Option.pure_def, Option.some.injEq] at hc
    obtain ⟨n, hn, y, hy, rfl⟩ := hc
    obtain ⟨rfl, r, hr, hrel⟩ := loadAt_ok hI hn (cX_ok hE hy) he
    exact .pure hI (by simp only [execOp, hop]; exact run_v hr) hrel
  | store t p x =>
    simp only [hop, Option.bind_eq_bind, Option.bind_eq_some_iff, Option.pure_def, Option.some.injEq] at hc
    obtain ⟨n, hn, p', hp', x', hx', hc⟩ := hc
    have hc' : op = .store n p' x' := by
      rcases ite_pick hc with hc | hc
      · rw [hc] at hnz
        simp [isStz] at hnz
      · exact hc
    subst hc'
    obtain ⟨rfl, S', hr, hs, hI', hE'⟩ := storeAt_ok hI hn (cX_ok hE hp') (cX_ok hE hx') he
    exact .skip (by simp only [execOp, hop]; exact run_u hr) hs hI' hE' rfl
  | nilCheck x =>
    simp only [hop, Option.map_eq_some_iff] at hc
    obtain ⟨y, hy, rfl⟩ := hc
    have hx := cX_ok hE hy
    simp only [evOp] at he
    split at he
    · rename_i id off hv
      simp only [Option.some.injEq, Prod.mk.injEq] at he
      obtain ⟨rfl, rfl⟩ := he
      rw [hv] at hx
      exact .pure hI (by simp [execOp, hop, hx.ptr_inv.1]; rfl) (by have := hx.ptr_inv.1; rw [← this]; exact hx)
    · rename_i cs hv
      simp only [Option.some.injEq, Prod.mk.injEq] at he
      obtain ⟨rfl, rfl⟩ := he
      rw [hv] at hx
      obtain ⟨b, off, hq, _⟩ := hx.ept_inv
      exact .pure hI (by simp [execOp, hop, hq]; rfl) (by rw [← hq]; exact hx)
    · rename_i f xs ys hv
      simp only [Option.some.injEq, Prod.mk.injEq] at he
      obtain ⟨rfl, rfl⟩ := he
      rw [hv] at hx
      obtain ⟨cx, cy, hq, _⟩ := hx.fn_inv
      exact .pure hI (by simp [execOp, hop, hq]; rfl) (by rw [← hq]; exact hx)
    · cases he
  | binOp op' t x y yt =>
    simp only [hop, Option.bind_eq_bind, Option.bind_eq_some_iff] at hc
    obtain ⟨x', hx', y', hy', hc⟩ := hc
    have hx := cX_ok hE hx'
    have hy := cX_ok hE hy'
    unfold cBin at hc
    have plain : ∀ (_ : op = .bin op' x' y'), OpOut B w0 S v s' ((execOp a.eval o).run P S.w) := by
      rintro rfl
      obtain ⟨u, hu, rfl, rfl⟩ := map_pair he
      obtain ⟨h1, r, h2, h3⟩ := evBin_ok (P := P) (t := t) x y hx hy hu
      exact .pure hI (by simp only [execOp, hop]; exact run_v (by simp only [Sem.run_bind, h1, Result.andThen_ok, h2])) h3
    have boolEq : ∀ (neg : Bool), P.underlying t = some .bool → ((op' = .eql ∧ neg = false) ∨ (op' = .neq ∧ neg = true)) → op = .eqb neg x' y' → OpOut B w0 S v s' ((execOp a.eval o).run P S.w) := by
      rintro neg hu hop' rfl
      simp only [evOp] at he
      split at he
      · rename_i p q hp hq
        simp only [Option.some.injEq, Prod.mk.injEq] at he
        obtain ⟨rfl, rfl⟩ := he
        rw [hp] at hx
        rw [hq] at hy
        have h1 := eqGuard_plain (P := P) (S := S) (op := op') (t := t) x y (c := a.eval x) (d := a.eval y) (.inr (.inr (.inl ⟨_, _, hx.bool_inv, hy.bool_inv⟩)))
        have h2 := eqb_ok (P := P) (S := S) hu hop' p q
        rw [← hx.bool_inv, ← hy.bool_inv] at h2
        exact .pure hI (by simp only [execOp, hop]; exact run_v (by simp only [Sem.run_bind, h1, Result.andThen_ok, h2])) (.bool _)
      · cases he
    have ptrEq : ∀ (neg : Bool) (e : TypeId) (n : Nat), P.underlying t = some (.pointer e) → szOf P e = some n → n ≠ 0 → ((op' = .eql ∧ neg = false) ∨ (op' = .neq ∧ neg = true)) → op = .eqp neg x' y' →
        OpOut B w0 S v s' ((execOp a.eval o).run P S.w) := by
      rintro neg e n hu hn h0 hop' rfl
      obtain ⟨u, hu', rfl, rfl⟩ := map_pair he
      have fin : ∀ (p q : Option Addr) (b : Bool), a.eval x = .pointer p → a.eval y = .pointer q → (Op.equal t (.pointer p) (.pointer q)).run P S.w = .ok b S.w → u = .bool (b != neg) →
          OpOut B w0 S u S.st ((execOp a.eval o).run P S.w) := by
        rintro p q b hp hq hrun rfl
        have h1 := eqGuard_plain (P := P) (S := S) (op := op') (t := t) x y (c := a.eval x) (d := a.eval y) (.inr (.inr (.inr ⟨_, _, hp, hq⟩)))
        have h2 : (Go.binOp op' t (a.eval x) (a.eval y)).run P S.w = .ok (.bool (b != neg)) S.w := by
          rw [hp, hq]
          rcases hop' with ⟨rfl, rfl⟩ | ⟨rfl, rfl⟩ <;> simp [Go.binOp, hrun]
        exact .pure hI (by simp only [execOp, hop]; exact run_v (by simp only [Sem.run_bind, h1, Result.andThen_ok, h2])) (.bool _)
      have eqn : ∀ (q : Option Addr), (Op.equal t (.pointer none) (.pointer q)).run P S.w = .ok q.isNone S.w := by
        intro q
        rw [equal_unfold, Op.equalIn, Sem.run_bind, run_underlying hu]
        rfl
      have eqn' : ∀ (q : Addr), (Op.equal t (.pointer (some q)) (.pointer none)).run P S.w = .ok false S.w := by
        intro q
        rw [equal_unfold, Op.equalIn, Sem.run_bind, run_underlying hu]
        rfl
      unfold evEqp at hu'
      split at hu'
      · rename_i hp hq
        rw [hp] at hx; rw [hq] at hy
        simp at hu'
        exact fin none none true hx.pnil_inv hy.pnil_inv (eqn none) (by rw [← hu']; cases neg <;> rfl)
      · rename_i id off hp hq
        rw [hp] at hx; rw [hq] at hy
        simp at hu'
        exact fin none _ false hx.pnil_inv hy.ptr_inv.1 (eqn _) (by rw [← hu']; cases neg <;> rfl)
      · rename_i id off hp hq
        rw [hp] at hx; rw [hq] at hy
        simp at hu'
        exact fin _ none false hx.ptr_inv.1 hy.pnil_inv (eqn' _) (by rw [← hu']; cases neg <;> rfl)
      · rename_i id i id' j hp hq
        rw [hp] at hx; rw [hq] at hy
        split at hu'
        · rename_i heq
          subst heq
          simp at hu'
          have := samePtr_run (P := P) (S := S) hu hn h0 (a := ⟨S.μ id, i, none⟩) (b := ⟨S.μ id, j, none⟩) (.inl rfl)
          refine fin _ _ _ hx.ptr_inv.1 hy.ptr_inv.1 this ?_
          rw [← hu']
          by_cases hij : i = j <;> simp [hij]
        · cases hu'
      · cases hu'
    have strEq : ∀ (neg : Bool) (ks : List Nat) (fs : Array Field), P.underlying t = some (.struct fs) → kindsOf P 0 fs.toList = some ks → (P.stoodInHeld t = false ∧ P.eqGuardType P.depth t = false) →
        ((op' = .eql ∧ neg = false) ∨ (op' = .neq ∧ neg = true)) → op = .eqs neg ks x' y' → OpOut B w0 S v s' ((execOp a.eval o).run P S.w) := by
      rintro neg ks fs hu hks ⟨hg1, hg2⟩ hop' rfl
      simp only [evOp] at he
      obtain ⟨q, hq, rfl, rfl⟩ := map_pair he
      unfold evEqs at hq
      split at hq
      · rename_i xs ys hxe hye
        simp only [Option.map_eq_some_iff] at hq
        obtain ⟨b, hb, rfl⟩ := hq
        rw [hxe] at hx
        rw [hye] at hy
        obtain ⟨cx, hcx, hrx⟩ : ∃ cx, a.eval x = .agg (List.toArray cx) ∧ RelL S xs cx := by
          generalize a.eval x = d at hx
          cases hx with
          | agg _ cc hl => exact ⟨cc, rfl, hl⟩
        obtain ⟨cy, hcy, hry⟩ : ∃ cy, a.eval y = .agg (List.toArray cy) ∧ RelL S ys cy := by
          generalize a.eval y = d at hy
          cases hy with
          | agg _ cc hl => exact ⟨cc, rfl, hl⟩
        have hfs : P.fieldsOf t = fs := by unfold Program.fieldsOf; rw [hu]
        have hrun := eqFields_ok (P := P) hrx hry 9998 S.w fs.toList 0 ks b hks (by simpa using hb)
        have h1 := run_eqGuard_agg (P := P) S.w op' t x y (List.toArray cx) (List.toArray cy) hg2
        have h3 : (Op.equalIn (9999 + 1) t (.agg (List.toArray cx)) (.agg (List.toArray cy))).run P S.w = .ok b S.w := by
          rw [run_equalIn_struct S.w 9999 t _ _ (by rw [hfs]; exact hu) hg1, hfs]
          exact hrun
        have h2 : (Go.binOp op' t (a.eval x) (a.eval y)).run P S.w = .ok (.bool (b != neg)) S.w := by
          rw [hcx, hcy]
          rcases hop' with ⟨rfl, rfl⟩ | ⟨rfl, rfl⟩
          · rw [run_eql_struct, h3]; simp
          · rw [run_neq_struct, h3]; simp
        rw [hcx, hcy] at h2
        refine .pure hI ?_ (.bool _)
        simp only [execOp, hop]
        exact run_v (by simp only [Sem.run_bind, hcx, hcy, h1, Result.andThen_ok, h2])
      · cases hq
    have nilEq : ∀ (sl neg : Bool), ((op' = .eql ∧ neg = false) ∨ (op' = .neq ∧ neg = true)) →
        ((sl = false ∧ ∃ ms, P.underlying t = some (.interface ms) ∧ y' = .c .nilI) ∨ (sl = true ∧ ∃ e, P.underlying t = some (.slice e) ∧ y' = .c (.sl .nil []))) → op = .eqn sl neg x' →
        OpOut B w0 S v s' ((execOp a.eval o).run P S.w) := by
      rintro sl neg hop' hty rfl
      have fin : ∀ (c d : Value) (b : Bool), a.eval x = c → a.eval y = d → (eqGuard op' t x y c d).run P S.w = .ok () S.w → (Op.equal t c d).run P S.w = .ok b S.w → (∀ k n, c ≠ .int k n) → (∀ k n, c ≠ .float k n) → (∀ k m n, c ≠ .complex k m n) → (∀ q, c ≠ .string q) →
          v = .bool (b != neg) → s' = S.st → OpOut B w0 S v s' ((execOp a.eval o).run P S.w) := by
        rintro c d b hc' hd' h1 hrun n1 n2 n3 n4 rfl rfl
        have h2 : (Go.binOp op' t c d).run P S.w = .ok (.bool (b != neg)) S.w := by
          rcases hop' with ⟨rfl, rfl⟩ | ⟨rfl, rfl⟩ <;> cases c <;> simp [Go.binOp, hrun] <;> first | exact absurd rfl (n1 _ _) | exact absurd rfl (n2 _ _) | exact absurd rfl (n3 _ _ _) | exact absurd rfl (n4 _)
        refine .pure hI ?_ (.bool _)
        simp only [execOp, hop]
        exact run_v (by simp only [Sem.run_bind, hc', hd', h1, Result.andThen_ok, h2])
      have hcy : (∃ u, y' = .c u ∧ ∀ f, u ≠ .fn (.func f) [] []) → ∃ q, y = .const q := by
        rintro ⟨u, hu, hnf⟩
        cases y with
        | tmp t => simp [cX] at hy'; rw [← hy'] at hu; cases hu
        | const q => exact ⟨q, rfl⟩
        | func f => simp [cX] at hy'; rw [← hy'] at hu; simp at hu; exact absurd hu.symm (hnf f)
        | global _ => simp [cX] at hy'
      rcases hty with ⟨rfl, ms, hu, rfl⟩ | ⟨rfl, e, hu, rfl⟩
      · obtain ⟨q, rfl⟩ := hcy ⟨_, rfl, by intro f; simp⟩
        have hd : a.eval (.const q) = .nilIface := by
          generalize a.eval (.const q) = d at hy
          cases hy
          rfl
        simp only [evOp] at he
        generalize hxe : X.ev env x' = xe at he hx
        have g0 : ∀ c : Value, (∀ cs, c ≠ .agg cs) → (eqGuard op' t x (.const q) c .nilIface).run P S.w = .ok () S.w := by
          intro c hcn
          rcases hop' with ⟨rfl, -⟩ | ⟨rfl, -⟩ <;> cases c <;> first | (simp [eqGuard]; done) | exact absurd rfl (hcn _)
        split at he
        · simp only [Option.some.injEq, Prod.mk.injEq] at he
          obtain ⟨rfl, rfl⟩ := he
          have hcx : a.eval x = .nilIface := by
            generalize a.eval x = d at hx
            cases hx
            rfl
          refine fin .nilIface .nilIface true hcx hd (g0 _ (by simp)) (by rw [equal_unfold, Op.equalIn, Sem.run_bind, run_underlying hu]; rfl) (by simp) (by simp) (by simp) (by simp) (by cases neg <;> rfl) rfl
        · simp only [Option.some.injEq, Prod.mk.injEq] at he
          obtain ⟨rfl, rfl⟩ := he
          obtain ⟨t', c', hcx⟩ : ∃ t' c', a.eval x = .iface t' c' := by
            generalize a.eval x = d at hx
            cases hx
            exact ⟨_, _, rfl⟩
          refine fin _ .nilIface false hcx hd (g0 _ (by simp)) (by rw [equal_unfold, Op.equalIn, Sem.run_bind, run_underlying hu]; rfl) (by simp) (by simp) (by simp) (by simp) (by cases neg <;> rfl) rfl
        all_goals first | contradiction | (cases he; done) | (exfalso; simp_all; done)
      · obtain ⟨q, rfl⟩ := hcy ⟨_, rfl, by intro f; simp⟩
        have hd : a.eval (.const q) = .slice none 0 0 := by
          generalize a.eval (.const q) = d at hy
          cases hy with
          | slNil => rfl
          | slAt _ _ _ _ _ _ _ _ _ h4 => exact h4.elim
        simp only [evOp] at he
        generalize hxe : X.ev env x' = xe at he hx
        have g0 : ∀ (b : Option Addr) (l c : Nat), (eqGuard op' t x (.const q) (.slice b l c) (.slice none 0 0)).run P S.w = .ok () S.w := by
          intro b l c
          rcases hop' with ⟨rfl, -⟩ | ⟨rfl, -⟩ <;> simp [eqGuard]
        have some1 : ∀ (ad : Addr) (l c : Nat), a.eval x = .slice (some ad) l c → v = .bool neg → s' = S.st → OpOut B w0 S v s' ((execOp a.eval o).run P S.w) := by
          rintro ad l c hcx rfl rfl
          exact fin _ _ false hcx hd (g0 _ _ _) (by rw [equal_unfold, Op.equalIn, Sem.run_bind, run_underlying hu]; rfl) (by simp) (by simp) (by simp) (by simp) (by cases neg <;> rfl) rfl
        split at he
        all_goals first | contradiction | (cases he; done) | skip
        · simp only [Option.some.injEq, Prod.mk.injEq] at he
          obtain ⟨rfl, rfl⟩ := he
          have hcx : a.eval x = .slice none 0 0 := by
            generalize a.eval x = d at hx
            cases hx with
            | slNil => rfl
            | slAt _ _ _ _ _ _ _ _ _ h4 => exact h4.elim
          exact fin _ _ true hcx hd (g0 _ _ _) (by rw [equal_unfold, Op.equalIn, Sem.run_bind, run_underlying hu]; rfl) (by simp) (by simp) (by simp) (by simp) (by cases neg <;> rfl) rfl
        · simp only [Option.some.injEq, Prod.mk.injEq] at he
          obtain ⟨rfl, rfl⟩ := he
          obtain ⟨ad, hcx⟩ : ∃ ad, a.eval x = .slice (some ad) 0 0 := by
            generalize a.eval x = d at hx
            cases hx with
            | slNew ad => exact ⟨_, rfl⟩
            | slAt _ _ _ _ _ _ _ _ _ h4 => exact h4.elim
          exact some1 _ _ _ hcx rfl rfl
        · simp only [Option.some.injEq, Prod.mk.injEq] at he
          obtain ⟨rfl, rfl⟩ := he
          obtain ⟨ad, l, c, hcx⟩ : ∃ ad l c, a.eval x = .slice (some ad) l c := by
            generalize a.eval x = d at hx
            cases hx with
            | slAt => exact ⟨_, _, _, rfl⟩
          exact some1 _ _ _ hcx rfl rfl
        · simp only [Option.some.injEq, Prod.mk.injEq] at he
          obtain ⟨rfl, rfl⟩ := he
          obtain ⟨ad, l, c, hcx⟩ : ∃ ad l c, a.eval x = .slice (some ad) l c := by
            generalize a.eval x = d at hx
            cases hx with
            | msl => exact ⟨_, _, _, rfl⟩
          exact some1 _ _ _ hcx rfl rfl
    split at hc
    · simp at hc; exact plain hc.symm
    · simp at hc; exact plain hc.symm
    · rename_i hu
      split at hc
      · simp at hc; exact boolEq false hu (.inl ⟨rfl, rfl⟩) hc.symm
      · simp at hc; exact boolEq true hu (.inr ⟨rfl, rfl⟩) hc.symm
      · cases hc
    · rename_i e hu
      split at hc
      · rename_i hany
        cases hsz : szOf P e with
        | none => rw [hsz] at hany; simp at hany
        | some n =>
          rw [hsz] at hany
          have h0 : n ≠ 0 := by simpa using hany
          split at hc
          · simp at hc; exact ptrEq false e n hu hsz h0 (.inl ⟨rfl, rfl⟩) hc.symm
          · simp at hc; exact ptrEq true e n hu hsz h0 (.inr ⟨rfl, rfl⟩) hc.symm
          · cases hc
      · cases hc
    · rename_i fs hu
      split at hc
      · rename_i ks hks
        split at hc
        · rename_i hg
          simp at hc; exact strEq false ks fs hu hks hg (.inl ⟨rfl, rfl⟩) hc.symm
        · cases hc
      · rename_i ks hks
        split at hc
        · rename_i hg
          simp at hc; exact strEq true ks fs hu hks hg (.inr ⟨rfl, rfl⟩) hc.symm
        · cases hc
      · cases hc
    · rename_i ms hu
      split at hc
      · simp at hc; exact nilEq false false (.inl ⟨rfl, rfl⟩) (.inl ⟨rfl, _, hu, rfl⟩) hc.symm
      · simp at hc; exact nilEq false true (.inr ⟨rfl, rfl⟩) (.inl ⟨rfl, _, hu, rfl⟩) hc.symm
      · cases hc
    · rename_i e hu
      split at hc
      · simp at hc; exact nilEq true false (.inl ⟨rfl, rfl⟩) (.inr ⟨rfl, _, hu, rfl⟩) hc.symm
      · simp at hc; exact nilEq true true (.inr ⟨rfl, rfl⟩) (.inr ⟨rfl, _, hu, rfl⟩) hc.symm
      · cases hc
    · cases hc
  | unOp op' t x =>
    simp only [hop, Option.map_eq_some_iff] at hc
    obtain ⟨y, hy, rfl⟩ := hc
    obtain ⟨u, hu, rfl, rfl⟩ := map_pair he
    obtain ⟨r, hr, hrel⟩ := evUn_ok (P := P) (cX_ok hE hy) hu
    exact .pure hI (by simp only [execOp, hop]; exact run_v hr) hrel
  | convert src dst x =>
    simp only [hop, Option.bind_eq_bind, Option.bind_eq_some_iff] at hc
    obtain ⟨y, hy, hc⟩ := hc
    have hx := cX_ok hE hy
    split at hc
    · rename_i k1 k hu1 hu2
      simp only [Option.pure_def, Option.some.injEq] at hc
      subst hc
      simp only [evOp] at he
      split at he
      · rename_i j n hv
        simp only [Option.some.injEq, Prod.mk.injEq] at he
        obtain ⟨rfl, rfl⟩ := he
        rw [hv] at hx
        exact .pure hI (by simp only [execOp, hop]; exact run_v (by simp [Go.convert, run_underlying hu1, run_underlying hu2, hx.int_inv, Conv.intToInt])) (.int _ _)
      · cases he
    · rename_i hu1 hu2
      simp only [Option.pure_def, Option.some.injEq] at hc
      subst hc
      simp only [evOp] at he
      split at he
      · rename_i b hv
        simp only [Option.some.injEq, Prod.mk.injEq] at he
        obtain ⟨rfl, rfl⟩ := he
        rw [hv] at hx
        exact .pure hI (by simp only [execOp, hop]; exact run_v (by simp [Go.convert, run_underlying hu1, run_underlying hu2, hx.str_inv])) (.str _)
      · cases he
    · rename_i e hu1 hu2
      split at hc
      · rename_i hu3
        simp only [Option.pure_def, Option.some.injEq] at hc
        subst hc
        simp only [evOp] at he
        split at he
        · rename_i o' xs hv
          obtain ⟨bs, hbs, rfl, rfl⟩ := map_pair he
          rw [hv] at hx
          exact .pure hI (by simp only [execOp, hop]; exact run_v (b2s_ok hu1 hu3 hu2 hx hbs)) (.str _)
        · cases he
      · cases hc
    · rename_i k hu1 hu2
      simp only [Option.pure_def, Option.some.injEq] at hc
      subst hc
      simp only [evOp] at he
      split at he
      · rename_i k' n hv
        simp only [Option.some.injEq, Prod.mk.injEq] at he
        obtain ⟨rfl, rfl⟩ := he
        rw [hv] at hx
        have hstr : (Value.string (Utf8.encode n)) = .string ⟨(Utf8.encode n).data.toList.toArray⟩ := by simp
        refine .pure hI (c := .string ⟨(Utf8.encode n).data.toList.toArray⟩) (by
          simp only [execOp, hop]
          rw [← hstr]
          refine run_v ?_
          rw [hx.int_inv]
          exact run_convert_int_string S.w src dst k' n (by rw [hu1]; rfl) hu2) (.str _)
      · cases he
    · rename_i t hu1 hu2
      split at hc
      · rename_i hsz
        simp only [Option.pure_def, Option.some.injEq] at hc
        subst hc
        obtain ⟨rfl, r, hr, hrel⟩ := pu_ok hI hu1 hu2 hsz hx rfl he
        exact .pure hI (by simp only [execOp, hop]; exact run_v hr) hrel
      · cases hc
    · rename_i u hu1 hu2
      split at hc
      · rename_i hl
        simp only [Option.pure_def, Option.some.injEq] at hc
        subst hc
        obtain ⟨rfl, r, hr, hrel⟩ := up_ok hI hu1 hu2 hl hx rfl he
        exact .pure hI (by simp only [execOp, hop]; exact run_v hr) hrel
      · cases hc
    · cases hc
  | makeFunc fn first cap =>
    cases fn with
    | func f =>
      simp only [hop, Option.bind_eq_bind, Option.bind_eq_some_iff, Option.pure_def, Option.some.injEq] at hc
      obtain ⟨l1, h1, l2, h2, rfl⟩ := hc
      simp only [evOp, Option.some.injEq, Prod.mk.injEq] at he
      obtain ⟨rfl, rfl⟩ := he
      have r1 := cX_map hE h1
      have r2 := cX_map hE h2
      refine .pure hI (c := .func (.func f) (first.map a.eval) (cap.map a.eval)) (by simp only [execOp, hop]; exact run_v (by simp [Instr.makeFunc])) ?_
      have := Rel.fn (.func f) _ _ _ _ r1 r2
      simpa only [Array.toArray_toList] using this
    | _ => simp [hop] at hc
  | makeMap t r =>
    cases r with
    | some _ => simp [hop] at hc
    | none =>
      simp only [hop, Option.bind_eq_bind, Option.bind_eq_some_iff, Option.pure_def, Option.some.injEq] at hc
      obtain ⟨kt, hm, rfl⟩ := hc
      simp only [evOp, Option.some.injEq, Prod.mk.injEq] at he
      obtain ⟨rfl, rfl⟩ := he
      obtain ⟨h1, h2, h3⟩ := makeMap_ok hI
      exact .val (by simp only [execOp, hop]; exact run_v (by simp [Instr.makeMap, Sit.alloc])) rfl h1 h2 h3
  | makeSlice t len cap =>
    simp only [hop, Option.bind_eq_bind, Option.bind_eq_some_iff] at hc
    obtain ⟨e, het, z, hz, hc⟩ := hc
    split at hc
    · rename_i hcond
      obtain ⟨hs0, hb0, hzl, hz1⟩ := hcond
      simp only [Option.bind_eq_some_iff, Option.pure_def, Option.some.injEq] at hc
      obtain ⟨x', hx', y', hy', rfl⟩ := hc
      obtain ⟨S', r, hr, hs, hI', hE', hrel⟩ := mks_ok (P := P) hI (e := e.1) (sz := e.2.1) (by_ := e.2.2) (by simpa using het) hz hs0 hb0 hzl (cX_ok hE hx') (cX_ok hE hy') he
      exact .val (by simp only [execOp, hop]; exact run_v hr) hs hI' hE' hrel
    · cases hc
  | slice t x lo hi mx =>
    cases mx with
    | some m =>
      cases lo with
      | none => simp [hop] at hc
      | some lo =>
        cases hi with
        | none => simp [hop] at hc
        | some hi =>
          simp only [hop, Option.bind_eq_bind] at hc
          split at hc
          · rename_i e hu
            simp only [Option.bind_eq_some_iff, Option.pure_def, Option.some.injEq] at hc
            obtain ⟨n, hn, x', hx', lo', hlo', hi', hhi', m', hm', rfl⟩ := hc
            obtain ⟨u, hu', rfl, rfl⟩ := map_pair he
            obtain ⟨rfl, r, hr⟩ := slc3_ok (P := P) hI hu hn (cX_ok hE hx') (cX_ok hE hlo') (cX_ok hE hhi') (cX_ok hE hm') hu'
            exact .pure hI (by simp only [execOp, hop]; exact run_v hr) (.junk _)
          · cases hc
    | none =>
      simp only [hop, Option.bind_eq_bind, Option.bind_eq_some_iff] at hc
      obtain ⟨lo', hlo, hi', hhi, hc⟩ := hc
      split at hc
      · rename_i hu
        simp only [Option.bind_eq_some_iff, Option.pure_def, Option.some.injEq] at hc
        obtain ⟨x', hx', rfl⟩ := hc
        obtain ⟨u, hu', rfl, rfl⟩ := map_pair he
        obtain ⟨r, hr, hrel⟩ := evSlcS_ok (P := P) (cX_ok hE hx') (cXo_ok hE hlo) (cXo_ok hE hhi) hu hu'
        exact .pure hI (by simp only [execOp, hop]; exact run_v hr) hrel
      · rename_i e hu
        simp only [Option.bind_eq_some_iff, Option.pure_def, Option.some.injEq] at hc
        obtain ⟨n, hn, x', hx', rfl⟩ := hc
        obtain ⟨u, hu', rfl, rfl⟩ := map_pair he
        obtain ⟨r, hr, hrel⟩ := evSlc_ok (P := P) hI (cX_ok hE hx') (cXo_ok hE hlo) (cXo_ok hE hhi) hu hn hu'
        exact .pure hI (by simp only [execOp, hop]; exact run_v hr) hrel
      · cases hc
  | fieldAddr t x f =>
    simp only [hop, Option.bind_eq_bind, Option.bind_eq_some_iff] at hc
    obtain ⟨q, hq, hc⟩ := hc
    split at hc
    · cases hc
    · rename_i h0
      simp only [Option.bind_eq_some_iff, Option.pure_def, Option.some.injEq] at hc
      obtain ⟨y, hy, rfl⟩ := hc
      have hx := cX_ok hE hy
      simp only [evOp] at he
      split at he
      · rename_i id off hv
        simp only [Option.some.injEq, Prod.mk.injEq] at he
        obtain ⟨rfl, rfl⟩ := he
        rw [hv] at hx
        obtain ⟨hp, hid⟩ := hx.ptr_inv
        exact .pure hI (by simp only [execOp, hop]; exact run_v (fieldAddr_ok hq h0 hp)) (.ptr id _ hid)
      · rename_i cs hv
        simp only [Option.some.injEq, Prod.mk.injEq] at he
        obtain ⟨rfl, rfl⟩ := he
        rw [hv] at hx
        obtain ⟨b, off, hp, hrc⟩ := hx.ept_inv
        exact .pure hI (by simp only [execOp, hop]; exact run_v (fieldAddr_ok hq h0 hp)) (.ept _ b _ (hrc.drop _))
      · cases he
  | field t x f =>
    simp only [hop, Option.bind_eq_bind, Option.bind_eq_some_iff, Option.pure_def, Option.some.injEq] at hc
    obtain ⟨q, hq, y, hy, rfl⟩ := hc
    have hx := cX_ok hE hy
    simp only [evOp] at he
    split at he
    · rename_i cs hv
      obtain ⟨u, hu, rfl, rfl⟩ := map_pair he
      rw [hv] at hx
      obtain ⟨r, hr, hrel⟩ := field_ok (P := P) hq hx hu
      exact .pure hI (by simp only [execOp, hop]; exact run_v hr) hrel
    · cases he
  | indexAddr t x i =>
    simp only [hop, Option.bind_eq_bind, Option.bind_eq_some_iff, Option.pure_def, Option.some.injEq] at hc
    obtain ⟨e, het, x', hx', i', hi', rfl⟩ := hc
    have hx := cX_ok hE hx'
    have hi := cX_ok hE hi'
    have hu : P.underlying t = some (.slice e.1) ∧ szOf P e.1 = some e.2.1 := by
      unfold elemOf at het
      split at het
      · rename_i e' h'
        simp only [Option.map_eq_some_iff] at het
        obtain ⟨q, hq, rfl⟩ := het
        exact ⟨h', by simp [szOf, hq]⟩
      · cases het
    simp only [evOp] at he
    split at he
    · rename_i o xs k n hv hn
      split at he
      · rename_i h0
        split at he
        · rename_i v' hget
          split at he
          · rename_i hsz
            simp only [Option.some.injEq, Prod.mk.injEq] at he
            obtain ⟨rfl, rfl⟩ := he
            rw [hv] at hx
            rw [hn] at hi
            obtain ⟨r, hr, hrel⟩ := indexAt_ok (P := P) hu.1 hu.2 (k := k) hx h0 hget hsz
            exact .pure hI (by simp only [execOp, hop, hi.int_inv]; exact run_v hr) hrel
          · cases he
        · cases he
      · cases he
    · rename_i id z off len k n hv hn
      split at he
      · rename_i hcnd
        obtain ⟨rfl, h0, h1⟩ := hcnd
        simp only [Option.some.injEq, Prod.mk.injEq] at he
        obtain ⟨rfl, rfl⟩ := he
        rw [hv] at hx
        rw [hn] at hi
        obtain ⟨r, hr, hrel⟩ := indexMsl_ok (P := P) hu.1 hu.2 (k := k) hx h0 h1
        exact .pure hI (by simp only [execOp, hop, hi.int_inv]; exact run_v hr) hrel
      · cases he
    · rename_i bi z xs k n hv hn
      split at he
      · rename_i hcnd
        obtain ⟨rfl, rfl⟩ := hcnd
        simp only [Option.some.injEq, Prod.mk.injEq] at he
        obtain ⟨rfl, rfl⟩ := he
        rw [hv] at hx
        rw [hn] at hi
        obtain ⟨r, hr, hrel⟩ := indexSlx_ok (P := P) hu.1 hu.2 (k := k) hx
        exact .pure hI (by simp only [execOp, hop, hi.int_inv]; exact run_v hr) hrel
      · cases he
    · cases he
  | index t x i =>
    simp only [hop] at hc
    split at hc
    · rename_i hu
      simp only [Option.bind_eq_bind, Option.bind_eq_some_iff, Option.pure_def, Option.some.injEq] at hc
      obtain ⟨x', hx', i', hi', rfl⟩ := hc
      have hx := cX_ok hE hx'
      have hi := cX_ok hE hi'
      simp only [evOp] at he
      split at he
      · rename_i b k n hv hn
        split at he
        · rename_i h0
          split at he
          · rename_i c hget
            simp only [Option.some.injEq, Prod.mk.injEq] at he
            obtain ⟨rfl, rfl⟩ := he
            rw [hv] at hx
            rw [hn] at hi
            exact .pure hI (by simp only [execOp, hop, hi.int_inv, hx.str_inv]; exact run_v (index_ok hu h0 hget)) (.int _ _)
          · cases he
        · cases he
      · cases he
    · cases hc
  | extract x i =>
    simp only [hop, Option.map_eq_some_iff] at hc
    obtain ⟨y, hy, rfl⟩ := hc
    have hx := cX_ok hE hy
    simp only [evOp] at he
    split at he
    · rename_i vs hv
      obtain ⟨u, hu, rfl, rfl⟩ := map_pair he
      rw [hv] at hx
      obtain ⟨cc, hq, hl⟩ := hx.tup_inv
      obtain ⟨c, hc', hrel⟩ := hl.get i u hu
      exact .pure hI (by simp only [execOp, hop, hq]; exact run_v (by simp [Instr.extract, hc'])) hrel
    · cases he
  | lookup t m k ok =>
    simp only [hop, Option.bind_eq_bind, Option.bind_eq_some_iff, Option.pure_def, Option.some.injEq] at hc
    obtain ⟨kt, hm, kk, hkk, z, hz, m', hm', k', hk', rfl⟩ := hc
    obtain ⟨rfl, r, hr, hrel⟩ := lookup_ok hI (kt := kt.1) (et := kt.2) (by simpa using hm) hkk hz (cX_ok hE hm') (cX_ok hE hk') he
    exact .pure hI (by simp only [execOp, hop]; exact run_v hr) hrel
  | mapUpdate t m k x =>
    simp only [hop, Option.bind_eq_bind, Option.bind_eq_some_iff, Option.pure_def, Option.some.injEq] at hc
    obtain ⟨kt, hm, kk, hkk, m', hm', k', hk', x', hx', rfl⟩ := hc
    obtain ⟨rfl, S', hr, hs, hI', hE'⟩ := mapUpdate_ok hI (kt := kt.1) (et := kt.2) (by simpa using hm) hkk (cX_ok hE hm') (cX_ok hE hk') (cX_ok hE hx') he
    exact .skip (by simp only [execOp, hop]; exact run_u hr) hs hI' hE' rfl
  | insert t m k x =>
    simp only [hop, Option.bind_eq_bind, Option.bind_eq_some_iff, Option.pure_def, Option.some.injEq] at hc
    obtain ⟨kt, hm, kk, hkk, m', hm', k', hk', x', hx', rfl⟩ := hc
    obtain ⟨rfl, S', hr, hs, hI', hE'⟩ := mapUpdate_ok hI (kt := kt.1) (et := kt.2) (by simpa using hm) hkk (cX_ok hE hm') (cX_ok hE hk') (cX_ok hE hx') he
    exact .skip (by simp only [execOp, hop]; exact run_u hr) hs hI' hE' rfl
  | mapEntry t m k =>
    simp only [hop, Option.bind_eq_bind, Option.bind_eq_some_iff, Option.pure_def, Option.some.injEq] at hc
    obtain ⟨kt, hm, kk, hkk, z, hz, m', hm', k', hk', rfl⟩ := hc
    obtain ⟨S', r, hr, hs, hI', hE', hrel⟩ := mapEntry_ok hI (kt := kt.1) (et := kt.2) (by simpa using hm) hkk hz (cX_ok hE hm') (cX_ok hE hk') he
    exact .val (by simp only [execOp, hop]; exact run_v hr) hs hI' hE' hrel
  | entryStore t m b x =>
    simp only [hop, Option.bind_eq_bind, Option.bind_eq_some_iff, Option.pure_def, Option.some.injEq] at hc
    obtain ⟨m', hm', b', hb', x', hx', rfl⟩ := hc
    obtain ⟨rfl, S', hr, hs, hI', hE'⟩ := entryStore_ok (t := t) hI (cX_ok hE hm') (cX_ok hE hb') (cX_ok hE hx') he
    exact .skip (by simp only [execOp, hop]; exact run_u hr) hs hI' hE' rfl
  | range t x =>
    simp only [hop] at hc
    split at hc
    · rename_i hu
      simp only [Option.map_eq_some_iff] at hc
      obtain ⟨y, hy, rfl⟩ := hc
      have hx := cX_ok hE hy
      simp only [evOp] at he
      split at he
      · rename_i b hv
        simp only [Option.some.injEq, Prod.mk.injEq] at he
        obtain ⟨rfl, rfl⟩ := he
        rw [hv] at hx
        obtain ⟨r, hr, hI', hrel⟩ := range_ok (P := P) hI hu hx
        exact .val (by simp only [execOp, hop]; exact run_v hr) rfl hI' (Ext.alloc hI _ _) hrel
      · cases he
    · cases hc
  | next x isS =>
    cases isS with
    | false => simp [hop] at hc
    | true =>
      simp only [hop, Option.map_eq_some_iff] at hc
      obtain ⟨y, hy, rfl⟩ := hc
      obtain ⟨S', r, hr, hs, hI', hE', hrel⟩ := next_ok (P := P) (t := o.type) hI (cX_ok hE hy) he
      exact .val (by simp only [execOp, hop]; exact run_v hr) hs hI' hE' hrel
  | call c =>
    obtain ⟨callee, args, argTypes⟩ := c
    cases callee with
    | value f =>
      simp only [hop, Option.bind_eq_bind, Option.bind_eq_some_iff, Option.pure_def, Option.some.injEq] at hc
      obtain ⟨f', _, as', _, rfl⟩ := hc
      simp [evOp] at he
    | invoke r m => simp [hop] at hc
    | builtin b =>
      cases b with
      | len =>
        simp only [hop] at hc
        split at hc
        · rename_i x t hargs htys
          have hb : ∀ w, (do Pure.pure (Next.value (← Builtin.len_ argTypes o.type (args.map a.eval))) : Sem Next).run P w = ((Builtin.len_ argTypes o.type (args.map a.eval)).run P w).andThen fun v w' => .ok (.value v) w' := fun w => by
            rw [Sem.run_bind]; rfl
          have hex : (execOp a.eval o).run P S.w = ((Builtin.len_ argTypes o.type (args.map a.eval)).run P S.w).andThen fun v w' => .ok (.value v) w' := by
            simp only [execOp, hop, resolve, invoke, builtin]
            rw [← hb]
            rfl
          have hA : args = #[x] := by apply Array.ext'; simpa using hargs
          have hT : argTypes = #[t] := by apply Array.ext'; simpa using htys
          subst hA hT
          have fin : ∀ (n : Nat), (Builtin.len_ #[t] o.type #[a.eval x]).run P S.w = .ok (.int .i64 n) S.w → v = .int .i64 n → s' = S.st →
              OpOut B w0 S v s' ((execOp a.eval o).run P S.w) := by
            rintro n hr rfl rfl
            refine .pure hI ?_ (.int _ _)
            rw [hex]
            simp only [List.map_toArray, List.map_cons, List.map_nil, hr, Result.andThen_ok]
          split at hc
          · rename_i hu
            simp only [Option.map_eq_some_iff] at hc
            obtain ⟨y, hy, rfl⟩ := hc
            have hx := cX_ok hE hy
            simp only [evOp, evLen] at he
            split at he
            · rename_i b hk hv
              rw [hv] at hx
              simp only [Option.some.injEq, Prod.mk.injEq] at he
              obtain ⟨rfl, rfl⟩ := he
              exact fin b.length (by simp [Builtin.len_, run_underlying hu, hx.str_inv, goInt]; rfl) rfl rfl
            all_goals (exfalso; first | omega | cases he)
          · rename_i e hu
            simp only [Option.map_eq_some_iff] at hc
            obtain ⟨y, hy, rfl⟩ := hc
            have hx := cX_ok hE hy
            simp only [evOp, evLen] at he
            split at he
            · rename_i hk hv; cases hk
            · rename_i o' xs hk hv
              rw [hv] at hx
              simp only [Option.some.injEq, Prod.mk.injEq] at he
              obtain ⟨rfl, rfl⟩ := he
              obtain ⟨b, c, hq⟩ := hx.sl_inv
              exact fin xs.length (by simp [Builtin.len_, run_underlying hu, hq, goInt]) rfl rfl
            · rename_i id z off len hk hv
              rw [hv] at hx
              simp only [Option.some.injEq, Prod.mk.injEq] at he
              obtain ⟨rfl, rfl⟩ := he
              obtain ⟨b, c, hq⟩ := hx.msl_inv
              exact fin len (by simp [Builtin.len_, run_underlying hu, hq, goInt]) rfl rfl
            all_goals (exfalso; first | omega | cases he)
          · rename_i k e hu
            simp only [Option.map_eq_some_iff] at hc
            obtain ⟨y, hy, rfl⟩ := hc
            have hx := cX_ok hE hy
            simp only [evOp, evLen] at he
            split at he
            · rename_i hk hv; cases hk
            · rename_i hk hv; cases hk
            · rename_i hk hv; cases hk
            · rename_i hk hv
              rw [hv] at hx
              simp only [Option.some.injEq, Prod.mk.injEq] at he
              obtain ⟨rfl, rfl⟩ := he
              exact fin 0 (by simp [Builtin.len_, run_underlying hu, hx.mnil_inv, goInt]) rfl rfl
            · rename_i id hk hv
              rw [hv] at hx
              split at he
              · rename_i es clock hid
                simp only [Option.some.injEq, Prod.mk.injEq] at he
                obtain ⟨rfl, rfl⟩ := he
                obtain ⟨l, hl, hrel⟩ := hI.mapAt hid
                have hg := getObj_run (P := P) hl (by intro _ _ _ q; cases q)
                exact fin es.length (by simp [Builtin.len_, run_underlying hu, hx.map_inv.1, hg, goInt, hrel.length]) rfl rfl
              · cases he
            · cases he
          · cases hc
        · cases hc
      | clear =>
        simp only [hop] at hc
        split at hc
        · rename_i x t hargs htys
          simp only [Option.bind_eq_bind, Option.bind_eq_some_iff] at hc
          obtain ⟨e, het, z, hz, hc⟩ := hc
          split at hc
          · rename_i hcond
            obtain ⟨hs0, hzl, hz1⟩ := hcond
            simp only [Option.bind_eq_some_iff, Option.pure_def, Option.some.injEq] at hc
            obtain ⟨x', hx', rfl⟩ := hc
            have hA : args = #[x] := by apply Array.ext'; simpa using hargs
            have hT : argTypes = #[t] := by apply Array.ext'; simpa using htys
            subst hA hT
            obtain ⟨rfl, S', hr, hs, hI', hE'⟩ := clr_ok (P := P) (ty := o.type) hI (by simpa using het) hz hs0 hzl hz1 (cX_ok hE hx') he
            refine .val (c := .tuple #[]) ?_ hs hI' hE' (.tup [] [] .nil)
            simp only [execOp, hop, resolve, invoke, builtin, List.map_toArray, List.map_cons, List.map_nil]
            exact run_v hr
          · cases hc
        · cases hc
      | max =>
        simp only [hop] at hc
        split at hc
        · rename_i x y t u hargs htys
          split at hc
          · simp only [Option.bind_eq_bind, Option.bind_eq_some_iff, Option.pure_def, Option.some.injEq] at hc
            obtain ⟨x', hx', y', hy', rfl⟩ := hc
            have hA : args = #[x, y] := by apply Array.ext'; simpa using hargs
            have hT : argTypes = #[t, u] := by apply Array.ext'; simpa using htys
            subst hA hT
            obtain ⟨w, hw, rfl, rfl⟩ := map_pair he
            obtain ⟨r, hr, hrel⟩ := mxn_ok (P := P) (S := S) (t := t) (u := u) (ty := o.type) (cX_ok hE hx') (cX_ok hE hy') hw
            simp only [if_true] at hr
            refine .pure hI ?_ hrel
            simp only [execOp, hop, resolve, invoke, builtin, List.map_toArray, List.map_cons, List.map_nil]
            exact run_v hr
          · cases hc
        · cases hc
      | min =>
        simp only [hop] at hc
        split at hc
        · rename_i x y t u hargs htys
          split at hc
          · simp only [Option.bind_eq_bind, Option.bind_eq_some_iff, Option.pure_def, Option.some.injEq] at hc
            obtain ⟨x', hx', y', hy', rfl⟩ := hc
            have hA : args = #[x, y] := by apply Array.ext'; simpa using hargs
            have hT : argTypes = #[t, u] := by apply Array.ext'; simpa using htys
            subst hA hT
            obtain ⟨w, hw, rfl, rfl⟩ := map_pair he
            obtain ⟨r, hr, hrel⟩ := mxn_ok (P := P) (S := S) (t := t) (u := u) (ty := o.type) (cX_ok hE hx') (cX_ok hE hy') hw
            simp only [Bool.false_eq_true, if_false] at hr
            refine .pure hI ?_ hrel
            simp only [execOp, hop, resolve, invoke, builtin, List.map_toArray, List.map_cons, List.map_nil]
            exact run_v hr
          · cases hc
        · cases hc
      | append =>
        simp only [hop] at hc
        split at hc
        · rename_i x y t u hargs htys
          simp only [Option.bind_eq_bind, Option.bind_eq_some_iff] at hc
          obtain ⟨e, het, z, hz, x', hx', y', hy', str, hty, hc⟩ := hc
          split at hc
          · rename_i hcond
            obtain ⟨hb1, hb0, hs0, hzz⟩ := hcond
            have hA : args = #[x, y] := by apply Array.ext'; simpa using hargs
            have hT : argTypes = #[t, u] := by apply Array.ext'; simpa using htys
            subst hA hT
            split at hc
            · split at hc
              · rename_i hstr
                simp only [Option.pure_def, Option.some.injEq] at hc
                subst hc
                subst hstr
                obtain ⟨S', r, hr, hs, hI', hE', hrel⟩ := appz_ok (P := P) (ty := o.type) hI (e := e.1) (sz := e.2.1) (by_ := e.2.2) (by simpa using het) hzz hb1 hb0 hs0 hty (cX_ok hE hx') (cX_ok hE hy') he
                refine .val ?_ hs hI' hE' hrel
                simp only [execOp, hop, resolve, invoke, builtin, List.map_toArray, List.map_cons, List.map_nil]
                exact run_v hr
              · cases hc
            split at hc
            · split at hc
              · rename_i hstr
                simp only [Option.pure_def, Option.some.injEq] at hc
                subst hc
                have hku : ∃ e', P.underlying u = some (.slice e') := by
                  subst hstr
                  unfold appTy at hty
                  split at hty
                  · rename_i e' hu'; exact ⟨e', hu'⟩
                  · split at hty <;> simp at hty
                  · cases hty
                obtain ⟨e', hku⟩ := hku
                obtain ⟨S', r, hr, hs, hI', hE', hrel⟩ := appm_ok (P := P) (ty := o.type) hI (e := e.1) (sz := e.2.1) (by_ := e.2.2) (by simpa using het) hzz hb0 hs0 hku (cX_ok hE hx') (cX_ok hE hy') he
                refine .val ?_ hs hI' hE' hrel
                simp only [execOp, hop, resolve, invoke, builtin, List.map_toArray, List.map_cons, List.map_nil]
                exact run_v hr
              · cases hc
            simp only [Option.pure_def, Option.some.injEq] at hc
            subst hc
            obtain ⟨S', r, hr, hs, hI', hE', hrel⟩ := append_ok (P := P) (ty := o.type) hI (e := e.1) (sz := e.2.1) (by_ := e.2.2) (by simpa using het) hzz hb1 hb0 hs0 hty (cX_ok hE hx') (cX_ok hE hy') he
            · refine .val ?_ hs hI' hE' hrel
              simp only [execOp, hop, resolve, invoke, builtin, List.map_toArray, List.map_cons, List.map_nil]
              exact run_v hr
          · cases hc
        · cases hc
      | unsafeSliceData =>
        simp only [hop] at hc
        split at hc
        · rename_i x hargs
          simp only [Option.map_eq_some_iff] at hc
          obtain ⟨y, hy, rfl⟩ := hc
          have hA : args = #[x] := by apply Array.ext'; simpa using hargs
          subst hA
          obtain ⟨rfl, r, hr, hrel⟩ := sdata_ok (P := P) (ts := argTypes) (ty := o.type) (cX_ok hE hy) rfl he
          refine .pure hI ?_ hrel
          simp only [execOp, hop, resolve, invoke, builtin, List.map_toArray, List.map_cons, List.map_nil]
          exact run_v hr
        · cases hc
      | unsafeString =>
        simp only [hop] at hc
        split at hc
        · rename_i x n pt it hargs htys
          split at hc
          · rename_i e hpt
            split at hc
            · rename_i hc1
              simp only [Option.bind_eq_bind, Option.bind_eq_some_iff, Option.pure_def, Option.some.injEq] at hc
              obtain ⟨x', hx', n', hn', rfl⟩ := hc
              have hA : args = #[x, n] := by apply Array.ext'; simpa using hargs
              have hT : argTypes = #[pt, it] := by apply Array.ext'; simpa using htys
              subst hA hT
              obtain ⟨S', r, hr, hs, hI', hE', hrel⟩ := ustr_ok (P := P) (it := it) (ty := o.type) hI hpt hc1 (cX_ok hE hx') (cX_ok hE hn') rfl rfl he
              refine .val ?_ hs hI' hE' hrel
              simp only [execOp, hop, resolve, invoke, builtin, List.map_toArray, List.map_cons, List.map_nil]
              exact run_v hr
            · cases hc
          · cases hc
        · cases hc
      | _ => simp [hop] at hc
  | _ => simp [hop] at hc

end
end Go.Proofs.YtboejpobmpfifaaGreatDoor.Eng
