/-
  dram: the cache, told plainly: its pages, its table, its six lists of use, its map; what keeps them together.
-/
import Derived.Test.YtpbbokpmlemboaaDrQ
import Derived.Test.YtpbbokpmlemboaaDrA
import Derived.Test.YtpbbokpmlemboaaDrT
namespace Go.Proofs.Ytpbbokpmlemboaa
open Sl

/-- An item, and whether it is clean. -/
abbrev Ou := It × Bool

structure DC where
  S : List Pg
  T : Tb.KT
  G : Nat → Sg
  M : List (Int × Ou)

def upG (G : Nat → Sg) (i : Nat) (s : Sg) : Nat → Sg := fun j => if j = i then s else G j
theorem upG_at (G : Nat → Sg) (i : Nat) (s : Sg) : upG G i s i = s := if_pos rfl
theorem upG_ne {G : Nat → Sg} {i j : Nat} {s : Sg} (h : j ≠ i) : upG G i s j = G j := if_neg h

def DC.goneC (C : DC) (x : Int) (k : ByteArray) : DC := ⟨freeS C.S x, Tb.delK C.T k, C.G, delM C.M x⟩

/-- All fits together; the chunk x0 is out of its list of use already. -/
structure DC.OkBut (C : DC) (x0 : Option Int) : Prop where
  pg : ∀ q, q ∈ C.S → q.ok
  tk : C.T.Ok
  sg : ∀ i, i < 6 → (C.G i).Ok
  nd : (keysM C.M).Nodup
  keyOf : ∀ x o, getM C.M x = some o → Tb.getP C.T.m o.1.key = some x
  ofKey : ∀ k x, Tb.getP C.T.m k = some x → ∃ o, getM C.M x = some o ∧ o.1.key = k
  tak : ∀ x, (getM C.M x).isSome = isTaken C.S x
  seg : ∀ i x, i < 6 → ((getM (C.G i).I x).isSome = true ↔ isTaken C.S x = true ∧ ofS C.S x = (i : Int) ∧ some x ≠ x0)
  sum : usSum C.S = C.M.length
  ln : C.T.m.length = C.M.length
  cls : ∀ x o, getM C.M x = some o → goodI o.1 = true ∧ ofS C.S x = classOf (sizeI o.1)
abbrev DC.Ok (C : DC) : Prop := C.OkBut none

theorem getD_set_cls {S : List Pg} {i : Nat} {q : Pg} (h : q.cls = (S.getD i Pg.new).cls) (j : Nat) : ((S.set i q).getD j Pg.new).cls = (S.getD j Pg.new).cls := by
  rw [List.getD_eq_getElem?_getD, List.getElem?_set]
  by_cases e : i = j
  · subst e
    rw [if_pos rfl]
    by_cases hl : i < S.length
    · rw [if_pos hl]
      exact h
    · rw [if_neg hl, List.getD_eq_getElem?_getD, List.getElem?_eq_none (by omega)]
  · rw [if_neg e, List.getD_eq_getElem?_getD]
theorem free_cls (S : List Pg) (x : Int) (j : Nat) : ((freeS S x).getD j Pg.new).cls = (S.getD j Pg.new).cls := by
  unfold freeS
  split
  · exact getD_set_cls (q := ⟨(S.getD (x / 64).toNat Pg.new).cls, upd (S.getD (x / 64).toNat Pg.new).tk (x % 64).toNat false, (S.getD (x / 64).toNat Pg.new).us - 1⟩) rfl j
  · rfl
theorem ofS_free {S : List Pg} {x y : Int} (hx : isTaken S x = true) (hne : y ≠ x) : ofS (freeS S x) y = ofS S y := by
  unfold ofS
  rw [(free_gone hx).now y, if_neg hne, free_cls]
theorem free_pg {S : List Pg} {x : Int} (hok : ∀ q, q ∈ S → q.ok) : ∀ q, q ∈ freeS S x → q.ok := by
  unfold freeS
  split
  · rename_i hx
    obtain ⟨h0, h1, h2⟩ := isTaken_parts hx
    have hlt : (x / 64).toNat < S.length := by omega
    have hq := ok_of_mem hok hlt
    rw [← getD_of hlt] at hq
    exact set_ok hok _ (hq.free_ h2).1
  · exact hok
theorem take_pg {S : List Pg} {c : Int} (h0 : 0 ≤ c) (h6 : c < 6) (hok : ∀ q, q ∈ S → q.ok) : ∀ q, q ∈ takeS S c → q.ok := by
  have hin : inCls c = true := by simp [inCls, h0, h6]
  have hp := chunksOf_pos c h0 h6
  cases hs : slot S c with
  | none => rw [(take_full hin hs).1]; exact hok
  | some i =>
    obtain ⟨t1, _, _⟩ := take_slot hin hs
    obtain ⟨hi, h1⟩ := slot_facts hok hs
    have hq := ok_of_mem hok hi
    rw [getD_of hi] at t1
    rw [t1]
    refine set_ok hok i ?_
    rcases h1 with h1 | h1
    · have hh : S[i].cls = c ∧ S[i].us < chunksOf c := by simpa [fits1] using h1
      have := hq.take (by rw [hh.1]; exact h0) (by rw [hh.1]; exact hh.2)
      rw [hh.1] at this
      exact this
    · have h2 := hq.turn h1 c h0 h6
      exact h2.take h0 (by show S[i].us < chunksOf c; omega)
theorem take_ofS {S : List Pg} {c : Int} (h0 : 0 ≤ c) (h6 : c < 6) (hok : ∀ q, q ∈ S → q.ok) (he : takeE S c = 0) (y : Int) : ofS (takeS S c) y = if y = takeN S c then c else ofS S y := by
  have hin : inCls c = true := by simp [inCls, h0, h6]
  obtain ⟨g, b1, b2⟩ := take_gone h0 h6 hok he
  cases hs : slot S c with
  | none => rw [(take_full hin hs).2.2] at he; cases he
  | some i =>
    obtain ⟨t1, t2, _⟩ := take_slot hin hs
    obtain ⟨hi, f1, f2, f3⟩ := slot_free h0 h6 hok hs
    obtain ⟨_, hfit⟩ := slot_facts hok hs
    rw [getD_of hi] at t1 t2
    unfold ofS
    rw [g.now y]
    by_cases e : y = takeN S c
    · rw [if_pos e, if_pos e, if_pos rfl, e, t2]
      have e1 : ((64 * (i : Int) + (freeIn S[i].tk : Int)) / 64).toNat = i := by omega
      rw [e1, t1, getD_of (by rw [List.length_set]; exact hi), List.getElem_set_self]
    · rw [if_neg e, if_neg e]
      by_cases ht : isTaken S y = true
      · rw [if_pos ht, if_pos ht, t1]
        by_cases e2 : (y / 64).toNat = i
        · subst e2
          rw [getD_of (by rw [List.length_set]; exact hi), List.getElem_set_self, getD_of hi]
          rcases hfit with hf | hf
          · have hh : S[(y / 64).toNat].cls = c ∧ S[(y / 64).toNat].us < chunksOf c := by simpa [fits1] using hf
            exact hh.1.symm
          · have h2 := (isTaken_parts ht).2.2
            rw [getD_of hi, (ok_of_mem hok hi).empty hf] at h2
            cases h2
        · rw [List.getD_eq_getElem?_getD, List.getElem?_set_ne (fun h => e2 h.symm), List.getD_eq_getElem?_getD]
      · rw [if_neg ht, if_neg ht]

theorem Moved.keys {S S' : Sg} (k : Moved S S') (o : S.Ok) : ∀ y, (getM S'.I y).isSome = (getM S.I y).isSome := by
  induction k with
  | done => exact fun _ => rfl
  | more hl h _ ih =>
    rename_i S S' l x _
    intro y
    rw [ih (o.move (t := 2) (by omega) (by omega) hl)]
    show (getM (setM (S.set 2 l).I x ((1 : Nat) : Int)) y).isSome = _
    rw [S.set_I, getM_setM]
    have hy := (o.inn x 2 (by omega)).1 (by show x ∈ S.c; rw [hl]; simp)
    by_cases e : y = x
    · rw [if_pos e, e, hy]; rfl
    · rw [if_neg e]
theorem gone_keys {S : Sg} {t : Nat} {l : List Int} {x : Int} (y : Int) : (getM ((S.set t l).gone x).I y).isSome = true ↔ (getM S.I y).isSome = true ∧ y ≠ x := by
  show (getM (delM (S.set t l).I x) y).isSome = true ↔ _
  rw [S.set_I, getM_delM]
  by_cases e : y = x
  · rw [if_pos e]; simp [e]
  · rw [if_neg e]; simp [e]
theorem Left.keys {S S' : Sg} {x : Int} (k : Left S x S') (o : S.Ok) : (getM S.I x).isSome = true ∧ ∀ y, (getM S'.I y).isSome = true ↔ (getM S.I y).isSome = true ∧ y ≠ x := by
  have one : ∀ {t : Nat} {l : List Int}, t < 3 → S.get t = l ++ [x] → (getM S.I x).isSome = true := fun ht h => by
    rw [(o.inn x _ ht).1 (by rw [h]; simp)]; rfl
  cases k with
  | cold h => exact ⟨one (t := 2) (by omega) h, gone_keys⟩
  | warm _ h => exact ⟨one (t := 1) (by omega) h, gone_keys⟩
  | hot _ _ h => exact ⟨one (t := 0) (by omega) h, gone_keys⟩
theorem EvTo.keys {S S' : Sg} {x : Int} (h : EvTo S x true S') (o : S.Ok) : (getM S.I x).isSome = true ∧ ∀ y, (getM S'.I y).isSome = true ↔ (getM S.I y).isSome = true ∧ y ≠ x := by
  obtain ⟨_, S1, m, h⟩ := h
  rcases h with ⟨_, h⟩ | ⟨h, _⟩
  · obtain ⟨a, b⟩ := h.keys (m.ok o)
    rw [m.keys o] at a
    exact ⟨a, fun y => by rw [b y, m.keys o]⟩
  · cases h
theorem RemTo.keys {S S' : Sg} {x : Int} (h : RemTo S x S') (hx : (getM S.I x).isSome = true) (y : Int) : (getM S'.I y).isSome = true ↔ (getM S.I y).isSome = true ∧ y ≠ x := by
  obtain ⟨t, a, b, _, _, rfl⟩ := h.2.1 hx
  exact gone_keys y
theorem AddTo.keys {S S' : Sg} {x : Int} (h : AddTo S x S') (o : S.Ok) (hx : (getM S.I x).isSome = false) (y : Int) : (getM S'.I y).isSome = true ↔ y = x ∨ (getM S.I y).isSome = true := by
  have hn : getM S.I x = Option.none := by
    cases hg : getM S.I x with
    | none => rfl
    | some v => rw [hg] at hx; cases hx
  exact (h.2.2 hx).keys o hn y

section
variable {C : DC} {x : Int} {o : Ou}
theorem DC.OkBut.taken {x0 : Option Int} (h : C.OkBut x0) (hx : getM C.M x = some o) : isTaken C.S x = true := by rw [← h.tak x, hx]; rfl

theorem DC.OkBut.gone (h : C.OkBut (some x)) (hx : getM C.M x = some o) : (C.goneC x o.1.key).Ok := by
  have ht := h.taken hx
  have g := free_gone ht
  have hk := h.keyOf x o hx
  have hs : (getM C.M x).isSome = true := by rw [hx]; rfl
  refine ⟨free_pg h.pg, Tb.delK_ok h.tk _, h.sg, nodup_delM h.nd _, fun y p hp => ?_, fun k y hy => ?_, fun y => ?_, fun i y hi => ?_, ?_, ?_, fun y p hp => ?_⟩
  · have hp : getM (delM C.M x) y = some p := hp
    show Tb.getP (Tb.delK C.T o.1.key).m p.1.key = some y
    rw [getM_delM] at hp
    split at hp
    · cases hp
    · rename_i hne
      have h1 := h.keyOf y p hp
      rw [Tb.getP_delK, if_neg, h1]
      intro e
      rw [e, hk] at h1
      exact hne (Option.some.inj h1).symm
  · have hy : Tb.getP (Tb.delK C.T o.1.key).m k = some y := hy
    rw [Tb.getP_delK] at hy
    split at hy
    · cases hy
    · rename_i hne
      obtain ⟨p, h1, h2⟩ := h.ofKey k y hy
      refine ⟨p, ?_, h2⟩
      show getM (delM C.M x) y = some p
      rw [getM_delM, if_neg, h1]
      intro e
      rw [e, hx] at h1
      exact hne (by rw [← h2, ← Option.some.inj h1])
  · show (getM (delM C.M x) y).isSome = isTaken (freeS C.S x) y
    rw [getM_delM, g.now y]
    split
    · rfl
    · exact h.tak y
  · show (getM (C.G i).I y).isSome = true ↔ isTaken (freeS C.S x) y = true ∧ ofS (freeS C.S x) y = (i : Int) ∧ some y ≠ none
    rw [h.seg i y hi, g.now y]
    by_cases e : y = x
    · subst e; simp
    · rw [if_neg e, ofS_free ht e]
      simp [e]
  · show usSum (freeS C.S x) = ((delM C.M x).length : Int)
    have h1 := g.sum
    have h2 := delM_length h.nd hs
    have h3 := h.sum
    simp only [Bool.false_eq_true, if_false] at h1
    omega
  · show (Tb.delK C.T o.1.key).m.length = (delM C.M x).length
    have h1 := Tb.del_len h.tk (k := o.1.key) (by rw [Tb.mem_keys, hk]; rfl)
    have h2 := delM_length h.nd hs
    have h3 := h.ln
    omega
  · have hp : getM (delM C.M x) y = some p := hp
    rw [getM_delM] at hp
    split at hp
    · cases hp
    · rename_i hne
      obtain ⟨h1, h2⟩ := h.cls y p hp
      refine ⟨h1, ?_⟩
      show ofS (freeS C.S x) y = _
      rw [ofS_free ht hne, h2]

theorem DC.OkBut.leave (h : C.Ok) {i : Nat} (hi : i < 6) {S' : Sg} (ok' : S'.Ok) (hx : (getM (C.G i).I x).isSome = true) (hk : ∀ y, (getM S'.I y).isSome = true ↔ (getM (C.G i).I y).isSome = true ∧ y ≠ x) :
    DC.OkBut ⟨C.S, C.T, upG C.G i S', C.M⟩ (some x) ∧ ofS C.S x = (i : Int) ∧ ∃ o, getM C.M x = some o := by
  obtain ⟨h1, h2, _⟩ := (h.seg i x hi).1 hx
  refine ⟨⟨h.pg, h.tk, fun j hj => ?_, h.nd, h.keyOf, h.ofKey, h.tak, fun j y hj => ?_, h.sum, h.ln, h.cls⟩, h2, ?_⟩
  · show (upG C.G i S' j).Ok
    by_cases e : j = i
    · rw [e, upG_at]; exact ok'
    · rw [upG_ne e]; exact h.sg j hj
  · show (getM (upG C.G i S' j).I y).isSome = true ↔ _
    by_cases e : j = i
    · subst e
      rw [upG_at, hk y, h.seg j y hj]
      simp [and_assoc]
    · rw [upG_ne e, h.seg j y hj]
      constructor
      · rintro ⟨a, b, _⟩
        refine ⟨a, b, fun e2 => e ?_⟩
        have e2 := Option.some.inj e2
        subst e2
        show j = i
        have : (j : Int) = (i : Int) := b.symm.trans h2
        omega
      · rintro ⟨a, b, _⟩
        exact ⟨a, b, fun e => by cases e⟩
  · have := h.tak x
    rw [h1] at this
    exact Option.isSome_iff_exists.1 this

theorem DC.OkBut.swap (h : C.Ok) {i : Nat} {S' : Sg} (ok' : S'.Ok) (hk : ∀ y, (getM S'.I y).isSome = (getM (C.G i).I y).isSome) : DC.Ok ⟨C.S, C.T, upG C.G i S', C.M⟩ := by
  refine ⟨h.pg, h.tk, fun j hj => ?_, h.nd, h.keyOf, h.ofKey, h.tak, fun j y hj => ?_, h.sum, h.ln, h.cls⟩
  · show (upG C.G i S' j).Ok
    by_cases e : j = i
    · rw [e, upG_at]; exact ok'
    · rw [upG_ne e]; exact h.sg j hj
  · show (getM (upG C.G i S' j).I y).isSome = true ↔ _
    by_cases e : j = i
    · subst e
      rw [upG_at, hk y, h.seg j y hj]
    · rw [upG_ne e, h.seg j y hj]

theorem DC.OkBut.put (h : C.Ok) {c : Nat} (hc : c < 6) (he : takeE C.S (c : Int) = 0) {z : It} (hz : goodI z = true) (hcl : classOf (sizeI z) = (c : Int)) (b : Bool) (hn : Tb.getP C.T.m z.key = none) {S' : Sg} (ha : AddTo (C.G c) (takeN C.S c) S') :
    DC.Ok ⟨takeS C.S c, Tb.setK C.T z.key (takeN C.S c), upG C.G c S', setM C.M (takeN C.S c) (z, b)⟩ := by
  obtain ⟨g, b1, b2⟩ := take_gone (c := (c : Int)) (by omega) (by omega) h.pg he
  have hof := take_ofS (c := (c : Int)) (by omega) (by omega) h.pg he
  generalize hN : takeN C.S (c : Int) = n at *
  have hnt : isTaken C.S n = false := by rw [g.was]; rfl
  have hnM : getM C.M n = none := by
    have := h.tak n
    rw [hnt] at this
    cases hg : getM C.M n with
    | none => rfl
    | some v => rw [hg] at this; cases this
  have hnI : (getM (C.G c).I n).isSome = false := by
    cases hg : (getM (C.G c).I n).isSome with
    | false => rfl
    | true =>
      have := ((h.seg c n hc).1 hg).1
      rw [hnt] at this
      cases this
  have hsz : z.key.size < 9223372036854775808 := by
    unfold goodI at hz
    simp only [Bool.and_eq_true, decide_eq_true_eq] at hz
    omega
  have hnk : z.key ∉ Tb.keysM C.T.m := fun hk => by
    have := Tb.mem_keys.1 hk
    rw [hn] at this
    cases this
  refine ⟨take_pg (by omega) (by omega) h.pg, Tb.setK_ok h.tk _ _ hsz, fun j hj => ?_, nodup_setM h.nd _ _, fun y p hp => ?_, fun k y hy => ?_, fun y => ?_, fun i y hi => ?_, ?_, ?_, fun y p hp => ?_⟩
  · show (upG C.G c S' j).Ok
    by_cases e : j = c
    · rw [e, upG_at]; exact ha.1
    · rw [upG_ne e]; exact h.sg j hj
  · have hp : getM (setM C.M n (z, b)) y = some p := hp
    show Tb.getP (Tb.setK C.T z.key n).m p.1.key = some y
    rw [getM_setM] at hp
    rw [Tb.getP_set]
    split at hp
    · rename_i e
      have := Option.some.inj hp
      subst this
      rw [if_pos rfl, e]
    · rename_i e
      have h1 := h.keyOf y p hp
      rw [if_neg, h1]
      intro e2
      rw [e2, hn] at h1
      cases h1
  · have hy : Tb.getP (Tb.setK C.T z.key n).m k = some y := hy
    show ∃ p, getM (setM C.M n (z, b)) y = some p ∧ p.1.key = k
    rw [Tb.getP_set] at hy
    split at hy
    · rename_i e
      have e2 := Option.some.inj hy
      subst e2
      exact ⟨(z, b), by rw [getM_setM, if_pos rfl], e.symm⟩
    · obtain ⟨p, h1, h2⟩ := h.ofKey k y hy
      refine ⟨p, ?_, h2⟩
      rw [getM_setM, if_neg, h1]
      intro e
      rw [e, hnM] at h1
      cases h1
  · show (getM (setM C.M n (z, b)) y).isSome = isTaken (takeS C.S c) y
    rw [getM_setM, g.now y]
    split
    · rfl
    · exact h.tak y
  · show (getM (upG C.G c S' i).I y).isSome = true ↔ isTaken (takeS C.S c) y = true ∧ ofS (takeS C.S c) y = (i : Int) ∧ some y ≠ none
    rw [g.now y, hof y]
    by_cases e : i = c
    · subst e
      rw [upG_at, ha.keys (h.sg i hi) hnI y, h.seg i y hi]
      by_cases e2 : y = n
      · simp [e2]
      · simp [e2]
    · rw [upG_ne e, h.seg i y hi]
      by_cases e2 : y = n
      · rw [e2, hnt, if_pos rfl, if_pos rfl]
        simp
        omega
      · rw [if_neg e2, if_neg e2]
  · show usSum (takeS C.S c) = ((setM C.M n (z, b)).length : Int)
    have h1 := g.sum
    have h2 := length_setM C.M n (z, b)
    have h3 := h.sum
    rw [hnM] at h2
    simp only [if_true, Option.isSome_none, Bool.false_eq_true, if_false] at h1 h2
    omega
  · show (Tb.setK C.T z.key n).m.length = (setM C.M n (z, b)).length
    have h2 := length_setM C.M n (z, b)
    have h3 := h.ln
    rw [hnM] at h2
    simp only [Option.isSome_none, Bool.false_eq_true, if_false] at h2
    rw [Tb.setK_m, if_neg hnk, List.length_append, h2, h3]
    rfl
  · have hp : getM (setM C.M n (z, b)) y = some p := hp
    show goodI p.1 = true ∧ ofS (takeS C.S c) y = classOf (sizeI p.1)
    rw [hof y]
    rw [getM_setM] at hp
    split at hp
    · rename_i e
      have := Option.some.inj hp
      subst this
      rw [if_pos e]
      exact ⟨hz, hcl.symm⟩
    · rename_i e
      rw [if_neg e]
      exact h.cls y p hp
end
end Go.Proofs.Ytpbbokpmlemboaa
