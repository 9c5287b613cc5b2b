/-
  dram: what the cache's calls make of it, plain; what is kept, told key by key.
-/
import Derived.Test.YtpbbokpmlemboaaDrP
namespace Go.Proofs.Ytpbbokpmlemboaa
open Sl

/-- What is kept of a key. -/
def DC.look (C : DC) (k : ByteArray) : Option Ou := (Tb.getP C.T.m k).bind fun x => getM C.M x

def maxFrom (f : Nat → Nat) : Nat → Nat
  | 0 => 0
  | k + 1 => if f (maxFrom f k) < f k then k else maxFrom f k
/-- The list of use that lets one go for a class. -/
def DC.from_ (C : DC) (cl : Nat) : Nat := if (C.G cl).tot = 0 then maxFrom (fun i => (C.G i).tot) 6 else cl

theorem maxFrom_lt (f : Nat → Nat) : ∀ k, 0 < k → maxFrom f k < k
  | 0, h => absurd h (by omega)
  | k + 1, _ => by
    unfold maxFrom
    split
    · omega
    · cases k with
      | zero => exact Nat.zero_lt_one
      | succ k => have := maxFrom_lt f (k + 1) (by omega); omega
theorem maxFrom_le (f : Nat → Nat) : ∀ k i, i < k → f i ≤ f (maxFrom f k)
  | 0, i, h => absurd h (by omega)
  | k + 1, i, h => by
    unfold maxFrom
    by_cases e : i = k
    · subst e
      split <;> omega
    · have := maxFrom_le f k i (by omega)
      split <;> omega
theorem DC.from_lt (C : DC) {cl : Nat} (h : cl < 6) : C.from_ cl < 6 := by
  unfold DC.from_
  split
  · exact maxFrom_lt _ 6 (by omega)
  · exact h

/-- A chunk's item is gone. -/
structure Rid (C : DC) (x : Int) (o : Ou) (C' : DC) : Prop where
  ok : C'.Ok
  was : getM C.M x = some o
  S : C'.S = freeS C.S x
  T : C'.T = Tb.delK C.T o.1.key
  M : C'.M = delM C.M x

def DropTo (C : DC) (x : Int) (o : Ou) (C' : DC) : Prop := ∃ (i : Nat) (S' : Sg), i < 6 ∧ ofS C.S x = (i : Int) ∧ RemTo (C.G i) x S' ∧ getM C.M x = some o ∧ C' = DC.goneC ⟨C.S, C.T, upG C.G i S', C.M⟩ x o.1.key
def LetTo (C : DC) (cl : Nat) (o : Ou) (C' : DC) : Prop := ∃ x S', EvTo (C.G (C.from_ cl)) x true S' ∧ getM C.M x = some o ∧ C' = DC.goneC ⟨C.S, C.T, upG C.G (C.from_ cl) S', C.M⟩ x o.1.key

theorem DropTo.rid {C C' : DC} {x : Int} {o : Ou} (d : DropTo C x o C') (h : C.Ok) : Rid C x o C' := by
  obtain ⟨i, S', hi, hof, r, hx, rfl⟩ := d
  have hI : (getM (C.G i).I x).isSome = true := (h.seg i x hi).2 ⟨h.taken hx, hof, by simp⟩
  obtain ⟨h1, _, _⟩ := h.leave hi r.1 hI (r.keys hI)
  exact ⟨h1.gone hx, hx, rfl, rfl, rfl⟩
theorem LetTo.rid {C C' : DC} {cl : Nat} {o : Ou} (d : LetTo C cl o C') (hc : cl < 6) (h : C.Ok) : ∃ x, Rid C x o C' := by
  obtain ⟨x, S', e, hx, rfl⟩ := d
  have hi := C.from_lt hc
  obtain ⟨h0, hk⟩ := e.keys (h.sg _ hi)
  obtain ⟨h1, _, _⟩ := h.leave hi e.1 h0 hk
  exact ⟨x, h1.gone hx, hx, rfl, rfl, rfl⟩

section
variable {C C' : DC} {x : Int} {o : Ou}
theorem DC.OkBut.look_some (h : C.Ok) (hx : getM C.M x = some o) : C.look o.1.key = some o := by
  unfold DC.look
  rw [h.keyOf x o hx]
  exact hx
theorem DC.OkBut.look_key (h : C.Ok) {k : ByteArray} (hk : C.look k = some o) : o.1.key = k ∧ ∃ x, Tb.getP C.T.m k = some x ∧ getM C.M x = some o := by
  unfold DC.look at hk
  cases hg : Tb.getP C.T.m k with
  | none => rw [hg] at hk; cases hk
  | some x =>
    rw [hg] at hk
    have hk : getM C.M x = some o := hk
    obtain ⟨p, h1, h2⟩ := h.ofKey k x hg
    rw [hk] at h1
    rw [Option.some.inj h1]
    exact ⟨h2, x, rfl, h1 ▸ hk⟩
theorem DC.OkBut.look_none (h : C.Ok) {k : ByteArray} : C.look k = none ↔ Tb.getP C.T.m k = none := by
  unfold DC.look
  cases hg : Tb.getP C.T.m k with
  | none => simp
  | some x =>
    obtain ⟨p, h1, _⟩ := h.ofKey k x hg
    simp [h1]
theorem Rid.look (r : Rid C x o C') (h : C.Ok) (k : ByteArray) : C'.look k = if k = o.1.key then none else C.look k := by
  unfold DC.look
  rw [r.T, r.M, Tb.getP_delK]
  by_cases e : k = o.1.key
  · rw [if_pos e, if_pos e]; rfl
  · rw [if_neg e, if_neg e]
    cases hg : Tb.getP C.T.m k with
    | none => rfl
    | some y =>
      show getM (delM C.M x) y = getM C.M y
      rw [getM_delM, if_neg]
      intro e2
      subst e2
      obtain ⟨p, h1, h2⟩ := h.ofKey k y hg
      rw [r.was] at h1
      exact e (by rw [← h2, ← Option.some.inj h1])
theorem Rid.len (r : Rid C x o C') (h : C.Ok) : C'.M.length + 1 = C.M.length := by
  rw [r.M]
  exact delM_length h.nd (by rw [r.was]; rfl)
theorem Rid.had (r : Rid C x o C') (h : C.Ok) : C.look o.1.key = some o := h.look_some r.was
theorem Rid.sl (r : Rid C x o C') : C'.S.length = C.S.length := by rw [r.S, freeS_len]
end

/-- Things are let go till there is room for the class. -/
inductive Lets (cl : Nat) : DC → List Ou → DC → Prop
  | done {C : DC} (h : takeE C.S (cl : Int) = 0) : Lets cl C [] C
  | more {C C1 C' : DC} {o : Ou} {os : List Ou} (h : takeE C.S (cl : Int) = 7) (k : LetTo C cl o C1) (l : Lets cl C1 os C') : Lets cl C (o :: os) C'

def keysO (os : List Ou) : List ByteArray := os.map fun o => o.1.key

structure LetsTold (C : DC) (os : List Ou) (C' : DC) : Prop where
  ok : C'.Ok
  look : ∀ k, C'.look k = if k ∈ keysO os then none else C.look k
  nd : (keysO os).Nodup
  had : ∀ o, o ∈ os → C.look o.1.key = some o
  len : C'.M.length + os.length = C.M.length
  sl : C'.S.length = C.S.length

theorem Lets.told {cl : Nat} (hc : cl < 6) {C C' : DC} {os : List Ou} (l : Lets cl C os C') (h : C.Ok) : LetsTold C os C' ∧ takeE C'.S (cl : Int) = 0 := by
  induction l with
  | done hd => exact ⟨⟨h, fun k => by rw [if_neg (by simp [keysO])], List.nodup_nil, fun o ho => by (cases ho), rfl, rfl⟩, hd⟩
  | @more C C1 C' o os h7 k l ih =>
    obtain ⟨x, r⟩ := k.rid hc h
    obtain ⟨t, he⟩ := ih r.ok
    have hno : o.1.key ∉ keysO os := fun hm => by
      obtain ⟨p, hp, e⟩ := List.mem_map.1 hm
      have h1 := t.had p hp
      rw [r.look h, if_pos e] at h1
      cases h1
    refine ⟨⟨t.ok, fun k => ?_, ?_, fun p hp => ?_, ?_, ?_⟩, he⟩
    · rw [t.look k, r.look h k]
      show _ = if k ∈ o.1.key :: keysO os then none else _
      by_cases e : k = o.1.key
      · have hm : k ∈ o.1.key :: keysO os := by rw [e]; exact List.mem_cons_self ..
        rw [if_pos e, if_pos hm]
        split <;> rfl
      · rw [if_neg e]
        by_cases e2 : k ∈ keysO os
        · rw [if_pos e2, if_pos (List.mem_cons_of_mem _ e2)]
        · rw [if_neg e2, if_neg (fun hm => by
            rcases List.mem_cons.1 hm with hm | hm
            · exact e hm
            · exact e2 hm)]
    · show (o.1.key :: keysO os).Nodup
      rw [List.nodup_cons]
      exact ⟨hno, t.nd⟩
    · rcases List.mem_cons.1 hp with rfl | hp
      · exact r.had h
      · have h1 := t.had p hp
        rw [r.look h] at h1
        split at h1
        · cases h1
        · exact h1
    · have := t.len
      have := r.len h
      rw [List.length_cons]
      omega
    · rw [t.sl, r.sl]

def DelTo (C : DC) (k : ByteArray) (C' : DC) : Prop := (Tb.getP C.T.m k = none ∧ C' = C) ∨ ∃ x o, Tb.getP C.T.m k = some x ∧ DropTo C x o C'

theorem DropTo.keyed {C C' : DC} {x : Int} {o : Ou} {k : ByteArray} (d : DropTo C x o C') (h : C.Ok) (hk : Tb.getP C.T.m k = some x) : o.1.key = k := by
  obtain ⟨p, h1, h2⟩ := h.ofKey k x hk
  rw [(d.rid h).was] at h1
  rw [Option.some.inj h1]
  exact h2

structure DelTold (C : DC) (k : ByteArray) (C' : DC) : Prop where
  ok : C'.Ok
  look : ∀ q, C'.look q = if q = k then none else C.look q
  len : C'.M.length + (if (C.look k).isSome then 1 else 0) = C.M.length
  sl : C'.S.length = C.S.length
theorem DelTo.told {C C' : DC} {k : ByteArray} (d : DelTo C k C') (h : C.Ok) : DelTold C k C' := by
  rcases d with ⟨h1, rfl⟩ | ⟨x, o, h1, d⟩
  · have hn := (h.look_none (k := k)).2 h1
    refine ⟨h, fun q => ?_, by rw [hn]; rfl, rfl⟩
    by_cases e : q = k
    · rw [if_pos e, e, hn]
    · rw [if_neg e]
  · have r := d.rid h
    have hk := d.keyed h h1
    refine ⟨r.ok, fun q => by rw [r.look h q, hk], ?_, r.sl⟩
    have := r.had h
    rw [hk] at this
    rw [this]
    exact r.len h

/-- Put, of a good one. -/
def PutTo (C : DC) (z : It) (b : Bool) (os : List Ou) (C' : DC) : Prop :=
  ∃ C1 C2 S' cl, cl < 6 ∧ classOf (sizeI z) = ((cl : Nat) : Int) ∧ DelTo C z.key C1 ∧ Lets cl C1 os C2 ∧ AddTo (C2.G cl) (takeN C2.S cl) S' ∧
    C' = ⟨takeS C2.S cl, Tb.setK C2.T z.key (takeN C2.S cl), upG C2.G cl S', setM C2.M (takeN C2.S cl) (z, b)⟩

structure PutTold (C : DC) (z : It) (b : Bool) (os : List Ou) (C' : DC) : Prop where
  ok : C'.Ok
  look : ∀ k, C'.look k = if k = z.key then some (z, b) else if k ∈ keysO os then none else C.look k
  nd : (keysO os).Nodup
  had : ∀ o, o ∈ os → C.look o.1.key = some o ∧ o.1.key ≠ z.key
  len : C'.M.length + os.length + (if (C.look z.key).isSome then 1 else 0) = C.M.length + 1
  sl : C'.S.length = C.S.length

theorem DC.OkBut.fresh {C : DC} (h : C.Ok) {c : Nat} (hc : c < 6) (he : takeE C.S (c : Int) = 0) : getM C.M (takeN C.S c) = none := by
  obtain ⟨g, _, _⟩ := take_gone (c := (c : Int)) (by omega) (by omega) h.pg he
  have := h.tak (takeN C.S c)
  rw [g.was] at this
  cases hg : getM C.M (takeN C.S c) with
  | none => rfl
  | some v => rw [hg] at this; cases this

theorem put_look {C : DC} (h : C.Ok) {n : Int} (hn : getM C.M n = none) (z : It) (b : Bool) (S : List Pg) (G : Nat → Sg) (k : ByteArray) :
    DC.look ⟨S, Tb.setK C.T z.key n, G, setM C.M n (z, b)⟩ k = if k = z.key then some (z, b) else C.look k := by
  unfold DC.look
  show (Tb.getP (Tb.setK C.T z.key n).m k).bind (fun x => getM (setM C.M n (z, b)) x) = _
  rw [Tb.getP_set]
  by_cases e : k = z.key
  · rw [if_pos e, if_pos e]
    show getM (setM C.M n (z, b)) n = _
    rw [getM_setM, if_pos rfl]
  · rw [if_neg e, if_neg e]
    cases hg : Tb.getP C.T.m k with
    | none => rfl
    | some y =>
      show getM (setM C.M n (z, b)) y = getM C.M y
      rw [getM_setM, if_neg]
      intro e2
      subst e2
      obtain ⟨p, h1, _⟩ := h.ofKey k y hg
      rw [hn] at h1
      cases h1

theorem PutTo.told {C C' : DC} {z : It} {b : Bool} {os : List Ou} (p : PutTo C z b os C') (hz : goodI z = true) (h : C.Ok) : PutTold C z b os C' := by
  obtain ⟨C1, C2, S', cl, hc, hcl, d, l, a, rfl⟩ := p
  have dt := d.told h
  obtain ⟨lt, he⟩ := l.told hc dt.ok
  have hn1 : C1.look z.key = none := by rw [dt.look, if_pos rfl]
  have hn2 : C2.look z.key = none := by
    rw [lt.look]
    split
    · rfl
    · exact hn1
  have hk2 := (lt.ok.look_none (k := z.key)).1 hn2
  have hf := lt.ok.fresh hc he
  refine ⟨lt.ok.put hc he hz hcl b hk2 a, fun k => ?_, lt.nd, fun o ho => ?_, ?_, ?_⟩
  · rw [put_look lt.ok hf, lt.look, dt.look]
    by_cases e : k = z.key
    · rw [if_pos e, if_pos e]
    · rw [if_neg e, if_neg e, if_neg e]
  · have h1 := lt.had o ho
    rw [dt.look] at h1
    split at h1
    · cases h1
    · rename_i e
      exact ⟨h1, e⟩
  · show (setM C2.M (takeN C2.S cl) (z, b)).length + os.length + _ = _
    rw [length_setM, hf]
    have h1 := lt.len
    have h2 := dt.len
    simp only [Option.isSome_none, Bool.false_eq_true, if_false]
    omega
  · show (takeS C2.S cl).length = _
    rw [takeS_len, lt.sl, dt.sl]

/-- A thing that is used. -/
def touchC (C : DC) (x : Int) : DC := ⟨C.S, C.T, upG C.G (ofS C.S x).toNat ((C.G (ofS C.S x).toNat).touched x), C.M⟩
theorem DC.OkBut.touch {C : DC} (h : C.Ok) {x : Int} {o : Ou} (hx : getM C.M x = some o) : (touchC C x).Ok ∧ (ofS C.S x).toNat < 6 ∧ 0 ≤ ofS C.S x ∧ (getM (C.G (ofS C.S x).toNat).I x).isSome = true := by
  have ht := h.taken hx
  have hr : 0 ≤ ofS C.S x ∧ ofS C.S x < 6 := by
    obtain ⟨h0, h1, h2⟩ := isTaken_parts ht
    have hlt : (x / 64).toNat < C.S.length := by omega
    have hq := ok_of_mem h.pg hlt
    unfold ofS
    rw [if_pos ht]
    rw [getD_of hlt] at h2 ⊢
    exact ⟨(hq.free_ h2).2.2.1, (hq.free_ h2).2.2.2⟩
  have hi : (ofS C.S x).toNat < 6 := by omega
  have hI : (getM (C.G (ofS C.S x).toNat).I x).isSome = true := (h.seg _ x hi).2 ⟨ht, by omega, by simp⟩
  exact ⟨h.swap ((h.sg _ hi).touch hI) fun y => rfl, hi, hr.1, hI⟩

def deadI (z : It) (now : Int) : Bool := decide (z.exp ≠ 0) && decide (z.exp ≤ now)
end Go.Proofs.Ytpbbokpmlemboaa
