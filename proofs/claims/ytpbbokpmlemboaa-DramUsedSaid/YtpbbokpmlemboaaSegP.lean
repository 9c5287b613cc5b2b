/-
  seg: the plain laws of its states: no program is named here.
-/
import Derived.Test.YtpbbokpmlemboaaSegA
namespace Go.Proofs.Ytpbbokpmlemboaa

def Sg.none : Sg := ⟨[], [], [], [], []⟩
def Sg.tot (S : Sg) : Nat := S.h.length + S.m.length + S.c.length
def Sg.pushed (S : Sg) (x : Int) (t : Nat) : Sg := { S.set t (x :: S.get t) with I := setM S.I x (t : Int), U := delM S.U x }
def Sg.gone (S : Sg) (x : Int) : Sg := { S with I := delM S.I x, U := delM S.U x }
def Sg.isUsed (S : Sg) (x : Int) : Bool := (getM S.U x).getD false

theorem Sg.get_I (S : Sg) (U : List (Int × Bool)) (I : List (Int × Int)) (k : Nat) : ({ S with U := U, I := I } : Sg).get k = S.get k := by
  match k with
  | 0 => rfl
  | 1 => rfl
  | k + 2 => rfl
theorem Sg.get_pushed (S : Sg) (x : Int) {t : Nat} (ht : t < 3) (k : Nat) (hk : k < 3) : (S.pushed x t).get k = if k = t then x :: S.get t else S.get k := by
  rw [← S.get_set ht (x :: S.get t) k hk]
  exact Sg.get_I _ _ _ _
theorem Sg.get_gone (S : Sg) (x : Int) (k : Nat) : (S.gone x).get k = S.get k := Sg.get_I _ _ _ _
theorem Sg.tot_eq (S : Sg) : S.tot = (S.get 0).length + (S.get 1).length + (S.get 2).length := rfl
theorem Sg.get_le (S : Sg) {t : Nat} (ht : t < 3) : (S.get t).length ≤ S.tot := by
  rw [S.tot_eq]
  match t with
  | 0 => omega
  | 1 => omega
  | 2 => omega
  | t + 3 => omega
theorem Sg.tot_set (S : Sg) {t : Nat} (ht : t < 3) (l : List Int) : (S.set t l).tot + (S.get t).length = S.tot + l.length := by
  match t with
  | 0 => simp [Sg.set, Sg.get, Sg.tot]; omega
  | 1 => simp [Sg.set, Sg.get, Sg.tot]; omega
  | 2 => simp [Sg.set, Sg.get, Sg.tot]; omega
  | t + 3 => omega
theorem Sg.tot_pushed (S : Sg) (x : Int) {t : Nat} (ht : t < 3) : (S.pushed x t).tot = S.tot + 1 := by
  have := S.tot_set ht (x :: S.get t)
  have h : (S.pushed x t).tot = (S.set t (x :: S.get t)).tot := rfl
  rw [h]
  simp at this
  omega

structure Sg.Ok (S : Sg) : Prop where
  nod : ∀ k, k < 3 → (S.get k).Nodup
  inn : ∀ x k, k < 3 → (x ∈ S.get k ↔ getM S.I x = some (k : Int))
  rng : ∀ x t, getM S.I x = some t → ∃ k : Nat, k < 3 ∧ t = (k : Int)
  usd : ∀ x b, getM S.U x = some b → b = true ∧ (getM S.I x).isSome = true
  len : S.I.length = S.tot
  kU : (keysM S.U).Nodup
  kI : (keysM S.I).Nodup

theorem Sg.Ok.none : Sg.none.Ok := by
  refine ⟨fun k hk => ?_, fun x k hk => ?_, fun x t h => ?_, fun x b h => ?_, rfl, List.nodup_nil, List.nodup_nil⟩
  · match k with
    | 0 => exact List.nodup_nil
    | 1 => exact List.nodup_nil
    | k + 2 => exact List.nodup_nil
  · have : Sg.none.get k = [] := by
      match k with
      | 0 => rfl
      | 1 => rfl
      | k + 2 => rfl
    rw [this]
    simp [Sg.none, getM_nil]
  · cases h
  · cases h

theorem delM_length {α β : Type} [DecidableEq α] {L : List (α × β)} (h : (keysM L).Nodup) {a : α} (hs : (getM L a).isSome = true) : (delM L a).length + 1 = L.length := by
  obtain ⟨v, hv⟩ := Option.isSome_iff_exists.1 hs
  obtain ⟨j, hj, he⟩ := List.getElem_of_mem (getM_some hv)
  rw [delM_some h hj he, List.length_eraseIdx_of_lt hj]
  omega
theorem delM_le {α β : Type} [DecidableEq α] (L : List (α × β)) (a : α) : (delM L a).length ≤ L.length := List.length_filter_le _ _

/-- The last of a list goes to the head of another one, or of its own. -/
theorem Sg.Ok.move {S : Sg} (o : S.Ok) {t t' : Nat} (ht : t < 3) (ht' : t' < 3) {l : List Int} {x : Int} (hl : S.get t = l ++ [x]) : ((S.set t l).pushed x t').Ok := by
  have hxt : getM S.I x = some (t : Int) := (o.inn x t ht).1 (by rw [hl]; simp)
  have hnt := o.nod t ht
  rw [hl, List.nodup_append] at hnt
  have hxl : x ∉ l := fun h => hnt.2.2 x h x (by simp) rfl
  have hget : ∀ k, k < 3 → (S.set t l).get k = if k = t then l else S.get k := fun k hk => S.get_set ht l k hk
  have hmem : ∀ y k, k < 3 → (y ∈ (S.set t l).get k ↔ y ≠ x ∧ y ∈ S.get k) := fun y k hk => by
    rw [hget k hk]
    by_cases e : k = t
    · subst e
      rw [if_pos rfl, hl, List.mem_append]
      constructor
      · intro h
        exact ⟨fun e => hxl (e ▸ h), .inl h⟩
      · rintro ⟨h, h2 | h2⟩
        · exact h2
        · exact absurd (by simpa using h2) h
    · rw [if_neg e]
      constructor
      · intro h
        refine ⟨fun e2 => ?_, h⟩
        subst e2
        rw [o.inn y k hk, hxt] at h
        simp at h
        omega
      · exact fun h => h.2
  have hI : ((S.set t l).pushed x t').I = setM S.I x (t' : Int) := by
    show setM (S.set t l).I x _ = _
    rw [S.set_I]
  have hU : ((S.set t l).pushed x t').U = delM S.U x := by
    show delM (S.set t l).U x = _
    rw [S.set_U]
  refine ⟨fun k hk => ?_, fun y k hk => ?_, fun y v h => ?_, fun y b h => ?_, ?_, ?_, ?_⟩
  · rw [Sg.get_pushed _ x ht' k hk]
    have hn : ((S.set t l).get k).Nodup := by
      rw [hget k hk]
      split
      · exact hnt.1
      · exact o.nod k hk
    by_cases e : k = t'
    · subst e
      rw [if_pos rfl, List.nodup_cons]
      exact ⟨fun h => ((hmem x k hk).1 h).1 rfl, hn⟩
    · rw [if_neg e]
      exact hn
  · rw [Sg.get_pushed _ x ht' k hk, hI, getM_setM]
    by_cases ey : y = x
    · subst ey
      rw [if_pos rfl]
      by_cases e : k = t'
      · subst e
        simp
      · rw [if_neg e, hmem y k hk]
        simp
        omega
    · rw [if_neg ey]
      by_cases e : k = t'
      · subst e
        rw [if_pos rfl, List.mem_cons, hmem y k hk, ← o.inn y k hk]
        simp [ey]
      · rw [if_neg e, hmem y k hk, ← o.inn y k hk]
        simp [ey]
  · rw [hI, getM_setM] at h
    split at h
    · exact ⟨t', ht', by simpa using h.symm⟩
    · exact o.rng y v h
  · rw [hU, getM_delM] at h
    split at h
    · cases h
    · rename_i e
      rw [hI, getM_setM, if_neg e]
      exact o.usd y b h
  · rw [hI, Sg.tot_pushed _ x ht', length_setM, hxt]
    have := S.tot_set ht l
    rw [hl] at this
    simp at this
    rw [o.len]
    simp
    omega
  · rw [hU]
    exact nodup_delM o.kU _
  · rw [hI]
    exact nodup_setM o.kI _ _

theorem Sg.Ok.push {S : Sg} (o : S.Ok) {x : Int} (hx : getM S.I x = Option.none) {t : Nat} (ht : t < 3) : (S.pushed x t).Ok := by
  have hnot : ∀ k, k < 3 → x ∉ S.get k := fun k hk h => by
    rw [o.inn x k hk, hx] at h
    cases h
  refine ⟨fun k hk => ?_, fun y k hk => ?_, fun y v h => ?_, fun y b h => ?_, ?_, nodup_delM o.kU _, nodup_setM o.kI _ _⟩
  · rw [S.get_pushed x ht k hk]
    split
    · rename_i e
      subst e
      rw [List.nodup_cons]
      exact ⟨hnot k hk, o.nod k hk⟩
    · exact o.nod k hk
  · rw [S.get_pushed x ht k hk, show (S.pushed x t).I = setM S.I x (t : Int) from rfl, getM_setM]
    by_cases ey : y = x
    · subst ey
      rw [if_pos rfl]
      by_cases e : k = t
      · subst e
        simp
      · rw [if_neg e]
        have := hnot k hk
        simp [this]
        omega
    · rw [if_neg ey, ← o.inn y k hk]
      by_cases e : k = t
      · subst e
        simp [ey]
      · rw [if_neg e]
  · rw [show (S.pushed x t).I = setM S.I x (t : Int) from rfl, getM_setM] at h
    split at h
    · exact ⟨t, ht, by simpa using h.symm⟩
    · exact o.rng y v h
  · rw [show (S.pushed x t).U = delM S.U x from rfl, getM_delM] at h
    split at h
    · cases h
    · rename_i e
      rw [show (S.pushed x t).I = setM S.I x (t : Int) from rfl, getM_setM, if_neg e]
      exact o.usd y b h
  · rw [show (S.pushed x t).I = setM S.I x (t : Int) from rfl, S.tot_pushed x ht, length_setM, hx, o.len]
    rfl

theorem Sg.Ok.leave {S : Sg} (o : S.Ok) {t : Nat} (ht : t < 3) {x : Int} {l : List Int} (hx : x ∈ S.get t) (hl : ∀ y, y ∈ l ↔ y ∈ S.get t ∧ y ≠ x) (hn : l.Nodup) (hlen : l.length + 1 = (S.get t).length) : ((S.set t l).gone x).Ok := by
  have hxt := (o.inn x t ht).1 hx
  have hget : ∀ k, k < 3 → ((S.set t l).gone x).get k = if k = t then l else S.get k := fun k hk => by
    rw [Sg.get_gone, S.get_set ht l k hk]
  have hI : ((S.set t l).gone x).I = delM S.I x := by
    show delM (S.set t l).I x = _
    rw [S.set_I]
  have hU : ((S.set t l).gone x).U = delM S.U x := by
    show delM (S.set t l).U x = _
    rw [S.set_U]
  refine ⟨fun k hk => ?_, fun y k hk => ?_, fun y v h => ?_, fun y b h => ?_, ?_, ?_, ?_⟩
  · rw [hget k hk]
    split
    · exact hn
    · exact o.nod k hk
  · rw [hget k hk, hI, getM_delM]
    by_cases ey : y = x
    · subst ey
      rw [if_pos rfl]
      by_cases e : k = t
      · subst e
        rw [if_pos rfl, hl]
        simp
      · rw [if_neg e, o.inn y k hk, hxt]
        simp
        omega
    · rw [if_neg ey, ← o.inn y k hk]
      by_cases e : k = t
      · subst e
        rw [if_pos rfl, hl]
        simp [ey]
      · rw [if_neg e]
  · rw [hI, getM_delM] at h
    split at h
    · cases h
    · exact o.rng y v h
  · rw [hU, getM_delM] at h
    split at h
    · cases h
    · rename_i e
      rw [hI, getM_delM, if_neg e]
      exact o.usd y b h
  · have h1 : ((S.set t l).gone x).tot = (S.set t l).tot := rfl
    have h2 := S.tot_set ht l
    have h3 := delM_length o.kI (a := x) (by rw [hxt]; rfl)
    rw [hI, h1]
    have := o.len
    omega
  · rw [hU]
    exact nodup_delM o.kU _
  · rw [hI]
    exact nodup_delM o.kI _

def Sg.touched (S : Sg) (x : Int) : Sg := { S with U := setM S.U x true }
theorem Sg.Ok.touch {S : Sg} (o : S.Ok) {x : Int} (hx : (getM S.I x).isSome = true) : (S.touched x).Ok := by
  have hg : ∀ k, (S.touched x).get k = S.get k := fun k => Sg.get_I S _ _ k
  refine ⟨fun k hk => by rw [hg]; exact o.nod k hk, fun y k hk => by rw [hg]; exact o.inn y k hk, o.rng, fun y b h => ?_, o.len, nodup_setM o.kU _ _, o.kI⟩
  rw [show (S.touched x).U = setM S.U x true from rfl, getM_setM] at h
  split at h
  · rename_i e
    subst e
    exact ⟨by simpa using h.symm, hx⟩
  · exact o.usd y b h

/-- A list's last number goes on: to warm, if it is used, else to cold. -/
def Sg.sink (S : Sg) (t : Nat) (l : List Int) (x : Int) : Sg := (S.set t l).pushed x (if S.isUsed x then 1 else 2)

/-- Numbers go on from list t till at most q are left. -/
inductive Sunk (q t : Nat) : Sg → Sg → Prop
  | done {S : Sg} (h : (S.get t).length ≤ q) : Sunk q t S S
  | more {S S' : Sg} {l : List Int} {x : Int} (h : q < (S.get t).length) (hl : S.get t = l ++ [x]) (k : Sunk q t (S.sink t l x) S') : Sunk q t S S'

/-- Used ones go from cold to warm till cold's last one is none of them. -/
inductive Moved : Sg → Sg → Prop
  | done {S : Sg} (h : ∀ l x, S.c = l ++ [x] → S.isUsed x = false) : Moved S S
  | more {S S' : Sg} {l : List Int} {x : Int} (hl : S.c = l ++ [x]) (h : S.isUsed x = true) (k : Moved ((S.set 2 l).pushed x 1) S') : Moved S S'

theorem Sg.Ok.sink {S : Sg} (o : S.Ok) {t : Nat} (ht : t < 3) {l : List Int} {x : Int} (hl : S.get t = l ++ [x]) : (S.sink t l x).Ok := o.move ht (by split <;> omega) hl
theorem Sg.tot_move (S : Sg) {t t' : Nat} (ht : t < 3) (ht' : t' < 3) {l : List Int} {x : Int} (hl : S.get t = l ++ [x]) : ((S.set t l).pushed x t').tot = S.tot := by
  have := S.tot_set ht l
  rw [Sg.tot_pushed _ x ht']
  rw [hl] at this
  simp at this
  omega
theorem Sunk.ok {q t : Nat} (ht : t < 3) {S S' : Sg} (k : Sunk q t S S') (o : S.Ok) : S'.Ok := by
  induction k with
  | done => exact o
  | more h hl _ ih => exact ih (o.sink ht hl)
theorem Sunk.tot {q t : Nat} (ht : t < 3) {S S' : Sg} (k : Sunk q t S S') : S'.tot = S.tot := by
  induction k with
  | done => rfl
  | more h hl _ ih => rw [ih]; exact Sg.tot_move _ ht (by split <;> omega) hl
theorem Moved.ok {S S' : Sg} (k : Moved S S') (o : S.Ok) : S'.Ok := by
  induction k with
  | done => exact o
  | more hl h _ ih => exact ih (o.move (by omega) (by omega) hl)
theorem Moved.tot {S S' : Sg} (k : Moved S S') : S'.tot = S.tot := by
  induction k with
  | done => rfl
  | more hl h _ ih => rw [ih]; exact Sg.tot_move _ (t := 2) (by omega) (by omega) hl
theorem Sunk.fit {q t : Nat} {S S' : Sg} (k : Sunk q t S S') : (S'.get t).length ≤ q := by
  induction k with
  | done h => exact h
  | more _ _ _ ih => exact ih

/-- One is let go: of the first list that has any. -/
inductive Left : Sg → Int → Sg → Prop
  | cold {S : Sg} {l : List Int} {x : Int} (h : S.c = l ++ [x]) : Left S x ((S.set 2 l).gone x)
  | warm {S : Sg} {l : List Int} {x : Int} (h2 : S.c = []) (h : S.m = l ++ [x]) : Left S x ((S.set 1 l).gone x)
  | hot {S : Sg} {l : List Int} {x : Int} (h2 : S.c = []) (h1 : S.m = []) (h : S.h = l ++ [x]) : Left S x ((S.set 0 l).gone x)

theorem Sg.Ok.pop {S : Sg} (o : S.Ok) {t : Nat} (ht : t < 3) {l : List Int} {x : Int} (hl : S.get t = l ++ [x]) : ((S.set t l).gone x).Ok := by
  have hn := o.nod t ht
  rw [hl, List.nodup_append] at hn
  refine o.leave ht (by rw [hl]; simp) (fun y => ?_) hn.1 (by rw [hl]; simp)
  rw [hl, List.mem_append]
  constructor
  · intro h
    exact ⟨.inl h, fun e => hn.2.2 y h x (by simp) e⟩
  · rintro ⟨h | h, h2⟩
    · exact h
    · exact absurd (by simpa using h) h2

theorem Left.ok {S S' : Sg} {x : Int} (k : Left S x S') (o : S.Ok) : S'.Ok := by
  cases k with
  | cold h => exact o.pop (by omega) h
  | warm _ h => exact o.pop (t := 1) (by omega) h
  | hot _ _ h => exact o.pop (t := 0) (by omega) h

end Go.Proofs.Ytpbbokpmlemboaa
