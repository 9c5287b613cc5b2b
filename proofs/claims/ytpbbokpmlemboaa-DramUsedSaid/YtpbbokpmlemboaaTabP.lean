/-
  The table, told plainly: chains of keys in new and old buckets, the keys' numbers; what Set, Delete, the move of a bucket make of it.
-/
import Derived.Test.YtpbbokpmlemboaaBase
namespace Go.Proofs.Ytpbbokpmlemboaa.Tb

def hstep (h : Nat) (x : UInt8) : Nat := ((h ^^^ x.toNat) * 1099511628211) % 18446744073709551616
def foldN (l : List UInt8) (h : Nat) : Nat := l.foldl hstep h
def hashK (k : ByteArray) : Nat := foldN k.data.toList 14695981039346656037

theorem hstep_lt (h : Nat) (x : UInt8) : hstep h x < 18446744073709551616 := Nat.mod_lt _ (by omega)
theorem hfold_lt (l : List UInt8) (h : Nat) (hh : h < 18446744073709551616) : foldN l h < 18446744073709551616 := by
  unfold foldN
  induction l generalizing h with
  | nil => exact hh
  | cons x l ih => exact ih _ (hstep_lt h x)
theorem hashK_lt (k : ByteArray) : hashK k < 18446744073709551616 := hfold_lt _ _ (by omega)

theorem str_inj {a b : ByteArray} (h : a.toList = b.toList) : a = b := by
  rw [ByteArray.toList_eq, ByteArray.toList_eq] at h
  obtain ⟨⟨a⟩⟩ := a
  obtain ⟨⟨b⟩⟩ := b
  exact congrArg (fun l => ByteArray.mk ⟨l⟩) h
theorem str_ne {a b : ByteArray} (h : ¬ a = b) : (a.toList == b.toList) = false := beq_eq_false_iff_ne.2 fun e => h (str_inj e)
theorem str_dec (a b : ByteArray) : (a.toList == b.toList) = decide (a = b) := by
  by_cases h : a = b
  · rw [decide_eq_true h, h]; exact beq_self_eq_true _
  · rw [decide_eq_false h]; exact str_ne h

structure KT where
  now : List (List ByteArray)
  old : List (List ByteArray)
  left : Nat
  m : List (ByteArray × Int)

instance (k : ByteArray) (l : List ByteArray) : Decidable (k ∈ l) :=
  decidable_of_iff (l.any (fun x => decide (x = k)) = true) (by
    rw [List.any_eq_true]
    constructor
    · rintro ⟨x, hx, he⟩
      exact of_decide_eq_true he ▸ hx
    · intro h
      exact ⟨k, h, decide_eq_true rfl⟩)
def keysM (m : List (ByteArray × Int)) : List ByteArray := m.map (·.1)
def getP (m : List (ByteArray × Int)) (k : ByteArray) : Option Int := (m.find? fun x => decide (x.1 = k)).map (·.2)
def updP (m : List (ByteArray × Int)) (k : ByteArray) (v : Int) : List (ByteArray × Int) := m.map fun x => if x.1 = k then (k, v) else x
def delP (m : List (ByteArray × Int)) (k : ByteArray) : List (ByteArray × Int) := m.filter fun x => decide (x.1 ≠ k)

def pushK (now : List (List ByteArray)) (k : ByteArray) : List (List ByteArray) := now.modify (hashK k % now.length) (k :: ·)
def KT.first (S : KT) : Nat := S.old.length - S.left
def KT.inOld (S : KT) (k : ByteArray) : Prop := 0 < S.left ∧ S.first ≤ hashK k % S.old.length
instance (S : KT) (k : ByteArray) : Decidable (S.inOld k) := inferInstanceAs (Decidable (_ ∧ _))
def moveK (S : KT) : KT :=
  if S.left = 0 then S
  else { now := (S.old.getD S.first []).foldl pushK S.now, old := if S.left = 1 then [] else S.old.set S.first [], left := S.left - 1, m := S.m }
def putK (S : KT) (k : ByteArray) : KT :=
  if S.inOld k then { S with old := pushK S.old k } else { S with now := pushK S.now k }
def growK (S : KT) : KT :=
  if 3 * S.now.length < 2 * S.m.length ∧ S.left = 0 ∧ S.now.length < 65536 then { S with old := S.now, left := S.now.length, now := List.replicate (2 * S.now.length) [] } else S
def setK (S : KT) (k : ByteArray) (v : Int) : KT :=
  if k ∈ keysM (moveK S).m then { moveK S with m := updP (moveK S).m k v }
  else growK { putK (moveK S) k with m := (moveK S).m ++ [(k, v)] }
def dropK (k : ByteArray) (l : List ByteArray) : List ByteArray := l.filter fun x => decide (x ≠ k)
def delK (S : KT) (k : ByteArray) : KT :=
  if k ∈ keysM (moveK S).m then { moveK S with now := (moveK S).now.map (dropK k), old := (moveK S).old.map (dropK k), m := delP (moveK S).m k }
  else moveK S

def KT.all (S : KT) : List ByteArray := S.now.flatten ++ S.old.flatten

structure KT.Ok (S : KT) : Prop where
  pos : 0 < S.now.length
  le : S.left ≤ S.old.length
  nil : S.left = 0 → S.old = []
  perm : S.all.Perm (keysM S.m)
  nd : (keysM S.m).Nodup
  nowAt : ∀ i k, k ∈ S.now.getD i [] → hashK k % S.now.length = i
  oldAt : ∀ i k, k ∈ S.old.getD i [] → hashK k % S.old.length = i ∧ S.first ≤ i
  nowIn : 0 < S.left → ∀ k, k ∈ S.now.flatten → hashK k % S.old.length < S.first
  big : S.now.length ≤ 131072
  olds : S.old.length ≤ 65536
  sz : ∀ k, k ∈ keysM S.m → k.size < 9223372036854775808

theorem moveK_m (S : KT) : (moveK S).m = S.m := by unfold moveK; split <;> rfl
theorem putK_m (S : KT) (k : ByteArray) : (putK S k).m = S.m := by unfold putK; split <;> rfl
theorem growK_m (S : KT) : (growK S).m = S.m := by unfold growK; split <;> rfl

theorem getD_modify {α : Type _} (l : List (List α)) (i j : Nat) (x : α) : (l.modify i (x :: ·)).getD j [] = if i = j ∧ i < l.length then x :: l.getD j [] else l.getD j [] := by
  rw [List.getD_eq_getElem?_getD, List.getD_eq_getElem?_getD, List.getElem?_modify]
  by_cases hij : i = j
  · subst hij
    by_cases hl : i < l.length
    · rw [if_pos ⟨rfl, hl⟩, List.getElem?_eq_getElem hl]
      simp
    · rw [if_neg (fun h => hl h.2), List.getElem?_eq_none (by omega)]
      rfl
  · rw [if_neg (fun h => hij h.1)]
    simp [hij]
theorem flatten_modify {α : Type _} : ∀ (l : List (List α)) (i : Nat) (x : α), i < l.length → (l.modify i (x :: ·)).flatten.Perm (x :: l.flatten)
  | c :: l, 0, x, _ => List.Perm.refl _
  | c :: l, i + 1, x, h => by
    have := flatten_modify l i x (by simpa using h)
    rw [List.modify_succ_cons, List.flatten_cons, List.flatten_cons]
    exact (List.Perm.append_left c this).trans List.perm_middle
theorem flatten_set {α : Type _} : ∀ (l : List (List α)) (i : Nat), i < l.length → (l.getD i [] ++ (l.set i []).flatten).Perm l.flatten
  | c :: l, 0, _ => List.Perm.refl _
  | c :: l, i + 1, h => by
    have := flatten_set l i (by simpa using h)
    rw [List.set_cons_succ, List.flatten_cons, List.flatten_cons, List.getD_cons_succ]
    refine List.Perm.trans ?_ (List.Perm.append_left c this)
    rw [← List.append_assoc, ← List.append_assoc]
    exact List.Perm.append_right _ List.perm_append_comm
theorem mem_flatten_getD {α : Type _} {l : List (List α)} {x : α} : x ∈ l.flatten ↔ ∃ i, i < l.length ∧ x ∈ l.getD i [] := by
  rw [List.mem_flatten]
  constructor
  · rintro ⟨c, hc, hx⟩
    obtain ⟨i, hi, rfl⟩ := List.getElem_of_mem hc
    exact ⟨i, hi, by rw [List.getD_eq_getElem?_getD, List.getElem?_eq_getElem hi]; exact hx⟩
  · rintro ⟨i, hi, hx⟩
    rw [List.getD_eq_getElem?_getD, List.getElem?_eq_getElem hi] at hx
    exact ⟨l[i], List.getElem_mem hi, hx⟩
theorem getD_len {α : Type _} {l : List (List α)} {x : α} {i : Nat} (h : x ∈ l.getD i []) : i < l.length := by
  by_cases hi : i < l.length
  · exact hi
  · rw [List.getD_eq_getElem?_getD, List.getElem?_eq_none (by omega)] at h
    cases h

theorem pushK_len (now : List (List ByteArray)) (k : ByteArray) : (pushK now k).length = now.length := by unfold pushK; rw [List.length_modify]
theorem pushK_mem {now : List (List ByteArray)} {k x : ByteArray} {i : Nat} (h : x ∈ (pushK now k).getD i []) : (x = k ∧ i = hashK k % now.length) ∨ x ∈ now.getD i [] := by
  unfold pushK at h
  rw [getD_modify] at h
  split at h
  case isTrue hc =>
    rcases List.mem_cons.1 h with h | h
    · exact .inl ⟨h, hc.1.symm⟩
    · exact .inr h
  case isFalse => exact .inr h
theorem pushK_perm {now : List (List ByteArray)} (k : ByteArray) (h : 0 < now.length) : (pushK now k).flatten.Perm (k :: now.flatten) := flatten_modify _ _ _ (Nat.mod_lt _ h)

theorem fold_len (c : List ByteArray) (now : List (List ByteArray)) : (c.foldl pushK now).length = now.length := by
  induction c generalizing now with
  | nil => rfl
  | cons k c ih => rw [List.foldl_cons, ih, pushK_len]
theorem fold_perm (c : List ByteArray) (now : List (List ByteArray)) (h : 0 < now.length) : (c.foldl pushK now).flatten.Perm (c ++ now.flatten) := by
  induction c generalizing now with
  | nil => exact List.Perm.refl _
  | cons k c ih =>
    rw [List.foldl_cons]
    refine (ih _ (by rw [pushK_len]; exact h)).trans ?_
    refine (List.Perm.append_left c (pushK_perm k h)).trans ?_
    exact List.perm_middle
theorem fold_at (c : List ByteArray) (now : List (List ByteArray)) (h : ∀ i x, x ∈ now.getD i [] → hashK x % now.length = i) : ∀ i x, x ∈ (c.foldl pushK now).getD i [] → hashK x % now.length = i := by
  induction c generalizing now with
  | nil => exact h
  | cons k c ih =>
    rw [List.foldl_cons]
    have := ih (pushK now k) (fun i x hx => by
      rw [pushK_len]
      rcases pushK_mem hx with ⟨rfl, rfl⟩ | hx
      · rfl
      · exact h i x hx)
    rw [pushK_len] at this
    exact this

theorem set_getD {α : Type _} (l : List (List α)) (i j : Nat) : (l.set i []).getD j [] = if i = j then [] else l.getD j [] := by
  rw [List.getD_eq_getElem?_getD, List.getD_eq_getElem?_getD, List.getElem?_set]
  by_cases hij : i = j
  · subst hij
    rw [if_pos rfl, if_pos rfl]
    split <;> rfl
  · rw [if_neg hij, if_neg hij]

theorem moveK_ok {S : KT} (h : S.Ok) : (moveK S).Ok := by
  unfold moveK
  split
  · exact h
  next h0 =>
    have hle := h.le
    have hf : S.first < S.old.length := by unfold KT.first; omega
    have hset := flatten_set S.old S.first hf
    have hcase : (if S.left = 1 then [] else S.old.set S.first []).flatten = (S.old.set S.first []).flatten := by
      split
      next h1 =>
        symm
        rw [List.flatten_nil, List.flatten_eq_nil_iff]
        intro c hc
        apply List.eq_nil_iff_forall_not_mem.2
        intro x hx
        have hx2 : x ∈ (S.old.set S.first []).flatten := List.mem_flatten.2 ⟨c, hc, hx⟩
        obtain ⟨i, hi, hx3⟩ := mem_flatten_getD.1 hx2
        rw [set_getD] at hx3
        split at hx3
        · cases hx3
        next hne =>
          have := (h.oldAt i x hx3).2
          rw [List.length_set] at hi
          unfold KT.first at this hne
          omega
      · rfl
    refine ⟨?_, ?_, ?_, ?_, h.nd, ?_, ?_, ?_, ?_, ?_, h.sz⟩
    · show 0 < (List.foldl pushK S.now _).length
      rw [fold_len]; exact h.pos
    · show S.left - 1 ≤ (if S.left = 1 then [] else S.old.set S.first []).length
      split
      · simp; omega
      · rw [List.length_set]; omega
    · intro h1
      show (if S.left = 1 then [] else S.old.set S.first []) = []
      rw [if_pos (by show S.left = 1; have : S.left - 1 = 0 := h1; omega)]
    · show ((List.foldl pushK S.now _).flatten ++ (if S.left = 1 then [] else S.old.set S.first []).flatten).Perm _
      rw [hcase]
      refine List.Perm.trans ?_ h.perm
      refine ((fold_perm _ _ h.pos).append_right _).trans ?_
      unfold KT.all
      refine (List.Perm.append_right _ List.perm_append_comm).trans ?_
      rw [List.append_assoc]
      exact List.Perm.append_left _ hset
    · intro i k hk
      show hashK k % (List.foldl pushK S.now _).length = i
      rw [fold_len]
      exact fold_at _ _ h.nowAt i k hk
    · intro i k hk
      replace hk : k ∈ (if S.left = 1 then [] else S.old.set S.first []).getD i [] := hk
      show hashK k % (if S.left = 1 then [] else S.old.set S.first []).length = i ∧ (if S.left = 1 then [] else S.old.set S.first []).length - (S.left - 1) ≤ i
      split at hk
      · cases hk
      next h1 =>
        rw [if_neg h1, List.length_set]
        rw [set_getD] at hk
        split at hk
        · cases hk
        next hne =>
          have := h.oldAt i k hk
          refine ⟨this.1, ?_⟩
          have h2 := this.2
          unfold KT.first at h2 hne
          omega
    · intro h1 k hk
      replace h1 : 0 < S.left - 1 := h1
      show hashK k % (if S.left = 1 then [] else S.old.set S.first []).length < (if S.left = 1 then [] else S.old.set S.first []).length - (S.left - 1)
      rw [if_neg (by omega), List.length_set]
      have hk2 := (fold_perm _ _ h.pos).mem_iff.1 hk
      rcases List.mem_append.1 hk2 with hk3 | hk3
      · have := h.oldAt _ k hk3
        unfold KT.first at this
        omega
      · have := h.nowIn (by omega) k hk3
        unfold KT.first at this
        omega
    · show (List.foldl pushK S.now _).length ≤ _
      rw [fold_len]; exact h.big
    · show (if S.left = 1 then [] else S.old.set S.first []).length ≤ _
      split
      · simp
      · rw [List.length_set]; exact h.olds

theorem updP_keys (m : List (ByteArray × Int)) (k : ByteArray) (v : Int) : keysM (updP m k v) = keysM m := by
  unfold keysM updP
  rw [List.map_map]
  apply List.map_congr_left
  intro x _
  show (if x.1 = k then (k, v) else x).1 = x.1
  split
  next h => exact h.symm
  · rfl
theorem delP_keys (m : List (ByteArray × Int)) (k : ByteArray) : keysM (delP m k) = dropK k (keysM m) := by
  unfold keysM delP dropK
  rw [List.filter_map]
  rfl
theorem keysM_app (m : List (ByteArray × Int)) (k : ByteArray) (v : Int) : keysM (m ++ [(k, v)]) = keysM m ++ [k] := by unfold keysM; rw [List.map_append]; rfl
theorem keysM_len (m : List (ByteArray × Int)) : (keysM m).length = m.length := List.length_map ..

theorem putK_ok {S : KT} (h : S.Ok) {k : ByteArray} (v : Int) (hk : k ∉ keysM S.m) (hz : k.size < 9223372036854775808) : ({ putK S k with m := S.m ++ [(k, v)] } : KT).Ok := by
  have hnd : (keysM (S.m ++ [(k, v)])).Nodup := by
    rw [keysM_app]
    exact (List.perm_append_comm (l₁ := keysM S.m) (l₂ := [k])).nodup_iff.2 (List.nodup_cons.2 ⟨hk, h.nd⟩)
  have hpk : (k :: keysM S.m).Perm (keysM (S.m ++ [(k, v)])) := by
    rw [keysM_app]
    exact (List.perm_append_comm (l₁ := keysM S.m) (l₂ := [k])).symm
  have hle := h.le
  have hsz : ∀ x, x ∈ keysM (S.m ++ [(k, v)]) → x.size < 9223372036854775808 := by
    intro x hx
    rw [keysM_app] at hx
    rcases List.mem_append.1 hx with hx | hx
    · exact h.sz x hx
    · rw [List.mem_singleton.1 hx]; exact hz
  unfold putK
  split
  next ho =>
    have hpos : 0 < S.old.length := by have := ho.1; omega
    refine ⟨h.pos, ?_, ?_, ?_, hnd, h.nowAt, ?_, ?_, h.big, ?_, hsz⟩
    · show S.left ≤ (pushK S.old k).length
      rw [pushK_len]; exact hle
    · intro h0
      have h0' : S.left = 0 := h0
      have := ho.1
      omega
    · show (S.now.flatten ++ (pushK S.old k).flatten).Perm _
      refine List.Perm.trans ?_ hpk
      refine ((pushK_perm k hpos).append_left _).trans ?_
      exact List.perm_middle.trans (List.Perm.cons _ h.perm)
    · intro i x hx
      show hashK x % (pushK S.old k).length = i ∧ (pushK S.old k).length - S.left ≤ i
      rw [pushK_len]
      rcases pushK_mem hx with ⟨rfl, rfl⟩ | hx
      · exact ⟨rfl, ho.2⟩
      · exact h.oldAt i x hx
    · intro h1 x hx
      show hashK x % (pushK S.old k).length < (pushK S.old k).length - S.left
      rw [pushK_len]
      exact h.nowIn h1 x hx
    · show (pushK S.old k).length ≤ _
      rw [pushK_len]; exact h.olds
  next ho =>
    refine ⟨?_, hle, h.nil, ?_, hnd, ?_, h.oldAt, ?_, ?_, h.olds, hsz⟩
    · show 0 < (pushK S.now k).length
      rw [pushK_len]; exact h.pos
    · show ((pushK S.now k).flatten ++ S.old.flatten).Perm _
      refine List.Perm.trans ?_ hpk
      refine ((pushK_perm k h.pos).append_right _).trans ?_
      exact List.Perm.cons _ h.perm
    · intro i x hx
      show hashK x % (pushK S.now k).length = i
      rw [pushK_len]
      rcases pushK_mem hx with ⟨rfl, rfl⟩ | hx
      · rfl
      · exact h.nowAt i x hx
    · intro h1 x hx
      replace h1 : 0 < S.left := h1
      have hx2 := (pushK_perm k h.pos).mem_iff.1 hx
      show hashK x % S.old.length < S.first
      rcases List.mem_cons.1 hx2 with rfl | hx3
      · unfold KT.inOld at ho
        omega
      · exact h.nowIn h1 x hx3
    · show (pushK S.now k).length ≤ _
      rw [pushK_len]; exact h.big

theorem replicate_flatten {α : Type _} (n : Nat) : (List.replicate n ([] : List α)).flatten = [] := by
  rw [List.flatten_eq_nil_iff]
  intro c hc
  exact (List.mem_replicate.1 hc).2
theorem growK_ok {S : KT} (h : S.Ok) : (growK S).Ok := by
  unfold growK
  split
  next hc =>
    have ho := h.nil hc.2.1
    have hp := h.perm
    unfold KT.all at hp
    rw [ho, List.flatten_nil, List.append_nil] at hp
    refine ⟨?_, Nat.le_refl _, ?_, ?_, h.nd, ?_, ?_, ?_, ?_, ?_, h.sz⟩
    · show 0 < (List.replicate (2 * S.now.length) []).length
      rw [List.length_replicate]; have := h.pos; omega
    · intro h0
      have := h.pos
      have h0' : S.now.length = 0 := h0
      omega
    · show ((List.replicate (2 * S.now.length) []).flatten ++ S.now.flatten).Perm _
      rw [replicate_flatten]
      exact hp
    · intro i k hk
      have := getD_len hk
      replace hk : k ∈ (List.replicate (2 * S.now.length) []).getD i [] := hk
      exfalso
      have : k ∈ (List.replicate (2 * S.now.length) ([] : List ByteArray)).flatten := mem_flatten_getD.2 ⟨i, this, hk⟩
      rw [replicate_flatten] at this
      cases this
    · intro i k hk
      refine ⟨h.nowAt i k hk, ?_⟩
      show S.now.length - S.now.length ≤ i
      omega
    · intro _ k hk
      replace hk : k ∈ (List.replicate (2 * S.now.length) ([] : List ByteArray)).flatten := hk
      rw [replicate_flatten] at hk
      cases hk
    · show (List.replicate (2 * S.now.length) ([] : List ByteArray)).length ≤ _
      rw [List.length_replicate]
      omega
    · show S.now.length ≤ _
      omega
  · exact h

theorem setK_ok {S : KT} (h : S.Ok) (k : ByteArray) (v : Int) (hz : k.size < 9223372036854775808) : (setK S k v).Ok := by
  have h1 := moveK_ok h
  unfold setK
  split
  · exact ⟨h1.pos, h1.le, h1.nil, by rw [updP_keys]; exact h1.perm, by rw [updP_keys]; exact h1.nd, h1.nowAt, h1.oldAt, h1.nowIn, h1.big, h1.olds, by rw [updP_keys]; exact h1.sz⟩
  next hk => exact growK_ok (putK_ok h1 v hk hz)

theorem map_getD {α β : Type _} (l : List (List α)) (f : List α → List β) (hf : f [] = []) (i : Nat) : (l.map f).getD i [] = f (l.getD i []) := by
  rw [List.getD_eq_getElem?_getD, List.getD_eq_getElem?_getD, List.getElem?_map]
  cases l[i]? with
  | none => exact hf.symm
  | some c => rfl
theorem drop_flatten (k : ByteArray) (l : List (List ByteArray)) : (l.map (dropK k)).flatten = dropK k l.flatten := by
  induction l with
  | nil => rfl
  | cons c l ih => rw [List.map_cons, List.flatten_cons, List.flatten_cons, ih]; unfold dropK; rw [List.filter_append]
theorem delK_ok {S : KT} (h : S.Ok) (k : ByteArray) : (delK S k).Ok := by
  have h1 := moveK_ok h
  unfold delK
  split
  · generalize moveK S = S at *
    refine ⟨?_, ?_, ?_, ?_, ?_, ?_, ?_, ?_, ?_, ?_, fun x hx => h1.sz x (by rw [delP_keys] at hx; exact (List.mem_filter.1 hx).1)⟩
    · show 0 < (S.now.map (dropK k)).length
      rw [List.length_map]; exact h1.pos
    · show S.left ≤ (S.old.map (dropK k)).length
      rw [List.length_map]; exact h1.le
    · intro h0
      show S.old.map (dropK k) = []
      rw [h1.nil h0]; rfl
    · show ((S.now.map (dropK k)).flatten ++ (S.old.map (dropK k)).flatten).Perm (keysM (delP S.m k))
      rw [delP_keys, drop_flatten, drop_flatten]
      unfold dropK
      rw [← List.filter_append]
      exact h1.perm.filter _
    · show (keysM (delP S.m k)).Nodup
      rw [delP_keys]
      exact h1.nd.filter _
    · intro i x hx
      show hashK x % (S.now.map (dropK k)).length = i
      rw [List.length_map]
      replace hx : x ∈ (S.now.map (dropK k)).getD i [] := hx
      rw [map_getD _ _ rfl] at hx
      exact h1.nowAt i x ((List.mem_filter.1 hx).1)
    · intro i x hx
      show hashK x % (S.old.map (dropK k)).length = i ∧ (S.old.map (dropK k)).length - S.left ≤ i
      rw [List.length_map]
      replace hx : x ∈ (S.old.map (dropK k)).getD i [] := hx
      rw [map_getD _ _ rfl] at hx
      exact h1.oldAt i x ((List.mem_filter.1 hx).1)
    · intro h0 x hx
      show hashK x % (S.old.map (dropK k)).length < (S.old.map (dropK k)).length - S.left
      rw [List.length_map]
      replace hx : x ∈ (S.now.map (dropK k)).flatten := hx
      rw [drop_flatten] at hx
      exact h1.nowIn h0 x ((List.mem_filter.1 hx).1)
    · show (S.now.map (dropK k)).length ≤ _
      rw [List.length_map]; exact h1.big
    · show (S.old.map (dropK k)).length ≤ _
      rw [List.length_map]; exact h1.olds
  · exact h1

/-- A new table. -/
def newK (n : Nat) : KT := { now := List.replicate n [], old := [], left := 0, m := [] }
theorem newK_ok {n : Nat} (h : 0 < n) (h2 : n ≤ 131072) : (newK n).Ok := by
  refine ⟨by show 0 < (List.replicate n []).length; rw [List.length_replicate]; exact h, Nat.le_refl _, fun _ => rfl, ?_, List.nodup_nil, ?_, ?_, fun h => absurd h (Nat.lt_irrefl 0), by show (List.replicate n []).length ≤ _; rw [List.length_replicate]; exact h2, by show 0 ≤ _; omega, fun k hk => by cases hk⟩
  · show ((List.replicate n []).flatten ++ []).Perm []
    rw [replicate_flatten]
    exact List.Perm.refl _
  · intro i k hk
    replace hk : k ∈ (List.replicate n []).getD i [] := hk
    exfalso
    have : k ∈ (List.replicate n ([] : List ByteArray)).flatten := mem_flatten_getD.2 ⟨i, getD_len hk, hk⟩
    rw [replicate_flatten] at this
    cases this
  · intro i k hk
    cases hk

/-- A key's chain holds it, if any does. -/
def KT.chain (S : KT) (k : ByteArray) : List ByteArray := if S.inOld k then S.old.getD (hashK k % S.old.length) [] else S.now.getD (hashK k % S.now.length) []
theorem KT.Ok.in_chain {S : KT} (h : S.Ok) (k : ByteArray) : k ∈ S.chain k ↔ k ∈ keysM S.m := by
  rw [← h.perm.mem_iff]
  unfold KT.chain KT.all
  rw [List.mem_append]
  constructor
  · intro hk
    split at hk
    · exact .inr (mem_flatten_getD.2 ⟨_, getD_len hk, hk⟩)
    · exact .inl (mem_flatten_getD.2 ⟨_, getD_len hk, hk⟩)
  · rintro (hk | hk)
    · obtain ⟨i, hi, hx⟩ := mem_flatten_getD.1 hk
      have h1 := h.nowAt i k hx
      rw [if_neg]
      · rw [h1]; exact hx
      · rintro ⟨h2, h3⟩
        have := h.nowIn h2 k hk
        omega
    · obtain ⟨i, hi, hx⟩ := mem_flatten_getD.1 hk
      have h1 := h.oldAt i k hx
      have hle := h.le
      rw [if_pos]
      · rw [h1.1]; exact hx
      · refine ⟨?_, by rw [h1.1]; exact h1.2⟩
        by_cases h0 : S.left = 0
        · rw [h.nil h0] at hi
          exact absurd hi (Nat.not_lt_zero _)
        · omega

end Go.Proofs.Ytpbbokpmlemboaa.Tb
