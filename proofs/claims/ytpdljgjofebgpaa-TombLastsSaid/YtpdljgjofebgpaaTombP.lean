/-
  tomb: pages of marks, the journal: plain.
-/
import Derived.Test.YtpdljgjofebgpaaFlashP
import Derived.Test.YtpdljgjofebgpaaSupP
import Derived.Test.YtpdljgjofebgpaaMaps
namespace Go.Proofs.Ytpdljgjofebgpaa

/-- A mark: a key's number, a version. -/
abbrev Mk := Nat × Nat
def Mk.ok (m : Mk) : Prop := m.1 < 18446744073709551616 ∧ m.2 < 18446744073709551616
def mkB (m : Mk) : List UInt8 := le 8 m.1 ++ le 8 m.2
def marksB (l : List Mk) : List UInt8 := l.flatMap mkB
def tomB : List UInt8 := [84, 79, 77, 66]
def tpage (gen : Nat) (l : List Mk) : List UInt8 := tomB ++ (le 4 l.length ++ (le 8 gen ++ marksB l))
def markAt (p : List UInt8) (i : Nat) : Mk := (upL (sub p (16 + 16 * i) 8), upL (sub p (24 + 16 * i) 8))
def marksOf (p : List UInt8) (n : Nat) : List Mk := (List.range n).map (markAt p)
def tread (gen : Nat) (p : List UInt8) : Option (List Mk) :=
  if p.take 4 = tomB ∧ upL (sub p 4 4) ≤ 23 ∧ upL (sub p 8 8) = gen then some (marksOf p (upL (sub p 4 4))) else none

theorem mkB_len (m : Mk) : (mkB m).length = 16 := by unfold mkB; rw [List.length_append, le_len, le_len]
theorem marksB_snoc (l : List Mk) (m : Mk) : marksB (l ++ [m]) = marksB l ++ mkB m := by unfold marksB; simp
theorem marksB_append (l r : List Mk) : marksB (l ++ r) = marksB l ++ marksB r := by unfold marksB; simp
theorem marksB_len : ∀ l : List Mk, (marksB l).length = 16 * l.length
  | [] => rfl
  | m :: l => by
    rw [show marksB (m :: l) = mkB m ++ marksB l from rfl, List.length_append, mkB_len, marksB_len l, List.length_cons]
    omega
theorem tpage_len (gen : Nat) (l : List Mk) : (tpage gen l).length = 16 + 16 * l.length := by
  unfold tpage
  simp only [List.length_append, le_len, marksB_len]
  show 4 + _ = _
  omega

theorem markAt_page {H : List UInt8} (hH : H.length = 16) (l : List Mk) (rest : List UInt8) {i : Nat} (hi : i < l.length) (ho : ∀ m, m ∈ l → m.ok) : markAt (H ++ (marksB l ++ rest)) i = l[i] := by
  have hl : l = l.take i ++ (l[i] :: l.drop (i + 1)) := by rw [← List.drop_eq_getElem_cons hi, List.take_append_drop]
  have hm := ho l[i] (List.getElem_mem hi)
  have h1 : marksB l = marksB (l.take i) ++ (le 8 l[i].1 ++ (le 8 l[i].2 ++ marksB (l.drop (i + 1)))) := by
    conv => lhs; rw [hl]
    rw [marksB_append, show marksB (l[i] :: l.drop (i + 1)) = mkB l[i] ++ marksB (l.drop (i + 1)) from rfl]
    unfold mkB
    simp only [List.append_assoc]
  have hlen : (H ++ marksB (l.take i)).length = 16 + 16 * i := by rw [List.length_append, hH, marksB_len, List.length_take, Nat.min_eq_left (by omega)]
  unfold markAt
  rw [h1]
  have e1 : sub (H ++ (marksB (l.take i) ++ (le 8 l[i].1 ++ (le 8 l[i].2 ++ marksB (l.drop (i + 1)))) ++ rest)) (16 + 16 * i) 8 = le 8 l[i].1 := by
    have := sub_mid (H ++ marksB (l.take i)) (le 8 l[i].1) (le 8 l[i].2 ++ marksB (l.drop (i + 1)) ++ rest) hlen (le_len 8 _)
    simp only [List.append_assoc] at this ⊢
    exact this
  have e2 : sub (H ++ (marksB (l.take i) ++ (le 8 l[i].1 ++ (le 8 l[i].2 ++ marksB (l.drop (i + 1)))) ++ rest)) (24 + 16 * i) 8 = le 8 l[i].2 := by
    have := sub_mid (H ++ marksB (l.take i) ++ le 8 l[i].1) (le 8 l[i].2) (marksB (l.drop (i + 1)) ++ rest) (a := 24 + 16 * i) (n := 8) (by rw [List.length_append, hlen, le_len]; omega) (le_len 8 _)
    simp only [List.append_assoc] at this ⊢
    exact this
  rw [e1, e2, upL_le 8 _ hm.1, upL_le 8 _ hm.2]

/-- What the head of a page tells. -/
theorem tread_page {gen : Nat} {l : List Mk} (hg : gen < 18446744073709551616) (hl : l.length ≤ 23) (ho : ∀ m, m ∈ l → m.ok) (g : Nat) (rest : List UInt8) : tread g (tpage gen l ++ rest) = if gen = g then some l else none := by
  have hn : upL (sub (tpage gen l ++ rest) 4 4) = l.length := by
    have := sub_mid tomB (le 4 l.length) (le 8 gen ++ marksB l ++ rest) (a := 4) (n := 4) rfl (le_len 4 _)
    rw [show tpage gen l ++ rest = tomB ++ (le 4 l.length ++ (le 8 gen ++ marksB l ++ rest)) by unfold tpage; simp only [List.append_assoc], this]
    exact upL_le 4 _ (by show l.length < 4294967296; omega)
  have hG : upL (sub (tpage gen l ++ rest) 8 8) = gen := by
    have := sub_mid (tomB ++ le 4 l.length) (le 8 gen) (marksB l ++ rest) (a := 8) (n := 8) (by rw [List.length_append, le_len]; rfl) (le_len 8 _)
    rw [show tpage gen l ++ rest = tomB ++ le 4 l.length ++ (le 8 gen ++ (marksB l ++ rest)) by unfold tpage; simp only [List.append_assoc], this]
    exact upL_le 8 _ hg
  have hT : (tpage gen l ++ rest).take 4 = tomB := by unfold tpage; simp [tomB]
  have hM : marksOf (tpage gen l ++ rest) l.length = l := by
    unfold marksOf
    apply List.ext_getElem
    · simp
    · intro i h1 h2
      rw [List.getElem_map, List.getElem_range, show tpage gen l ++ rest = (tomB ++ (le 4 l.length ++ le 8 gen)) ++ (marksB l ++ rest) by unfold tpage; simp only [List.append_assoc]]
      exact markAt_page (by simp only [List.length_append, le_len]; rfl) l rest h2 ho
  unfold tread
  rw [hn, hG, hT, hM]
  by_cases h : gen = g
  · rw [if_pos ⟨rfl, hl, h⟩, if_pos h]
  · rw [if_neg fun h2 => h h2.2.2, if_neg h]

def note1 (M : List Mk) (m : Mk) : List Mk := match getM M m.1 with
  | none => setM M m.1 m.2
  | some v => if v < m.2 then setM M m.1 m.2 else M
def noteL (M l : List Mk) : List Mk := l.foldl note1 M
def goneB (M : List Mk) (k v : Nat) : Bool := match getM M k with
  | none => false
  | some u => decide (v ≤ u)

theorem noteL_snoc (M l : List Mk) (m : Mk) : noteL M (l ++ [m]) = note1 (noteL M l) m := by unfold noteL; simp
theorem noteL_append (M l r : List Mk) : noteL M (l ++ r) = noteL (noteL M l) r := by unfold noteL; simp
theorem note1_new (M : List Mk) (m : Mk) : goneB (note1 M m) m.1 m.2 = true := by
  unfold note1
  cases h : getM M m.1 with
  | none => unfold goneB; simp [getM_setM]
  | some v =>
    simp only
    by_cases hv : v < m.2
    · rw [if_pos hv]; unfold goneB; simp [getM_setM]
    · rw [if_neg hv]; unfold goneB; rw [h]; simp; omega
theorem note1_keep {M : List Mk} {k v : Nat} (m : Mk) (h : goneB M k v = true) : goneB (note1 M m) k v = true := by
  unfold goneB at h
  unfold note1
  cases hm : getM M m.1 with
  | none =>
    simp only
    unfold goneB
    rw [getM_setM]
    by_cases hk : k = m.1
    · rw [hk, hm] at h; cases h
    · rw [if_neg hk]; exact h
  | some u =>
    simp only
    by_cases hv : u < m.2
    · rw [if_pos hv]
      unfold goneB
      rw [getM_setM]
      by_cases hk : k = m.1
      · rw [if_pos hk]
        rw [hk, hm] at h
        simp at h ⊢
        omega
      · rw [if_neg hk]; exact h
    · rw [if_neg hv]; exact h
theorem noteL_keep {k v : Nat} : ∀ (l : List Mk) {M : List Mk}, goneB M k v = true → goneB (noteL M l) k v = true
  | [], _, h => h
  | m :: l, _, h => noteL_keep l (note1_keep m h)
theorem noteL_gone {m : Mk} : ∀ (l : List Mk) {M : List Mk}, m ∈ l → goneB (noteL M l) m.1 m.2 = true
  | [], _, h => by cases h
  | x :: l, M, h => by
    rw [List.mem_cons] at h
    rcases h with rfl | h
    · exact noteL_keep l (note1_new M m)
    · exact noteL_gone l (M := note1 M x) h
theorem goneB_le {M : List Mk} {k v u : Nat} (h : goneB M k v = true) (hu : u ≤ v) : goneB M k u = true := by
  unfold goneB at h ⊢
  cases hg : getM M k with
  | none => rw [hg] at h; cases h
  | some x => rw [hg] at h; simp at h ⊢; omega

structure Jn where
  first : Nat
  pages : Nat
  gen : Nat
  used : Nat
  loss : Int
  M : List Mk

/-- How a journal is read: how many pages are used, what is known. -/
def openL (now : Nat → Pg) (first gen : Nat) : Nat → Nat → List Mk → Nat × List Mk
  | 0, u, M => (u, M)
  | n + 1, u, M => match now (first + u) with
    | .blank => (u, M)
    | .torn => openL now first gen n (u + 1) M
    | .whole b => match tread gen b with
      | none => (u, M)
      | some l => openL now first gen n (u + 1) (noteL M l)

/-- Pages that were added: their marks; none: it is torn. -/
def Lies (now : Nat → Pg) (first gen : Nat) (ps : List (Option (List Mk))) : Prop :=
  ∀ i, i < ps.length → match ps.getD i none with
    | none => now (first + i) = .torn
    | some l => now (first + i) = .whole (pad (tpage gen l)) ∧ l.length ≤ 23 ∧ ∀ m, m ∈ l → m.ok

def allMarks (ps : List (Option (List Mk))) : List Mk := ps.flatMap fun p => p.getD []

theorem openL_blank {now : Nat → Pg} {first gen n u : Nat} {M : List Mk} (h : now (first + u) = .blank) : openL now first gen n u M = (u, M) := by
  cases n with
  | zero => rfl
  | succ n => unfold openL; rw [h]

theorem openL_other {now : Nat → Pg} {first gen g n u : Nat} {M l : List Mk} (h : now (first + u) = .whole (pad (tpage g l))) (hg : g < 18446744073709551616) (hl : l.length ≤ 23) (ho : ∀ m, m ∈ l → m.ok) (hne : g ≠ gen) : openL now first gen n u M = (u, M) := by
  cases n with
  | zero => rfl
  | succ n =>
    unfold openL
    rw [h]
    simp only
    unfold pad
    rw [tread_page hg hl ho gen, if_neg hne]

theorem openL_lies {now : Nat → Pg} {gen : Nat} (hg : gen < 18446744073709551616) : ∀ (ps : List (Option (List Mk))) (first n u : Nat) (M : List Mk), Lies now (first + u) gen ps → ps.length ≤ n →
    openL now first gen n u M = openL now first gen (n - ps.length) (u + ps.length) (noteL M (allMarks ps))
  | [], first, n, u, M, _, _ => rfl
  | p :: ps, first, n, u, M, h, hn => by
    obtain ⟨n, rfl⟩ : ∃ k, n = k + 1 := ⟨n - 1, by simp at hn; omega⟩
    have h0 := h 0 (by simp)
    have hs : Lies now (first + (u + 1)) gen ps := fun i hi => by
      have := h (i + 1) (by simp; omega)
      simp only [List.getD_cons_succ] at this
      rw [show first + u + (i + 1) = first + (u + 1) + i from by omega] at this
      exact this
    have ih := fun M => openL_lies hg ps first n (u + 1) M hs (by simp at hn; omega)
    have e1 : n + 1 - (p :: ps).length = n - ps.length := by simp
    have e2 : u + (p :: ps).length = u + 1 + ps.length := by simp; omega
    rw [e1, e2]
    conv => lhs; unfold openL
    cases p with
    | none =>
      have h0 : now (first + u) = .torn := h0
      rw [h0]
      simp only
      rw [ih]
      rfl
    | some l =>
      have h0 : now (first + u) = .whole (pad (tpage gen l)) ∧ l.length ≤ 23 ∧ ∀ m, m ∈ l → m.ok := h0
      rw [h0.1]
      simp only
      unfold pad
      rw [tread_page hg h0.2.1 h0.2.2 gen, if_pos rfl]
      simp only
      rw [ih, ← noteL_append]
      rfl

/-- What Add does: its answer, the device, the journal. -/
def addTo (D : Dv) (J : Jn) (l : List Mk) : Int × Dv × Jn :=
  if D.spend.off = true then (4, D.change (J.first + J.used) (.whole (pad (tpage J.gen l))), J)
  else if (D.change (J.first + J.used) (.whole (pad (tpage J.gen l)))).spend.off = true then (4, (D.change (J.first + J.used) (.whole (pad (tpage J.gen l)))).flush, { J with used := J.used + 1 })
  else (0, (D.change (J.first + J.used) (.whole (pad (tpage J.gen l)))).flush, { J with used := J.used + 1, M := noteL J.M l })

end Go.Proofs.Ytpdljgjofebgpaa
