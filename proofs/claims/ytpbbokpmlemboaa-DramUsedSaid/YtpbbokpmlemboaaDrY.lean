/-
  dram: plain: the things in the lists of use are all that there are; a Put that lets nothing go; the first three Puts of the law's awake.
-/
import Derived.Test.YtpbbokpmlemboaaDrX
namespace Go.Proofs.Ytpbbokpmlemboaa
open Go.RowKit Sl

theorem own_form {w : World} {base : Nat} {e : TypeId} {size n : Nat} {v : Value} {xs : List Value} (h : w.ownsRow base e size v n xs) : ∃ (A : Option Addr) (cap : Nat), v = .slice A n cap := by
  rcases h.2 with ⟨h, hn⟩ | ⟨g, cap, cur, h, _⟩
  · exact ⟨none, 0, by rw [h, hn]⟩
  · exact ⟨_, _, h⟩

theorem cat_mem {S : Sg} (o : S.Ok) (x : Int) : x ∈ catTo S.get 3 ↔ (getM S.I x).isSome = true := by
  show x ∈ (([] ++ S.get 0) ++ S.get 1) ++ S.get 2 ↔ _
  rw [List.nil_append, List.mem_append, List.mem_append, o.inn x 0 (by omega), o.inn x 1 (by omega), o.inn x 2 (by omega)]
  constructor
  · rintro ((h | h) | h) <;> rw [h] <;> rfl
  · intro h
    obtain ⟨t, ht⟩ := Option.isSome_iff_exists.1 h
    obtain ⟨k, hk, rfl⟩ := o.rng x t ht
    match k, hk with
    | 0, _ => exact .inl (.inl ht)
    | 1, _ => exact .inl (.inr ht)
    | 2, _ => exact .inr ht
theorem cat_nodup {S : Sg} (o : S.Ok) : (catTo S.get 3).Nodup := by
  show ((([] ++ S.get 0) ++ S.get 1) ++ S.get 2).Nodup
  have one : ∀ {i j : Nat} {x : Int}, i < 3 → j < 3 → x ∈ S.get i → x ∈ S.get j → i = j := fun hi hj h1 h2 => by
    rw [o.inn _ _ hi] at h1
    rw [o.inn _ _ hj, h1] at h2
    simp at h2
    omega
  rw [List.nil_append, List.nodup_append, List.nodup_append]
  refine ⟨⟨o.nod 0 (by omega), o.nod 1 (by omega), fun a ha b hb e => ?_⟩, o.nod 2 (by omega), fun a ha b hb e => ?_⟩
  · subst e
    have := one (i := 0) (j := 1) (by omega) (by omega) ha hb
    omega
  · subst e
    rcases List.mem_append.1 ha with ha | ha
    · have := one (i := 0) (j := 2) (by omega) (by omega) ha hb
      omega
    · have := one (i := 1) (j := 2) (by omega) (by omega) ha hb
      omega
theorem listTo_facts {C : DC} (h : C.Ok) : ∀ k, k ≤ 6 → (listTo C k).Nodup ∧ ∀ x, x ∈ listTo C k ↔ isTaken C.S x = true ∧ 0 ≤ ofS C.S x ∧ ofS C.S x < (k : Int)
  | 0, _ => ⟨List.nodup_nil, fun x => by
      constructor
      · intro h; cases h
      · rintro ⟨_, h1, h2⟩; omega⟩
  | k + 1, hk => by
    obtain ⟨n1, m1⟩ := listTo_facts h k (by omega)
    have mk : ∀ x, x ∈ catTo (C.G k).get 3 ↔ isTaken C.S x = true ∧ ofS C.S x = (k : Int) := fun x => by
      rw [cat_mem (h.sg k (by omega)), h.seg k x (by omega)]
      simp
    refine ⟨?_, fun x => ?_⟩
    · show (listTo C k ++ catTo (C.G k).get 3).Nodup
      rw [List.nodup_append]
      refine ⟨n1, cat_nodup (h.sg k (by omega)), fun a ha b hb e => ?_⟩
      subst e
      have h1 := (m1 a).1 ha
      have h2 := (mk a).1 hb
      omega
    · show x ∈ listTo C k ++ catTo (C.G k).get 3 ↔ _
      rw [List.mem_append, m1 x, mk x]
      constructor
      · rintro (⟨a, b, c⟩ | ⟨a, b⟩)
        · exact ⟨a, b, by omega⟩
        · exact ⟨a, by omega, by omega⟩
      · rintro ⟨a, b, c⟩
        by_cases e : ofS C.S x = (k : Int)
        · exact .inr ⟨a, e⟩
        · exact .inl ⟨a, b, by omega⟩
theorem ofS_range {C : DC} (h : C.Ok) {x : Int} (ht : isTaken C.S x = true) : 0 ≤ ofS C.S x ∧ ofS C.S x < 6 := by
  have h1 := h.tak x
  rw [ht] at h1
  obtain ⟨o, ho⟩ := Option.isSome_iff_exists.1 h1
  obtain ⟨_, h2, h3, _⟩ := h.touch ho
  exact ⟨h3, by omega⟩
theorem listTo_perm {C : DC} (h : C.Ok) : (listTo C 6).Perm (keysM C.M) := by
  obtain ⟨n1, m1⟩ := listTo_facts h 6 (by omega)
  refine (List.perm_ext_iff_of_nodup n1 h.nd).2 fun x => ?_
  rw [m1 x, show x ∈ keysM C.M ↔ (getM C.M x).isSome = true from getM_isSome.symm, h.tak x]
  constructor
  · exact fun h => h.1
  · exact fun ht => ⟨ht, ofS_range h ht⟩
theorem items_len {C : DC} (h : C.Ok) : (itemsTo C 6).length = C.M.length := by
  unfold itemsTo
  rw [List.length_map, (listTo_perm h).length_eq]
  exact List.length_map ..

/-- A Put that finds room at once. -/
theorem put_free {C C' : DC} {z : It} {b : Bool} {os : List Ou} (p : PutTo C z b os C') {cl : Nat} (hc : classOf (sizeI z) = (cl : Int)) (hn : Tb.getP C.T.m z.key = none) (he : takeE C.S (cl : Int) = 0) :
    os = [] ∧ ∃ S', AddTo (C.G cl) (takeN C.S cl) S' ∧ C' = ⟨takeS C.S cl, Tb.setK C.T z.key (takeN C.S cl), upG C.G cl S', setM C.M (takeN C.S cl) (z, b)⟩ := by
  obtain ⟨C1, C2, S', c2, hc2, hcl, d, l, a, rfl⟩ := p
  obtain rfl : cl = c2 := by omega
  rcases d with ⟨_, rfl⟩ | ⟨x, o, h1, _⟩
  · cases l with
    | done _ => exact ⟨rfl, S', a, rfl⟩
    | more h7 _ _ => rw [he] at h7; cases h7
  · rw [hn] at h1; cases h1

def keyA : ByteArray := ⟨#[97]⟩
def keyB : ByteArray := ⟨#[98]⟩
def keyD : ByteArray := ⟨#[99]⟩
def Q1 : Sg := Sg.none.pushed 0 0
def Q2 : Sg := (Q1.pushed 1 0).sink 0 [1] 0
theorem snoc_inj {l l' : List Int} {x x' : Int} (h : l ++ [x] = l' ++ [x']) : l = l' ∧ x = x' := by
  obtain ⟨h1, h2⟩ := List.append_inj' h rfl
  exact ⟨h1, by simpa using h2⟩
theorem Sunk.det {q t : Nat} {S A B : Sg} (a : Sunk q t S A) (b : Sunk q t S B) : A = B := by
  induction a with
  | done h =>
    cases b with
    | done => rfl
    | more h2 _ _ => omega
  | more h hl _ ih =>
    cases b with
    | done h2 => omega
    | more _ hl2 k2 =>
      obtain ⟨rfl, rfl⟩ := snoc_inj (hl.symm.trans hl2)
      exact ih k2
theorem to_Q1 {S : Sg} (h : AddTo Sg.none 0 S) : S = Q1 := by
  obtain ⟨S1, k1, k2⟩ := h.2.2 rfl
  have e1 := k1.det (.done (by decide))
  subst e1
  exact k2.det (.done (by decide))
theorem to_Q2 {S : Sg} (h : AddTo Q1 1 S) : S = Q2 := by
  obtain ⟨S1, k1, k2⟩ := h.2.2 rfl
  have e1 := k1.det (.more (l := [1]) (x := 0) (by decide) rfl (.done (by decide)))
  subst e1
  exact k2.det (.done (by decide))
theorem from_Q2 {S : Sg} {x : Int} (h : EvTo Q2 x true S) : x = 0 := by
  obtain ⟨_, S1, k, h⟩ := h
  have e1 : S1 = Q2 := by
    cases k with
    | done _ => rfl
    | more hl hu _ =>
      obtain ⟨_, rfl⟩ := snoc_inj (show ([] : List Int) ++ [0] = _ ++ [_] from hl)
      cases hu
  subst e1
  rcases h with ⟨_, h⟩ | ⟨h, _⟩
  · cases h with
    | cold hl => exact (snoc_inj (show ([] : List Int) ++ [0] = _ ++ [_] from hl)).2.symm
    | warm h2 _ => cases h2
    | hot h2 _ _ => cases h2
  · cases h

theorem awake_plain {C1 C2 C3 : DC} {o1 o2 o3 : List Ou} (p1 : PutTo (newC 1) (bigI keyA) false o1 C1) (p2 : PutTo C1 (bigI keyB) true o2 C2) (p3 : PutTo C2 (bigI keyD) false o3 C3) :
    o1 = [] ∧ o2 = [] ∧ o3 = [(bigI keyA, false)] := by
  have ba : keyB ≠ keyA := by decide
  have da : keyD ≠ keyA := by decide
  have db : keyD ≠ keyB := by decide
  obtain ⟨rfl, S1, a1, rfl⟩ := put_free p1 (cl := 5) (bigI_cls (by decide) (by decide)) rfl (by decide)
  have n1 : takeN (newC 1).S ((5 : Nat) : Int) = 0 := by decide
  rw [n1] at a1 p2
  obtain rfl := to_Q1 a1
  have t1 : Tb.getP (Tb.setK (newC 1).T keyA 0).m keyB = none := by rw [Tb.getP_set, if_neg ba]; rfl
  obtain ⟨rfl, S2, a2, rfl⟩ := put_free p2 (cl := 5) (bigI_cls (by decide) (by decide)) t1 (by decide)
  have n2 : takeN (takeS (newC 1).S ((5 : Nat) : Int)) ((5 : Nat) : Int) = 1 := by decide
  refine ⟨rfl, rfl, ?_⟩
  dsimp only at a2 p3
  rw [n2] at a2 p3
  rw [upG_at] at a2
  obtain rfl := to_Q2 a2
  have t2 : Tb.getP (Tb.setK (Tb.setK (newC 1).T keyA 0) keyB 1).m keyD = none := by rw [Tb.getP_set, if_neg db, Tb.getP_set, if_neg da]; rfl
  obtain ⟨D1, D2, S', cl, hc, hcl, d, l, a, rfl⟩ := p3
  rw [bigI_cls (by decide) (by decide)] at hcl
  obtain rfl : cl = 5 := by omega
  rcases d with ⟨_, rfl⟩ | ⟨x, o, h1, _⟩
  · cases l with
    | done he => exact absurd he (by decide)
    | more h7 k l =>
      obtain ⟨x, S'', e, hx, rfl⟩ := k
      have hfrom : DC.from_ ⟨takeS (takeS (newC 1).S ((5 : Nat) : Int)) ((5 : Nat) : Int), Tb.setK (Tb.setK (newC 1).T keyA 0) keyB 1, upG (upG (newC 1).G 5 Q1) 5 Q2, setM (setM (newC 1).M 0 (bigI keyA, false)) 1 (bigI keyB, true)⟩ 5 = 5 := by
        unfold DC.from_
        rw [if_neg]
        show ¬ (upG (upG (newC 1).G 5 Q1) 5 Q2 5).tot = 0
        rw [upG_at]
        decide
      have e := (show EvTo ((upG (upG (newC 1).G 5 Q1) 5 Q2) (DC.from_ ⟨takeS (takeS (newC 1).S ((5 : Nat) : Int)) ((5 : Nat) : Int), Tb.setK (Tb.setK (newC 1).T keyA 0) keyB 1, upG (upG (newC 1).G 5 Q1) 5 Q2, setM (setM (newC 1).M 0 (bigI keyA, false)) 1 (bigI keyB, true)⟩ 5)) x true S'' from e)
      rw [hfrom, upG_at] at e
      obtain rfl := from_Q2 e
      have hx := (show getM (setM (setM (newC 1).M 0 (bigI keyA, false)) 1 (bigI keyB, true)) 0 = some _ from hx)
      rw [getM_setM, if_neg (by omega), getM_setM, if_pos rfl] at hx
      rw [← Option.some.inj hx]
      cases l with
      | done _ => rfl
      | more h7 _ _ => exact absurd (show takeE (freeS (takeS (takeS (newC 1).S ((5 : Nat) : Int)) ((5 : Nat) : Int)) 0) ((5 : Nat) : Int) = 7 from h7) (by decide)
  · have h1 := (show Tb.getP (Tb.setK (Tb.setK (newC 1).T keyA 0) keyB 1).m keyD = some x from h1)
    rw [t2] at h1
    cases h1
end Go.Proofs.Ytpbbokpmlemboaa
