/-
  dram: plain: room; caches of great items alone.
-/
import Derived.Test.YtpbbokpmlemboaaDrY
namespace Go.Proofs.Ytpbbokpmlemboaa
open Sl

/-- A Put lets nothing go as long as there are fewer keys than pages. -/
theorem put_room {C C' : DC} {z : It} {b : Bool} {os : List Ou} (p : PutTo C z b os C') (h : C.Ok) (hl : C.M.length < C.S.length + (if (C.look z.key).isSome then 1 else 0)) : os = [] := by
  obtain ⟨C1, C2, S', cl, hc, hcl, d, l, a, rfl⟩ := p
  have dt := d.told h
  have hlen := dt.len
  have hsl := dt.sl
  cases l with
  | done _ => rfl
  | more h7 _ _ =>
    have := dt.ok.full hc h7
    split at hl <;> rename_i hc2
    · rw [if_pos hc2] at hlen; omega
    · rw [if_neg hc2] at hlen; omega

/-- All that is there is great. -/
structure Big (C : DC) : Prop where
  ok : C.Ok
  big : ∀ x o, getM C.M x = some o → classOf (sizeI o.1) = 5

theorem cnt_pos {tk : Nat → Bool} {n : Nat} (h : 0 < cnt tk n) : ∃ k, k < n ∧ tk k = true := by
  by_cases e : ∃ k, k < n ∧ tk k = true
  · exact e
  · have : cnt tk n = 0 := by
      have hz : ∀ m, m ≤ n → cnt tk m = 0 := by
        intro m
        induction m with
        | zero => intro _; rfl
        | succ m ih =>
          intro hm
          unfold cnt
          rw [ih (by omega), if_neg (fun ht => e ⟨m, by omega, ht⟩)]
      exact hz n (Nat.le_refl _)
    omega

/-- A page of which a chunk is taken is of the great ones' class. -/
theorem Big.page {C : DC} (h : Big C) {i : Nat} (hi : i < C.S.length) (hu : 1 ≤ C.S[i].us) : C.S[i].cls = 5 := by
  have hok := ok_of_mem h.ok.pg hi
  rcases hok with hk | ⟨h0, h6, h3, h4⟩
  · have := hk.2.1; omega
  · have hp := chunksOf_pos _ h0 h6
    obtain ⟨k, hk, ht⟩ := cnt_pos (tk := C.S[i].tk) (n := (chunksOf C.S[i].cls).toNat) (by omega)
    have e1 : (64 * (i : Int) + (k : Int)) / 64 = i := by omega
    have e2 : (64 * (i : Int) + (k : Int)) % 64 = k := by omega
    have hT : isTaken C.S (64 * (i : Int) + (k : Int)) = true := by
      unfold isTaken
      rw [e1, e2, Int.toNat_natCast, Int.toNat_natCast, getD_of hi, ht]
      simp
      omega
    have h5 := h.ok.tak (64 * (i : Int) + (k : Int))
    rw [hT] at h5
    obtain ⟨o, ho⟩ := Option.isSome_iff_exists.1 h5
    have h7 := (h.ok.cls _ o ho).2
    rw [h.big _ o ho] at h7
    unfold ofS at h7
    rw [if_pos hT, e1, Int.toNat_natCast, getD_of hi] at h7
    exact h7
theorem sum_le (f : Pg → Int) (B : Int) : ∀ S : List Pg, (∀ q, q ∈ S → f q ≤ B) → sumBy f S ≤ B * S.length
  | [], _ => by simp [sumBy]
  | q :: S, h => by
    have h1 := sum_le f B S fun r hr => h r (List.mem_cons_of_mem _ hr)
    have h2 := h q List.mem_cons_self
    simp only [sumBy, List.map_cons, List.sum_cons, List.length_cons] at h1 ⊢
    rw [show ((S.length + 1 : Nat) : Int) = (S.length : Int) + 1 from rfl, Int.mul_add]
    omega
theorem sum_ge (f : Pg → Int) (B : Int) : ∀ S : List Pg, (∀ q, q ∈ S → B ≤ f q) → B * S.length ≤ sumBy f S
  | [], _ => by simp [sumBy]
  | q :: S, h => by
    have h1 := sum_ge f B S fun r hr => h r (List.mem_cons_of_mem _ hr)
    have h2 := h q List.mem_cons_self
    simp only [sumBy, List.map_cons, List.sum_cons, List.length_cons] at h1 ⊢
    rw [show ((S.length + 1 : Nat) : Int) = (S.length : Int) + 1 from rfl, Int.mul_add]
    omega
theorem Big.le {C : DC} (h : Big C) : C.M.length ≤ 2 * C.S.length := by
  have h1 := sum_le Pg.us 2 C.S fun q hq => by
    obtain ⟨i, hi, rfl⟩ := List.getElem_of_mem hq
    by_cases hu : 1 ≤ C.S[i].us
    · have h5 := h.page hi hu
      rcases ok_of_mem h.ok.pg hi with hk | ⟨h0, h6, h3, h4⟩
      · have := hk.2.1; omega
      · have h7 := cnt_le C.S[i].tk (chunksOf C.S[i].cls).toNat
        rw [h5] at h3 h7
        have h8 : (chunksOf 5).toNat = 2 := by decide
        rw [h8] at h3 h7
        omega
    · omega
  have h2 : usSum C.S = C.M.length := h.ok.sum
  have h3 : usSum C.S = sumBy Pg.us C.S := rfl
  omega
theorem Big.room {C : DC} (h : Big C) (hl : C.M.length < 2 * C.S.length) : takeE C.S ((5 : Nat) : Int) = 0 := by
  rcases take_sevens (S := C.S) (c := ((5 : Nat) : Int)) (by omega) (by omega) with he | ⟨_, hs⟩
  · exact he
  · exfalso
    have hu := slot_none_us h.ok.pg hs
    have hf : C.S.findIdx? (fits1 ((5 : Nat) : Int)) = none := by
      unfold slot at hs
      rw [Option.or_eq_none_iff] at hs
      exact hs.1
    rw [List.findIdx?_eq_none_iff] at hf
    have h1 := sum_ge Pg.us 2 C.S fun q hq => by
      obtain ⟨i, hi, rfl⟩ := List.getElem_of_mem hq
      have h5 := h.page hi (hu _ hq)
      have h6 := hf _ hq
      unfold fits1 at h6
      rw [h5, show chunksOf ((5 : Nat) : Int) = 2 from by decide] at h6
      simp at h6
      omega
    have h2 : usSum C.S = C.M.length := h.ok.sum
    have h3 : usSum C.S = sumBy Pg.us C.S := rfl
    omega
theorem Rid.big {C C' : DC} {x : Int} {o : Ou} (r : Rid C x o C') (h : Big C) : Big C' := by
  refine ⟨r.ok, fun y p hp => ?_⟩
  rw [r.M, getM_delM] at hp
  split at hp
  · cases hp
  · exact h.big y p hp
theorem Big.empty {C : DC} (h : C.Ok) (hm : C.M = []) : Big C := ⟨h, fun x o hx => by rw [hm] at hx; cases hx⟩

/-- A great one that is new is put in: it finds room, or just one is let go. -/
inductive BigPut (C : DC) (z : It) (b : Bool) : List Ou → DC → Prop
  | free {S' : Sg} (hl : C.M.length < 2 * C.S.length) (a : AddTo (C.G 5) (takeN C.S ((5 : Nat) : Int)) S') : BigPut C z b [] ⟨takeS C.S ((5 : Nat) : Int), Tb.setK C.T z.key (takeN C.S ((5 : Nat) : Int)), upG C.G 5 S', setM C.M (takeN C.S ((5 : Nat) : Int)) (z, b)⟩
  | full {C1 : DC} {S' : Sg} {o : Ou} (hl : C.M.length = 2 * C.S.length) (t : LetTo C 5 o C1) (a : AddTo (C1.G 5) (takeN C1.S ((5 : Nat) : Int)) S') : BigPut C z b [o] ⟨takeS C1.S ((5 : Nat) : Int), Tb.setK C1.T z.key (takeN C1.S ((5 : Nat) : Int)), upG C1.G 5 S', setM C1.M (takeN C1.S ((5 : Nat) : Int)) (z, b)⟩

theorem Big.put {C C' : DC} (h : Big C) {z : It} {b : Bool} {os : List Ou} (p : PutTo C z b os C') (hg : goodI z = true) (hz : classOf (sizeI z) = 5) (hn : C.look z.key = none) (h1 : 1 ≤ C.S.length) : BigPut C z b os C' ∧ Big C' := by
  have td := p.told hg h.ok
  obtain ⟨C1, C2, S', cl, hc, hcl, d, l, a, rfl⟩ := p
  obtain rfl : cl = 5 := by omega
  have hk := (h.ok.look_none (k := z.key)).1 hn
  rcases d with ⟨_, rfl⟩ | ⟨x, o, h2, _⟩
  · have bigP : ∀ {D : DC} {n : Int}, Big D → ∀ y p, getM (setM D.M n (z, b)) y = some p → classOf (sizeI p.1) = 5 := fun hD y p hp => by
      rw [getM_setM] at hp
      split at hp
      · rw [← Option.some.inj hp]; exact hz
      · exact hD.big y p hp
    have hle := h.le
    cases l with
    | done he =>
      refine ⟨.free ?_ a, td.ok, bigP h⟩
      have hl2 := Big.le (C := ⟨takeS C1.S ((5 : Nat) : Int), Tb.setK C1.T z.key (takeN C1.S ((5 : Nat) : Int)), upG C1.G 5 S', setM C1.M (takeN C1.S ((5 : Nat) : Int)) (z, b)⟩) ⟨td.ok, bigP h⟩
      have h5 := td.len
      have h6 := td.sl
      dsimp only at hl2 h5 h6
      simp only [hn, List.length_nil, Option.isSome_none, Bool.false_eq_true, if_false, Nat.add_zero] at h5
      omega
    | more h7 k l =>
      have hfull : C1.M.length = 2 * C1.S.length := by
        by_cases e : C1.M.length < 2 * C1.S.length
        · rw [h.room e] at h7; cases h7
        · omega
      obtain ⟨x, r⟩ := k.rid hc h.ok
      have b3 := r.big h
      have hl3 := r.len h.ok
      have hs3 := r.sl
      cases l with
      | done he => exact ⟨.full hfull k a, td.ok, bigP b3⟩
      | more h8 _ _ =>
        rw [b3.room (by omega)] at h8
        cases h8
  · rw [hk] at h2; cases h2
end Go.Proofs.Ytpbbokpmlemboaa
