/-
  The law TableKeys, walked.
-/
import Derived.Test.YtefjcjmdmnfbhaaTabMp
namespace Go.Proofs.Ytefjcjmdmnfbhaa
open Go.RowKit

theorem bytesLess_lt : ∀ (x y : List UInt8), Op.bytesLess x y = true → x < y
  | [], [], h => by simp [Op.bytesLess] at h
  | [], _ :: _, _ => List.nil_lt_cons ..
  | _ :: _, [], h => by simp [Op.bytesLess] at h
  | a :: x, b :: y, h => by
    rw [List.cons_lt_cons_iff]
    unfold Op.bytesLess at h
    by_cases hab : a < b
    · exact .inl hab
    · by_cases he : a = b
      · subst he
        simp at h
        exact .inr ⟨rfl, bytesLess_lt x y h⟩
      · simp [hab, he] at h
theorem not_leq {a b : ByteArray} (h1 : leK a b) (h2 : a ≠ b) : Op.bytesLess b.toList a.toList = false ∧ (b.toList == a.toList) = false := by
  refine ⟨?_, str_ne fun e => h2 e.symm⟩
  rw [ByteArray.toList_eq, ByteArray.toList_eq]
  cases h : Op.bytesLess b.data.toList a.data.toList with
  | false => rfl
  | true =>
    exact absurd (bytesLess_lt _ _ h) (List.not_lt.2 h1)

set_option maxHeartbeats 4000000 in
set_option maxRecDepth 100000 in
theorem holds_eq {w : World} {v : Value} {l : List ByteArray} (h : RdS w v l) (hn : l.length ≤ 1000000000) (s : ByteArray) :
    Calls Try.prog 27 #[v, .string s] w fun e w' => e = .returned (.bool (decide (s ∈ l))) ∧ w = w' := by
  obtain ⟨A, cap, rfl, h⟩ := h
  have H := Lib.hid h
  clear h
  go_enter Try.func27, Try.ntmps27
  go_wp2_with fail
  go_loop [5] (fun i => ∃ k : Nat, k ≤ l.length ∧ i = .int .i64 k ∧ Hid (∀ j, j < k → l[j]? ≠ some s)) (fun i => l.length - (intOf i).toNat)
  case atStart => exact ⟨0, Nat.zero_le _, rfl, Lib.hid fun j hj => by omega⟩
  case round =>
    obtain ⟨k, hk, rfl, hs⟩ := hrel
    by_cases hlt : k < l.length
    · obtain ⟨g, o, rfl, hc⟩ := H.out (by omega)
      obtain ⟨x, hx⟩ : ∃ x, l[k]? = some x := ⟨_, List.getElem?_eq_getElem hlt⟩
      have d := hc k x hx
      have HX := Lib.hid hx
      clear hc hx
      by_cases hxs : x = s
      · have hd : Hid (decide (s ∈ l) = true) := Lib.hid (decide_eq_true (by rw [← hxs]; exact List.mem_of_getElem? HX.out))
        rw [hxs] at d
        go_wp2_with fail
        go_ret
        rw [hd.out]
        exact ⟨rfl, rfl⟩
      · have hne := str_ne hxs
        have hs2 : Hid (∀ j, j < k + 1 → l[j]? ≠ some s) := Lib.hid fun j hj => by
          by_cases he : j = k
          · rw [he, HX.out]
            exact fun e => hxs (Option.some.inj e)
          · exact hs.out j (by omega)
        go_wp2_with fail
        go_round
        case rel => exact ⟨k + 1, by omega, by go_num, hs2⟩
        case measure => simp [intOf]; omega
    · have : k = l.length := by omega
      subst this
      have hd : Hid (decide (s ∈ l) = false) := Lib.hid (decide_eq_false fun hm => by
        obtain ⟨j, hj, he⟩ := List.getElem_of_mem hm
        exact hs.out j hj (by rw [List.getElem?_eq_getElem hj, he]))
      go_wp2_with fail
      go_ret
      rw [hd.out]
      exact ⟨rfl, rfl⟩

set_option maxHeartbeats 16000000 in
set_option maxRecDepth 100000 in
theorem tableKeys_walk (A : Option Addr) (n cap : Nat) (l : List ByteArray) (w : World) (hl : InS w A n cap l) :
    Calls Try.prog 8 #[.slice A n cap] w fun e w' => e = .returned (.bool true) ∧ Fr Nob w w' := by
  have HL := Lib.hid hl
  have HLN := Lib.hid hl.len
  clear hl
  by_cases hn : 80 < n
  · have hn' : (80 : Int) < (n : Int) := by omega
    go_enter Try.func8, Try.ntmps8
    go_wp2_with fail
    refine (awake_ok w).mono ?_
    rintro e w0 ⟨rfl, f0⟩
    have f0 := Lib.hid f0
    go_wp2_with fail
    go_ret
    exact ⟨rfl, f0.out⟩
  have hn' : ¬ (80 : Int) < (n : Int) := by omega
  go_enter Try.func8, Try.ntmps8
  go_wp2_with fail
  refine (awake_ok w).mono ?_
  rintro e w0 ⟨rfl, f0⟩
  have f0 := Lib.hid f0
  go_wp2_with fail
  refine (DT.new f0.out 1 (by omega) (by omega) (by decide +kernel)).mono ?_
  rintro e w1 ⟨t, rfl, s1, f1⟩
  clear f0 f1
  go_wp2_with fail
  go_loopw [5] (fun i wr => ∃ (k : Nat) (S : KT), k ≤ n ∧ i = .int .i64 k ∧ Hid (DT w wr t S) ∧ S.m.length ≤ k ∧ Hid (∀ q, q ∈ keysM S.m ↔ ∃ j, j < k ∧ l[j]? = some q)) (fun i _ => n - (intOf i).toNat)
  case atStart => exact ⟨0, newK 1, Nat.zero_le _, rfl, s1, Nat.le_refl _, Lib.hid fun q => ⟨(fun h => by cases h), fun ⟨j, hj, _⟩ => absurd hj (Nat.not_lt_zero _)⟩⟩
  case round =>
    clear s1
    obtain ⟨k, S, hk, rfl, s, hm, hq⟩ := hrel
    by_cases hlt : k < n
    · obtain ⟨g, o, x, rfl, hx, x0, hxs⟩ := HL.out.cell s.out.fr hlt
      have hm2 := setK_len S x k
      have hq2 : Hid (∀ q, q ∈ keysM (setK S x k).m ↔ ∃ j, j < k + 1 ∧ l[j]? = some q) := Lib.hid fun q => by
        rw [set_keys, hq.out]
        constructor
        · rintro (rfl | ⟨j, h1, h2⟩)
          · exact ⟨k, by omega, hx⟩
          · exact ⟨j, by omega, h2⟩
        · rintro ⟨j, h1, h2⟩
          by_cases he : j = k
          · rw [he, hx] at h2
            exact .inl (Option.some.inj h2).symm
          · exact .inr ⟨j, by omega, h2⟩
      clear hx
      go_wp2_with fail
      refine (s.out.set x k hxs (by omega)).mono ?_
      rintro e w3 ⟨rfl, s3, f3⟩
      clear f3
      generalize setK S x k = S3 at *
      go_wp2_with fail
      go_roundw
      case rel => exact ⟨k + 1, S3, by omega, by go_num, s3, by omega, hq2⟩
      case measure => simp [intOf]; omega
    · have : k = n := by omega
      subst this
      have hml : Hid (∀ q, q ∈ sortB (keysM S.m) ↔ q ∈ l) := Lib.hid fun q => by
        rw [(sortB_perm _).mem_iff, hq.out, List.mem_iff_getElem?]
        constructor
        · rintro ⟨j, _, h⟩; exact ⟨j, h⟩
        · rintro ⟨j, h⟩
          have := (List.getElem?_eq_some_iff.1 h).1
          exact ⟨j, by rw [← HLN.out]; exact this, h⟩
      have hso : Hid ((sortB (keysM S.m)).Pairwise leK) := Lib.hid (sortB_sorted _)
      have hnd : Hid ((sortB (keysM S.m)).Nodup) := Lib.hid ((sortB_perm _).nodup_iff.2 s.out.ok.nd)
      have hle : Hid ((sortB (keysM S.m)).length = S.m.length) := Lib.hid (by rw [sortB_len, keysM_len])
      have hln : l.length ≤ 80 := by rw [HLN.out]; omega
      clear hq
      go_wp2_with fail
      refine (s.out.keys (by omega)).mono ?_
      rintro e w5 ⟨v, rfl, o5, f5⟩
      have s5 := Lib.hid (s.out.nob f5.out)
      have r5 := Lib.hid (RdS.of_row o5.out)
      obtain ⟨a1, c1, rfl, _, _, _⟩ := own_shape o5.out
      have mmb : S.m.length ≤ 80 := by omega
      clear s o5 f5 hm
      generalize sortB (keysM S.m) = ks at *
      have hlen := S.m.length
      obtain ⟨mm, hmm⟩ : ∃ mm, mm = S.m.length := ⟨_, rfl⟩
      rw [← hmm] at hle r5 mmb ⊢
      have HMM := Lib.hid hmm
      clear hmm hlen
      go_wp2_with fail
      go_loopw [7] (fun i wr => ∃ j : Nat, j ≤ mm ∧ i = .int .i64 j ∧ Hid (DT w wr t S) ∧ Hid (RdS wr (.slice a1 mm c1) ks)) (fun i _ => mm - (intOf i).toNat)
      case atStart => exact ⟨0, Nat.zero_le _, rfl, s5, r5⟩
      case round =>
        clear s5 r5
        obtain ⟨j, hj, rfl, s5, r5⟩ := hrel
        by_cases hjm : j < mm
        · obtain ⟨A', c', he, hcell⟩ := r5.out
          injection he with he1 he2 he3
          subst he1
          obtain ⟨g, o, rfl, hc⟩ := hcell (by rw [hle.out]; omega)
          obtain ⟨y, hy⟩ : ∃ y, ks[j]? = some y := ⟨_, List.getElem?_eq_getElem (by rw [hle.out]; exact hjm)⟩
          have y0 := hc j y hy
          have hyl : Hid (decide (y ∈ l) = true) := Lib.hid (decide_eq_true ((hml.out y).1 (List.mem_of_getElem? hy)))
          have rl := Lib.hid (HL.out.rd.nob s5.out.fr)
          by_cases hj0 : j = 0
          · subst hj0
            have y0' : wr.cell? ⟨g, o, none⟩ = some (.string y) := y0
            clear hc hy y0 hcell
            go_wp2_with fail
            go_quiet ((go_at_call 27; first | exact (hyl.out ▸ quietL (holds_eq (rl.out.nob ((Fr.refl Nob wr).drewN _)) (by omega) y)) | exact (hyl.out ▸ quietL' (holds_eq (rl.out.nob ((Fr.refl Nob wr).drewN _)) (by omega) y))))
            go_wp2_with fail
            go_roundw
            case rel => exact ⟨1, by omega, by go_num, Lib.hid (s5.out.nob ((Fr.refl Nob wr).drewN nq)), Lib.hid (r5.out.nob ((Fr.refl Nob wr).drewN nq))⟩
            case measure => simp [intOf]; omega
          · obtain ⟨z, hz⟩ : ∃ z, ks[j - 1]? = some z := ⟨_, List.getElem?_eq_getElem (by rw [hle.out]; omega)⟩
            have z0 := hc (j - 1) z hz
            have hzy : leK z y ∧ z ≠ y := by
              have h1 := (List.pairwise_iff_getElem.1 hso.out) (j - 1) j (by rw [hle.out]; omega) (by rw [hle.out]; exact hjm) (by omega)
              have e1 := (List.getElem?_eq_some_iff.1 hz).2
              have e2 := (List.getElem?_eq_some_iff.1 hy).2
              rw [e1, e2] at h1
              refine ⟨h1, fun e => ?_⟩
              have h2 := (List.getElem_inj (h₀ := by rw [hle.out]; omega) (h₁ := by rw [hle.out]; exact hjm) hnd.out).1 (e1.trans (e.trans e2.symm))
              omega
            obtain ⟨q1, q2⟩ := not_leq hzy.1 hzy.2
            have hj1 : 0 < j := by omega
            clear hc hy hz hcell hzy
            go_wp2_with fail
            go_quiet ((go_at_call 27; first | exact (hyl.out ▸ quietL (holds_eq (rl.out.nob ((Fr.refl Nob wr).drewN _)) (by omega) y)) | exact (hyl.out ▸ quietL' (holds_eq (rl.out.nob ((Fr.refl Nob wr).drewN _)) (by omega) y))))
            go_wp2_with fail
            go_roundw
            case rel => exact ⟨j + 1, by omega, by go_num, Lib.hid (s5.out.nob ((Fr.refl Nob wr).drewN nq)), Lib.hid (r5.out.nob ((Fr.refl Nob wr).drewN nq))⟩
            case measure => simp [intOf]; omega
        · have : j = mm := by omega
          subst this
          go_wp2_with fail
          go_loopw [8] (fun i wr => ∃ k2 : Nat, k2 ≤ k ∧ i = .int .i64 k2 ∧ Hid (DT w wr t S) ∧ Hid (RdS wr (.slice a1 j c1) ks)) (fun i _ => k - (intOf i).toNat)
          case atStart => exact ⟨0, Nat.zero_le _, rfl, s5, r5⟩
          case round =>
            clear s5 r5
            obtain ⟨k2, hk2, rfl, s5, r5⟩ := hrel
            by_cases hkk : k2 < k
            · obtain ⟨g, o, x, rfl, hx, x0, _⟩ := HL.out.cell s5.out.fr hkk
              have hxl : Hid (decide (x ∈ ks) = true) := Lib.hid (decide_eq_true ((hml.out x).2 (List.mem_of_getElem? hx)))
              clear hx
              go_wp2_with fail
              refine (holds_eq r5.out (by rw [hle.out]; omega) x).mono ?_
              rintro e _ ⟨rfl, rfl⟩
              rw [hxl.out]
              go_wp2_with fail
              go_roundw
              case rel => exact ⟨k2 + 1, by omega, by go_num, s5, r5⟩
              case measure => simp [intOf]; omega
            · have : k2 = k := by omega
              subst this
              go_wp2_with fail
              refine s5.out.len.mono ?_
              rintro e _ ⟨rfl, rfl⟩
              rw [← HMM.out]
              go_wp2_with fail
              go_ret
              exact ⟨rfl, s5.out.fr⟩
end Go.Proofs.Ytefjcjmdmnfbhaa
