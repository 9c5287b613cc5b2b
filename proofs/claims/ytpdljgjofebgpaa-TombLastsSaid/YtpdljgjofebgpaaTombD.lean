/-
  tomb: read, where there is a form.
-/
import Derived.Test.YtpdljgjofebgpaaTombC
namespace Go.Proofs.Ytpdljgjofebgpaa
open Go.RowKit

theorem new_mk (w : World) (x y : Value) (t : TypeId) : ∀ j u, [x, y][j]? = some u → (w.alloc (.cells #[x, y] t)).cell? ((⟨w.heap.size, 0, none⟩ : Addr).add j) = some u := by
  intro j u hu
  have hadd : (⟨w.heap.size, 0, none⟩ : Addr).add j = ⟨w.heap.size, j, none⟩ := by unfold Addr.add; split <;> simp_all
  rw [hadd, cell_of_row _ _ j _ _ (0, 0) (heap_alloc_new w _)]
  simpa using hu
theorem marksOf_len (bs : List UInt8) (n : Nat) : (marksOf bs n).length = n := by unfold marksOf; simp
theorem marksOf_succ (bs : List UInt8) (n : Nat) : marksOf bs (n + 1) = marksOf bs n ++ [markAt bs n] := by unfold marksOf; rw [List.range_succ, List.map_append]; rfl

set_option maxRecDepth 100000 in
set_option maxHeartbeats 4000000 in
theorem tread_some {w : World} {v : Value} {bs : List UInt8} (h : RdC w v bs) (hl : bs.length = 384) (gen : Nat) (l : List Mk) (ho : tread gen bs = some l) :
    Calls Try.prog 85 #[v, .int .u64 gen] w fun e w' => ∃ v', e = .returned (.tuple #[v', .bool true]) ∧ w'.ownsRow w.heap.size 80 2 v' l.length (mksV l) ∧ Fr Nob w w' := by
  obtain ⟨⟨a, cap, rfl, hc⟩, a', n', c', he, h1, h2⟩ := h
  simp only [Value.slice.injEq] at he
  obtain ⟨rfl, rfl, rfl⟩ := he
  obtain ⟨g, o, rfl, hcell⟩ := hc (by omega)
  rw [hl] at h1 ⊢
  have p1 : RdB w (.slice (some ⟨g, o + 4, none⟩) 4 (cap - 4)) (sub bs 4 4) := RdB.part hcell (by omega)
  have p0 : RdB w (.slice (some ⟨g, o, none⟩) 4 cap) (bs.take 4) := by
    have := RdB.part (cap := cap) hcell (l := 0) (n := 4) (by omega)
    simpa using this
  have p2 : RdB w (.slice (some ⟨g, o + 8, none⟩) 8 (cap - 8)) (sub bs 8 8) := RdB.part hcell (by omega)
  have l1 : Hid ((sub bs 4 4).length ≤ 8) := Lib.hid (by rw [sub_len (by omega)]; omega)
  have l2 : Hid ((sub bs 8 8).length ≤ 8) := Lib.hid (by rw [sub_len (by omega)]; omega)
  have PM : Hid (∀ a n c, a + n ≤ 384 → RdB w (.slice (some ⟨g, o + a, none⟩) n c) (sub bs a n)) := Lib.hid fun a n c h => RdB.part hcell (by omega)
  have LM : Hid (∀ a n, a + n ≤ 384 → n ≤ 8 → (sub bs a n).length ≤ 8) := Lib.hid fun a n h h8 => by rw [sub_len (by omega)]; omega
  have P0 := Lib.hid p0
  have P1 := Lib.hid p1
  have P2 := Lib.hid p2
  have hc8 : (8 : Int) ≤ (cap : Int) := by omega
  have hc16 : (16 : Int) ≤ (cap : Int) := by omega
  have hc4 : (4 : Int) ≤ (cap : Int) := by omega
  unfold tread at ho
  obtain ⟨n, hn⟩ : ∃ n, upL (sub bs 4 4) = n := ⟨_, rfl⟩
  obtain ⟨G, hG⟩ : ∃ G, upL (sub bs 8 8) = G := ⟨_, rfl⟩
  rw [hn, hG] at ho
  have HN := Lib.hid hn
  have HG := Lib.hid hG
  obtain ⟨ht, h23, hge, hm⟩ : bs.take 4 = tomB ∧ n ≤ 23 ∧ G = gen ∧ marksOf bs n = l := by
    by_cases h : bs.take 4 = tomB ∧ n ≤ 23 ∧ G = gen
    · rw [if_pos h] at ho
      exact ⟨h.1, h.2.1, h.2.2, by simpa using ho⟩
    · rw [if_neg h] at ho
      cases ho
  subst hge
  subst hm
  have HR := Lib.hid (decide_eq_true ht)
  have h23' : ¬ (23 : Int) < (n : Int) := by omega
  have hw0 := Lib.hid (show (decide (384 ≤ cap)) = true by simpa using h1)
  clear hc hcell p0 p1 p2 ho hn hG ht
  go_enter Try.func85, Try.ntmps85
  go_upto_region 2 with (go_at_call 100; refine (tnumber_eq P1.out l1.out).mono ?_; rintro e w' ⟨rfl, rfl⟩)
  rw [HN.out]
  go_cut [28] (fun s W => s = .bool false ∧ Hid (Fr Nob w W))
  case first =>
    first | go_region_with (first
        | (go_at_call 88; refine (tmagic_eq w.drew).mono ?_; rintro e w7 ⟨mv, rfl, hown, f7⟩; have OWN := Lib.hid hown; have F7 := Lib.hid f7; clear hown f7)
        | (go_at_call 63; refine (equal_eq (xs := bs.take 4) (ys := tomB) (P0.out.nob F7.out.undrew) (RdB.of_row OWN.out) (by decide) true HR.out).mono ?_; rintro e w8 ⟨rfl, f8⟩; have F8 := Lib.hid f8; have NUM := Lib.hid (tnumber_eq (P2.out.nob (F7.out.undrew.trans' f8)) l2.out); rw [HG.out] at NUM; clear f8)
        | (go_at_call 100; (with_reducible refine NUM.out.mono ?_); rintro e w' ⟨rfl, rfl⟩)) | fail
    all_goals
      go_wp2_with fail
      go_meet
      exact ⟨congrArg Value.bool (decide_eq_false (by omega)), Lib.hid (F7.out.undrew.trans' F8.out)⟩
  case rest =>
    obtain ⟨rfl, f8⟩ := hcut
    generalize wc = W8 at *
    go_wp2_with fail
    go_loopw [7, 31] (fun u i wr => ∃ k : Nat, k ≤ n ∧ i = .int .i64 k ∧ Hid (wr.ownsRow w.heap.size 80 2 u (marksOf bs k).length (mksV (marksOf bs k))) ∧ Hid (Fr Nob w wr)) (fun _ i _ => n - (intOf i).toNat)
    case atStart => exact ⟨0, Nat.zero_le _, rfl, Lib.hid (World.ownsRow_nil _ _ _ _), f8⟩
    case round =>
      clear f8
      obtain ⟨k, hk, rfl, own, fr⟩ := hrel
      by_cases hlt : k < n
      · have hki : (k : Int) < (n : Int) := by omega
        have hk23 : (k : Int) < 23 := by omega
        go_wp2_with fail
        have q8 : (8 : Int) ≤ ((cap - (16 + 16 * k) : Nat) : Int) := by omega
        have qne : ¬ cap - (16 + 16 * k) = 8 := by omega
        have q16 : (16 : Int) ≤ ((cap - (16 + 16 * k) : Nat) : Int) := by omega
        have N1 : Hid (Calls Try.prog 100 #[.slice (some ⟨g, o + (16 + 16 * k), none⟩) 8 (cap - (16 + 16 * k))] wr.drew fun e w'' => e = .returned (.int .u64 ((markAt bs k).1 : Nat)) ∧ w'' = wr.drew) :=
          Lib.hid ((tnumber_eq ((PM.out (16 + 16 * k) 8 _ (by omega)).nob fr.out.drew) (LM.out _ _ (by omega) (by omega))).mono fun _ _ h => ⟨h.1, h.2.symm⟩)
        have N2 : Hid (Calls Try.prog 100 #[.slice (some ⟨g, o + (16 + 16 * k) + 8, none⟩) 8 (cap - (16 + 16 * k) - 8)] wr.drew fun e w'' => e = .returned (.int .u64 ((markAt bs k).2 : Nat)) ∧ w'' = wr.drew) :=
          Lib.hid (by
            have h := PM.out (24 + 16 * k) 8 (cap - (16 + 16 * k) - 8) (by omega)
            rw [show o + (24 + 16 * k) = o + (16 + 16 * k) + 8 by omega] at h
            exact (tnumber_eq (h.nob fr.out.drew) (LM.out _ _ (by omega) (by omega))).mono fun _ _ h => ⟨h.1, h.2.symm⟩)
        have OWN2 : Hid ((wr.alloc (.cells #[.int .u64 ((markAt bs k).1 : Int), .int .u64 ((markAt bs k).2 : Int)] 80)).drew.ownsRow w.heap.size 80 2 u7 (marksOf bs k).length (mksV (marksOf bs k))) := Lib.hid (((Fr.refl Nob wr).alloc _).drew.ownsRow own.out fun _ _ h => h)
        have NEW : Hid (∀ j u, [.int .u64 ((markAt bs k).1 : Int), .int .u64 ((markAt bs k).2 : Int)][j]? = some u → (wr.alloc (.cells #[.int .u64 ((markAt bs k).1 : Int), .int .u64 ((markAt bs k).2 : Int)] 80)).drew.cell? ((⟨wr.heap.size, 0, none⟩ : Addr).add j) = some u) := Lib.hid (new_mk wr _ _ _)
        have LN : Hid ((marksOf bs k).length = k) := Lib.hid (marksOf_len bs k)
        have BS : Hid (w.heap.size ≤ (wr.alloc (.cells #[.int .u64 ((markAt bs k).1 : Int), .int .u64 ((markAt bs k).2 : Int)] 80)).drew.heap.size) := Lib.hid (fr.out.alloc _).drew.size
        go_region_law (first
            | (refine step_app (o := ⟨some 48, _, _, _, _, _⟩) rfl (.tmp 39) (.tmp 47) 74 rfl 80 #[.int .u64 0, .int .u64 0] 2 16 Try.underlying74 mk_info rfl (by omega) w.heap.size u7 (marksOf bs k).length (mksV (marksOf bs k)) rfl OWN2.out ⟨wr.heap.size, 0, none⟩ 1 1 [.int .u64 ((markAt bs k).1 : Int), .int .u64 ((markAt bs k).2 : Int)] rfl rfl NEW.out (by simp [Value.oneCell']) (by rw [LN.out]; omega) (by rw [LN.out]; omega) BS.out ?_
               intro v' w5 o5 f5 h5)
            | (go_simp; go_at_call 100; (with_reducible refine N1.out.mono ?_); rintro e w' ⟨rfl, rfl⟩)
            | (go_simp; go_at_call 100; (with_reducible refine N2.out.mono ?_); rintro e w' ⟨rfl, rfl⟩))
        have own5 : Hid (w5.ownsRow w.heap.size 80 2 v' (marksOf bs (k + 1)).length (mksV (marksOf bs (k + 1)))) := Lib.hid (by
          rw [marksOf_len, marksOf_succ, mksV_append]
          have := o5.out
          rw [LN.out] at this
          exact this)
        have F5 : Hid (Fr Nob w w5) := Lib.hid ((fr.out.alloc (.cells #[.int .u64 ((markAt bs k).1 : Int), .int .u64 ((markAt bs k).2 : Int)] 80)).drew.trans f5.out fun i hi (e : u7.ownBlock = some i) => absurd ((own.out.lt i e).1) (by omega))
        clear own fr o5 f5 h5 OWN2 NEW BS N1 N2
        go_wp2_with fail
        go_roundw
        case rel => exact ⟨k + 1, by omega, by go_num, own5, F5⟩
        case measure => simp [intOf]; omega
      · have : k = n := by omega
        subst this
        go_wp2_with fail
        go_ret2
        exact ⟨_, rfl, own.out, fr.out⟩

end Go.Proofs.Ytpdljgjofebgpaa
