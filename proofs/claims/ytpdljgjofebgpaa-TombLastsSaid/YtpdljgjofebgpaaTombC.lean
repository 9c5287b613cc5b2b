/-
  tomb: read.
-/
import Derived.Test.YtpdljgjofebgpaaTombB
namespace Go.Proofs.Ytpdljgjofebgpaa
open Go.RowKit

def TReadTo (w : World) (o : Option (List Mk)) (e : Ending) (w' : World) : Prop := match o with
  | none => e = .returned (.tuple #[.slice none 0 0, .bool false]) ∧ Fr Nob w w'
  | some l => ∃ v', e = .returned (.tuple #[v', .bool true]) ∧ w'.ownsRow w.heap.size 80 2 v' l.length (mksV l) ∧ Fr Nob w w'

theorem bytes_lt (b : UInt8) : (b.toNat : Int) < 256 := by have := b.toNat_lt; omega

set_option maxRecDepth 100000 in
set_option maxHeartbeats 2000000 in
theorem tread_none {w : World} {v : Value} {bs : List UInt8} (h : RdC w v bs) (hl : bs.length = 384) (gen : Nat) (ho : tread gen bs = none) :
    Calls Try.prog 85 #[v, .int .u64 gen] w fun e w' => e = .returned (.tuple #[.slice none 0 0, .bool false]) ∧ Fr Nob w w' := by
  obtain ⟨⟨a, cap, rfl, hc⟩, a', n', c', he, h1, h2⟩ := h
  simp only [Value.slice.injEq] at he
  obtain ⟨rfl, rfl, rfl⟩ := he
  obtain ⟨g, o, rfl, hcell⟩ := hc (by omega)
  rw [hl] at h1 ⊢
  have p1 : RdB w (.slice (some ⟨g, o + 4, none⟩) 4 (cap - 4)) (sub bs 4 4) := RdB.part hcell (by omega)
  have p0 : RdB w (.slice (some ⟨g, o, none⟩) 4 cap) (bs.take 4) := by
    have := RdB.part (cap := cap) hcell (l := 0) (n := 4) (by omega)
    simpa using this
  have p2 : RdB w (.slice (some ⟨g, o + 8, none⟩) 8 (cap - 8)) (sub bs 8 8) := RdB.part hcell (by omega)
  have l1 : Hid ((sub bs 4 4).length ≤ 8) := Lib.hid (by rw [sub_len (by omega)]; omega)
  have l2 : Hid ((sub bs 8 8).length ≤ 8) := Lib.hid (by rw [sub_len (by omega)]; omega)
  have P0 := Lib.hid p0
  have P1 := Lib.hid p1
  have P2 := Lib.hid p2
  have hc8 : (8 : Int) ≤ (cap : Int) := by omega
  have hc16 : (16 : Int) ≤ (cap : Int) := by omega
  have hc4 : (4 : Int) ≤ (cap : Int) := by omega
  unfold tread at ho
  obtain ⟨r, hr⟩ : ∃ r, decide (bs.take 4 = tomB) = r := ⟨_, rfl⟩
  have HR := Lib.hid hr
  obtain ⟨n, hn⟩ : ∃ n, upL (sub bs 4 4) = n := ⟨_, rfl⟩
  obtain ⟨G, hG⟩ : ∃ G, upL (sub bs 8 8) = G := ⟨_, rfl⟩
  rw [hn, hG] at ho
  have HN := Lib.hid hn
  have HG := Lib.hid hG
  have h3 : r = false ∨ (r = true ∧ 23 < n) ∨ (r = true ∧ n ≤ 23 ∧ G ≠ gen) := by
    cases r with
    | false => exact .inl rfl
    | true =>
      have ht := of_decide_eq_true hr
      by_cases h4 : n ≤ 23
      · refine .inr (.inr ⟨rfl, h4, fun h5 => ?_⟩)
        rw [if_pos ⟨ht, h4, h5⟩] at ho
        cases ho
      · exact .inr (.inl ⟨rfl, by omega⟩)
  have H3 := Lib.hid h3
  clear hc hcell p0 p1 p2 hr ho h3 hn hG
  go_enter Try.func85, Try.ntmps85
  go_upto_region 2 with (go_at_call 100; refine (tnumber_eq P1.out l1.out).mono ?_; rintro e w' ⟨rfl, rfl⟩)
  rw [HN.out]
  go_cut [28] (fun s W => s = .bool true ∧ Hid (Fr Nob w W))
  case first =>
    rcases H3.out with rfl | ⟨rfl, h23⟩ | ⟨rfl, h23, hne⟩
    · first | go_region_with (first
        | (go_at_call 88; refine (tmagic_eq w.drew).mono ?_; rintro e w7 ⟨mv, rfl, hown, f7⟩; have OWN := Lib.hid hown; have F7 := Lib.hid f7; clear hown f7)
        | (go_at_call 63; refine (equal_eq (xs := bs.take 4) (ys := tomB) (P0.out.nob F7.out.undrew) (RdB.of_row OWN.out) (by decide) false HR.out).mono ?_; rintro e w8 ⟨rfl, f8⟩; have F8 := Lib.hid f8; clear f8)) | fail
      all_goals
        go_wp2_with fail
        go_meet
        exact ⟨rfl, Lib.hid (F7.out.undrew.trans' F8.out)⟩
    · have h23' : (23 : Int) < (n : Int) := by omega
      first | go_region_with (first
        | (go_at_call 88; refine (tmagic_eq w.drew).mono ?_; rintro e w7 ⟨mv, rfl, hown, f7⟩; have OWN := Lib.hid hown; have F7 := Lib.hid f7; clear hown f7)
        | (go_at_call 63; refine (equal_eq (xs := bs.take 4) (ys := tomB) (P0.out.nob F7.out.undrew) (RdB.of_row OWN.out) (by decide) true HR.out).mono ?_; rintro e w8 ⟨rfl, f8⟩; have F8 := Lib.hid f8; clear f8)
        | (go_at_call 100; refine (tnumber_eq (P2.out.nob (F7.out.undrew.trans' F8.out)) l2.out).mono ?_; rintro e w' ⟨rfl, rfl⟩; rw [HG.out])) | fail
      all_goals
        go_wp2_with fail
        go_meet
        exact ⟨rfl, Lib.hid (F7.out.undrew.trans' F8.out)⟩
    · have h23' : ¬ (23 : Int) < (n : Int) := by omega
      have hne' : ((G : Int) != (gen : Int)) = true := by simp; omega
      first | go_region_with (first
        | (go_at_call 88; refine (tmagic_eq w.drew).mono ?_; rintro e w7 ⟨mv, rfl, hown, f7⟩; have OWN := Lib.hid hown; have F7 := Lib.hid f7; clear hown f7)
        | (go_at_call 63; refine (equal_eq (xs := bs.take 4) (ys := tomB) (P0.out.nob F7.out.undrew) (RdB.of_row OWN.out) (by decide) true HR.out).mono ?_; rintro e w8 ⟨rfl, f8⟩; have F8 := Lib.hid f8; have NUM := Lib.hid (tnumber_eq (P2.out.nob (F7.out.undrew.trans' f8)) l2.out); rw [HG.out] at NUM; clear f8)
        | (go_at_call 100; (with_reducible refine NUM.out.mono ?_); rintro e w' ⟨rfl, rfl⟩)) | fail
      all_goals
        go_wp2_with fail
        go_meet
        exact ⟨rfl, Lib.hid (F7.out.undrew.trans' F8.out)⟩
  case rest =>
    obtain ⟨rfl, f8⟩ := hcut
    generalize wc = W8 at *
    go_wp2_with fail
    go_ret2
    exact ⟨rfl, f8.out⟩

end Go.Proofs.Ytpdljgjofebgpaa
