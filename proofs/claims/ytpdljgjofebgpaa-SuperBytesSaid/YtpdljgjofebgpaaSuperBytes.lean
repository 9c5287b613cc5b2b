/-
  Law 5: SuperBytes, walked. (Printed by gen/sbytes.py.)
-/
import Derived.Test.YtpdljgjofebgpaaRefR
import Derived.Test.YtpdljgjofebgpaaRefS
namespace Go.Proofs.Ytpdljgjofebgpaa
open Go.RowKit Go.ChangeShapes Go.WideShapes Go.Deep

set_option maxRecDepth 100000 in
set_option maxHeartbeats 8000000 in
theorem superBytes_main (z : Blk) (hok : z.ok) (PA : Option Addr) (pn pc : Nat) (pl : List UInt8) (w : World) (hpi : InB w PA pn pc pl) (hn : pn ≤ 500) :
    Calls Try.prog 4 #[.agg (blkV z), .slice PA pn pc] w fun e w' => e = .returned (.bool true) ∧ Fr Nob w w' := by
  have PI := Lib.hid hpi
  have e1 : ¬ (500 : Int) < (pn : Int) := by omega
  obtain ⟨s0, s1, s2, s3, s4, cl, im, rfl⟩ := blk_cases z
  obtain ⟨eb, heb⟩ : ∃ eb, eb = enc ⟨s0, s1, s2, s3, s4, cl, im⟩ := ⟨_, rfl⟩
  obtain ⟨i, hi⟩ : ∃ i, i = Blk.img ⟨s0, s1, s2, s3, s4, cl, im⟩ := ⟨_, rfl⟩
  have HI := Lib.hid hi
  have LEB : Hid (eb.length = 64) := Lib.hid (by rw [heb, enc_len])
  have DEB : Hid (dec (eb ++ pl) = some ⟨s0, s1, s2, s3, s4, cl, (i : Int)⟩) := Lib.hid (by rw [heb, dec_enc hok, hi]; rfl)
  have ENC : Hid (∀ w, Calls Try.prog 28 #[.agg #[.int .u64 (s0 : Int), .int .u64 (s1 : Int), .int .u64 (s2 : Int), .int .u64 (s3 : Int), .int .u64 (s4 : Int), .bool cl, .int .i64 im]] w fun e w' => ∃ g, e = .returned (.slice (some ⟨g, 0, none⟩) 64 64) ∧ bytesAt w' g eb ∧ Fr Nob w w' ∧ w.heap.size ≤ g) := Lib.hid fun w => by
    have h := encode_eq ⟨s0, s1, s2, s3, s4, cl, im⟩ hok w
    rw [blkV_mk, ← heb] at h
    exact h
  have ENC4 : Hid (∀ w, Calls Try.prog 29 #[.agg #[.int .u64 (s0 : Int), .int .u64 (s1 : Int), .int .u64 (s2 : Int), .int .u64 (s3 : Int), .int .u64 (s4 : Int), .bool cl, .int .i64 im]] w fun e w' => e = .returned (.string ⟨eb.toArray⟩) ∧ Fr Nob w w') := Lib.hid fun w => by
    have h := refEnc_eq (w := w) ⟨s0, s1, s2, s3, s4, cl, im⟩
    rw [blkV_mk, ← heb] at h
    exact h
  have OWN : Hid (∀ w, Calls Try.prog 30 #[.agg #[.int .u64 (s0 : Int), .int .u64 (s1 : Int), .int .u64 (s2 : Int), .int .u64 (s3 : Int), .int .u64 (s4 : Int), .bool cl, .int .i64 im]] w fun e w' => e = .returned (.agg #[.int .u64 (s0 : Int), .int .u64 (s1 : Int), .int .u64 (s2 : Int), .int .u64 (s3 : Int), .int .u64 (s4 : Int), .bool cl, .int .i64 im]) ∧ Fr Nob w w') := Lib.hid fun w => by
    have h := own_eq (w := w) ⟨s0, s1, s2, s3, s4, cl, im⟩
    rw [blkV_mk] at h
    exact h
  have h1 := heap_alloc_new w (.cells #[.int .u64 (s0 : Int), .int .u64 (s1 : Int), .int .u64 (s2 : Int), .int .u64 (s3 : Int), .int .u64 (s4 : Int), .bool cl, .int .i64 im] 29)
  have f1 : Fr Nob w (w.alloc (.cells #[.int .u64 (s0 : Int), .int .u64 (s1 : Int), .int .u64 (s2 : Int), .int .u64 (s3 : Int), .int .u64 (s4 : Int), .bool cl, .int .i64 im] 29)) := (Fr.refl Nob w).alloc _
  obtain ⟨B, hB⟩ : ∃ B, B = w.heap.size := ⟨_, rfl⟩
  rw [← hB] at h1
  rw [blkV_mk]
  clear hok hpi heb hi
  go_enter Try.func4, Try.ntmps4
  go_upto_region 1 with fail
  rw [← hB]
  clear hB
  generalize w.alloc (.cells #[.int .u64 (s0 : Int), .int .u64 (s1 : Int), .int .u64 (s2 : Int), .int .u64 (s3 : Int), .int .u64 (s4 : Int), .bool cl, .int .i64 im] 29) = w1 at *
  go_wp2_with fail
  refine (awake5_eq w1).mono ?_
  rintro e w0 ⟨rfl, f0⟩
  have h0 := f0.heap h1 fun h => h
  have F0 := Lib.hid (f1.trans' f0)
  have H0 := Lib.hid h0
  have c0 : w0.cell? ⟨B, 0, none⟩ = some (.int .u64 (s0 : Int)) := cell_of_row _ B 0 _ _ (0, 0) h0
  have c1 : w0.cell? ⟨B, 1, none⟩ = some (.int .u64 (s1 : Int)) := cell_of_row _ B 1 _ _ (0, 0) h0
  have c2 : w0.cell? ⟨B, 2, none⟩ = some (.int .u64 (s2 : Int)) := cell_of_row _ B 2 _ _ (0, 0) h0
  have c3 : w0.cell? ⟨B, 3, none⟩ = some (.int .u64 (s3 : Int)) := cell_of_row _ B 3 _ _ (0, 0) h0
  have c4 : w0.cell? ⟨B, 4, none⟩ = some (.int .u64 (s4 : Int)) := cell_of_row _ B 4 _ _ (0, 0) h0
  have c5 : w0.cell? ⟨B, 5, none⟩ = some (.bool cl) := cell_of_row _ B 5 _ _ (0, 0) h0
  have c6 : w0.cell? ⟨B, 6, none⟩ = some (.int .i64 im) := cell_of_row _ B 6 _ _ (0, 0) h0
  clear h0 h1 f0 f1
  generalize hw1 : w1 = w1' at *
  clear hw1
  go_wp2_with fail
  refine (ENC.out w0).mono ?_
  rintro e w5 ⟨g5, rfl, be, f5, _⟩
  have h5 := f5.heap H0.out fun h => h
  have F5 := Lib.hid (F0.out.trans' f5)
  have BE := Lib.hid be
  have H5 := Lib.hid h5
  clear c0 c1 c2 c3 c4 c5 c6 f5 be h5 H0 F0
  go_upto_region 6 with fail
  go_cut [25] (fun t W => t = .bool false ∧ Hid (Fr Nob w5 W))
  case first =>
    have c0 : w5.cell? ⟨B, 0, none⟩ = some (.int .u64 (s0 : Int)) := cell_of_row _ B 0 _ _ (0, 0) H5.out
    have c1 : w5.cell? ⟨B, 1, none⟩ = some (.int .u64 (s1 : Int)) := cell_of_row _ B 1 _ _ (0, 0) H5.out
    have c2 : w5.cell? ⟨B, 2, none⟩ = some (.int .u64 (s2 : Int)) := cell_of_row _ B 2 _ _ (0, 0) H5.out
    have c3 : w5.cell? ⟨B, 3, none⟩ = some (.int .u64 (s3 : Int)) := cell_of_row _ B 3 _ _ (0, 0) H5.out
    have c4 : w5.cell? ⟨B, 4, none⟩ = some (.int .u64 (s4 : Int)) := cell_of_row _ B 4 _ _ (0, 0) H5.out
    have c5 : w5.cell? ⟨B, 5, none⟩ = some (.bool cl) := cell_of_row _ B 5 _ _ (0, 0) H5.out
    have c6 : w5.cell? ⟨B, 6, none⟩ = some (.int .i64 im) := cell_of_row _ B 6 _ _ (0, 0) H5.out
    have CV : Hid (∀ W, Fr Nob w5 W → (convert 34 9 (.slice (some ⟨g5, 0, none⟩) 64 64)).run Try.prog W = .ok (.string ⟨eb.toArray⟩) W) := Lib.hid fun W f => (RdB.of_block' (f.heap BE.out fun h => h) LEB.out).text _ _ _ Try.underlying34 Try.underlying5 Try.underlying9
    have v0 : (convert 34 9 (.slice (some ⟨g5, 0, none⟩) 64 64)).run Try.prog w5.drew = .ok (.string ⟨eb.toArray⟩) w5.drew := CV.out _ (Fr.refl Nob w5).drew
    have X := Lib.hid (Fr.refl Nob w5)
    go_region_held3 (fun w' => w'.cell? ⟨B, 0, none⟩ = some (.int .u64 (s0 : Int)) ∧ w'.cell? ⟨B, 1, none⟩ = some (.int .u64 (s1 : Int)) ∧ w'.cell? ⟨B, 2, none⟩ = some (.int .u64 (s2 : Int)) ∧ w'.cell? ⟨B, 3, none⟩ = some (.int .u64 (s3 : Int)) ∧ w'.cell? ⟨B, 4, none⟩ = some (.int .u64 (s4 : Int)) ∧ w'.cell? ⟨B, 5, none⟩ = some (.bool cl) ∧ w'.cell? ⟨B, 6, none⟩ = some (.int .i64 im) ∧ (convert 34 9 (.slice (some ⟨g5, 0, none⟩) 64 64)).run Try.prog w' = .ok (.string ⟨eb.toArray⟩) w')
      (first | go_keep | exact ⟨c0, c1, c2, c3, c4, c5, c6, v0⟩ | exact ⟨by assumption, by assumption, by assumption, by assumption, by assumption, by assumption, by assumption, by assumption⟩)
      (first
      | (go_at_call 30; (with_reducible refine (OWN.out _).mono ?_); rintro e w6 ⟨rfl, f6⟩; have d0 : w6.cell? ⟨B, 0, none⟩ = some (.int .u64 (s0 : Int)) := f6.cell (by assumption) (fun h => h); have d1 : w6.cell? ⟨B, 1, none⟩ = some (.int .u64 (s1 : Int)) := f6.cell (by assumption) (fun h => h); have d2 : w6.cell? ⟨B, 2, none⟩ = some (.int .u64 (s2 : Int)) := f6.cell (by assumption) (fun h => h); have d3 : w6.cell? ⟨B, 3, none⟩ = some (.int .u64 (s3 : Int)) := f6.cell (by assumption) (fun h => h); have d4 : w6.cell? ⟨B, 4, none⟩ = some (.int .u64 (s4 : Int)) := f6.cell (by assumption) (fun h => h); have d5 : w6.cell? ⟨B, 5, none⟩ = some (.bool cl) := f6.cell (by assumption) (fun h => h); have d6 : w6.cell? ⟨B, 6, none⟩ = some (.int .i64 im) := f6.cell (by assumption) (fun h => h); have X : Hid (Fr Nob w5 w6) := Lib.hid (by first | exact X.out.trans' f6 | exact X.out.drew.trans' f6); have vv := CV.out _ X.out; clear f6)
      | (go_at_call 29; (with_reducible refine (ENC4.out _).mono ?_); rintro e w6 ⟨rfl, f6⟩; have d0 : w6.cell? ⟨B, 0, none⟩ = some (.int .u64 (s0 : Int)) := f6.cell (by assumption) (fun h => h); have d1 : w6.cell? ⟨B, 1, none⟩ = some (.int .u64 (s1 : Int)) := f6.cell (by assumption) (fun h => h); have d2 : w6.cell? ⟨B, 2, none⟩ = some (.int .u64 (s2 : Int)) := f6.cell (by assumption) (fun h => h); have d3 : w6.cell? ⟨B, 3, none⟩ = some (.int .u64 (s3 : Int)) := f6.cell (by assumption) (fun h => h); have d4 : w6.cell? ⟨B, 4, none⟩ = some (.int .u64 (s4 : Int)) := f6.cell (by assumption) (fun h => h); have d5 : w6.cell? ⟨B, 5, none⟩ = some (.bool cl) := f6.cell (by assumption) (fun h => h); have d6 : w6.cell? ⟨B, 6, none⟩ = some (.int .i64 im) := f6.cell (by assumption) (fun h => h); have X : Hid (Fr Nob w5 w6) := Lib.hid (by first | exact X.out.trans' f6 | exact X.out.drew.trans' f6); have vv := CV.out _ X.out; clear f6))
    all_goals
      go_wp2_with fail
      go_meet
      exact ⟨by first | rfl | simp, X⟩
  case rest =>
    obtain ⟨rfl, f6⟩ := hcut
    have BE6 := Lib.hid (f6.out.heap BE.out fun h => h)
    have H6 := Lib.hid (f6.out.heap H5.out fun h => h)
    have F6 := Lib.hid (F5.out.trans' f6.out)
    generalize wc = w6 at *
    clear f6 F5 BE H5
    obtain ⟨o, ho⟩ : ∃ o, o = dec pl := ⟨_, rfl⟩
    obtain ⟨E, hE⟩ : ∃ E, E = decE o := ⟨_, rfl⟩
    obtain ⟨ok, hK⟩ : ∃ ok, ok = o.isSome := ⟨_, rfl⟩
    obtain ⟨d0, d1, d2, d3, d4, dl, dm, hd⟩ := blk_cases (decB o)
    have LN := PI.out.len
    have DEC : Hid (∀ v w', RdC w' v pl → Calls Try.prog 27 #[v] w' fun e w'' => e = .returned (.tuple #[.agg #[.int .u64 (d0 : Int), .int .u64 (d1 : Int), .int .u64 (d2 : Int), .int .u64 (d3 : Int), .int .u64 (d4 : Int), .bool dl, .int .i64 dm], .int .i64 E]) ∧ Fr Nob w' w'') := Lib.hid fun v w' h => by
      have k := decode_eq h o ho.symm
      rw [hd, blkV_mk, ← hE] at k
      exact k
    have DEC4 : Hid (∀ w', Calls Try.prog 31 #[.string ⟨pl.toArray⟩] w' fun e w'' => e = .returned (.tuple #[.agg #[.int .u64 (d0 : Int), .int .u64 (d1 : Int), .int .u64 (d2 : Int), .int .u64 (d3 : Int), .int .u64 (d4 : Int), .bool dl, .int .i64 dm], .bool ok]) ∧ Fr Nob w' w'') := Lib.hid fun w' => by
      have k := refDec_eq (w := w') (bs := pl) (by omega) o ho.symm
      rw [hd, blkV_mk, ← hK] at k
      exact k
    have OWND : Hid (∀ w, Calls Try.prog 30 #[.agg #[.int .u64 (d0 : Int), .int .u64 (d1 : Int), .int .u64 (d2 : Int), .int .u64 (d3 : Int), .int .u64 (d4 : Int), .bool dl, .int .i64 dm]] w fun e w' => e = .returned (.agg #[.int .u64 (d0 : Int), .int .u64 (d1 : Int), .int .u64 (d2 : Int), .int .u64 (d3 : Int), .int .u64 (d4 : Int), .bool dl, .int .i64 dm]) ∧ Fr Nob w w') := Lib.hid fun w => by
      have h := own_eq (w := w) (decB o)
      rw [hd, blkV_mk] at h
      exact h
    have hq : ∀ w', (binOp .neq 37 (.agg #[.int .u64 (d0 : Int), .int .u64 (d1 : Int), .int .u64 (d2 : Int), .int .u64 (d3 : Int), .int .u64 (d4 : Int), .bool dl, .int .i64 dm]) (.agg #[.int .u64 (d0 : Int), .int .u64 (d1 : Int), .int .u64 (d2 : Int), .int .u64 (d3 : Int), .int .u64 (d4 : Int), .bool dl, .int .i64 dm])).run Try.prog w' = .ok (.bool false) w' := fun w' => by
      have := blk4_neqS (decB o) w'
      rwa [hd, blkV_mk] at this
    have HQ := Lib.hid hq
    have HE := Lib.hid hE
    have HK := Lib.hid hK
    have HD := Lib.hid hd
    clear ho hE hK hd hq
    have O0 : Hid ((w6.alloc (.cells #[] 5)).ownsRow w6.heap.size 5 1 (.slice (some ⟨w6.heap.size, 0, none⟩) 0 0) 0 (bytesV [])) := Lib.hid ⟨rfl, .inr ⟨w6.heap.size, 0, #[], rfl, Nat.le_refl _, heap_alloc_new w6 _, Nat.le_refl _, by unfold maxLen; omega, rfl, rfl⟩⟩
    have FA := Lib.hid ((Fr.refl Nob w6).alloc (.cells #[] 5))
    have PR := Lib.hid (PI.out.rd.nob (F6.out.trans' FA.out))
    go_wp2_with (with_reducible refine wpList_app_rowC (o := ⟨some 29, _, _, _, _, _⟩) rfl (.tmp 27) (.tmp 28) rfl w6.heap.size w6.heap.size 0 0 [] rfl O0.out rfl PA pn pc pl rfl PR.out (by omega) (by simp) ?_)
    intro g8 c8 w8 o8 f8
    have o8' := o8.out
    have F8 : Hid (Fr Nob w6 w8) := Lib.hid (FA.out.trans f8.out fun i hi (e : i = w6.heap.size) => by omega)
    have DC := Lib.hid (DEC.out _ _ (RdC.of_row o8' LN))
    clear o8 o8' f8 O0 FA PR DEC
    go_wp2_with fail
    refine DC.out.mono ?_
    rintro e w9 ⟨rfl, f9⟩
    have F9 := Lib.hid (F8.out.trans' f9)
    clear f9 DC F8
    have h10 := heap_alloc_new w9 (.cells #[.int .u64 (d0 : Int), .int .u64 (d1 : Int), .int .u64 (d2 : Int), .int .u64 (d3 : Int), .int .u64 (d4 : Int), .bool dl, .int .i64 dm] 29)
    have f10 := (Fr.refl Nob w9).alloc (.cells #[.int .u64 (d0 : Int), .int .u64 (d1 : Int), .int .u64 (d2 : Int), .int .u64 (d3 : Int), .int .u64 (d4 : Int), .bool dl, .int .i64 dm] 29)
    have CVP : Hid (∀ W, Fr Nob w6 W → (convert 34 9 (.slice PA pn pc)).run Try.prog W = .ok (.string ⟨pl.toArray⟩) W) := Lib.hid fun W f => (PI.out.rd.nob (F6.out.trans' f)).text _ _ _ Try.underlying34 Try.underlying5 Try.underlying9
    have F10 := Lib.hid (F9.out.trans' f10)
    have v10 := CVP.out _ F10.out
    obtain ⟨B6, hB6⟩ : ∃ B, B = w9.heap.size := ⟨_, rfl⟩
    rw [← hB6] at h10
    go_wp2_with fail
    rw [← hB6]
    have H10 := Lib.hid h10
    generalize w9.alloc (.cells #[.int .u64 (d0 : Int), .int .u64 (d1 : Int), .int .u64 (d2 : Int), .int .u64 (d3 : Int), .int .u64 (d4 : Int), .bool dl, .int .i64 dm] 29) = w10 at *
    clear F9 f10 CVP v10 hB6 h10
    refine (DEC4.out w10).mono ?_
    rintro e w11 ⟨rfl, f11⟩
    have F11 := Lib.hid (F10.out.trans' f11)
    have H11 := Lib.hid (f11.heap H10.out fun h => h)
    clear f11 DEC4 H10 F10
    have h12 := heap_alloc_new w11 (.cells #[.int .u64 (d0 : Int), .int .u64 (d1 : Int), .int .u64 (d2 : Int), .int .u64 (d3 : Int), .int .u64 (d4 : Int), .bool dl, .int .i64 dm] 37)
    have f12 := (Fr.refl Nob w11).alloc (.cells #[.int .u64 (d0 : Int), .int .u64 (d1 : Int), .int .u64 (d2 : Int), .int .u64 (d3 : Int), .int .u64 (d4 : Int), .bool dl, .int .i64 dm] 37)
    obtain ⟨B8, hB8⟩ : ∃ B, B = w11.heap.size := ⟨_, rfl⟩
    rw [← hB8] at h12
    go_upto_region 10 with fail
    rw [← hB8]
    have H12 := Lib.hid h12
    have G12 := Lib.hid (f12.heap H11.out fun h => h)
    have F12 := Lib.hid (F11.out.trans' f12)
    generalize w11.alloc (.cells #[.int .u64 (d0 : Int), .int .u64 (d1 : Int), .int .u64 (d2 : Int), .int .u64 (d3 : Int), .int .u64 (d4 : Int), .bool dl, .int .i64 dm] 37) = w12 at *
    clear F11 H11 f12 hB8 h12
    go_cut [64] (fun t W => t = .bool false ∧ Hid (Fr Nob w12 W))
    case first =>
      have X := Lib.hid (Fr.refl Nob w12)
      cases o with
      | some bk =>
        have hE : E = 0 := HE.out
        have hK : ok = true := HK.out
        subst hE hK
        have hq := HQ.out
        have c0 : w12.cell? ⟨B6, 0, none⟩ = some (.int .u64 (d0 : Int)) := cell_of_row _ B6 0 _ _ (0, 0) G12.out
        have c1 : w12.cell? ⟨B6, 1, none⟩ = some (.int .u64 (d1 : Int)) := cell_of_row _ B6 1 _ _ (0, 0) G12.out
        have c2 : w12.cell? ⟨B6, 2, none⟩ = some (.int .u64 (d2 : Int)) := cell_of_row _ B6 2 _ _ (0, 0) G12.out
        have c3 : w12.cell? ⟨B6, 3, none⟩ = some (.int .u64 (d3 : Int)) := cell_of_row _ B6 3 _ _ (0, 0) G12.out
        have c4 : w12.cell? ⟨B6, 4, none⟩ = some (.int .u64 (d4 : Int)) := cell_of_row _ B6 4 _ _ (0, 0) G12.out
        have c5 : w12.cell? ⟨B6, 5, none⟩ = some (.bool dl) := cell_of_row _ B6 5 _ _ (0, 0) G12.out
        have c6 : w12.cell? ⟨B6, 6, none⟩ = some (.int .i64 dm) := cell_of_row _ B6 6 _ _ (0, 0) G12.out
        have a0 : w12.cell? ⟨B8, 0, none⟩ = some (.int .u64 (d0 : Int)) := cell_of_row _ B8 0 _ _ (0, 0) H12.out
        have a1 : w12.cell? ⟨B8, 1, none⟩ = some (.int .u64 (d1 : Int)) := cell_of_row _ B8 1 _ _ (0, 0) H12.out
        have a2 : w12.cell? ⟨B8, 2, none⟩ = some (.int .u64 (d2 : Int)) := cell_of_row _ B8 2 _ _ (0, 0) H12.out
        have a3 : w12.cell? ⟨B8, 3, none⟩ = some (.int .u64 (d3 : Int)) := cell_of_row _ B8 3 _ _ (0, 0) H12.out
        have a4 : w12.cell? ⟨B8, 4, none⟩ = some (.int .u64 (d4 : Int)) := cell_of_row _ B8 4 _ _ (0, 0) H12.out
        have a5 : w12.cell? ⟨B8, 5, none⟩ = some (.bool dl) := cell_of_row _ B8 5 _ _ (0, 0) H12.out
        have a6 : w12.cell? ⟨B8, 6, none⟩ = some (.int .i64 dm) := cell_of_row _ B8 6 _ _ (0, 0) H12.out
        refine wp_region_held_drew (S := fun w' => w'.cell? ⟨B6, 0, none⟩ = some (.int .u64 (d0 : Int)) ∧ w'.cell? ⟨B6, 1, none⟩ = some (.int .u64 (d1 : Int)) ∧ w'.cell? ⟨B6, 2, none⟩ = some (.int .u64 (d2 : Int)) ∧ w'.cell? ⟨B6, 3, none⟩ = some (.int .u64 (d3 : Int)) ∧ w'.cell? ⟨B6, 4, none⟩ = some (.int .u64 (d4 : Int)) ∧ w'.cell? ⟨B6, 5, none⟩ = some (.bool dl) ∧ w'.cell? ⟨B6, 6, none⟩ = some (.int .i64 dm) ∧ w'.cell? ⟨B8, 0, none⟩ = some (.int .u64 (d0 : Int)) ∧ w'.cell? ⟨B8, 1, none⟩ = some (.int .u64 (d1 : Int)) ∧ w'.cell? ⟨B8, 2, none⟩ = some (.int .u64 (d2 : Int)) ∧ w'.cell? ⟨B8, 3, none⟩ = some (.int .u64 (d3 : Int)) ∧ w'.cell? ⟨B8, 4, none⟩ = some (.int .u64 (d4 : Int)) ∧ w'.cell? ⟨B8, 5, none⟩ = some (.bool dl) ∧ w'.cell? ⟨B8, 6, none⟩ = some (.int .i64 dm)) (by kernel_rfl) ⟨c0, c1, c2, c3, c4, c5, c6, a0, a1, a2, a3, a4, a5, a6⟩ (fun hHeld => ?_)
        refine wpAnyH_take (i := 0) (oi := ⟨some 39, _, _, _, _, _⟩) (v := ?_) rfl (by kernel_rfl) (by kernel_rfl) (by kernel_rfl) (fun _ _ _ h => h) (Or.inl ⟨by rfl, ?_⟩) (by assumption) ?_
        rotate_left
        · intro w hSw
          try dsimp only at hSw
          go_simp
          try with_reducible rfl
        try simp only [Act.put, List.setIfInBounds_toArray, List.set_cons_zero, List.set_cons_succ]
        refine wpAnyH_take (i := 1) (oi := ⟨some 40, _, _, _, _, _⟩) (v := ?_) rfl (by kernel_rfl) (by kernel_rfl) (by kernel_rfl) (fun _ _ _ h => h) (Or.inl ⟨by rfl, ?_⟩) (by assumption) ?_
        rotate_left
        · intro w hSw
          try dsimp only at hSw
          go_simp
          try with_reducible rfl
        try simp only [Act.put, List.setIfInBounds_toArray, List.set_cons_zero, List.set_cons_succ]
        refine wpAnyH_take (i := 2) (oi := ⟨some 41, _, _, _, _, _⟩) (v := ?_) rfl (by kernel_rfl) (by kernel_rfl) (by kernel_rfl) (fun _ _ _ h => h) (Or.inl ⟨by rfl, ?_⟩) (by assumption) ?_
        rotate_left
        · intro w hSw
          try dsimp only at hSw
          go_simp
          try with_reducible rfl
        try simp only [Act.put, List.setIfInBounds_toArray, List.set_cons_zero, List.set_cons_succ]
        refine wpAnyH_take (i := 3) (oi := ⟨some 42, _, _, _, _, _⟩) (v := ?_) rfl (by kernel_rfl) (by kernel_rfl) (by kernel_rfl) (fun _ _ _ h => h) (Or.inl ⟨by rfl, ?_⟩) (by assumption) ?_
        rotate_left
        · intro w hSw
          try dsimp only at hSw
          go_simp
          try with_reducible rfl
        try simp only [Act.put, List.setIfInBounds_toArray, List.set_cons_zero, List.set_cons_succ]
        refine wpAnyH_take (i := 4) (oi := ⟨some 43, _, _, _, _, _⟩) (v := ?_) rfl (by kernel_rfl) (by kernel_rfl) (by kernel_rfl) (fun _ _ _ h => h) (Or.inl ⟨by rfl, ?_⟩) (by assumption) ?_
        rotate_left
        · intro w hSw
          try dsimp only at hSw
          go_simp
          try with_reducible rfl
        try simp only [Act.put, List.setIfInBounds_toArray, List.set_cons_zero, List.set_cons_succ]
        refine wpAnyH_take (i := 5) (oi := ⟨some 44, _, _, _, _, _⟩) (v := ?_) rfl (by kernel_rfl) (by kernel_rfl) (by kernel_rfl) (fun _ _ _ h => h) (Or.inl ⟨by rfl, ?_⟩) (by assumption) ?_
        rotate_left
        · intro w hSw
          try dsimp only at hSw
          go_simp
          try with_reducible rfl
        try simp only [Act.put, List.setIfInBounds_toArray, List.set_cons_zero, List.set_cons_succ]
        refine wpAnyH_take (i := 6) (oi := ⟨some 45, _, _, _, _, _⟩) (v := ?_) rfl (by kernel_rfl) (by kernel_rfl) (by kernel_rfl) (fun _ _ _ h => h) (Or.inl ⟨by rfl, ?_⟩) (by assumption) ?_
        rotate_left
        · intro w hSw
          try dsimp only at hSw
          go_simp
          try with_reducible rfl
        try simp only [Act.put, List.setIfInBounds_toArray, List.set_cons_zero, List.set_cons_succ]
        refine wpAnyH_take (i := 7) (oi := ⟨some 46, _, _, _, _, _⟩) (v := ?_) rfl (by kernel_rfl) (by kernel_rfl) (by kernel_rfl) (fun _ _ _ h => h) (Or.inl ⟨by rfl, ?_⟩) (by assumption) ?_
        rotate_left
        · intro w hSw
          try dsimp only at hSw
          go_simp
          try with_reducible rfl
        try simp only [Act.put, List.setIfInBounds_toArray, List.set_cons_zero, List.set_cons_succ]
        refine wpAnyH_take (i := 8) (oi := ⟨some 47, _, _, _, _, _⟩) (v := undef) rfl (by kernel_rfl) (by kernel_rfl) (by kernel_rfl) (fun _ _ _ h => h) (Or.inr ⟨by rfl, rfl⟩) (by assumption) ?_
        try simp only [Act.put, List.setIfInBounds_toArray, List.set_cons_zero, List.set_cons_succ]
        refine wpAnyH_take (i := 9) (oi := ⟨some 48, _, _, _, _, _⟩) (v := undef) rfl (by kernel_rfl) (by kernel_rfl) (by kernel_rfl) (fun _ _ _ h => h) (Or.inr ⟨by rfl, rfl⟩) (by assumption) ?_
        try simp only [Act.put, List.setIfInBounds_toArray, List.set_cons_zero, List.set_cons_succ]
        refine wpAnyH_take (i := 10) (oi := ⟨some 49, _, _, _, _, _⟩) (v := undef) rfl (by kernel_rfl) (by kernel_rfl) (by kernel_rfl) (fun _ _ _ h => h) (Or.inr ⟨by rfl, rfl⟩) (by assumption) ?_
        try simp only [Act.put, List.setIfInBounds_toArray, List.set_cons_zero, List.set_cons_succ]
        refine wpAnyH_take (i := 11) (oi := ⟨some 50, _, _, _, _, _⟩) (v := undef) rfl (by kernel_rfl) (by kernel_rfl) (by kernel_rfl) (fun _ _ _ h => h) (Or.inr ⟨by rfl, rfl⟩) (by assumption) ?_
        try simp only [Act.put, List.setIfInBounds_toArray, List.set_cons_zero, List.set_cons_succ]
        refine wpAnyH_take (i := 12) (oi := ⟨some 51, _, _, _, _, _⟩) (v := undef) rfl (by kernel_rfl) (by kernel_rfl) (by kernel_rfl) (fun _ _ _ h => h) (Or.inr ⟨by rfl, rfl⟩) (by assumption) ?_
        try simp only [Act.put, List.setIfInBounds_toArray, List.set_cons_zero, List.set_cons_succ]
        refine wpAnyH_take (i := 13) (oi := ⟨some 52, _, _, _, _, _⟩) (v := undef) rfl (by kernel_rfl) (by kernel_rfl) (by kernel_rfl) (fun _ _ _ h => h) (Or.inr ⟨by rfl, rfl⟩) (by assumption) ?_
        try simp only [Act.put, List.setIfInBounds_toArray, List.set_cons_zero, List.set_cons_succ]
        refine wpAnyH_take (i := 14) (oi := ⟨some 53, _, _, _, _, _⟩) (v := undef) rfl (by kernel_rfl) (by kernel_rfl) (by kernel_rfl) (fun _ _ _ h => h) (Or.inr ⟨by rfl, rfl⟩) (by assumption) ?_
        try simp only [Act.put, List.setIfInBounds_toArray, List.set_cons_zero, List.set_cons_succ]
        refine wpAnyH_take (i := 15) (oi := ⟨some 54, _, _, _, _, _⟩) (v := ?_) rfl (by kernel_rfl) (by kernel_rfl) (by kernel_rfl) (fun _ _ _ h => h) (Or.inl ⟨by rfl, ?_⟩) (by assumption) ?_
        rotate_left
        · intro w hSw
          try dsimp only at hSw
          go_simp
          try with_reducible rfl
        try simp only [Act.put, List.setIfInBounds_toArray, List.set_cons_zero, List.set_cons_succ]
        refine wpAnyH_take (i := 16) (oi := ⟨some 55, _, _, _, _, _⟩) (v := ?_) rfl (by kernel_rfl) (by kernel_rfl) (by kernel_rfl) (fun _ _ _ h => h) (Or.inl ⟨by rfl, ?_⟩) (by assumption) ?_
        rotate_left
        · intro w hSw
          try dsimp only at hSw
          go_simp
          try with_reducible rfl
        try simp only [Act.put, List.setIfInBounds_toArray, List.set_cons_zero, List.set_cons_succ]
        refine wpAnyH_take (i := 17) (oi := ⟨some 56, _, _, _, _, _⟩) (v := ?_) rfl (by kernel_rfl) (by kernel_rfl) (by kernel_rfl) (fun _ _ _ h => h) (Or.inl ⟨by rfl, ?_⟩) (by assumption) ?_
        rotate_left
        · intro w hSw
          try dsimp only at hSw
          go_simp
          try with_reducible rfl
        try simp only [Act.put, List.setIfInBounds_toArray, List.set_cons_zero, List.set_cons_succ]
        refine wpAnyH_take (i := 18) (oi := ⟨some 57, _, _, _, _, _⟩) (v := ?_) rfl (by kernel_rfl) (by kernel_rfl) (by kernel_rfl) (fun _ _ _ h => h) (Or.inl ⟨by rfl, ?_⟩) (by assumption) ?_
        rotate_left
        · intro w hSw
          try dsimp only at hSw
          go_simp
          try with_reducible rfl
        try simp only [Act.put, List.setIfInBounds_toArray, List.set_cons_zero, List.set_cons_succ]
        refine wpAnyH_take (i := 19) (oi := ⟨some 58, _, _, _, _, _⟩) (v := ?_) rfl (by kernel_rfl) (by kernel_rfl) (by kernel_rfl) (fun _ _ _ h => h) (Or.inl ⟨by rfl, ?_⟩) (by assumption) ?_
        rotate_left
        · intro w hSw
          try dsimp only at hSw
          go_simp
          try with_reducible rfl
        try simp only [Act.put, List.setIfInBounds_toArray, List.set_cons_zero, List.set_cons_succ]
        refine wpAnyH_take (i := 20) (oi := ⟨some 59, _, _, _, _, _⟩) (v := ?_) rfl (by kernel_rfl) (by kernel_rfl) (by kernel_rfl) (fun _ _ _ h => h) (Or.inl ⟨by rfl, ?_⟩) (by assumption) ?_
        rotate_left
        · intro w hSw
          try dsimp only at hSw
          go_simp
          try with_reducible rfl
        try simp only [Act.put, List.setIfInBounds_toArray, List.set_cons_zero, List.set_cons_succ]
        refine wpAnyH_take (i := 22) (oi := ⟨some 61, _, _, _, _, _⟩) (v := ?_) rfl (by kernel_rfl) (by kernel_rfl) (by kernel_rfl) (fun _ _ _ h => h) (Or.inl ⟨by rfl, ?_⟩) (by assumption) ?_
        rotate_left
        · intro w hSw
          try dsimp only at hSw
          go_simp
          try with_reducible rfl
        try simp only [Act.put, List.setIfInBounds_toArray, List.set_cons_zero, List.set_cons_succ]
        refine wpAnyH_ready (rs := [21]) (by kernel_rfl) (by simp) ?_
        refine AllReadyH.cons (o := ⟨some 60, _, _, _, _, _⟩) rfl (fun K' hK => ?_) AllReadyH.nil
        go_simp
        go_at_call 30
        (with_reducible refine (OWND.out _).mono ?_)
        rintro e w15 ⟨rfl, f15⟩
        have X15 : Hid (Fr Nob w12 w15) := Lib.hid (X.out.drew.trans' f15)
        refine hK.out _ _ ⟨f15.cell c0 fun h => h, f15.cell c1 fun h => h, f15.cell c2 fun h => h, f15.cell c3 fun h => h, f15.cell c4 fun h => h, f15.cell c5 fun h => h, f15.cell c6 fun h => h, f15.cell a0 fun h => h, f15.cell a1 fun h => h, f15.cell a2 fun h => h, f15.cell a3 fun h => h, f15.cell a4 fun h => h, f15.cell a5 fun h => h, f15.cell a6 fun h => h⟩ (fun hHeld2 => ?_)
        clear hK K' f15 hHeld
        try simp only [Act.put, List.setIfInBounds_toArray, List.set_cons_zero, List.set_cons_succ]
        refine wpAnyH_take (i := 23) (oi := ⟨some 62, _, _, _, _, _⟩) (v := ?_) rfl (by kernel_rfl) (by kernel_rfl) (by kernel_rfl) (fun _ _ _ h => h) (Or.inl ⟨by rfl, ?_⟩) (by assumption) ?_
        rotate_left
        · intro w hSw
          try dsimp only at hSw
          go_simp
          try with_reducible rfl
        try simp only [Act.put, List.setIfInBounds_toArray, List.set_cons_zero, List.set_cons_succ]
        refine wpAnyH_take (i := 24) (oi := ⟨some 63, _, _, _, _, _⟩) (v := ?_) rfl (by kernel_rfl) (by kernel_rfl) (by kernel_rfl) (fun _ _ _ h => h) (Or.inl ⟨by rfl, ?_⟩) (by assumption) ?_
        rotate_left
        · intro w hSw
          try dsimp only at hSw
          go_simp
          try with_reducible rfl
        try simp only [Act.put, List.setIfInBounds_toArray, List.set_cons_zero, List.set_cons_succ]
        refine wpAnyH_take (i := 25) (oi := ⟨some 64, _, _, _, _, _⟩) (v := ?_) rfl (by kernel_rfl) (by kernel_rfl) (by kernel_rfl) (fun _ _ _ h => h) (Or.inl ⟨by rfl, ?_⟩) (by assumption) ?_
        rotate_left
        · intro w hSw
          try dsimp only at hSw
          go_simp
          try with_reducible rfl
        try simp only [Act.put, List.setIfInBounds_toArray, List.set_cons_zero, List.set_cons_succ]
        refine wpAnyH_done (by kernel_rfl) ?_ _
        go_wp2_with fail
        go_meet
        exact ⟨by first | rfl | simp, X15⟩

      | none =>
        have hE : E = 3 := HE.out
        have hK : ok = false := HK.out
        subst hE hK
        have hdz : (⟨d0, d1, d2, d3, d4, dl, dm⟩ : Blk) = Blk.zero := HD.out.symm.trans rfl
        unfold Blk.zero at hdz
        injection hdz with y0 y1 y2 y3 y4 y5 y6
        subst y0 y1 y2 y3 y4 y5 y6
        have hq : ∀ w', (binOp .neq 29 (.agg #[.int .u64 0, .int .u64 0, .int .u64 0, .int .u64 0, .int .u64 0, .bool false, .int .i64 0]) (.agg #[.int .u64 0, .int .u64 0, .int .u64 0, .int .u64 0, .int .u64 0, .bool false, .int .i64 0])).run Try.prog w' = .ok (.bool false) w' := fun w' => blk_neqS Blk.zero w'
        have c0 : w12.cell? ⟨B6, 0, none⟩ = some (.int .u64 0) := cell_of_row _ B6 0 _ _ (0, 0) G12.out
        have c1 : w12.cell? ⟨B6, 1, none⟩ = some (.int .u64 0) := cell_of_row _ B6 1 _ _ (0, 0) G12.out
        have c2 : w12.cell? ⟨B6, 2, none⟩ = some (.int .u64 0) := cell_of_row _ B6 2 _ _ (0, 0) G12.out
        have c3 : w12.cell? ⟨B6, 3, none⟩ = some (.int .u64 0) := cell_of_row _ B6 3 _ _ (0, 0) G12.out
        have c4 : w12.cell? ⟨B6, 4, none⟩ = some (.int .u64 0) := cell_of_row _ B6 4 _ _ (0, 0) G12.out
        have c5 : w12.cell? ⟨B6, 5, none⟩ = some (.bool false) := cell_of_row _ B6 5 _ _ (0, 0) G12.out
        have c6 : w12.cell? ⟨B6, 6, none⟩ = some (.int .i64 0) := cell_of_row _ B6 6 _ _ (0, 0) G12.out
        refine wp_region_held_drew (S := fun w' => w'.cell? ⟨B6, 0, none⟩ = some (.int .u64 0) ∧ w'.cell? ⟨B6, 1, none⟩ = some (.int .u64 0) ∧ w'.cell? ⟨B6, 2, none⟩ = some (.int .u64 0) ∧ w'.cell? ⟨B6, 3, none⟩ = some (.int .u64 0) ∧ w'.cell? ⟨B6, 4, none⟩ = some (.int .u64 0) ∧ w'.cell? ⟨B6, 5, none⟩ = some (.bool false) ∧ w'.cell? ⟨B6, 6, none⟩ = some (.int .i64 0)) (by kernel_rfl) ⟨c0, c1, c2, c3, c4, c5, c6⟩ (fun hHeld => ?_)
        refine wpAnyH_take (i := 0) (oi := ⟨some 39, _, _, _, _, _⟩) (v := ?_) rfl (by kernel_rfl) (by kernel_rfl) (by kernel_rfl) (fun _ _ _ h => h) (Or.inl ⟨by rfl, ?_⟩) (by assumption) ?_
        rotate_left
        · intro w hSw
          try dsimp only at hSw
          go_simp
          try with_reducible rfl
        try simp only [Act.put, List.setIfInBounds_toArray, List.set_cons_zero, List.set_cons_succ]
        refine wpAnyH_take (i := 1) (oi := ⟨some 40, _, _, _, _, _⟩) (v := ?_) rfl (by kernel_rfl) (by kernel_rfl) (by kernel_rfl) (fun _ _ _ h => h) (Or.inl ⟨by rfl, ?_⟩) (by assumption) ?_
        rotate_left
        · intro w hSw
          try dsimp only at hSw
          go_simp
          try with_reducible rfl
        try simp only [Act.put, List.setIfInBounds_toArray, List.set_cons_zero, List.set_cons_succ]
        refine wpAnyH_take (i := 2) (oi := ⟨some 41, _, _, _, _, _⟩) (v := ?_) rfl (by kernel_rfl) (by kernel_rfl) (by kernel_rfl) (fun _ _ _ h => h) (Or.inl ⟨by rfl, ?_⟩) (by assumption) ?_
        rotate_left
        · intro w hSw
          try dsimp only at hSw
          go_simp
          try with_reducible rfl
        try simp only [Act.put, List.setIfInBounds_toArray, List.set_cons_zero, List.set_cons_succ]
        refine wpAnyH_take (i := 3) (oi := ⟨some 42, _, _, _, _, _⟩) (v := ?_) rfl (by kernel_rfl) (by kernel_rfl) (by kernel_rfl) (fun _ _ _ h => h) (Or.inl ⟨by rfl, ?_⟩) (by assumption) ?_
        rotate_left
        · intro w hSw
          try dsimp only at hSw
          go_simp
          try with_reducible rfl
        try simp only [Act.put, List.setIfInBounds_toArray, List.set_cons_zero, List.set_cons_succ]
        refine wpAnyH_take (i := 4) (oi := ⟨some 43, _, _, _, _, _⟩) (v := ?_) rfl (by kernel_rfl) (by kernel_rfl) (by kernel_rfl) (fun _ _ _ h => h) (Or.inl ⟨by rfl, ?_⟩) (by assumption) ?_
        rotate_left
        · intro w hSw
          try dsimp only at hSw
          go_simp
          try with_reducible rfl
        try simp only [Act.put, List.setIfInBounds_toArray, List.set_cons_zero, List.set_cons_succ]
        refine wpAnyH_take (i := 5) (oi := ⟨some 44, _, _, _, _, _⟩) (v := ?_) rfl (by kernel_rfl) (by kernel_rfl) (by kernel_rfl) (fun _ _ _ h => h) (Or.inl ⟨by rfl, ?_⟩) (by assumption) ?_
        rotate_left
        · intro w hSw
          try dsimp only at hSw
          go_simp
          try with_reducible rfl
        try simp only [Act.put, List.setIfInBounds_toArray, List.set_cons_zero, List.set_cons_succ]
        refine wpAnyH_take (i := 6) (oi := ⟨some 45, _, _, _, _, _⟩) (v := ?_) rfl (by kernel_rfl) (by kernel_rfl) (by kernel_rfl) (fun _ _ _ h => h) (Or.inl ⟨by rfl, ?_⟩) (by assumption) ?_
        rotate_left
        · intro w hSw
          try dsimp only at hSw
          go_simp
          try with_reducible rfl
        try simp only [Act.put, List.setIfInBounds_toArray, List.set_cons_zero, List.set_cons_succ]
        refine wpAnyH_take (i := 7) (oi := ⟨some 46, _, _, _, _, _⟩) (v := ?_) rfl (by kernel_rfl) (by kernel_rfl) (by kernel_rfl) (fun _ _ _ h => h) (Or.inl ⟨by rfl, ?_⟩) (by assumption) ?_
        rotate_left
        · intro w hSw
          try dsimp only at hSw
          go_simp
          try with_reducible rfl
        try simp only [Act.put, List.setIfInBounds_toArray, List.set_cons_zero, List.set_cons_succ]
        refine wpAnyH_take (i := 8) (oi := ⟨some 47, _, _, _, _, _⟩) (v := ?_) rfl (by kernel_rfl) (by kernel_rfl) (by kernel_rfl) (fun _ _ _ h => h) (Or.inl ⟨by rfl, ?_⟩) (by assumption) ?_
        rotate_left
        · intro w hSw
          try dsimp only at hSw
          go_simp
          try with_reducible rfl
        try simp only [Act.put, List.setIfInBounds_toArray, List.set_cons_zero, List.set_cons_succ]
        refine wpAnyH_take (i := 9) (oi := ⟨some 48, _, _, _, _, _⟩) (v := ?_) rfl (by kernel_rfl) (by kernel_rfl) (by kernel_rfl) (fun _ _ _ h => h) (Or.inl ⟨by rfl, ?_⟩) (by assumption) ?_
        rotate_left
        · intro w hSw
          try dsimp only at hSw
          go_simp
          try with_reducible rfl
        try simp only [Act.put, List.setIfInBounds_toArray, List.set_cons_zero, List.set_cons_succ]
        refine wpAnyH_take (i := 10) (oi := ⟨some 49, _, _, _, _, _⟩) (v := ?_) rfl (by kernel_rfl) (by kernel_rfl) (by kernel_rfl) (fun _ _ _ h => h) (Or.inl ⟨by rfl, ?_⟩) (by assumption) ?_
        rotate_left
        · intro w hSw
          try dsimp only at hSw
          go_simp
          try with_reducible rfl
        try simp only [Act.put, List.setIfInBounds_toArray, List.set_cons_zero, List.set_cons_succ]
        refine wpAnyH_take (i := 11) (oi := ⟨some 50, _, _, _, _, _⟩) (v := ?_) rfl (by kernel_rfl) (by kernel_rfl) (by kernel_rfl) (fun _ _ _ h => h) (Or.inl ⟨by rfl, ?_⟩) (by assumption) ?_
        rotate_left
        · intro w hSw
          try dsimp only at hSw
          go_simp
          try with_reducible rfl
        try simp only [Act.put, List.setIfInBounds_toArray, List.set_cons_zero, List.set_cons_succ]
        refine wpAnyH_take (i := 12) (oi := ⟨some 51, _, _, _, _, _⟩) (v := ?_) rfl (by kernel_rfl) (by kernel_rfl) (by kernel_rfl) (fun _ _ _ h => h) (Or.inl ⟨by rfl, ?_⟩) (by assumption) ?_
        rotate_left
        · intro w hSw
          try dsimp only at hSw
          go_simp
          try with_reducible rfl
        try simp only [Act.put, List.setIfInBounds_toArray, List.set_cons_zero, List.set_cons_succ]
        refine wpAnyH_take (i := 13) (oi := ⟨some 52, _, _, _, _, _⟩) (v := ?_) rfl (by kernel_rfl) (by kernel_rfl) (by kernel_rfl) (fun _ _ _ h => h) (Or.inl ⟨by rfl, ?_⟩) (by assumption) ?_
        rotate_left
        · intro w hSw
          try dsimp only at hSw
          go_simp
          try with_reducible rfl
        try simp only [Act.put, List.setIfInBounds_toArray, List.set_cons_zero, List.set_cons_succ]
        refine wpAnyH_take (i := 14) (oi := ⟨some 53, _, _, _, _, _⟩) (v := ?_) rfl (by kernel_rfl) (by kernel_rfl) (by kernel_rfl) (fun _ _ _ h => h) (Or.inl ⟨by rfl, ?_⟩) (by assumption) ?_
        rotate_left
        · intro w hSw
          try dsimp only at hSw
          go_simp
          try with_reducible rfl
        try simp only [Act.put, List.setIfInBounds_toArray, List.set_cons_zero, List.set_cons_succ]
        refine wpAnyH_take (i := 15) (oi := ⟨some 54, _, _, _, _, _⟩) (v := ?_) rfl (by kernel_rfl) (by kernel_rfl) (by kernel_rfl) (fun _ _ _ h => h) (Or.inl ⟨by rfl, ?_⟩) (by assumption) ?_
        rotate_left
        · intro w hSw
          try dsimp only at hSw
          go_simp
          try with_reducible rfl
        try simp only [Act.put, List.setIfInBounds_toArray, List.set_cons_zero, List.set_cons_succ]
        refine wpAnyH_take (i := 16) (oi := ⟨some 55, _, _, _, _, _⟩) (v := ?_) rfl (by kernel_rfl) (by kernel_rfl) (by kernel_rfl) (fun _ _ _ h => h) (Or.inl ⟨by rfl, ?_⟩) (by assumption) ?_
        rotate_left
        · intro w hSw
          try dsimp only at hSw
          go_simp
          try with_reducible rfl
        try simp only [Act.put, List.setIfInBounds_toArray, List.set_cons_zero, List.set_cons_succ]
        refine wpAnyH_take (i := 17) (oi := ⟨some 56, _, _, _, _, _⟩) (v := ?_) rfl (by kernel_rfl) (by kernel_rfl) (by kernel_rfl) (fun _ _ _ h => h) (Or.inl ⟨by rfl, ?_⟩) (by assumption) ?_
        rotate_left
        · intro w hSw
          try dsimp only at hSw
          go_simp
          try with_reducible rfl
        try simp only [Act.put, List.setIfInBounds_toArray, List.set_cons_zero, List.set_cons_succ]
        refine wpAnyH_take (i := 18) (oi := ⟨some 57, _, _, _, _, _⟩) (v := ?_) rfl (by kernel_rfl) (by kernel_rfl) (by kernel_rfl) (fun _ _ _ h => h) (Or.inl ⟨by rfl, ?_⟩) (by assumption) ?_
        rotate_left
        · intro w hSw
          try dsimp only at hSw
          go_simp
          try with_reducible rfl
        try simp only [Act.put, List.setIfInBounds_toArray, List.set_cons_zero, List.set_cons_succ]
        refine wpAnyH_take (i := 19) (oi := ⟨some 58, _, _, _, _, _⟩) (v := ?_) rfl (by kernel_rfl) (by kernel_rfl) (by kernel_rfl) (fun _ _ _ h => h) (Or.inl ⟨by rfl, ?_⟩) (by assumption) ?_
        rotate_left
        · intro w hSw
          try dsimp only at hSw
          go_simp
          try with_reducible rfl
        try simp only [Act.put, List.setIfInBounds_toArray, List.set_cons_zero, List.set_cons_succ]
        refine wpAnyH_take (i := 20) (oi := ⟨some 59, _, _, _, _, _⟩) (v := undef) rfl (by kernel_rfl) (by kernel_rfl) (by kernel_rfl) (fun _ _ _ h => h) (Or.inr ⟨by rfl, rfl⟩) (by assumption) ?_
        try simp only [Act.put, List.setIfInBounds_toArray, List.set_cons_zero, List.set_cons_succ]
        refine wpAnyH_take (i := 21) (oi := ⟨some 60, _, _, _, _, _⟩) (v := undef) rfl (by kernel_rfl) (by kernel_rfl) (by kernel_rfl) (fun _ _ _ h => h) (Or.inr ⟨by rfl, rfl⟩) (by assumption) ?_
        try simp only [Act.put, List.setIfInBounds_toArray, List.set_cons_zero, List.set_cons_succ]
        refine wpAnyH_take (i := 22) (oi := ⟨some 61, _, _, _, _, _⟩) (v := undef) rfl (by kernel_rfl) (by kernel_rfl) (by kernel_rfl) (fun _ _ _ h => h) (Or.inr ⟨by rfl, rfl⟩) (by assumption) ?_
        try simp only [Act.put, List.setIfInBounds_toArray, List.set_cons_zero, List.set_cons_succ]
        refine wpAnyH_take (i := 23) (oi := ⟨some 62, _, _, _, _, _⟩) (v := undef) rfl (by kernel_rfl) (by kernel_rfl) (by kernel_rfl) (fun _ _ _ h => h) (Or.inr ⟨by rfl, rfl⟩) (by assumption) ?_
        try simp only [Act.put, List.setIfInBounds_toArray, List.set_cons_zero, List.set_cons_succ]
        refine wpAnyH_take (i := 24) (oi := ⟨some 63, _, _, _, _, _⟩) (v := ?_) rfl (by kernel_rfl) (by kernel_rfl) (by kernel_rfl) (fun _ _ _ h => h) (Or.inl ⟨by rfl, ?_⟩) (by assumption) ?_
        rotate_left
        · intro w hSw
          try dsimp only at hSw
          go_simp
          try with_reducible rfl
        try simp only [Act.put, List.setIfInBounds_toArray, List.set_cons_zero, List.set_cons_succ]
        refine wpAnyH_take (i := 25) (oi := ⟨some 64, _, _, _, _, _⟩) (v := ?_) rfl (by kernel_rfl) (by kernel_rfl) (by kernel_rfl) (fun _ _ _ h => h) (Or.inl ⟨by rfl, ?_⟩) (by assumption) ?_
        rotate_left
        · intro w hSw
          try dsimp only at hSw
          go_simp
          try with_reducible rfl
        try simp only [Act.put, List.setIfInBounds_toArray, List.set_cons_zero, List.set_cons_succ]
        refine wpAnyH_done (by kernel_rfl) ?_ _
        go_wp2_with fail
        go_meet
        exact ⟨by first | rfl | simp, Lib.hid (Fr.refl Nob w12).drew⟩
    case rest =>
      obtain ⟨rfl, f13⟩ := hcut
      have F13 := Lib.hid (F12.out.trans' f13.out)
      have BE13 := Lib.hid (F13.out.heap BE6.out fun h => h)
      have H13 := Lib.hid (F13.out.heap H6.out fun h => h)
      have FW := Lib.hid (F6.out.trans' F13.out)
      generalize wc = w13 at *
      clear f13 F13 F12 BE6 H6 G12 H12 F6 OWN OWND ENC ENC4 HQ HE HK HD
      have O0 : Hid ((w13.alloc (.cells #[] 5)).ownsRow w13.heap.size 5 1 (.slice (some ⟨w13.heap.size, 0, none⟩) 0 0) 0 (bytesV [])) := Lib.hid ⟨rfl, .inr ⟨w13.heap.size, 0, #[], rfl, Nat.le_refl _, heap_alloc_new w13 _, Nat.le_refl _, by unfold maxLen; omega, rfl, rfl⟩⟩
      have FA := Lib.hid ((Fr.refl Nob w13).alloc (.cells #[] 5))
      have ER := Lib.hid (RdB.of_block' (cap := 64) (FA.out.heap BE13.out fun h => h) LEB.out)
      go_wp2_with (with_reducible refine wpList_app_rowC (o := ⟨some 68, _, _, _, _, _⟩) rfl (.tmp 66) (.tmp 67) rfl w13.heap.size w13.heap.size 0 0 [] rfl O0.out rfl (some ⟨g5, 0, none⟩) 64 64 eb rfl ER.out (by omega) (by simp) ?_)
      intro g14 c14 w14 o14 f14
      have o14' := o14.out
      have F14 : Hid (Fr Nob w13 w14) := Lib.hid (FA.out.trans f14.out fun i hi (e : i = w13.heap.size) => by omega)
      have PR := Lib.hid (PI.out.rd.nob (FW.out.trans' F14.out))
      have hsz := F14.out.size
      have hg := o14'.lt g14 rfl
      have LE := LEB.out
      clear o14 f14 O0 FA ER
      go_wp2_with (with_reducible refine wpList_app_rowC (o := ⟨some 70, _, _, _, _, _⟩) rfl (.tmp 68) (.tmp 69) rfl w13.heap.size g14 64 c14 eb rfl o14' LE PA pn pc pl rfl PR.out (by omega) hsz ?_)
      intro g15 c15 w15 o15 f15
      have F15 : Hid (Fr Nob w13 w15) := Lib.hid (F14.out.trans f15.out fun i hi (e : i = g14) => by omega)
      have DC : Hid (Calls Try.prog 27 #[.slice (some ⟨g15, 0, none⟩) (64 + pn) c15] w15 fun e w'' => e = .returned (.tuple #[.agg #[.int .u64 (s0 : Int), .int .u64 (s1 : Int), .int .u64 (s2 : Int), .int .u64 (s3 : Int), .int .u64 (s4 : Int), .bool cl, .int .i64 (i : Int)], .int .i64 0]) ∧ Fr Nob w15 w'') := Lib.hid (by
        have k := decode_eq (RdC.of_row o15.out (by rw [List.length_append, LE, LN])) _ DEB.out
        rw [show decB (some (⟨s0, s1, s2, s3, s4, cl, (i : Int)⟩ : Blk)) = ⟨s0, s1, s2, s3, s4, cl, (i : Int)⟩ from rfl, blkV_mk] at k
        exact k)
      clear o14' o15 f15 F14 PR hsz hg LE
      go_wp2_with fail
      refine DC.out.mono ?_
      rintro e w16 ⟨rfl, f16⟩
      have F16 := Lib.hid (F15.out.trans' f16)
      have H16 := Lib.hid (F16.out.heap H13.out fun h => h)
      clear f16 DC F15 BE13 H13
      have h17 := heap_alloc_new w16 (.cells #[.int .u64 (s0 : Int), .int .u64 (s1 : Int), .int .u64 (s2 : Int), .int .u64 (s3 : Int), .int .u64 (s4 : Int), .bool cl, .int .i64 (i : Int)] 29)
      have f17 := (Fr.refl Nob w16).alloc (.cells #[.int .u64 (s0 : Int), .int .u64 (s1 : Int), .int .u64 (s2 : Int), .int .u64 (s3 : Int), .int .u64 (s4 : Int), .bool cl, .int .i64 (i : Int)] 29)
      obtain ⟨B10, hB10⟩ : ∃ B, B = w16.heap.size := ⟨_, rfl⟩
      rw [← hB10] at h17
      go_upto_region 13 with fail
      rw [← hB10]
      have H17 := Lib.hid h17
      have G17 := Lib.hid (f17.heap H16.out fun h => h)
      have F17 := Lib.hid (F16.out.trans' f17)
      have z17 : Hid ((w16.alloc (.cells #[.int .u64 (s0 : Int), .int .u64 (s1 : Int), .int .u64 (s2 : Int), .int .u64 (s3 : Int), .int .u64 (s4 : Int), .bool cl, .int .i64 (i : Int)] 29)).heap.size = B10 + 1) := Lib.hid (by rw [hB10]; simp)
      generalize w16.alloc (.cells #[.int .u64 (s0 : Int), .int .u64 (s1 : Int), .int .u64 (s2 : Int), .int .u64 (s3 : Int), .int .u64 (s4 : Int), .bool cl, .int .i64 (i : Int)] 29) = w17 at *
      clear F16 H16 f17 hB10 h17
      have c0 : w17.cell? ⟨B, 0, none⟩ = some (.int .u64 (s0 : Int)) := cell_of_row _ B 0 _ _ (0, 0) G17.out
      have c1 : w17.cell? ⟨B, 1, none⟩ = some (.int .u64 (s1 : Int)) := cell_of_row _ B 1 _ _ (0, 0) G17.out
      have c2 : w17.cell? ⟨B, 2, none⟩ = some (.int .u64 (s2 : Int)) := cell_of_row _ B 2 _ _ (0, 0) G17.out
      have c3 : w17.cell? ⟨B, 3, none⟩ = some (.int .u64 (s3 : Int)) := cell_of_row _ B 3 _ _ (0, 0) G17.out
      have c4 : w17.cell? ⟨B, 4, none⟩ = some (.int .u64 (s4 : Int)) := cell_of_row _ B 4 _ _ (0, 0) G17.out
      have c5 : w17.cell? ⟨B, 5, none⟩ = some (.bool cl) := cell_of_row _ B 5 _ _ (0, 0) G17.out
      have c6 : w17.cell? ⟨B, 6, none⟩ = some (.int .i64 im) := cell_of_row _ B 6 _ _ (0, 0) G17.out
      have h18 := heap_alloc_new w17 (.cells #[.int .u64 (s0 : Int), .int .u64 (s1 : Int), .int .u64 (s2 : Int), .int .u64 (s3 : Int), .int .u64 (s4 : Int), .bool cl, .int .i64 im] 29)
      have f18 := (Fr.refl Nob w17).alloc (.cells #[.int .u64 (s0 : Int), .int .u64 (s1 : Int), .int .u64 (s2 : Int), .int .u64 (s3 : Int), .int .u64 (s4 : Int), .bool cl, .int .i64 im] 29)
      obtain ⟨B12, hB12⟩ : ∃ B, B = w17.heap.size := ⟨_, rfl⟩
      rw [← hB12] at h18
      go_upto_region 14 with fail
      rw [← hB12]
      have H18 := Lib.hid h18
      have G18 := Lib.hid (f18.heap H17.out fun h => h)
      have F18 := Lib.hid ((FW.out.trans' F17.out).trans' f18)
      have ne : ¬ B10 = B12 := by have := z17.out; omega
      have HB12 : Hid (w.heap.size ≤ B12) := Lib.hid (by
        rw [hB12]
        exact (FW.out.trans' F17.out).size)
      generalize w17.alloc (.cells #[.int .u64 (s0 : Int), .int .u64 (s1 : Int), .int .u64 (s2 : Int), .int .u64 (s3 : Int), .int .u64 (s4 : Int), .bool cl, .int .i64 im] 29) = w18 at *
      have heq : ∀ w', (binOp .eql 29 (.agg #[.int .u64 (s0 : Int), .int .u64 (s1 : Int), .int .u64 (s2 : Int), .int .u64 (s3 : Int), .int .u64 (s4 : Int), .bool cl, .int .i64 (i : Int)]) (.agg #[.int .u64 (s0 : Int), .int .u64 (s1 : Int), .int .u64 (s2 : Int), .int .u64 (s3 : Int), .int .u64 (s4 : Int), .bool cl, .int .i64 (i : Int)])).run Try.prog w' = .ok (.bool true) w' := fun w' => by
        have h := blk_eql ⟨s0, s1, s2, s3, s4, cl, (i : Int)⟩ ⟨s0, s1, s2, s3, s4, cl, (i : Int)⟩ w'
        rw [show decide ((⟨s0, s1, s2, s3, s4, cl, (i : Int)⟩ : Blk) = ⟨s0, s1, s2, s3, s4, cl, (i : Int)⟩) = true from decide_eq_true rfl, blkV_mk] at h
        exact h
      clear c0 c1 c2 c3 c4 c5 c6 G17 H17 F17 FW f18 hB12 h18 z17
      have a0 : w18.cell? ⟨B10, 0, none⟩ = some (.int .u64 (s0 : Int)) := cell_of_row _ B10 0 _ _ (0, 0) G18.out
      have a1 : w18.cell? ⟨B10, 1, none⟩ = some (.int .u64 (s1 : Int)) := cell_of_row _ B10 1 _ _ (0, 0) G18.out
      have a2 : w18.cell? ⟨B10, 2, none⟩ = some (.int .u64 (s2 : Int)) := cell_of_row _ B10 2 _ _ (0, 0) G18.out
      have a3 : w18.cell? ⟨B10, 3, none⟩ = some (.int .u64 (s3 : Int)) := cell_of_row _ B10 3 _ _ (0, 0) G18.out
      have a4 : w18.cell? ⟨B10, 4, none⟩ = some (.int .u64 (s4 : Int)) := cell_of_row _ B10 4 _ _ (0, 0) G18.out
      have a5 : w18.cell? ⟨B10, 5, none⟩ = some (.bool cl) := cell_of_row _ B10 5 _ _ (0, 0) G18.out
      have a6 : w18.cell? ⟨B10, 6, none⟩ = some (.int .i64 (i : Int)) := cell_of_row _ B10 6 _ _ (0, 0) G18.out
      have c0 : w18.cell? ⟨B12, 0, none⟩ = some (.int .u64 (s0 : Int)) := cell_of_row _ B12 0 _ _ (0, 0) H18.out
      have c1 : w18.cell? ⟨B12, 1, none⟩ = some (.int .u64 (s1 : Int)) := cell_of_row _ B12 1 _ _ (0, 0) H18.out
      have c2 : w18.cell? ⟨B12, 2, none⟩ = some (.int .u64 (s2 : Int)) := cell_of_row _ B12 2 _ _ (0, 0) H18.out
      have c3 : w18.cell? ⟨B12, 3, none⟩ = some (.int .u64 (s3 : Int)) := cell_of_row _ B12 3 _ _ (0, 0) H18.out
      have c4 : w18.cell? ⟨B12, 4, none⟩ = some (.int .u64 (s4 : Int)) := cell_of_row _ B12 4 _ _ (0, 0) H18.out
      have c5 : w18.cell? ⟨B12, 5, none⟩ = some (.bool cl) := cell_of_row _ B12 5 _ _ (0, 0) H18.out
      have c6 : w18.cell? ⟨B12, 6, none⟩ = some (.int .i64 im) := cell_of_row _ B12 6 _ _ (0, 0) H18.out
      have fz := frozen_of_row w18 B12 6 _ _ H18.out
      by_cases hr : 0 ≤ im ∧ im ≤ 2147483647
      · have e : im = (i : Int) := by
          rw [HI.out]
          unfold Blk.img
          rw [if_pos hr]
          exact (Int.toNat_of_nonneg hr.1).symm
        have g1 := hr.1
        have g2 := hr.2
        clear hr
        subst e
        go_wp2_with fail
        go_ret
        exact ⟨rfl, F18.out⟩
      · have e : i = 0 := by
          rw [HI.out]
          unfold Blk.img
          rw [if_neg hr]
        have FZ : Hid (Fr Nob w (w18.setCell ⟨B12, 6, none⟩ (.int .i64 0))) := Lib.hid (F18.out.trans ((Fr.refl (One B12) w18).set1 (o := 6) (.int .i64 0)) fun k hk h => by
          have h : k = B12 := h
          have := HB12.out
          omega)
        have heq0 := heq
        rw [e] at heq0
        subst e
        rcases (by omega : im < 0 ∨ 2147483647 < im) with g | g
        · clear hr
          go_wp2_with fail
          go_ret
          exact ⟨rfl, FZ.out⟩
        · have g0 : 0 ≤ im := by omega
          clear hr
          go_wp2_with fail
          go_ret
          exact ⟨rfl, FZ.out⟩

set_option maxRecDepth 100000 in
set_option maxHeartbeats 4000000 in
theorem superBytes_walk (z : Blk) (PA : Option Addr) (pn pc : Nat) (pl : List UInt8) (w : World) (hok : z.ok) (hpi : InB w PA pn pc pl) :
    Calls Try.prog 4 #[.agg (blkV z), .slice PA pn pc] w fun e w' => e = .returned (.bool true) ∧ Fr Nob w w' := by
  by_cases hn : pn ≤ 500
  · exact superBytes_main z hok PA pn pc pl w hpi hn
  · have e1 : (500 : Int) < (pn : Int) := by omega
    have f1 : Fr Nob w (w.alloc (.cells (blkV z) 29)) := (Fr.refl Nob w).alloc _
    have F1 := Lib.hid f1
    clear hok hpi hn f1
    obtain ⟨s0, s1, s2, s3, s4, cl, im, rfl⟩ := blk_cases z
    rw [blkV_mk] at *
    go_enter Try.func4, Try.ntmps4
    go_wp2_with fail
    refine (awake5_eq _).mono ?_
    rintro e w0 ⟨rfl, f0⟩
    have F0 := Lib.hid (F1.out.trans' f0)
    clear f0
    go_wp2_with fail
    go_ret
    exact ⟨rfl, F0.out⟩

end Go.Proofs.Ytpdljgjofebgpaa
