/-
  Law 3: FlashPicks, walked.
-/
import Derived.Test.YtpdljgjofebgpaaPicksP
import Derived.Deep.RegionHeld3
namespace Go.Proofs.Ytpdljgjofebgpaa
open Go.RowKit Go.ChangeShapes Go.WideShapes Go.Deep

theorem str_info : (Try.prog.info? 9).map (fun i => (i.zero.map Value.cells, i.size, i.bytes)) = some (some #[.string ⟨#[]⟩], 1, 16) := by kernel_rfl

set_option maxRecDepth 100000 in
set_option maxHeartbeats 8000000 in
theorem flashPicks_main (pages : Nat) (A : Option Addr) (n cap : Nat) (z : Nat → Int × Int × Option Addr × Nat × Nat) (l : Nat → List UInt8) (PA : Option Addr) (pn pc : Nat) (pl : List UInt8)
    (w : World) (hz : ActRow w A n z l) (hpi : InB w PA pn pc pl) (h1 : 1 ≤ pages) (h20 : pages ≤ 20) (hln : n ≤ 40) :
    Calls Try.prog 11 #[.int .i64 pages, .slice A n cap, .slice PA pn pc] w fun e w' => e = .returned (.bool true) ∧ Fr Nob w w' := by
  have PI := Lib.hid hpi
  have Z := Lib.hid hz
  have e1 : ¬ (pages : Int) < 1 := by omega
  have e2 : ¬ (20 : Int) < (pages : Int) := by omega
  have e6 : ¬ (40 : Int) < (n : Int) := by omega
  clear hpi hz
  go_enter Try.func11, Try.ntmps11
  go_wp2_with fail
  refine (awake3_eq w).mono ?_
  rintro e w0 ⟨rfl, f0⟩
  have F0 := Lib.hid f0
  clear f0
  go_wp2_with fail
  refine (DL.new (n := pages) F0.out (by omega) (by omega)).mono ?_
  rintro e w1 ⟨q, K, rfl, d, _, _⟩
  have D1 := Lib.hid d
  have NW := Lib.hid (refNew_eq (w := w1) (n := pages) (by omega) (by omega))
  clear d
  go_wp2_with fail
  refine NW.out.mono ?_
  rintro e w2 ⟨u, M, rfl, rf, f2, hM⟩
  have T2 : Hid (Two w w2 q K u M (Dv.new pages) (Dv.new pages)) := Lib.hid ⟨D1.out.more f2 fun k hk => .inr ⟨hM k hk, rf.lt k hk⟩, rf, fun k hk hkk => by
    have := D1.out.klt k hkk
    have := hM k hk
    omega, fun k hk => by
    have := D1.out.fr.size
    have := hM k hk
    omega⟩
  have L2 : Hid ((Dv.new pages).pg.length = pages) := Lib.hid (by unfold Dv.new; simp)
  clear rf f2 hM NW
  go_wp2_with fail
  go_loopw [10] (fun i wr => ∃ (k : Nat) (M' : Nat → Prop) (D E : Dv), k ≤ n ∧ i = .int .i64 k ∧ Hid (Two w wr q K u M' D E) ∧ Hid (D.pg.length = pages)) (fun i _ => n - (intOf i).toNat)
  case atStart => exact ⟨0, M, _, _, Nat.zero_le _, rfl, T2, L2⟩
  case round =>
    clear T2 L2
    obtain ⟨k, M', D, E, hk, rfl, T3, L3⟩ := hrel
    by_cases hlt : k < n
    · have hki : (k : Int) < (n : Int) := by omega
      obtain ⟨b, o, rfl, c0, c1, c2⟩ := Z.out.cell T3.out.dl.fr hlt
      obtain ⟨x1, x2, x3, x4⟩ := Z.out.el k hlt
      have BO := Lib.hid (both_eq T3.out (z k).1 (z k).2.1 x1 _ _ _ _ x2 x3 x4)
      have HL : Hid ((actD D (z k).1 (z k).2.1 (l k)).pg.length = pages) := Lib.hid (by rw [act_len]; exact L3.out)
      clear x1 x2 x3 x4
      generalize (z k).1 = v0 at *
      generalize (z k).2.1 = v1 at *
      generalize (z k).2.2.1 = v2 at *
      generalize (z k).2.2.2.1 = v3 at *
      generalize (z k).2.2.2.2 = v4 at *
      go_wp2_with fail
      refine BO.out.mono ?_
      rintro e w5 ⟨r5, M5, rfl, t5⟩
      have T5 := Lib.hid t5
      clear t5 BO c0 c1 c2
      go_wp2_with fail
      go_roundw
      case rel => exact ⟨k + 1, M5, _, _, by omega, by go_num, T5, HL⟩
      case measure => simp [intOf]; omega
    · have : k = n := by omega
      subst this
      have CP := Lib.hid T3.out.dl.copy
      go_wp2_with fail
      refine CP.out.mono ?_
      rintro e w5 ⟨q2, K2, rfl, d5, d5', f5, hK2⟩
      have T5 := Lib.hid (PK.mk (W := w) (w3 := w5) (w := w5) (vb := none) (d5'.less fun k hk => hk.elim .inr fun h => by cases h) (d5.less fun k hk => hk.elim .inr fun h => by cases h) (fun k hk h2 => by
        have := T3.out.dl.klt k hk
        have := hK2 k h2
        omega) (fun k hk => hk.elim (d5'.klt k) (d5.klt k)) (fun k hk => by cases hk) (Fr.refl _ _) d5.fr.size)
      have ON := Lib.hid T5.out.o.on
      clear d5 d5' f5 CP hK2
      go_wp2_with fail
      refine ON.out.mono ?_
      rintro e w6 ⟨rfl, d6, f6⟩
      have T6 := Lib.hid (T5.out.cp d6 f6)
      have WT := Lib.hid T6.out.d.waiting
      clear d6 f6 ON
      go_wp2_with fail
      refine WT.out.mono ?_
      rintro e w7 ⟨v7, rfl, o7, f7⟩
      have T7 := Lib.hid (T6.out.nob f7)
      have KB : Hid (∀ k, K k ∨ K2 k → k < w6.heap.size) := Lib.hid fun k hk => Nat.lt_of_lt_of_le (T5.out.kl k hk) T6.out.fr.size
      have O7 := Lib.hid o7
      obtain ⟨ws, hws⟩ : ∃ ws, ws = waits D.pg := ⟨_, rfl⟩
      have HWS := Lib.hid hws
      rw [← hws] at O7
      have T7 : Hid (PK w w7 w7 q K q2 K2 none D D.on) := Lib.hid ⟨T7.out.d, T7.out.o, T7.out.ap, fun k hk => Nat.lt_of_lt_of_le (KB.out k hk) f7.size, (fun k hk => by cases hk), Fr.refl _ _, T7.out.d.fr.size⟩
      have PW := Lib.hid T7.out.d.power
      have HWL : ws.length ≤ pages := by
        rw [hws, ← L3.out]
        unfold waits
        exact Nat.le_trans (List.length_filter_le _ _) (by simp)
      obtain ⟨a7, cap7, rfl⟩ : ∃ a1 cap1, v7 = .slice a1 ws.length cap1 := by
        rcases O7.out.2 with ⟨rfl, h0⟩ | ⟨g1, cap1, _, rfl, _⟩
        · exact ⟨none, 0, by rw [h0]⟩
        · exact ⟨_, cap1, rfl⟩
      clear o7 f7 WT T5 T6 T3 hws D1 F0
      go_wp2_with fail
      refine PW.out.mono ?_
      rintro e _ ⟨rfl, rfl⟩
      clear PW
      cases hoff : D.off with
      | true =>
        go_wp2_with fail
        go_ret
        exact ⟨rfl, T7.out.d.fr⟩
      | false =>
        have HOFF := Lib.hid hoff
        clear hoff
        go_wp2_with fail
        go_loopw [13, 14] (fun v i wq => ∃ (j : Nat) (D' : Dv), j ≤ ws.length ∧ i = .int .i64 j ∧ Hid (PK w w7 wq q K q2 K2 v.ownBlock D' D.on) ∧ Hid (wq.ownsRow w7.heap.size 9 1 v j (nowV D j)) ∧ Hid (D'.pg = D.pg) ∧ Hid (D'.off = false)) (fun _ i _ => ws.length - (intOf i).toNat)
        case atStart => exact ⟨0, D, Nat.zero_le _, rfl, T7, Lib.hid ⟨rfl, .inl ⟨rfl, rfl⟩⟩, Lib.hid rfl, HOFF⟩
        case round =>
          clear T7
          obtain ⟨j, D', hj, rfl, T8, O8, P8, Q8⟩ := hrel
          have OW := Lib.hid (T8.out.fr.ownsRow O7.out fun b hb h => by
            have h3 := (O7.out.lt b hb).1
            have := KB.out b h
            omega)
          by_cases hlt2 : j < ws.length
          · have hji : (j : Int) < (ws.length : Int) := by omega
            obtain ⟨i, hi⟩ : ∃ i, ws[j]? = some i := ⟨_, List.getElem?_eq_getElem hlt2⟩
            obtain ⟨g7, c7, he⟩ := row_some OW.out (by omega)
            simp only [Value.slice.injEq, true_and] at he
            obtain ⟨rfl, rfl⟩ := he
            have hcell := row_at OW.out (natsV_at hi)
            have him : i < D.pg.length := (waits_mem.1 (List.mem_of_getElem? (by rw [← HWS.out]; exact hi))).1
            obtain ⟨p, hp⟩ : ∃ p, p = D.now i := ⟨_, rfl⟩
            have HP := Lib.hid hp
            have RD := Lib.hid (T8.out.d.read_any (i := i) (by rw [P8.out]; exact him) Q8.out p (by rw [hp]; unfold Dv.now; rw [P8.out]))
            have hpl : (pgB p).length ≤ 384 := by
              rw [hp]
              have h := T8.out.d.pg_len (i := i) (by rw [P8.out]; exact him)
              unfold Dv.now at h ⊢
              rw [P8.out] at h
              exact h
            have HI := Lib.hid hi
            clear hi him hp
            rw [← pgU_eq] at RD
            go_wp2_with fail
            refine RD.out.mono ?_
            rintro e w9 ⟨v9, rfl, rc, d9, f9, hv9⟩
            have T9 := Lib.hid (T8.out.dev d9 f9)
            have O9 := Lib.hid (f9.ownsRow O8.out fun b hb h => by
              have h3 := (O8.out.lt b hb).1
              have := T8.out.kl b (.inl h)
              omega)
            have CV1 : (convert 34 9 v9).run Try.prog w9 = .ok (.string ⟨(pgB p).toArray⟩) w9 := rc.1.text _ _ _ Try.underlying34 Try.underlying5 Try.underlying9
            have hx256 : (pgU p).toNat < 256 := UInt8.toNat_lt _
            have fb := (Fr.refl Nob w9).alloc (.cells #[.int .u8 ((pgU p).toNat : Int)] 5)
            have h9 := heap_alloc_new w9 (.cells #[.int .u8 ((pgU p).toNat : Int)] 5)
            have CV2 : (convert 34 9 (.slice (some ⟨w9.heap.size, 0, none⟩) 1 1)).run Try.prog (w9.alloc (.cells #[.int .u8 ((pgU p).toNat : Int)] 5)) = .ok (.string ⟨[pgU p].toArray⟩) (w9.alloc (.cells #[.int .u8 ((pgU p).toNat : Int)] 5)) :=
              (RdB.of_block (l := [pgU p]) (cap := 1) h9).text _ _ _ Try.underlying34 Try.underlying5 Try.underlying9
            have FB := Lib.hid fb
            clear fb h9
            generalize hpu : (pgU p).toNat = x at *
            clear rc d9 f9 hv9 RD T8 O8
            obtain ⟨sv, hsv⟩ : ∃ sv : ByteArray, sv = ({ data := (pgB p).toArray } ++ { data := #[pgU p] } : ByteArray) := ⟨_, rfl⟩
            have esv : Value.string sv = tagV p := by
              rw [hsv]
              unfold tagV tagP strB
              congr 1
            subst hsv
            have hz9 : (w9.alloc (.cells #[.int .u8 (x : Int)] 5)).heap.size = w9.heap.size + 1 := by simp
            have fc := FB.out.alloc (.cells #[.string ({ data := (pgB p).toArray } ++ { data := #[pgU p] })] 9)
            have hc := heap_alloc_new (w9.alloc (.cells #[.int .u8 (x : Int)] 5)) (.cells #[.string ({ data := (pgB p).toArray } ++ { data := #[pgU p] })] 9)
            have O11 := Lib.hid (fc.ownsRow O9.out fun _ _ h => h)
            have T11 := Lib.hid (T9.out.nob fc)
            have NEWS : Hid (∀ (i : Nat) (v : Value), [Value.string ({ data := (pgB p).toArray } ++ { data := #[pgU p] })][i]? = some v → ((w9.alloc (.cells #[.int .u8 (x : Int)] 5)).alloc (.cells #[.string ({ data := (pgB p).toArray } ++ { data := #[pgU p] })] 9)).cell? ((⟨w9.heap.size + 1, 0, none⟩ : Addr).add i) = some v) := Lib.hid fun i v h => by
              rw [← hz9, Addr.add_lit, Nat.zero_add, cell_of_row _ _ i _ _ (0, 0) hc, ← Array.getElem?_toList]
              exact h
            have ONE : Hid (∀ v ∈ [Value.string ({ data := (pgB p).toArray } ++ { data := #[pgU p] })], v.oneCell' = true) := Lib.hid fun v hv => by
              simp only [List.mem_singleton] at hv
              subst hv
              rfl
            have hbase : w7.heap.size ≤ ((w9.alloc (.cells #[.int .u8 (x : Int)] 5)).alloc (.cells #[.string ({ data := (pgB p).toArray } ++ { data := #[pgU p] })] 9)).heap.size := T11.out.fr.size
            have HN1 : Hid (nowV D (j + 1) = nowV D j ++ [Value.string ({ data := (pgB p).toArray } ++ { data := #[pgU p] })]) := Lib.hid (by
              rw [esv, HP.out]
              exact nowV_succ (by rw [← HWS.out]; exact HI.out))
            have HNL : (nowV D j).length = j := nowV_len (by rw [← HWS.out]; omega)
            generalize nowV D j = nv at *
            clear hz9 fc hc T9 O9 FB esv
            go_wp2_with (with_reducible refine wpList_app (o := ⟨some 92, _, _, _, _, _⟩) rfl (.tmp 83) (.tmp 91) 64 rfl 9 #[.string ⟨#[]⟩] 1 16 Try.underlying64 str_info rfl (by omega) w7.heap.size u13 j nv rfl O11.out ⟨w9.heap.size + 1, 0, none⟩ 1 1 [Value.string ({ data := (pgB p).toArray } ++ { data := #[pgU p] })] rfl rfl NEWS.out ONE.out (by omega) (by omega) hbase ?_)
            intro v13 w13 o13 f13 hor
            have T13 : Hid (PK w w7 w13 q K q2 K2 v13.ownBlock D'.read D.on) := Lib.hid (T11.out.turn f13.out (hor.out.imp id fun h => ⟨_, h, by simp, (o13.out.lt _ h).2⟩))
            have O13 : Hid (w13.ownsRow w7.heap.size 9 1 v13 (j + 1) (nowV D (j + 1))) := Lib.hid (by
              rw [HN1.out]
              exact o13.out)
            have P13 : Hid (D'.read.pg = D.pg) := Lib.hid P8.out
            have Q13 : Hid (D'.read.off = false) := Lib.hid Q8.out
            clear o13 f13 hor NEWS ONE O11 T11 hbase HN1
            go_wp2_with fail
            go_roundw
            case rel => exact ⟨j + 1, D'.read, by omega, by go_num, T13, O13, P13, Q13⟩
            case measure => simp [intOf]; omega
          · have : j = ws.length := by omega
            subst this
            have CR := Lib.hid (T8.out.d.crash (PI.out.rd.nob T8.out.d.fr) (by have := PI.out.len; have := PI.out.le; have := PI.out.max; omega) (fun k hk h => by
              have := PI.out.old k hk
              have := T8.out.d.kle k h
              omega))
            go_wp2_with fail
            refine CR.out.mono ?_
            rintro e w9 ⟨rfl, d9, f9⟩
            have T9 := Lib.hid (T8.out.dev d9 f9)
            have O9 := Lib.hid (f9.ownsRow O8.out fun b hb h => by
              have h3 := (O8.out.lt b hb).1
              have := T8.out.kl b (.inl h)
              omega)
            have ON := Lib.hid d9.on
            clear d9 f9 CR T8 O8
            go_wp2_with fail
            refine ON.out.mono ?_
            rintro e w10 ⟨rfl, d10, f10⟩
            have T10 := Lib.hid (T9.out.dev d10 f10)
            have O10 := Lib.hid (f10.ownsRow O9.out fun b hb h => by
              have h3 := (O9.out.lt b hb).1
              have := T9.out.kl b (.inl h)
              omega)
            have P10 : Hid ((D'.crash pl).on.pg = settled D.pg pl) := Lib.hid (by
              show settled (settled D'.pg pl) [] = _
              rw [P8.out, settled_twice])
            have Q10 : Hid ((D'.crash pl).on.off = false) := Lib.hid rfl
            have PO : Hid (D.on.pg = settled D.pg []) := Lib.hid rfl
            have QO : Hid (D.on.off = false) := Lib.hid rfl
            generalize (D'.crash pl).on = E10 at *
            generalize D.on = O0 at *
            clear d10 f10 ON T9 O9 P8 Q8
            go_wp2_with fail
            go_loopw [17, 18] (fun kk i wq => ∃ (j : Nat) (E' O' : Dv), j ≤ pages ∧ i = .int .i64 j ∧ kk = .int .i64 (rank D.pg j : Nat) ∧ Hid (PK w w7 wq q K q2 K2 u13.ownBlock E' O') ∧ Hid (wq.ownsRow w7.heap.size 9 1 u13 ws.length (nowV D ws.length)) ∧ Hid (E'.pg = settled D.pg pl) ∧ Hid (E'.off = false) ∧ Hid (O'.pg = settled D.pg []) ∧ Hid (O'.off = false)) (fun _ i _ => pages - (intOf i).toNat)
            case atStart => exact ⟨0, E10, O0, Nat.zero_le _, rfl, by unfold rank; simp, T10, O10, P10, Q10, PO, QO⟩
            case round =>
              clear T10 O10 P10 Q10 PO QO
              obtain ⟨j, E', O', hj, rfl, rfl, T, O, PE, QE, PP, QO⟩ := hrel
              have OW := Lib.hid (T.out.fr.ownsRow O7.out fun b hb h => by
                have h3 := (O7.out.lt b hb).1
                have := KB.out b h
                omega)
              by_cases hlt3 : j < pages
              · have hjp : (j : Int) < (pages : Int) := by omega
                have hjD : j < D.pg.length := by rw [L3.out]; exact hlt3
                obtain ⟨c, hc⟩ : ∃ c, c = D.pg.getD j (.blank, none) := ⟨_, rfl⟩
                obtain ⟨r, hr⟩ : ∃ r, r = rank D.pg j := ⟨_, rfl⟩
                obtain ⟨pk, hpk⟩ : ∃ pk, pk = pick (fate pl r) c := ⟨_, rfl⟩
                obtain ⟨p0, hp0⟩ : ∃ p0, p0 = c.1 := ⟨_, rfl⟩
                have RD := Lib.hid (T.out.d.read_any (i := j) (by rw [PE.out, settled_len]; exact hjD) QE.out pk (by rw [now_settled PE.out hjD, ← hc, ← hr, hpk]))
                have N0 : Hid (O'.now j = p0) := Lib.hid (by rw [now_settled PP.out hjD, ← hc, fate_nil, pick_zero, hp0])
                have HC := Lib.hid hc
                have HR := Lib.hid hr
                have HPK := Lib.hid hpk
                have HP0 := Lib.hid hp0
                have HJD := Lib.hid hjD
                rw [← hr]
                clear hc hr hpk hp0 hjD
                go_wp2_with fail
                refine RD.out.mono ?_
                rintro e w12 ⟨v12, rfl, rc, d12, f12, hv12⟩
                have T12 := Lib.hid (T.out.dev d12 f12)
                have O12 := Lib.hid (f12.ownsRow O.out fun b hb h => by
                  have h3 := (O.out.lt b hb).1
                  have := T.out.kl b (.inl h)
                  omega)
                have RC := Lib.hid rc.1
                have V12 : Hid (∀ k, v12.ownBlock = some k → wr.heap.size ≤ k) := Lib.hid hv12
                have RE := Lib.hid (T12.out.o.read_any (i := j) (by rw [PP.out, settled_len]; exact HJD.out) QO.out p0 N0.out)
                clear rc d12 f12 hv12 RD
                go_wp2_with fail
                refine RE.out.mono ?_
                rintro e w14 ⟨v14, rfl, rc14, d14, f14, hv14⟩
                have T14 := Lib.hid (T12.out.cp d14 f14)
                have O14 := Lib.hid (f14.ownsRow O12.out fun b hb h => by
                  have h3 := (O12.out.lt b hb).1
                  have := T12.out.kl b (.inr h)
                  omega)
                have R14 : Hid (RdB w14 v12 (pgB pk)) := Lib.hid (RC.out.keep f14 fun k hk h => by
                  have := V12.out k hk
                  have := T.out.kl k (.inr h)
                  have := T.out.fr.size
                  omega)
                have S14 := Lib.hid rc14.1
                replace OW := Lib.hid (T14.out.fr.ownsRow O7.out fun b hb h => by
                  have h3 := (O7.out.lt b hb).1
                  have := KB.out b h
                  omega)
                clear rc14 d14 f14 hv14 RE RC V12 T12 O12 T O N0
                go_upto_region 33 with fail
                obtain ⟨f, hf⟩ : ∃ f, f = (if c.2.isSome = true then fate pl r else 0) := ⟨_, rfl⟩
                have HF := Lib.hid hf
                clear hf
                obtain ⟨r', hr'⟩ : ∃ r', r' = rank D.pg (j + 1) := ⟨_, rfl⟩
                have HR' := Lib.hid hr'
                have hrs : r' = r + (if c.2.isSome = true then 1 else 0) := by
                  rw [hr', rank_succ HJD.out, ← HC.out, ← HR.out]
                clear hr'
                have HRS := Lib.hid hrs
                have hrj : r ≤ 20 := by
                  have h1 := rank_mono (l := D.pg) (i := j) (j := D.pg.length) (Nat.le_of_lt HJD.out)
                  rw [← waits_len, ← HWS.out, ← HR.out] at h1
                  omega
                clear hrs
                have HW : Hid (c.2.isSome = true → ws[r]? = some j) := Lib.hid fun hs => by
                  rw [HWS.out, HR.out]
                  exact waits_of HJD.out (by rw [← HC.out]; exact hs)
                go_cut [126] (fun t W => t = .bool c.2.isSome ∧ W = w14)
                case first =>
                  cases hs : c.2.isSome with
                  | true =>
                    have hw := HW.out hs
                    have hrl := (List.getElem?_eq_some_iff.1 hw).1
                    have hrli : (r : Int) < (ws.length : Int) := by omega
                    obtain ⟨g7, c7, he⟩ := row_some OW.out (by omega)
                    simp only [Value.slice.injEq, true_and] at he
                    obtain ⟨rfl, rfl⟩ := he
                    have hcell := row_at OW.out (natsV_at hw)
                    have HS := Lib.hid hs
                    clear hw hs
                    go_wp2_with fail
                    go_meet
                    exact ⟨by rw [HS.out], rfl⟩
                  | false =>
                    by_cases hrl : r < ws.length
                    · have hrli : (r : Int) < (ws.length : Int) := by omega
                      obtain ⟨i, hi⟩ : ∃ i, ws[r]? = some i := ⟨_, List.getElem?_eq_getElem hrl⟩
                      obtain ⟨g7, c7, he⟩ := row_some OW.out (by omega)
                      simp only [Value.slice.injEq, true_and] at he
                      obtain ⟨rfl, rfl⟩ := he
                      have hcell := row_at OW.out (natsV_at hi)
                      have hne : ¬ i = j := fun e => by
                        have h := (waits_mem.1 (List.mem_of_getElem? (by rw [← HWS.out]; exact hi))).2
                        rw [e, ← HC.out, hs] at h
                        cases h
                      have hnei : ¬ (i : Int) = (j : Int) := by omega
                      have HS := Lib.hid hs
                      clear hi hs
                      go_wp2_with fail
                      go_meet
                      exact ⟨by rw [HS.out]; simp [hnei], rfl⟩
                    · have hrli : ¬ (r : Int) < (ws.length : Int) := by omega
                      have HS := Lib.hid hs
                      clear hs
                      go_wp2_with fail
                      go_meet
                      exact ⟨by rw [HS.out], rfl⟩
                case rest =>
                  obtain ⟨rfl, rfl⟩ := hcut
                  go_upto_if 126 with fail
                  go_cut [17, 23] (fun kk s W => kk = .int .i64 (r' : Int) ∧ s = .int .i64 (f : Int) ∧ W = wc)
                  case first =>
                    cases hs : c.2.isSome with
                    | true =>
                      have e1 : r' = r + 1 := by rw [HRS.out, hs]; rfl
                      have e2 : f = fate pl r := by rw [HF.out, hs]; rfl
                      have E2 := Lib.hid e2
                      subst e1
                      clear hs e2
                      by_cases hkp : r < pn
                      · have hkpi : (r : Int) < (pn : Int) := by omega
                        have hf2 : f = (pl.getD r 0).toNat % 3 := by
                          rw [E2.out]
                          unfold fate
                          rw [if_pos (by rw [PI.out.len]; exact hkp)]
                        obtain ⟨a', c', he, hc⟩ := PI.out.rd.nob T14.out.d.fr
                        simp only [Value.slice.injEq] at he
                        obtain ⟨rfl, _, rfl⟩ := he
                        obtain ⟨gp, op, rfl, hcl⟩ := hc (by rw [PI.out.len]; omega)
                        have hx := hcl r (by rw [PI.out.len]; exact hkp)
                        have hx256 : (pl.getD r 0).toNat < 256 := UInt8.toNat_lt _
                        generalize (pl.getD r 0).toNat = x at hx hf2 hx256
                        have HF2 := Lib.hid hf2
                        clear hcl hc hf2 hkp
                        go_wp2_with fail
                        go_meet
                        refine ⟨?_, ?_, rfl⟩
                        · go_num
                        · rw [HF2.out]
                          go_num
                      · have hkpi : ¬ (r : Int) < (pn : Int) := by omega
                        have hf2 : f = 0 := by
                          rw [E2.out]
                          unfold fate
                          rw [if_neg (by rw [PI.out.len]; exact hkp)]
                        subst hf2
                        clear hkp
                        go_wp2_with fail
                        go_meet
                        exact ⟨by go_num, rfl, rfl⟩
                    | false =>
                      have e1 : r' = r := by rw [HRS.out, hs]; rfl
                      have e2 : f = 0 := by rw [HF.out, hs]; rfl
                      subst e1 e2
                      clear hs
                      go_wp2_with fail
                      go_meet
                      exact ⟨rfl, rfl, rfl⟩
                  case rest =>
                    obtain ⟨rfl, rfl, rfl⟩ := hcut
                    have TX := Lib.hid T14.out
                    have hf3 : f < 3 := by
                      rw [HF.out]
                      split
                      · exact fate_lt _ _
                      · omega
                    rcases (by omega : f = 0 ∨ f = 1 ∨ f = 2) with rfl | rfl | rfl
                    · have e : pk = p0 := by
                        have h := HF.out
                        rw [HPK.out, HP0.out]
                        cases hs : c.2 with
                        | none => unfold pick; rw [hs]
                        | some p =>
                          rw [hs] at h
                          rw [← show 0 = fate pl r from h, pick_zero]
                      subst e
                      have CV1 : (convert 34 9 v12).run Try.prog wc = .ok (.string ⟨(pgB pk).toArray⟩) wc := R14.out.text _ _ _ Try.underlying34 Try.underlying5 Try.underlying9
                      have CV2 : (convert 34 9 v14).run Try.prog wc = .ok (.string ⟨(pgB pk).toArray⟩) wc := S14.out.text _ _ _ Try.underlying34 Try.underlying5 Try.underlying9
                      clear hf3
                      go_wp2_with fail
                      go_roundw
                      case rel => exact ⟨j + 1, _, _, by omega, by go_num, by rw [HR'.out], T14, O14, PE, QE, PP, QO⟩
                      case measure => simp [intOf]; omega
                    · have h1 := HF.out
                      have hs : c.2.isSome = true := by
                        cases hs : c.2.isSome with
                        | true => rfl
                        | false => rw [hs] at h1; cases h1
                      rw [hs] at h1
                      have e1 : r' = r + 1 := by rw [HRS.out, hs]; rfl
                      have hw := HW.out hs
                      have hnow : D.now j = pk := by
                        obtain ⟨p, hp⟩ := Option.isSome_iff_exists.1 hs
                        rw [HPK.out, ← show 1 = fate pl r from h1]
                        unfold Dv.now Pc.now pick
                        rw [← HC.out, hp]
                        rfl
                      have hpl : (pgB pk).length ≤ 384 := by
                        have h := T14.out.d.pg_len (i := j) (by show j < E'.pg.length; rw [PE.out, settled_len]; exact HJD.out)
                        rw [show E'.read.now j = E'.now j from rfl, now_settled PE.out HJD.out, ← HC.out, ← HR.out, ← HPK.out] at h
                        exact h
                      have hrl := (List.getElem?_eq_some_iff.1 hw).1
                      obtain ⟨gv, cv, rfl⟩ := row_some O14.out (by omega)
                      have hrv : r < (nowV D ws.length).length := by rw [nowV_len (by rw [← HWS.out]; omega)]; exact hrl
                      have hcell := row_at O14.out (nowV_at (D := D) (n := ws.length) (by rw [← HWS.out]; exact hw) hrl)
                      have esv : tagV (D.now j) = Value.string ({ data := (pgB pk).toArray } ++ { data := #[pgU pk] } : ByteArray) := by
                        rw [hnow]
                        unfold tagV tagP strB
                        congr 1
                      rw [esv] at hcell
                      have hx256 : (pgU pk).toNat < 256 := UInt8.toNat_lt _
                      have fb := (Fr.refl Nob wc).alloc (.cells #[.int .u8 ((pgU pk).toNat : Int)] 5)
                      have h9 := heap_alloc_new wc (.cells #[.int .u8 ((pgU pk).toNat : Int)] 5)
                      have CV1 : (convert 34 9 v12).run Try.prog wc.drew = .ok (.string ⟨(pgB pk).toArray⟩) wc.drew := (R14.out.nob (Fr.refl Nob wc).drew).text _ _ _ Try.underlying34 Try.underlying5 Try.underlying9
                      have CV2 : (convert 34 9 v12).run Try.prog (wc.alloc (.cells #[.int .u8 ((pgU pk).toNat : Int)] 5)).drew = .ok (.string ⟨(pgB pk).toArray⟩) (wc.alloc (.cells #[.int .u8 ((pgU pk).toNat : Int)] 5)).drew := (R14.out.nob fb.drew).text _ _ _ Try.underlying34 Try.underlying5 Try.underlying9
                      have CV3 : (convert 34 9 (.slice (some ⟨wc.heap.size, 0, none⟩) 1 1)).run Try.prog (wc.alloc (.cells #[.int .u8 ((pgU pk).toNat : Int)] 5)).drew = .ok (.string ⟨[pgU pk].toArray⟩) (wc.alloc (.cells #[.int .u8 ((pgU pk).toNat : Int)] 5)).drew :=
                        ((RdB.of_block (l := [pgU pk]) (cap := 1) h9).nob (Fr.refl Nob _).drew).text _ _ _ Try.underlying34 Try.underlying5 Try.underlying9
                      have hcell2 := fb.cell hcell fun h => h
                      have FB := Lib.hid fb
                      rw [← pgU_eq]
                      subst e1
                      have hri : (r : Int) < (ws.length : Int) := by omega
                      clear h1 hs hw hnow hrv esv fb h9 hf3
                      generalize hpu : (pgU pk).toNat = x at *
                      go_wp2_with fail
                      go_region
                      have T16 := Lib.hid (T14.out.nob FB.out.drew)
                      have O16 := Lib.hid (FB.out.drew.ownsRow O14.out fun _ _ h => h)
                      clear CV1 CV2 CV3 hcell2 hcell FB T14 O14
                      go_wp2_with fail
                      go_roundw
                      case rel => exact ⟨j + 1, _, _, by omega, by go_num, by rw [HR'.out], T16, O16, PE, QE, PP, QO⟩
                      case measure => simp [intOf]; omega
                    · have e : pk = .torn := by
                        have h := HF.out
                        rw [HPK.out]
                        cases hs : c.2 with
                        | none => rw [hs] at h; cases h
                        | some p =>
                          rw [hs] at h
                          rw [← show 2 = fate pl r from h]
                          unfold pick
                          rw [hs]
                          rfl
                      subst e
                      clear hf3
                      go_wp2_with fail
                      go_roundw
                      case rel => exact ⟨j + 1, _, _, by omega, by go_num, by rw [HR'.out], T14, O14, PE, QE, PP, QO⟩
                      case measure => simp [intOf]; omega
              · have : j = pages := by omega
                subst this
                have WT := Lib.hid T.out.d.waiting
                rw [PE.out, waits_none] at WT
                go_wp2_with fail
                refine WT.out.mono ?_
                rintro e w12 ⟨v, rfl, o12, f12⟩
                obtain ⟨a12, c12, rfl⟩ : ∃ a1 cap1, v = .slice a1 0 cap1 := by
                  rcases o12.2 with ⟨rfl, h0⟩ | ⟨g1, cap1, _, rfl, _⟩
                  · exact ⟨none, 0, rfl⟩
                  · exact ⟨_, cap1, rfl⟩
                have F12 := Lib.hid (T.out.d.fr.trans' f12)
                clear o12 f12 WT
                go_wp2_with fail
                go_ret
                exact ⟨rfl, F12.out⟩

set_option maxRecDepth 100000 in
set_option maxHeartbeats 4000000 in
theorem flashPicks_walk (p : Int) (A : Option Addr) (n cap : Nat) (zl : (Nat → Int × Int × Option Addr × Nat × Nat) × (Nat → List UInt8)) (PA : Option Addr) (pn pc : Nat) (pl : List UInt8)
    (w : World) (_ : (Lit.int .i64 p).wf = true) (hz : ActRow w A n zl.1 zl.2) (hpi : InB w PA pn pc pl) :
    Calls Try.prog 11 #[.int .i64 p, .slice A n cap, .slice PA pn pc] w fun e w' => e = .returned (.bool true) ∧ Fr Nob w w' := by
  by_cases h : (1 ≤ p ∧ p ≤ 20) ∧ n ≤ 40
  · obtain ⟨k, rfl⟩ := Int.eq_ofNat_of_zero_le (a := p) (by omega)
    exact flashPicks_main k A n cap zl.1 zl.2 PA pn pc pl w hz hpi (by omega) (by omega) (by omega)
  · have hg : (decide (p < 1) || decide (20 < p) || decide ((40 : Int) < (n : Int))) = true := by
      simp only [Bool.or_eq_true, decide_eq_true_eq]
      omega
    clear h hpi hz
    go_enter Try.func11, Try.ntmps11
    go_wp2_with fail
    refine (awake3_eq w).mono ?_
    rintro e w0 ⟨rfl, f0⟩
    have F0 := Lib.hid f0
    clear f0
    go_wp2_with fail
    all_goals
      go_ret
      exact ⟨rfl, F0.out⟩

end Go.Proofs.Ytpdljgjofebgpaa
