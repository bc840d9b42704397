/- Part 5 of the proof of RuleStandard: contracts of the functions that the law reaches (walked over the translation), and plain lemmas; no condition of its own beyond those that each theorem states. -/
import Derived.Deep.RegionLaw
import Derived.Shelf.GgClosure.Gives
import Derived.Shelf.RegionOpenPlain
import Derived.Test.YtblcgcibkikgeaaGreatDoorCStd4
section
namespace Go.Proofs.YtblcgcibkikgeaaGreatDoor.G
open Go Go.RowKit Go.Shelf Go.Proofs.YtblcgcibkikgeaaGreatDoorW.PrintWords Go.Proofs.YtblcgcibkikgeaaGreatDoorW.PrintLast Go.Proofs.YtblcgcibkikgeaaGreatDoorW.PrintMore Go.Proofs.YtblcgcibkikgeaaGreatDoor.K Go.Proofs.YtblcgcibkikgeaaGreatDoor.G1 Go.Proofs.YtblcgcibkikgeaaGreatDoor.RF Go.Proofs.YtblcgcibkikgeaaGreatDoor.P
set_option linter.unusedVariables false
attribute [local go_sem] Oper.semAt_some
theorem parts_calls (s : ByteArray) (w : World) :
    Calls Tryz.prog 126 #[.string s] w fun e w' => e = .returned (.func (.func 177) #[] #[.pointer (some ⟨w.heap.size, 0, none⟩)]) ∧ w' = w.alloc (.cells #[.string s] 9) := by
  go_enter Tryz.func126, Tryz.ntmps126
  go_wp2
  go_ret
  exact ⟨rfl, rfl⟩
def expression_Parse.f (a0 : ByteArray) : Option (List Co × Int) := some (parseE a0)
def ParseEnd (r1 : List Co) (r2 : Int) (w : World) (e : Ending) (w' : World) : Prop :=
  ∃ v0_ : Value, e = .returned (.tuple #[v0_, .int .i64 r2]) ∧ Kd.R k113 113 w' w.heap.size (fun _ => True) v0_ r1 ∧ Below w.heap.size w w'
def tC (p : Bool × ByteArray) : Option Co := termC (p.1, nm p.2)
def ParseI (w : World) (B : Nat) (pre : List (Bool × ByteArray)) (W : World) : Prop :=
  (Boxed W w.heap.size 51 (.slice none 0 0) ∧ Boxed W (w.heap.size + 1) 27 (.int .i64 0)) ∧
  (∃ v l, Boxed W (w.heap.size + 2) 51 v ∧ Kd.R k113 113 W B (fun _ => True) v l ∧ pre.mapM tC = some l) ∧ Below w.heap.size w W
def ParseX (w : World) (s : ByteArray) (c : Code) (W : World) : Prop :=
  (c = .ret ∧ (partsV s).mapM tC = none) ∧ (Boxed W w.heap.size 51 (.slice none 0 0) ∧ Boxed W (w.heap.size + 1) 27 (.int .i64 3)) ∧ Below w.heap.size w W
theorem partsV_mapM (s : ByteArray) : (partsV s).mapM tC = (partsL (nm s)).mapM termC := by
  unfold partsV
  rw [List.mapM_map]
  have : (fun p : Bool × Nm => tC (p.1, bs p.2)) = termC := by
    funext p
    show termC (p.1, nm (bs p.2)) = _
    rw [nm_bs]
  exact congrArg (fun f => (partsL (nm s)).mapM f) this
set_option maxHeartbeats 2000000 in
set_option maxRecDepth 100000 in
theorem Parse_end (a0 : ByteArray) (r1 : List Co) (r2 : Int) (w : World) (hL : Laid w) (h : parseE a0 = (r1, r2)) :
    Calls Tryz.prog 80 #[.string a0] w (ParseEnd r1 r2 w) := by
  have HL := Aside0.mk hL
  have HV := Aside0.mk h
  clear hL h
  refine (callsIn_wide (n := 4)).1 ?_
  refine callsIn_of_wp_marks Tryz.func80 rfl trivial ?_ rfl
  simp only [Tryz.ntmps80, List.size_toArray, List.length_cons, List.length_nil, Nat.reduceAdd, Nat.reduceSub, Array.replicate_succ, Array.replicate_zero, List.push_toArray, List.append_toArray, List.nil_append, List.cons_append]
  have e1 : w.heap.size + 1 + 1 = w.heap.size + 2 := rfl
  by_cases hbig : a0.size > 65536
  · have hd : decide ((65536 : Int) < (a0.size : Int)) = true := decide_eq_true (by omega)
    have hr : r1 = [] ∧ r2 = 4 := by
      have := HV.out
      unfold parseE at this
      rw [if_pos hbig] at this
      cases this
      exact ⟨rfl, rfl⟩
    obtain ⟨rfl, rfl⟩ := hr
    clear hbig
    gi_wp2
    have y0 : Boxed ((w.alloc (.cells #[.slice none 0 0] 51)).alloc (.cells #[.int .i64 4] 27)) w.heap.size 51 (.slice none 0 0) := (Boxed.new w _ _).alloc _
    have y1 : Boxed ((w.alloc (.cells #[.slice none 0 0] 51)).alloc (.cells #[.int .i64 4] 27)) (w.heap.size + 1) 27 (.int .i64 4) := by
      have h := Boxed.new (w.alloc (.cells #[.slice none 0 0] 51)) 27 (.int .i64 4)
      rwa [World.size_alloc] at h
    have z0 := y0.cell
    have z1 := y1.cell
    refine ⟨.tuple #[.slice none 0 0, .int .i64 4], ?_, ⟨_, rfl, Kd.R_nil _ _ _ _ _, ((Below.refl _ _).alloc (Nat.le_refl _) _).alloc (by simp) _⟩⟩
    simp [results, Tryz.results80, go_sem, z0, z1]
  · have hd : decide ((65536 : Int) < (a0.size : Int)) = false := decide_eq_false (by omega)
    by_cases hzero : a0 = ⟨#[48]⟩
    · have hr : r1 = [] ∧ r2 = 0 := by
        have := HV.out
        unfold parseE at this
        rw [if_neg hbig, if_pos hzero] at this
        cases this
        exact ⟨rfl, rfl⟩
      obtain ⟨rfl, rfl⟩ := hr
      subst hzero
      clear hbig
      gi_wp2
      have y0 : Boxed ((w.alloc (.cells #[.slice none 0 0] 51)).alloc (.cells #[.int .i64 0] 27)) w.heap.size 51 (.slice none 0 0) := (Boxed.new w _ _).alloc _
      have y1 : Boxed ((w.alloc (.cells #[.slice none 0 0] 51)).alloc (.cells #[.int .i64 0] 27)) (w.heap.size + 1) 27 (.int .i64 0) := by
        have h := Boxed.new (w.alloc (.cells #[.slice none 0 0] 51)) 27 (.int .i64 0)
        rwa [World.size_alloc] at h
      have z0 := y0.cell
      have z1 := y1.cell
      refine ⟨.tuple #[.slice none 0 0, .int .i64 0], ?_, ⟨_, rfl, Kd.R_nil _ _ _ _ _, ((Below.refl _ _).alloc (Nat.le_refl _) _).alloc (by simp) _⟩⟩
      simp [results, Tryz.results80, go_sem, z0, z1]
    · have hz1 : (a0.toList == [48]) = false := beqL' hzero rfl
      have HV2 : Aside0 ((match (partsV a0).mapM tC with
        | none => ([], 3)
        | some l => if l.length > 16 then ([], 4) else (nf l, 0)) = (r1, r2)) := ⟨by
        have := HV.out
        unfold parseE at this
        rw [if_neg hbig, if_neg hzero] at this
        rw [partsV_mapM]
        exact this⟩
      have hsz0 : a0.size ≤ 65536 := by omega
      clear hzero hbig
      gi_wp2_with ((with_reducible refine And.intro ?_ ?_); (· exact trivial); gi_at_call 126; refine (callsIn_wide.2 (parts_calls _ _)).mono ?_; rintro e w1 ⟨rfl, rfl⟩)
      obtain ⟨W5, hW5⟩ : ∃ W5, (((w.alloc (.cells #[.slice none 0 0] 51)).alloc (.cells #[.int .i64 0] 27)).alloc (.cells #[.slice none 0 0] 51)).alloc (.cells #[.string a0] 9) = W5 := ⟨_, rfl⟩
      have e2 : w.heap.size + 1 + 1 = w.heap.size + 2 := rfl
      have e3 : w.heap.size + 1 + 1 + 1 = w.heap.size + 3 := rfl
      rw [hW5, e3, e2]
      have hsz5 : W5.heap.size = w.heap.size + 4 := by rw [← hW5]; simp
      have hb5 : Below w.heap.size w W5 := by rw [← hW5]; exact ((((Below.refl _ _).alloc (Nat.le_refl _) _).alloc (by simp) _).alloc (by simp; omega) _).alloc (by simp; omega) _
      have k0 : Boxed W5 w.heap.size 51 (.slice none 0 0) := by rw [← hW5]; exact (((Boxed.new w _ _).alloc _).alloc _).alloc _
      have k1 : Boxed W5 (w.heap.size + 1) 27 (.int .i64 0) := by
        have h := Boxed.new (w.alloc (.cells #[.slice none 0 0] 51)) 27 (.int .i64 0)
        rw [World.size_alloc] at h
        rw [← hW5]; exact (h.alloc _).alloc _
      have k2 : Boxed W5 (w.heap.size + 2) 51 (.slice none 0 0) := by
        have h := Boxed.new ((w.alloc (.cells #[.slice none 0 0] 51)).alloc (.cells #[.int .i64 0] 27)) 51 (.slice none 0 0)
        rw [World.size_alloc, World.size_alloc] at h
        rw [← hW5]; exact h.alloc _
      have kb : Boxed W5 (w.heap.size + 3) 9 (.string a0) := by
        have h := Boxed.new (((w.alloc (.cells #[.slice none 0 0] 51)).alloc (.cells #[.int .i64 0] 27)).alloc (.cells #[.slice none 0 0] 51)) 9 (.string a0)
        rw [World.size_alloc, World.size_alloc, World.size_alloc] at h
        rw [← hW5]; exact h
      clear hW5 e1 e2 e3
      have hseq := parts_gives (w.heap.size + 3) a0 w W5 (by omega) HL.out hb5 (by omega) kb
      refine range_gives rfl (by omega) (gf := 177) (lb := #[.pointer (some ⟨w.heap.size + 3, 0, none⟩)]) rfl trivial (enters_of Tryz.func177 (by kernel_rfl) rfl) hseq (by omega) (Below.refl _ _) (fun _ => rfl) (by omega)
        (ParseI w (w.heap.size + 4)) (ParseX w a0)
        (((abide_boxed _ (by omega)).and (abide_boxed _ (by omega))).and ((abide_R _ _ _ _ _ (fun pre l => List.mapM tC pre = some l) (by omega) (by omega)).and (abide_below (by omega) (by omega))))
        (fun c => (abide_pure _).and (((abide_boxed _ (by omega)).and (abide_boxed _ (by omega))).and (abide_below (by omega) (by omega))))
        ⟨⟨k0, k1⟩, ⟨_, [], k2, Kd.R_nil _ _ _ _ _, rfl⟩, hb5⟩
        (fun x => { tmps := #[.string a0, undef, .pointer (some ⟨w.heap.size, 0, none⟩), .pointer (some ⟨w.heap.size + 1, 0, none⟩), .pointer (some ⟨w.heap.size + 2, 0, none⟩), .bool x.1, .string x.2, undef, undef, .string a0, .int .i64 (a0.size : Int), .bool false, .string a0, .bool false, .string a0, .func (.func 177) #[] #[.pointer (some ⟨w.heap.size + 3, 0, none⟩)], .bool x.1, .string x.2, undef, undef, undef, undef, undef, undef, undef, undef, undef, undef, undef, undef, undef, undef, undef, undef, undef, undef, undef, undef, undef], defers := [] }) ?assign ?body ?done ?stop
      case assign =>
        intro l x W K hK
        gi_wp2
        exact hK
      case body =>
        rintro l pre rest ⟨neg, t⟩ W hlw hx ⟨⟨h0, h1⟩, ⟨v, cl, h2, hR, hm⟩, hB⟩
        have hxl : (nm t).length ≤ a0.size := by
          have hmem : (neg, t) ∈ partsV a0 := by rw [hx]; simp
          unfold partsV at hmem
          obtain ⟨p, hp, e⟩ := List.mem_map.1 hmem
          cases e
          rw [nm_bs]
          have := (partsL_facts (nm a0)).2 p hp
          have h3 : (nm a0).length = a0.size := by unfold nm; rw [Array.length_toList]; rfl
          omega
        have hpt := parseTerm_f (nm t) (by omega)
        rw [bs_nm] at hpt
        have hcl : cl.length ≤ 200000 := by
          have h3 := (mapM_mem hm).1
          have h4 : pre.length ≤ (partsV a0).length := by rw [hx]; simp
          have h5 : (partsV a0).length = (partsL (nm a0)).length := by unfold partsV; simp
          have h6 := (partsL_facts (nm a0)).1
          have h7 : (nm a0).length = a0.size := by unfold nm; rw [Array.length_toList]; rfl
          omega
        have htc : tC (neg, t) = if (termV (nm t)).2.2 then some ⟨(termV (nm t)).1, if neg then it (-(iv (termV (nm t)).2.1)) else (termV (nm t)).2.1⟩ else none := rfl
        have hfs : (termV (nm t)).2.2 = true → (termV (nm t)).2.1.size ≤ 65540 := by
          intro e
          have := termC_size (p := (false, nm t)) (c := ⟨(termV (nm t)).1, (termV (nm t)).2.1⟩) (by unfold termC; simp [e]) (by show (nm t).length ≤ _; omega)
          exact this.1
        generalize termV (nm t) = tv at hpt htc hfs
        obtain ⟨tn, tf, tok⟩ := tv
        have hcall := fun W (hl : Laid W) => X.expression_parseTerm.calls 1 t tn tf tok W hl hpt
        have hmapn : tok = false → List.mapM tC (partsV a0) = none := fun e => by
          rw [hx]
          exact mapM_none (by rw [htc, e]; rfl) _ _
        have hmaps : tok = true → List.mapM tC (pre ++ [(neg, t)]) = some (cl ++ [⟨tn, if neg then it (-(iv tf)) else tf⟩]) := fun e => by
          rw [mapM_snoc, hm, Option.bind_some, htc, e]; rfl
        have HCALL := Aside0.mk hcall
        have HMN := Aside0.mk hmapn
        have HMS := Aside0.mk hmaps
        have HFS := Aside0.mk hfs
        have H0 := Aside0.mk h0
        have H1 := Aside0.mk h1
        have H2 := Aside0.mk h2
        have HR := Aside0.mk hR
        have HB := Aside0.mk hB
        have HLW := Aside0.mk (HL.out.below hB)
        have c0 := h0.cell
        have c1 := h1.cell
        have c2 := h2.cell
        have f0 := h0.frozen
        have f1 := h1.frozen
        have f2 := h2.frozen
        clear hx hm hpt htc hfs hcall hmapn hmaps h0 h1 h2 hR hB
        gi_upto_region 10 with ((with_reducible refine And.intro ?_ ?_); (· exact trivial); gi_at_call 127; refine (CallsIn.inRound l (callsIn_wide.2 (HCALL.out W HLW.out))).mono ?_; rintro e w1 ⟨rfl, hb1⟩; have HB1 := Aside0.mk hb1; clear hb1)
        obtain ⟨Wc, hWc⟩ : ∃ Wc, w1.alloc (.cells #[.string tn, .string tf] 113) = Wc := ⟨_, rfl⟩
        rw [hWc]
        obtain ⟨g, hg⟩ : ∃ g, w1.heap.size = g := ⟨_, rfl⟩
        have hWg : W.heap.size ≤ g := by rw [← hg]; exact HB1.out.size
        have K0 : Aside0 (Boxed Wc w.heap.size 51 (.slice none 0 0)) := ⟨by rw [← hWc]; exact Boxed.alloc ((HB1.out.block _ H0.out.lt).trans H0.out) _⟩
        have K1 : Aside0 (Boxed Wc (w.heap.size + 1) 27 (.int .i64 0)) := ⟨by rw [← hWc]; exact Boxed.alloc ((HB1.out.block _ H1.out.lt).trans H1.out) _⟩
        have K2 : Aside0 (Boxed Wc (w.heap.size + 2) 51 v) := ⟨by rw [← hWc]; exact Boxed.alloc ((HB1.out.block _ H2.out.lt).trans H2.out) _⟩
        have KC : Aside0 (Wc.heap[g]? = some (.cells #[.string tn, .string tf] 113 (0, 0))) := ⟨by rw [← hWc, ← hg]; exact World.alloc_heap_new _ _⟩
        have KB : Aside0 (Below W.heap.size W Wc) := ⟨by rw [← hWc]; exact HB1.out.alloc HB1.out.size _⟩
        have hWc1 : g < Wc.heap.size := (Array.getElem?_eq_some_iff.1 KC.out).1
        have HBc : Aside0 (Below w.heap.size w Wc) := ⟨HB.out.trans (KB.out.mono HB.out.size)⟩
        have KO : Aside0 (KeepsOthers W Wc) := ⟨KeepsOthers.of_grownBy (row := none) ⟨KB.out.os, KB.out.tape, KB.out.output, KB.out.size, fun k hk _ => KB.out.block k hk⟩ (by simp)⟩
        have KN : Aside0 (Wc.heap[w.heap.size + 3]? = W.heap[w.heap.size + 3]?) := ⟨KB.out.block _ (by omega)⟩
        have KW : Aside0 (Below w.heap.size W Wc) := ⟨KB.out.mono HB.out.size⟩
        have HRX : Aside0 (Kd.R k113 113 Wc (w.heap.size + 4) (fun _ => True) v cl) := ⟨Kd.R_below HR.out KB.out⟩
        have HRB : Aside0 (Kd.R k113 113 Wc (w.heap.size + 4) (fun k => k < W.heap.size) v cl) := ⟨Kd.R_below (Kd.R_mono (Kd.R_bound HR.out) (fun k hk => hk.2.2.1)) KB.out⟩
        have c0 := K0.out.cell
        have c1 := K1.out.cell
        have c2 := K2.out.cell
        have f0 := K0.out.frozen
        have f1 := K1.out.frozen
        have f2 := K2.out.frozen
        have cc0 : Wc.cell? ⟨g, 0, none⟩ = some (.string tn) := by simp [World.cell?, KC.out]
        have cc1 : Wc.cell? ⟨g, 1, none⟩ = some (.string tf) := by simp [World.cell?, KC.out]
        have ff1 : Wc.frozen? ⟨g, 1, none⟩ = false := by simp [World.frozen?, KC.out]
        rw [hg]
        clear hWc hg HB1 H0 H1 H2 HR w1
        cases tok with
        | false =>
          have HMN2 := Aside0.mk (HMN.out rfl)
          gi_wp2
          refine ⟨KO.out.trans ((KeepsOthers.setCell _ _ _).trans (KeepsOthers.setCell _ _ _)), ⟨rfl, HMN2.out⟩, ⟨(K0.out.set _).other (by omega) _, (K1.out.other (by omega) _).set _⟩, (HBc.out.setCell (p := ⟨w.heap.size, 0, none⟩) (by simp) _).setCell (p := ⟨w.heap.size + 1, 0, none⟩) (by simp) _⟩
        | true =>
          have HFS2 := Aside0.mk (HFS.out rfl)
          cases neg with
          | false =>
            have HMS2 : Aside0 (List.mapM tC (pre ++ [(false, t)]) = some (cl ++ [⟨tn, tf⟩])) := ⟨HMS.out rfl⟩
            obtain ⟨inner, hown⟩ := Kd.R_own HRX.out
            have HOWN := Aside0.mk hown
            clear hown
            gi_wp2_with (gi_at_builtin; refine R_append_in k113 (w.heap.size + 4) rfl (.tmp 30) (.tmp 32) 51 113 (.agg #[(.string ⟨#[]⟩), (.string ⟨#[]⟩)]) 32 rfl Tryz.underlying51 info113 rfl (by decide) v cl (⟨tn, tf⟩ : Co) [.string tn, .string tf] (fun _ => False) rfl rfl (k113_mkM _ _ _ _) (fun _ hk => hk.elim) HRX.out (by omega) (by omega) (by unfold maxLen; omega) ?_; intro v1 w3 ho hg hv1; obtain ⟨g', c', rfl⟩ := hv1; obtain ⟨q1, q2, q3, q4⟩ := row_grew HOWN.out (n₀ := w.heap.size) (by omega) (by omega) hg; have HO := Aside0.mk ho; have Q1 := Aside0.mk q1; have Q2 := Aside0.mk q2; have Q3 := Aside0.mk q3; have Q4 := Aside0.mk q4; have d2 := (q1 _ _ _ (by omega) K2.out).cell; have g2 := (q1 _ _ _ (by omega) K2.out).frozen; clear ho hg q1 q2 q3 q4)
            refine ⟨KO.out.trans (Q2.out.trans (KeepsOthers.setCell _ _ _)), (Below.heap_setCell _ _ _ _ (by simp)).trans ((Q4.out _ (by omega) (by omega)).trans KN.out), (KW.out.trans Q3.out).setCell (p := ⟨w.heap.size + 2, 0, none⟩) (by simp) _, ⟨(Q1.out _ _ _ (by omega) K0.out).other (by omega) _, (Q1.out _ _ _ (by omega) K1.out).other (by omega) _⟩, ⟨_, cl ++ [⟨tn, tf⟩], (Q1.out _ _ _ (by omega) K2.out).set _, ?_, HMS2.out⟩, (HBc.out.trans Q3.out).setCell (p := ⟨w.heap.size + 2, 0, none⟩) (by simp) _⟩
            exact Kd.R_mono (Kd.R_far (p := ⟨w.heap.size + 2, 0, none⟩) (Kd.R_bound HO.out) (fun k hk => by have := hk.2.1; show k ≠ w.heap.size + 2; omega) _) (fun _ _ => trivial)
          | true =>
            have HMS2 : Aside0 (List.mapM tC (pre ++ [(true, t)]) = some (cl ++ [⟨tn, it (-(iv tf))⟩])) := ⟨HMS.out rfl⟩
            have hneg : integer_Neg.f tf = some (it (-(iv tf))) := by unfold integer_Neg.f; rw [if_pos (by have := HFS2.out; omega)]
            have HNEG := Aside0.mk hneg
            have HLc := Aside0.mk (HL.out.below HBc.out)
            clear hneg
            gi_upto_region 14 with ((with_reducible refine And.intro ?_ ?_); (· exact trivial); gi_at_call 98; refine (CallsIn.inRound l (callsIn_wide.2 (integer_Neg.calls _ _ _ HLc.out HNEG.out))).mono ?_; rintro e w2 ⟨rfl, hb2⟩; have HB2 := Aside0.mk hb2; have xx1 : w2.cell? ⟨g, 1, none⟩ = some (.string tf) := (hb2.cell (p := ⟨g, 1, none⟩) hWc1).trans cc1; have xf1 : w2.frozen? ⟨g, 1, none⟩ = false := (hb2.frozen (p := ⟨g, 1, none⟩) hWc1).trans ff1; clear hb2)
            obtain ⟨Wd, hWd⟩ : ∃ Wd, w2.setCell ⟨g, 1, none⟩ (.string (it (-(iv tf)))) = Wd := ⟨_, rfl⟩
            rw [hWd]
            have far : ∀ {B : Nat} {ty : TypeId} {u : Value}, Boxed Wc B ty u → B ≠ g → Boxed Wd B ty u := fun hb hne => by rw [← hWd]; exact (Below.heap_setCell _ ⟨g, 1, none⟩ _ _ hne).trans ((HB2.out.block _ hb.lt).trans hb)
            have KC2 : Aside0 (Wd.heap[g]? = some (.cells #[.string tn, .string (it (-(iv tf)))] 113 (0, 0))) := ⟨by
              have h := (HB2.out.block _ hWc1).trans KC.out
              rw [← hWd]
              unfold World.setCell
              simp only [Array.getElem?_modify, h]
              simp⟩
            have KBd : Aside0 (Below w.heap.size Wc Wd) := ⟨by rw [← hWd]; exact (HB2.out.mono HBc.out.size).setCell (p := ⟨g, 1, none⟩) (by simp; omega) _⟩
            have KOd : Aside0 (KeepsOthers Wc Wd) := ⟨by rw [← hWd]; exact (KeepsOthers.of_grownBy (row := none) ⟨HB2.out.os, HB2.out.tape, HB2.out.output, HB2.out.size, fun k hk _ => HB2.out.block k hk⟩ (by simp)).trans (KeepsOthers.setCell _ _ _)⟩
            have KNd : Aside0 (Wd.heap[w.heap.size + 3]? = Wc.heap[w.heap.size + 3]?) := ⟨by rw [← hWd]; exact (Below.heap_setCell _ _ _ _ (by simp; omega)).trans (HB2.out.block _ (by omega))⟩
            have HRX' : Aside0 (Kd.R k113 113 Wd (w.heap.size + 4) (fun _ => True) v cl) := ⟨by
              rw [← hWd]
              exact Kd.R_mono (Kd.R_far (p := ⟨g, 1, none⟩) (Kd.R_below HRB.out HB2.out) (fun k hk => by show k ≠ g; omega) _) (fun _ _ => trivial)⟩
            have hlt2 : Wc.heap.size ≤ Wd.heap.size := KBd.out.size
            have J0 := Aside0.mk (far K0.out (by omega))
            have J1 := Aside0.mk (far K1.out (by omega))
            have J2 := Aside0.mk (far K2.out (by omega))
            have JO := Aside0.mk (KO.out.trans KOd.out)
            have JN := Aside0.mk (KNd.out.trans KN.out)
            have JW := Aside0.mk (KW.out.trans KBd.out)
            have JB := Aside0.mk (HBc.out.trans KBd.out)
            clear hWd far c0 c1 c2 f0 f1 f2 cc0 cc1 ff1 K0 K1 K2 KO KN KW HBc HRX HRB KC KBd KOd KNd xx1 xf1 HB2
            have K0 := J0
            have K1 := J1
            have K2 := J2
            have KO := JO
            have KN := JN
            have KW := JW
            have HBc := JB
            have HRX := HRX'
            have c2 := K2.out.cell
            have f2 := K2.out.frozen
            have cc0 : Wd.cell? ⟨g, 0, none⟩ = some (.string tn) := by simp [World.cell?, KC2.out]
            have cc1 : Wd.cell? ⟨g, 1, none⟩ = some (.string (it (-(iv tf)))) := by simp [World.cell?, KC2.out]
            clear J0 J1 J2 JO JN JW JB
            obtain ⟨inner, hown⟩ := Kd.R_own HRX.out
            have HOWN := Aside0.mk hown
            clear hown
            gi_wp2_with (gi_at_builtin; refine R_append_in k113 (w.heap.size + 4) rfl (.tmp 30) (.tmp 32) 51 113 (.agg #[(.string ⟨#[]⟩), (.string ⟨#[]⟩)]) 32 rfl Tryz.underlying51 info113 rfl (by decide) v cl (⟨tn, (it (-(iv tf)))⟩ : Co) [.string tn, .string (it (-(iv tf)))] (fun _ => False) rfl rfl (k113_mkM _ _ _ _) (fun _ hk => hk.elim) HRX.out (by omega) (by omega) (by unfold maxLen; omega) ?_; intro v1 w3 ho hg hv1; obtain ⟨g', c', rfl⟩ := hv1; obtain ⟨q1, q2, q3, q4⟩ := row_grew HOWN.out (n₀ := w.heap.size) (by omega) (by omega) hg; have HO := Aside0.mk ho; have Q1 := Aside0.mk q1; have Q2 := Aside0.mk q2; have Q3 := Aside0.mk q3; have Q4 := Aside0.mk q4; have d2 := (q1 _ _ _ (by omega) K2.out).cell; have g2 := (q1 _ _ _ (by omega) K2.out).frozen; clear ho hg q1 q2 q3 q4)
            refine ⟨KO.out.trans (Q2.out.trans (KeepsOthers.setCell _ _ _)), (Below.heap_setCell _ _ _ _ (by simp)).trans ((Q4.out _ (by omega) (by omega)).trans KN.out), (KW.out.trans Q3.out).setCell (p := ⟨w.heap.size + 2, 0, none⟩) (by simp) _, ⟨(Q1.out _ _ _ (by omega) K0.out).other (by omega) _, (Q1.out _ _ _ (by omega) K1.out).other (by omega) _⟩, ⟨_, cl ++ [⟨tn, (it (-(iv tf)))⟩], (Q1.out _ _ _ (by omega) K2.out).set _, ?_, HMS2.out⟩, (HBc.out.trans Q3.out).setCell (p := ⟨w.heap.size + 2, 0, none⟩) (by simp) _⟩
            exact Kd.R_mono (Kd.R_far (p := ⟨w.heap.size + 2, 0, none⟩) (Kd.R_bound HO.out) (fun k hk => by have := hk.2.1; show k ≠ w.heap.size + 2; omega) _) (fun _ _ => trivial)
      case done =>
        rintro D W hD ⟨⟨h0, h1⟩, ⟨v, cl, h2, hR, hm⟩, hB⟩ hK
        obtain ⟨A, cc, rfl, hlc, hC⟩ := Kd.R_reads hR
        have hrr : (if cl.length > 16 then ([], 4) else (nf cl, 0)) = (r1, r2) := by
          have := HV2.out
          rw [hm] at this
          exact this
        have hmem : ∀ c ∈ cl, c.f1.size ≤ 65540 ∧ c.f0.size ≤ 16 := by
          intro c hc
          obtain ⟨p, hp, e⟩ := (mapM_mem hm).2 c hc
          refine termC_size e ?_
          unfold partsV at hp
          obtain ⟨q, hq, rfl⟩ := List.mem_map.1 hp
          show (nm (bs q.2)).length ≤ _
          rw [nm_bs]
          have h5 := (partsL_facts (nm a0)).2 q hq
          have h7 : (nm a0).length = a0.size := by unfold nm; rw [Array.length_toList]; rfl
          omega
        have HMEM := Aside0.mk hmem
        have c2 := h2.cell
        have c0 := h0.cell
        have c1 := h1.cell
        have f0 := h0.frozen
        have f1 := h1.frozen
        have H0 := Aside0.mk h0
        have H1 := Aside0.mk h1
        have HB := Aside0.mk hB
        have HK := Aside0.mk hK
        have HLC := Aside0.mk hlc
        have HC := Aside0.mk hC
        have HRR := Aside0.mk hrr
        have HLW := Aside0.mk (HL.out.below hB)
        clear hm hmem h0 h1 h2 hR hB hK hlc hC hrr
        by_cases hl16 : cl.length > 16
        · have hd16 : decide ((16 : Int) < (cl.length : Int)) = true := decide_eq_true (by omega)
          have hd17 : decide (16 < cl.length) = true := decide_eq_true (by omega)
          have hr : r1 = [] ∧ r2 = 4 := by
            have := HRR.out
            rw [if_pos hl16] at this
            cases this
            exact ⟨rfl, rfl⟩
          obtain ⟨rfl, rfl⟩ := hr
          clear hl16
          gi_wp2
          have y0 := (H0.out.set (.slice none 0 0)).other (show w.heap.size ≠ w.heap.size + 1 by omega) (.int .i64 4)
          have y1 := (H1.out.other (show w.heap.size + 1 ≠ w.heap.size by omega) (.slice none 0 0)).set (.int .i64 4)
          have HD2 := (KeepsOthers.setCell _ ⟨w.heap.size + 1, 0, none⟩ (.int .i64 4)).same D _ ((KeepsOthers.setCell W ⟨w.heap.size, 0, none⟩ (.slice none 0 0)).same D _ HK.out rfl) rfl
          refine ⟨by simp, .inl ⟨_, _, rfl, run_takeDeferred HD2, ?_⟩⟩
          have z0 := cell_kept y0.cell (grownBy_putObj' _ D (.deferred none)) (fun r e => by cases e; exact ⟨_, HD2, rfl⟩)
          have z1 := cell_kept y1.cell (grownBy_putObj' _ D (.deferred none)) (fun r e => by cases e; exact ⟨_, HD2, rfl⟩)
          refine ⟨.tuple #[.slice none 0 0, .int .i64 4], ?_, ⟨_, rfl, Kd.R_nil _ _ _ _ _, ?_⟩⟩
          · simp [results, Tryz.results80, go_sem, z0, z1]
          · exact below_putObj (by omega) ((HB.out.setCell (p := ⟨w.heap.size, 0, none⟩) (by simp) _).setCell (p := ⟨w.heap.size + 1, 0, none⟩) (by simp) _)
        · have hd16 : decide ((16 : Int) < (cl.length : Int)) = false := decide_eq_false (by omega)
          have hd17 : decide (16 < cl.length) = false := decide_eq_false (by omega)
          have hnf : expression_normal.f cl = some (nf cl) := by
            unfold expression_normal.f
            rw [if_pos]
            refine ⟨?_, fun c hc => by have := (HMEM.out c hc).2; omega⟩
            have h1 := weight_le 65540 cl (fun c hc => (HMEM.out c hc).1)
            have h2 : (65540 + 1) * cl.length ≤ (65540 + 1) * 16 := Nat.mul_le_mul (Nat.le_refl _) (by omega)
            omega
          have hcall := expression_normal.calls A cc cl (nf cl) W HLW.out HC.out HLC.out hnf
          have HCALL := Aside0.mk hcall
          have hr : r1 = nf cl ∧ r2 = 0 := by
            have := HRR.out
            rw [if_neg hl16] at this
            cases this
            exact ⟨rfl, rfl⟩
          obtain ⟨rfl, rfl⟩ := hr
          clear hl16 hnf hcall
          gi_wp2_with ((with_reducible refine And.intro ?_ ?_); (· exact trivial); gi_at_call 128; refine (callsIn_wide.2 HCALL.out).mono ?_; rintro e w1 ⟨v0, rfl, hR1, hb1⟩; have K0 : Boxed w1 w.heap.size 51 (.slice none 0 0) := (hb1.block _ H0.out.lt).trans H0.out; have K1 : Boxed w1 (w.heap.size + 1) 27 (.int .i64 0) := (hb1.block _ H1.out.lt).trans H1.out; have d0 := K0.cell; have d1 := K1.cell; have g0 := K0.frozen; have g1 := K1.frozen; have hD1 : w1.heap[D]? = some (.deferred (some [])) := (hb1.block _ (Array.getElem?_eq_some_iff.1 HK.out).1).trans HK.out; have KK0 := Aside0.mk K0; have KK1 := Aside0.mk K1; have HD1 := Aside0.mk hD1; have HR1 := Aside0.mk hR1; have HW1 := Aside0.mk (show w.heap.size + 4 ≤ W.heap.size by have := (Array.getElem?_eq_some_iff.1 HK.out).1; omega); have HB1 := Aside0.mk (HB.out.trans (hb1.mono HB.out.size)); clear hb1 K0 K1 hD1 hR1; obtain ⟨A1, cc1, hv0⟩ := Kd.R_slice HR1.out; subst hv0)
          have y0 := (KK0.out.set (.slice A1 (nf cl).length cc1)).other (show w.heap.size ≠ w.heap.size + 1 by omega) (.int .i64 0)
          have y1 := (KK1.out.other (show w.heap.size + 1 ≠ w.heap.size by omega) (.slice A1 (nf cl).length cc1)).set (.int .i64 0)
          have HD2 := (KeepsOthers.setCell _ ⟨w.heap.size + 1, 0, none⟩ (.int .i64 0)).same D _ ((KeepsOthers.setCell w1 ⟨w.heap.size, 0, none⟩ (.slice A1 (nf cl).length cc1)).same D _ HD1.out rfl) rfl
          refine ⟨by simp, .inl ⟨_, _, rfl, run_takeDeferred HD2, ?_⟩⟩
          have z0 := cell_kept y0.cell (grownBy_putObj' _ D (.deferred none)) (fun r e => by cases e; exact ⟨_, HD2, rfl⟩)
          have z1 := cell_kept y1.cell (grownBy_putObj' _ D (.deferred none)) (fun r e => by cases e; exact ⟨_, HD2, rfl⟩)
          refine ⟨.tuple #[.slice A1 (nf cl).length cc1, .int .i64 0], ?_, ⟨_, rfl, ?_, ?_⟩⟩
          · simp [results, Tryz.results80, go_sem, z0, z1]
          · have hDlt := (Array.getElem?_eq_some_iff.1 HK.out).1
            have h1 := Kd.R_far (p := ⟨w.heap.size, 0, none⟩) (Kd.R_bound HR1.out) (fun k hk => by have := hk.2.1; have := HW1.out; show k ≠ w.heap.size; omega) (.slice A1 (nf cl).length cc1)
            have h2 := Kd.R_far (p := ⟨w.heap.size + 1, 0, none⟩) h1 (fun k hk => by have := hk.2.1; have := HW1.out; show k ≠ w.heap.size + 1; omega) (.int .i64 0)
            have h3 := Kd.R_grown h2 (grownBy_putObj' _ D (.deferred none)) (fun k hk e => by have := Option.some.inj e; have := hk.2.1; omega)
            exact Kd.R_lower (Kd.R_mono h3 (fun _ _ => trivial)) (by omega)
          · exact below_putObj (by omega) ((HB1.out.setCell (p := ⟨w.heap.size, 0, none⟩) (by simp) _).setCell (p := ⟨w.heap.size + 1, 0, none⟩) (by simp) _)
      case stop =>
        rintro D c W hD ⟨⟨rfl, hr⟩, ⟨h0, h1⟩, hB⟩ hK
        have hrr : r1 = [] ∧ r2 = 3 := by
          have := HV2.out
          rw [hr] at this
          cases this
          exact ⟨rfl, rfl⟩
        obtain ⟨rfl, rfl⟩ := hrr
        have c0 := h0.cell
        have c1 := h1.cell
        have H0 := Aside0.mk h0
        have H1 := Aside0.mk h1
        have HB := Aside0.mk hB
        have HK := Aside0.mk hK
        clear h0 h1 hB hK hr
        gi_wp2
        refine ⟨by simp, .inl ⟨_, _, rfl, run_takeDeferred HK.out, ?_⟩⟩
        have z0 := cell_kept H0.out.cell (grownBy_putObj' _ D (.deferred none)) (fun r e => by cases e; exact ⟨_, HK.out, rfl⟩)
        have z1 := cell_kept H1.out.cell (grownBy_putObj' _ D (.deferred none)) (fun r e => by cases e; exact ⟨_, HK.out, rfl⟩)
        refine ⟨.tuple #[.slice none 0 0, .int .i64 3], ?_, ⟨_, rfl, Kd.R_nil _ _ _ _ _, ?_⟩⟩
        · simp [results, Tryz.results80, go_sem, z0, z1]
        · exact below_putObj (by omega) HB.out
theorem expression_Parse.calls (a0 : ByteArray) (r1 : List Co) (r2 : Int) (w : World) (hL : Laid w) (h : expression_Parse.f a0 = some (r1, r2)) :
    Calls Tryz.prog 80 #[.string a0] w fun e w' => ∃ v0_ : Value, e = .returned (.tuple #[v0_, .int .i64 r2]) ∧ Kd.R k113 113 w' w.heap.size (fun _ => True) v0_ r1 ∧ Below w.heap.size w w' :=
  Parse_end a0 r1 r2 w hL (Option.some.inj h)
end Go.Proofs.YtblcgcibkikgeaaGreatDoor.G
end
section
namespace Go.Proofs.YtblcgcibkikgeaaGreatDoor.P
open Go Go.RowKit Go.Proofs.YtblcgcibkikgeaaGreatDoor.K Go.Proofs.YtblcgcibkikgeaaGreatDoor.G1 Go.Proofs.YtblcgcibkikgeaaGreatDoor.G
def entryV (cr : Bool) (s : ByteArray) (xs : List Ru) : Option (List Ru) :=
  let c := cut1 32 s.data.toList
  if c.2.2 then
    let e := parseE ⟨c.2.1.toArray⟩
    if e.2 = 0 then
      if tmplOk ⟨c.1.toArray⟩ then
        match xs.getLast? with
        | none => none
        | some r => some (xs.dropLast ++ [⟨r.f0, r.f1 ++ [⟨⟨c.1.toArray⟩, cr, e.1⟩]⟩])
      else none
    else none
  else none
theorem set_last {α : Type} (l : List α) (x : α) (h : l ≠ []) : l.set (l.length - 1) x = l.dropLast ++ [x] := by
  obtain ⟨a, z, rfl⟩ : ∃ a z, l = a ++ [z] := ⟨l.dropLast, l.getLast h, (List.dropLast_concat_getLast h).symm⟩
  simp
end Go.Proofs.YtblcgcibkikgeaaGreatDoor.P
namespace Go.Proofs.YtblcgcibkikgeaaGreatDoor.G
open Go Go.RowKit Go.Shelf Go.Proofs.YtblcgcibkikgeaaGreatDoorW.PrintWords Go.Proofs.YtblcgcibkikgeaaGreatDoorW.PrintLast Go.Proofs.YtblcgcibkikgeaaGreatDoorW.PrintMore Go.Proofs.YtblcgcibkikgeaaGreatDoor.K Go.Proofs.YtblcgcibkikgeaaGreatDoor.G1 Go.Proofs.YtblcgcibkikgeaaGreatDoor.P Go.Proofs.YtblcgcibkikgeaaGreatDoor.RF
set_option linter.unusedVariables false
theorem parse1 (b : Nat) (cr : Bool) (w : World) : Calls Tryz.prog 77 #[.bool cr, .pointer (some ⟨b, 0, none⟩)] w fun e w' => e = .returned (.func (.func 78) #[] #[.pointer (some ⟨b, 0, none⟩), .pointer (some ⟨w.heap.size, 0, none⟩)]) ∧ w' = w.alloc (.cells #[.bool cr] 4) := by
  go_enter Tryz.func77, Tryz.ntmps77
  go_wp2
  go_ret
  exact ⟨rfl, rfl⟩
set_option maxHeartbeats 2000000 in
set_option maxRecDepth 100000 in
theorem parse11 (s : ByteArray) (cr : Bool) (b cb : Nat) (xs : List Ru) (w W : World) (hL : Laid W) (hs : s.size ≤ 65536) (hcb : b < cb) (hsm : xs.length ≤ 100000) (hln : ∀ x ∈ xs, x.f1.length ≤ 100000) (hJ : OutJ b w xs W) (hc : W.heap[cb]? = some (.cells #[.bool cr] 4 (0, 0))) :
    Calls Tryz.prog 78 #[.string s, .pointer (some ⟨b, 0, none⟩), .pointer (some ⟨cb, 0, none⟩)] W fun e w' => e = .returned (.bool (entryV cr s xs).isSome) ∧ OutJ b w ((entryV cr s xs).getD xs) w' ∧ KeptJ b W w' := by
  have HL := Aside0.mk hL
  have HJ := Aside0.mk hJ
  have HC := Aside0.mk hc
  clear hL hJ hc
  obtain ⟨u1, u2, u3, hu⟩ : ∃ u1 u2 u3, cut1 32 s.data.toList = (u1, u2, u3) := ⟨_, _, _, rfl⟩
  have HCUT : Aside0 (strings_Cut.f s ⟨#[32]⟩ = some (bsz u1, bsz u2, u3)) := ⟨by rw [cut_dot s 32 (by omega), hu]⟩
  have hul := cut1_len (c := 32) (l := s.data.toList)
  rw [hu, Array.length_toList] at hul
  have hsz1 : (bsz u1).size < 1000000 := by
    have h1 : (bsz u1).size = u1.length := by show u1.toArray.size = _; simp
    have h2 : u1.length + u2.length ≤ s.size := hul.1
    omega
  clear hul
  go_enter Tryz.func78, Tryz.ntmps78
  go_upto_region 3 with (first
    | (go_at_call 79; refine (strings_Cut.calls s ⟨#[32]⟩ _ _ _ W HL.out HCUT.out).mono ?_; rintro e w1 ⟨rfl, hb1⟩; have HB1 := Aside0.mk hb1; clear hb1)
    | (go_at_call 80; refine (expression_Parse.calls (bsz u2) (parseE (bsz u2)).1 (parseE (bsz u2)).2 w1 (HL.out.below HB1.out) rfl).mono ?_; rintro e w2 ⟨v0, rfl, hR2, hb2⟩; have HR2 := Aside0.mk hR2; have HB2 := Aside0.mk (HB1.out.trans (hb2.mono HB1.out.size)); clear hR2 hb2))
  have hent : entryV cr s xs = (if u3 then (if (parseE (bsz u2)).2 = 0 then (if tmplOk (bsz u1) then (match xs.getLast? with | none => none | some r => some (xs.dropLast ++ [⟨r.f0, r.f1 ++ [⟨bsz u1, cr, (parseE (bsz u2)).1⟩]⟩])) else none) else none) else none) := by
    unfold entryV
    rw [hu]
    rfl
  obtain ⟨e1, e2, he⟩ : ∃ e1 e2, parseE (bsz u2) = (e1, e2) := ⟨_, _, rfl⟩
  rw [he] at hent HR2 ⊢
  simp only at hent HR2 ⊢
  obtain ⟨A5, c5, rfl, _, _⟩ := Kd.R_reads HR2.out
  have HJ2 := Aside0.mk (HJ.out.below HB2.out)
  have hcl := (Array.getElem?_eq_some_iff.1 HC.out).1
  have HC2 := Aside0.mk (HB2.out.block cb hcl)
  have HK2 := Aside0.mk ((KeptJ.refl b W).below HB2.out (Nat.le_refl _))
  clear he hu HCUT
  cases u3 with
  | false =>
    have HE := Aside0.mk (hent.trans (if_neg (by simp)))
    clear hent
    go_wp2
    go_ret
    exact ⟨by rw [HE.out]; rfl, by rw [HE.out]; exact HJ2.out, HK2.out⟩
  | true =>
    rw [if_pos rfl] at hent
    by_cases hz : e2 = 0
    · subst hz
      rw [if_pos rfl] at hent
      have HT := Aside0.mk (isTemplate_f (bsz u1) hsz1)
      have HL2 := Aside0.mk (HL.out.below HB2.out)
      obtain ⟨g0, v, hv0, hR0⟩ := HJ.out
      have hv : Boxed w2 b 22 v := (HB2.out.block b hv0.lt).trans hv0
      have hR : Kd.S k32 32 w2 (b + 1) (fun k => True ∧ ¬ W.heap.size ≤ k) v xs := Kd.S_below (Kd.S_mono (Kd.S_bound hR0) (fun k hk => ⟨trivial, by have := hk.2.2.1; omega⟩)) HB2.out
      have G0 := Aside0.mk g0
      have hbW : b < W.heap.size := hv0.lt
      clear g0 hv0 hR0
      obtain ⟨q, hq⟩ : ∃ q, tmplOk (bsz u1) = q := ⟨_, rfl⟩
      rw [hq] at hent HT
      clear hq
      cases q with
      | false =>
        have HE := Aside0.mk (hent.trans (if_neg (by simp)))
        clear hent
        go_wp2_with (go_at_call 81; refine (X.rule_isTemplate.calls (bsz u1) _ _ HL2.out HT.out).mono ?_; rintro e w3 ⟨rfl, hb3⟩; have HB3 := Aside0.mk (HB2.out.trans (hb3.mono HB2.out.size)); have HJ3 := Aside0.mk (HJ2.out.below hb3); have d3 := (hb3.cell (p := ⟨b, 0, none⟩) hv.lt).trans hv.cell; clear hb3)
        go_ret
        exact ⟨by rw [HE.out]; rfl, by rw [HE.out]; exact HJ3.out, (KeptJ.refl b W).below HB3.out (Nat.le_refl _)⟩
      | true =>
        rw [if_pos rfl] at hent
        obtain ⟨A1, c1, rfl, hl1, hC1⟩ := Kd.S_reads hR
        cases xs with
        | nil =>
          have HE := Aside0.mk hent
          clear hent hC1
          go_wp2_with (go_at_call 81; refine (X.rule_isTemplate.calls (bsz u1) _ _ HL2.out HT.out).mono ?_; rintro e w3 ⟨rfl, hb3⟩; have HB3 := Aside0.mk (HB2.out.trans (hb3.mono HB2.out.size)); have HJ3 := Aside0.mk (HJ2.out.below hb3); have d3 := (hb3.cell (p := ⟨b, 0, none⟩) hv.lt).trans hv.cell; clear hb3)
          go_ret
          exact ⟨by rw [HE.out]; rfl, by rw [HE.out]; exact HJ3.out, (KeptJ.refl b W).below HB3.out (Nat.le_refl _)⟩
        | cons y ys =>
          obtain ⟨g, cap, hform, hbg, hgl, _⟩ := Kd.S_form hR (by simp)
          cases hform
          have hpos : (1 : Int) ≤ ((y :: ys).length : Int) := by simp only [List.length_cons]; omega
          have HE := Aside0.mk hent
          have hlx : (y :: ys).length ≤ 100000 := hsm
          obtain ⟨n, hn⟩ : ∃ n, (y :: ys).length = n := ⟨_, rfl⟩
          rw [hn] at hpos hv hR hlx
          have d1 : decide ((n : Int) = 0) = false := decide_eq_false (by omega)
          have d1n : decide (n = 0) = false := decide_eq_false (by omega)
          have d1z : ((n : Int) == 0) = false := beq_eq_false_iff_ne.mpr (by omega)
          have d2 : (0 : Int) ≤ (n : Int) - 1 := by omega
          have d2' : (n : Int) - 1 < (n : Int) := by omega
          have hw1 : wrap64 ((n : Int) - 1) = (n : Int) - 1 := w64' (by omega) (by omega)
          have HN := Aside0.mk hn
          have HW1 := Aside0.mk hw1
          clear hent hn hw1
          go_upto_region 6 with (go_at_call 81; refine (X.rule_isTemplate.calls (bsz u1) _ _ HL2.out HT.out).mono ?_; rintro e w3 ⟨rfl, hb3⟩; have HB3 := Aside0.mk (HB2.out.trans (hb3.mono HB2.out.size)); have HJ3 := Aside0.mk (HJ2.out.below hb3); have d3 := (hb3.cell (p := ⟨b, 0, none⟩) hv.lt).trans hv.cell; have HR3 := Aside0.mk (Kd.S_below hR hb3); have HV3 := Aside0.mk ((hb3.block _ hv.lt).trans hv); have HB23 := Aside0.mk hb3; clear hb3)
          have hn0 : (y :: ys).length = n := HN.out
          have hni : ((n : Int) - 1).toNat = n - 1 := by omega
          obtain ⟨oki, ce, hcl2, hM, hcc, hfr, hoki, hH⟩ := Kd.S_elem HR3.out (⟨0, []⟩ : Ru) ((n : Int) - 1) (by omega) (by omega)
          obtain ⟨ve, rfl, ge⟩ := k32_openM hM
          have hsz : (k32).sz = 2 := rfl
          have k1 := hcc 1 _ rfl
          have f1 := hfr 1
          rw [hni, hsz] at k1 f1
          obtain ⟨r, hr⟩ : ∃ r, (y :: ys).getD ((n : Int) - 1).toNat (⟨0, []⟩ : Ru) = r := ⟨_, rfl⟩
          rw [hr] at ge hM hH hcl2
          have hrm : r ∈ y :: ys := by
            rw [← hr, hni, List.getD_eq_getElem?_getD, List.getElem?_eq_getElem (by omega)]
            exact List.getElem_mem _
          have hrl : (y :: ys).getLast? = some r := by
            rw [← hr, hni, List.getLast?_eq_getElem?, hn0, List.getD_eq_getElem?_getD, List.getElem?_eq_getElem (by omega)]
            rfl
          have hse : ∀ x : Ru, (y :: ys).set ((n : Int) - 1).toNat x = (y :: ys).dropLast ++ [x] := fun x => by
            rw [hni, ← hn0]
            exact set_last _ _ (by simp)
          have hl5 := hln r hrm
          have HGE := Aside0.mk ge
          have HH := Aside0.mk hH
          have HOK := Aside0.mk hoki
          have HSE := Aside0.mk hse
          have hE := HE.out
          rw [hrl] at hE
          have HE2 := Aside0.mk hE
          have HC3 : w3.cell? ⟨cb, 0, none⟩ = some (.bool cr) := by
            have h := (HB3.out.block cb hcl).trans HC.out
            simp [World.cell?, h]
          have HP : Aside0 (∀ Wx : World, Below w3.heap.size w3 Wx → k113.R 113 Wx (b + 1) (fun k => W.heap.size ≤ k) (.slice A5 e1.length c5) e1) := ⟨fun Wx hx => by
            have h1 := HB1.out.size
            have h2 := Kd.R_below (Kd.R_below (Kd.R_mono (Kd.R_bound HR2.out) (ok' := fun k => W.heap.size ≤ k) (fun k hk => by have := hk.2.1; omega)) HB23.out) hx
            exact Kd.R_lower h2 (by omega)⟩
          obtain ⟨r0, r1⟩ := r
          simp only at hl5
          clear hrl hrm hse hr hE HE hoki hH ge hM hcc hfr hcl2 hC1 hR hv hsz HJ HJ2 HJ3 HR2 HT HB23
          have hbs : b + 1 ≤ w3.heap.size := by have := HB3.out.size; omega
          have hok1 : ∀ k, W.heap.size ≤ k → (oki k ∨ W.heap.size ≤ k) ∧ some k ≠ ve.ownBlock := fun k hk => ⟨.inr hk, fun e => (HOK.out k (HGE.out.1 k e.symm)).1.2 hk⟩
          have HOK1 := Aside0.mk hok1
          have hfr1 : ∀ k, w3.heap.size ≤ k → oki k ∨ W.heap.size ≤ k := fun k hk => .inr (Nat.le_trans HB3.out.size hk)
          have HFR1 := Aside0.mk hfr1
          clear hok1 hfr1
          have HHM : Aside0 (Kd.H k32 32 w3 (b + 1) (fun _ => True) (.slice (some ⟨g, 0, none⟩) n c1) (y :: ys) ((n : Int) - 1) (fun k => oki k ∨ W.heap.size ≤ k) [.int .i64 r0, ve]) := ⟨Kd.H_more HH.out (fun _ _ => trivial)⟩
          have HAT : Aside0 (∀ (w5 : World) (u : Value), Kd.H k32 32 w5 (b + 1) (fun _ => True) (.slice (some ⟨g, 0, none⟩) n c1) (y :: ys) ((n : Int) - 1) (fun k => oki k ∨ W.heap.size ≤ k) [.int .i64 r0, u] → w5.cell? ⟨g, (n - 1) * 2 + 1, none⟩ = some u ∧ w5.frozen? ⟨g, (n - 1) * 2 + 1, none⟩ = false) := ⟨fun w5 u hh => by
            obtain ⟨q1, q2⟩ := Kd.H_at hh (by omega) (by omega)
            have q1 := q1 1 u rfl
            have q2 := q2 1
            rw [hni] at q1 q2
            exact ⟨q1, q2⟩⟩
          clear HH HB2 HB1 HL2 HL HC HC2 HK2 hsm hln
          have h0i : (0 : Int) ≤ (n : Int) - 1 := by omega
          have hg3 : g < w3.heap.size := World.block_lt_of_cell? w3 _ k1
          have hcb3 : cb < w3.heap.size := World.block_lt_of_cell? w3 _ HC3
          have k1a : ∀ o, (w3.alloc o).cell? ⟨g, (n - 1) * 2 + 1, none⟩ = some ve := fun o => (World.cell?_alloc_lt _ _ _ hg3).trans k1
          have HC3a : ∀ o, (w3.alloc o).cell? ⟨cb, 0, none⟩ = some (.bool cr) := fun o => (World.cell?_alloc_lt _ _ _ hcb3).trans HC3
          go_region_law (refine Kd.R_append_step k53 (w0 := w3) (b + 1) rfl (.tmp 47) (.tmp 52) 30 53 (.agg #[.string ⟨#[]⟩, .bool false, .slice none 0 0]) 48 rfl Tryz.underlying30 info53 rfl (by decide) (by omega) ve r1 (⟨bsz u1, cr, e1⟩ : Ln) [.string (bsz u1), .bool cr, .slice A5 e1.length c5] (fun k => oki k ∨ W.heap.size ≤ k) (fun k => W.heap.size ≤ k) rfl rfl (k53_mkM _ _ _ _ (HP.out _ (Below.refl _ _).drew)) HOK1.out HFR1.out (Kd.R_drew (Kd.R_mono HGE.out (fun k hk => .inl hk))) (Below.refl _ _).drew hbs (by omega) ?_; intro v1 w5 ho1 hb1 hg1 hat1; have hh5 := Kd.H_grown (Kd.H_drew HHM.out) hg1 (fun k e => .inl (HGE.out.1 k e)); obtain ⟨q1, q2⟩ := HAT.out _ _ hh5; obtain ⟨A6, c6, rfl, _, _⟩ := Kd.R_reads ho1; rw [show (r1 ++ [(⟨bsz u1, cr, e1⟩ : Ln)]).length = r1.length + 1 by simp] at ho1; have HO5 := Aside0.mk ho1; have HB5 := Aside0.mk hb1; have HG5 := Aside0.mk hg1; have HH5 := Aside0.mk hh5; clear ho1 hb1 hg1 hat1 hh5)
          all_goals
            go_wp2
            go_ret
            have hse := HSE.out ⟨r0, r1 ++ [⟨bsz u1, cr, e1⟩]⟩
            obtain ⟨hS, hG⟩ := Kd.S_seg0 HH5.out h0i (by omega) (seg := [.slice A6 (r1.length + 1) c6]) (j := 1) (Nat.le_refl 2) (x' := (⟨r0, r1 ++ [⟨bsz u1, cr, e1⟩]⟩ : Ru)) (okp := fun k => oki k ∨ W.heap.size ≤ k) (k32_mkM _ _ _ _ HO5.out) (fun _ hk => hk)
            rw [hse, hni] at hS
            rw [hni] at hG
            obtain ⟨_, fg, hRg⟩ := HH5.out
            refine ⟨by rw [HE2.out]; rfl, ?_, ?_⟩
            · rw [HE2.out]
              refine ⟨fun m hm => ((G0.out m hm).trans (HB3.out.mono (by omega))).trans ((HB5.out.mono (by omega)).trans ((Below.refl _ _).setCell (p := ⟨g, (n - 1) * 2 + 1, none⟩) (by show m ≤ g; omega) _)), _, ?_, hS⟩
              exact (Below.heap_setCell _ _ _ _ (by show b ≠ g; omega)).trans ((HB5.out.block b (by omega)).trans HV3.out)
            · have hk1 : KeptJ b W w3.drew := (KeptJ.refl b W).below HB3.out.drew (Nat.le_refl _)
              have hk2 := hk1.grown HG5.out (Kd.R_typed (Kd.R_drew HGE.out)) (.inr rfl)
              exact hk2.grown (v := .slice (some ⟨g, 0, none⟩) n c1) (by rw [show (Value.slice (some ⟨g, 0, none⟩) n c1).ownBlock = some g by simp [Value.ownBlock]]; exact hG) (Kd.R_typed hRg) (.inl rfl)
    · have z1 : (e2 != 0) = true := bne_iff_ne.mpr hz
      have z2 : (e2 == 0) = false := beq_eq_false_iff_ne.mpr hz
      have HE := Aside0.mk (hent.trans (if_neg hz))
      clear hent hz
      go_wp2
      go_ret
      exact ⟨by rw [HE.out]; rfl, by rw [HE.out]; exact HJ2.out, HK2.out⟩
end Go.Proofs.YtblcgcibkikgeaaGreatDoor.G
end
section
namespace Go.Proofs.YtblcgcibkikgeaaGreatDoor.G
open Go Go.RowKit Go.Shelf Go.Proofs.YtblcgcibkikgeaaGreatDoorW.PrintWords Go.Proofs.YtblcgcibkikgeaaGreatDoorW.PrintLast Go.Proofs.YtblcgcibkikgeaaGreatDoorW.PrintMore Go.Proofs.YtblcgcibkikgeaaGreatDoor.K
set_option linter.unusedVariables false
def PBC (g : Nat) (lb : Array Value) (p : S113 → Bool) (w : World) : Prop :=
  ∀ (W : World) (x : S113), Below w.heap.size w W → Calls Tryz.prog g (#[.agg #[.string x.f0, .string x.f1]] ++ lb) W fun e w' => e = .returned (.bool (p x)) ∧ Below w.heap.size w w'
def ixf {α : Type} (p : α → Bool) : List α → Int → Int
  | [], _ => -1
  | x :: l, i => if p x then i else ixf p l (i + 1)
theorem ixf_cons {α : Type} (p : α → Bool) (x : α) (l : List α) (i : Int) : ixf p (x :: l) i = if p x then i else ixf p l (i + 1) := rfl
theorem ixf_nonneg {α : Type} (p : α → Bool) : ∀ (l : List α) (i : Int), 0 ≤ i → decide (0 ≤ ixf p l i) = l.any p
  | [], i, _ => rfl
  | x :: l, i, h => by
    unfold ixf
    rw [List.any_cons]
    cases p x with
    | true => simp [h]
    | false => simpa using ixf_nonneg p l (i + 1) (by omega)
set_option maxHeartbeats 1000000 in
theorem indexCoef (A : Option Addr) (c : Nat) (l : List (S113)) (p : S113 → Bool) (g : Nat) (lb : Array Value) (eg : ∀ args w, (callFunc g args).run Tryz.prog w = .ok (.enter g args) w) (w : World)
    (hr : Kd.C k113 w A l.length l) (hb : l.length ≤ 9223372036854775807) (hp : PBC g lb p w) :
    Calls Tryz.prog 156 #[.slice A l.length c, .func (.func g) #[] lb] w fun e w' => e = .returned (.int .i64 (ixf p l 0)) ∧ Below w.heap.size w w' := by
  have HR := Aside0.mk hr
  have HP := Aside0.mk hp
  clear hr hp
  have HB := Aside0.mk (Below.refl w.heap.size w)
  go_enter Tryz.func156, Tryz.ntmps156
  go_wp2
  go_loopw [8] (fun v8 wr => ∃ i : Nat, v8 = .int .i64 (i : Int) ∧ i ≤ l.length ∧ Aside0 (ixf p (l.drop i) (i : Int) = ixf p l 0) ∧ Aside0 (Below w.heap.size w wr)) (fun v8 _ => l.length - (intOf v8).toNat)
  case atStart => exact ⟨0, rfl, Nat.zero_le _, ⟨rfl⟩, HB⟩
  case round =>
    clear HB
    obtain ⟨i, rfl, hi, HX, HB⟩ := hrel
    by_cases hil : i < l.length
    · have hd : decide ((i : Int) < (l.length : Int)) = true := decide_eq_true (by omega)
      have hdn : decide (i < l.length) = true := decide_eq_true hil
      obtain ⟨ad, e1, hx0, hx1⟩ := at_T113 HR.out (i : Int) (by omega) (by omega)
      cases e1
      rw [Int.toNat_natCast] at hx0 hx1
      replace hx0 := (HB.out.cell (World.block_lt_of_cell? w _ hx0)).trans hx0
      replace hx1 := (HB.out.cell (World.block_lt_of_cell? w _ hx1)).trans hx1
      have hdr : l.drop i = rd_T113 l (i : Int) :: l.drop (i + 1) := by
        unfold rd_T113
        rw [Int.toNat_natCast, List.getD_eq_getElem?_getD, List.getElem?_eq_getElem hil, List.drop_eq_getElem_cons hil]
        rfl
      have hX := HX.out
      rw [hdr, ixf_cons] at hX
      generalize rd_T113 l (i : Int) = x at hx0 hx1 hX
      have hcall := HP.out wr x HB.out
      clear hdr HX
      cases hq : p x with
      | true =>
        rw [hq] at hcall
        rw [hq, if_pos rfl] at hX
        have HXX := Aside0.mk hX
        clear hX
        go_wp2_with (go_at_fn g; refine hcall.mono ?_; rintro e w1 ⟨rfl, hb1⟩; have HB1 := Aside0.mk hb1; clear hb1)
        go_ret
        exact ⟨by rw [← HXX.out]; rfl, HB1.out⟩
      | false =>
        rw [hq] at hcall
        rw [hq, if_neg (by simp)] at hX
        have HXX := Aside0.mk hX
        clear hX
        go_wp2_with (go_at_fn g; refine hcall.mono ?_; rintro e w1 ⟨rfl, hb1⟩; have HB1 := Aside0.mk hb1; clear hb1)
        go_roundw
        case rel => exact ⟨i + 1, by go_num, by omega, ⟨by rw [← HXX.out]; rfl⟩, HB1⟩
        case measure => simp [intOf]; omega
    · have hd : decide ((i : Int) < (l.length : Int)) = false := decide_eq_false (by omega)
      have hdn : decide (i < l.length) = false := decide_eq_false hil
      have hX := HX.out
      rw [List.drop_eq_nil_of_le (by omega)] at hX
      have HXX := Aside0.mk hX
      clear hX HX
      go_wp2
      go_ret
      exact ⟨by rw [← HXX.out]; rfl, HB.out⟩
theorem containsCoef (A : Option Addr) (c : Nat) (l : List (S113)) (p : S113 → Bool) (g : Nat) (lb : Array Value) (eg : ∀ args w, (callFunc g args).run Tryz.prog w = .ok (.enter g args) w) (w : World)
    (hr : Kd.C k113 w A l.length l) (hb : l.length ≤ 9223372036854775807) (hp : PBC g lb p w) :
    Calls Tryz.prog 108 #[.slice A l.length c, .func (.func g) #[] lb] w fun e w' => e = .returned (.bool (l.any p)) ∧ Below w.heap.size w w' := by
  have hix := indexCoef A c l p g lb eg w hr hb hp
  have hn := ixf_nonneg p l 0 (Int.le_refl 0)
  generalize ixf p l 0 = n at hix hn
  rw [← hn]
  have HIX := Aside0.mk hix
  clear hr hp hn hix
  go_enter Tryz.func108, Tryz.ntmps108
  go_wp2_with (go_at_call 156; refine HIX.out.mono ?_; rintro e w1 ⟨rfl, hb1⟩; have HB1 := Aside0.mk hb1; clear hb1)
  go_ret
  exact ⟨rfl, HB1.out⟩
end Go.Proofs.YtblcgcibkikgeaaGreatDoor.G
end
section
namespace Go.Proofs.YtblcgcibkikgeaaGreatDoor.G
open Go Go.RowKit Go.Shelf Go.Proofs.YtblcgcibkikgeaaGreatDoorW.PrintWords Go.Proofs.YtblcgcibkikgeaaGreatDoorW.PrintLast Go.Proofs.YtblcgcibkikgeaaGreatDoorW.PrintMore Go.Proofs.YtblcgcibkikgeaaGreatDoor.K
set_option linter.unusedVariables false
def PBR (g : Nat) (lb : Array Value) (p : S32 → Bool) (w : World) : Prop :=
  ∀ (W : World) (x : S32) (A : Option Addr) (c : Nat), Below w.heap.size w W → x.f1.length ≤ c → Kd.C k53 W A x.f1.length x.f1 → Calls Tryz.prog g (#[.agg #[.int .i64 x.f0, .slice A x.f1.length c]] ++ lb) W fun e w' => e = .returned (.bool (p x)) ∧ Below w.heap.size w w'
set_option maxHeartbeats 1000000 in
theorem indexRule (A : Option Addr) (c : Nat) (l : List (S32)) (p : S32 → Bool) (g : Nat) (lb : Array Value) (eg : ∀ args w, (callFunc g args).run Tryz.prog w = .ok (.enter g args) w) (w : World)
    (hr : Kd.C k32 w A l.length l) (hb : l.length ≤ 9223372036854775807) (hp : PBR g lb p w) :
    Calls Tryz.prog 130 #[.slice A l.length c, .func (.func g) #[] lb] w fun e w' => e = .returned (.int .i64 (ixf p l 0)) ∧ Below w.heap.size w w' := by
  have HR := Aside0.mk hr
  have HP := Aside0.mk hp
  clear hr hp
  have HB := Aside0.mk (Below.refl w.heap.size w)
  go_enter Tryz.func130, Tryz.ntmps130
  go_wp2
  go_loopw [8] (fun v8 wr => ∃ i : Nat, v8 = .int .i64 (i : Int) ∧ i ≤ l.length ∧ Aside0 (ixf p (l.drop i) (i : Int) = ixf p l 0) ∧ Aside0 (Below w.heap.size w wr)) (fun v8 _ => l.length - (intOf v8).toNat)
  case atStart => exact ⟨0, rfl, Nat.zero_le _, ⟨rfl⟩, HB⟩
  case round =>
    clear HB
    obtain ⟨i, rfl, hi, HX, HB⟩ := hrel
    by_cases hil : i < l.length
    · have hd : decide ((i : Int) < (l.length : Int)) = true := decide_eq_true (by omega)
      have hdn : decide (i < l.length) = true := decide_eq_true hil
      obtain ⟨ad, A1, c1, e1, hx0, hx1, hlc, hC⟩ := at_T32 HR.out (i : Int) (by omega) (by omega)
      cases e1
      rw [Int.toNat_natCast] at hx0 hx1
      replace hx0 := (HB.out.cell (World.block_lt_of_cell? w _ hx0)).trans hx0
      replace hx1 := (HB.out.cell (World.block_lt_of_cell? w _ hx1)).trans hx1
      have hdr : l.drop i = rd_T32 l (i : Int) :: l.drop (i + 1) := by
        unfold rd_T32
        rw [Int.toNat_natCast, List.getD_eq_getElem?_getD, List.getElem?_eq_getElem hil, List.drop_eq_getElem_cons hil]
        rfl
      have hX := HX.out
      rw [hdr, ixf_cons] at hX
      generalize rd_T32 l (i : Int) = x at hx0 hx1 hX hlc hC
      have hcall := HP.out wr x A1 c1 HB.out hlc (Kd.C_below hC HB.out)
      clear hdr HX hlc hC
      cases hq : p x with
      | true =>
        rw [hq] at hcall
        rw [hq, if_pos rfl] at hX
        have HXX := Aside0.mk hX
        clear hX
        go_wp2_with (go_at_fn g; refine hcall.mono ?_; rintro e w1 ⟨rfl, hb1⟩; have HB1 := Aside0.mk hb1; clear hb1)
        go_ret
        exact ⟨by rw [← HXX.out]; rfl, HB1.out⟩
      | false =>
        rw [hq] at hcall
        rw [hq, if_neg (by simp)] at hX
        have HXX := Aside0.mk hX
        clear hX
        go_wp2_with (go_at_fn g; refine hcall.mono ?_; rintro e w1 ⟨rfl, hb1⟩; have HB1 := Aside0.mk hb1; clear hb1)
        go_roundw
        case rel => exact ⟨i + 1, by go_num, by omega, ⟨by rw [← HXX.out]; rfl⟩, HB1⟩
        case measure => simp [intOf]; omega
    · have hd : decide ((i : Int) < (l.length : Int)) = false := decide_eq_false (by omega)
      have hdn : decide (i < l.length) = false := decide_eq_false hil
      have hX := HX.out
      rw [List.drop_eq_nil_of_le (by omega)] at hX
      have HXX := Aside0.mk hX
      clear hX HX
      go_wp2
      go_ret
      exact ⟨by rw [← HXX.out]; rfl, HB.out⟩
theorem containsRule (A : Option Addr) (c : Nat) (l : List (S32)) (p : S32 → Bool) (g : Nat) (lb : Array Value) (eg : ∀ args w, (callFunc g args).run Tryz.prog w = .ok (.enter g args) w) (w : World)
    (hr : Kd.C k32 w A l.length l) (hb : l.length ≤ 9223372036854775807) (hp : PBR g lb p w) :
    Calls Tryz.prog 83 #[.slice A l.length c, .func (.func g) #[] lb] w fun e w' => e = .returned (.bool (l.any p)) ∧ Below w.heap.size w w' := by
  have hix := indexRule A c l p g lb eg w hr hb hp
  have hn := ixf_nonneg p l 0 (Int.le_refl 0)
  generalize ixf p l 0 = n at hix hn
  rw [← hn]
  have HIX := Aside0.mk hix
  clear hr hp hn hix
  go_enter Tryz.func83, Tryz.ntmps83
  go_wp2_with (go_at_call 130; refine HIX.out.mono ?_; rintro e w1 ⟨rfl, hb1⟩; have HB1 := Aside0.mk hb1; clear hb1)
  go_ret
  exact ⟨rfl, HB1.out⟩
def longRule (x : S32) : Bool := decide (x.f1.length > 64)
theorem parse3 (w : World) : PBR 84 #[] longRule w := by
  intro W x A c hb hl hC
  have HB := Aside0.mk hb
  have hm := Kd.C_max hC
  show Calls Tryz.prog 84 #[.agg #[.int .i64 x.f0, .slice A x.f1.length c]] W _
  unfold longRule
  clear hb hC
  go_enter Tryz.func84, Tryz.ntmps84
  go_wp2
  go_ret
  exact ⟨by simp; omega, HB.out.alloc HB.out.size _⟩
end Go.Proofs.YtblcgcibkikgeaaGreatDoor.G
end
section
namespace Go.Proofs.YtblcgcibkikgeaaGreatDoor.G
open Go Go.RowKit Go.Shelf Go.Proofs.YtblcgcibkikgeaaGreatDoorW.PrintWords Go.Proofs.YtblcgcibkikgeaaGreatDoorW.PrintLast Go.Proofs.YtblcgcibkikgeaaGreatDoorW.PrintMore Go.Proofs.YtblcgcibkikgeaaGreatDoor.K Go.Proofs.YtblcgcibkikgeaaGreatDoor.G1 Go.Proofs.YtblcgcibkikgeaaGreatDoor.P
set_option linter.unusedVariables false
theorem beqT {a : ByteArray} {l : List UInt8} {b : ByteArray} (h : a = b) (hb : b.data.toList = l) : (a.toList == l) = true := by
  rw [← hb, ← ByteArray.toList_eq, beqL]
  exact decide_eq_true h
theorem splitC_length (c : UInt8) : ∀ l : List UInt8, (splitC c l).length ≤ l.length + 1
  | [] => Nat.le_refl _
  | x :: l => by
    have ih := splitC_length c l
    rw [splitC_cons]
    split
    · simp only [List.length_cons]; omega
    · simp only [List.length_cons, List.length_tail]; omega
theorem segsB_length (c : UInt8) (s : ByteArray) : (segsB c s).length ≤ s.size + 1 := by
  unfold segsB
  rw [List.length_map]
  have h := splitC_length c s.data.toList
  rw [Array.length_toList] at h
  exact h
set_option maxHeartbeats 1000000 in
theorem checkLine1 (t1 t3 : ByteArray) (t2 : List ByteArray) (A : Option Addr) (c b : Nat) (w : World) (hb : b < w.heap.size) (h1 : w.cell? ⟨b, 1, none⟩ = some (.slice A t2.length c)) (hc : t2.length ≤ c) (hC : Kd.C Kd.string w A t2.length t2) (hl : t2.length ≤ 1000000) :
    PBC 109 #[.pointer (some ⟨b, 0, none⟩)] (fun x => !memB x.f0 t2) w := by
  intro W x hb1
  have c1 := (hb1.cell (p := ⟨b, 1, none⟩) hb).trans h1
  have HC := Aside0.mk (Kd.C_below hC hb1)
  have HB := Aside0.mk hb1
  have HF := Aside0.mk (contains_f t2 x.f0 hl (t2.length + 1) (by omega))
  have HCC := Aside0.mk hc
  have hbb : b < W.heap.size := Nat.lt_of_lt_of_le hb hb1.size
  obtain ⟨m, hm⟩ : ∃ m, memB x.f0 t2 = m := ⟨_, rfl⟩
  simp only
  rw [hm] at HF ⊢
  show Calls Tryz.prog 109 #[.agg #[.string x.f0, .string x.f1], .pointer (some ⟨b, 0, none⟩)] W _
  clear hb1 hC h1 hm
  go_enter Tryz.func109, Tryz.ntmps109
  go_wp2_with (go_at_call 50; refine (X.slices_Contains_string_string.calls (t2.length + 1) A c t2 x.f0 m _ (by first | exact HC.out | exact Kd.C_alloc HC.out _) HCC.out HF.out).mono ?_; rintro e w1 ⟨rfl, hd1⟩; have HD1 := Aside0.mk hd1; clear hd1)
  go_ret
  exact ⟨rfl, HB.out.trans (((Below.refl W.heap.size W).alloc (Nat.le_refl _) _).mono HB.out.size |>.trans (HD1.out.below.mono (by simp; have := HB.out.size; omega)))⟩
def okLine (t : Kn) (x : Ln) (chart : List Ac) : Prop := x.f0.size < 1000000 ∧ x.f2.length ≤ 1000000 ∧ okE x.f2 ∧ t.2.2.size < 1000000 ∧ t.2.1.length ≤ 1000000 ∧ chart.length ≤ 1000000
set_option maxHeartbeats 2000000 in
set_option maxRecDepth 100000 in
theorem checkLine_calls (t1 t3 : ByteArray) (t2 : List ByteArray) (A1 A2 A3 : Option Addr) (c1 c2x c3 : Nat) (x0 : ByteArray) (x1 : Bool) (x2 : List Co) (chart : List Ac) (w : World) (hL : Laid w) (ht : Kd.C Kd.string w A1 t2.length t2) (hct : t2.length ≤ c1)
    (hx : Kd.C k113 w A2 x2.length x2) (hcx : x2.length ≤ c2x) (hh : Kd.C k48 w A3 chart.length chart) (hch : chart.length ≤ c3) (hok : okLine (t1, t2, t3) ⟨x0, x1, x2⟩ chart) :
    Calls Tryz.prog 57 #[.agg #[.string t1, .slice A1 t2.length c1, .string t3], .agg #[.string x0, .bool x1, .slice A2 x2.length c2x], .slice A3 chart.length c3] w fun e w' => e = .returned (.int .i64 (lineErr (t1, t2, t3) ⟨x0, x1, x2⟩ chart)) ∧ Below w.heap.size w w' := by
  have HL := Aside0.mk hL
  have HT := Aside0.mk ht
  have HX := Aside0.mk hx
  have HH := Aside0.mk hh
  obtain ⟨o1, o2, o3, o4, o5, o6⟩ := hok
  have HOE := Aside0.mk o3
  have HS : Aside0 (strings_Split.f x0 ⟨#[46]⟩ = some (segsB 46 x0)) := ⟨by
    unfold strings_Split.f
    rw [if_pos ⟨by simp only at o1; omega, by decide⟩, splitB_segs]⟩
  simp only at o1 o2 o4 o5 o6
  clear hL ht hx hh o3
  obtain ⟨r, hr⟩ : ∃ r, lineErr (t1, t2, t3) ⟨x0, x1, x2⟩ chart = r := ⟨_, rfl⟩
  rw [hr]
  unfold lineErr at hr
  simp only at hr
  have HV := Aside0.mk hr
  clear hr
  have hsl : (segsB 46 x0).length ≤ 1000001 := by have := segsB_length 46 x0; omega
  generalize segsB 46 x0 = sg at HS HV hsl
  go_enter Tryz.func57, Tryz.ntmps57
  go_upto_region 1 with (fail)
  obtain ⟨Wb, hWb⟩ : ∃ Wb, (w.alloc (.cells #[.string t1, .slice A1 t2.length c1, .string t3] 97)).alloc (.cells #[.string x0, .bool x1, .slice A2 x2.length c2x] 53) = Wb := ⟨_, rfl⟩
  have hba : Below w.heap.size w (w.alloc (.cells #[.string t1, .slice A1 t2.length c1, .string t3] 97)) := (Below.refl _ _).alloc (Nat.le_refl _) _
  have hbb : Below (w.alloc (.cells #[.string t1, .slice A1 t2.length c1, .string t3] 97)).heap.size (w.alloc (.cells #[.string t1, .slice A1 t2.length c1, .string t3] 97)) Wb := by rw [← hWb]; exact (Below.refl _ _).alloc (Nat.le_refl _) _
  have hsz : Wb.heap.size = w.heap.size + 2 := by rw [← hWb]; simp
  have k1 : Wb.cell? ⟨w.heap.size, 1, none⟩ = some (.slice A1 t2.length c1) := (hbb.cell (p := ⟨w.heap.size, 1, none⟩) (by simp)).trans (World.cell?_alloc_new w #[.string t1, .slice A1 t2.length c1, .string t3] 97 1)
  have k2 : Wb.cell? ⟨w.heap.size, 2, none⟩ = some (.string t3) := (hbb.cell (p := ⟨w.heap.size, 2, none⟩) (by simp)).trans (World.cell?_alloc_new w #[.string t1, .slice A1 t2.length c1, .string t3] 97 2)
  have hnew := fun j => World.cell?_alloc_new (w.alloc (.cells #[.string t1, .slice A1 t2.length c1, .string t3] 97)) #[.string x0, .bool x1, .slice A2 x2.length c2x] 53 j
  rw [hWb, World.size_alloc] at hnew
  have m0 : Wb.cell? ⟨w.heap.size + 1, 0, none⟩ = some (.string x0) := hnew 0
  have m2 : Wb.cell? ⟨w.heap.size + 1, 2, none⟩ = some (.slice A2 x2.length c2x) := hnew 2
  have hB : Below w.heap.size w Wb := hba.trans (hbb.mono (by simp))
  have HB := Aside0.mk hB
  have HSZ := Aside0.mk hsz
  have HLb := Aside0.mk (HL.out.below hB)
  rw [hWb]
  have K1 := Aside0.mk k1
  have K2 := Aside0.mk k2
  have M0 := Aside0.mk m0
  have M2 := Aside0.mk m2
  clear hWb hba hbb hnew hB hsz k1 k2 m2
  go_wp2_with (go_at_call 76; refine (strings_Split.calls x0 ⟨#[46]⟩ sg _ HLb.out HS.out).mono ?_; rintro e w1 ⟨v, rfl, hR1, hb1⟩; obtain ⟨A4, c4, rfl, hl4, hC4⟩ := Kd.R_reads hR1; have HB1 := Aside0.mk hb1; have HC4 := Aside0.mk hC4; have HL4 := Aside0.mk hl4; clear hb1 hC4 hl4 hR1)
  go_loopw [17] (fun v17 wr => ∃ i : Nat, v17 = .int .i64 (i : Int) ∧ i ≤ sg.length ∧ Aside0 ((sg.drop i).any (segBad (t1, t2, t3)) = sg.any (segBad (t1, t2, t3))) ∧ Aside0 (Below w1.heap.size w1 wr)) (fun v17 _ => sg.length - (intOf v17).toNat)
  case atStart => exact ⟨0, rfl, Nat.zero_le _, ⟨rfl⟩, ⟨Below.refl _ _⟩⟩
  case round =>
    obtain ⟨i, rfl, hi, HG, HBr⟩ := hrel
    have HBB := Aside0.mk (HB1.out.trans (HBr.out.mono HB1.out.size))
    have hb2 : w.heap.size + 2 = Wb.heap.size := HSZ.out.symm
    by_cases hil : i < sg.length
    · have hd : decide ((i : Int) < (sg.length : Int)) = true := decide_eq_true (by omega)
      have hdn : decide (i < sg.length) = true := decide_eq_true hil
      obtain ⟨ad, e1, hx0⟩ := Kd.at_string HC4.out (i : Int) (by omega) (by omega)
      cases e1
      rw [Int.toNat_natCast] at hx0
      replace hx0 := (HBr.out.cell (World.block_lt_of_cell? w1 _ hx0)).trans hx0
      have hdr : sg.drop i = rdOf ByteArray.empty sg (i : Int) :: sg.drop (i + 1) := by
        unfold rdOf
        rw [Int.toNat_natCast, List.getD_eq_getElem?_getD, List.getElem?_eq_getElem hil, List.drop_eq_getElem_cons hil]
        rfl
      have hG := HG.out
      rw [hdr, List.any_cons] at hG
      generalize rdOf ByteArray.empty sg (i : Int) = s at hx0 hG
      have c2 : wr.cell? ⟨w.heap.size, 2, none⟩ = some (.string t3) := (HBB.out.cell (p := ⟨w.heap.size, 2, none⟩) (by show w.heap.size < _; omega)).trans K2.out
      have HG1 := Aside0.mk hG
      have HLr := Aside0.mk (HLb.out.below HBB.out)
      have HCt : Aside0 (strings_Contains.f t3 s = some (Lib.contains t3.data.toList s.data.toList)) := ⟨by unfold strings_Contains.f; rw [if_pos (by omega)]⟩
      clear hG HG hdr hb2
      by_cases h1 : s = star
      · have e1 : (s.toList == [42]) = true := beqT h1 rfl
        have e1' : s.toList = [42] := by simpa using e1
        have hbad : segBad (t1, t2, t3) s = !Lib.contains t3.data.toList s.data.toList := by unfold segBad; rw [decide_eq_true h1]; simp
        rw [hbad] at HG1
        clear hbad h1
        cases hq : Lib.contains t3.data.toList s.data.toList with
        | true =>
          rw [hq] at HCt HG1
          rw [Bool.not_true, Bool.false_or] at HG1
          go_wp2_with (go_at_call 107; refine (strings_Contains.calls t3 s true wr HLr.out HCt.out).mono ?_; rintro e w2 ⟨rfl, hb2⟩; have HB2 := Aside0.mk (HBr.out.trans (hb2.mono HBr.out.size)); clear hb2)
          go_roundw
          case rel => exact ⟨i + 1, by go_num, by omega, HG1, HB2⟩
          case measure => simp [intOf]; omega
        | false =>
          rw [hq] at HCt HG1
          rw [Bool.not_false, Bool.true_or] at HG1
          have hr : (9 : Int) = r := by
            have := HV.out
            rw [← HG1.out, if_pos rfl] at this
            exact this
          subst hr
          go_wp2_with (go_at_call 107; refine (strings_Contains.calls t3 s false wr HLr.out HCt.out).mono ?_; rintro e w2 ⟨rfl, hb2⟩; have HB2 := Aside0.mk (HBB.out.trans (hb2.mono HBB.out.size)); clear hb2)
          go_ret
          exact ⟨rfl, HB.out.trans (HB2.out.mono HB.out.size)⟩
      · have e1 : (s.toList == [42]) = false := beqL' h1 rfl
        have e1' : ¬ s.toList = [42] := fun e => by rw [e] at e1; simp at e1
        by_cases h2 : s = plusB
        · have e2 : (s.toList == [43]) = true := beqT h2 rfl
          have e2' : s.toList = [43] := by simpa using e2
          have hbad : segBad (t1, t2, t3) s = !Lib.contains t3.data.toList s.data.toList := by unfold segBad; rw [decide_eq_false h1, decide_eq_true h2]; simp
          rw [hbad] at HG1
          clear hbad h1 h2
          cases hq : Lib.contains t3.data.toList s.data.toList with
          | true =>
            rw [hq] at HCt HG1
            rw [Bool.not_true, Bool.false_or] at HG1
            go_wp2_with (go_at_call 107; refine (strings_Contains.calls t3 s true wr HLr.out HCt.out).mono ?_; rintro e w2 ⟨rfl, hb2⟩; have HB2 := Aside0.mk (HBr.out.trans (hb2.mono HBr.out.size)); clear hb2)
            go_roundw
            case rel => exact ⟨i + 1, by go_num, by omega, HG1, HB2⟩
            case measure => simp [intOf]; omega
          | false =>
            rw [hq] at HCt HG1
            rw [Bool.not_false, Bool.true_or] at HG1
            have hr : (9 : Int) = r := by
              have := HV.out
              rw [← HG1.out, if_pos rfl] at this
              exact this
            subst hr
            go_wp2_with (go_at_call 107; refine (strings_Contains.calls t3 s false wr HLr.out HCt.out).mono ?_; rintro e w2 ⟨rfl, hb2⟩; have HB2 := Aside0.mk (HBB.out.trans (hb2.mono HBB.out.size)); clear hb2)
            go_ret
            exact ⟨rfl, HB.out.trans (HB2.out.mono HB.out.size)⟩
        · have e2 : (s.toList == [43]) = false := beqL' h2 rfl
          have e2' : ¬ s.toList = [43] := fun e => by rw [e] at e2; simp at e2
          have hbad : segBad (t1, t2, t3) s = false := by unfold segBad; rw [decide_eq_false h1, decide_eq_false h2]; rfl
          rw [hbad, Bool.false_or] at HG1
          clear h1 h2 hbad
          go_wp2
          go_roundw
          case rel => exact ⟨i + 1, by go_num, by omega, HG1, HBr⟩
          case measure => simp [intOf]; omega
    · have hd : decide ((i : Int) < (sg.length : Int)) = false := decide_eq_false (by omega)
      have hdn : decide (i < sg.length) = false := decide_eq_false hil
      have hG := HG.out
      rw [List.drop_eq_nil_of_le (by omega)] at hG
      have hv := HV.out
      rw [← hG, if_neg (by simp)] at hv
      obtain ⟨n1, n2, hn⟩ : ∃ n1 n2, normalE x2 = (n1, n2) := ⟨_, _, rfl⟩
      obtain ⟨f1, f2, fd, hf⟩ : ∃ f1 f2 fd, findV chart x0 = (f1, f2, fd) := ⟨_, _, _, rfl⟩
      have hN := Normal_f x2 HOE.out o2 (x2.length + 1) (by omega)
      have hF := find_f chart x0 o6 (chart.length + 1) (by omega)
      rw [hn] at hv hN
      rw [hf] at hv hF
      simp only at hv
      obtain ⟨q, hq⟩ : ∃ q, (n1.any fun c => !memB c.f0 t2) = q := ⟨_, rfl⟩
      rw [hq] at hv
      have HN := Aside0.mk hN
      have HF := Aside0.mk hF
      have HQ := Aside0.mk hq
      have HVV := Aside0.mk hv
      have HBw := Aside0.mk (HB.out.trans (HBB.out.mono HB.out.size))
      have HLr := Aside0.mk (HL.out.below HBw.out)
      have HEG : Aside0 (∀ args w, (callFunc 109 args).run Tryz.prog w = .ok (.enter 109 args) w) := ⟨enters_of Tryz.func109 (by kernel_rfl) rfl⟩
      have m2 : wr.cell? ⟨w.heap.size + 1, 2, none⟩ = some (.slice A2 x2.length c2x) := (HBB.out.cell (p := ⟨w.heap.size + 1, 2, none⟩) (by show w.heap.size + 1 < _; omega)).trans M2.out
      clear hv hN hF hq hG HG hn hf hil hd HB1 HC4 HL4
      cases q with
      | true =>
        have hr := HVV.out
        rw [if_pos rfl] at hr
        subst hr
        go_wp2_with (first
        | (go_at_call 94; refine (X.expression_Normal.calls (x2.length + 1) A2 c2x x2 n1 n2 wr HLr.out (Kd.C_below HX.out HBw.out) hcx HN.out).mono ?_; rintro e w2 ⟨v, rfl, hR2, hb2⟩; obtain ⟨A5, c5, rfl, hl5, hC5⟩ := Kd.R_reads hR2; have HB2 := Aside0.mk (HBw.out.trans (hb2.mono HBw.out.size)); have HBB2 := Aside0.mk (HBB.out.trans (hb2.mono HBB.out.size)); have HC5 := Aside0.mk hC5; have HL5 := Aside0.mk hl5; clear hb2 hC5 hl5 hR2)
        | (go_at_call 108; refine (containsCoef A5 c5 n1 _ _ _ HEG.out _ HC5.out (Kd.C_max HC5.out) (checkLine1 t1 t3 t2 A1 c1 w.heap.size _ (by have := HBB2.out.size; omega) ((HBB2.out.cell (p := ⟨w.heap.size, 1, none⟩) (by show w.heap.size < _; omega)).trans K1.out) hct (Kd.C_below HT.out HB2.out) o5)).mono ?_; rw [HQ.out]; rintro e w3 ⟨rfl, hb3⟩; have HB3 := Aside0.mk (HB2.out.trans (hb3.mono HB2.out.size)); have x3 : w3.cell? ⟨w.heap.size + 1, 0, none⟩ = some (.string x0) := ((HBB2.out.trans (hb3.mono HBB2.out.size)).cell (p := ⟨w.heap.size + 1, 0, none⟩) (by show w.heap.size + 1 < _; omega)).trans M0.out; clear hb3)
        | (go_at_call 47; refine (X.account_Find.calls (chart.length + 1) A3 c3 chart x0 f1 f2 _ _ (Kd.C_below HH.out HB3.out) hch HF.out).mono ?_; rintro e w4 ⟨rfl, hb4⟩; have HB4 := Aside0.mk (HB3.out.trans (hb4.mono HB3.out.size)); clear hb4))
        go_ret
        exact ⟨rfl, HB3.out⟩
      | false =>
        have hr := HVV.out
        rw [if_neg (by simp)] at hr
        cases fd with
        | true =>
          rw [if_pos rfl] at hr
          subst hr
          go_wp2_with (first
        | (go_at_call 94; refine (X.expression_Normal.calls (x2.length + 1) A2 c2x x2 n1 n2 wr HLr.out (Kd.C_below HX.out HBw.out) hcx HN.out).mono ?_; rintro e w2 ⟨v, rfl, hR2, hb2⟩; obtain ⟨A5, c5, rfl, hl5, hC5⟩ := Kd.R_reads hR2; have HB2 := Aside0.mk (HBw.out.trans (hb2.mono HBw.out.size)); have HBB2 := Aside0.mk (HBB.out.trans (hb2.mono HBB.out.size)); have HC5 := Aside0.mk hC5; have HL5 := Aside0.mk hl5; clear hb2 hC5 hl5 hR2)
        | (go_at_call 108; refine (containsCoef A5 c5 n1 _ _ _ HEG.out _ HC5.out (Kd.C_max HC5.out) (checkLine1 t1 t3 t2 A1 c1 w.heap.size _ (by have := HBB2.out.size; omega) ((HBB2.out.cell (p := ⟨w.heap.size, 1, none⟩) (by show w.heap.size < _; omega)).trans K1.out) hct (Kd.C_below HT.out HB2.out) o5)).mono ?_; rw [HQ.out]; rintro e w3 ⟨rfl, hb3⟩; have HB3 := Aside0.mk (HB2.out.trans (hb3.mono HB2.out.size)); have x3 : w3.cell? ⟨w.heap.size + 1, 0, none⟩ = some (.string x0) := ((HBB2.out.trans (hb3.mono HBB2.out.size)).cell (p := ⟨w.heap.size + 1, 0, none⟩) (by show w.heap.size + 1 < _; omega)).trans M0.out; clear hb3)
        | (go_at_call 47; refine (X.account_Find.calls (chart.length + 1) A3 c3 chart x0 f1 f2 _ _ (Kd.C_below HH.out HB3.out) hch HF.out).mono ?_; rintro e w4 ⟨rfl, hb4⟩; have HB4 := Aside0.mk (HB3.out.trans (hb4.mono HB3.out.size)); clear hb4))
          go_ret
          exact ⟨rfl, HB4.out.alloc HB4.out.size _⟩
        | false =>
          rw [if_neg (by simp)] at hr
          subst hr
          go_wp2_with (first
        | (go_at_call 94; refine (X.expression_Normal.calls (x2.length + 1) A2 c2x x2 n1 n2 wr HLr.out (Kd.C_below HX.out HBw.out) hcx HN.out).mono ?_; rintro e w2 ⟨v, rfl, hR2, hb2⟩; obtain ⟨A5, c5, rfl, hl5, hC5⟩ := Kd.R_reads hR2; have HB2 := Aside0.mk (HBw.out.trans (hb2.mono HBw.out.size)); have HBB2 := Aside0.mk (HBB.out.trans (hb2.mono HBB.out.size)); have HC5 := Aside0.mk hC5; have HL5 := Aside0.mk hl5; clear hb2 hC5 hl5 hR2)
        | (go_at_call 108; refine (containsCoef A5 c5 n1 _ _ _ HEG.out _ HC5.out (Kd.C_max HC5.out) (checkLine1 t1 t3 t2 A1 c1 w.heap.size _ (by have := HBB2.out.size; omega) ((HBB2.out.cell (p := ⟨w.heap.size, 1, none⟩) (by show w.heap.size < _; omega)).trans K1.out) hct (Kd.C_below HT.out HB2.out) o5)).mono ?_; rw [HQ.out]; rintro e w3 ⟨rfl, hb3⟩; have HB3 := Aside0.mk (HB2.out.trans (hb3.mono HB2.out.size)); have x3 : w3.cell? ⟨w.heap.size + 1, 0, none⟩ = some (.string x0) := ((HBB2.out.trans (hb3.mono HBB2.out.size)).cell (p := ⟨w.heap.size + 1, 0, none⟩) (by show w.heap.size + 1 < _; omega)).trans M0.out; clear hb3)
        | (go_at_call 47; refine (X.account_Find.calls (chart.length + 1) A3 c3 chart x0 f1 f2 _ _ (Kd.C_below HH.out HB3.out) hch HF.out).mono ?_; rintro e w4 ⟨rfl, hb4⟩; have HB4 := Aside0.mk (HB3.out.trans (hb4.mono HB3.out.size)); clear hb4))
          go_ret
          exact ⟨rfl, HB4.out.alloc HB4.out.size _⟩
end Go.Proofs.YtblcgcibkikgeaaGreatDoor.G
end
section
namespace Go.Proofs.YtblcgcibkikgeaaGreatDoor.P
open Go Go.RowKit Go.Proofs.YtblcgcibkikgeaaGreatDoor.K Go.Proofs.YtblcgcibkikgeaaGreatDoor.G1 Go.Proofs.YtblcgcibkikgeaaGreatDoor.G
def onB : ByteArray := ⟨#[111, 110]⟩
def debitB : ByteArray := ⟨#[100, 101, 98, 105, 116]⟩
def creditB : ByteArray := ⟨#[99, 114, 101, 100, 105, 116]⟩
def stepW (word rest : ByteArray) (xs : List Ru) : Option (List Ru) :=
  if word = onB then (wordOf rest).map (fun n => xs ++ [⟨n, []⟩])
  else if word = debitB then entryV false rest xs
  else if word = creditB then entryV true rest xs else none
def stepR (line : ByteArray) (xs : List Ru) : Option (List Ru) := stepW (bsz (cut1 32 line.data.toList).1) (bsz (cut1 32 line.data.toList).2.1) xs
def finishR (xs : List Ru) : List Ru × Int × Int := if xs.length > 64 ∨ xs.any longRule = true then ([], 0, 4) else (xs, 0, 0)
def linesR : Nat → List ByteArray → List Ru → List Ru × Int × Int
  | _, [], xs => finishR xs
  | i, x :: l, xs =>
    if l = [] then (if x = ⟨#[]⟩ then finishR xs else ([], (i : Int) + 1, 3))
    else match stepR x xs with | some ys => linesR (i + 1) l ys | none => ([], (i : Int) + 1, 3)
def parseR (s : ByteArray) : List Ru × Int × Int := if s.size > 65536 then ([], 0, 4) else linesR 0 (segsB 10 s) []
theorem linesR_cons (i : Nat) (x : ByteArray) (l : List ByteArray) (xs : List Ru) : linesR i (x :: l) xs = if l = [] then (if x = ⟨#[]⟩ then finishR xs else ([], (i : Int) + 1, 3)) else match stepR x xs with | some ys => linesR (i + 1) l ys | none => ([], (i : Int) + 1, 3) := by rw [linesR]
theorem entryV_small {cr : Bool} {s : ByteArray} {xs ys : List Ru} {i : Nat} (h : entryV cr s xs = some ys) (h1 : xs.length ≤ i) (h2 : ∀ x ∈ xs, x.f1.length ≤ i) : ys.length ≤ i + 1 ∧ ∀ x ∈ ys, x.f1.length ≤ i + 1 := by
  unfold entryV at h
  simp only at h
  split at h
  case isFalse => cases h
  split at h
  case isFalse => cases h
  split at h
  case isFalse => cases h
  split at h
  · cases h
  · rename_i r hr
    have hm := List.mem_of_getLast? hr
    have hne : xs ≠ [] := by intro e; rw [e] at hr; simp at hr
    have hl := List.length_pos_iff.2 hne
    obtain rfl := Option.some.inj h
    refine ⟨by simp; omega, fun x hx => ?_⟩
    rcases List.mem_append.1 hx with hx | hx
    · exact Nat.le_succ_of_le (h2 x (List.dropLast_subset _ hx))
    · rw [List.mem_singleton] at hx
      subst hx
      have := h2 r hm
      simp
      omega
theorem stepW_small {word rest : ByteArray} {xs ys : List Ru} {i : Nat} (h : stepW word rest xs = some ys) (h1 : xs.length ≤ i) (h2 : ∀ x ∈ xs, x.f1.length ≤ i) : ys.length ≤ i + 1 ∧ ∀ x ∈ ys, x.f1.length ≤ i + 1 := by
  unfold stepW at h
  split at h
  · obtain ⟨n, hn, rfl⟩ := Option.map_eq_some_iff.1 h
    refine ⟨by simp; omega, fun x hx => ?_⟩
    rcases List.mem_append.1 hx with hx | hx
    · exact Nat.le_succ_of_le (h2 x hx)
    · rw [List.mem_singleton] at hx
      subst hx
      exact Nat.zero_le _
  · split at h
    · exact entryV_small h h1 h2
    · split at h
      · exact entryV_small h h1 h2
      · cases h
end Go.Proofs.YtblcgcibkikgeaaGreatDoor.P
namespace Go.Proofs.YtblcgcibkikgeaaGreatDoor.G
open Go Go.RowKit Go.Shelf Go.Proofs.YtblcgcibkikgeaaGreatDoorW.PrintWords Go.Proofs.YtblcgcibkikgeaaGreatDoorW.PrintLast Go.Proofs.YtblcgcibkikgeaaGreatDoorW.PrintMore Go.Proofs.YtblcgcibkikgeaaGreatDoor.K Go.Proofs.YtblcgcibkikgeaaGreatDoor.G1 Go.Proofs.YtblcgcibkikgeaaGreatDoor.P Go.Proofs.YtblcgcibkikgeaaGreatDoor.RF
set_option linter.unusedVariables false
def RJ (b : Nat) (w : World) (l : List (ByteArray × Value)) (cs : List Bool) (W : World) : Prop :=
  W.heap.size = b + 2 + cs.length ∧ Below b w W ∧ W.heap[b]? = some (.cells #[.slice none 0 0] 22 (0, 0)) ∧ W.heap[b + 1]? = some (M.obj Value.string l) ∧ ∀ i c, cs[i]? = some c → W.heap[b + 2 + i]? = some (.cells #[.bool c] 4 (0, 0))
theorem RJ.start (w : World) : RJ w.heap.size w [] [] ((w.alloc (.cells #[.slice none 0 0] 22)).alloc (.map #[] 0)) := by
  refine ⟨by simp, ((Below.refl _ _).alloc (Nat.le_refl _) _).alloc (by simp) _, ?_, ?_, fun i c h => by simp at h⟩
  · rw [Below.heap_alloc _ _ _ (by simp)]
    exact World.alloc_heap_new _ _
  · have := World.alloc_heap_new (w.alloc (.cells #[.slice none 0 0] 22)) (.map #[] 0)
    rw [World.size_alloc] at this
    exact this
theorem RJ.put {b : Nat} {w W : World} {l : List (ByteArray × Value)} {cs : List Bool} (h : RJ b w l cs W) (k : ByteArray) (v : Value) : RJ b w (M.put l k v) cs (W.putObj (b + 1) (M.obj Value.string (M.put l k v))) := by
  obtain ⟨h1, h2, h3, h4, h5⟩ := h
  refine ⟨by simp [h1], h2.trans ⟨rfl, rfl, rfl, by simp, fun k hk => World.putObj_heap_other (by omega)⟩, (World.putObj_heap_other (by omega)).trans h3, World.putObj_heap_same (by omega), fun i c hc => (World.putObj_heap_other (by omega)).trans (h5 i c hc)⟩
theorem RJ.box {b : Nat} {w W : World} {l : List (ByteArray × Value)} {cs : List Bool} (h : RJ b w l cs W) (c : Bool) : RJ b w l (cs ++ [c]) (W.alloc (.cells #[.bool c] 4)) := by
  obtain ⟨h1, h2, h3, h4, h5⟩ := h
  refine ⟨by simp [h1]; omega, h2.alloc (by omega) _, (Below.heap_alloc _ _ _ (by omega)).trans h3, (Below.heap_alloc _ _ _ (by omega)).trans h4, fun i d hd => ?_⟩
  by_cases hi : i < cs.length
  · rw [List.getElem?_append_left hi] at hd
    exact (Below.heap_alloc _ _ _ (by omega)).trans (h5 i d hd)
  · rw [List.getElem?_append_right (by omega)] at hd
    have hl := (List.getElem?_eq_some_iff.1 hd).1
    rw [List.length_singleton] at hl
    have hi0 : i - cs.length = 0 := by omega
    rw [hi0] at hd
    simp at hd
    subst hd
    rw [show b + 2 + i = W.heap.size by omega]
    exact World.alloc_heap_new _ _
theorem wpList_ins {ops : Array Oper} {rest : List Oper} {o : Oper} {a : Act} {Q : Exit → Act → World → Prop} {w W : World} {b : Nat} {l : List (ByteArray × Value)} {cs : List Bool} (hgd : o.guard = none) {m k x : Operand} (hop : o.op = .insert 122 m k x)
    (hm : a.eval m = .map (some (b + 1))) {key : ByteArray} (hk : a.eval k = .string key) {v : Value} (hv : a.eval x = v) (hA : RJ b w l cs W)
    (hnext : ∀ W', RJ b w (M.put l key v) cs W' → wpList Tryz.prog ops Q rest (a.put o.dst undef) W') : wpList Tryz.prog ops Q (o :: rest) a W := by
  refine wpList_plain hgd fun K' hK' => ?_
  have hrun := M.run_update (M.keys_string (P := Tryz.prog) Tryz.underlying9) Tryz.underlying122 hA.2.2.2.1 key v
  unfold Oper.wp
  simp [execOp, hop, hm, hk, hv, hrun, Result.andThen]
  exact hK' _ _ (hnext _ (hA.put key v))
theorem run_equalIn_nilF {P : Program} (w : World) (d : Nat) (t : TypeId) {ps rs vd} (h : P.underlying t = some (.func ps rs vd)) : (Op.equalIn (d + 1) t .nilFunc .nilFunc).run P w = .ok true w := by
  simp [Op.equalIn, run_underlying h]
theorem run_equalIn_funcF {P : Program} (w : World) (d : Nat) (t : TypeId) {ps rs vd} (h : P.underlying t = some (.func ps rs vd)) (g : Fn) (a b : Array Value) : (Op.equalIn (d + 1) t (.func g a b) .nilFunc).run P w = .ok false w := by
  simp [Op.equalIn, run_underlying h]
theorem run_eql_nilF {P : Program} (w : World) (t : TypeId) {ps rs vd} (h : P.underlying t = some (.func ps rs vd)) : (binOp .eql t .nilFunc .nilFunc).run P w = .ok (.bool true) w := by
  simp only [binOp]
  simp [Op.equal, Op.maxDepth, run_equalIn_nilF w 9999 t h]
theorem run_eql_funcF {P : Program} (w : World) (t : TypeId) {ps rs vd} (h : P.underlying t = some (.func ps rs vd)) (g : Fn) (a b : Array Value) : (binOp .eql t (.func g a b) .nilFunc).run P w = .ok (.bool false) w := by
  simp only [binOp]
  simp [Op.equal, Op.maxDepth, run_equalIn_funcF w 9999 t h]
theorem segsB_pos (c : UInt8) (s : ByteArray) : 0 < (segsB c s).length := by
  rw [segsB_cut]
  split <;> simp
def rdF (b : Nat) : List (ByteArray × Value) :=
  M.put (M.put (M.put [] onB (.func (.func 82) #[] #[.pointer (some ⟨b, 0, none⟩)])) debitB (.func (.func 78) #[] #[.pointer (some ⟨b, 0, none⟩), .pointer (some ⟨b + 2, 0, none⟩)])) creditB (.func (.func 78) #[] #[.pointer (some ⟨b, 0, none⟩), .pointer (some ⟨b + 3, 0, none⟩)])
theorem parse1J (b N : Nat) (cr : Bool) (w W : World) (l : List (ByteArray × Value)) (cs : List Bool) (hA : RJ b w l cs W) (hN : b + 2 + cs.length = N) : Calls Tryz.prog 77 #[.bool cr, .pointer (some ⟨b, 0, none⟩)] W fun e w' => e = .returned (.func (.func 78) #[] #[.pointer (some ⟨b, 0, none⟩), .pointer (some ⟨N, 0, none⟩)]) ∧ RJ b w l (cs ++ [cr]) w' := by
  refine (parse1 b cr W).mono ?_
  rintro e w' ⟨rfl, rfl⟩
  refine ⟨?_, hA.box cr⟩
  rw [hA.1, hN]
theorem reader_none {b : Nat} {word rest : ByteArray} {xs : List Ru} (h : M.get (rdF b) word = none) : stepW word rest xs = none := by
  unfold rdF at h
  rw [M.get_put, M.get_put, M.get_put] at h
  unfold stepW
  by_cases h1 : word = creditB
  · rw [if_pos h1] at h; cases h
  · rw [if_neg h1] at h
    by_cases h2 : word = debitB
    · rw [if_pos h2] at h; cases h
    · rw [if_neg h2] at h
      by_cases h3 : word = onB
      · rw [if_pos h3] at h; cases h
      · rw [if_neg h3, if_neg h2, if_neg h1]
def ReaderQ (b : Nat) (w1 : World) (word : ByteArray) (g : Nat) (lb : Array Value) : Prop :=
  ∀ (rest : ByteArray) (xs : List Ru) (W : World), Laid W → rest.size ≤ 65536 → xs.length ≤ 100000 → (∀ x ∈ xs, x.f1.length ≤ 100000) → OutJ b w1 xs W → W.heap[b + 2]? = some (.cells #[.bool false] 4 (0, 0)) → W.heap[b + 3]? = some (.cells #[.bool true] 4 (0, 0)) →
    Calls Tryz.prog g (#[.string rest] ++ lb) W fun e w' => e = .returned (.bool (stepW word rest xs).isSome) ∧ OutJ b w1 ((stepW word rest xs).getD xs) w' ∧ KeptJ b W w'
theorem reader_some {b : Nat} (w1 : World) {word : ByteArray} {F : Value} (h : M.get (rdF b) word = some F) : ∃ g lb, F = .func (.func g) #[] lb ∧ (∀ args w, (callFunc g args).run Tryz.prog w = .ok (.enter g args) w) ∧ ReaderQ b w1 word g lb := by
  unfold rdF at h
  rw [M.get_put, M.get_put, M.get_put] at h
  by_cases h1 : word = creditB
  · rw [if_pos h1] at h
    obtain rfl := Option.some.inj h
    refine ⟨_, _, rfl, enters_of Tryz.func78 (by kernel_rfl) rfl, fun rest xs W hL hs hx hxx hJ hb2 hb3 => ?_⟩
    have hst : stepW word rest xs = entryV true rest xs := by rw [h1]; rfl
    rw [hst]
    exact parse11 rest true b (b + 3) xs w1 W hL hs (by omega) hx hxx hJ hb3
  · rw [if_neg h1] at h
    by_cases h2 : word = debitB
    · rw [if_pos h2] at h
      obtain rfl := Option.some.inj h
      refine ⟨_, _, rfl, enters_of Tryz.func78 (by kernel_rfl) rfl, fun rest xs W hL hs hx hxx hJ hb2 hb3 => ?_⟩
      have hst : stepW word rest xs = entryV false rest xs := by rw [h2]; rfl
      rw [hst]
      exact parse11 rest false b (b + 2) xs w1 W hL hs (by omega) hx hxx hJ hb2
    · rw [if_neg h2] at h
      by_cases h3 : word = onB
      · rw [if_pos h3] at h
        obtain rfl := Option.some.inj h
        refine ⟨_, _, rfl, enters_of Tryz.func82 (by kernel_rfl) rfl, fun rest xs W hL hs hx hxx hJ hb2 hb3 => ?_⟩
        have hst : stepW word rest xs = (wordOf rest).map (fun n => xs ++ [(⟨n, []⟩ : Ru)]) := by rw [h3]; rfl
        have h4 := parse2 rest b xs w1 W hx hJ
        rw [hst]
        refine h4.mono ?_
        rintro e w' ⟨rfl, h5, h6⟩
        unfold on at h5
        cases hw : wordOf rest with
        | none => rw [hw] at h5; exact ⟨rfl, h5, h6⟩
        | some n => rw [hw] at h5; exact ⟨rfl, h5, h6⟩
      · rw [if_neg h3] at h; cases h
theorem RJ.outJ {b : Nat} {w W : World} {l : List (ByteArray × Value)} {cs : List Bool} (h : RJ b w l cs W) : OutJ b w [] W :=
  ⟨fun n hn => h.2.1.mono hn, _, h.2.2.1, Kd.S_nil _ _ _ _ _⟩
def rule_Parse.f (a0 : ByteArray) : Option ((List Ru) × Int × Int) := some (parseR a0)
set_option maxHeartbeats 2000000 in
set_option maxRecDepth 100000 in
theorem rule_Parse.end (a0 : ByteArray) (r1 : List Ru) (r2 : Int) (r3 : Int) (w : World) (hL : Laid w) (h : parseR a0 = (r1, r2, r3)) :
    Calls Tryz.prog 37 #[.string a0] w fun e w' => ∃ v0_ : Value, e = .returned (.tuple #[v0_, .int .i64 r2, .int .i64 r3]) ∧ Kd.R k32 32 w' w.heap.size (fun _ => True) v0_ r1 ∧ Below w.heap.size w w' := by
  have HL := Aside0.mk hL
  unfold parseR at h
  by_cases hbig : a0.size > 65536
  · rw [if_pos hbig] at h
    cases h
    have hd : decide ((65536 : Int) < (a0.size : Int)) = true := decide_eq_true (by omega)
    have hdn : decide (65536 < a0.size) = true := decide_eq_true hbig
    clear hL
    go_enter Tryz.func37, Tryz.ntmps37
    go_wp2
    go_ret3
    exact ⟨_, rfl, Kd.R_nil _ _ _ _ _, Below.refl _ _⟩
  rw [if_neg hbig] at h
  have hd : decide ((65536 : Int) < (a0.size : Int)) = false := decide_eq_false (by omega)
  have hdn : decide (65536 < a0.size) = false := decide_eq_false hbig
  have hsz : a0.size ≤ 65536 := by omega
  have HS : Aside0 (strings_Split.f a0 ⟨#[10]⟩ = some (segsB 10 a0)) := ⟨by
    unfold strings_Split.f
    rw [if_pos ⟨by omega, by decide⟩, splitB_segs]⟩
  have hsl : (segsB 10 a0).length ≤ 65537 := by have := segsB_length 10 a0; omega
  have hsp : 0 < (segsB 10 a0).length := segsB_pos 10 a0
  have HSM : Aside0 (∀ x ∈ segsB 10 a0, x.size ≤ 65536) := ⟨fun x hx => Nat.le_trans (segsB_mem_size 10 a0 x hx) hsz⟩
  obtain ⟨sg, hsg⟩ : ∃ sg, segsB 10 a0 = sg := ⟨_, rfl⟩
  rw [hsg] at HS h hsl hsp HSM
  have HE := Aside0.mk h
  have hmk := fun W => run_makeMap (P := Tryz.prog) 122 W
  clear hL h hbig hsg
  go_enter Tryz.func37, Tryz.ntmps37
  go_upto_region 6 with (go_at_call 76; refine (strings_Split.calls a0 ⟨#[10]⟩ sg _ HL.out HS.out).mono ?_; rintro e w1 ⟨v, rfl, hR1, hb1⟩; obtain ⟨A4, c4, rfl, hl4, hC4⟩ := Kd.R_reads hR1; have HB1 := Aside0.mk hb1; have HC4 := Aside0.mk hC4; have HL4 := Aside0.mk hl4; clear hb1 hC4 hl4 hR1)
  have HA := Aside0.mk (RJ.start w1)
  have hlt1 : w.heap.size ≤ w1.heap.size := HB1.out.size
  obtain ⟨b, hb⟩ : ∃ b, w1.heap.size = b := ⟨_, rfl⟩
  have HSB := Aside0.mk hb
  rw [hb] at HA hlt1 ⊢
  have n2 : b + 2 + ([] : List Bool).length = b + 2 := rfl
  have n3 : b + 2 + [false].length = b + 3 := rfl
  have N2 := Aside0.mk n2
  have N3 := Aside0.mk n3
  clear n2 n3
  go_wp2_with (first
    | (refine wpList_ins rfl rfl rfl rfl rfl HA.out ?_; intro W' hA; clear HA; have HA := Aside0.mk hA; clear hA)
    | (go_at_call 77; (with_reducible refine (parse1J b (b + 2) false w1 _ _ [] HA.out N2.out).mono ?_); rintro e W' ⟨rfl, hA⟩; clear HA; have HA := Aside0.mk hA; clear hA)
    | (go_at_call 77; (with_reducible refine (parse1J b (b + 3) true w1 _ _ [false] HA.out N3.out).mono ?_); rintro e W' ⟨rfl, hA⟩; clear HA; have HA := Aside0.mk hA; clear hA))
  have HA2 : Aside0 (RJ b w1 (rdF b) [false, true] W') := ⟨HA.out⟩
  have HLS : Aside0 (Laid w1) := ⟨HL.out.below HB1.out⟩
  have J0 : Aside0 (OutJ b w1 [] W') := ⟨HA2.out.outJ⟩
  have K0 : Aside0 (KeptJ b W' W') := ⟨KeptJ.refl _ _⟩
  clear HA N2 N3 hmk hb HL
  go_loopw [30] (fun v30 wr => ∃ (i : Nat) (xs : List Ru), v30 = .int .i64 (i : Int) ∧ i < sg.length ∧ xs.length ≤ i ∧ Aside0 (∀ x ∈ xs, x.f1.length ≤ i) ∧ Aside0 (linesR i (sg.drop i) xs = (r1, r2, r3)) ∧ Aside0 (OutJ b w1 xs wr) ∧ Aside0 (KeptJ b W' wr)) (fun v30 _ => sg.length - (intOf v30).toNat)
  case atStart => exact ⟨0, [], rfl, hsp, Nat.le_refl _, ⟨fun x h => by simp at h⟩, HE, J0, K0⟩
  case round =>
    clear J0 HE K0
    obtain ⟨i, xs, rfl, hil, hxl, HXX, HE, HJ, HK⟩ := hrel
    have hdi : decide ((i : Int) < (sg.length : Int)) = true := decide_eq_true (by omega)
    have hdin : decide (i < sg.length) = true := decide_eq_true hil
    obtain ⟨ad, e1, hx0⟩ := Kd.at_string HC4.out (i : Int) (by omega) (by omega)
    cases e1
    rw [Int.toNat_natCast] at hx0
    have HBr := Aside0.mk (HJ.out.1 b (Nat.le_refl _))
    replace hx0 := (HBr.out.cell (by rw [← HSB.out]; exact World.block_lt_of_cell? w1 _ hx0)).trans hx0
    have hdr : sg.drop i = rdOf ByteArray.empty sg (i : Int) :: sg.drop (i + 1) := by
      unfold rdOf
      rw [Int.toNat_natCast, List.getD_eq_getElem?_getD, List.getElem?_eq_getElem hil, List.drop_eq_getElem_cons hil]
      rfl
    have hmem : rdOf ByteArray.empty sg (i : Int) ∈ sg := by
      have : rdOf ByteArray.empty sg (i : Int) ∈ sg.drop i := by rw [hdr]; simp
      exact List.mem_of_mem_drop this
    have hss := HSM.out _ hmem
    have hE := HE.out
    rw [hdr, linesR_cons] at hE
    generalize rdOf ByteArray.empty sg (i : Int) = s at hx0 hE hss
    have HBW : Aside0 (Below w.heap.size w wr) := ⟨HB1.out.trans (HBr.out.mono hlt1)⟩
    clear hdr hmem HE
    by_cases hlast : i + 1 = sg.length
    · rw [if_pos (List.drop_eq_nil_of_le (by omega))] at hE
      have b1 : ((i : Int) == (sg.length : Int) - 1) = true := beq_iff_eq.2 (by omega)
      have b2 : decide ((i : Int) = (sg.length : Int) - 1) = true := decide_eq_true (by omega)
      have HLAST := Aside0.mk hlast
      clear hlast
      by_cases hs : s = ⟨#[]⟩
      · rw [if_pos hs] at hE
        have HE2 := Aside0.mk hE
        subst hs
        clear hE
        have HEG : Aside0 (∀ args w, (callFunc 84 args).run Tryz.prog w = .ok (.enter 84 args) w) := ⟨enters_of Tryz.func84 (by kernel_rfl) rfl⟩
        obtain ⟨_, v, hv, hS⟩ := HJ.out
        obtain ⟨A1, c1, rfl, hl1, hC1⟩ := Kd.S_reads hS
        have k0 := hv.cell
        have HS1 := Aside0.mk (Kd.R_lower (Kd.S_R hS) (show w.heap.size ≤ b + 1 by omega))
        have HC1 := Aside0.mk hC1
        have hE := HE2.out
        unfold finishR at hE
        have hx5 : xs.length ≤ 65537 := by omega
        clear hv hS hC1 HLAST HE2 HJ
        by_cases h64 : xs.length > 64
        · have hd64 : decide ((64 : Int) < (xs.length : Int)) = true := decide_eq_true (by omega)
          have hd64n : decide (64 < xs.length) = true := decide_eq_true h64
          rw [if_pos (.inl h64)] at hE
          cases hE
          clear h64
          go_wp2
          go_ret3
          exact ⟨_, rfl, Kd.R_nil _ _ _ _ _, HBW.out⟩
        · have hd64 : decide ((64 : Int) < (xs.length : Int)) = false := decide_eq_false (by omega)
          have hd64n : decide (64 < xs.length) = false := decide_eq_false h64
          have hcall := containsRule A1 c1 xs longRule 84 #[] HEG.out wr HC1.out (by omega) (parse3 wr)
          obtain ⟨q, hq⟩ : ∃ q, xs.any longRule = q := ⟨_, rfl⟩
          rw [hq] at hE hcall
          have HCALL := Aside0.mk hcall
          clear hq hcall
          cases q with
          | true =>
            rw [if_pos (.inr rfl)] at hE
            cases hE
            clear h64
            go_wp2_with (go_at_call 83; refine HCALL.out.mono ?_; rintro e w2 ⟨rfl, hb2⟩; have HB2 := Aside0.mk (HBW.out.trans (hb2.mono HBW.out.size)); clear hb2)
            go_ret3
            exact ⟨_, rfl, Kd.R_nil _ _ _ _ _, HB2.out⟩
          | false =>
            rw [if_neg (fun h => h.elim h64 (fun h => by cases h))] at hE
            cases hE
            clear h64
            go_wp2_with (go_at_call 83; refine HCALL.out.mono ?_; rintro e w2 ⟨rfl, hb2⟩; have HB2 := Aside0.mk (HBW.out.trans (hb2.mono HBW.out.size)); have HS2 := Aside0.mk (Kd.R_below HS1.out hb2); have k2 := (hb2.cell (World.block_lt_of_cell? wr _ k0)).trans k0; clear hb2)
            go_ret3
            exact ⟨_, rfl, HS2.out, HB2.out⟩
      · rw [if_neg hs] at hE
        cases hE
        have n1 := beqL' hs (b := ⟨#[]⟩) rfl
        have n2 : s.toList.isEmpty = false := by
          cases hl : s.toList with
          | nil => rw [hl] at n1; simp at n1
          | cons _ _ => rfl
        have n3 : ¬ s.toList = [] := fun e => by rw [e] at n1; simp at n1
        clear hs
        go_wp2
        go_ret3
        exact ⟨_, rfl, Kd.R_nil _ _ _ _ _, HBW.out⟩
    · have hdne : sg.drop (i + 1) ≠ [] := fun e => by have := congrArg List.length e; simp at this; omega
      rw [if_neg hdne] at hE
      have b1 : ((i : Int) == (sg.length : Int) - 1) = false := beq_eq_false_iff_ne.2 (by omega)
      have b2 : decide ((i : Int) = (sg.length : Int) - 1) = false := decide_eq_false (by omega)
      have hi1 : i + 1 < sg.length := by omega
      obtain ⟨u1, u2, u3, hu⟩ : ∃ u1 u2 u3, cut1 32 s.data.toList = (u1, u2, u3) := ⟨_, _, _, rfl⟩
      have HCUT : Aside0 (strings_Cut.f s ⟨#[32]⟩ = some (bsz u1, bsz u2, u3)) := ⟨by rw [cut_dot s 32 (by omega), hu]⟩
      have hul := cut1_len (c := 32) (l := s.data.toList)
      rw [hu, Array.length_toList] at hul
      have hrs : (bsz u2).size ≤ 65536 := by
        have h1 : (bsz u2).size = u2.length := by show u2.toArray.size = _; simp
        have h2 : u1.length + u2.length ≤ s.size := hul.1
        omega
      unfold stepR at hE
      rw [hu] at hE
      simp only at hE
      have HE2 := Aside0.mk hE
      have hmb := HK.out.2 (b + 1) _ HA2.out.2.2.2.1 (by omega) (fun cells z => ⟨(fun e => by cases e), (fun e => by cases e)⟩)
      have hb2 := HK.out.2 (b + 2) _ (HA2.out.2.2.2.2 0 false rfl) (by omega) (fun cells z => ⟨(fun e => by cases e), (fun e => by cases e)⟩)
      have hb3 := HK.out.2 (b + 3) _ (HA2.out.2.2.2.2 1 true rfl) (by omega) (fun cells z => ⟨(fun e => by cases e), (fun e => by cases e)⟩)
      have HMB := Aside0.mk hmb
      have HQ2 := Aside0.mk hb2
      have HQ3 := Aside0.mk hb3
      have HLR := Aside0.mk (HLS.out.below (by rw [HSB.out]; exact HBr.out))
      clear hdne hlast hul hu hE hmb hb2 hb3
      have hz : ∀ W, (zeroValue 86).run Tryz.prog W = .ok .nilFunc W := fun W => Tryz.zeroValue86 W
      have hlk : Aside0 (∀ W : World, W.heap[b + 1]? = some (M.obj Value.string (rdF b)) → (Instr.lookup 122 (.map (some (b + 1))) (.string (bsz u1)) false).run Tryz.prog W = .ok ((M.get (rdF b) (bsz u1)).getD .nilFunc) W) := ⟨fun W h => M.run_lookup (M.keys_string (P := Tryz.prog) Tryz.underlying9) Tryz.underlying122 hz h (bsz u1) false⟩
      clear hz
      have hqn := fun W : World => run_eql_nilF (P := Tryz.prog) W _ Tryz.underlying86
      have hqf := fun (W : World) (g : Fn) (a b : Array Value) => run_eql_funcF (P := Tryz.prog) W _ Tryz.underlying86 g a b
      cases hg : M.get (rdF b) (bsz u1) with
      | none =>
        have hE := HE2.out
        rw [reader_none hg] at hE
        cases hE
        rw [hg] at hlk
        clear hg
        go_wp2_with (go_at_call 79; refine (strings_Cut.calls s ⟨#[32]⟩ _ _ _ wr HLR.out HCUT.out).mono ?_; rintro e w2 ⟨rfl, hb2⟩; have HB2 := Aside0.mk (HBW.out.trans (hb2.mono HBW.out.size)); have hl2 := hlk.out w2 ((hb2.block _ (Array.getElem?_eq_some_iff.1 HMB.out).1).trans HMB.out); rw [Option.getD_none] at hl2; clear hb2)
        go_ret3
        exact ⟨_, rfl, Kd.R_nil _ _ _ _ _, HB2.out⟩
      | some F =>
        obtain ⟨g, lb, rfl, eg, hR⟩ := reader_some w1 hg
        rw [hg] at hlk
        clear hg
        obtain ⟨o, ho⟩ : ∃ o, stepW (bsz u1) (bsz u2) xs = o := ⟨_, rfl⟩
        have HO := Aside0.mk ho
        have HRQ := Aside0.mk hR
        have hcall : Aside0 (∀ w2 : World, Below wr.heap.size wr w2 → Calls Tryz.prog g (#[.string (bsz u2)] ++ lb) w2 fun e w' => e = .returned (.bool o.isSome) ∧ OutJ b w1 (o.getD xs) w' ∧ KeptJ b w2 w') := ⟨fun w2 hb => by
          have h2 := hb.block _ (Array.getElem?_eq_some_iff.1 HQ2.out).1
          have h3 := hb.block _ (Array.getElem?_eq_some_iff.1 HQ3.out).1
          have h4 := HRQ.out (bsz u2) xs w2 (HLR.out.below hb) hrs (by omega) (fun x hx => by have := HXX.out x hx; omega) (HJ.out.below hb) (h2.trans HQ2.out) (h3.trans HQ3.out)
          rw [HO.out] at h4
          exact h4⟩
        have hE := HE2.out
        rw [ho] at hE
        clear ho hR HE2
        cases o with
        | none =>
          cases hE
          go_wp2_with (first
            | (go_at_call 79; refine (strings_Cut.calls s ⟨#[32]⟩ _ _ _ wr HLR.out HCUT.out).mono ?_; rintro e w2 ⟨rfl, hb2⟩; have HB2 := Aside0.mk (HBW.out.trans (hb2.mono HBW.out.size)); have hl2 := hlk.out w2 ((hb2.block _ (Array.getElem?_eq_some_iff.1 HMB.out).1).trans HMB.out); rw [Option.getD_some] at hl2; have HCW := Aside0.mk (hcall.out w2 hb2); clear hb2)
            | (go_at_fn g; refine HCW.out.mono ?_; rintro e w3 ⟨rfl, hj, hk⟩; have HJ3 := Aside0.mk hj; clear hj hk))
          go_ret3
          exact ⟨_, rfl, Kd.R_nil _ _ _ _ _, HB1.out.trans ((HJ3.out.1 b (Nat.le_refl _)).mono hlt1)⟩
        | some ys =>
          have hsm := stepW_small HO.out hxl HXX.out
          have hy1 := hsm.1
          have HYY := Aside0.mk hsm.2
          have HE3 := Aside0.mk hE
          clear hE hsm
          go_wp2_with (first
            | (go_at_call 79; refine (strings_Cut.calls s ⟨#[32]⟩ _ _ _ wr HLR.out HCUT.out).mono ?_; rintro e w2 ⟨rfl, hb2⟩; have HK2 := Aside0.mk (HK.out.below hb2 HK.out.1); have hl2 := hlk.out w2 ((hb2.block _ (Array.getElem?_eq_some_iff.1 HMB.out).1).trans HMB.out); rw [Option.getD_some] at hl2; have HCW := Aside0.mk (hcall.out w2 hb2); clear hb2)
            | (go_at_fn g; refine HCW.out.mono ?_; rintro e w3 ⟨rfl, hj, hk⟩; have HJ3 := Aside0.mk hj; have HK3 := Aside0.mk (HK2.out.trans hk); clear hj hk))
          go_roundw
          case rel => exact ⟨i + 1, ys, by go_num, hi1, hy1, HYY, HE3, HJ3, HK3⟩
          case measure => simp [intOf]; omega
theorem rule_Parse.calls (a0 : ByteArray) (r1 : List Ru) (r2 : Int) (r3 : Int) (w : World) (hL : Laid w) (h : rule_Parse.f a0 = some (r1, r2, r3)) :
    Calls Tryz.prog 37 #[.string a0] w fun e w' => ∃ v0_ : Value, e = .returned (.tuple #[v0_, .int .i64 r2, .int .i64 r3]) ∧ Kd.R k32 32 w' w.heap.size (fun _ => True) v0_ r1 ∧ Below w.heap.size w w' :=
  rule_Parse.end a0 r1 r2 r3 w hL (Option.some.inj h)
end Go.Proofs.YtblcgcibkikgeaaGreatDoor.G
end
section
namespace Go.Proofs.YtblcgcibkikgeaaGreatDoor.G
open Go Go.RowKit Go.Shelf Go.Proofs.YtblcgcibkikgeaaGreatDoorW.PrintWords Go.Proofs.YtblcgcibkikgeaaGreatDoorW.PrintLast Go.Proofs.YtblcgcibkikgeaaGreatDoorW.PrintMore Go.Proofs.YtblcgcibkikgeaaGreatDoor.K Go.Proofs.YtblcgcibkikgeaaGreatDoor.G1 Go.Proofs.YtblcgcibkikgeaaGreatDoor.P
set_option linter.unusedVariables false
theorem normalE_2 (l : List Co) : (normalE l).2 = checkE l := by
  unfold normalE
  split
  · rename_i h; rw [h]
  · rfl
def rule_check.f (a0_0 : Int) (l0_1 : List Ln) : Option Int := if okL l0_1 then some (ruleErr a0_0 l0_1) else none
set_option maxHeartbeats 2000000 in
set_option maxRecDepth 100000 in
theorem rule_check.calls (a0_0 : Int) (A0_1 : Option Addr) (c0_1 : Nat) (l0_1 : List Ln) (r : Int) (w : World) (hL : Laid w) (hr0_1 : Kd.C k53 w A0_1 l0_1.length l0_1) (hc0_1 : l0_1.length ≤ c0_1) (h : rule_check.f a0_0 l0_1 = some r) :
    Calls Tryz.prog 56 #[.agg #[.int .i64 a0_0, .slice A0_1 l0_1.length c0_1]] w fun e w' => e = .returned (.int .i64 r) ∧ Below w.heap.size w w' := by
  unfold rule_check.f at h
  split at h
  case isFalse => cases h
  rename_i hok
  have HOK := Aside0.mk hok
  have HV := Aside0.mk (Option.some.inj h)
  have HL := Aside0.mk hL
  have HR := Aside0.mk hr0_1
  clear h hok hL hr0_1
  have HB := Aside0.mk (Below.refl w.heap.size w)
  go_enter Tryz.func56, Tryz.ntmps56
  go_wp2
  obtain ⟨W1, hW1⟩ : ∃ W1, w.alloc (.cells #[.int .i64 a0_0, .slice A0_1 l0_1.length c0_1] 32) = W1 := ⟨_, rfl⟩
  rw [hW1]
  have k0 : W1.drew.cell? ⟨w.heap.size, 0, none⟩ = some (.int .i64 a0_0) := by rw [← hW1]; exact World.cell?_alloc_new _ _ _ _
  have k1 : W1.drew.cell? ⟨w.heap.size, 1, none⟩ = some (.slice A0_1 l0_1.length c0_1) := by rw [← hW1]; exact World.cell?_alloc_new _ _ _ _
  have kb : Below w.heap.size w W1.drew := by rw [← hW1]; exact ((Below.refl _ _).alloc (Nat.le_refl _) _).drew
  have kl : w.heap.size < W1.heap.size := by rw [← hW1]; simp
  have KL := Aside0.mk kl
  have HK : Aside0 (∀ W W' : World, Below W.heap.size W W' → (W.cell? ⟨w.heap.size, 0, none⟩ = some (.int .i64 a0_0) ∧ W.cell? ⟨w.heap.size, 1, none⟩ = some (.slice A0_1 l0_1.length c0_1) ∧ Below w.heap.size w W) →
      (W'.cell? ⟨w.heap.size, 0, none⟩ = some (.int .i64 a0_0) ∧ W'.cell? ⟨w.heap.size, 1, none⟩ = some (.slice A0_1 l0_1.length c0_1) ∧ Below w.heap.size w W')) := ⟨by
    rintro W W' hb ⟨q0, q1, q3⟩
    have hl := World.block_lt_of_cell? W _ q0
    exact ⟨(hb.cell (p := ⟨w.heap.size, 0, none⟩) hl).trans q0, (hb.cell (p := ⟨w.heap.size, 1, none⟩) hl).trans q1, q3.trans (hb.mono q3.size)⟩⟩
  have HAL : Aside0 (∀ (W : World) (o : Obj), (W.cell? ⟨w.heap.size, 0, none⟩ = some (.int .i64 a0_0) ∧ W.cell? ⟨w.heap.size, 1, none⟩ = some (.slice A0_1 l0_1.length c0_1) ∧ Below w.heap.size w W) →
      ((W.alloc o).cell? ⟨w.heap.size, 0, none⟩ = some (.int .i64 a0_0) ∧ (W.alloc o).cell? ⟨w.heap.size, 1, none⟩ = some (.slice A0_1 l0_1.length c0_1) ∧ Below w.heap.size w (W.alloc o))) := ⟨by
    rintro W o ⟨q0, q1, q3⟩
    exact HK.out W _ ((Below.refl _ _).alloc (Nat.le_refl _) _) ⟨q0, q1, q3⟩⟩
  clear hW1 kl
  have hw1s : w.heap.size < W1.heap.size := KL.out
  have HSET : Aside0 (∀ (W : World) (u0 u1 u2 : Value), (W.cell? ⟨w.heap.size, 0, none⟩ = some (.int .i64 a0_0) ∧ W.cell? ⟨w.heap.size, 1, none⟩ = some (.slice A0_1 l0_1.length c0_1) ∧ Below w.heap.size w W) →
      ((((W.setCell ⟨W1.heap.size, 0, none⟩ u0).setCell ⟨W1.heap.size, 1, none⟩ u1).setCell ⟨W1.heap.size, 2, none⟩ u2).cell? ⟨w.heap.size, 0, none⟩ = some (.int .i64 a0_0) ∧ (((W.setCell ⟨W1.heap.size, 0, none⟩ u0).setCell ⟨W1.heap.size, 1, none⟩ u1).setCell ⟨W1.heap.size, 2, none⟩ u2).cell? ⟨w.heap.size, 1, none⟩ = some (.slice A0_1 l0_1.length c0_1) ∧ Below w.heap.size w (((W.setCell ⟨W1.heap.size, 0, none⟩ u0).setCell ⟨W1.heap.size, 1, none⟩ u1).setCell ⟨W1.heap.size, 2, none⟩ u2))) := ⟨by
    rintro W u0 u1 u2 ⟨q0, q1, q3⟩
    have e : ∀ j, (((W.setCell ⟨W1.heap.size, 0, none⟩ u0).setCell ⟨W1.heap.size, 1, none⟩ u1).setCell ⟨W1.heap.size, 2, none⟩ u2).cell? ⟨w.heap.size, j, none⟩ = W.cell? ⟨w.heap.size, j, none⟩ := fun j =>
      World.cell?_of_block ((Below.heap_setCell _ _ _ _ (by simp; omega)).trans ((Below.heap_setCell _ _ _ _ (by simp; omega)).trans (Below.heap_setCell _ _ _ _ (by simp; omega))))
    exact ⟨(e 0).trans q0, (e 1).trans q1, ((q3.setCell (p := ⟨W1.heap.size, 0, none⟩) (by simp; omega) _).setCell (p := ⟨W1.heap.size, 1, none⟩) (by simp; omega) _).setCell (p := ⟨W1.heap.size, 2, none⟩) (by simp; omega) _⟩⟩
  go_cut [4] (fun v4 w' => v4 = .bool (kindOf a0_0).isSome ∧ Aside0 (w'.cell? ⟨w.heap.size, 0, none⟩ = some (.int .i64 a0_0) ∧ w'.cell? ⟨w.heap.size, 1, none⟩ = some (.slice A0_1 l0_1.length c0_1) ∧ Below w.heap.size w w'))
  case first =>
    go_region_held3 (fun w' => w'.cell? ⟨w.heap.size, 0, none⟩ = some (.int .i64 a0_0) ∧ w'.cell? ⟨w.heap.size, 1, none⟩ = some (.slice A0_1 l0_1.length c0_1) ∧ Below w.heap.size w w') ((first | exact ⟨n0, n1, nB⟩ | exact ⟨k0, k1, kb⟩ | exact HAL.out _ _ ⟨n0, n1, nB⟩ | exact HAL.out _ _ ⟨k0, k1, kb⟩ | exact HSET.out _ _ _ _ ⟨n0, n1, nB⟩))
      (first
        | (go_at_call 58; (with_reducible show Calls Tryz.prog 58 _ W1.drew _); refine (kinds_calls _).mono ?_; rintro e w1 ⟨b, rfl, hk, hb1⟩; obtain ⟨n0, n1, nB⟩ := HK.out _ _ hb1 ⟨k0, k1, kb⟩; obtain ⟨A, c, hc1, hc2, hlk⟩ := kinds_look hk a0_0; have hlk1 := hlk w1 rfl; have hba : ∀ o, (w1.alloc o).heap[b]? = w1.heap[b]? := (fun o => Below.heap_alloc _ _ _ (by obtain ⟨l, h, _⟩ := hk; exact (Array.getElem?_eq_some_iff.1 h).1)); have hlk2 := fun o => hlk (w1.alloc o) (hba o); have HB1 := Aside0.mk hb1; clear hk hb1 hc1 hc2 hlk hba)
        | (go_at_call 58; refine (kinds_calls _).mono ?_; rintro e w1 ⟨b, rfl, hk, hb1⟩; obtain ⟨n0, n1, nB⟩ := HK.out _ _ hb1 (HAL.out W1.drew _ ⟨k0, k1, kb⟩); have z0 : w1.cell? ⟨W1.heap.size, 0, none⟩ = some (.string ⟨#[]⟩) := (hb1.cell (p := ⟨W1.heap.size, 0, none⟩) (by simp)).trans (World.cell?_alloc_new W1 #[.string ⟨#[]⟩, .slice none 0 0, .string ⟨#[]⟩] 97 0); have z1 : w1.cell? ⟨W1.heap.size, 1, none⟩ = some (.slice none 0 0) := (hb1.cell (p := ⟨W1.heap.size, 1, none⟩) (by simp)).trans (World.cell?_alloc_new W1 #[.string ⟨#[]⟩, .slice none 0 0, .string ⟨#[]⟩] 97 1); have z2 : w1.cell? ⟨W1.heap.size, 2, none⟩ = some (.string ⟨#[]⟩) := (hb1.cell (p := ⟨W1.heap.size, 2, none⟩) (by simp)).trans (World.cell?_alloc_new W1 #[.string ⟨#[]⟩, .slice none 0 0, .string ⟨#[]⟩] 97 2); have y0 : w1.frozen? ⟨W1.heap.size, 0, none⟩ = false := (hb1.frozen (p := ⟨W1.heap.size, 0, none⟩) (by simp)).trans (World.frozen?_alloc_new W1 #[.string ⟨#[]⟩, .slice none 0 0, .string ⟨#[]⟩] 97 0); have y1 : w1.frozen? ⟨W1.heap.size, 1, none⟩ = false := (hb1.frozen (p := ⟨W1.heap.size, 1, none⟩) (by simp)).trans (World.frozen?_alloc_new W1 #[.string ⟨#[]⟩, .slice none 0 0, .string ⟨#[]⟩] 97 1); have y2 : w1.frozen? ⟨W1.heap.size, 2, none⟩ = false := (hb1.frozen (p := ⟨W1.heap.size, 2, none⟩) (by simp)).trans (World.frozen?_alloc_new W1 #[.string ⟨#[]⟩, .slice none 0 0, .string ⟨#[]⟩] 97 2); obtain ⟨A, c, hc1, hc2, hlk⟩ := kinds_look hk a0_0; have hlk1 := hlk w1 rfl; have hba : ∀ o, (w1.alloc o).heap[b]? = w1.heap[b]? := (fun o => Below.heap_alloc _ _ _ (by obtain ⟨l, h, _⟩ := hk; exact (Array.getElem?_eq_some_iff.1 h).1)); have hlk2 := fun o => hlk (w1.alloc o) (hba o); have HB1 := Aside0.mk hb1; clear hk hb1 hc1 hc2 hlk hba))
    all_goals
      refine (‹∀ (a' : Act) (w' : World), Met _ a' w' → _› _ _ ?_)
      go_meet
      case rel => exact ⟨rfl, ⟨by first | exact ⟨n0, n1, nB⟩ | exact HAL.out _ _ ⟨n0, n1, nB⟩ | exact HSET.out _ _ _ _ ⟨n0, n1, nB⟩⟩⟩
  case rest =>
    obtain ⟨rfl, HS⟩ := hcut
    have c0 := HS.out.1
    have c1 := HS.out.2.1
    have HBc := Aside0.mk HS.out.2.2
    have HVV := HV.out
    unfold ruleErr at HVV
    clear HK HAL HSET KL k0 k1 kb
    cases hko : kindOf a0_0 with
    | none =>
      rw [hko] at HVV
      simp only [Option.isNone_none, if_true] at HVV
      subst HVV
      clear hko
      go_wp2
      go_ret
      exact ⟨rfl, HBc.out⟩
    | some t =>
      rw [hko, if_neg (by simp)] at HVV
      clear hko
      by_cases h64 : l0_1.length > 64
      · have hd : decide ((64 : Int) < (l0_1.length : Int)) = true := decide_eq_true (by omega)
        have hd' : decide (64 < l0_1.length) = true := decide_eq_true (by omega)
        rw [if_pos h64] at HVV
        subst HVV
        clear h64
        go_wp2
        go_ret
        exact ⟨rfl, HBc.out⟩
      · have hd : decide ((64 : Int) < (l0_1.length : Int)) = false := decide_eq_false (by omega)
        have hd' : decide (64 < l0_1.length) = false := decide_eq_false (by omega)
        rw [if_neg h64] at HVV
        have HR1 := Aside0.mk HVV
        clear HVV
        go_wp2
        go_loopw [25] (fun v25 wr => ∃ i : Nat, v25 = .int .i64 (i : Int) ∧ i ≤ l0_1.length ∧ Aside0 (linesErr (l0_1.drop i) = r) ∧ Aside0 (Below w.heap.size w wr)) (fun v25 _ => l0_1.length - (intOf v25).toNat)
        case atStart => exact ⟨0, rfl, Nat.zero_le _, HR1, HBc⟩
        case round =>
          clear HR1 hd hd'
          obtain ⟨i, rfl, hi, HE, HBr⟩ := hrel
          by_cases hil : i < l0_1.length
          · have hd : decide ((i : Int) < (l0_1.length : Int)) = true := decide_eq_true (by omega)
            obtain ⟨ad, A2, c2, e1, hx0, hx1, hx2, hlc, hC⟩ := at_T53 HR.out (i : Int) (by omega) (by omega)
            cases e1
            rw [Int.toNat_natCast] at hx0 hx1 hx2
            replace hx0 := (HBr.out.cell (World.block_lt_of_cell? w _ hx0)).trans hx0
            replace hx1 := (HBr.out.cell (World.block_lt_of_cell? w _ hx1)).trans hx1
            replace hx2 := (HBr.out.cell (World.block_lt_of_cell? w _ hx2)).trans hx2
            have hCr : Kd.C k113 wr A2 (rd_T53 l0_1 (i : Int)).f2.length (rd_T53 l0_1 (i : Int)).f2 := Kd.C_below hC HBr.out
            have hdr : l0_1.drop i = rd_T53 l0_1 (i : Int) :: l0_1.drop (i + 1) := by
              unfold rd_T53
              rw [Int.toNat_natCast, List.getD_eq_getElem?_getD, List.getElem?_eq_getElem hil, List.drop_eq_getElem_cons hil]
              rfl
            have hmem : rd_T53 l0_1 (i : Int) ∈ l0_1 := by
              have : rd_T53 l0_1 (i : Int) ∈ l0_1.drop i := by rw [hdr]; simp
              exact List.mem_of_mem_drop this
            have hok1 := HOK.out _ hmem
            have hE := HE.out
            rw [hdr] at hE
            unfold linesErr at hE
            generalize rd_T53 l0_1 (i : Int) = x at hx0 hx1 hx2 hlc hCr hok1 hE
            obtain ⟨x0, x1, x2⟩ := x
            simp only at hx0 hx1 hx2 hlc hCr hok1 hE
            have HT := Aside0.mk (isTemplate_f x0 hok1.1)
            have HN := Aside0.mk (Normal_f x2 hok1.2.2 hok1.2.1 (x2.length + 1) (by omega))
            have HE1 := Aside0.mk hE
            have HCr := Aside0.mk hCr
            have HLC := Aside0.mk hlc
            have HLr := Aside0.mk (HL.out.below HBr.out)
            clear hE hok1 hmem hdr HE hC hlc hCr
            obtain ⟨b, hb⟩ : ∃ b, tmplOk x0 = b := ⟨_, rfl⟩
            rw [hb] at HT HE1
            clear hb
            obtain ⟨Wx, hWx⟩ : ∃ Wx, wr.alloc (.cells #[.string x0, .bool x1, .slice A2 x2.length c2] 53) = Wx := ⟨_, rfl⟩
            have s0 : Wx.cell? ⟨wr.heap.size, 0, none⟩ = some (.string x0) := by rw [← hWx]; exact World.cell?_alloc_new _ _ _ _
            have s2 : Wx.cell? ⟨wr.heap.size, 2, none⟩ = some (.slice A2 x2.length c2) := by rw [← hWx]; exact World.cell?_alloc_new _ _ _ _
            have hbx : Below wr.heap.size wr Wx := by rw [← hWx]; exact (Below.refl _ _).alloc (Nat.le_refl _) _
            have hlx : wr.heap.size < Wx.heap.size := by rw [← hWx]; simp
            have HBX := Aside0.mk hbx
            have HLX := Aside0.mk hlx
            have HWX := Aside0.mk hWx
            clear hbx hlx hWx
            cases b with
            | false =>
              simp only [Bool.false_eq_true, if_false] at HE1
              have hr := HE1.out
              subst hr
              go_wp2_with (go_at_call 81; rw [HWX.out]; refine (X.rule_isTemplate.calls x0 false _ (HLr.out.below HBX.out) HT.out).mono ?_; rintro e w1 ⟨rfl, hb1⟩; have HB1 := Aside0.mk hb1; clear hb1)
              go_ret
              exact ⟨rfl, (HBr.out.trans (HBX.out.mono HBr.out.size)).trans (HB1.out.mono (by have := HBr.out.size; have := HLX.out; omega))⟩
            | true =>
              simp only [if_true] at HE1
              obtain ⟨n1, n2, hn⟩ : ∃ n1 n2, normalE x2 = (n1, n2) := ⟨_, _, rfl⟩
              have hn2 : checkE x2 = n2 := by rw [← normalE_2, hn]
              rw [hn2] at HE1
              rw [hn] at HN
              clear hn hn2
              by_cases hz : n2 = 0
              · subst hz
                rw [if_pos rfl] at HE1
                have HE2 := Aside0.mk HE1.out
                clear HE1
                go_wp2_with (first | (go_at_call 81; rw [HWX.out]; refine (X.rule_isTemplate.calls x0 true _ (HLr.out.below HBX.out) HT.out).mono ?_; rintro e w1 ⟨rfl, hb1⟩; have s2' := (hb1.cell (World.block_lt_of_cell? Wx _ s2)).trans s2; have HB1 := Aside0.mk hb1; clear hb1) | (go_at_call 94; have HBW := Aside0.mk ((HBX.out.trans (HB1.out.mono HBX.out.size))); refine (X.expression_Normal.calls (x2.length + 1) A2 c2 x2 n1 0 w1 (HLr.out.below HBW.out) (Kd.C_below HCr.out HBW.out) HLC.out HN.out).mono ?_; rintro e w2 ⟨v, rfl, hrr, hb2⟩; have HB2 := Aside0.mk hb2; clear hrr hb2))
                go_roundw
                case rel =>
                  repeat (apply Exists.intro)
                  exact ⟨⟨i + 1, by go_num, by omega, HE2, ⟨((HBr.out.trans (HBW.out.mono HBr.out.size)).trans (HB2.out.mono (by have := HBr.out.size; have := HBW.out.size; omega)))⟩⟩, rfl⟩
                case measure => simp [intOf]; omega
              · rw [if_neg hz] at HE1
                have hr := HE1.out
                subst hr
                have hz1 : (n2 != 0) = true := bne_iff_ne.mpr hz
                have hz2 : (n2 == 0) = false := beq_eq_false_iff_ne.mpr hz
                clear HE1
                go_wp2_with (first | (go_at_call 81; rw [HWX.out]; refine (X.rule_isTemplate.calls x0 true _ (HLr.out.below HBX.out) HT.out).mono ?_; rintro e w1 ⟨rfl, hb1⟩; have s2' := (hb1.cell (World.block_lt_of_cell? Wx _ s2)).trans s2; have HB1 := Aside0.mk hb1; clear hb1) | (go_at_call 94; have HBW := Aside0.mk ((HBX.out.trans (HB1.out.mono HBX.out.size))); refine (X.expression_Normal.calls (x2.length + 1) A2 c2 x2 n1 n2 w1 (HLr.out.below HBW.out) (Kd.C_below HCr.out HBW.out) HLC.out HN.out).mono ?_; rintro e w2 ⟨v, rfl, hrr, hb2⟩; have HB2 := Aside0.mk hb2; clear hrr hb2))
                go_ret
                exact ⟨rfl, ((HBr.out.trans (HBW.out.mono HBr.out.size)).trans (HB2.out.mono (by have := HBr.out.size; have := HBW.out.size; omega)))⟩
          · have hd : decide ((i : Int) < (l0_1.length : Int)) = false := decide_eq_false (by omega)
            have hr : (0 : Int) = r := by
              have := HE.out
              rw [List.drop_eq_nil_of_le (by omega)] at this
              exact this
            subst hr
            go_wp2
            go_ret
            exact ⟨rfl, HBr.out⟩
end Go.Proofs.YtblcgcibkikgeaaGreatDoor.G
end
section
namespace Go.Proofs.YtblcgcibkikgeaaGreatDoor.X
open Go.RowKit Go.Proofs.YtblcgcibkikgeaaGreatDoorW.PrintWords Go.Proofs.YtblcgcibkikgeaaGreatDoorW.PrintLast Go.Proofs.YtblcgcibkikgeaaGreatDoorW.PrintMore Go.Proofs.YtblcgcibkikgeaaGreatDoor.K Go.Proofs.YtblcgcibkikgeaaGreatDoor.G
attribute [local go_sem] max2_int min2_int max_two min_two max_three min_three max_four min_four
set_option linter.unusedVariables false
set_option linter.unusedSimpArgs false
mutual
def account_CheckAll.l0 : Nat → List (S48) → List (S48) → Int → Int → Option (Int)
  | 0, _, _, _, _ => none
  | k + 1, x0, x10, x11, x12 => if x12 < x11 then (if 0 ≤ x12 then (if x12 < (x10.length : Int) then ((account_Check.f ((rd_T48 x10 x12).f0)).bind fun t108 => (if t108 = 0 then (if ((rd_T48 x10 x12).f1) < 1 then (account_CheckAll.j1 k x0 x12 x10 x11 x12 true ((rd_T48 x10 x12).f0) ((rd_T48 x10 x12).f1)) else (account_CheckAll.j1 k x0 x12 x10 x11 x12 (decide (((rd_T48 x10 x12).f1) > 5)) ((rd_T48 x10 x12).f0) ((rd_T48 x10 x12).f1))) else (some 3))) else (none)) else (none)) else (some 0)
def account_CheckAll.j2 : Nat → List (S48) → Int → List (S48) → Int → Int → ByteArray → Int → Option (Int)
  | 0, _, _, _, _, _, _, _ => none
  | k + 1, x0, x3, x10, x11, x12, x108000, x108001 => if 0 ≤ x3 then (if x3 ≤ (x0.length : Int) then ((some (x0.take (x3 : Int).toNat : List (S48))).bind fun y110 => (account_CheckAll.l1 k x0 x10 x11 x12 y110 (y110.length : Int) 0 x108000 x108001)) else (none)) else (none)
def account_CheckAll.l1 : Nat → List (S48) → List (S48) → Int → Int → List (S48) → Int → Int → ByteArray → Int → Option (Int)
  | 0, _, _, _, _, _, _, _, _, _ => none
  | k + 1, x0, x10, x11, x12, x47, x48, x49, x108000, x108001 => if x49 < x48 then (if 0 ≤ x49 then (if x49 < (x47.length : Int) then ((account_Under.f x108000 ((rd_T48 x47 x49).f0)).bind fun t116 => (if t116 = true then (if x108001 = ((rd_T48 x47 x49).f1) then (account_CheckAll.l1 k x0 x10 x11 x12 x47 x48 (wrap64 (x49 + 1)) x108000 x108001) else (some 18)) else (account_CheckAll.l1 k x0 x10 x11 x12 x47 x48 (wrap64 (x49 + 1)) x108000 x108001))) else (none)) else (none)) else (account_CheckAll.l0 k x0 x10 x11 (wrap64 (x12 + 1)))
def account_CheckAll.j1 : Nat → List (S48) → Int → List (S48) → Int → Int → Bool → ByteArray → Int → Option (Int)
  | 0, _, _, _, _, _, _, _, _ => none
  | k + 1, x0, x3, x10, x11, x12, x22, x108000, x108001 => if x22 = true then (some 7) else (if x3 > 0 then (if 0 ≤ (wrap64 (x3 - 1)) then (if (wrap64 (x3 - 1)) < (x0.length : Int) then (if ((Op.bytesLess (((rd_T48 x0 (wrap64 (x3 - 1))).f0).toList) x108000.toList) = true) then (account_CheckAll.j2 k x0 x3 x10 x11 x12 x108000 x108001) else (some 8)) else (none)) else (none)) else (account_CheckAll.j2 k x0 x3 x10 x11 x12 x108000 x108001))
end
def account_CheckAll.f (k : Nat) (l0 : List (S48)) : Option (Int) := if (l0.length : Int) > 256 then (some 4) else (account_CheckAll.l0 k l0 l0 (l0.length : Int) 0)
theorem string_leq_own (t : TypeId) (a b : ByteArray) : binOp .leq t (.string a) (.string b) = pure (.bool (!(Op.bytesLess b.toList a.toList))) := by
  have h : (Op.bytesLess a.toList b.toList || a.toList == b.toList) = !(Op.bytesLess b.toList a.toList) := by
    rw [bytesLess_eq, bytesLess_eq]
    by_cases h1 : a.toList < b.toList
    · have h2 : ¬ b.toList < a.toList := List.lt_asymm h1
      simp [h1, h2]
    · by_cases h2 : a.toList = b.toList
      · rw [h2]
        have := List.lt_irrefl b.toList
        simp [this]
      · have h3 : b.toList < a.toList := Classical.byContradiction fun h => h2 (List.le_antisymm (List.not_lt.1 h) (List.not_lt.1 h1))
        simp [h1, h2, h3]
  rw [← h]
  simp [binOp, Op.stringOp]
attribute [local go_sem] string_leq_own
set_option maxHeartbeats 8000000 in
set_option maxRecDepth 100000 in
theorem account_CheckAll.calls (k : Nat) (A0 : Option Addr) (c0 : Nat) (l0 : List (S48)) (r : Int) (w : World) (hL : Laid w) (hr0 : Kd.C k48 w A0 l0.length l0) (hc0 : l0.length ≤ c0) (h : account_CheckAll.f k l0 = some r) :
    Calls Tryz.prog 33 #[.slice A0 l0.length c0] w fun e w' => e = .returned (.int .i64 r) ∧ Below w.heap.size w w' := by
  have hu48 := Tryz.underlying48
  have HL := Aside0.mk hL
  clear hL
  have HR0 := Aside0.mk hr0
  have HC0 := Aside0.mk hc0
  clear hr0 hc0
  have HB := Aside0.mk (Below.refl w.heap.size w)
  have H : (if (l0.length : Int) > 256 then (some 4) else (account_CheckAll.l0 k l0 l0 (l0.length : Int) 0)) = some r := h
  clear h
  by_cases c2 : (l0.length : Int) > 256
  · rw [if_pos c2] at H
    have c2b0 : decide (256 < (l0.length : Int)) = true := decide_eq_true c2
    have c2b1 : decide (256 < l0.length) = true := decide_eq_true (by omega)
    clear c2
    obtain rfl := Option.some.inj H
    go_enter Tryz.func33, Tryz.ntmps33
    go_wp2
    repeat (go_quiet (fail); try go_wp2)
    go_ret
    exact ⟨by first | rfl | (simp [errW_none, errW_some] <;> rfl) | (simp [*, errW_none, errW_some] <;> rfl), by repeat (first | (with_reducible first | exact HB.out | apply below_alloc | apply pw_below_drewN | apply below_drew1) | exact HB.out)⟩
  · rw [if_neg c2] at H
    have c2b0 : decide (256 < (l0.length : Int)) = false := decide_eq_false c2
    have c2b1 : decide (256 < l0.length) = false := decide_eq_false (by omega)
    clear c2
    have H' := Aside0.mk H
    clear H
    go_enter Tryz.func33, Tryz.ntmps33
    go_wp2
    repeat (go_quiet (fail); try go_wp2)
    go_loopg [12] k (fun kq v12 w' => ∃ (x12_1 : Int), v12 = .int .i64 x12_1 ∧ Aside0 (account_CheckAll.l0 kq l0 l0 (l0.length : Int) x12_1 = some r) ∧ Aside0 (kq ≤ k) ∧ Aside0 (Below w.heap.size w w'))
    case atStart => exact ⟨(0), (by first | rfl | (simp; done) | (simp [*]; done)), H', ⟨Nat.le_refl _⟩, ⟨by repeat (first | (with_reducible first | exact HB.out | apply below_alloc | apply pw_below_drewN | apply below_drew1) | exact HB.out)⟩⟩
    case round =>
      clear H'
      try clear c2
      try clear c2b0
      try clear c2b1
      try clear p2
      obtain ⟨x12_1, rfl, HA, HK1, HB⟩ := hrel
      cases gk with
      | zero => exact absurd HA.out (by simp [account_CheckAll.l0])
      | succ k1 =>
        have H := HA.out
        clear HA
        simp only [account_CheckAll.l0] at H
        by_cases c3 : x12_1 < (l0.length : Int)
        · rw [if_pos c3] at H
          have c3b0 : decide (x12_1 < (l0.length : Int)) = true := decide_eq_true c3
          clear c3
          by_cases c4 : 0 ≤ x12_1
          · rw [if_pos c4] at H
            have c4b0 : decide (0 ≤ x12_1) = true := decide_eq_true c4
            clear c4
            by_cases c5 : x12_1 < (l0.length : Int)
            · rw [if_pos c5] at H
              have c5b0 : decide (x12_1 < (l0.length : Int)) = true := decide_eq_true c5
              clear c5
              have HC6 := Aside0.mk H
              clear H
              have p106 : 0 ≤ (x12_1 : Int) := of_decide_eq_true (by first | (with_reducible assumption) | assumption)
              have q106 : x12_1 < (l0.length : Int) := of_decide_eq_true (by first | (with_reducible assumption) | assumption)
              obtain ⟨ad106, e106, hx106_0, hx106_1⟩ := at_T48 HR0.out x12_1 p106 q106
              cases e106
              replace hx106_0 := (HB.out.cell (World.block_lt_of_cell? w _ hx106_0)).trans hx106_0
              replace hx106_1 := (HB.out.cell (World.block_lt_of_cell? w _ hx106_1)).trans hx106_1
              replace p106 := eq_true p106
              replace q106 := eq_true q106
              go_upto_block 2 with (first | ((with_reducible refine gate_dst (N := 4) rfl ?_); refine box_event ?hg (N := 4) ?hd (cs := #[.string (⟨#[]⟩ : ByteArray), .int .i64 0]) (t := 48) ?hr ?_; (case hd => rfl); (case hg => rfl); (case hr => first | (go_simp; done) | (go_simp; rfl)); intro gb107 hg w7 hbox hb; have n0_ := Aside0.mk (below_step (by repeat (first | (with_reducible first | exact HB.out | apply below_alloc | apply pw_below_drewN | apply below_drew1) | exact HB.out)) hb); have n1_ := Aside0.mk (hbox); have n2_ := Aside0.mk ((by rw [hg]; exact (below_size (by repeat (first | (with_reducible first | exact HB.out | apply below_alloc | apply pw_below_drewN | apply below_drew1) | exact HB.out))) : w.heap.size ≤ gb107)); have n3_ := Aside0.mk ((by rw [hg]; exact (below_size (by repeat (first | (with_reducible first | exact HB.out | apply below_alloc | apply pw_below_drewN | apply below_drew1) | exact HB.out))) : w.heap.size ≤ gb107)); clear HB; have HB := n0_; have BK107 := n1_; have GW107 := n2_; have GE107 := n3_; clear n0_ n1_ n2_ n3_; clear hb hbox hg; have hcz8_0 : w7.cell? ⟨gb107, 0, none⟩ = some (.string (⟨#[]⟩ : ByteArray)) := (blk_cell BK107.out 0).trans rfl; have hcz8_1 : w7.cell? ⟨gb107, 1, none⟩ = some (.int .i64 0) := (blk_cell BK107.out 1).trans rfl; have hfz8_0 := blk_frozen BK107.out 0; have hfz8_1 := blk_frozen BK107.out 1))
              repeat (go_quiet (first | ((with_reducible refine gate_dst (N := 4) rfl ?_); refine box_event ?hg (N := 4) ?hd (cs := #[.string (⟨#[]⟩ : ByteArray), .int .i64 0]) (t := 48) ?hr ?_; (case hd => rfl); (case hg => rfl); (case hr => first | (go_simp; done) | (go_simp; rfl)); intro gb107 hg w7 hbox hb; have n0_ := Aside0.mk (below_step (by repeat (first | (with_reducible first | exact HB.out | apply below_alloc | apply pw_below_drewN | apply below_drew1) | exact HB.out)) hb); have n1_ := Aside0.mk (hbox); have n2_ := Aside0.mk ((by rw [hg]; exact (below_size (by repeat (first | (with_reducible first | exact HB.out | apply below_alloc | apply pw_below_drewN | apply below_drew1) | exact HB.out))) : w.heap.size ≤ gb107)); have n3_ := Aside0.mk ((by rw [hg]; exact (below_size (by repeat (first | (with_reducible first | exact HB.out | apply below_alloc | apply pw_below_drewN | apply below_drew1) | exact HB.out))) : w.heap.size ≤ gb107)); clear HB; have HB := n0_; have BK107 := n1_; have GW107 := n2_; have GE107 := n3_; clear n0_ n1_ n2_ n3_; clear hb hbox hg; have hcz8_0 : w7.cell? ⟨gb107, 0, none⟩ = some (.string (⟨#[]⟩ : ByteArray)) := (blk_cell BK107.out 0).trans rfl; have hcz8_1 : w7.cell? ⟨gb107, 1, none⟩ = some (.int .i64 0) := (blk_cell BK107.out 1).trans rfl; have hfz8_0 := blk_frozen BK107.out 0; have hfz8_1 := blk_frozen BK107.out 1)); go_upto_block 2 with (first | ((with_reducible refine gate_dst (N := 4) rfl ?_); refine box_event ?hg (N := 4) ?hd (cs := #[.string (⟨#[]⟩ : ByteArray), .int .i64 0]) (t := 48) ?hr ?_; (case hd => rfl); (case hg => rfl); (case hr => first | (go_simp; done) | (go_simp; rfl)); intro gb107 hg w7 hbox hb; have n0_ := Aside0.mk (below_step (by repeat (first | (with_reducible first | exact HB.out | apply below_alloc | apply pw_below_drewN | apply below_drew1) | exact HB.out)) hb); have n1_ := Aside0.mk (hbox); have n2_ := Aside0.mk ((by rw [hg]; exact (below_size (by repeat (first | (with_reducible first | exact HB.out | apply below_alloc | apply pw_below_drewN | apply below_drew1) | exact HB.out))) : w.heap.size ≤ gb107)); have n3_ := Aside0.mk ((by rw [hg]; exact (below_size (by repeat (first | (with_reducible first | exact HB.out | apply below_alloc | apply pw_below_drewN | apply below_drew1) | exact HB.out))) : w.heap.size ≤ gb107)); clear HB; have HB := n0_; have BK107 := n1_; have GW107 := n2_; have GE107 := n3_; clear n0_ n1_ n2_ n3_; clear hb hbox hg; have hcz8_0 : w7.cell? ⟨gb107, 0, none⟩ = some (.string (⟨#[]⟩ : ByteArray)) := (blk_cell BK107.out 0).trans rfl; have hcz8_1 : w7.cell? ⟨gb107, 1, none⟩ = some (.int .i64 0) := (blk_cell BK107.out 1).trans rfl; have hfz8_0 := blk_frozen BK107.out 0; have hfz8_1 := blk_frozen BK107.out 1)))
              (try simp only [Act.put, List.setIfInBounds_toArray, List.set_cons_zero, List.set_cons_succ])
              go_cut [] (fun wc => ∃ (kq : Nat), Aside0 (account_CheckAll.j2 kq l0 x12_1 l0 (l0.length : Int) x12_1 ((rd_T48 l0 x12_1).f0) ((rd_T48 l0 x12_1).f1) = some r) ∧ Aside0 (kq ≤ k1) ∧ Aside0 (wc.heap[gb107]? = some (.cells #[.string ((rd_T48 l0 x12_1).f0), .int .i64 ((rd_T48 l0 x12_1).f1)] 48 (0, 0))) ∧ Aside0 (Below w.heap.size w wc))
              case first =>
                have H := HC6.out
                clear HC6
                replace H := Option.bind_eq_some_iff.mp H
                obtain ⟨t108, A90, H⟩ := H
                replace H : (if t108 = 0 then (if ((rd_T48 l0 x12_1).f1) < 1 then (account_CheckAll.j1 k1 l0 x12_1 l0 (l0.length : Int) x12_1 true ((rd_T48 l0 x12_1).f0) ((rd_T48 l0 x12_1).f1)) else (account_CheckAll.j1 k1 l0 x12_1 l0 (l0.length : Int) x12_1 (decide (((rd_T48 l0 x12_1).f1) > 5)) ((rd_T48 l0 x12_1).f0) ((rd_T48 l0 x12_1).f1))) else (some 3)) = some r := H
                have A9 := Aside0.mk A90
                clear A90
                by_cases c10 : t108 = 0
                · rw [if_pos c10] at H
                  have c10b0 : (t108 == 0) = true := beq_iff_eq.mpr c10
                  have c10b1 : (t108 != 0) = false := bne_eq_false_iff_eq.mpr c10
                  clear c10
                  (first | rw [c10b0] | (simp only [i64_w, i32_w]; rw [c10b0]) | skip)
                  have HC11 := Aside0.mk H
                  clear H
                  have hcz12_0 : w7.cell? ⟨gb107, 0, none⟩ = some (.string (⟨#[]⟩ : ByteArray)) := (blk_cell BK107.out 0).trans rfl
                  have hcz12_1 : w7.cell? ⟨gb107, 1, none⟩ = some (.int .i64 0) := (blk_cell BK107.out 1).trans rfl
                  have hfz12_0 := blk_frozen BK107.out 0
                  have hfz12_1 := blk_frozen BK107.out 1
                  go_upto_region 8 with (first | (go_at_call 70; (with_reducible refine (account_Check.calls ((rd_T48 l0 x12_1).f0) t108 _ (HL.out.below (by repeat (first | (with_reducible first | exact HB.out | apply below_alloc | apply pw_below_drewN | apply below_drew1) | exact HB.out | refine below_set ?_ (Aside0.out (by assumption))))) A9.out).mono ?_); rintro e w13 ⟨rfl, hb⟩; have n0_ := Aside0.mk (blk_below (g := gb107) (o := .cells #[.string ((rd_T48 l0 x12_1).f0), .int .i64 ((rd_T48 l0 x12_1).f1)] 48 (0, 0)) (by (with_reducible repeat (first | refine blk_drewN ?_ _ | refine blk_drew ?_ | refine blk_alloc ?_ _)); refine blk_put (cs := #[.string ((rd_T48 l0 x12_1).f0), .int .i64 0]) ?_ 1 _ rfl; (with_reducible repeat (first | refine blk_drewN ?_ _ | refine blk_drew ?_ | refine blk_alloc ?_ _)); refine blk_put (cs := #[.string (⟨#[]⟩ : ByteArray), .int .i64 0]) ?_ 0 _ rfl; (with_reducible repeat (first | refine blk_drewN ?_ _ | refine blk_drew ?_ | refine blk_alloc ?_ _)); exact BK107.out) hb); have n1_ := Aside0.mk (below_step (by repeat (first | (with_reducible first | exact HB.out | apply below_alloc | apply pw_below_drewN | apply below_drew1 | refine below_set ?_ GE107.out) | exact HB.out)) hb); clear BK107; clear HB; have BK107 := n0_; have HB := n1_; clear n0_ n1_; (try clear hb); (try clear hb2); (try clear hk); (try clear hi)))
                  repeat (go_quiet (first | (go_at_call 70; (with_reducible refine (account_Check.calls ((rd_T48 l0 x12_1).f0) t108 _ (HL.out.below (by repeat (first | (with_reducible first | exact HB.out | apply below_alloc | apply pw_below_drewN | apply below_drew1) | exact HB.out | refine below_set ?_ (Aside0.out (by assumption))))) A9.out).mono ?_); rintro e w13 ⟨rfl, hb⟩; have n0_ := Aside0.mk (blk_below (g := gb107) (o := .cells #[.string ((rd_T48 l0 x12_1).f0), .int .i64 ((rd_T48 l0 x12_1).f1)] 48 (0, 0)) (by (with_reducible repeat (first | refine blk_drewN ?_ _ | refine blk_drew ?_ | refine blk_alloc ?_ _)); refine blk_put (cs := #[.string ((rd_T48 l0 x12_1).f0), .int .i64 0]) ?_ 1 _ rfl; (with_reducible repeat (first | refine blk_drewN ?_ _ | refine blk_drew ?_ | refine blk_alloc ?_ _)); refine blk_put (cs := #[.string (⟨#[]⟩ : ByteArray), .int .i64 0]) ?_ 0 _ rfl; (with_reducible repeat (first | refine blk_drewN ?_ _ | refine blk_drew ?_ | refine blk_alloc ?_ _)); exact BK107.out) hb); have n1_ := Aside0.mk (below_step (by repeat (first | (with_reducible first | exact HB.out | apply below_alloc | apply pw_below_drewN | apply below_drew1 | refine below_set ?_ GE107.out) | exact HB.out)) hb); clear BK107; clear HB; have BK107 := n0_; have HB := n1_; clear n0_ n1_; (try clear hb); (try clear hb2); (try clear hk); (try clear hi))); go_upto_region 8 with (first | (go_at_call 70; (with_reducible refine (account_Check.calls ((rd_T48 l0 x12_1).f0) t108 _ (HL.out.below (by repeat (first | (with_reducible first | exact HB.out | apply below_alloc | apply pw_below_drewN | apply below_drew1) | exact HB.out | refine below_set ?_ (Aside0.out (by assumption))))) A9.out).mono ?_); rintro e w13 ⟨rfl, hb⟩; have n0_ := Aside0.mk (blk_below (g := gb107) (o := .cells #[.string ((rd_T48 l0 x12_1).f0), .int .i64 ((rd_T48 l0 x12_1).f1)] 48 (0, 0)) (by (with_reducible repeat (first | refine blk_drewN ?_ _ | refine blk_drew ?_ | refine blk_alloc ?_ _)); refine blk_put (cs := #[.string ((rd_T48 l0 x12_1).f0), .int .i64 0]) ?_ 1 _ rfl; (with_reducible repeat (first | refine blk_drewN ?_ _ | refine blk_drew ?_ | refine blk_alloc ?_ _)); refine blk_put (cs := #[.string (⟨#[]⟩ : ByteArray), .int .i64 0]) ?_ 0 _ rfl; (with_reducible repeat (first | refine blk_drewN ?_ _ | refine blk_drew ?_ | refine blk_alloc ?_ _)); exact BK107.out) hb); have n1_ := Aside0.mk (below_step (by repeat (first | (with_reducible first | exact HB.out | apply below_alloc | apply pw_below_drewN | apply below_drew1 | refine below_set ?_ GE107.out) | exact HB.out)) hb); clear BK107; clear HB; have BK107 := n0_; have HB := n1_; clear n0_ n1_; (try clear hb); (try clear hb2); (try clear hk); (try clear hi))))
                  (try simp only [Act.put, List.setIfInBounds_toArray, List.set_cons_zero, List.set_cons_succ])
                  go_cut [22] (fun v22 wc => ∃ (kq : Nat) (x22_10 : Bool), v22 = .bool x22_10 ∧ Aside0 (account_CheckAll.j1 kq l0 x12_1 l0 (l0.length : Int) x12_1 x22_10 ((rd_T48 l0 x12_1).f0) ((rd_T48 l0 x12_1).f1) = some r) ∧ Aside0 (kq ≤ k1) ∧ Aside0 (wc.heap[gb107]? = some (.cells #[.string ((rd_T48 l0 x12_1).f0), .int .i64 ((rd_T48 l0 x12_1).f1)] 48 (0, 0))) ∧ Aside0 (Below w.heap.size w wc))
                  case first =>
                    have H := HC11.out
                    clear HC11
                    by_cases c14 : ((rd_T48 l0 x12_1).f1) < 1
                    · rw [if_pos c14] at H
                      have c14b0 : decide (((rd_T48 l0 x12_1).f1) < 1) = true := decide_eq_true c14
                      clear c14
                      (first | rw [c14b0] | (simp only [i64_w, i32_w]; rw [c14b0]) | skip)
                      have H' := Aside0.mk H
                      clear H
                      have hcz15_0 : w13.cell? ⟨gb107, 0, none⟩ = some (.string ((rd_T48 l0 x12_1).f0)) := (blk_cell BK107.out 0).trans rfl
                      have hcz15_1 : w13.cell? ⟨gb107, 1, none⟩ = some (.int .i64 ((rd_T48 l0 x12_1).f1)) := (blk_cell BK107.out 1).trans rfl
                      have hfz15_0 := blk_frozen BK107.out 0
                      have hfz15_1 := blk_frozen BK107.out 1
                      go_wp2
                      repeat (go_quiet (fail); try go_wp2)
                      go_meet
                      case rel => exact ⟨_, (true), (by first | rfl | (simp; done) | (simp [*]; done)), H', ⟨by have := HK1.out; first | omega | exact Nat.le_refl _⟩, ⟨by (with_reducible repeat (first | refine blk_drewN ?_ _ | refine blk_drew ?_ | refine blk_alloc ?_ _)); exact BK107.out⟩, ⟨by repeat (first | (with_reducible first | exact HB.out | apply below_alloc | apply pw_below_drewN | apply below_drew1 | refine below_set ?_ GE107.out) | exact HB.out)⟩⟩
                    · rw [if_neg c14] at H
                      have c14b0 : decide (((rd_T48 l0 x12_1).f1) < 1) = false := decide_eq_false c14
                      clear c14
                      (first | rw [c14b0] | (simp only [i64_w, i32_w]; rw [c14b0]) | skip)
                      have H' := Aside0.mk H
                      clear H
                      have hcz16_0 : w13.cell? ⟨gb107, 0, none⟩ = some (.string ((rd_T48 l0 x12_1).f0)) := (blk_cell BK107.out 0).trans rfl
                      have hcz16_1 : w13.cell? ⟨gb107, 1, none⟩ = some (.int .i64 ((rd_T48 l0 x12_1).f1)) := (blk_cell BK107.out 1).trans rfl
                      have hfz16_0 := blk_frozen BK107.out 0
                      have hfz16_1 := blk_frozen BK107.out 1
                      go_wp2
                      repeat (go_quiet (fail); try go_wp2)
                      go_meet
                      case rel => exact ⟨_, (decide (((rd_T48 l0 x12_1).f1) > 5)), (by first | rfl | (simp; done) | (simp [*]; done)), H', ⟨by have := HK1.out; first | omega | exact Nat.le_refl _⟩, ⟨by (with_reducible repeat (first | refine blk_drewN ?_ _ | refine blk_drew ?_ | refine blk_alloc ?_ _)); exact BK107.out⟩, ⟨by repeat (first | (with_reducible first | exact HB.out | apply below_alloc | apply pw_below_drewN | apply below_drew1 | refine below_set ?_ GE107.out) | exact HB.out)⟩⟩
                  case rest =>
                    clear HC11
                    try clear c1
                    try clear p1
                    try clear q1
                    try clear hx1
                    try clear c2
                    try clear c2b0
                    try clear c2b1
                    try clear p2
                    try clear c3
                    try clear c3b0
                    try clear c4
                    try clear c4b0
                    try clear c5
                    try clear c5b0
                    try clear c10
                    try clear c10b0
                    try clear c10b1
                    try clear p10
                    try clear q10
                    try clear hx10
                    try clear c14
                    try clear c14b0
                    try clear hcz12_0
                    try clear hcz12_1
                    try clear hcz15_0
                    try clear hcz15_1
                    try clear hcz16_0
                    try clear hcz16_1
                    try clear hcz8_0
                    try clear hcz8_1
                    try clear hfz12_0
                    try clear hfz12_1
                    try clear hfz15_0
                    try clear hfz15_1
                    try clear hfz16_0
                    try clear hfz16_1
                    try clear hfz8_0
                    try clear hfz8_1
                    try clear hx106_0
                    try clear hx106_1
                    try clear p106
                    try clear p2
                    try clear q106
                    obtain ⟨kq, x22_10, rfl, HA, HJ10, BK107, HB⟩ := hcut
                    cases kq with
                    | zero => exact absurd HA.out (by simp [account_CheckAll.j1])
                    | succ kj10 =>
                      have H := HA.out
                      clear HA
                      simp only [account_CheckAll.j1] at H
                      by_cases c17 : x22_10 = true
                      · subst c17
                        have H1 : (some 7) = some r := by rw [if_pos rfl] at H; exact H
                        clear H
                        have H := H1
                        clear H1
                        obtain rfl := Option.some.inj H
                        go_wp2
                        repeat (go_quiet (fail); try go_wp2)
                        go_ret
                        exact ⟨by first | rfl | (simp [errW_none, errW_some] <;> rfl) | (simp [*, errW_none, errW_some] <;> rfl), by repeat (first | (with_reducible first | exact HB.out | apply below_alloc | apply pw_below_drewN | apply below_drew1 | refine below_set ?_ GE107.out) | exact HB.out)⟩
                      · replace c17 := Bool.eq_false_iff.mpr c17
                        subst c17
                        have H1 : (if x12_1 > 0 then (if 0 ≤ (wrap64 (x12_1 - 1)) then (if (wrap64 (x12_1 - 1)) < (l0.length : Int) then (if ((Op.bytesLess (((rd_T48 l0 (wrap64 (x12_1 - 1))).f0).toList) ((rd_T48 l0 x12_1).f0).toList) = true) then (account_CheckAll.j2 kj10 l0 x12_1 l0 (l0.length : Int) x12_1 ((rd_T48 l0 x12_1).f0) ((rd_T48 l0 x12_1).f1)) else (some 8)) else (none)) else (none)) else (account_CheckAll.j2 kj10 l0 x12_1 l0 (l0.length : Int) x12_1 ((rd_T48 l0 x12_1).f0) ((rd_T48 l0 x12_1).f1))) = some r := by rw [if_neg (show ¬ (false = true) by decide)] at H; exact H
                        clear H
                        have H := H1
                        clear H1
                        by_cases c18 : x12_1 > 0
                        · rw [if_pos c18] at H
                          have c18b0 : decide (0 < x12_1) = true := decide_eq_true c18
                          clear c18
                          obtain ⟨ji19, hji19⟩ : ∃ j_ : Int, (wrap64 (x12_1 - 1)) = j_ := ⟨_, rfl⟩
                          replace H : (if 0 ≤ (ji19) then (if (ji19) < (l0.length : Int) then (if ((Op.bytesLess (((rd_T48 l0 (ji19)).f0).toList) ((rd_T48 l0 x12_1).f0).toList) = true) then (account_CheckAll.j2 kj10 l0 x12_1 l0 (l0.length : Int) x12_1 ((rd_T48 l0 x12_1).f0) ((rd_T48 l0 x12_1).f1)) else (some 8)) else (none)) else (none)) = some r := by first | (rw [hji19] at H; exact H) | (simp only [hji19] at H ⊢; exact H)
                          have hji19w : (IntKind.i64.wrap (x12_1 - 1)) = ji19 := (i64_w _).trans hji19
                          by_cases c20 : 0 ≤ (ji19)
                          · rw [if_pos c20] at H
                            have c20b0 : decide (0 ≤ (ji19)) = true := decide_eq_true c20
                            clear c20
                            by_cases c21 : (ji19) < (l0.length : Int)
                            · rw [if_pos c21] at H
                              have c21b0 : decide ((ji19) < (l0.length : Int)) = true := decide_eq_true c21
                              clear c21
                              by_cases c22 : ((Op.bytesLess (((rd_T48 l0 (ji19)).f0).toList) ((rd_T48 l0 x12_1).f0).toList) = true)
                              · rw [if_pos c22] at H
                                have c22b0 : (Op.bytesLess (((rd_T48 l0 (ji19)).f0).toList) ((rd_T48 l0 x12_1).f0).toList) = true := c22
                                clear c22
                                have H' := Aside0.mk H
                                clear H
                                have hcz23_0 : wc.cell? ⟨gb107, 0, none⟩ = some (.string ((rd_T48 l0 x12_1).f0)) := (blk_cell BK107.out 0).trans rfl
                                have hcz23_1 : wc.cell? ⟨gb107, 1, none⟩ = some (.int .i64 ((rd_T48 l0 x12_1).f1)) := (blk_cell BK107.out 1).trans rfl
                                have hfz23_0 := blk_frozen BK107.out 0
                                have hfz23_1 := blk_frozen BK107.out 1
                                have p109 : 0 ≤ ((ji19) : Int) := of_decide_eq_true (by first | (with_reducible assumption) | assumption)
                                have q109 : (ji19) < (l0.length : Int) := of_decide_eq_true (by first | (with_reducible assumption) | assumption)
                                obtain ⟨ad109, e109, hx109_0, hx109_1⟩ := at_T48 HR0.out (ji19) p109 q109
                                obtain rfl : ad106 = ad109 := (by injection e109)
                                replace hx109_0 := (HB.out.cell (World.block_lt_of_cell? w _ hx109_0)).trans hx109_0
                                replace hx109_1 := (HB.out.cell (World.block_lt_of_cell? w _ hx109_1)).trans hx109_1
                                replace p109 := eq_true p109
                                replace q109 := eq_true q109
                                go_wp2
                                repeat (go_quiet (fail); try go_wp2)
                                go_meet
                                case rel => exact ⟨_, H', ⟨by have := HK1.out; have := HJ10.out; first | omega | exact Nat.le_refl _⟩, ⟨by (with_reducible repeat (first | refine blk_drewN ?_ _ | refine blk_drew ?_ | refine blk_alloc ?_ _)); exact BK107.out⟩, ⟨by repeat (first | (with_reducible first | exact HB.out | apply below_alloc | apply pw_below_drewN | apply below_drew1 | refine below_set ?_ GE107.out) | exact HB.out)⟩⟩
                              · rw [if_neg c22] at H
                                have c22b0 : (Op.bytesLess (((rd_T48 l0 (ji19)).f0).toList) ((rd_T48 l0 x12_1).f0).toList) = false := by simpa using c22
                                clear c22
                                obtain rfl := Option.some.inj H
                                have hcz24_0 : wc.cell? ⟨gb107, 0, none⟩ = some (.string ((rd_T48 l0 x12_1).f0)) := (blk_cell BK107.out 0).trans rfl
                                have hcz24_1 : wc.cell? ⟨gb107, 1, none⟩ = some (.int .i64 ((rd_T48 l0 x12_1).f1)) := (blk_cell BK107.out 1).trans rfl
                                have hfz24_0 := blk_frozen BK107.out 0
                                have hfz24_1 := blk_frozen BK107.out 1
                                have p109 : 0 ≤ ((ji19) : Int) := of_decide_eq_true (by first | (with_reducible assumption) | assumption)
                                have q109 : (ji19) < (l0.length : Int) := of_decide_eq_true (by first | (with_reducible assumption) | assumption)
                                obtain ⟨ad109, e109, hx109_0, hx109_1⟩ := at_T48 HR0.out (ji19) p109 q109
                                obtain rfl : ad106 = ad109 := (by injection e109)
                                replace hx109_0 := (HB.out.cell (World.block_lt_of_cell? w _ hx109_0)).trans hx109_0
                                replace hx109_1 := (HB.out.cell (World.block_lt_of_cell? w _ hx109_1)).trans hx109_1
                                replace p109 := eq_true p109
                                replace q109 := eq_true q109
                                go_wp2
                                repeat (go_quiet (fail); try go_wp2)
                                go_ret
                                exact ⟨by first | rfl | (simp [errW_none, errW_some] <;> rfl) | (simp only [← hji19]; first | rfl | (simp [errW_none, errW_some] <;> rfl)) | (simp [*, errW_none, errW_some] <;> rfl), by repeat (first | (with_reducible first | exact HB.out | apply below_alloc | apply pw_below_drewN | apply below_drew1 | refine below_set ?_ GE107.out) | exact HB.out)⟩
                            · rw [if_neg c21] at H
                              exact absurd H (by simp)
                          · rw [if_neg c20] at H
                            exact absurd H (by simp)
                        · rw [if_neg c18] at H
                          have c18b0 : decide (0 < x12_1) = false := decide_eq_false c18
                          clear c18
                          have H' := Aside0.mk H
                          clear H
                          go_wp2
                          repeat (go_quiet (fail); try go_wp2)
                          go_meet
                          case rel => exact ⟨_, H', ⟨by have := HK1.out; have := HJ10.out; first | omega | exact Nat.le_refl _⟩, ⟨by (with_reducible repeat (first | refine blk_drewN ?_ _ | refine blk_drew ?_ | refine blk_alloc ?_ _)); exact BK107.out⟩, ⟨by repeat (first | (with_reducible first | exact HB.out | apply below_alloc | apply pw_below_drewN | apply below_drew1 | refine below_set ?_ GE107.out) | exact HB.out)⟩⟩
                · rw [if_neg c10] at H
                  have c10b0 : (t108 == 0) = false := beq_eq_false_iff_ne.mpr c10
                  have c10b1 : (t108 != 0) = true := bne_iff_ne.mpr c10
                  (first | rw [c10b0] | (simp only [i64_w, i32_w]; rw [c10b0]) | skip)
                  obtain rfl := Option.some.inj H
                  have hcz25_0 : w7.cell? ⟨gb107, 0, none⟩ = some (.string (⟨#[]⟩ : ByteArray)) := (blk_cell BK107.out 0).trans rfl
                  have hcz25_1 : w7.cell? ⟨gb107, 1, none⟩ = some (.int .i64 0) := (blk_cell BK107.out 1).trans rfl
                  have hfz25_0 := blk_frozen BK107.out 0
                  have hfz25_1 := blk_frozen BK107.out 1
                  go_wp2_with (first | (go_at_call 70; (with_reducible refine (account_Check.calls ((rd_T48 l0 x12_1).f0) t108 _ (HL.out.below (by repeat (first | (with_reducible first | exact HB.out | apply below_alloc | apply pw_below_drewN | apply below_drew1) | exact HB.out | refine below_set ?_ (Aside0.out (by assumption))))) A9.out).mono ?_); rintro e w26 ⟨rfl, hb⟩; have n0_ := Aside0.mk (blk_below (g := gb107) (o := .cells #[.string ((rd_T48 l0 x12_1).f0), .int .i64 ((rd_T48 l0 x12_1).f1)] 48 (0, 0)) (by (with_reducible repeat (first | refine blk_drewN ?_ _ | refine blk_drew ?_ | refine blk_alloc ?_ _)); refine blk_put (cs := #[.string ((rd_T48 l0 x12_1).f0), .int .i64 0]) ?_ 1 _ rfl; (with_reducible repeat (first | refine blk_drewN ?_ _ | refine blk_drew ?_ | refine blk_alloc ?_ _)); refine blk_put (cs := #[.string (⟨#[]⟩ : ByteArray), .int .i64 0]) ?_ 0 _ rfl; (with_reducible repeat (first | refine blk_drewN ?_ _ | refine blk_drew ?_ | refine blk_alloc ?_ _)); exact BK107.out) hb); have n1_ := Aside0.mk (below_step (by repeat (first | (with_reducible first | exact HB.out | apply below_alloc | apply pw_below_drewN | apply below_drew1 | refine below_set ?_ GE107.out) | exact HB.out)) hb); clear BK107; clear HB; have BK107 := n0_; have HB := n1_; clear n0_ n1_; (try clear hb); (try clear hb2); (try clear hk); (try clear hi)))
                  repeat (go_quiet (first | (go_at_call 70; (with_reducible refine (account_Check.calls ((rd_T48 l0 x12_1).f0) t108 _ (HL.out.below (by repeat (first | (with_reducible first | exact HB.out | apply below_alloc | apply pw_below_drewN | apply below_drew1) | exact HB.out | refine below_set ?_ (Aside0.out (by assumption))))) A9.out).mono ?_); rintro e w26 ⟨rfl, hb⟩; have n0_ := Aside0.mk (blk_below (g := gb107) (o := .cells #[.string ((rd_T48 l0 x12_1).f0), .int .i64 ((rd_T48 l0 x12_1).f1)] 48 (0, 0)) (by (with_reducible repeat (first | refine blk_drewN ?_ _ | refine blk_drew ?_ | refine blk_alloc ?_ _)); refine blk_put (cs := #[.string ((rd_T48 l0 x12_1).f0), .int .i64 0]) ?_ 1 _ rfl; (with_reducible repeat (first | refine blk_drewN ?_ _ | refine blk_drew ?_ | refine blk_alloc ?_ _)); refine blk_put (cs := #[.string (⟨#[]⟩ : ByteArray), .int .i64 0]) ?_ 0 _ rfl; (with_reducible repeat (first | refine blk_drewN ?_ _ | refine blk_drew ?_ | refine blk_alloc ?_ _)); exact BK107.out) hb); have n1_ := Aside0.mk (below_step (by repeat (first | (with_reducible first | exact HB.out | apply below_alloc | apply pw_below_drewN | apply below_drew1 | refine below_set ?_ GE107.out) | exact HB.out)) hb); clear BK107; clear HB; have BK107 := n0_; have HB := n1_; clear n0_ n1_; (try clear hb); (try clear hb2); (try clear hk); (try clear hi))); try go_wp2_with (first | (go_at_call 70; (with_reducible refine (account_Check.calls ((rd_T48 l0 x12_1).f0) t108 _ (HL.out.below (by repeat (first | (with_reducible first | exact HB.out | apply below_alloc | apply pw_below_drewN | apply below_drew1) | exact HB.out | refine below_set ?_ (Aside0.out (by assumption))))) A9.out).mono ?_); rintro e w26 ⟨rfl, hb⟩; have n0_ := Aside0.mk (blk_below (g := gb107) (o := .cells #[.string ((rd_T48 l0 x12_1).f0), .int .i64 ((rd_T48 l0 x12_1).f1)] 48 (0, 0)) (by (with_reducible repeat (first | refine blk_drewN ?_ _ | refine blk_drew ?_ | refine blk_alloc ?_ _)); refine blk_put (cs := #[.string ((rd_T48 l0 x12_1).f0), .int .i64 0]) ?_ 1 _ rfl; (with_reducible repeat (first | refine blk_drewN ?_ _ | refine blk_drew ?_ | refine blk_alloc ?_ _)); refine blk_put (cs := #[.string (⟨#[]⟩ : ByteArray), .int .i64 0]) ?_ 0 _ rfl; (with_reducible repeat (first | refine blk_drewN ?_ _ | refine blk_drew ?_ | refine blk_alloc ?_ _)); exact BK107.out) hb); have n1_ := Aside0.mk (below_step (by repeat (first | (with_reducible first | exact HB.out | apply below_alloc | apply pw_below_drewN | apply below_drew1 | refine below_set ?_ GE107.out) | exact HB.out)) hb); clear BK107; clear HB; have BK107 := n0_; have HB := n1_; clear n0_ n1_; (try clear hb); (try clear hb2); (try clear hk); (try clear hi))))
                  go_ret
                  exact ⟨by first | rfl | (simp [errW_none, errW_some] <;> rfl) | (simp [*, errW_none, errW_some] <;> rfl), by repeat (first | (with_reducible first | exact HB.out | apply below_alloc | apply pw_below_drewN | apply below_drew1 | refine below_set ?_ GE107.out) | exact HB.out)⟩
              case rest =>
                clear HC6
                try clear c1
                try clear p1
                try clear q1
                try clear hx1
                try clear c2
                try clear c2b0
                try clear c2b1
                try clear p2
                try clear c3
                try clear c3b0
                try clear c4
                try clear c4b0
                try clear c5
                try clear c5b0
                try clear p6
                try clear c10
                try clear c10b0
                try clear c10b1
                try clear p10
                try clear q10
                try clear hx10
                try clear c14
                try clear c14b0
                try clear c17
                try clear c18
                try clear c18b0
                try clear c20
                try clear c20b0
                try clear c21
                try clear c21b0
                try clear c22
                try clear c22b0
                try clear hcz12_0
                try clear hcz12_1
                try clear hcz15_0
                try clear hcz15_1
                try clear hcz16_0
                try clear hcz16_1
                try clear hcz23_0
                try clear hcz23_1
                try clear hcz24_0
                try clear hcz24_1
                try clear hcz25_0
                try clear hcz25_1
                try clear hcz8_0
                try clear hcz8_1
                try clear hfz12_0
                try clear hfz12_1
                try clear hfz15_0
                try clear hfz15_1
                try clear hfz16_0
                try clear hfz16_1
                try clear hfz23_0
                try clear hfz23_1
                try clear hfz24_0
                try clear hfz24_1
                try clear hfz25_0
                try clear hfz25_1
                try clear hfz8_0
                try clear hfz8_1
                try clear hx106_0
                try clear hx106_1
                try clear hx109_0
                try clear hx109_1
                try clear p1
                try clear p10
                try clear p106
                try clear p109
                try clear p2
                try clear q1
                try clear q10
                try clear q106
                try clear q109
                obtain ⟨kq, HA, HJ5, BK107, HB⟩ := hcut
                cases kq with
                | zero => exact absurd HA.out (by simp [account_CheckAll.j2])
                | succ kj5 =>
                  have H := HA.out
                  clear HA
                  simp only [account_CheckAll.j2] at H
                  by_cases c27 : 0 ≤ x12_1
                  · rw [if_pos c27] at H
                    have c27b0 := eq_true c27
                    have c27b1 : decide (0 ≤ x12_1) = true := decide_eq_true c27
                    clear c27
                    by_cases c28 : x12_1 ≤ (l0.length : Int)
                    · rw [if_pos c28] at H
                      have c28b0 := eq_true c28
                      have c28b1 : decide (x12_1 ≤ (l0.length : Int)) = true := decide_eq_true c28
                      clear c28
                      obtain ⟨y110, hy110⟩ : ∃ y_ : List (S48), y_ = (l0.take (x12_1 : Int).toNat) := ⟨_, rfl⟩
                      replace H : (account_CheckAll.l1 kj5 l0 l0 (l0.length : Int) x12_1 y110 (y110.length : Int) 0 ((rd_T48 l0 x12_1).f0) ((rd_T48 l0 x12_1).f1)) = some r := by first | (rw [hy110]; with_reducible exact H) | (have H2_ := (Option.bind_some _ _).symm.trans H; rw [hy110]; with_reducible exact H2_) | (have H2_ := (Option.bind_some _ _).symm.trans H; with_reducible exact H2_) | with_reducible exact H | (rw [hy110]; exact H) | exact H
                      have Ny110 := Aside0.mk hy110
                      clear hy110
                      have H' := Aside0.mk H
                      clear H
                      have q29 : (x12_1 : Int) ≤ ((l0.length : Int) : Int) := of_decide_eq_true (by first | (with_reducible assumption) | assumption)
                      obtain ⟨i029, hi029, _, hsz29, _⟩ := info_parts info48
                      have hroom29 : l0.length ≤ c0 := HC0.out
                      have hC29 : Kd.C k48 _ (some ad106) l0.length l0 := HR0.out
                      have hcut29 := cut_to (P := Tryz.prog) 23 48 .i64 Tryz.underlying23 hi029 (some ad106) l0.length c0 x12_1 (of_decide_eq_true (by first | (with_reducible assumption) | assumption)) q29 hroom29
                      have hr29 := Kd.C_take (m := (x12_1 : Int).toNat) hC29 (by omega)
                      have hy29 : y110.length = (x12_1 : Int).toNat := (by rw [Ny110.out, List.length_take]; omega)
                      rw [← Ny110.out] at hr29
                      rw [← hy29] at hcut29
                      have HR113 := Aside0.mk hr29
                      have HC113 := Aside0.mk (show y110.length ≤ c0 from by omega)
                      clear hr29 hC29 hroom29 hi029 hsz29
                      have KY29 := Aside0.mk hy29
                      clear hy29
                      replace q29 := eq_true q29
                      go_wp2
                      repeat (go_quiet (fail); try go_wp2)
                      go_loopg [49] kj5 (fun kq v49 w' => ∃ (x49_3 : Int), v49 = .int .i64 x49_3 ∧ Aside0 (account_CheckAll.l1 kq l0 l0 (l0.length : Int) x12_1 y110 (y110.length : Int) x49_3 ((rd_T48 l0 x12_1).f0) ((rd_T48 l0 x12_1).f1) = some r) ∧ Aside0 (kq ≤ kj5) ∧ Aside0 (w'.heap[gb107]? = some (.cells #[.string ((rd_T48 l0 x12_1).f0), .int .i64 ((rd_T48 l0 x12_1).f1)] 48 (0, 0))) ∧ Aside0 (Below w.heap.size w w'))
                      case atStart => exact ⟨(0), (by first | rfl | (simp; done) | (simp [*]; done)), H', ⟨Nat.le_refl _⟩, ⟨by (with_reducible repeat (first | refine blk_drewN ?_ _ | refine blk_drew ?_ | refine blk_alloc ?_ _)); exact BK107.out⟩, ⟨by repeat (first | (with_reducible first | exact HB.out | apply below_alloc | apply pw_below_drewN | apply below_drew1 | refine below_set ?_ GE107.out) | exact HB.out)⟩⟩
                      case round =>
                        clear H'
                        try clear c1
                        try clear p1
                        try clear q1
                        try clear hx1
                        try clear c2
                        try clear c2b0
                        try clear c2b1
                        try clear p2
                        try clear q2
                        try clear c3
                        try clear c3b0
                        try clear c4
                        try clear c4b0
                        try clear c5
                        try clear c5b0
                        try clear p6
                        try clear c10
                        try clear c10b0
                        try clear c10b1
                        try clear p10
                        try clear q10
                        try clear hx10
                        try clear c14
                        try clear c14b0
                        try clear c17
                        try clear c18
                        try clear c18b0
                        try clear c20
                        try clear c20b0
                        try clear c21
                        try clear c21b0
                        try clear c22
                        try clear c22b0
                        try clear c27
                        try clear c27b0
                        try clear c27b1
                        try clear c28
                        try clear c28b0
                        try clear c28b1
                        try clear q29
                        try clear hcz12_0
                        try clear hcz12_1
                        try clear hcz15_0
                        try clear hcz15_1
                        try clear hcz16_0
                        try clear hcz16_1
                        try clear hcz23_0
                        try clear hcz23_1
                        try clear hcz24_0
                        try clear hcz24_1
                        try clear hcz25_0
                        try clear hcz25_1
                        try clear hcz8_0
                        try clear hcz8_1
                        try clear hfz12_0
                        try clear hfz12_1
                        try clear hfz15_0
                        try clear hfz15_1
                        try clear hfz16_0
                        try clear hfz16_1
                        try clear hfz23_0
                        try clear hfz23_1
                        try clear hfz24_0
                        try clear hfz24_1
                        try clear hfz25_0
                        try clear hfz25_1
                        try clear hfz8_0
                        try clear hfz8_1
                        try clear hx106_0
                        try clear hx106_1
                        try clear hx109_0
                        try clear hx109_1
                        try clear p1
                        try clear p10
                        try clear p106
                        try clear p109
                        try clear p2
                        try clear p6
                        try clear q1
                        try clear q10
                        try clear q106
                        try clear q109
                        try clear q29
                        obtain ⟨x49_3, rfl, HA, HK3, BK107, HB⟩ := hrel
                        cases gk with
                        | zero => exact absurd HA.out (by simp [account_CheckAll.l1])
                        | succ k3 =>
                          have H := HA.out
                          clear HA
                          simp only [account_CheckAll.l1] at H
                          by_cases c30 : x49_3 < (y110.length : Int)
                          · rw [if_pos c30] at H
                            have c30b0 : decide (x49_3 < (y110.length : Int)) = true := decide_eq_true c30
                            clear c30
                            by_cases c31 : 0 ≤ x49_3
                            · rw [if_pos c31] at H
                              have c31b0 : decide (0 ≤ x49_3) = true := decide_eq_true c31
                              clear c31
                              by_cases c32 : x49_3 < (y110.length : Int)
                              · rw [if_pos c32] at H
                                have c32b0 : decide (x49_3 < (y110.length : Int)) = true := decide_eq_true c32
                                clear c32
                                replace H := Option.bind_eq_some_iff.mp H
                                obtain ⟨t116, A330, H⟩ := H
                                replace H : (if t116 = true then (if ((rd_T48 l0 x12_1).f1) = ((rd_T48 y110 x49_3).f1) then (account_CheckAll.l1 k3 l0 l0 (l0.length : Int) x12_1 y110 (y110.length : Int) (wrap64 (x49_3 + 1)) ((rd_T48 l0 x12_1).f0) ((rd_T48 l0 x12_1).f1)) else (some 18)) else (account_CheckAll.l1 k3 l0 l0 (l0.length : Int) x12_1 y110 (y110.length : Int) (wrap64 (x49_3 + 1)) ((rd_T48 l0 x12_1).f0) ((rd_T48 l0 x12_1).f1))) = some r := H
                                have A33 := Aside0.mk A330
                                clear A330
                                by_cases c34 : t116 = true
                                · subst c34
                                  have H1 : (if ((rd_T48 l0 x12_1).f1) = ((rd_T48 y110 x49_3).f1) then (account_CheckAll.l1 k3 l0 l0 (l0.length : Int) x12_1 y110 (y110.length : Int) (wrap64 (x49_3 + 1)) ((rd_T48 l0 x12_1).f0) ((rd_T48 l0 x12_1).f1)) else (some 18)) = some r := by rw [if_pos rfl] at H; exact H
                                  clear H
                                  have H := H1
                                  clear H1
                                  by_cases c35 : ((rd_T48 l0 x12_1).f1) = ((rd_T48 y110 x49_3).f1)
                                  · rw [if_pos c35] at H
                                    have c35b0 : (((rd_T48 l0 x12_1).f1) == ((rd_T48 y110 x49_3).f1)) = true := beq_iff_eq.mpr c35
                                    have c35b1 : (((rd_T48 l0 x12_1).f1) != ((rd_T48 y110 x49_3).f1)) = false := bne_eq_false_iff_eq.mpr c35
                                    clear c35
                                    have H' := Aside0.mk H
                                    clear H
                                    have p114 : 0 ≤ (x49_3 : Int) := of_decide_eq_true (by first | (with_reducible assumption) | assumption)
                                    have q114 : x49_3 < (y110.length : Int) := of_decide_eq_true (by first | (with_reducible assumption) | assumption)
                                    obtain ⟨ad114, e114, hx114_0, hx114_1⟩ := at_T48 HR113.out x49_3 p114 q114
                                    obtain rfl : ad106 = ad114 := (by injection e114)
                                    replace hx114_0 := (HB.out.cell (World.block_lt_of_cell? w _ hx114_0)).trans hx114_0
                                    replace hx114_1 := (HB.out.cell (World.block_lt_of_cell? w _ hx114_1)).trans hx114_1
                                    replace p114 := eq_true p114
                                    replace q114 := eq_true q114
                                    go_wp2_with (first | ((with_reducible refine gate_dst (N := 6) rfl ?_); refine box_event ?hg (N := 6) ?hd (cs := #[.string (⟨#[]⟩ : ByteArray), .int .i64 0]) (t := 48) ?hr ?_; (case hd => rfl); (case hg => rfl); (case hr => first | (go_simp; done) | (go_simp; rfl)); intro gb115 hg w36 hbox hb; have n0_ := Aside0.mk (blk_below (g := gb107) (o := .cells #[.string ((rd_T48 l0 x12_1).f0), .int .i64 ((rd_T48 l0 x12_1).f1)] 48 (0, 0)) (by (with_reducible repeat (first | refine blk_drewN ?_ _ | refine blk_drew ?_ | refine blk_alloc ?_ _)); exact BK107.out) hb); have n1_ := Aside0.mk (below_step (by repeat (first | (with_reducible first | exact HB.out | apply below_alloc | apply pw_below_drewN | apply below_drew1 | refine below_set ?_ GE107.out) | exact HB.out)) hb); have n2_ := Aside0.mk (hbox); have n3_ := Aside0.mk ((by rw [hg]; exact (below_size (by repeat (first | (with_reducible first | exact HB.out | apply below_alloc | apply pw_below_drewN | apply below_drew1 | refine below_set ?_ GE107.out) | exact HB.out))) : w.heap.size ≤ gb115)); have n4_ := Aside0.mk ((by rw [hg]; exact (below_size (by repeat (first | (with_reducible first | exact HB.out | apply below_alloc | apply pw_below_drewN | apply below_drew1 | refine below_set ?_ GE107.out) | exact HB.out))) : w.heap.size ≤ gb115)); have n5_ := Aside0.mk ((by rw [hg]; exact Nat.ne_of_lt (blk_lt (g := gb107) (o := .cells #[.string ((rd_T48 l0 x12_1).f0), .int .i64 ((rd_T48 l0 x12_1).f1)] 48 (0, 0)) (by (with_reducible repeat (first | refine blk_drewN ?_ _ | refine blk_drew ?_ | refine blk_alloc ?_ _)); exact BK107.out)) : gb107 ≠ gb115)); have n6_ := Aside0.mk ((by rw [hg]; exact Nat.ne_of_gt (blk_lt (g := gb107) (o := .cells #[.string ((rd_T48 l0 x12_1).f0), .int .i64 ((rd_T48 l0 x12_1).f1)] 48 (0, 0)) (by (with_reducible repeat (first | refine blk_drewN ?_ _ | refine blk_drew ?_ | refine blk_alloc ?_ _)); exact BK107.out)) : gb115 ≠ gb107)); clear BK107; clear HB; have BK107 := n0_; have HB := n1_; have BK115 := n2_; have GW115 := n3_; have GE115 := n4_; have NB107_115 := n5_; have NB115_107 := n6_; clear n0_ n1_ n2_ n3_ n4_ n5_ n6_; clear hb hbox hg; have hnb37 := NB115_107.out; have hnc37 := NB107_115.out; have hcz38_0 : w36.cell? ⟨gb115, 0, none⟩ = some (.string (⟨#[]⟩ : ByteArray)) := (blk_cell BK115.out 0).trans rfl; have hcz38_1 : w36.cell? ⟨gb115, 1, none⟩ = some (.int .i64 0) := (blk_cell BK115.out 1).trans rfl; have hfz38_0 := blk_frozen BK115.out 0; have hfz38_1 := blk_frozen BK115.out 1; have hcz39_0 : w36.cell? ⟨gb107, 0, none⟩ = some (.string ((rd_T48 l0 x12_1).f0)) := (blk_cell BK107.out 0).trans rfl; have hcz39_1 : w36.cell? ⟨gb107, 1, none⟩ = some (.int .i64 ((rd_T48 l0 x12_1).f1)) := (blk_cell BK107.out 1).trans rfl; have hfz39_0 := blk_frozen BK107.out 0; have hfz39_1 := blk_frozen BK107.out 1) | (go_at_call 71; (with_reducible refine (account_Under.calls ((rd_T48 l0 x12_1).f0) ((rd_T48 y110 x49_3).f0) true _ A33.out).mono ?_); rintro e w' ⟨rfl, ⟨nd, rfl⟩⟩; (try first | exact ⟨rfl, _, World.drewN_drewN _ _ _⟩ | exact ⟨rfl, _, Eq.trans (World.drewN_drewN _ _ _) (congrArg (World.drewN _) (Nat.add_assoc _ _ _))⟩)))
                                    repeat (go_quiet (first | ((with_reducible refine gate_dst (N := 6) rfl ?_); refine box_event ?hg (N := 6) ?hd (cs := #[.string (⟨#[]⟩ : ByteArray), .int .i64 0]) (t := 48) ?hr ?_; (case hd => rfl); (case hg => rfl); (case hr => first | (go_simp; done) | (go_simp; rfl)); intro gb115 hg w36 hbox hb; have n0_ := Aside0.mk (blk_below (g := gb107) (o := .cells #[.string ((rd_T48 l0 x12_1).f0), .int .i64 ((rd_T48 l0 x12_1).f1)] 48 (0, 0)) (by (with_reducible repeat (first | refine blk_drewN ?_ _ | refine blk_drew ?_ | refine blk_alloc ?_ _)); exact BK107.out) hb); have n1_ := Aside0.mk (below_step (by repeat (first | (with_reducible first | exact HB.out | apply below_alloc | apply pw_below_drewN | apply below_drew1 | refine below_set ?_ GE107.out) | exact HB.out)) hb); have n2_ := Aside0.mk (hbox); have n3_ := Aside0.mk ((by rw [hg]; exact (below_size (by repeat (first | (with_reducible first | exact HB.out | apply below_alloc | apply pw_below_drewN | apply below_drew1 | refine below_set ?_ GE107.out) | exact HB.out))) : w.heap.size ≤ gb115)); have n4_ := Aside0.mk ((by rw [hg]; exact (below_size (by repeat (first | (with_reducible first | exact HB.out | apply below_alloc | apply pw_below_drewN | apply below_drew1 | refine below_set ?_ GE107.out) | exact HB.out))) : w.heap.size ≤ gb115)); have n5_ := Aside0.mk ((by rw [hg]; exact Nat.ne_of_lt (blk_lt (g := gb107) (o := .cells #[.string ((rd_T48 l0 x12_1).f0), .int .i64 ((rd_T48 l0 x12_1).f1)] 48 (0, 0)) (by (with_reducible repeat (first | refine blk_drewN ?_ _ | refine blk_drew ?_ | refine blk_alloc ?_ _)); exact BK107.out)) : gb107 ≠ gb115)); have n6_ := Aside0.mk ((by rw [hg]; exact Nat.ne_of_gt (blk_lt (g := gb107) (o := .cells #[.string ((rd_T48 l0 x12_1).f0), .int .i64 ((rd_T48 l0 x12_1).f1)] 48 (0, 0)) (by (with_reducible repeat (first | refine blk_drewN ?_ _ | refine blk_drew ?_ | refine blk_alloc ?_ _)); exact BK107.out)) : gb115 ≠ gb107)); clear BK107; clear HB; have BK107 := n0_; have HB := n1_; have BK115 := n2_; have GW115 := n3_; have GE115 := n4_; have NB107_115 := n5_; have NB115_107 := n6_; clear n0_ n1_ n2_ n3_ n4_ n5_ n6_; clear hb hbox hg; have hnb37 := NB115_107.out; have hnc37 := NB107_115.out; have hcz38_0 : w36.cell? ⟨gb115, 0, none⟩ = some (.string (⟨#[]⟩ : ByteArray)) := (blk_cell BK115.out 0).trans rfl; have hcz38_1 : w36.cell? ⟨gb115, 1, none⟩ = some (.int .i64 0) := (blk_cell BK115.out 1).trans rfl; have hfz38_0 := blk_frozen BK115.out 0; have hfz38_1 := blk_frozen BK115.out 1; have hcz39_0 : w36.cell? ⟨gb107, 0, none⟩ = some (.string ((rd_T48 l0 x12_1).f0)) := (blk_cell BK107.out 0).trans rfl; have hcz39_1 : w36.cell? ⟨gb107, 1, none⟩ = some (.int .i64 ((rd_T48 l0 x12_1).f1)) := (blk_cell BK107.out 1).trans rfl; have hfz39_0 := blk_frozen BK107.out 0; have hfz39_1 := blk_frozen BK107.out 1) | (go_at_call 71; (with_reducible refine (account_Under.calls ((rd_T48 l0 x12_1).f0) ((rd_T48 y110 x49_3).f0) true _ A33.out).mono ?_); rintro e w' ⟨rfl, ⟨nd, rfl⟩⟩; (try first | exact ⟨rfl, _, World.drewN_drewN _ _ _⟩ | exact ⟨rfl, _, Eq.trans (World.drewN_drewN _ _ _) (congrArg (World.drewN _) (Nat.add_assoc _ _ _))⟩))); try go_wp2_with (first | ((with_reducible refine gate_dst (N := 6) rfl ?_); refine box_event ?hg (N := 6) ?hd (cs := #[.string (⟨#[]⟩ : ByteArray), .int .i64 0]) (t := 48) ?hr ?_; (case hd => rfl); (case hg => rfl); (case hr => first | (go_simp; done) | (go_simp; rfl)); intro gb115 hg w36 hbox hb; have n0_ := Aside0.mk (blk_below (g := gb107) (o := .cells #[.string ((rd_T48 l0 x12_1).f0), .int .i64 ((rd_T48 l0 x12_1).f1)] 48 (0, 0)) (by (with_reducible repeat (first | refine blk_drewN ?_ _ | refine blk_drew ?_ | refine blk_alloc ?_ _)); exact BK107.out) hb); have n1_ := Aside0.mk (below_step (by repeat (first | (with_reducible first | exact HB.out | apply below_alloc | apply pw_below_drewN | apply below_drew1 | refine below_set ?_ GE107.out) | exact HB.out)) hb); have n2_ := Aside0.mk (hbox); have n3_ := Aside0.mk ((by rw [hg]; exact (below_size (by repeat (first | (with_reducible first | exact HB.out | apply below_alloc | apply pw_below_drewN | apply below_drew1 | refine below_set ?_ GE107.out) | exact HB.out))) : w.heap.size ≤ gb115)); have n4_ := Aside0.mk ((by rw [hg]; exact (below_size (by repeat (first | (with_reducible first | exact HB.out | apply below_alloc | apply pw_below_drewN | apply below_drew1 | refine below_set ?_ GE107.out) | exact HB.out))) : w.heap.size ≤ gb115)); have n5_ := Aside0.mk ((by rw [hg]; exact Nat.ne_of_lt (blk_lt (g := gb107) (o := .cells #[.string ((rd_T48 l0 x12_1).f0), .int .i64 ((rd_T48 l0 x12_1).f1)] 48 (0, 0)) (by (with_reducible repeat (first | refine blk_drewN ?_ _ | refine blk_drew ?_ | refine blk_alloc ?_ _)); exact BK107.out)) : gb107 ≠ gb115)); have n6_ := Aside0.mk ((by rw [hg]; exact Nat.ne_of_gt (blk_lt (g := gb107) (o := .cells #[.string ((rd_T48 l0 x12_1).f0), .int .i64 ((rd_T48 l0 x12_1).f1)] 48 (0, 0)) (by (with_reducible repeat (first | refine blk_drewN ?_ _ | refine blk_drew ?_ | refine blk_alloc ?_ _)); exact BK107.out)) : gb115 ≠ gb107)); clear BK107; clear HB; have BK107 := n0_; have HB := n1_; have BK115 := n2_; have GW115 := n3_; have GE115 := n4_; have NB107_115 := n5_; have NB115_107 := n6_; clear n0_ n1_ n2_ n3_ n4_ n5_ n6_; clear hb hbox hg; have hnb37 := NB115_107.out; have hnc37 := NB107_115.out; have hcz38_0 : w36.cell? ⟨gb115, 0, none⟩ = some (.string (⟨#[]⟩ : ByteArray)) := (blk_cell BK115.out 0).trans rfl; have hcz38_1 : w36.cell? ⟨gb115, 1, none⟩ = some (.int .i64 0) := (blk_cell BK115.out 1).trans rfl; have hfz38_0 := blk_frozen BK115.out 0; have hfz38_1 := blk_frozen BK115.out 1; have hcz39_0 : w36.cell? ⟨gb107, 0, none⟩ = some (.string ((rd_T48 l0 x12_1).f0)) := (blk_cell BK107.out 0).trans rfl; have hcz39_1 : w36.cell? ⟨gb107, 1, none⟩ = some (.int .i64 ((rd_T48 l0 x12_1).f1)) := (blk_cell BK107.out 1).trans rfl; have hfz39_0 := blk_frozen BK107.out 0; have hfz39_1 := blk_frozen BK107.out 1) | (go_at_call 71; (with_reducible refine (account_Under.calls ((rd_T48 l0 x12_1).f0) ((rd_T48 y110 x49_3).f0) true _ A33.out).mono ?_); rintro e w' ⟨rfl, ⟨nd, rfl⟩⟩; (try first | exact ⟨rfl, _, World.drewN_drewN _ _ _⟩ | exact ⟨rfl, _, Eq.trans (World.drewN_drewN _ _ _) (congrArg (World.drewN _) (Nat.add_assoc _ _ _))⟩))))
                                    go_roundg k3
                                    case measure => have := HK1.out; have := HJ5.out; have := HK3.out; omega
                                    case rel => exact ⟨(wrap64 (x49_3 + 1)), (by first | rfl | (simp; done) | (simp [*]; done)), H', ⟨by have := HK1.out; have := HJ5.out; have := HK3.out; omega⟩, ⟨by (with_reducible repeat (first | refine blk_drewN ?_ _ | refine blk_drew ?_ | refine blk_alloc ?_ _)); refine blk_far ?_ NB107_115.out _; (with_reducible repeat (first | refine blk_drewN ?_ _ | refine blk_drew ?_ | refine blk_alloc ?_ _)); refine blk_far ?_ NB107_115.out _; (with_reducible repeat (first | refine blk_drewN ?_ _ | refine blk_drew ?_ | refine blk_alloc ?_ _)); exact BK107.out⟩, ⟨by repeat (first | (with_reducible first | exact HB.out | apply below_alloc | apply pw_below_drewN | apply below_drew1 | refine below_set ?_ GE107.out | refine below_set ?_ GE115.out) | exact HB.out)⟩⟩
                                  · rw [if_neg c35] at H
                                    have c35b0 : (((rd_T48 l0 x12_1).f1) == ((rd_T48 y110 x49_3).f1)) = false := beq_eq_false_iff_ne.mpr c35
                                    have c35b1 : (((rd_T48 l0 x12_1).f1) != ((rd_T48 y110 x49_3).f1)) = true := bne_iff_ne.mpr c35
                                    obtain rfl := Option.some.inj H
                                    have p114 : 0 ≤ (x49_3 : Int) := of_decide_eq_true (by first | (with_reducible assumption) | assumption)
                                    have q114 : x49_3 < (y110.length : Int) := of_decide_eq_true (by first | (with_reducible assumption) | assumption)
                                    obtain ⟨ad114, e114, hx114_0, hx114_1⟩ := at_T48 HR113.out x49_3 p114 q114
                                    obtain rfl : ad106 = ad114 := (by injection e114)
                                    replace hx114_0 := (HB.out.cell (World.block_lt_of_cell? w _ hx114_0)).trans hx114_0
                                    replace hx114_1 := (HB.out.cell (World.block_lt_of_cell? w _ hx114_1)).trans hx114_1
                                    replace p114 := eq_true p114
                                    replace q114 := eq_true q114
                                    go_wp2_with (first | ((with_reducible refine gate_dst (N := 6) rfl ?_); refine box_event ?hg (N := 6) ?hd (cs := #[.string (⟨#[]⟩ : ByteArray), .int .i64 0]) (t := 48) ?hr ?_; (case hd => rfl); (case hg => rfl); (case hr => first | (go_simp; done) | (go_simp; rfl)); intro gb115 hg w40 hbox hb; have n0_ := Aside0.mk (blk_below (g := gb107) (o := .cells #[.string ((rd_T48 l0 x12_1).f0), .int .i64 ((rd_T48 l0 x12_1).f1)] 48 (0, 0)) (by (with_reducible repeat (first | refine blk_drewN ?_ _ | refine blk_drew ?_ | refine blk_alloc ?_ _)); exact BK107.out) hb); have n1_ := Aside0.mk (below_step (by repeat (first | (with_reducible first | exact HB.out | apply below_alloc | apply pw_below_drewN | apply below_drew1 | refine below_set ?_ GE107.out) | exact HB.out)) hb); have n2_ := Aside0.mk (hbox); have n3_ := Aside0.mk ((by rw [hg]; exact (below_size (by repeat (first | (with_reducible first | exact HB.out | apply below_alloc | apply pw_below_drewN | apply below_drew1 | refine below_set ?_ GE107.out) | exact HB.out))) : w.heap.size ≤ gb115)); have n4_ := Aside0.mk ((by rw [hg]; exact (below_size (by repeat (first | (with_reducible first | exact HB.out | apply below_alloc | apply pw_below_drewN | apply below_drew1 | refine below_set ?_ GE107.out) | exact HB.out))) : w.heap.size ≤ gb115)); have n5_ := Aside0.mk ((by rw [hg]; exact Nat.ne_of_lt (blk_lt (g := gb107) (o := .cells #[.string ((rd_T48 l0 x12_1).f0), .int .i64 ((rd_T48 l0 x12_1).f1)] 48 (0, 0)) (by (with_reducible repeat (first | refine blk_drewN ?_ _ | refine blk_drew ?_ | refine blk_alloc ?_ _)); exact BK107.out)) : gb107 ≠ gb115)); have n6_ := Aside0.mk ((by rw [hg]; exact Nat.ne_of_gt (blk_lt (g := gb107) (o := .cells #[.string ((rd_T48 l0 x12_1).f0), .int .i64 ((rd_T48 l0 x12_1).f1)] 48 (0, 0)) (by (with_reducible repeat (first | refine blk_drewN ?_ _ | refine blk_drew ?_ | refine blk_alloc ?_ _)); exact BK107.out)) : gb115 ≠ gb107)); clear BK107; clear HB; have BK107 := n0_; have HB := n1_; have BK115 := n2_; have GW115 := n3_; have GE115 := n4_; have NB107_115 := n5_; have NB115_107 := n6_; clear n0_ n1_ n2_ n3_ n4_ n5_ n6_; clear hb hbox hg; have hnb41 := NB115_107.out; have hnc41 := NB107_115.out; have hcz42_0 : w40.cell? ⟨gb115, 0, none⟩ = some (.string (⟨#[]⟩ : ByteArray)) := (blk_cell BK115.out 0).trans rfl; have hcz42_1 : w40.cell? ⟨gb115, 1, none⟩ = some (.int .i64 0) := (blk_cell BK115.out 1).trans rfl; have hfz42_0 := blk_frozen BK115.out 0; have hfz42_1 := blk_frozen BK115.out 1; have hcz43_0 : w40.cell? ⟨gb107, 0, none⟩ = some (.string ((rd_T48 l0 x12_1).f0)) := (blk_cell BK107.out 0).trans rfl; have hcz43_1 : w40.cell? ⟨gb107, 1, none⟩ = some (.int .i64 ((rd_T48 l0 x12_1).f1)) := (blk_cell BK107.out 1).trans rfl; have hfz43_0 := blk_frozen BK107.out 0; have hfz43_1 := blk_frozen BK107.out 1) | (go_at_call 71; (with_reducible refine (account_Under.calls ((rd_T48 l0 x12_1).f0) ((rd_T48 y110 x49_3).f0) true _ A33.out).mono ?_); rintro e w' ⟨rfl, ⟨nd, rfl⟩⟩; (try first | exact ⟨rfl, _, World.drewN_drewN _ _ _⟩ | exact ⟨rfl, _, Eq.trans (World.drewN_drewN _ _ _) (congrArg (World.drewN _) (Nat.add_assoc _ _ _))⟩)))
                                    repeat (go_quiet (first | ((with_reducible refine gate_dst (N := 6) rfl ?_); refine box_event ?hg (N := 6) ?hd (cs := #[.string (⟨#[]⟩ : ByteArray), .int .i64 0]) (t := 48) ?hr ?_; (case hd => rfl); (case hg => rfl); (case hr => first | (go_simp; done) | (go_simp; rfl)); intro gb115 hg w40 hbox hb; have n0_ := Aside0.mk (blk_below (g := gb107) (o := .cells #[.string ((rd_T48 l0 x12_1).f0), .int .i64 ((rd_T48 l0 x12_1).f1)] 48 (0, 0)) (by (with_reducible repeat (first | refine blk_drewN ?_ _ | refine blk_drew ?_ | refine blk_alloc ?_ _)); exact BK107.out) hb); have n1_ := Aside0.mk (below_step (by repeat (first | (with_reducible first | exact HB.out | apply below_alloc | apply pw_below_drewN | apply below_drew1 | refine below_set ?_ GE107.out) | exact HB.out)) hb); have n2_ := Aside0.mk (hbox); have n3_ := Aside0.mk ((by rw [hg]; exact (below_size (by repeat (first | (with_reducible first | exact HB.out | apply below_alloc | apply pw_below_drewN | apply below_drew1 | refine below_set ?_ GE107.out) | exact HB.out))) : w.heap.size ≤ gb115)); have n4_ := Aside0.mk ((by rw [hg]; exact (below_size (by repeat (first | (with_reducible first | exact HB.out | apply below_alloc | apply pw_below_drewN | apply below_drew1 | refine below_set ?_ GE107.out) | exact HB.out))) : w.heap.size ≤ gb115)); have n5_ := Aside0.mk ((by rw [hg]; exact Nat.ne_of_lt (blk_lt (g := gb107) (o := .cells #[.string ((rd_T48 l0 x12_1).f0), .int .i64 ((rd_T48 l0 x12_1).f1)] 48 (0, 0)) (by (with_reducible repeat (first | refine blk_drewN ?_ _ | refine blk_drew ?_ | refine blk_alloc ?_ _)); exact BK107.out)) : gb107 ≠ gb115)); have n6_ := Aside0.mk ((by rw [hg]; exact Nat.ne_of_gt (blk_lt (g := gb107) (o := .cells #[.string ((rd_T48 l0 x12_1).f0), .int .i64 ((rd_T48 l0 x12_1).f1)] 48 (0, 0)) (by (with_reducible repeat (first | refine blk_drewN ?_ _ | refine blk_drew ?_ | refine blk_alloc ?_ _)); exact BK107.out)) : gb115 ≠ gb107)); clear BK107; clear HB; have BK107 := n0_; have HB := n1_; have BK115 := n2_; have GW115 := n3_; have GE115 := n4_; have NB107_115 := n5_; have NB115_107 := n6_; clear n0_ n1_ n2_ n3_ n4_ n5_ n6_; clear hb hbox hg; have hnb41 := NB115_107.out; have hnc41 := NB107_115.out; have hcz42_0 : w40.cell? ⟨gb115, 0, none⟩ = some (.string (⟨#[]⟩ : ByteArray)) := (blk_cell BK115.out 0).trans rfl; have hcz42_1 : w40.cell? ⟨gb115, 1, none⟩ = some (.int .i64 0) := (blk_cell BK115.out 1).trans rfl; have hfz42_0 := blk_frozen BK115.out 0; have hfz42_1 := blk_frozen BK115.out 1; have hcz43_0 : w40.cell? ⟨gb107, 0, none⟩ = some (.string ((rd_T48 l0 x12_1).f0)) := (blk_cell BK107.out 0).trans rfl; have hcz43_1 : w40.cell? ⟨gb107, 1, none⟩ = some (.int .i64 ((rd_T48 l0 x12_1).f1)) := (blk_cell BK107.out 1).trans rfl; have hfz43_0 := blk_frozen BK107.out 0; have hfz43_1 := blk_frozen BK107.out 1) | (go_at_call 71; (with_reducible refine (account_Under.calls ((rd_T48 l0 x12_1).f0) ((rd_T48 y110 x49_3).f0) true _ A33.out).mono ?_); rintro e w' ⟨rfl, ⟨nd, rfl⟩⟩; (try first | exact ⟨rfl, _, World.drewN_drewN _ _ _⟩ | exact ⟨rfl, _, Eq.trans (World.drewN_drewN _ _ _) (congrArg (World.drewN _) (Nat.add_assoc _ _ _))⟩))); try go_wp2_with (first | ((with_reducible refine gate_dst (N := 6) rfl ?_); refine box_event ?hg (N := 6) ?hd (cs := #[.string (⟨#[]⟩ : ByteArray), .int .i64 0]) (t := 48) ?hr ?_; (case hd => rfl); (case hg => rfl); (case hr => first | (go_simp; done) | (go_simp; rfl)); intro gb115 hg w40 hbox hb; have n0_ := Aside0.mk (blk_below (g := gb107) (o := .cells #[.string ((rd_T48 l0 x12_1).f0), .int .i64 ((rd_T48 l0 x12_1).f1)] 48 (0, 0)) (by (with_reducible repeat (first | refine blk_drewN ?_ _ | refine blk_drew ?_ | refine blk_alloc ?_ _)); exact BK107.out) hb); have n1_ := Aside0.mk (below_step (by repeat (first | (with_reducible first | exact HB.out | apply below_alloc | apply pw_below_drewN | apply below_drew1 | refine below_set ?_ GE107.out) | exact HB.out)) hb); have n2_ := Aside0.mk (hbox); have n3_ := Aside0.mk ((by rw [hg]; exact (below_size (by repeat (first | (with_reducible first | exact HB.out | apply below_alloc | apply pw_below_drewN | apply below_drew1 | refine below_set ?_ GE107.out) | exact HB.out))) : w.heap.size ≤ gb115)); have n4_ := Aside0.mk ((by rw [hg]; exact (below_size (by repeat (first | (with_reducible first | exact HB.out | apply below_alloc | apply pw_below_drewN | apply below_drew1 | refine below_set ?_ GE107.out) | exact HB.out))) : w.heap.size ≤ gb115)); have n5_ := Aside0.mk ((by rw [hg]; exact Nat.ne_of_lt (blk_lt (g := gb107) (o := .cells #[.string ((rd_T48 l0 x12_1).f0), .int .i64 ((rd_T48 l0 x12_1).f1)] 48 (0, 0)) (by (with_reducible repeat (first | refine blk_drewN ?_ _ | refine blk_drew ?_ | refine blk_alloc ?_ _)); exact BK107.out)) : gb107 ≠ gb115)); have n6_ := Aside0.mk ((by rw [hg]; exact Nat.ne_of_gt (blk_lt (g := gb107) (o := .cells #[.string ((rd_T48 l0 x12_1).f0), .int .i64 ((rd_T48 l0 x12_1).f1)] 48 (0, 0)) (by (with_reducible repeat (first | refine blk_drewN ?_ _ | refine blk_drew ?_ | refine blk_alloc ?_ _)); exact BK107.out)) : gb115 ≠ gb107)); clear BK107; clear HB; have BK107 := n0_; have HB := n1_; have BK115 := n2_; have GW115 := n3_; have GE115 := n4_; have NB107_115 := n5_; have NB115_107 := n6_; clear n0_ n1_ n2_ n3_ n4_ n5_ n6_; clear hb hbox hg; have hnb41 := NB115_107.out; have hnc41 := NB107_115.out; have hcz42_0 : w40.cell? ⟨gb115, 0, none⟩ = some (.string (⟨#[]⟩ : ByteArray)) := (blk_cell BK115.out 0).trans rfl; have hcz42_1 : w40.cell? ⟨gb115, 1, none⟩ = some (.int .i64 0) := (blk_cell BK115.out 1).trans rfl; have hfz42_0 := blk_frozen BK115.out 0; have hfz42_1 := blk_frozen BK115.out 1; have hcz43_0 : w40.cell? ⟨gb107, 0, none⟩ = some (.string ((rd_T48 l0 x12_1).f0)) := (blk_cell BK107.out 0).trans rfl; have hcz43_1 : w40.cell? ⟨gb107, 1, none⟩ = some (.int .i64 ((rd_T48 l0 x12_1).f1)) := (blk_cell BK107.out 1).trans rfl; have hfz43_0 := blk_frozen BK107.out 0; have hfz43_1 := blk_frozen BK107.out 1) | (go_at_call 71; (with_reducible refine (account_Under.calls ((rd_T48 l0 x12_1).f0) ((rd_T48 y110 x49_3).f0) true _ A33.out).mono ?_); rintro e w' ⟨rfl, ⟨nd, rfl⟩⟩; (try first | exact ⟨rfl, _, World.drewN_drewN _ _ _⟩ | exact ⟨rfl, _, Eq.trans (World.drewN_drewN _ _ _) (congrArg (World.drewN _) (Nat.add_assoc _ _ _))⟩))))
                                    go_ret
                                    exact ⟨by first | rfl | (simp [errW_none, errW_some] <;> rfl) | (simp [*, errW_none, errW_some] <;> rfl), by repeat (first | (with_reducible first | exact HB.out | apply below_alloc | apply pw_below_drewN | apply below_drew1 | refine below_set ?_ GE107.out | refine below_set ?_ GE115.out) | exact HB.out)⟩
                                · replace c34 := Bool.eq_false_iff.mpr c34
                                  subst c34
                                  have H1 : (account_CheckAll.l1 k3 l0 l0 (l0.length : Int) x12_1 y110 (y110.length : Int) (wrap64 (x49_3 + 1)) ((rd_T48 l0 x12_1).f0) ((rd_T48 l0 x12_1).f1)) = some r := by rw [if_neg (show ¬ (false = true) by decide)] at H; exact H
                                  clear H
                                  have H := H1
                                  clear H1
                                  have H' := Aside0.mk H
                                  clear H
                                  have p114 : 0 ≤ (x49_3 : Int) := of_decide_eq_true (by first | (with_reducible assumption) | assumption)
                                  have q114 : x49_3 < (y110.length : Int) := of_decide_eq_true (by first | (with_reducible assumption) | assumption)
                                  obtain ⟨ad114, e114, hx114_0, hx114_1⟩ := at_T48 HR113.out x49_3 p114 q114
                                  obtain rfl : ad106 = ad114 := (by injection e114)
                                  replace hx114_0 := (HB.out.cell (World.block_lt_of_cell? w _ hx114_0)).trans hx114_0
                                  replace hx114_1 := (HB.out.cell (World.block_lt_of_cell? w _ hx114_1)).trans hx114_1
                                  replace p114 := eq_true p114
                                  replace q114 := eq_true q114
                                  go_wp2_with (first | ((with_reducible refine gate_dst (N := 6) rfl ?_); refine box_event ?hg (N := 6) ?hd (cs := #[.string (⟨#[]⟩ : ByteArray), .int .i64 0]) (t := 48) ?hr ?_; (case hd => rfl); (case hg => rfl); (case hr => first | (go_simp; done) | (go_simp; rfl)); intro gb115 hg w44 hbox hb; have n0_ := Aside0.mk (blk_below (g := gb107) (o := .cells #[.string ((rd_T48 l0 x12_1).f0), .int .i64 ((rd_T48 l0 x12_1).f1)] 48 (0, 0)) (by (with_reducible repeat (first | refine blk_drewN ?_ _ | refine blk_drew ?_ | refine blk_alloc ?_ _)); exact BK107.out) hb); have n1_ := Aside0.mk (below_step (by repeat (first | (with_reducible first | exact HB.out | apply below_alloc | apply pw_below_drewN | apply below_drew1 | refine below_set ?_ GE107.out) | exact HB.out)) hb); have n2_ := Aside0.mk (hbox); have n3_ := Aside0.mk ((by rw [hg]; exact (below_size (by repeat (first | (with_reducible first | exact HB.out | apply below_alloc | apply pw_below_drewN | apply below_drew1 | refine below_set ?_ GE107.out) | exact HB.out))) : w.heap.size ≤ gb115)); have n4_ := Aside0.mk ((by rw [hg]; exact (below_size (by repeat (first | (with_reducible first | exact HB.out | apply below_alloc | apply pw_below_drewN | apply below_drew1 | refine below_set ?_ GE107.out) | exact HB.out))) : w.heap.size ≤ gb115)); have n5_ := Aside0.mk ((by rw [hg]; exact Nat.ne_of_lt (blk_lt (g := gb107) (o := .cells #[.string ((rd_T48 l0 x12_1).f0), .int .i64 ((rd_T48 l0 x12_1).f1)] 48 (0, 0)) (by (with_reducible repeat (first | refine blk_drewN ?_ _ | refine blk_drew ?_ | refine blk_alloc ?_ _)); exact BK107.out)) : gb107 ≠ gb115)); have n6_ := Aside0.mk ((by rw [hg]; exact Nat.ne_of_gt (blk_lt (g := gb107) (o := .cells #[.string ((rd_T48 l0 x12_1).f0), .int .i64 ((rd_T48 l0 x12_1).f1)] 48 (0, 0)) (by (with_reducible repeat (first | refine blk_drewN ?_ _ | refine blk_drew ?_ | refine blk_alloc ?_ _)); exact BK107.out)) : gb115 ≠ gb107)); clear BK107; clear HB; have BK107 := n0_; have HB := n1_; have BK115 := n2_; have GW115 := n3_; have GE115 := n4_; have NB107_115 := n5_; have NB115_107 := n6_; clear n0_ n1_ n2_ n3_ n4_ n5_ n6_; clear hb hbox hg; have hnb45 := NB115_107.out; have hnc45 := NB107_115.out; have hcz46_0 : w44.cell? ⟨gb115, 0, none⟩ = some (.string (⟨#[]⟩ : ByteArray)) := (blk_cell BK115.out 0).trans rfl; have hcz46_1 : w44.cell? ⟨gb115, 1, none⟩ = some (.int .i64 0) := (blk_cell BK115.out 1).trans rfl; have hfz46_0 := blk_frozen BK115.out 0; have hfz46_1 := blk_frozen BK115.out 1; have hcz47_0 : w44.cell? ⟨gb107, 0, none⟩ = some (.string ((rd_T48 l0 x12_1).f0)) := (blk_cell BK107.out 0).trans rfl; have hcz47_1 : w44.cell? ⟨gb107, 1, none⟩ = some (.int .i64 ((rd_T48 l0 x12_1).f1)) := (blk_cell BK107.out 1).trans rfl; have hfz47_0 := blk_frozen BK107.out 0; have hfz47_1 := blk_frozen BK107.out 1) | (go_at_call 71; (with_reducible refine (account_Under.calls ((rd_T48 l0 x12_1).f0) ((rd_T48 y110 x49_3).f0) false _ A33.out).mono ?_); rintro e w' ⟨rfl, ⟨nd, rfl⟩⟩; (try first | exact ⟨rfl, _, World.drewN_drewN _ _ _⟩ | exact ⟨rfl, _, Eq.trans (World.drewN_drewN _ _ _) (congrArg (World.drewN _) (Nat.add_assoc _ _ _))⟩)))
                                  repeat (go_quiet (first | ((with_reducible refine gate_dst (N := 6) rfl ?_); refine box_event ?hg (N := 6) ?hd (cs := #[.string (⟨#[]⟩ : ByteArray), .int .i64 0]) (t := 48) ?hr ?_; (case hd => rfl); (case hg => rfl); (case hr => first | (go_simp; done) | (go_simp; rfl)); intro gb115 hg w44 hbox hb; have n0_ := Aside0.mk (blk_below (g := gb107) (o := .cells #[.string ((rd_T48 l0 x12_1).f0), .int .i64 ((rd_T48 l0 x12_1).f1)] 48 (0, 0)) (by (with_reducible repeat (first | refine blk_drewN ?_ _ | refine blk_drew ?_ | refine blk_alloc ?_ _)); exact BK107.out) hb); have n1_ := Aside0.mk (below_step (by repeat (first | (with_reducible first | exact HB.out | apply below_alloc | apply pw_below_drewN | apply below_drew1 | refine below_set ?_ GE107.out) | exact HB.out)) hb); have n2_ := Aside0.mk (hbox); have n3_ := Aside0.mk ((by rw [hg]; exact (below_size (by repeat (first | (with_reducible first | exact HB.out | apply below_alloc | apply pw_below_drewN | apply below_drew1 | refine below_set ?_ GE107.out) | exact HB.out))) : w.heap.size ≤ gb115)); have n4_ := Aside0.mk ((by rw [hg]; exact (below_size (by repeat (first | (with_reducible first | exact HB.out | apply below_alloc | apply pw_below_drewN | apply below_drew1 | refine below_set ?_ GE107.out) | exact HB.out))) : w.heap.size ≤ gb115)); have n5_ := Aside0.mk ((by rw [hg]; exact Nat.ne_of_lt (blk_lt (g := gb107) (o := .cells #[.string ((rd_T48 l0 x12_1).f0), .int .i64 ((rd_T48 l0 x12_1).f1)] 48 (0, 0)) (by (with_reducible repeat (first | refine blk_drewN ?_ _ | refine blk_drew ?_ | refine blk_alloc ?_ _)); exact BK107.out)) : gb107 ≠ gb115)); have n6_ := Aside0.mk ((by rw [hg]; exact Nat.ne_of_gt (blk_lt (g := gb107) (o := .cells #[.string ((rd_T48 l0 x12_1).f0), .int .i64 ((rd_T48 l0 x12_1).f1)] 48 (0, 0)) (by (with_reducible repeat (first | refine blk_drewN ?_ _ | refine blk_drew ?_ | refine blk_alloc ?_ _)); exact BK107.out)) : gb115 ≠ gb107)); clear BK107; clear HB; have BK107 := n0_; have HB := n1_; have BK115 := n2_; have GW115 := n3_; have GE115 := n4_; have NB107_115 := n5_; have NB115_107 := n6_; clear n0_ n1_ n2_ n3_ n4_ n5_ n6_; clear hb hbox hg; have hnb45 := NB115_107.out; have hnc45 := NB107_115.out; have hcz46_0 : w44.cell? ⟨gb115, 0, none⟩ = some (.string (⟨#[]⟩ : ByteArray)) := (blk_cell BK115.out 0).trans rfl; have hcz46_1 : w44.cell? ⟨gb115, 1, none⟩ = some (.int .i64 0) := (blk_cell BK115.out 1).trans rfl; have hfz46_0 := blk_frozen BK115.out 0; have hfz46_1 := blk_frozen BK115.out 1; have hcz47_0 : w44.cell? ⟨gb107, 0, none⟩ = some (.string ((rd_T48 l0 x12_1).f0)) := (blk_cell BK107.out 0).trans rfl; have hcz47_1 : w44.cell? ⟨gb107, 1, none⟩ = some (.int .i64 ((rd_T48 l0 x12_1).f1)) := (blk_cell BK107.out 1).trans rfl; have hfz47_0 := blk_frozen BK107.out 0; have hfz47_1 := blk_frozen BK107.out 1) | (go_at_call 71; (with_reducible refine (account_Under.calls ((rd_T48 l0 x12_1).f0) ((rd_T48 y110 x49_3).f0) false _ A33.out).mono ?_); rintro e w' ⟨rfl, ⟨nd, rfl⟩⟩; (try first | exact ⟨rfl, _, World.drewN_drewN _ _ _⟩ | exact ⟨rfl, _, Eq.trans (World.drewN_drewN _ _ _) (congrArg (World.drewN _) (Nat.add_assoc _ _ _))⟩))); try go_wp2_with (first | ((with_reducible refine gate_dst (N := 6) rfl ?_); refine box_event ?hg (N := 6) ?hd (cs := #[.string (⟨#[]⟩ : ByteArray), .int .i64 0]) (t := 48) ?hr ?_; (case hd => rfl); (case hg => rfl); (case hr => first | (go_simp; done) | (go_simp; rfl)); intro gb115 hg w44 hbox hb; have n0_ := Aside0.mk (blk_below (g := gb107) (o := .cells #[.string ((rd_T48 l0 x12_1).f0), .int .i64 ((rd_T48 l0 x12_1).f1)] 48 (0, 0)) (by (with_reducible repeat (first | refine blk_drewN ?_ _ | refine blk_drew ?_ | refine blk_alloc ?_ _)); exact BK107.out) hb); have n1_ := Aside0.mk (below_step (by repeat (first | (with_reducible first | exact HB.out | apply below_alloc | apply pw_below_drewN | apply below_drew1 | refine below_set ?_ GE107.out) | exact HB.out)) hb); have n2_ := Aside0.mk (hbox); have n3_ := Aside0.mk ((by rw [hg]; exact (below_size (by repeat (first | (with_reducible first | exact HB.out | apply below_alloc | apply pw_below_drewN | apply below_drew1 | refine below_set ?_ GE107.out) | exact HB.out))) : w.heap.size ≤ gb115)); have n4_ := Aside0.mk ((by rw [hg]; exact (below_size (by repeat (first | (with_reducible first | exact HB.out | apply below_alloc | apply pw_below_drewN | apply below_drew1 | refine below_set ?_ GE107.out) | exact HB.out))) : w.heap.size ≤ gb115)); have n5_ := Aside0.mk ((by rw [hg]; exact Nat.ne_of_lt (blk_lt (g := gb107) (o := .cells #[.string ((rd_T48 l0 x12_1).f0), .int .i64 ((rd_T48 l0 x12_1).f1)] 48 (0, 0)) (by (with_reducible repeat (first | refine blk_drewN ?_ _ | refine blk_drew ?_ | refine blk_alloc ?_ _)); exact BK107.out)) : gb107 ≠ gb115)); have n6_ := Aside0.mk ((by rw [hg]; exact Nat.ne_of_gt (blk_lt (g := gb107) (o := .cells #[.string ((rd_T48 l0 x12_1).f0), .int .i64 ((rd_T48 l0 x12_1).f1)] 48 (0, 0)) (by (with_reducible repeat (first | refine blk_drewN ?_ _ | refine blk_drew ?_ | refine blk_alloc ?_ _)); exact BK107.out)) : gb115 ≠ gb107)); clear BK107; clear HB; have BK107 := n0_; have HB := n1_; have BK115 := n2_; have GW115 := n3_; have GE115 := n4_; have NB107_115 := n5_; have NB115_107 := n6_; clear n0_ n1_ n2_ n3_ n4_ n5_ n6_; clear hb hbox hg; have hnb45 := NB115_107.out; have hnc45 := NB107_115.out; have hcz46_0 : w44.cell? ⟨gb115, 0, none⟩ = some (.string (⟨#[]⟩ : ByteArray)) := (blk_cell BK115.out 0).trans rfl; have hcz46_1 : w44.cell? ⟨gb115, 1, none⟩ = some (.int .i64 0) := (blk_cell BK115.out 1).trans rfl; have hfz46_0 := blk_frozen BK115.out 0; have hfz46_1 := blk_frozen BK115.out 1; have hcz47_0 : w44.cell? ⟨gb107, 0, none⟩ = some (.string ((rd_T48 l0 x12_1).f0)) := (blk_cell BK107.out 0).trans rfl; have hcz47_1 : w44.cell? ⟨gb107, 1, none⟩ = some (.int .i64 ((rd_T48 l0 x12_1).f1)) := (blk_cell BK107.out 1).trans rfl; have hfz47_0 := blk_frozen BK107.out 0; have hfz47_1 := blk_frozen BK107.out 1) | (go_at_call 71; (with_reducible refine (account_Under.calls ((rd_T48 l0 x12_1).f0) ((rd_T48 y110 x49_3).f0) false _ A33.out).mono ?_); rintro e w' ⟨rfl, ⟨nd, rfl⟩⟩; (try first | exact ⟨rfl, _, World.drewN_drewN _ _ _⟩ | exact ⟨rfl, _, Eq.trans (World.drewN_drewN _ _ _) (congrArg (World.drewN _) (Nat.add_assoc _ _ _))⟩))))
                                  go_roundg k3
                                  case measure => have := HK1.out; have := HJ5.out; have := HK3.out; omega
                                  case rel => exact ⟨(wrap64 (x49_3 + 1)), (by first | rfl | (simp; done) | (simp [*]; done)), H', ⟨by have := HK1.out; have := HJ5.out; have := HK3.out; omega⟩, ⟨by (with_reducible repeat (first | refine blk_drewN ?_ _ | refine blk_drew ?_ | refine blk_alloc ?_ _)); refine blk_far ?_ NB107_115.out _; (with_reducible repeat (first | refine blk_drewN ?_ _ | refine blk_drew ?_ | refine blk_alloc ?_ _)); refine blk_far ?_ NB107_115.out _; (with_reducible repeat (first | refine blk_drewN ?_ _ | refine blk_drew ?_ | refine blk_alloc ?_ _)); exact BK107.out⟩, ⟨by repeat (first | (with_reducible first | exact HB.out | apply below_alloc | apply pw_below_drewN | apply below_drew1 | refine below_set ?_ GE107.out | refine below_set ?_ GE115.out) | exact HB.out)⟩⟩
                              · rw [if_neg c32] at H
                                exact absurd H (by simp)
                            · rw [if_neg c31] at H
                              exact absurd H (by simp)
                          · rw [if_neg c30] at H
                            have c30b0 : decide (x49_3 < (y110.length : Int)) = false := decide_eq_false c30
                            clear c30
                            have H' := Aside0.mk H
                            clear H
                            go_wp2
                            repeat (go_quiet (fail); try go_wp2)
                            go_roundg k3
                            case measure => have := HK1.out; have := HJ5.out; have := HK3.out; omega
                            case rel => exact ⟨(wrap64 (x12_1 + 1)), (by first | rfl | (simp; done) | (simp [*]; done)), H', ⟨by have := HK1.out; have := HJ5.out; have := HK3.out; omega⟩, ⟨by repeat (first | (with_reducible first | exact HB.out | apply below_alloc | apply pw_below_drewN | apply below_drew1 | refine below_set ?_ GE107.out) | exact HB.out)⟩⟩
                    · rw [if_neg c28] at H
                      exact absurd H (by simp)
                  · rw [if_neg c27] at H
                    exact absurd H (by simp)
            · rw [if_neg c5] at H
              exact absurd H (by simp)
          · rw [if_neg c4] at H
            exact absurd H (by simp)
        · rw [if_neg c3] at H
          have c3b0 : decide (x12_1 < (l0.length : Int)) = false := decide_eq_false c3
          clear c3
          obtain rfl := Option.some.inj H
          go_wp2
          repeat (go_quiet (fail); try go_wp2)
          go_ret
          exact ⟨by first | rfl | (simp [errW_none, errW_some] <;> rfl) | (simp [*, errW_none, errW_some] <;> rfl), by repeat (first | (with_reducible first | exact HB.out | apply below_alloc | apply pw_below_drewN | apply below_drew1) | exact HB.out)⟩
end Go.Proofs.YtblcgcibkikgeaaGreatDoor.X
end
section
namespace Go.Proofs.YtblcgcibkikgeaaGreatDoor.P
open Go Go.RowKit Go.Proofs.YtblcgcibkikgeaaGreatDoor.K Go.Proofs.YtblcgcibkikgeaaGreatDoor.G1 Go.Proofs.YtblcgcibkikgeaaGreatDoor.G
def linesE (t : Kn) (chart : List Ac) : List Ln → Int
  | [] => 0
  | x :: l => if lineErr t x chart = 0 then linesE t chart l else lineErr t x chart
def ruleE (l : List Ru) (chart : List Ac) (i : Nat) (x : Ru) : Int :=
  if ruleErr x.f0 x.f1 = 0 then
    if (findR x.f0 (l.take i)).2 then 5
    else if linesE ((kindOf x.f0).getD kZero) chart x.f1 = 0 then (if balV x.f1 then 0 else 14) else linesE ((kindOf x.f0).getD kZero) chart x.f1
  else ruleErr x.f0 x.f1
def rulesE (l : List Ru) (chart : List Ac) : Nat → List Ru → Int × Int
  | _, [] => (0, 0)
  | i, x :: r => if ruleE l chart i x = 0 then rulesE l chart (i + 1) r else ((i : Int), ruleE l chart i x)
def checkR (e : Int) (l : List Ru) (chart : List Ac) : Int × Int := if e = 0 then (if l.length > 64 then (0, 4) else rulesE l chart 0 l) else (0, 1)
def okRu (x : Ru) : Prop := okL x.f1 ∧ okB x.f1
instance okRu_dec (x : Ru) : Decidable (okRu x) := by unfold okRu; infer_instance
theorem rulesE_cons (l : List Ru) (chart : List Ac) (i : Nat) (x : Ru) (r : List Ru) : rulesE l chart i (x :: r) = if ruleE l chart i x = 0 then rulesE l chart (i + 1) r else ((i : Int), ruleE l chart i x) := rfl
theorem linesE_cons (t : Kn) (chart : List Ac) (x : Ln) (l : List Ln) : linesE t chart (x :: l) = if lineErr t x chart = 0 then linesE t chart l else lineErr t x chart := rfl
theorem kind_small (e : Int) : ((kindOf e).getD kZero).2.2.size < 1000000 ∧ ((kindOf e).getD kZero).2.1.length ≤ 1000000 := by
  unfold kindOf
  cases h : kindTab.find? (fun q => decide (e = q.1)) with
  | none => exact ⟨by decide, by decide⟩
  | some q =>
    have hm := List.mem_of_find?_eq_some h
    have hall : kindTab.all (fun q => decide (q.2.2.2.size < 1000000) && decide (q.2.2.1.length ≤ 1000000)) = true := by decide
    have := List.all_eq_true.1 hall q hm
    simpa using this
end Go.Proofs.YtblcgcibkikgeaaGreatDoor.P
namespace Go.Proofs.YtblcgcibkikgeaaGreatDoor.G
open Go Go.RowKit Go.Shelf Go.Proofs.YtblcgcibkikgeaaGreatDoorW.PrintWords Go.Proofs.YtblcgcibkikgeaaGreatDoorW.PrintLast Go.Proofs.YtblcgcibkikgeaaGreatDoorW.PrintMore Go.Proofs.YtblcgcibkikgeaaGreatDoor.K Go.Proofs.YtblcgcibkikgeaaGreatDoor.G1 Go.Proofs.YtblcgcibkikgeaaGreatDoor.P
set_option linter.unusedVariables false
theorem kinds_look1 {b : Nat} {W : World} (h : KindsAt b W) (e : Int) : ∃ A c, ((kindOf e).getD kZero).2.1.length ≤ c ∧ Kd.C Kd.string W A ((kindOf e).getD kZero).2.1.length ((kindOf e).getD kZero).2.1 ∧
    ∀ W' : World, W'.heap[b]? = W.heap[b]? → (Instr.lookup 98 (.map (some b)) (.int .i64 e) false).run Tryz.prog W' = .ok (.agg #[.string ((kindOf e).getD kZero).1, .slice A ((kindOf e).getD kZero).2.1.length c, .string ((kindOf e).getD kZero).2.2]) W' := by
  obtain ⟨l, hl, hr⟩ := h
  have key : ∀ (l : List (Int × Value)) (t : List (Int × ByteArray × List ByteArray × ByteArray)), KRows W l t → ∃ v, KRow W v (((t.find? (fun q => decide (e = q.1))).map (·.2)).getD kZero) ∧ (M.get l e).getD (.agg #[.string ⟨#[]⟩, .slice none 0 0, .string ⟨#[]⟩]) = v ∧ (M.get l e).isSome = ((t.find? (fun q => decide (e = q.1))).map (·.2)).isSome := by
    intro l
    induction l with
    | nil =>
      intro t ht
      cases t with
      | nil => exact ⟨.agg #[.string ⟨#[]⟩, .slice none 0 0, .string ⟨#[]⟩], ⟨none, 0, rfl, Nat.le_refl _, rfl, Nat.zero_le _, fun h => absurd h (Nat.lt_irrefl 0)⟩, rfl, rfl⟩
      | cons q t => exact ht.elim
    | cons p l ih =>
      intro t ht
      cases t with
      | nil => exact ht.elim
      | cons q t =>
        obtain ⟨h1, h2, h3⟩ := ht
        unfold M.get
        by_cases he : e = p.1
        · have hq : e = q.1 := he.trans h1
          rw [List.find?_cons_of_pos (l := t) (by simpa using hq), List.find?_cons_of_pos (l := l) (by simpa using he)]
          exact ⟨p.2, h2, rfl, rfl⟩
        · have hq : ¬ e = q.1 := fun e' => he (e'.trans h1.symm)
          rw [List.find?_cons_of_neg (l := t) (by simpa using hq), List.find?_cons_of_neg (l := l) (by simpa using he)]
          exact ih t h3
  obtain ⟨v, ⟨A, c, hv, hlen, hc⟩, hg, hs⟩ := key l kindTab hr
  refine ⟨A, c, hlen, hc, fun W' hW' => ?_⟩
  rw [M.run_lookup (M.keys_int Tryz.underlying3) Tryz.underlying98 zeroKind (hW'.trans hl), hg, hv]
  rfl
set_option maxHeartbeats 4000000 in
set_option maxRecDepth 100000 in
theorem rule_Check_calls (k : Nat) (ce : Int) (A0 : Option Addr) (c0 : Nat) (l0 : List Ru) (A1 : Option Addr) (c1 : Nat) (l1 : List Ac) (w : World) (hL : Laid w) (hr0 : Kd.C k32 w A0 l0.length l0) (hc0 : l0.length ≤ c0) (hr1 : Kd.C k48 w A1 l1.length l1) (hc1 : l1.length ≤ c1)
    (hce : X.account_CheckAll.f k l1 = some ce) (hok : ∀ x ∈ l0, okRu x) (hl1 : l1.length ≤ 1000000) :
    Calls Tryz.prog 14 #[.slice A0 l0.length c0, .slice A1 l1.length c1] w fun e w' => e = .returned (.tuple #[.int .i64 (checkR ce l0 l1).1, .int .i64 (checkR ce l0 l1).2]) ∧ Below w.heap.size w w' := by
  obtain ⟨r1, r2, hr⟩ : ∃ r1 r2, checkR ce l0 l1 = (r1, r2) := ⟨_, _, rfl⟩
  rw [hr]
  have HL := Aside0.mk hL
  have HR0 := Aside0.mk hr0
  have HR1 := Aside0.mk hr1
  have HCE := Aside0.mk hce
  have HOK := Aside0.mk hok
  have HV := Aside0.mk hr
  have HB0 := Aside0.mk (Below.refl w.heap.size w)
  have hmax := Kd.C_max hr0
  simp only
  clear hL hr0 hr1 hce hok hr
  have hv := HV.out
  unfold checkR at hv
  by_cases hz : ce = 0
  · subst hz
    rw [if_pos rfl] at hv
    by_cases h64 : l0.length > 64
    · rw [if_pos h64] at hv
      cases hv
      have hd : decide ((64 : Int) < (l0.length : Int)) = true := decide_eq_true (by omega)
      have hdn : decide (64 < l0.length) = true := decide_eq_true h64
      clear h64
      go_enter Tryz.func14, Tryz.ntmps14
      go_wp2_with (go_at_call 33; refine (X.account_CheckAll.calls k A1 c1 l1 0 w HL.out HR1.out hc1 HCE.out).mono ?_; rintro e w1 ⟨rfl, hb1⟩; have HB1 := Aside0.mk hb1; clear hb1)
      go_ret2
      exact ⟨rfl, HB1.out⟩
    · rw [if_neg h64] at hv
      have HE := Aside0.mk hv
      have hd : decide ((64 : Int) < (l0.length : Int)) = false := decide_eq_false (by omega)
      have hdn : decide (64 < l0.length) = false := decide_eq_false h64
      clear hv
      go_enter Tryz.func14, Tryz.ntmps14
      go_wp2_with (go_at_call 33; refine (X.account_CheckAll.calls k A1 c1 l1 0 w HL.out HR1.out hc1 HCE.out).mono ?_; rintro e w1 ⟨rfl, hb1⟩; have HB1 := Aside0.mk hb1; clear hb1)
      go_loopw [22] (fun v22 wr => ∃ i : Nat, v22 = .int .i64 (i : Int) ∧ i ≤ l0.length ∧ Aside0 (rulesE l0 l1 i (l0.drop i) = (r1, r2)) ∧ Aside0 (Below w.heap.size w wr)) (fun v22 _ => l0.length - (intOf v22).toNat)
      case atStart => exact ⟨0, rfl, Nat.zero_le _, HE, HB1⟩
      case round =>
        clear hd hdn HE HB1
        obtain ⟨i, rfl, hi, HE, HB⟩ := hrel
        by_cases hil : i < l0.length
        · have hd : decide ((i : Int) < (l0.length : Int)) = true := decide_eq_true (by omega)
          have hdn : decide (i < l0.length) = true := decide_eq_true hil
          obtain ⟨ad, A2, c2, e1, hx0, hx1, hlc, hC⟩ := at_T32 HR0.out (i : Int) (by omega) (by omega)
          cases e1
          rw [Int.toNat_natCast] at hx0 hx1
          replace hx0 := (HB.out.cell (World.block_lt_of_cell? w _ hx0)).trans hx0
          replace hx1 := (HB.out.cell (World.block_lt_of_cell? w _ hx1)).trans hx1
          have hdr : l0.drop i = rd_T32 l0 (i : Int) :: l0.drop (i + 1) := by
            unfold rd_T32
            rw [Int.toNat_natCast, List.getD_eq_getElem?_getD, List.getElem?_eq_getElem hil, List.drop_eq_getElem_cons hil]
            rfl
          have hmem : rd_T32 l0 (i : Int) ∈ l0 := by
            have : rd_T32 l0 (i : Int) ∈ l0.drop i := by rw [hdr]; simp
            exact List.mem_of_mem_drop this
          have hok1 := HOK.out _ hmem
          have hE := HE.out
          rw [hdr, rulesE_cons] at hE
          generalize rd_T32 l0 (i : Int) = x at hx0 hx1 hlc hC hok1 hE
          obtain ⟨x0, x1⟩ := x
          unfold ruleE at hE
          simp only at hx0 hx1 hlc hC hE
          unfold okRu at hok1
          simp only at hok1
          have HE1 := Aside0.mk hE
          have HOK1 := Aside0.mk hok1
          have HC := Aside0.mk hC
          have HLC := Aside0.mk hlc
          clear hdr hmem hE hok1 hC hlc HE
          go_upto_region 8 with (fail)
          obtain ⟨Wx, hWx⟩ : ∃ Wx, wr.alloc (.cells #[.int .i64 x0, .slice A2 x1.length c2] 32) = Wx := ⟨_, rfl⟩
          obtain ⟨b, hb⟩ : ∃ b, wr.heap.size = b := ⟨_, rfl⟩
          have s0 : Wx.cell? ⟨b, 0, none⟩ = some (.int .i64 x0) := by rw [← hWx, ← hb]; exact World.cell?_alloc_new _ _ _ _
          have s1 : Wx.cell? ⟨b, 1, none⟩ = some (.slice A2 x1.length c2) := by rw [← hWx, ← hb]; exact World.cell?_alloc_new _ _ _ _
          have hbx : Below w.heap.size w Wx := by rw [← hWx]; exact HB.out.alloc HB.out.size _
          have hblt : b < Wx.heap.size := World.block_lt_of_cell? Wx _ s0
          have hwb : w.heap.size ≤ b := by rw [← hb]; exact HB.out.size
          rw [hWx, hb]
          have HBX := Aside0.mk hbx
          have HLX := Aside0.mk (HL.out.below hbx)
          have HCK : Aside0 (rule_check.f x0 x1 = some (ruleErr x0 x1)) := ⟨by unfold rule_check.f; rw [if_pos HOK1.out.1]⟩
          clear hWx hb hbx hx0 hx1 HB
          by_cases he : ruleErr x0 x1 = 0
          · have hE := HE1.out
            rw [he] at HCK hE
            rw [if_pos rfl] at hE
            have HE2 := Aside0.mk hE
            have hi2 : i ≤ l0.length := hi
            have HFI : Aside0 (∀ W : World, Below w.heap.size w W → Calls Tryz.prog 22 #[.slice (some ad) i c0, .int .i64 x0] W (fun e w' => ∃ A c, e = .returned (.tuple #[.agg #[.int .i64 (findR x0 (l0.take i)).1.f0, .slice A (findR x0 (l0.take i)).1.f1.length c], .bool (findR x0 (l0.take i)).2]) ∧ Below W.heap.size W w')) := ⟨fun W hb => by
              have h := rule_Find.calls (some ad) c0 (l0.take i) x0 W (Kd.C_below (Kd.C_take HR0.out hi2) hb)
              rw [List.length_take, Nat.min_eq_left hi2] at h
              refine h.mono ?_
              rintro e w' ⟨A, c, h1, h2, h3, h4⟩
              exact ⟨A, c, h1, h4⟩⟩
            have sl1 : (i : Int) ≤ (c0 : Int) := by omega
            have sl2 : i ≤ c0 := by omega
            clear HE1 hE he
            go_upto_region 11 with (go_at_call 56; refine (rule_check.calls x0 A2 c2 x1 _ Wx HLX.out (Kd.C_below HC.out HBX.out) HLC.out HCK.out).mono ?_; rintro e w2 ⟨rfl, hb2⟩; have HB2 := Aside0.mk (HBX.out.trans (hb2.mono HBX.out.size)); have s0 := (hb2.cell (p := ⟨b, 0, none⟩) hblt).trans s0; have s1 := (hb2.cell (p := ⟨b, 1, none⟩) hblt).trans s1; clear hb2)
            have k0 : w2.drew.cell? ⟨b, 0, none⟩ = some (.int .i64 x0) := s0
            have k1 : w2.drew.cell? ⟨b, 1, none⟩ = some (.slice A2 x1.length c2) := s1
            have kb : Below w.heap.size w w2.drew := HB2.out.drew
            have hb2lt : b < w2.heap.size := World.block_lt_of_cell? w2 _ s0
            have HK : Aside0 (∀ W W' : World, Below W.heap.size W W' → (W.cell? ⟨b, 0, none⟩ = some (.int .i64 x0) ∧ W.cell? ⟨b, 1, none⟩ = some (.slice A2 x1.length c2) ∧ Below w.heap.size w W) → (W'.cell? ⟨b, 0, none⟩ = some (.int .i64 x0) ∧ W'.cell? ⟨b, 1, none⟩ = some (.slice A2 x1.length c2) ∧ Below w.heap.size w W')) := ⟨by
              rintro W W' hb ⟨q0, q1, q3⟩
              have hl := World.block_lt_of_cell? W _ q0
              exact ⟨(hb.cell (p := ⟨b, 0, none⟩) hl).trans q0, (hb.cell (p := ⟨b, 1, none⟩) hl).trans q1, q3.trans (hb.mono q3.size)⟩⟩
            have HAL : Aside0 (∀ (W : World) (o : Obj), (W.cell? ⟨b, 0, none⟩ = some (.int .i64 x0) ∧ W.cell? ⟨b, 1, none⟩ = some (.slice A2 x1.length c2) ∧ Below w.heap.size w W) → ((W.alloc o).cell? ⟨b, 0, none⟩ = some (.int .i64 x0) ∧ (W.alloc o).cell? ⟨b, 1, none⟩ = some (.slice A2 x1.length c2) ∧ Below w.heap.size w (W.alloc o))) := ⟨fun W o h => HK.out W _ ((Below.refl _ _).alloc (Nat.le_refl _) _) h⟩
            have HSET : Aside0 (∀ (W : World) (u0 u1 : Value), (W.cell? ⟨b, 0, none⟩ = some (.int .i64 x0) ∧ W.cell? ⟨b, 1, none⟩ = some (.slice A2 x1.length c2) ∧ Below w.heap.size w W) → (((W.setCell ⟨w2.heap.size, 0, none⟩ u0).setCell ⟨w2.heap.size, 1, none⟩ u1).cell? ⟨b, 0, none⟩ = some (.int .i64 x0) ∧ ((W.setCell ⟨w2.heap.size, 0, none⟩ u0).setCell ⟨w2.heap.size, 1, none⟩ u1).cell? ⟨b, 1, none⟩ = some (.slice A2 x1.length c2) ∧ Below w.heap.size w ((W.setCell ⟨w2.heap.size, 0, none⟩ u0).setCell ⟨w2.heap.size, 1, none⟩ u1))) := ⟨by
              rintro W u0 u1 ⟨q0, q1, q3⟩
              have e : ∀ j, ((W.setCell ⟨w2.heap.size, 0, none⟩ u0).setCell ⟨w2.heap.size, 1, none⟩ u1).cell? ⟨b, j, none⟩ = W.cell? ⟨b, j, none⟩ := fun j =>
                World.cell?_of_block ((Below.heap_setCell _ _ _ _ (by simp; omega)).trans (Below.heap_setCell _ _ _ _ (by simp; omega)))
              have hws : w.heap.size ≤ w2.heap.size := by omega
              exact ⟨(e 0).trans q0, (e 1).trans q1, (q3.setCell (p := ⟨w2.heap.size, 0, none⟩) hws _).setCell (p := ⟨w2.heap.size, 1, none⟩) hws _⟩⟩
            clear s0 s1
            go_cut [10] (fun v10 w' => v10 = .bool (findR x0 (l0.take i)).2 ∧ Aside0 (w'.cell? ⟨b, 0, none⟩ = some (.int .i64 x0) ∧ w'.cell? ⟨b, 1, none⟩ = some (.slice A2 x1.length c2) ∧ Below w.heap.size w w'))
            case first =>
              go_region_held3 (fun w' => w'.cell? ⟨b, 0, none⟩ = some (.int .i64 x0) ∧ w'.cell? ⟨b, 1, none⟩ = some (.slice A2 x1.length c2) ∧ Below w.heap.size w w') ((first | exact ⟨n0, n1, nB⟩ | exact ⟨k0, k1, kb⟩ | exact HAL.out _ _ ⟨n0, n1, nB⟩ | exact HAL.out _ _ ⟨k0, k1, kb⟩ | exact HSET.out _ _ _ ⟨n0, n1, nB⟩))
                (first
                  | (go_at_call 22; (with_reducible show Calls Tryz.prog 22 _ w2.drew _); refine (HFI.out _ kb).mono ?_; rintro e w3 ⟨A, c, rfl, hb3⟩; obtain ⟨n0, n1, nB⟩ := HK.out _ _ hb3 ⟨k0, k1, kb⟩; clear hb3)
                  | (go_at_call 22; refine (HFI.out _ (HAL.out w2.drew _ ⟨k0, k1, kb⟩).2.2).mono ?_; rintro e w3 ⟨A, c, rfl, hb3⟩; obtain ⟨n0, n1, nB⟩ := HK.out _ _ hb3 (HAL.out w2.drew _ ⟨k0, k1, kb⟩); have z0 : w3.cell? ⟨w2.heap.size, 0, none⟩ = some (.int .i64 0) := (hb3.cell (p := ⟨w2.heap.size, 0, none⟩) (by simp)).trans (World.cell?_alloc_new w2 #[.int .i64 0, .slice none 0 0] 32 0); have z1 : w3.cell? ⟨w2.heap.size, 1, none⟩ = some (.slice none 0 0) := (hb3.cell (p := ⟨w2.heap.size, 1, none⟩) (by simp)).trans (World.cell?_alloc_new w2 #[.int .i64 0, .slice none 0 0] 32 1); have y0 : w3.frozen? ⟨w2.heap.size, 0, none⟩ = false := (hb3.frozen (p := ⟨w2.heap.size, 0, none⟩) (by simp)).trans (World.frozen?_alloc_new w2 #[.int .i64 0, .slice none 0 0] 32 0); have y1 : w3.frozen? ⟨w2.heap.size, 1, none⟩ = false := (hb3.frozen (p := ⟨w2.heap.size, 1, none⟩) (by simp)).trans (World.frozen?_alloc_new w2 #[.int .i64 0, .slice none 0 0] 32 1); clear hb3))
              all_goals
                refine (‹∀ (a' : Act) (w' : World), Met _ a' w' → _› _ _ ?_)
                go_meet
                case rel => exact ⟨rfl, ⟨by first | exact ⟨n0, n1, nB⟩ | exact HAL.out _ _ ⟨n0, n1, nB⟩ | exact HSET.out _ _ _ ⟨n0, n1, nB⟩ | exact HSET.out _ _ _ (HAL.out _ _ ⟨n0, n1, nB⟩)⟩⟩
            case rest =>
              obtain ⟨rfl, HS⟩ := hcut
              have HS0 := Aside0.mk HS.out.1
              have HS1 := Aside0.mk HS.out.2.1
              have HBc := Aside0.mk HS.out.2.2
              clear HK HAL HSET k0 k1 kb HS HB2 HFI HCK hb2lt sl1 sl2 HBX HLX
              obtain ⟨q, hq⟩ : ∃ q, (findR x0 (l0.take i)).2 = q := ⟨_, rfl⟩
              rw [hq] at HE2 ⊢
              clear hq
              have c0' := HS0.out
              have c1' := HS1.out
              cases q with
              | true =>
                have hE := HE2.out
                rw [if_pos rfl, if_neg (by decide)] at hE
                cases hE
                go_wp2
                go_ret2
                exact ⟨rfl, HBc.out⟩
              | false =>
                have hE := HE2.out
                simp only [Bool.false_eq_true, if_false] at hE
                have HE3 := Aside0.mk hE
                have hmx := Kd.C_max HC.out
                obtain ⟨t1, t2, t3, ht⟩ : ∃ t1 t2 t3, (kindOf x0).getD kZero = (t1, t2, t3) := ⟨_, _, _, rfl⟩
                have hks := kind_small x0
                rw [ht] at HE3 hks
                have HT := Aside0.mk ht
                clear hE HE2 ht
                go_wp2
                go_loopw [47] (fun v47 wr2 => ∃ j : Nat, v47 = .int .i64 (j : Int) ∧ j ≤ x1.length ∧ Aside0 (linesE (t1, t2, t3) l1 (x1.drop j) = linesE (t1, t2, t3) l1 x1) ∧ Aside0 (wr2.cell? ⟨b, 0, none⟩ = some (.int .i64 x0) ∧ wr2.cell? ⟨b, 1, none⟩ = some (.slice A2 x1.length c2) ∧ Below w.heap.size w wr2)) (fun v47 _ => x1.length - (intOf v47).toNat)
                case atStart => exact ⟨0, rfl, Nat.zero_le _, ⟨rfl⟩, ⟨HS0.out, HS1.out, HBc.out⟩⟩
                case round =>
                  clear c0' c1' HS0 HS1 HBc
                  obtain ⟨j, rfl, hj, HLE, HS⟩ := hrel
                  have c0' := HS.out.1
                  have c1' := HS.out.2.1
                  have HB := Aside0.mk HS.out.2.2
                  by_cases hjl : j < x1.length
                  · have hdj : decide ((j : Int) < (x1.length : Int)) = true := decide_eq_true (by omega)
                    have hdjn : decide (j < x1.length) = true := decide_eq_true hjl
                    obtain ⟨ad2, A5, c5, e1, hy0, hy1, hy2, hlc5, hC5⟩ := at_T53 HC.out (j : Int) (by omega) (by omega)
                    cases e1
                    rw [Int.toNat_natCast] at hy0 hy1 hy2
                    replace hy0 := (HB.out.cell (World.block_lt_of_cell? w _ hy0)).trans hy0
                    replace hy1 := (HB.out.cell (World.block_lt_of_cell? w _ hy1)).trans hy1
                    replace hy2 := (HB.out.cell (World.block_lt_of_cell? w _ hy2)).trans hy2
                    have hdr : x1.drop j = rd_T53 x1 (j : Int) :: x1.drop (j + 1) := by
                      unfold rd_T53
                      rw [Int.toNat_natCast, List.getD_eq_getElem?_getD, List.getElem?_eq_getElem hjl, List.drop_eq_getElem_cons hjl]
                      rfl
                    have hmem : rd_T53 x1 (j : Int) ∈ x1 := by
                      have : rd_T53 x1 (j : Int) ∈ x1.drop j := by rw [hdr]; simp
                      exact List.mem_of_mem_drop this
                    have hokl := HOK1.out.1 _ hmem
                    have hLE := HLE.out
                    rw [hdr, linesE_cons] at hLE
                    generalize rd_T53 x1 (j : Int) = y at hy0 hy1 hy2 hlc5 hC5 hokl hLE
                    obtain ⟨y0, y1, y2⟩ := y
                    simp only at hy0 hy1 hy2 hlc5 hC5 hokl
                    have hko : okLine (t1, t2, t3) ⟨y0, y1, y2⟩ l1 := ⟨hokl.1, hokl.2.1, hokl.2.2, hks.1, hks.2, hl1⟩
                    have HKO := Aside0.mk hko
                    have HLE1 := Aside0.mk hLE
                    have HC5 := Aside0.mk hC5
                    have HLC5 := Aside0.mk hlc5
                    clear hdr hmem hokl hLE hko hC5 hlc5 HLE
                    go_upto_region 17 with (fail)
                    obtain ⟨Wy, hWy⟩ : ∃ Wy, wr.alloc (.cells #[.string y0, .bool y1, .slice A5 y2.length c5] 53) = Wy := ⟨_, rfl⟩
                    obtain ⟨b2, hb2⟩ : ∃ b2, wr.heap.size = b2 := ⟨_, rfl⟩
                    have hby : Below wr.heap.size wr Wy := by rw [← hWy]; exact (Below.refl _ _).alloc (Nat.le_refl _) _
                    have hbl := World.block_lt_of_cell? wr _ c0'
                    have k0 : Wy.drew.cell? ⟨b, 0, none⟩ = some (.int .i64 x0) := (hby.cell (p := ⟨b, 0, none⟩) hbl).trans c0'
                    have k1 : Wy.drew.cell? ⟨b, 1, none⟩ = some (.slice (some ad2) x1.length c2) := (hby.cell (p := ⟨b, 1, none⟩) hbl).trans c1'
                    have k2 : Wy.drew.cell? ⟨b2, 0, none⟩ = some (.string y0) := by rw [← hWy, ← hb2]; exact World.cell?_alloc_new _ _ _ _
                    have k3 : Wy.drew.cell? ⟨b2, 1, none⟩ = some (.bool y1) := by rw [← hWy, ← hb2]; exact World.cell?_alloc_new _ _ _ _
                    have k4 : Wy.drew.cell? ⟨b2, 2, none⟩ = some (.slice A5 y2.length c5) := by rw [← hWy, ← hb2]; exact World.cell?_alloc_new _ _ _ _
                    have kb : Below w.heap.size w Wy.drew := (HB.out.trans (hby.mono HB.out.size)).drew
                    rw [hWy, hb2]
                    clear hWy hb2 hby hbl hy0 hy1 hy2 c0' c1'
                    have HK : Aside0 (∀ W W' : World, Below W.heap.size W W' → (W.cell? ⟨b, 0, none⟩ = some (.int .i64 x0) ∧ W.cell? ⟨b, 1, none⟩ = some (.slice (some ad2) x1.length c2) ∧ W.cell? ⟨b2, 0, none⟩ = some (.string y0) ∧ W.cell? ⟨b2, 1, none⟩ = some (.bool y1) ∧ W.cell? ⟨b2, 2, none⟩ = some (.slice A5 y2.length c5) ∧ Below w.heap.size w W) → (W'.cell? ⟨b, 0, none⟩ = some (.int .i64 x0) ∧ W'.cell? ⟨b, 1, none⟩ = some (.slice (some ad2) x1.length c2) ∧ W'.cell? ⟨b2, 0, none⟩ = some (.string y0) ∧ W'.cell? ⟨b2, 1, none⟩ = some (.bool y1) ∧ W'.cell? ⟨b2, 2, none⟩ = some (.slice A5 y2.length c5) ∧ Below w.heap.size w W')) := ⟨by
                      rintro W W' hb ⟨q0, q1, q2, q3, q4, q5⟩
                      have hl := World.block_lt_of_cell? W _ q0
                      have hl2 := World.block_lt_of_cell? W _ q2
                      exact ⟨(hb.cell (p := ⟨b, 0, none⟩) hl).trans q0, (hb.cell (p := ⟨b, 1, none⟩) hl).trans q1, (hb.cell (p := ⟨b2, 0, none⟩) hl2).trans q2, (hb.cell (p := ⟨b2, 1, none⟩) hl2).trans q3, (hb.cell (p := ⟨b2, 2, none⟩) hl2).trans q4, q5.trans (hb.mono q5.size)⟩⟩
                    go_cut [13] (fun v13 w' => v13 = .int .i64 (lineErr (t1, t2, t3) ⟨y0, y1, y2⟩ l1) ∧ Aside0 (w'.cell? ⟨b, 0, none⟩ = some (.int .i64 x0) ∧ w'.cell? ⟨b, 1, none⟩ = some (.slice (some ad2) x1.length c2) ∧ w'.cell? ⟨b2, 0, none⟩ = some (.string y0) ∧ w'.cell? ⟨b2, 1, none⟩ = some (.bool y1) ∧ w'.cell? ⟨b2, 2, none⟩ = some (.slice A5 y2.length c5) ∧ Below w.heap.size w w'))
                    case first =>
                      go_region_held3 (fun w' => w'.cell? ⟨b, 0, none⟩ = some (.int .i64 x0) ∧ w'.cell? ⟨b, 1, none⟩ = some (.slice (some ad2) x1.length c2) ∧ w'.cell? ⟨b2, 0, none⟩ = some (.string y0) ∧ w'.cell? ⟨b2, 1, none⟩ = some (.bool y1) ∧ w'.cell? ⟨b2, 2, none⟩ = some (.slice A5 y2.length c5) ∧ Below w.heap.size w w') ((first | exact ⟨n0, n1, n2, n3, n4, nB⟩ | exact ⟨k0, k1, k2, k3, k4, kb⟩))
                        (first
                          | (go_at_call 58; refine (kinds_calls _).mono ?_; rintro e w3 ⟨kb3, rfl, hk3, hb3⟩; obtain ⟨n0, n1, n2, n3, n4, nB⟩ := HK.out _ _ hb3 ⟨k0, k1, k2, k3, k4, kb⟩; obtain ⟨A6, c6, hc6, hC6, hlk⟩ := kinds_look1 hk3 x0; rw [HT.out] at hc6 hC6 hlk; have HC6 := Aside0.mk hC6; have HLC6 := Aside0.mk hc6; have hlk1 := hlk w3 rfl; clear hk3 hb3 hlk hc6 hC6)
                          | (go_at_call 57; refine (checkLine_calls t1 t3 t2 A6 A5 A1 c6 c5 c1 y0 y1 y2 l1 _ (HL.out.below nB) HC6.out HLC6.out (Kd.C_below HC5.out nB) HLC5.out (Kd.C_below HR1.out nB) hc1 HKO.out).mono ?_; rintro e w4 ⟨rfl, hb4⟩; obtain ⟨n0, n1, n2, n3, n4, nB⟩ := HK.out _ _ hb4 ⟨n0, n1, n2, n3, n4, nB⟩; clear hb4))
                      all_goals
                        refine (‹∀ (a' : Act) (w' : World), Met _ a' w' → _› _ _ ?_)
                        go_meet
                        case rel => exact ⟨rfl, ⟨n0, n1, n2, n3, n4, nB⟩⟩
                    case rest =>
                      obtain ⟨rfl, HS⟩ := hcut
                      have HSS : Aside0 (wc.cell? ⟨b, 0, none⟩ = some (.int .i64 x0) ∧ wc.cell? ⟨b, 1, none⟩ = some (.slice (some ad2) x1.length c2) ∧ Below w.heap.size w wc) := ⟨⟨HS.out.1, HS.out.2.1, HS.out.2.2.2.2.2⟩⟩
                      clear HK k0 k1 k2 k3 k4 kb HS
                      obtain ⟨le, hle⟩ : ∃ le, lineErr (t1, t2, t3) ⟨y0, y1, y2⟩ l1 = le := ⟨_, rfl⟩
                      rw [hle] at HLE1 ⊢
                      clear hle
                      by_cases hlz : le = 0
                      · subst hlz
                        have hLE := HLE1.out
                        rw [if_pos rfl] at hLE
                        have HLE2 := Aside0.mk hLE
                        clear hLE HLE1
                        go_wp2
                        go_roundw
                        case rel =>
                          first
                          | exact ⟨j + 1, by go_num, by omega, HLE2, HSS⟩
                          | (repeat (apply Exists.intro)
                             exact ⟨⟨j + 1, by go_num, by omega, HLE2, HSS⟩, rfl⟩)
                        case measure => simp [intOf]; omega
                      · have hLE := HLE1.out
                        rw [if_neg hlz] at hLE
                        have hE := HE3.out
                        rw [← hLE, if_neg hlz, if_neg hlz] at hE
                        have z1 : (le != 0) = true := bne_iff_ne.mpr hlz
                        have z2 : (le == 0) = false := beq_eq_false_iff_ne.mpr hlz
                        cases hE
                        clear hLE HLE1 HE3 hlz
                        go_wp2
                        go_ret2
                        exact ⟨rfl, HSS.out.2.2⟩
                  · have hdj : decide ((j : Int) < (x1.length : Int)) = false := decide_eq_false (by omega)
                    have hdjn : decide (j < x1.length) = false := decide_eq_false hjl
                    have hLE := HLE.out
                    rw [List.drop_eq_nil_of_le (by omega)] at hLE
                    have hE := HE3.out
                    rw [← hLE] at hE
                    have hE' : (if (if balV x1 = true then (0 : Int) else 14) = 0 then rulesE l0 l1 (i + 1) (l0.drop (i + 1)) else ((i : Int), if balV x1 = true then (0 : Int) else 14)) = (r1, r2) := hE
                    have HBF : Aside0 (rule_balances.f x0 x1 = some (balV x1)) := ⟨by unfold rule_balances.f; rw [if_pos HOK1.out.2]⟩
                    obtain ⟨q, hq⟩ : ∃ q, balV x1 = q := ⟨_, rfl⟩
                    rw [hq] at hE' HBF
                    have HE4 := Aside0.mk hE'
                    have HLr := Aside0.mk (HL.out.below HB.out)
                    clear hE hE' hLE HLE HE3 hq
                    cases q with
                    | true =>
                      have hE := HE4.out
                      rw [if_pos rfl, if_pos rfl] at hE
                      have HE5 := Aside0.mk hE
                      clear hE HE4
                      go_wp2_with (go_at_call 59; refine (rule_balances.calls x0 A2 c2 x1 true _ HLr.out (Kd.C_below HC.out HB.out) HLC.out HBF.out).mono ?_; rintro e w4 ⟨rfl, hb4⟩; have HB4 := Aside0.mk (HB.out.trans (hb4.mono HB.out.size)); clear hb4)
                      go_roundw
                      case rel => exact ⟨i + 1, by go_num, by omega, HE5, HB4⟩
                      case measure => simp [intOf]; omega
                    | false =>
                      have hE := HE4.out
                      simp only [Bool.false_eq_true, if_false] at hE
                      rw [if_neg (by decide)] at hE
                      cases hE
                      clear HE4
                      go_wp2_with (go_at_call 59; refine (rule_balances.calls x0 A2 c2 x1 false _ HLr.out (Kd.C_below HC.out HB.out) HLC.out HBF.out).mono ?_; rintro e w4 ⟨rfl, hb4⟩; have HB4 := Aside0.mk (HB.out.trans (hb4.mono HB.out.size)); clear hb4)
                      go_ret2
                      exact ⟨rfl, HB4.out⟩
          · have hE := HE1.out
            rw [if_neg he, if_neg he] at hE
            cases hE
            have z1 : (ruleErr x0 x1 != 0) = true := bne_iff_ne.mpr he
            have z2 : (ruleErr x0 x1 == 0) = false := beq_eq_false_iff_ne.mpr he
            go_wp2_with (go_at_call 56; refine (rule_check.calls x0 A2 c2 x1 _ Wx HLX.out (Kd.C_below HC.out HBX.out) HLC.out HCK.out).mono ?_; rintro e w2 ⟨rfl, hb2⟩; have HB2 := Aside0.mk (HBX.out.trans (hb2.mono HBX.out.size)); clear hb2)
            go_ret2
            exact ⟨rfl, HB2.out⟩
        · have hd : decide ((i : Int) < (l0.length : Int)) = false := decide_eq_false (by omega)
          have hdn : decide (i < l0.length) = false := decide_eq_false hil
          have hE := HE.out
          rw [List.drop_eq_nil_of_le (by omega)] at hE
          cases hE
          go_wp2
          go_ret2
          exact ⟨rfl, HB.out⟩
  · rw [if_neg hz] at hv
    cases hv
    have z1 : (ce != 0) = true := bne_iff_ne.mpr hz
    have z2 : (ce == 0) = false := beq_eq_false_iff_ne.mpr hz
    go_enter Tryz.func14, Tryz.ntmps14
    go_wp2_with (go_at_call 33; refine (X.account_CheckAll.calls k A1 c1 l1 ce w HL.out HR1.out hc1 HCE.out).mono ?_; rintro e w1 ⟨rfl, hb1⟩; have HB1 := Aside0.mk hb1; clear hb1)
    go_ret2
    exact ⟨rfl, HB1.out⟩
end Go.Proofs.YtblcgcibkikgeaaGreatDoor.G
end
section
namespace Go.Proofs.YtblcgcibkikgeaaGreatDoor.G
open Go Go.RowKit Go.Shelf Go.Proofs.YtblcgcibkikgeaaGreatDoorW.PrintWords Go.Proofs.YtblcgcibkikgeaaGreatDoorW.PrintLast Go.Proofs.YtblcgcibkikgeaaGreatDoorW.PrintMore Go.Proofs.YtblcgcibkikgeaaGreatDoor.K Go.Proofs.YtblcgcibkikgeaaGreatDoor.G1 Go.Proofs.YtblcgcibkikgeaaGreatDoor.P
set_option linter.unusedVariables false
def rule_Check.f (l0 : List (Ru)) (l1 : List (Ac)) : Option (Int × Int) :=
  if l0.all (fun x => decide (okRu x)) = true ∧ l1.length ≤ 1000000 then (X.account_CheckAll.f 100000 l1).map (fun ce => checkR ce l0 l1) else none
theorem rule_Check.calls (A0 : Option Addr) (c0 : Nat) (l0 : List (Ru)) (A1 : Option Addr) (c1 : Nat) (l1 : List (Ac)) (r1 : Int) (r2 : Int) (w : World) (hL : Laid w) (hr0 : Kd.C k32 w A0 l0.length l0) (hc0 : l0.length ≤ c0) (hr1 : Kd.C k48 w A1 l1.length l1) (hc1 : l1.length ≤ c1) (h : rule_Check.f l0 l1 = some (r1, r2)) :
    Calls Tryz.prog 14 #[.slice A0 l0.length c0, .slice A1 l1.length c1] w fun e w' => e = .returned (.tuple #[.int .i64 r1, .int .i64 r2]) ∧ Below w.heap.size w w' := by
  unfold rule_Check.f at h
  split at h
  case isFalse => cases h
  rename_i hok
  obtain ⟨ce, hce, hv⟩ := Option.map_eq_some_iff.1 h
  have := rule_Check_calls _ ce A0 c0 l0 A1 c1 l1 w hL hr0 hc0 hr1 hc1 hce (fun x hx => by have := List.all_eq_true.1 hok.1 x hx; exact of_decide_eq_true this) hok.2
  rw [hv] at this
  exact this
end Go.Proofs.YtblcgcibkikgeaaGreatDoor.G
end
section
namespace Go.Proofs.YtblcgcibkikgeaaGreatDoor.X
open Go.RowKit Go.Proofs.YtblcgcibkikgeaaGreatDoorW.PrintWords Go.Proofs.YtblcgcibkikgeaaGreatDoorW.PrintLast Go.Proofs.YtblcgcibkikgeaaGreatDoorW.PrintMore Go.Proofs.YtblcgcibkikgeaaGreatDoor.K Go.Proofs.YtblcgcibkikgeaaGreatDoor.G
attribute [local go_sem] max2_int min2_int max_two min_two max_three min_three max_four min_four
set_option linter.unusedVariables false
set_option linter.unusedSimpArgs false
def rule_Balanced.f (a0_0 : Int) (l0_1 : List (S53)) : Option (Bool × Int) := (rule_check.f a0_0 l0_1).bind fun t148 => (if t148 = 0 then ((rule_balances.f a0_0 l0_1).bind fun t149 => (some (t149, 0))) else (some (false, t148)))
set_option maxHeartbeats 8000000 in
set_option maxRecDepth 100000 in
theorem rule_Balanced.calls (a0_0 : Int) (A0_1 : Option Addr) (c0_1 : Nat) (l0_1 : List (S53)) (r1 : Bool) (r2 : Int) (w : World) (hL : Laid w) (hr0_1 : Kd.C k53 w A0_1 l0_1.length l0_1) (hc0_1 : l0_1.length ≤ c0_1) (h : rule_Balanced.f a0_0 l0_1 = some (r1, r2)) :
    Calls Tryz.prog 16 #[.agg #[.int .i64 a0_0, .slice A0_1 l0_1.length c0_1]] w fun e w' => e = .returned (.tuple #[.bool r1, .int .i64 r2]) ∧ Below w.heap.size w w' := by
  have hu32 := Tryz.underlying32
  have HL := Aside0.mk hL
  clear hL
  have HR0_1 := Aside0.mk hr0_1
  have HC0_1 := Aside0.mk hc0_1
  clear hr0_1 hc0_1
  have HB := Aside0.mk (Below.refl w.heap.size w)
  have H : ((rule_check.f a0_0 l0_1).bind fun t148 => (if t148 = 0 then ((rule_balances.f a0_0 l0_1).bind fun t149 => (some (t149, 0))) else (some (false, t148)))) = some (r1, r2) := h
  clear h
  replace H := Option.bind_eq_some_iff.mp H
  obtain ⟨t148, A20, H⟩ := H
  replace H : (if t148 = 0 then ((rule_balances.f a0_0 l0_1).bind fun t149 => (some (t149, 0))) else (some (false, t148))) = some (r1, r2) := H
  have A2 := Aside0.mk A20
  clear A20
  by_cases c3 : t148 = 0
  · rw [if_pos c3] at H
    have c3b0 : (t148 == 0) = true := beq_iff_eq.mpr c3
    have c3b1 : (t148 != 0) = false := bne_eq_false_iff_eq.mpr c3
    clear c3
    replace H := Option.bind_eq_some_iff.mp H
    obtain ⟨t149, A40, H⟩ := H
    replace H : (some (t149, 0)) = some (r1, r2) := H
    have A4 := Aside0.mk A40
    clear A40
    simp only [Option.some.injEq, Prod.mk.injEq] at H
    obtain ⟨rfl, rfl⟩ := H
    go_enter Tryz.func16, Tryz.ntmps16
    go_wp2_with (first | ((with_reducible refine gate_dst (N := 1) rfl ?_); refine box_event ?hg (N := 1) ?hd (cs := #[.int .i64 a0_0, .slice A0_1 l0_1.length c0_1]) (t := 32) ?hr ?_; (case hd => rfl); (case hg => rfl); (case hr => first | (go_simp; done) | (go_simp; rfl)); intro gb147 hg w5 hbox hb; have n0_ := Aside0.mk (below_step (by repeat (first | (with_reducible first | exact HB.out | apply below_alloc | apply pw_below_drewN | apply below_drew1) | exact HB.out)) hb); have n1_ := Aside0.mk (hbox); have n2_ := Aside0.mk ((by rw [hg]; exact (below_size (by repeat (first | (with_reducible first | exact HB.out | apply below_alloc | apply pw_below_drewN | apply below_drew1) | exact HB.out))) : w.heap.size ≤ gb147)); have n3_ := Aside0.mk ((by rw [hg]; exact (below_size (by repeat (first | (with_reducible first | exact HB.out | apply below_alloc | apply pw_below_drewN | apply below_drew1) | exact HB.out))) : w.heap.size ≤ gb147)); clear HB; have HB := n0_; have BK147 := n1_; have GW147 := n2_; have GE147 := n3_; clear n0_ n1_ n2_ n3_; clear hb hbox hg; have hcz6_0 : w5.cell? ⟨gb147, 0, none⟩ = some (.int .i64 a0_0) := (blk_cell BK147.out 0).trans rfl; have hcz6_1 : w5.cell? ⟨gb147, 1, none⟩ = some (.slice A0_1 l0_1.length c0_1) := (blk_cell BK147.out 1).trans rfl; have hfz6_0 := blk_frozen BK147.out 0; have hfz6_1 := blk_frozen BK147.out 1) | ((with_reducible refine gate_callee (f := 56) rfl ?_); refine goesL_ (some 6) rfl rfl Tryz.func56 (by kernel_rfl) rfl #[.agg #[.int .i64 a0_0, .slice A0_1 l0_1.length c0_1]] rfl (by (try simp only [List.map_toArray, List.map_cons, List.map_nil]); first | done | rfl | (simp only [List.length_drop, List.length_take]; rfl)) ?_; (with_reducible refine (rule_check.calls a0_0 _ _ l0_1 t148 _ (HL.out.below (by repeat (first | (with_reducible first | exact HB.out | apply below_alloc | apply pw_below_drewN | apply below_drew1) | exact HB.out | refine below_set ?_ (Aside0.out (by assumption))))) ?side1 ?side2 A2.out).mono ?_); (case side1 => repeat (first | exact (Kd.C_below HR0_1.out HB.out) | (with_reducible refine Kd.C_alloc ?_ _) | (with_reducible refine Kd.C_drewN ?_ _) | (with_reducible refine Kd.C_drew ?_))); (case side2 => exact HC0_1.out); rintro e w7 ⟨rfl, hb⟩; refine ⟨_, rfl, ?_⟩; have n0_ := Aside0.mk (blk_below (g := gb147) (o := .cells #[.int .i64 a0_0, .slice A0_1 l0_1.length c0_1] 32 (0, 0)) (by (with_reducible repeat (first | refine blk_drewN ?_ _ | refine blk_drew ?_ | refine blk_alloc ?_ _)); exact BK147.out) hb); have n1_ := Aside0.mk (below_step (by repeat (first | (with_reducible first | exact HB.out | apply below_alloc | apply pw_below_drewN | apply below_drew1 | refine below_set ?_ GE147.out) | exact HB.out)) hb); clear BK147; clear HB; have BK147 := n0_; have HB := n1_; clear n0_ n1_; (try clear hb); (try clear hb2); (try clear hk); (try clear hi); have hcz8_0 : w7.cell? ⟨gb147, 0, none⟩ = some (.int .i64 a0_0) := (blk_cell BK147.out 0).trans rfl; have hcz8_1 : w7.cell? ⟨gb147, 1, none⟩ = some (.slice A0_1 l0_1.length c0_1) := (blk_cell BK147.out 1).trans rfl; have hfz8_0 := blk_frozen BK147.out 0; have hfz8_1 := blk_frozen BK147.out 1) | ((with_reducible refine gate_callee (f := 59) rfl ?_); refine goesL_ (some 11) rfl rfl Tryz.func59 (by kernel_rfl) rfl #[.agg #[.int .i64 a0_0, .slice A0_1 l0_1.length c0_1]] rfl (by (try simp only [List.map_toArray, List.map_cons, List.map_nil]); first | done | rfl | (simp only [List.length_drop, List.length_take]; rfl)) ?_; (with_reducible refine (rule_balances.calls a0_0 _ _ l0_1 t149 _ (HL.out.below (by repeat (first | (with_reducible first | exact HB.out | apply below_alloc | apply pw_below_drewN | apply below_drew1) | exact HB.out | refine below_set ?_ (Aside0.out (by assumption))))) ?side1 ?side2 A4.out).mono ?_); (case side1 => repeat (first | exact (Kd.C_below HR0_1.out HB.out) | (with_reducible refine Kd.C_alloc ?_ _) | (with_reducible refine Kd.C_drewN ?_ _) | (with_reducible refine Kd.C_drew ?_))); (case side2 => exact HC0_1.out); rintro e w9 ⟨rfl, hb⟩; refine ⟨_, rfl, ?_⟩; have n0_ := Aside0.mk (blk_below (g := gb147) (o := .cells #[.int .i64 a0_0, .slice A0_1 l0_1.length c0_1] 32 (0, 0)) (by (with_reducible repeat (first | refine blk_drewN ?_ _ | refine blk_drew ?_ | refine blk_alloc ?_ _)); exact BK147.out) hb); have n1_ := Aside0.mk (below_step (by repeat (first | (with_reducible first | exact HB.out | apply below_alloc | apply pw_below_drewN | apply below_drew1 | refine below_set ?_ GE147.out) | exact HB.out)) hb); clear BK147; clear HB; have BK147 := n0_; have HB := n1_; clear n0_ n1_; (try clear hb); (try clear hb2); (try clear hk); (try clear hi)))
    go_ret2
    exact ⟨by first | rfl | (simp [errW_none, errW_some] <;> rfl) | (simp [*, errW_none, errW_some] <;> rfl), by repeat (first | (with_reducible first | exact HB.out | apply below_alloc | apply pw_below_drewN | apply below_drew1 | refine below_set ?_ GE147.out) | exact HB.out)⟩
  · rw [if_neg c3] at H
    have c3b0 : (t148 == 0) = false := beq_eq_false_iff_ne.mpr c3
    have c3b1 : (t148 != 0) = true := bne_iff_ne.mpr c3
    simp only [Option.some.injEq, Prod.mk.injEq] at H
    obtain ⟨rfl, rfl⟩ := H
    go_enter Tryz.func16, Tryz.ntmps16
    go_wp2_with (first | ((with_reducible refine gate_dst (N := 1) rfl ?_); refine box_event ?hg (N := 1) ?hd (cs := #[.int .i64 a0_0, .slice A0_1 l0_1.length c0_1]) (t := 32) ?hr ?_; (case hd => rfl); (case hg => rfl); (case hr => first | (go_simp; done) | (go_simp; rfl)); intro gb147 hg w10 hbox hb; have n0_ := Aside0.mk (below_step (by repeat (first | (with_reducible first | exact HB.out | apply below_alloc | apply pw_below_drewN | apply below_drew1) | exact HB.out)) hb); have n1_ := Aside0.mk (hbox); have n2_ := Aside0.mk ((by rw [hg]; exact (below_size (by repeat (first | (with_reducible first | exact HB.out | apply below_alloc | apply pw_below_drewN | apply below_drew1) | exact HB.out))) : w.heap.size ≤ gb147)); have n3_ := Aside0.mk ((by rw [hg]; exact (below_size (by repeat (first | (with_reducible first | exact HB.out | apply below_alloc | apply pw_below_drewN | apply below_drew1) | exact HB.out))) : w.heap.size ≤ gb147)); clear HB; have HB := n0_; have BK147 := n1_; have GW147 := n2_; have GE147 := n3_; clear n0_ n1_ n2_ n3_; clear hb hbox hg; have hcz11_0 : w10.cell? ⟨gb147, 0, none⟩ = some (.int .i64 a0_0) := (blk_cell BK147.out 0).trans rfl; have hcz11_1 : w10.cell? ⟨gb147, 1, none⟩ = some (.slice A0_1 l0_1.length c0_1) := (blk_cell BK147.out 1).trans rfl; have hfz11_0 := blk_frozen BK147.out 0; have hfz11_1 := blk_frozen BK147.out 1) | ((with_reducible refine gate_callee (f := 56) rfl ?_); refine goesL_ (some 6) rfl rfl Tryz.func56 (by kernel_rfl) rfl #[.agg #[.int .i64 a0_0, .slice A0_1 l0_1.length c0_1]] rfl (by (try simp only [List.map_toArray, List.map_cons, List.map_nil]); first | done | rfl | (simp only [List.length_drop, List.length_take]; rfl)) ?_; (with_reducible refine (rule_check.calls a0_0 _ _ l0_1 t148 _ (HL.out.below (by repeat (first | (with_reducible first | exact HB.out | apply below_alloc | apply pw_below_drewN | apply below_drew1) | exact HB.out | refine below_set ?_ (Aside0.out (by assumption))))) ?side1 ?side2 A2.out).mono ?_); (case side1 => repeat (first | exact (Kd.C_below HR0_1.out HB.out) | (with_reducible refine Kd.C_alloc ?_ _) | (with_reducible refine Kd.C_drewN ?_ _) | (with_reducible refine Kd.C_drew ?_))); (case side2 => exact HC0_1.out); rintro e w12 ⟨rfl, hb⟩; refine ⟨_, rfl, ?_⟩; have n0_ := Aside0.mk (blk_below (g := gb147) (o := .cells #[.int .i64 a0_0, .slice A0_1 l0_1.length c0_1] 32 (0, 0)) (by (with_reducible repeat (first | refine blk_drewN ?_ _ | refine blk_drew ?_ | refine blk_alloc ?_ _)); exact BK147.out) hb); have n1_ := Aside0.mk (below_step (by repeat (first | (with_reducible first | exact HB.out | apply below_alloc | apply pw_below_drewN | apply below_drew1 | refine below_set ?_ GE147.out) | exact HB.out)) hb); clear BK147; clear HB; have BK147 := n0_; have HB := n1_; clear n0_ n1_; (try clear hb); (try clear hb2); (try clear hk); (try clear hi)))
    go_ret2
    exact ⟨by first | rfl | (simp [errW_none, errW_some] <;> rfl) | (simp [*, errW_none, errW_some] <;> rfl), by repeat (first | (with_reducible first | exact HB.out | apply below_alloc | apply pw_below_drewN | apply below_drew1 | refine below_set ?_ GE147.out) | exact HB.out)⟩
end Go.Proofs.YtblcgcibkikgeaaGreatDoor.X
end
