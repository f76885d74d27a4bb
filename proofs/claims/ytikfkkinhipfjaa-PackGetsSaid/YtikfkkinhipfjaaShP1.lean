/- The reference's shape of layer 6: part 1 of its loop. -/
import Derived.Test.YtikfkkinhipfjaaShF
import Derived.Outline
namespace Go.Proofs.Ytikfkkinhipfjaa
open Go.RowKit Go.ChangeShapes
set_option linter.unusedVariables false
set_option linter.unusedSimpArgs false

set_option maxRecDepth 100000 in
set_option maxHeartbeats 25600000 in
theorem shape_part1 {ok : Nat → Prop} (ns : List Int) (A : Option Addr) (c : Nat) (w : World) (h : kI64.C ok w A ns) (hc : ns.length ≤ c) (hl : ns.length ≤ 1000000) (wr : World) (p : Nat) (s : Scr) (r : List Int) (hP : Part ns 1 s p r) (hI : ShInv w (w.heap.size + 1) s.objs s.progs s.picks wr)
    (u3 u7 u8 u9 u10 u11 u12 u13 u14 u15 u16 u17 u18 u19 u20 u21 u22 u23 u24 u25 u26 u27 u28 u29 u30 u31 u32 u33 u34 u35 u36 u37 u38 u39 u40 u41 u42 u43 u44 u45 u46 u47 u48 u49 u50 u51 u52 u53 u54 u55 u56 u57 u58 u59 u60 u61 u62 u63 u64 u65 u66 u67 u68 u69 u70 u71 u72 u73 u74 u75 u76 u77 u78 u79 u80 u81 u82 u83 u84 u85 u86 u87 u88 u89 u90 u91 u92 u93 u94 u95 u96 u97 u98 u99 u100 u101 u102 u103 u104 u105 u106 u107 u108 u109 u110 u111 u112 u113 u114 u115 u116 u117 u118 u119 u120 u121 u122 u123 u124 u125 u126 u127 u128 u129 u130 u131 u132 u133 u134 u135 u136 u137 u138 u139 u140 u141 u142 u143 u144 u145 u146 u147 u148 u149 u150 u151 u152 u153 u154 u155 u156 u157 u158 u159 u160 u161 u162 u163 u164 u165 u166 u167 u168 u169 u170 u171 u172 u173 u174 u175 u176 u177 u178 u179 u180 u181 u182 u183 u184 u185 u186 u187 u188 u189 u190 u191 u192 u193 u194 u195 u196 u197 u198 u199 u200 u201 u202 u203 u204 u205 u206 u207 u208 u209 : Value) (K : Act → World → Prop) (R : Act → World → Prop) (hR : ∀ (p' : Nat) (s' : Scr) (r' : List Int) (w' : World) (v3 v7 v8 v9 v10 v11 v12 v13 v14 v15 v16 v17 v18 v19 v20 v21 v22 v23 v24 v25 v26 v27 v28 v29 v30 v31 v32 v33 v34 v35 v36 v37 v38 v39 v40 v41 v42 v43 v44 v45 v46 v47 v48 v49 v50 v51 v52 v53 v54 v55 v56 v57 v58 v59 v60 v61 v62 v63 v64 v65 v66 v67 v68 v69 v70 v71 v72 v73 v74 v75 v76 v77 v78 v79 v80 v81 v82 v83 v84 v85 v86 v87 v88 v89 v90 v91 v92 v93 v94 v95 v96 v97 v98 v99 v100 v101 v102 v103 v104 v105 v106 v107 v108 v109 v110 v111 v112 v113 v114 v115 v116 v117 v118 v119 v120 v121 v122 v123 v124 v125 v126 v127 v128 v129 v130 v131 v132 v133 v134 v135 v136 v137 v138 v139 v140 v141 v142 v143 v144 v145 v146 v147 v148 v149 v150 v151 v152 v153 v154 v155 v156 v157 v158 v159 v160 v161 v162 v163 v164 v165 v166 v167 v168 v169 v170 v171 v172 v173 v174 v175 v176 v177 v178 v179 v180 v181 v182 v183 v184 v185 v186 v187 v188 v189 v190 v191 v192 v193 v194 v195 v196 v197 v198 v199 v200 v201 v202 v203 v204 v205 v206 v207 v208 v209 : Value), Part ns 2 s' p' r' → ShInv w (w.heap.size + 1) s'.objs s'.progs s'.picks w' → R ⟨#[.slice A ns.length c, undef, .pointer (some ⟨w.heap.size, 0, none⟩), v3, .pointer (some ⟨w.heap.size + 1, 0, none⟩), .int .i64 p', .int .i64 2, v7, v8, v9, v10, v11, v12, v13, v14, v15, v16, v17, v18, v19, v20, v21, v22, v23, v24, v25, v26, v27, v28, v29, v30, v31, v32, v33, v34, v35, v36, v37, v38, v39, v40, v41, v42, v43, v44, v45, v46, v47, v48, v49, v50, v51, v52, v53, v54, v55, v56, v57, v58, v59, v60, v61, v62, v63, v64, v65, v66, v67, v68, v69, v70, v71, v72, v73, v74, v75, v76, v77, v78, v79, v80, v81, v82, v83, v84, v85, v86, v87, v88, v89, v90, v91, v92, v93, v94, v95, v96, v97, v98, v99, v100, v101, v102, v103, v104, v105, v106, v107, v108, v109, v110, v111, v112, v113, v114, v115, v116, v117, v118, v119, v120, v121, v122, v123, v124, v125, v126, v127, v128, v129, v130, v131, v132, v133, v134, v135, v136, v137, v138, v139, v140, v141, v142, v143, v144, v145, v146, v147, v148, v149, v150, v151, v152, v153, v154, v155, v156, v157, v158, v159, v160, v161, v162, v163, v164, v165, v166, v167, v168, v169, v170, v171, v172, v173, v174, v175, v176, v177, v178, v179, v180, v181, v182, v183, v184, v185, v186, v187, v188, v189, v190, v191, v192, v193, v194, v195, v196, v197, v198, v199, v200, v201, v202, v203, v204, v205, v206, v207, v208, v209, undef, undef, undef, undef, undef], []⟩ w') :
    Code.wp Try.prog shBody (Exit.then R (Exit.inBlock 0 (Exit.then K (bodyPost Try.prog Try.f34 (fun e w' => Below w.heap.size w w' ∧ (((∃ s A0 A1 A2 c0 c1 c2, e = .returned (.tuple #[scrV s A0 A1 A2 c0 c1 c2, .bool false])) ∧ ¬ H0 ns) ∨
      (∃ s A0 A1 A2 c0 c1 c2, e = .returned (.tuple #[scrV s A0 A1 A2 c0 c1 c2, .bool true]) ∧ ns = scrN s ∧ lens s ∧ ScrAt (w.heap.size ≤ ·) w' s A0 A1 A2 c0 c1 c2))))))) ⟨#[.slice A ns.length c, undef, .pointer (some ⟨w.heap.size, 0, none⟩), u3, .pointer (some ⟨w.heap.size + 1, 0, none⟩), .int .i64 p, .int .i64 1, u7, u8, u9, u10, u11, u12, u13, u14, u15, u16, u17, u18, u19, u20, u21, u22, u23, u24, u25, u26, u27, u28, u29, u30, u31, u32, u33, u34, u35, u36, u37, u38, u39, u40, u41, u42, u43, u44, u45, u46, u47, u48, u49, u50, u51, u52, u53, u54, u55, u56, u57, u58, u59, u60, u61, u62, u63, u64, u65, u66, u67, u68, u69, u70, u71, u72, u73, u74, u75, u76, u77, u78, u79, u80, u81, u82, u83, u84, u85, u86, u87, u88, u89, u90, u91, u92, u93, u94, u95, u96, u97, u98, u99, u100, u101, u102, u103, u104, u105, u106, u107, u108, u109, u110, u111, u112, u113, u114, u115, u116, u117, u118, u119, u120, u121, u122, u123, u124, u125, u126, u127, u128, u129, u130, u131, u132, u133, u134, u135, u136, u137, u138, u139, u140, u141, u142, u143, u144, u145, u146, u147, u148, u149, u150, u151, u152, u153, u154, u155, u156, u157, u158, u159, u160, u161, u162, u163, u164, u165, u166, u167, u168, u169, u170, u171, u172, u173, u174, u175, u176, u177, u178, u179, u180, u181, u182, u183, u184, u185, u186, u187, u188, u189, u190, u191, u192, u193, u194, u195, u196, u197, u198, u199, u200, u201, u202, u203, u204, u205, u206, u207, u208, u209, undef, undef, undef, undef, undef], []⟩ wr := by
  obtain ⟨i0, hi0, hz0, hs0, hbb0⟩ := info_parts info_ob
  have hu0 : Try.prog.underlying 22 = some (.slice 48) := Try.underlying22
  obtain ⟨i1, hi1, hz1, hs1, hbb1⟩ := info_parts info_rows
  have hu1 : Try.prog.underlying 23 = some (.slice 49) := Try.underlying23
  obtain ⟨i2, hi2, hz2, hs2, hbb2⟩ := info_parts info_pk
  have hu2 : Try.prog.underlying 24 = some (.slice 56) := Try.underlying24
  obtain ⟨i3, hi3, hz3, hs3, hbb3⟩ := info_parts info_cl
  have hu3 : Try.prog.underlying 49 = some (.slice 54) := Try.underlying49
  have hS := Lib.hid h.bound
  have hcl := h.len
  have HRR := Lib.hid hR
  clear h hR
  have HI := Lib.hid hI
  conv => arg 2; whnf
  obtain ⟨hk, hk2, hl, hF⟩ := hP
  have HF := Lib.hid hF
  clear hF hI

  obtain ⟨A0, A1, A2, c0, c1, c2, g0, g1, g2, gS⟩ := ShInv.scr (s := s) HI.out hl
  have x0 := HI.out.xc.cell 0 _ rfl
  have x1 := HI.out.xc.cell 1 _ rfl
  have x2 := HI.out.xc.cell 2 _ rfl
  have xf := fun i => HI.out.xc.ty.frozen i

  cases r with
  | nil =>
    have hp := HF.out.len
    simp only [List.length_nil, Nat.add_zero] at hp
    have d1 : decide ((ns.length : Int) ≤ (p : Int)) = true := by simp; omega
    have hno := Lib.hid (HF.out.no Head.nil)
    try simp only at g0 g1 g2
    go_wp2_with fail
    refine bodyPost_ret (v := .tuple #[scrV s A0 A1 A2 c0 c1 c2, .bool false]) ?_ rfl ?_
    · simp [results, Try.results34, go_sem, scrV, x0, x1, x2]
      try (first | (simp [hk, hk2]; done) | (simp [hk]; done))
    · exact ⟨below_set (below_set (below_set HI.out.bl (Nat.le_refl _)) (Nat.le_refl _)) (Nat.le_refl _), .inl ⟨⟨_, _, _, _, _, _, _, rfl⟩, hno.out⟩⟩

  | cons m r1 =>
    have hp := HF.out.len
    rw [List.length_cons] at hp
    have d1 : decide ((ns.length : Int) ≤ (p : Int)) = false := by simp; omega
    obtain ⟨ad, rfl⟩ : ∃ ad, A = some ad := by obtain ⟨ad, _, e, _⟩ := at_i64 (hS.out.below HI.out.bl) p (by omega); exact ⟨ad, e⟩
    have hcell := HF.out.cell (j := 0) (hS.out.below HI.out.bl) rfl
    rw [Nat.add_zero] at hcell
    by_cases h0 : m < 0
    · have d2 : decide (m < 0) = true := by simpa using h0
      have hno := Lib.hid (HF.out.no (Head.out (.inl h0)))
      try simp only at g0 g1 g2
      go_wp2_with fail
      refine bodyPost_ret (v := .tuple #[scrV s A0 A1 A2 c0 c1 c2, .bool false]) ?_ rfl ?_
      · simp [results, Try.results34, go_sem, scrV, x0, x1, x2]
        try (first | (simp [hk, hk2]; done) | (simp [hk]; done))
      · exact ⟨below_set (below_set (below_set HI.out.bl (Nat.le_refl _)) (Nat.le_refl _)) (Nat.le_refl _), .inl ⟨⟨_, _, _, _, _, _, _, rfl⟩, hno.out⟩⟩

    by_cases h1 : 65536 < m
    · have d2 : decide (m < 0) = false := by simpa using h0
      have d3 : decide (65536 < m) = true := by simpa using h1
      have hno := Lib.hid (HF.out.no (Head.out (.inr h1)))
      try simp only at g0 g1 g2
      go_wp2_with fail
      refine bodyPost_ret (v := .tuple #[scrV s A0 A1 A2 c0 c1 c2, .bool false]) ?_ rfl ?_
      · simp [results, Try.results34, go_sem, scrV, x0, x1, x2]
        try (first | (simp [hk, hk2]; done) | (simp [hk]; done))
      · exact ⟨below_set (below_set (below_set HI.out.bl (Nat.le_refl _)) (Nat.le_refl _)) (Nat.le_refl _), .inl ⟨⟨_, _, _, _, _, _, _, rfl⟩, hno.out⟩⟩

    have d2 : decide (m < 0) = false := by simpa using h0
    have d3 : decide (65536 < m) = false := by simpa using h1
    obtain ⟨m, rfl⟩ : ∃ k : Nat, m = (k : Int) := ⟨m.toNat, by omega⟩
    have hm : m ≤ 65536 := by omega
    clear g0 g1 g2 gS x0 x1 x2 xf
    go_wp2_with fail
    clear hcell d1 d2 d3 h0 h1
    go_loopw [5, 8] (fun i j w2 => ∃ (p2 : Nat) (xs : List (List Cl)) (r2 : List Int), i = .int .i64 p2 ∧ j = .int .i64 xs.length ∧ xs.length ≤ m ∧ PartAt (pre1 s ++ [(m : Int)] ++ xs.flatMap rowN) (ManyH H2 (m - xs.length)) ns p2 r2 ∧ (∀ l ∈ xs, l.length ≤ 65536) ∧ ShInv w (w.heap.size + 1) s.objs xs [] w2) (fun _ j _ => m - (intOf j).toNat)
    case atStart =>
      refine ⟨p + 1, [], r1, by go_num, rfl, Nat.zero_le _, ?_, by simp, by have := HI.out; rw [hk, hk2] at this; exact this⟩
      have := PartAt.more (x := [(m : Int)]) (r' := r1) (p' := p + 1) (H' := ManyH H2 m) HF.out rfl rfl Head.tail
      simpa using this
    case round =>
      clear HF HI hp
      obtain ⟨p, xs, r, rfl, rfl, hxm, hF, hrows, hI⟩ := hrel
      have HI := Lib.hid hI
      have hlx : lens ⟨s.objs, xs, []⟩ := ⟨hl.1, by show xs.length ≤ 65536; omega, by simp, hrows⟩
      by_cases hlt : xs.length < m
      · have dl : decide ((xs.length : Int) < (m : Int)) = true := by simp; omega
        have hM : m - xs.length = (m - (xs.length + 1)) + 1 := by omega
        rw [hM] at hF
        have HF : Hid (PartAt (pre1 s ++ [(m : Int)] ++ xs.flatMap rowN) (Head (Many clN (ManyH H2 (m - (xs.length + 1))))) ns p r) := Lib.hid hF
        clear hF hI
        obtain ⟨A0, A1, A2, c0, c1, c2, g0, g1, g2, gS⟩ := ShInv.scr (s := ⟨s.objs, xs, []⟩) HI.out hlx
        have x0 := HI.out.xc.cell 0 _ rfl
        have x1 := HI.out.xc.cell 1 _ rfl
        have x2 := HI.out.xc.cell 2 _ rfl
        have xf := fun i => HI.out.xc.ty.frozen i
        cases r with
        | nil =>
          have hp := HF.out.len
          simp only [List.length_nil, Nat.add_zero] at hp
          have d1 : decide ((ns.length : Int) ≤ (p : Int)) = true := by simp; omega
          have hno := Lib.hid (HF.out.no Head.nil)
          try simp only at g0 g1 g2
          go_wp2_with fail
          refine bodyPost_ret (v := .tuple #[scrV ⟨s.objs, xs, []⟩ A0 A1 A2 c0 c1 c2, .bool false]) ?_ rfl ?_
          · simp [results, Try.results34, go_sem, scrV, x0, x1, x2]
            try (first | (simp [hk, hk2]; done) | (simp [hk]; done))
          · exact ⟨below_set (below_set (below_set HI.out.bl (Nat.le_refl _)) (Nat.le_refl _)) (Nat.le_refl _), .inl ⟨⟨_, _, _, _, _, _, _, rfl⟩, hno.out⟩⟩

        | cons q r1 =>
          have hp := HF.out.len
          rw [List.length_cons] at hp
          have d1 : decide ((ns.length : Int) ≤ (p : Int)) = false := by simp; omega
          have hcell := HF.out.cell (j := 0) (hS.out.below HI.out.bl) rfl
          rw [Nat.add_zero] at hcell
          by_cases h0 : q < 0
          · have d2 : decide (q < 0) = true := by simpa using h0
            have hno := Lib.hid (HF.out.no (Head.out (.inl h0)))
            try simp only at g0 g1 g2
            go_wp2_with fail
            refine bodyPost_ret (v := .tuple #[scrV ⟨s.objs, xs, []⟩ A0 A1 A2 c0 c1 c2, .bool false]) ?_ rfl ?_
            · simp [results, Try.results34, go_sem, scrV, x0, x1, x2]
              try (first | (simp [hk, hk2]; done) | (simp [hk]; done))
            · exact ⟨below_set (below_set (below_set HI.out.bl (Nat.le_refl _)) (Nat.le_refl _)) (Nat.le_refl _), .inl ⟨⟨_, _, _, _, _, _, _, rfl⟩, hno.out⟩⟩

          by_cases h1 : 65536 < q
          · have d2 : decide (q < 0) = false := by simpa using h0
            have d3 : decide (65536 < q) = true := by simpa using h1
            have hno := Lib.hid (HF.out.no (Head.out (.inr h1)))
            try simp only at g0 g1 g2
            go_wp2_with fail
            refine bodyPost_ret (v := .tuple #[scrV ⟨s.objs, xs, []⟩ A0 A1 A2 c0 c1 c2, .bool false]) ?_ rfl ?_
            · simp [results, Try.results34, go_sem, scrV, x0, x1, x2]
              try (first | (simp [hk, hk2]; done) | (simp [hk]; done))
            · exact ⟨below_set (below_set (below_set HI.out.bl (Nat.le_refl _)) (Nat.le_refl _)) (Nat.le_refl _), .inl ⟨⟨_, _, _, _, _, _, _, rfl⟩, hno.out⟩⟩

          have d2 : decide (q < 0) = false := by simpa using h0
          have d3 : decide (65536 < q) = false := by simpa using h1
          obtain ⟨q, rfl⟩ : ∃ k : Nat, q = (k : Int) := ⟨q.toNat, by omega⟩
          have hq : q ≤ 65536 := by omega
          have hB0 := HI.out.bl
          clear g0 g1 g2 gS x0 x1 x2 xf
          go_wp2_with fail
          clear hcell d1 d2 d3 h0 h1
          obtain ⟨wo, rfl⟩ : ∃ wo : World, wo = wr := ⟨_, rfl⟩
          go_loopw [5, 10, 11] (fun i v j w3 => ∃ (p3 : Nat) (ys : List Cl) (r3 : List Int), i = .int .i64 p3 ∧ j = .int .i64 ys.length ∧ ys.length ≤ q ∧ PartAt ((pre1 s ++ [(m : Int)] ++ xs.flatMap rowN) ++ [(q : Int)] ++ ys.flatMap clN) (Many clN (ManyH H2 (m - (xs.length + 1))) (q - ys.length)) ns p3 r3 ∧ w3.ownsRow wo.heap.size 54 5 v ys.length (ys.flatMap Cl.enc) ∧ Below wo.heap.size wo w3) (fun _ _ j _ => q - (intOf j).toNat)
          case atStart =>
            refine ⟨p + 1, [], r1, by go_num, rfl, Nat.zero_le _, ?_, World.ownsRow_nil _ _ _ _, Below.refl _ _⟩
            have := PartAt.more (x := [(q : Int)]) (r' := r1) (p' := p + 1) (H' := Many clN (ManyH H2 (m - (xs.length + 1))) q) HF.out rfl rfl Head.tail
            simpa using this
          case round =>
            clear HF hp
            obtain ⟨p, ys, r, rfl, rfl, hyq, hF, hO, hB⟩ := hrel
            have HF := Lib.hid hF
            have HO := Lib.hid hO
            have HB := Lib.hid hB
            have hp := hF.len
            have HIr := Lib.hid (HI.out.below hB)
            have zB := hB.size
            clear hF hO hB
            obtain ⟨A0, A1, A2, c0, c1, c2, g0, g1, g2, gS⟩ := ShInv.scr (s := ⟨s.objs, xs, []⟩) HIr.out hlx
            have x0 := HIr.out.xc.cell 0 _ rfl
            have x1 := HIr.out.xc.cell 1 _ rfl
            have x2 := HIr.out.xc.cell 2 _ rfl
            have xf := fun i => HIr.out.xc.ty.frozen i

            by_cases hlq : ys.length < q
            · have dl : decide ((ys.length : Int) < (q : Int)) = true := by simp; omega
              have hM : q - ys.length = (q - (ys.length + 1)) + 1 := by omega
              rw [hM] at HF
              by_cases h3 : r.length < 5
              · have d1 : decide ((ns.length : Int) < (p : Int) + 5) = true := by simp; omega
                have hno := Lib.hid (HF.out.no (fun hh => by have := cl_short hh; obtain ⟨a, b, d, e, f, r3, e1, _⟩ := this; rw [e1] at h3; simp at h3; omega))
                try simp only at g0 g1 g2
                go_wp2_with fail
                refine bodyPost_ret (v := .tuple #[scrV ⟨s.objs, xs, []⟩ A0 A1 A2 c0 c1 c2, .bool false]) ?_ rfl ?_
                · simp [results, Try.results34, go_sem, scrV, x0, x1, x2]
                  try (first | (simp [hk, hk2]; done) | (simp [hk]; done))
                · exact ⟨below_set (below_set (below_set HIr.out.bl (Nat.le_refl _)) (Nat.le_refl _)) (Nat.le_refl _), .inl ⟨⟨_, _, _, _, _, _, _, rfl⟩, hno.out⟩⟩

              obtain ⟨a, b, d, e, f, r3, rfl⟩ : ∃ a b d e f r3, r = a :: b :: d :: e :: f :: r3 := by
                match r, h3 with
                | a :: b :: d :: e :: f :: r3, _ => exact ⟨a, b, d, e, f, r3, rfl⟩
                | [], h3 => exact absurd (by decide) h3
                | [_], h3 => exact absurd (by simp) h3
                | [_, _], h3 => exact absurd (by simp) h3
                | [_, _, _], h3 => exact absurd (by simp) h3
                | [_, _, _, _], h3 => exact absurd (by simp) h3
              have d1 : decide ((ns.length : Int) < (p : Int) + 5) = false := by simp only [List.length_cons] at hp; simp; omega
              simp only [List.length_cons] at hp
              have e4 := HF.out.cell' (j := 3) (hS.out.below HIr.out.bl) rfl
              by_cases hb : f = 0 ∨ f = 1
              · rcases hb with rfl | rfl
                · go_wp2_with fail
                  have lt0 : p < ns.length := by omega
                  have lt1 : p + 1 < ns.length := by omega
                  have hw1 : IntKind.i64.wrap ((p : Int) + 1) = ((p + 1 : Nat) : Int) := by rw [IntKind.wrap_i64]; omega
                  have wn1 : ((p : Int) + 1).toNat = p + 1 := by omega
                  have lt2 : p + 2 < ns.length := by omega
                  have hw2 : IntKind.i64.wrap ((p : Int) + 2) = ((p + 2 : Nat) : Int) := by rw [IntKind.wrap_i64]; omega
                  have wn2 : ((p : Int) + 2).toNat = p + 2 := by omega
                  have lt3 : p + 3 < ns.length := by omega
                  have hw3 : IntKind.i64.wrap ((p : Int) + 3) = ((p + 3 : Nat) : Int) := by rw [IntKind.wrap_i64]; omega
                  have wn3 : ((p : Int) + 3).toNat = p + 3 := by omega
                  have lt4 : p + 4 < ns.length := by omega
                  have hw4 : IntKind.i64.wrap ((p : Int) + 4) = ((p + 4 : Nat) : Int) := by rw [IntKind.wrap_i64]; omega
                  have wn4 : ((p : Int) + 4).toNat = p + 4 := by omega

                  have bZ : Below w.heap.size w wr.drew := HIr.out.bl.trans (by (repeat (with_reducible first | exact Below.refl _ _ | assumption | apply below_alloc | apply below_drewN | apply below_drew1 | (refine below_set ?_ (by simp only [alloc_size]; omega)) | (refine below_step ?_ (by assumption)))))
                  have bW : Below wo.heap.size wo wr.drew := HB.out.trans (by (repeat (with_reducible first | exact Below.refl _ _ | assumption | apply below_alloc | apply below_drewN | apply below_drew1 | (refine below_set ?_ (by simp only [alloc_size]; omega)) | (refine below_step ?_ (by assumption)))))
                  have oD := Lib.hid (own_below HO.out (show Below wr.heap.size wr wr.drew by (repeat (with_reducible first | exact Below.refl _ _ | assumption | apply below_alloc | apply below_drewN | apply below_drew1 | (refine below_set ?_ (by simp only [alloc_size]; omega)) | (refine below_step ?_ (by assumption))))))
                  clear g0 g1 g2 gS x0 x1 x2 xf e4
                  refine Mix.region [0, 1, 2, 3, 4, 5, 6, 7, 8, 9, 10, 11, 12, 13, 14, 15, 16, 17, 18, 19, 20, 21, 22, 23, 24, 25, 26] [27, 28, 29] 1 (fun w' => Below w.heap.size w w') (by kernel_rfl) (by kernel_rfl) bZ ?_
                  repeat (apply Mix.step; (· rfl); (· intro w' hR V hV; have e0 := HF.out.cell (j := 0) (hS.out.below hR) rfl; have e1 := HF.out.cell' (j := 0) (hS.out.below hR) rfl; have f1 := HF.out.cell (j := 1) (hS.out.below hR) rfl; have e2 := HF.out.cell' (j := 1) (hS.out.below hR) rfl; have f2 := HF.out.cell (j := 2) (hS.out.below hR) rfl; have e3 := HF.out.cell' (j := 2) (hS.out.below hR) rfl; have f3 := HF.out.cell (j := 3) (hS.out.below hR) rfl; have e4 := HF.out.cell' (j := 3) (hS.out.below hR) rfl; have f4 := HF.out.cell (j := 4) (hS.out.below hR) rfl; rw [Nat.add_zero] at e0; go_simp; first | exact hV | (rw [if_pos ⟨by omega, by omega⟩]; exact ⟨rfl, hV⟩) | (trace_state; fail)); intro K hK; go_simp; refine hK _ ?_; clear hK K)
                  refine Mix.nil ?_
                  simp only [Mix.Tail, Mix.pick, List.getElem?_cons_succ, List.getElem?_cons_zero]
                  go_wp2_with fail
                  refine ⟨below_alloc bZ _, ?_⟩
                  go_wp2_with (first | (at_builtin; go_loud (refine wpList_append_uni rfl _ _ 49 rfl wo.heap.size 54 i3 _ 5 40 hu3 hi3 hz3 hs3 hbb3 rfl (by decide) _ _ _ rfl (oD.out.alloc _) _ 1 (Cl.enc ⟨a, b, d, e, false⟩) rfl rfl (cl_src (alloc_heap_at _ _)) (by unfold maxLen; omega) (by omega) (by simp only [World.size_drew, alloc_size]; omega) ?_)) | fail)
                  intro A5 c5 w5 o5 g6 h5
                  have g5 : ((wr.drew).alloc (.cells (Cl.enc ⟨a, b, d, e, false⟩).toArray 54)).grownBy w5 _ := g6
                  clear g6
                  have bl5 := Lib.hid (below_grown (below_alloc bW _) g5 (by simp only [World.size_drew, alloc_size]; omega) (fun j hj => own_base HO.out j hj))
                  have O5 := Lib.hid o5
                  clear o5 g5 h5
                  go_wp2_with fail
                  refine Mix.calm_end ?_
                  go_wp2_with fail
                  go_roundw
                  case rel =>
                    refine ⟨p + 5, ys ++ [⟨a, b, d, e, false⟩], r3, by go_num, by simp, by simp; omega, ?_, ?_, bl5.out⟩
                    · have := HF.out.more (x := clN ⟨a, b, d, e, false⟩) (r' := r3) (p' := p + 5) (H' := Many clN (ManyH H2 (m - (xs.length + 1))) (q - (ys.length + 1))) (by rfl) (by simp [clN]) cl_step
                      simpa [List.flatMap_append] using this
                    · have := O5.out
                      simpa using this
                  case measure => simp [intOf]; omega
                · go_wp2_with fail
                  have lt0 : p < ns.length := by omega
                  have lt1 : p + 1 < ns.length := by omega
                  have hw1 : IntKind.i64.wrap ((p : Int) + 1) = ((p + 1 : Nat) : Int) := by rw [IntKind.wrap_i64]; omega
                  have wn1 : ((p : Int) + 1).toNat = p + 1 := by omega
                  have lt2 : p + 2 < ns.length := by omega
                  have hw2 : IntKind.i64.wrap ((p : Int) + 2) = ((p + 2 : Nat) : Int) := by rw [IntKind.wrap_i64]; omega
                  have wn2 : ((p : Int) + 2).toNat = p + 2 := by omega
                  have lt3 : p + 3 < ns.length := by omega
                  have hw3 : IntKind.i64.wrap ((p : Int) + 3) = ((p + 3 : Nat) : Int) := by rw [IntKind.wrap_i64]; omega
                  have wn3 : ((p : Int) + 3).toNat = p + 3 := by omega
                  have lt4 : p + 4 < ns.length := by omega
                  have hw4 : IntKind.i64.wrap ((p : Int) + 4) = ((p + 4 : Nat) : Int) := by rw [IntKind.wrap_i64]; omega
                  have wn4 : ((p : Int) + 4).toNat = p + 4 := by omega

                  have bZ : Below w.heap.size w wr.drew := HIr.out.bl.trans (by (repeat (with_reducible first | exact Below.refl _ _ | assumption | apply below_alloc | apply below_drewN | apply below_drew1 | (refine below_set ?_ (by simp only [alloc_size]; omega)) | (refine below_step ?_ (by assumption)))))
                  have bW : Below wo.heap.size wo wr.drew := HB.out.trans (by (repeat (with_reducible first | exact Below.refl _ _ | assumption | apply below_alloc | apply below_drewN | apply below_drew1 | (refine below_set ?_ (by simp only [alloc_size]; omega)) | (refine below_step ?_ (by assumption)))))
                  have oD := Lib.hid (own_below HO.out (show Below wr.heap.size wr wr.drew by (repeat (with_reducible first | exact Below.refl _ _ | assumption | apply below_alloc | apply below_drewN | apply below_drew1 | (refine below_set ?_ (by simp only [alloc_size]; omega)) | (refine below_step ?_ (by assumption))))))
                  clear g0 g1 g2 gS x0 x1 x2 xf e4
                  refine Mix.region [0, 1, 2, 3, 4, 5, 6, 7, 8, 9, 10, 11, 12, 13, 14, 15, 16, 17, 18, 19, 20, 21, 22, 23, 24, 25, 26] [27, 28, 29] 1 (fun w' => Below w.heap.size w w') (by kernel_rfl) (by kernel_rfl) bZ ?_
                  repeat (apply Mix.step; (· rfl); (· intro w' hR V hV; have e0 := HF.out.cell (j := 0) (hS.out.below hR) rfl; have e1 := HF.out.cell' (j := 0) (hS.out.below hR) rfl; have f1 := HF.out.cell (j := 1) (hS.out.below hR) rfl; have e2 := HF.out.cell' (j := 1) (hS.out.below hR) rfl; have f2 := HF.out.cell (j := 2) (hS.out.below hR) rfl; have e3 := HF.out.cell' (j := 2) (hS.out.below hR) rfl; have f3 := HF.out.cell (j := 3) (hS.out.below hR) rfl; have e4 := HF.out.cell' (j := 3) (hS.out.below hR) rfl; have f4 := HF.out.cell (j := 4) (hS.out.below hR) rfl; rw [Nat.add_zero] at e0; go_simp; first | exact hV | (rw [if_pos ⟨by omega, by omega⟩]; exact ⟨rfl, hV⟩) | (trace_state; fail)); intro K hK; go_simp; refine hK _ ?_; clear hK K)
                  refine Mix.nil ?_
                  simp only [Mix.Tail, Mix.pick, List.getElem?_cons_succ, List.getElem?_cons_zero]
                  go_wp2_with fail
                  refine ⟨below_alloc bZ _, ?_⟩
                  go_wp2_with (first | (at_builtin; go_loud (refine wpList_append_uni rfl _ _ 49 rfl wo.heap.size 54 i3 _ 5 40 hu3 hi3 hz3 hs3 hbb3 rfl (by decide) _ _ _ rfl (oD.out.alloc _) _ 1 (Cl.enc ⟨a, b, d, e, true⟩) rfl rfl (cl_src (alloc_heap_at _ _)) (by unfold maxLen; omega) (by omega) (by simp only [World.size_drew, alloc_size]; omega) ?_)) | fail)
                  intro A5 c5 w5 o5 g6 h5
                  have g5 : ((wr.drew).alloc (.cells (Cl.enc ⟨a, b, d, e, true⟩).toArray 54)).grownBy w5 _ := g6
                  clear g6
                  have bl5 := Lib.hid (below_grown (below_alloc bW _) g5 (by simp only [World.size_drew, alloc_size]; omega) (fun j hj => own_base HO.out j hj))
                  have O5 := Lib.hid o5
                  clear o5 g5 h5
                  go_wp2_with fail
                  refine Mix.calm_end ?_
                  go_wp2_with fail
                  go_roundw
                  case rel =>
                    refine ⟨p + 5, ys ++ [⟨a, b, d, e, true⟩], r3, by go_num, by simp, by simp; omega, ?_, ?_, bl5.out⟩
                    · have := HF.out.more (x := clN ⟨a, b, d, e, true⟩) (r' := r3) (p' := p + 5) (H' := Many clN (ManyH H2 (m - (xs.length + 1))) (q - (ys.length + 1))) (by rfl) (by simp [clN]) cl_step
                      simpa [List.flatMap_append] using this
                    · have := O5.out
                      simpa using this
                  case measure => simp [intOf]; omega
              · have b1 : (f != 0) = true := by simp; omega
                have b2 : (f != 1) = true := by simp; omega
                have hno := Lib.hid (HF.out.no (fun hh => by obtain ⟨a', b', d', e', f', r', e1, hb'⟩ := cl_short hh; simp only [List.cons.injEq] at e1; rw [← e1.2.2.2.2.1] at hb'; exact hb hb'))
                try simp only at g0 g1 g2
                go_wp2_with fail
                refine bodyPost_ret (v := .tuple #[scrV ⟨s.objs, xs, []⟩ A0 A1 A2 c0 c1 c2, .bool false]) ?_ rfl ?_
                · simp [results, Try.results34, go_sem, scrV, x0, x1, x2]
                  try (first | (simp [hk, hk2]; done) | (simp [hk]; done))
                · exact ⟨below_set (below_set (below_set HIr.out.bl (Nat.le_refl _)) (Nat.le_refl _)) (Nat.le_refl _), .inl ⟨⟨_, _, _, _, _, _, _, rfl⟩, hno.out⟩⟩

            · obtain rfl : q = ys.length := by omega
              have dl : decide ((ys.length : Int) < (ys.length : Int)) = false := by simp
              have hQ : Hid (PartAt ((pre1 s ++ [(m : Int)] ++ xs.flatMap rowN) ++ rowN ys) (ManyH H2 (m - (xs.length + 1))) ns p r) := Lib.hid (by
                have := HF.out
                rw [Nat.sub_self] at this
                simpa [rowN, Many] using this)
              obtain ⟨v1, hs1', u1', o1', k1'⟩ := HIr.out.f1
              rw [u1'] at g1
              obtain rfl := Option.some.inj g1
              have O1 := Lib.hid o1'
              have U1 := Lib.hid u1'
              have K1 := Lib.hid k1'
              have zsb := HIr.out.sbT.lt
              have zw := hB0.size
              obtain ⟨A7, c7, rfl, hlc7, hC7⟩ := C_of_own (enc := Cl.enc) (hl := fun _ => rfl) (h1 := by intro x u hu; simp [Cl.enc] at hu; rcases hu with rfl | rfl | rfl | rfl | rfl <;> rfl) (h0 := by decide) (ok := OfT w.heap.size 54 wr) HO.out (fun k hk => ⟨Nat.le_trans zw (own_base HO.out k hk), own_ty HO.out hk⟩)
              have C7 := Lib.hid hC7
              clear HF gS x0 x1 x2 xf o1' k1' hC7
              go_wp2_with (first | (at_builtin; go_loud (refine wpList_append_uni rfl _ _ 23 rfl w.heap.size 49 i1 _ 1 24 hu1 hi1 hz1 hs1 hbb1 rfl (by decide) _ _ _ rfl (O1.out.alloc _) _ 1 [.slice A7 ys.length c7] rfl rfl (Src.of_block (alloc_heap_at _ _) (by intro u hu; rw [List.mem_singleton.1 hu]; rfl)) (by unfold maxLen; omega) (by omega) (by rw [alloc_size]; omega) ?_)) | fail)
              intro A5 c5 w5 o5 g5 h5
              have hq := HIr.out.sbA (i := 1) O1.out g5 (by decide) _ U1.out
              obtain ⟨q1, q2⟩ := hq
              have hfin := Lib.hid (HIr.out.push1 U1.out O1.out K1.out C7.out hlc7 o5 g5)
              clear o5 g5 h5
              go_wp2_with fail
              go_roundw
              case rel =>
                refine ⟨p, xs ++ [ys], r, rfl, by simp, by simp; omega, ?_, ?_, hfin.out⟩
                · rw [List.flatMap_append, ← List.append_assoc]
                  simpa using hQ.out
                · intro l hl'
                  rcases List.mem_append.1 hl' with h | h
                  · exact hrows l h
                  · rw [List.mem_singleton.1 h]; omega
              case measure => simp [intOf]; omega

      · obtain rfl : m = xs.length := by omega
        have dl : decide ((xs.length : Int) < (xs.length : Int)) = false := by simp
        have hQ : PartAt (pre2 ⟨s.objs, xs, []⟩) H2 ns p r := by
          have := hF
          rw [Nat.sub_self] at this
          exact this
        have HQ := Lib.hid hQ
        clear hF hQ
        go_wp2_with fail
        exact HRR.out p ⟨s.objs, xs, []⟩ r _ _ _ _ _ _ _ _ _ _ _ _ _ _ _ _ _ _ _ _ _ _ _ _ _ _ _ _ _ _ _ _ _ _ _ _ _ _ _ _ _ _ _ _ _ _ _ _ _ _ _ _ _ _ _ _ _ _ _ _ _ _ _ _ _ _ _ _ _ _ _ _ _ _ _ _ _ _ _ _ _ _ _ _ _ _ _ _ _ _ _ _ _ _ _ _ _ _ _ _ _ _ _ _ _ _ _ _ _ _ _ _ _ _ _ _ _ _ _ _ _ _ _ _ _ _ _ _ _ _ _ _ _ _ _ _ _ _ _ _ _ _ _ _ _ _ _ _ _ _ _ _ _ _ _ _ _ _ _ _ _ _ _ _ _ _ _ _ _ _ _ _ _ _ _ _ _ _ _ _ _ _ _ _ _ _ _ _ _ _ _ _ _ _ _ _ _ _ _ _ _ _ _ _ _ (show Part ns 2 ⟨s.objs, xs, []⟩ p r from ⟨rfl, hlx, HQ.out⟩) HI.out
end Go.Proofs.Ytikfkkinhipfjaa
