/- The walk of the reference's shape of layer 6, joined. -/
import Derived.Test.YtikfkkinhipfjaaShP0
import Derived.Test.YtikfkkinhipfjaaShP1
import Derived.Test.YtikfkkinhipfjaaShP2
namespace Go.Proofs.Ytikfkkinhipfjaa
open Go.RowKit Go.ChangeShapes
set_option linter.unusedVariables false
set_option linter.unusedSimpArgs false

set_option maxRecDepth 100000 in
set_option maxHeartbeats 25600000 in
theorem shape_calls {ok : Nat → Prop} (ns : List Int) (A : Option Addr) (c : Nat) (w : World) (h : kI64.C ok w A ns) (hc : ns.length ≤ c) (hl : ns.length ≤ 1000000) :
    Calls Try.prog 34 #[.slice A ns.length c] w fun e w' => Below w.heap.size w w' ∧ (((∃ s A0 A1 A2 c0 c1 c2, e = .returned (.tuple #[scrV s A0 A1 A2 c0 c1 c2, .bool false])) ∧ ¬ H0 ns) ∨
      (∃ s A0 A1 A2 c0 c1 c2, e = .returned (.tuple #[scrV s A0 A1 A2 c0 c1 c2, .bool true]) ∧ ns = scrN s ∧ lens s ∧ ScrAt (w.heap.size ≤ ·) w' s A0 A1 A2 c0 c1 c2)) := by
  obtain ⟨i0, hi0, hz0, hs0, hbb0⟩ := info_parts info_ob
  have hu0 : Try.prog.underlying 22 = some (.slice 48) := Try.underlying22
  obtain ⟨i1, hi1, hz1, hs1, hbb1⟩ := info_parts info_rows
  have hu1 : Try.prog.underlying 23 = some (.slice 49) := Try.underlying23
  obtain ⟨i2, hi2, hz2, hs2, hbb2⟩ := info_parts info_pk
  have hu2 : Try.prog.underlying 24 = some (.slice 56) := Try.underlying24
  obtain ⟨i3, hi3, hz3, hs3, hbb3⟩ := info_parts info_cl
  have hu3 : Try.prog.underlying 49 = some (.slice 54) := Try.underlying49
  have hh := Lib.hid h
  have hS := Lib.hid h.bound
  have hcl := h.len
  clear h
  go_enter Try.func34, Try.ntmps34
  go_wp2_with fail
  go_loopw [5, 6] (fun i q wr => ∃ (n p : Nat) (s : Scr) (r : List Int), n ≤ 3 ∧ i = .int .i64 p ∧ q = .int .i64 n ∧ Part ns n s p r ∧ ShInv w (w.heap.size + 1) s.objs s.progs s.picks wr) (fun _ q _ => 3 - (intOf q).toNat)
  case atStart => exact ⟨0, 0, ⟨[], [], []⟩, ns, by omega, rfl, rfl, ⟨rfl, ⟨rfl, rfl, id⟩⟩, sh_start w⟩
  case round =>
    obtain ⟨n, p, s, r, hn, rfl, rfl, hP, hI⟩ := hrel
    have HI := Lib.hid hI
    match n, hn with
    | 0, _ =>
      refine shape_part0 ns A c w hh.out hc hl wr p s r hP hI _ _ _ _ _ _ _ _ _ _ _ _ _ _ _ _ _ _ _ _ _ _ _ _ _ _ _ _ _ _ _ _ _ _ _ _ _ _ _ _ _ _ _ _ _ _ _ _ _ _ _ _ _ _ _ _ _ _ _ _ _ _ _ _ _ _ _ _ _ _ _ _ _ _ _ _ _ _ _ _ _ _ _ _ _ _ _ _ _ _ _ _ _ _ _ _ _ _ _ _ _ _ _ _ _ _ _ _ _ _ _ _ _ _ _ _ _ _ _ _ _ _ _ _ _ _ _ _ _ _ _ _ _ _ _ _ _ _ _ _ _ _ _ _ _ _ _ _ _ _ _ _ _ _ _ _ _ _ _ _ _ _ _ _ _ _ _ _ _ _ _ _ _ _ _ _ _ _ _ _ _ _ _ _ _ _ _ _ _ _ _ _ _ _ _ _ _ _ _ _ _ _ _ _ _ _ (fun p' s' r' w' v3 v7 v8 v9 v10 v11 v12 v13 v14 v15 v16 v17 v18 v19 v20 v21 v22 v23 v24 v25 v26 v27 v28 v29 v30 v31 v32 v33 v34 v35 v36 v37 v38 v39 v40 v41 v42 v43 v44 v45 v46 v47 v48 v49 v50 v51 v52 v53 v54 v55 v56 v57 v58 v59 v60 v61 v62 v63 v64 v65 v66 v67 v68 v69 v70 v71 v72 v73 v74 v75 v76 v77 v78 v79 v80 v81 v82 v83 v84 v85 v86 v87 v88 v89 v90 v91 v92 v93 v94 v95 v96 v97 v98 v99 v100 v101 v102 v103 v104 v105 v106 v107 v108 v109 v110 v111 v112 v113 v114 v115 v116 v117 v118 v119 v120 v121 v122 v123 v124 v125 v126 v127 v128 v129 v130 v131 v132 v133 v134 v135 v136 v137 v138 v139 v140 v141 v142 v143 v144 v145 v146 v147 v148 v149 v150 v151 v152 v153 v154 v155 v156 v157 v158 v159 v160 v161 v162 v163 v164 v165 v166 v167 v168 v169 v170 v171 v172 v173 v174 v175 v176 v177 v178 v179 v180 v181 v182 v183 v184 v185 v186 v187 v188 v189 v190 v191 v192 v193 v194 v195 v196 v197 v198 v199 v200 v201 v202 v203 v204 v205 v206 v207 v208 v209 hP' hI' => ?_)
      exact ⟨⟨v3, .int .i64 p', .int .i64 1, v7, v8, v9, v10, v11, v12, v13, v14, v15, v16, v17, v18, v19, v20, v21, v22, v23, v24, v25, v26, v27, v28, v29, v30, v31, v32, v33, v34, v35, v36, v37, v38, v39, v40, v41, v42, v43, v44, v45, v46, v47, v48, v49, v50, v51, v52, v53, v54, v55, v56, v57, v58, v59, v60, v61, v62, v63, v64, v65, v66, v67, v68, v69, v70, v71, v72, v73, v74, v75, v76, v77, v78, v79, v80, v81, v82, v83, v84, v85, v86, v87, v88, v89, v90, v91, v92, v93, v94, v95, v96, v97, v98, v99, v100, v101, v102, v103, v104, v105, v106, v107, v108, v109, v110, v111, v112, v113, v114, v115, v116, v117, v118, v119, v120, v121, v122, v123, v124, v125, v126, v127, v128, v129, v130, v131, v132, v133, v134, v135, v136, v137, v138, v139, v140, v141, v142, v143, v144, v145, v146, v147, v148, v149, v150, v151, v152, v153, v154, v155, v156, v157, v158, v159, v160, v161, v162, v163, v164, v165, v166, v167, v168, v169, v170, v171, v172, v173, v174, v175, v176, v177, v178, v179, v180, v181, v182, v183, v184, v185, v186, v187, v188, v189, v190, v191, v192, v193, v194, v195, v196, v197, v198, v199, v200, v201, v202, v203, v204, v205, v206, v207, v208, v209, ⟨1, p', s', r', by omega, rfl, rfl, hP', hI'⟩, rfl⟩, by simp [intOf]⟩
    | 1, _ =>
      refine shape_part1 ns A c w hh.out hc hl wr p s r hP hI _ _ _ _ _ _ _ _ _ _ _ _ _ _ _ _ _ _ _ _ _ _ _ _ _ _ _ _ _ _ _ _ _ _ _ _ _ _ _ _ _ _ _ _ _ _ _ _ _ _ _ _ _ _ _ _ _ _ _ _ _ _ _ _ _ _ _ _ _ _ _ _ _ _ _ _ _ _ _ _ _ _ _ _ _ _ _ _ _ _ _ _ _ _ _ _ _ _ _ _ _ _ _ _ _ _ _ _ _ _ _ _ _ _ _ _ _ _ _ _ _ _ _ _ _ _ _ _ _ _ _ _ _ _ _ _ _ _ _ _ _ _ _ _ _ _ _ _ _ _ _ _ _ _ _ _ _ _ _ _ _ _ _ _ _ _ _ _ _ _ _ _ _ _ _ _ _ _ _ _ _ _ _ _ _ _ _ _ _ _ _ _ _ _ _ _ _ _ _ _ _ _ _ _ _ _ (fun p' s' r' w' v3 v7 v8 v9 v10 v11 v12 v13 v14 v15 v16 v17 v18 v19 v20 v21 v22 v23 v24 v25 v26 v27 v28 v29 v30 v31 v32 v33 v34 v35 v36 v37 v38 v39 v40 v41 v42 v43 v44 v45 v46 v47 v48 v49 v50 v51 v52 v53 v54 v55 v56 v57 v58 v59 v60 v61 v62 v63 v64 v65 v66 v67 v68 v69 v70 v71 v72 v73 v74 v75 v76 v77 v78 v79 v80 v81 v82 v83 v84 v85 v86 v87 v88 v89 v90 v91 v92 v93 v94 v95 v96 v97 v98 v99 v100 v101 v102 v103 v104 v105 v106 v107 v108 v109 v110 v111 v112 v113 v114 v115 v116 v117 v118 v119 v120 v121 v122 v123 v124 v125 v126 v127 v128 v129 v130 v131 v132 v133 v134 v135 v136 v137 v138 v139 v140 v141 v142 v143 v144 v145 v146 v147 v148 v149 v150 v151 v152 v153 v154 v155 v156 v157 v158 v159 v160 v161 v162 v163 v164 v165 v166 v167 v168 v169 v170 v171 v172 v173 v174 v175 v176 v177 v178 v179 v180 v181 v182 v183 v184 v185 v186 v187 v188 v189 v190 v191 v192 v193 v194 v195 v196 v197 v198 v199 v200 v201 v202 v203 v204 v205 v206 v207 v208 v209 hP' hI' => ?_)
      exact ⟨⟨v3, .int .i64 p', .int .i64 2, v7, v8, v9, v10, v11, v12, v13, v14, v15, v16, v17, v18, v19, v20, v21, v22, v23, v24, v25, v26, v27, v28, v29, v30, v31, v32, v33, v34, v35, v36, v37, v38, v39, v40, v41, v42, v43, v44, v45, v46, v47, v48, v49, v50, v51, v52, v53, v54, v55, v56, v57, v58, v59, v60, v61, v62, v63, v64, v65, v66, v67, v68, v69, v70, v71, v72, v73, v74, v75, v76, v77, v78, v79, v80, v81, v82, v83, v84, v85, v86, v87, v88, v89, v90, v91, v92, v93, v94, v95, v96, v97, v98, v99, v100, v101, v102, v103, v104, v105, v106, v107, v108, v109, v110, v111, v112, v113, v114, v115, v116, v117, v118, v119, v120, v121, v122, v123, v124, v125, v126, v127, v128, v129, v130, v131, v132, v133, v134, v135, v136, v137, v138, v139, v140, v141, v142, v143, v144, v145, v146, v147, v148, v149, v150, v151, v152, v153, v154, v155, v156, v157, v158, v159, v160, v161, v162, v163, v164, v165, v166, v167, v168, v169, v170, v171, v172, v173, v174, v175, v176, v177, v178, v179, v180, v181, v182, v183, v184, v185, v186, v187, v188, v189, v190, v191, v192, v193, v194, v195, v196, v197, v198, v199, v200, v201, v202, v203, v204, v205, v206, v207, v208, v209, ⟨2, p', s', r', by omega, rfl, rfl, hP', hI'⟩, rfl⟩, by simp [intOf]⟩
    | 2, _ =>
      refine shape_part2 ns A c w hh.out hc hl wr p s r hP hI _ _ _ _ _ _ _ _ _ _ _ _ _ _ _ _ _ _ _ _ _ _ _ _ _ _ _ _ _ _ _ _ _ _ _ _ _ _ _ _ _ _ _ _ _ _ _ _ _ _ _ _ _ _ _ _ _ _ _ _ _ _ _ _ _ _ _ _ _ _ _ _ _ _ _ _ _ _ _ _ _ _ _ _ _ _ _ _ _ _ _ _ _ _ _ _ _ _ _ _ _ _ _ _ _ _ _ _ _ _ _ _ _ _ _ _ _ _ _ _ _ _ _ _ _ _ _ _ _ _ _ _ _ _ _ _ _ _ _ _ _ _ _ _ _ _ _ _ _ _ _ _ _ _ _ _ _ _ _ _ _ _ _ _ _ _ _ _ _ _ _ _ _ _ _ _ _ _ _ _ _ _ _ _ _ _ _ _ _ _ _ _ _ _ _ _ _ _ _ _ _ _ _ _ _ _ (fun p' s' r' w' v3 v7 v8 v9 v10 v11 v12 v13 v14 v15 v16 v17 v18 v19 v20 v21 v22 v23 v24 v25 v26 v27 v28 v29 v30 v31 v32 v33 v34 v35 v36 v37 v38 v39 v40 v41 v42 v43 v44 v45 v46 v47 v48 v49 v50 v51 v52 v53 v54 v55 v56 v57 v58 v59 v60 v61 v62 v63 v64 v65 v66 v67 v68 v69 v70 v71 v72 v73 v74 v75 v76 v77 v78 v79 v80 v81 v82 v83 v84 v85 v86 v87 v88 v89 v90 v91 v92 v93 v94 v95 v96 v97 v98 v99 v100 v101 v102 v103 v104 v105 v106 v107 v108 v109 v110 v111 v112 v113 v114 v115 v116 v117 v118 v119 v120 v121 v122 v123 v124 v125 v126 v127 v128 v129 v130 v131 v132 v133 v134 v135 v136 v137 v138 v139 v140 v141 v142 v143 v144 v145 v146 v147 v148 v149 v150 v151 v152 v153 v154 v155 v156 v157 v158 v159 v160 v161 v162 v163 v164 v165 v166 v167 v168 v169 v170 v171 v172 v173 v174 v175 v176 v177 v178 v179 v180 v181 v182 v183 v184 v185 v186 v187 v188 v189 v190 v191 v192 v193 v194 v195 v196 v197 v198 v199 v200 v201 v202 v203 v204 v205 v206 v207 v208 v209 hP' hI' => ?_)
      exact ⟨⟨v3, .int .i64 p', .int .i64 3, v7, v8, v9, v10, v11, v12, v13, v14, v15, v16, v17, v18, v19, v20, v21, v22, v23, v24, v25, v26, v27, v28, v29, v30, v31, v32, v33, v34, v35, v36, v37, v38, v39, v40, v41, v42, v43, v44, v45, v46, v47, v48, v49, v50, v51, v52, v53, v54, v55, v56, v57, v58, v59, v60, v61, v62, v63, v64, v65, v66, v67, v68, v69, v70, v71, v72, v73, v74, v75, v76, v77, v78, v79, v80, v81, v82, v83, v84, v85, v86, v87, v88, v89, v90, v91, v92, v93, v94, v95, v96, v97, v98, v99, v100, v101, v102, v103, v104, v105, v106, v107, v108, v109, v110, v111, v112, v113, v114, v115, v116, v117, v118, v119, v120, v121, v122, v123, v124, v125, v126, v127, v128, v129, v130, v131, v132, v133, v134, v135, v136, v137, v138, v139, v140, v141, v142, v143, v144, v145, v146, v147, v148, v149, v150, v151, v152, v153, v154, v155, v156, v157, v158, v159, v160, v161, v162, v163, v164, v165, v166, v167, v168, v169, v170, v171, v172, v173, v174, v175, v176, v177, v178, v179, v180, v181, v182, v183, v184, v185, v186, v187, v188, v189, v190, v191, v192, v193, v194, v195, v196, v197, v198, v199, v200, v201, v202, v203, v204, v205, v206, v207, v208, v209, ⟨3, p', s', r', by omega, rfl, rfl, hP', hI'⟩, rfl⟩, by simp [intOf]⟩
    | 3, _ =>
      obtain ⟨hl, hF⟩ := hP
      have HF := Lib.hid hF
      have hp := hF.len
      clear hF hI

      obtain ⟨A0, A1, A2, c0, c1, c2, g0, g1, g2, gS⟩ := ShInv.scr (s := s) HI.out hl
      have x0 := HI.out.xc.cell 0 _ rfl
      have x1 := HI.out.xc.cell 1 _ rfl
      have x2 := HI.out.xc.cell 2 _ rfl
      have xf := fun i => HI.out.xc.ty.frozen i

      have zo := gS.o.len
      have zp := gS.p.len
      have zk := gS.k.len
      have GS := Lib.hid gS
      clear gS
      cases r with
      | cons m r1 =>
        have d1 : ((p : Int) == (ns.length : Int)) = false := by simp only [List.length_cons] at hp; simp; omega
        have hno := Lib.hid (HF.out.no (fun hh => by cases hh))
        try simp only at g0 g1 g2
        go_wp2_with fail
        refine bodyPost_ret (v := .tuple #[scrV s A0 A1 A2 c0 c1 c2, .bool false]) ?_ rfl ?_
        · simp [results, Try.results34, go_sem, scrV, x0, x1, x2]
          try (first | (simp [hk, hk2]; done) | (simp [hk]; done))
        · exact ⟨below_set (below_set (below_set HI.out.bl (Nat.le_refl _)) (Nat.le_refl _)) (Nat.le_refl _), .inl ⟨⟨_, _, _, _, _, _, _, rfl⟩, hno.out⟩⟩

      | nil =>
        have d1 : ((p : Int) == (ns.length : Int)) = true := by simp only [List.length_nil] at hp; simp; omega
        have hE : Hid (ns = scrN s) := Lib.hid (by have := HF.out.e; rw [List.append_nil, pre3_eq] at this; exact this)
        go_wp2_with fail
        refine bodyPost_ret (v := .tuple #[scrV s A0 A1 A2 c0 c1 c2, .bool true]) ?_ rfl ?_
        · simp [results, Try.results34, go_sem, scrV, x0, x1, x2]
        · refine ⟨below_set (below_set (below_set HI.out.bl (Nat.le_refl _)) (Nat.le_refl _)) (Nat.le_refl _), .inr ⟨s, A0, A1, A2, c0, c1, c2, rfl, hE.out, hl, ?_⟩⟩
          have hO : Only (· = w.heap.size) wr (((wr.setCell ⟨w.heap.size, 0, none⟩ (.slice A0 s.objs.length c0)).setCell ⟨w.heap.size, 1, none⟩ (.slice A1 s.progs.length c1)).setCell ⟨w.heap.size, 2, none⟩ (.slice A2 s.picks.length c2)) :=
            (((Only.refl (· = w.heap.size) wr).set (p := ⟨w.heap.size, 0, none⟩) (.inl rfl) _).set (p := ⟨w.heap.size, 1, none⟩) (.inl rfl) _).set (p := ⟨w.heap.size, 2, none⟩) (.inl rfl) _
          exact (GS.out.only hO (fun k hk e => hk.2 e)).mono (fun k hk => hk.1)
end Go.Proofs.Ytikfkkinhipfjaa
