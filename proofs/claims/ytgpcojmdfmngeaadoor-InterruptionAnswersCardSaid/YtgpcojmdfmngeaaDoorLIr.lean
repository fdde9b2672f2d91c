/-
  The law InterruptionAnswers, walked: the loops over networks, states and changes, and the end.
-/
import Derived.Test.YtgpcojmdfmngeaaDoorLIa
import Derived.Test.YtgpcojmdfmngeaaDoorAns
import Derived.Test.YtgpcojmdfmngeaaDoorNar
import Derived.Test.YtgpcojmdfmngeaaDoorMkf
import Derived.Test.YtgpcojmdfmngeaaDoorR22b
import Derived.Test.YtgpcojmdfmngeaaDoorR22c
import Derived.Test.YtgpcojmdfmngeaaDoorR22d
import Derived.Test.YtgpcojmdfmngeaaDoorRout
import Derived.Test.YtgpcojmdfmngeaaDoorGa
import Derived.Deep.CutBlock
namespace Go.Proofs.YtgpcojmdfmngeaaDoor
open Go.RowKit
set_option maxHeartbeats 400000
set_option maxRecDepth 100000

set_option maxHeartbeats 16000000 in
noncomputable def interRedB (w : World) (h : TabC w) (ht : Tab w) (A : Option Addr) (c : Nat) (xs : List Int) (hs : SI w (fun _ => True) A xs) (Aa : Option Addr) (ca : Nat) (la : List Int) (hsa : SI w (fun _ => True) Aa la)
    (R1 R2 : Option Addr) (d1 d2 : Nat) (rn : List Node) (rd : List Dev) (hr : NetIn w (fun _ => True) R1 R2 rn rd) (hr1 : rn.length ≤ maxLen) (hr2 : rd.length ≤ maxLen) (Ac : Option Addr) (cc : Nat) (chs : List Chg) (hsc : SV w (fun _ => True) Ac (recV chgV chs)) (hwc : ∀ x ∈ chs, x.t ≤ 9223372036854775807) (Ao : Option Addr) (co : Nat) (ous : List Out) (hso : SV w (fun _ => True) Ao (recV outV ous)) (til time lim : Int) (hf : xs.length ≤ 400) (h100 : la.length ≤ 100) (hli : lightB rn rd = true) (hc60 : chs.length ≤ 60) (ho60 : ous.length ≤ 60) :
    { Q : Prop // Hid Q → (interRed w h ht A c xs hs Aa ca la hsa R1 R2 d1 d2 rn rd hr hr1 hr2 Ac cc chs hsc hwc Ao co ous hso til time lim hf h100 hli hc60 ho60).1 } := by
  apply Subtype.mk
  case property =>
    intro hq
    unfold interRed
    dsimp only
    set_option tactic.hygienic false in intros
    go_loopg [130] 2 (fun g i wr => ∃ k : Nat, k + g = 2 ∧ i = .int .i64 k ∧ AS wb WM wr)
    case atStart => exact ⟨0, rfl, rfl, SM⟩
    case round =>
      clear SM
      obtain ⟨k, hk, rfl, S⟩ := hrel
      have Hk := Lib.hid hk
      clear hk
      obtain ⟨gkm, rfl⟩ : ∃ x : Nat, x = gk := ⟨_, rfl⟩
      by_cases hlt : k < 2
      · obtain ⟨B1, b1, bn, B2, b2, be, q0, q1, hnk, l1, l2⟩ := HX.out k hlt
        have c0 := (S.fr.cell hgxl hgx' (k * 2)).trans q0
        have c1' := (S.fr.cell hgxl hgx' (k * 2 + 1)).trans q1
        obtain ⟨Wr, rfl⟩ : ∃ x, x = wr := ⟨_, rfl⟩
        obtain ⟨WN, hWN⟩ : ∃ x, x = Wr.alloc (.cells #[.slice B1 bn.length b1, .slice B2 be.length b2] 26) := ⟨_, rfl⟩
        have hrowN : WN.heap[Wr.heap.size]? = some (.cells #[.slice B1 bn.length b1, .slice B2 be.length b2] 26 (0, 0)) := by rw [hWN]; exact heap_alloc_new Wr _
        have hbN : Below Wr.heap.size Wr WN := by rw [hWN]; exact (Below.refl _ _).alloc (Nat.le_refl _) _
        obtain ⟨WY, hWY⟩ : ∃ x, x = WN.alloc (.cells #[.slice As sl.length sc, .slice Aa la.length ca] 22) := ⟨_, rfl⟩
        have hrowY : WY.heap[WN.heap.size]? = some (.cells #[.slice As sl.length sc, .slice Aa la.length ca] 22 (0, 0)) := by rw [hWY]; exact heap_alloc_new WN _
        have hbY : Below WN.heap.size WN WY := by rw [hWY]; exact (Below.refl _ _).alloc (Nat.le_refl _) _
        have SN1 : AS wb WM WN := S.below hbN
        have SY1 : AS wb WM WY := SN1.below hbY
        have SY := AS.start SY1.deck SY1.bel
        have hgqb : Wr.heap.size ≠ wb.heap.size := by have := S.deck.lt; omega
        have hgyb : WN.heap.size ≠ wb.heap.size := by have := SN1.deck.lt; omega
        have hgqN : Wr.heap.size < WN.heap.size := (Array.getElem?_eq_some_iff.1 hrowN).1
        have hgyl : WN.heap.size < WY.heap.size := (Array.getElem?_eq_some_iff.1 hrowY).1
        have hgql : Wr.heap.size < WY.heap.size := by omega
        have hnY := SY1.oldn22 hnk
        have slY := SY1.oldi22 slM
        have laY := SY1.oldi22 laM
        have glY := SY1.oldv22 glM
        have blY := SY1.oldv22 blM
        have chY := SY1.oldv22 chM
        have x0 : WY.cell? ⟨Wr.heap.size, 0, none⟩ = some (.slice B1 bn.length b1) := by rw [cell_of_row WY _ 0 _ _ _ ((hbY.block _ hgqN).trans hrowN)]; rfl
        have x1 : WY.cell? ⟨Wr.heap.size, 1, none⟩ = some (.slice B2 be.length b2) := by rw [cell_of_row WY _ 1 _ _ _ ((hbY.block _ hgqN).trans hrowN)]; rfl
        have HWN := Lib.hid hWN
        have HWY := Lib.hid hWY
        obtain ⟨gq, hgq⟩ : ∃ x, x = Wr.heap.size := ⟨_, rfl⟩
        rw [← hgq] at hgqb hgql x0 x1
        have Hgq := Lib.hid hgq
        obtain ⟨gy, hgy⟩ : ∃ x, x = WN.heap.size := ⟨_, rfl⟩
        rw [← hgy] at hrowY hgyb hgyl
        have Hgy := Lib.hid hgy
        have X0 := Lib.hid x0
        have X1 := Lib.hid x1
        have HY : Hid (∀ i, i < 2 → ∃ (Y : Option Addr) (yc : Nat) (yl : List Int), WY.cell? ⟨gy, i, none⟩ = some (.slice Y yl.length yc) ∧ SI WY (Old wb WY) Y yl ∧ yl.length ≤ 200) := Lib.hid (by
          intro i hi
          have hi2 : i = 0 ∨ i = 1 := by omega
          rcases hi2 with rfl | rfl
          · exact ⟨As, sc, sl, by rw [cell_of_row WY _ _ _ _ _ hrowY]; rfl, slY, by omega⟩
          · exact ⟨Aa, ca, la, by rw [cell_of_row WY _ _ _ _ _ hrowY]; rfl, laY, by omega⟩)
        clear q0 q1 hnk hrowN hrowY hgq hgy hWN hWY S hbN hbY SN1 hgqN x0 x1 slY laY
        go_upto_region 19 with (fail)
        rw [← HWN.out, ← Hgq.out]
        clear c0 c1'
        go_wp2_with (fail)
        rw [← HWY.out, ← Hgy.out]
        clear HWN HWY Hgq Hgy
        go_loopg [138] 2 (fun g i wr => ∃ i2 : Nat, i2 + g = 2 ∧ i = .int .i64 i2 ∧ AS wb WY wr)
        case atStart => exact ⟨0, rfl, rfl, SY⟩
        case round =>
          clear SY
          obtain ⟨i2, hi, rfl, S⟩ := hrel
          have Hi := Lib.hid hi
          clear hi
          obtain ⟨gk2, rfl⟩ : ∃ x : Nat, x = gk := ⟨_, rfl⟩
          by_cases hlt2 : i2 < 2
          · obtain ⟨Y, yc, yl, q0, sy, hyl⟩ := HY.out i2 hlt2
            have c0 := (S.fr.cell hgyl hgyb i2).trans q0
            obtain ⟨Wq, rfl⟩ : ∃ x, x = wr := ⟨_, rfl⟩
            obtain ⟨WQ, hWQ⟩ : ∃ x, x = Wq.alloc (.cells #[.slice Ag gl.length gc, .slice A9 gl.length c9, .slice Ac chs.length cc] 82) := ⟨_, rfl⟩
            have hrowQ : WQ.heap[Wq.heap.size]? = some (.cells #[.slice Ag gl.length gc, .slice A9 gl.length c9, .slice Ac chs.length cc] 82 (0, 0)) := by rw [hWQ]; exact heap_alloc_new Wq _
            have SQ1 : AS wb WY WQ := by rw [hWQ]; exact S.below ((Below.refl _ _).alloc (Nat.le_refl _) _)
            have SQ := AS.start SQ1.deck SQ1.bel
            have hgzb : Wq.heap.size ≠ wb.heap.size := by have := S.deck.lt; omega
            have hgzl : Wq.heap.size < WQ.heap.size := (Array.getElem?_eq_some_iff.1 hrowQ).1
            have hnQ := SQ1.oldn22 hnY
            have syQ := SQ1.oldi22 sy
            have glQ := SQ1.oldv22 glY
            have blQ := SQ1.oldv22 blY
            have chQ := SQ1.oldv22 chY
            have hgqQ : gq < WQ.heap.size := by have := SQ1.size; omega
            have Y0 := Lib.hid ((SQ1.fr.cell hgql hgqb 0).trans X0.out)
            have Y1 := Lib.hid ((SQ1.fr.cell hgql hgqb 1).trans X1.out)
            have HWQ := Lib.hid hWQ
            obtain ⟨gz, hgz⟩ : ∃ x, x = Wq.heap.size := ⟨_, rfl⟩
            rw [← hgz] at hrowQ hgzb hgzl
            have Hgz := Lib.hid hgz
            have HZ : Hid (∀ i, i < 3 → ∃ (Zz : Option Addr) (zc : Nat) (zl : List Chg), WQ.cell? ⟨gz, i, none⟩ = some (.slice Zz zl.length zc) ∧ SV WQ (Old wb WQ) Zz (recV chgV zl) ∧ zl.length ≤ 60 ∧ ∀ x ∈ zl, x.t ≤ 9223372036854775807) := Lib.hid (by
              intro i hi
              have hi3 : i = 0 ∨ i = 1 ∨ i = 2 := by omega
              rcases hi3 with rfl | rfl | rfl
              · exact ⟨Ag, gc, gl, by rw [cell_of_row WQ _ _ _ _ _ hrowQ]; rfl, glQ, by omega, HWg.out⟩
              · exact ⟨A9, c9, bl, by rw [Hbl.out, cell_of_row WQ _ _ _ _ _ hrowQ]; rfl, blQ, by omega, HWb.out⟩
              · exact ⟨Ac, cc, chs, by rw [cell_of_row WQ _ _ _ _ _ hrowQ]; rfl, chQ, hc60, hwc⟩)
            clear q0 sy hrowQ hgz hWQ S glQ blQ chQ
            go_wp2_with (fail)
            rw [← HWQ.out, ← Hgz.out]
            clear c0 HWQ Hgz
            go_loopg [147] 3 (fun g i wr => ∃ i3 : Nat, i3 + g = 3 ∧ i = .int .i64 i3 ∧ AS wb WQ wr)
            case atStart => exact ⟨0, rfl, rfl, SQ⟩
            case round =>
              clear SQ
              obtain ⟨i3, hi3, rfl, E0⟩ := hrel
              have Hi3 := Lib.hid hi3
              clear hi3
              obtain ⟨gk3, rfl⟩ : ∃ x : Nat, x = gk := ⟨_, rfl⟩
              by_cases hlt3 : i3 < 3
              · obtain ⟨Zz, zc, zl, q0, sz, hzl, hzw⟩ := HZ.out i3 hlt3
                have c0 := (E0.fr.cell hgzl hgzb i3).trans q0
                obtain ⟨Z0, rfl⟩ : ∃ x, x = wr := ⟨_, rfl⟩
                clear q0
                go_upto_region 25 with (fail)
                clear c0
                rename_i bd1 bd2 bd3 bd4 bd5 bd6 bd7 bd8 bd9 bd10 bd11 bd12 bd13 bd14 bd15 bd16 bd17 bd18 bd19 bd20 bd21 bd22 bd23 bd24 bd25 bd26 bd27 bd28 bd29 bd30 bd31 bd32 bd33 bd34 bd35 bd36 bd37 bd38 bd39 bd40 bd41 bd42 bd43 bd44 bd45 bd46 bd47 bd48 bd49 bd50 bd51 bd52 bd53 bd54 bd55 bd56 bd57 bd58 bd59 bd60 bd61 bd62 bd63 bd64 bd65 bd66 bd67 bd68 bd69 bd70 bd71 bd72 bd73 bd74 bd75 bd76 bd77 bd78 bd79 bd80 bd81 bd82 bd83 bd84 bd85 bd86 bd87 bd88 bd89 bd90 bd91 bd92 bd93 bd94 bd95 bd96 bd97 bd98 bd99 bd100 bd101 bd102 bd103 bd104 bd105 bd106 bd107 bd108 bd109 bd110 bd111 bd112 bd113 bd114 bd115 bd116 bd117 bd118 bd119 bd120 bd121 bd122 bd123 bd124 bd125 bd126 bd127 bd128 bd129 bd130 bd131 bd132 bd133 bd134 bd135 bd136 bd137 bd138 bd139 bd140 bd141 bd142 bd143 bd144 bd145 bd146 bd147 bd148 bd149 bd150 bd151 bd152 bd153 bd154 bd155 bd156 bd157 bd158 bd159 bd160 bd161 bd162 bd163 bd164 bd165 bd166 bd167 bd168 bd169 bd170 bd171 bd172 bd173 bd174 bd175 bd176 bd177 bd178 bd179 bd180 bd181 bd182 bd183 bd184 bd185 bd186 bd187 bd188 bd189 bd190 bd191 bd192 bd193 bd194 bd195 bd196 bd197 bd198 bd199 bd200 bd201 bd202 bd203 bd204 bd205 bd206 bd207 bd208 bd209 bd210 bp211 bp212 bp213 bd214 bp215 bd216 bd217 bd218 bd219 bd220 bd221 bd222 bd223 bd224 bd225 bd226 bd227 bd228 bd229 bd230 bd231 bd232 bd233 bd234 bd235 bd236 bd237 bd238 bd239 bd240 bd241 bd242 bd243 bd244 bd245 bd246 bd247 bd248 bd249 bd250 bd251 bd252 bd253 bd254 bd255 bd256 bd257 bd258 bd259 bd260 bd261 bd262 bd263 bd264 bd265 bd266 bd267 bd268 bd269 bd270 bd271 bd272 bd273 bd274 bd275 bd276 bd277 bd278 bd279 bd280 bd281 bd282 bd283 bd284 bd285 bd286 bd287 bd288 bd289 bd290 bd291 bd292 bd293 bd294 bd295 bd296 bd297 bd298 bd299 bd300 bd301 bd302 bd303 bd304 bd305 bd306 bd307 bd308 bd309 bd310 bd311 bd312 bd313 bd314 bd315 bd316 bd317 bd318 bp319 bp320 bp321 bd322 bp323 bd324 bd325 bp326 bp327 bp328 bd329 bp330 bd331 bp332 bd333 bp334
                revert gr wb w2 w3 A1 c1 A2 c2 ns ds W5 gn W6 As sc sl W8 Ag gc gl A9 c9 W9 u22 u57 u58 u59 u60 u61 u62 u63 u64 u65 u66 u67 u68 u69 u70 u71 u72 u73 u74 u75 u76 u77 u78 u79 u80 u81 u82 u83 u84 u85 u86 u87 u88 u89 u90 u91 u92 u93 u94 u95 u96 u97 u98 u99 u100 u101 u102 u103 u104 u105 u106 u107 u108 u109 u110 u111 u112 u113 u114 u115 u116 u117 u118 u119 u120 u121 u122 u123 u124 u125 u126 u127 bd1 bd2 bd3 bd4 bd5 bd6 bd7 bd8 bd9 bd10 bd11 bd12 bd13 bd14 bd15 bd16 bd17 bd18 bd19 bd20 bd21 bd22 bd23 bd24 bd25 bd26 bd27 bd28 bd29 bd30 bd31 bd32 bd33 bd34 bd35 bd36 bd37 bd38 bd39 bd40 bd41 bd42 bd43 bd44 bd45 bd46 bd47 bd48 bd49 bd50 bd51 bd52 bd53 bd54 bd55 bd56 bd57 bd58 bd59 bd60 bd61 bd62 bd63 bd64 bd65 bd66 bd67 bd68 bd69 bd70 bd71 bd72 bd73 bd74 bd75 bd76 bd77 bd78 bd79 bd80 bd81 bd82 bd83 bd84 bd85 bd86 bd87 bd88 bd89 bd90 bd91 bd92 bd93 bd94 bd95 bd96 u239 u240 u241 u242 u243 u244 u245 u246 u247 u251 u252 u253 u254 u255 u256 u257 u258 u259 u260 u261 u262 u263 u264 u265 u266 u267 u268 u269 u270 u271 u272 u273 u274 u275 u276 u277 u278 u279 u280 u281 u282 u283 u284 u285 u286 u287 u288 u289 u290 u291 u292 u293 u294 u295 u296 u297 u298 u299 u300 u301 u302 u303 u304 u305 u306 u307 u308 u309 u310 u311 u312 u313 u314 u315 bl Wx WM gx ad2 bd97 u24 bd98 bd99 bd100 bd101 bd102 bd103 bd104 bd105 bd106 bd107 bd108 bd109 u131 u132 u133 u134 u135 u136 u137 u138 bd110 bd111 bd112 bd113 bd114 bd115 bd116 bd117 bd118 bd119 bd120 bd121 bd122 bd123 bd124 bd125 bd126 bd127 bd128 bd129 bd130 bd131 bd132 bd133 bd134 bd135 bd136 bd137 bd138 bd139 bd140 bd141 bd142 bd143 bd144 bd145 bd146 bd147 bd148 bd149 bd150 bd151 bd152 bd153 bd154 bd155 bd156 bd157 bd158 bd159 bd160 bd161 bd162 bd163 bd164 bd165 bd166 bd167 bd168 bd169 bd170 bd171 bd172 bd173 bd174 bd175 bd176 bd177 bd178 bd179 bd180 bd181 bd182 bd183 bd184 bd185 bd186 bd187 bd188 bd189 bd190 bd191 bd192 bd193 bd194 bd195 bd196 bd197 bd198 bd199 bd200 bd201 bd202 bd203 bd204 bd205 bd206 bd207 bd208 u238 bd209 bd210 k gkm B1 b1 bn B2 b2 be Wr WN WY gq gy bd214 bd216 u26 bd217 bd218 bd219 bd220 bd221 bd222 bd223 bd224 bd225 bd226 bd227 u139 u140 u141 u142 u143 u144 u145 u146 u147 bd228 bd229 bd230 bd231 bd232 bd233 bd234 bd235 bd236 bd237 bd238 bd239 bd240 bd241 bd242 bd243 bd244 bd245 bd246 bd247 bd248 bd249 bd250 bd251 bd252 bd253 bd254 bd255 bd256 bd257 bd258 bd259 bd260 bd261 bd262 bd263 bd264 bd265 bd266 bd267 bd268 bd269 bd270 bd271 bd272 bd273 bd274 bd275 bd276 bd277 bd278 bd279 bd280 bd281 bd282 bd283 bd284 bd285 bd286 bd287 bd288 bd289 bd290 bd291 bd292 bd293 bd294 bd295 bd296 bd297 bd298 bd299 bd300 bd301 bd302 bd303 bd304 bd305 bd306 bd307 bd308 bd309 bd310 bd311 bd312 bd313 bd314 bd315 bd316 u237 bd317 bd318 i2 gk2 Y yc yl Wq WQ gz bd322 u16 u28 u30 u31 u32 u33 u34 u36 u37 u38 u39 u40 u148 u149 u150 u151 u152 u153 u154 u155 u156 u157 u158 u159 u160 u161 u162 u163 u164 u165 u166 u167 u168 u169 u170 u171 u172 u173 u174 u175 u176 u177 u178 u179 u180 u181 u182 u183 u184 u185 u186 u187 u188 u189 u190 u191 u192 u193 u194 u195 u196 u197 u198 u199 u200 u201 u202 u203 u204 u205 u206 u207 u208 u209 u210 u211 u212 u213 u214 u215 u216 u217 u218 u219 u220 u221 u222 u223 u224 u225 u226 u227 u228 u229 u230 u231 u232 u233 u234 u235 u236 bd324 bd325 i3 gk3 Zz zc zl Z0 bd329 bd331 bd333
                exact hq.out
              · obtain ⟨Ze, rfl⟩ : ∃ x, x = wr := ⟨_, rfl⟩
                have SE := SQ1.more E0
                clear Hi3 E0 HZ
                go_wp2_with (fail)
                go_roundg (gk2 - 1)
                case measure => have := Hi.out; omega
                case rel => exact ⟨i2 + 1, by have := Hi.out; omega, by go_num, SE⟩
          · obtain ⟨Ze, rfl⟩ : ∃ x, x = wr := ⟨_, rfl⟩
            have SE := SY1.more S
            clear Hi S HY
            go_wp2_with (fail)
            go_roundg (gkm - 1)
            case measure => have := Hk.out; omega
            case rel => exact ⟨k + 1, by have := Hk.out; omega, by go_num, SE⟩
      · obtain ⟨Z0, rfl⟩ : ∃ x, x = wr := ⟨_, rfl⟩
        have m0 := (S.fr.cell hgnM hgnb 0).trans M0.out.1
        have m1 := (S.fr.cell hgnM hgnb 1).trans M0.out.2
        have hol := outE_len22 ns ds sl gl 40 (by omega)
        have hRO := refOutages_any Z0 (fun _ => True) A1 A2 c1 c2 ns ds (S.net nM) (by omega) (by omega) As sc sl (S.sv slM) (by omega) (fun _ => True) Ag gc gl (S.sv glM) (by omega) 40
        generalize outagesE ns ds sl gl 40 = rr at *
        obtain ⟨ol, oe⟩ := rr
        have hol : ol.length ≤ 33066 := hol
        have HRO := Lib.hid hRO
        clear hRO
        go_wp2_with (fail)
        refine HRO.out.mono ?_
        clear HRO m0 m1
        rintro e Z1 ⟨V, vc, rfl, ho1, hb1⟩
        have S1 := S.below hb1
        have so := (OV.sv ho1).mono (T := Old wb Z1) (fun g hl hg => ⟨by have := S.deck.lt; have hg : Z0.heap.size ≤ g := hg; omega, hl⟩)
        have ouZ := S1.oldv22 ouM
        clear ho1 hb1 S
        obtain ⟨WO, hWO⟩ : ∃ x, x = Z1.alloc (.cells #[.slice Ao ous.length co, .slice V ol.length vc] 83) := ⟨_, rfl⟩
        have hrowO : WO.heap[Z1.heap.size]? = some (.cells #[.slice Ao ous.length co, .slice V ol.length vc] 83 (0, 0)) := by rw [hWO]; exact heap_alloc_new Z1 _
        have SO1 : AS wb Z1 WO := by rw [hWO]; exact (AS.start S1.deck S1.bel).below ((Below.refl _ _).alloc (Nat.le_refl _) _)
        have SO := AS.start SO1.deck SO1.bel
        have hgob : Z1.heap.size ≠ wb.heap.size := by have := S1.deck.lt; omega
        have hgol : Z1.heap.size < WO.heap.size := (Array.getElem?_eq_some_iff.1 hrowO).1
        have soO := SO1.oldv22 so
        have ouO := SO1.oldv22 ouZ
        have HWO := Lib.hid hWO
        obtain ⟨go, hgo⟩ : ∃ x, x = Z1.heap.size := ⟨_, rfl⟩
        rw [← hgo] at hrowO hgob hgol
        have Hgo := Lib.hid hgo
        have HO : Hid (∀ i, i < 2 → ∃ (X : Option Addr) (xc : Nat) (xl : List Out), WO.cell? ⟨go, i, none⟩ = some (.slice X xl.length xc) ∧ SV WO (Old wb WO) X (recV outV xl) ∧ xl.length ≤ 65536) := Lib.hid (by
          intro i hi
          have hi2 : i = 0 ∨ i = 1 := by omega
          rcases hi2 with rfl | rfl
          · exact ⟨Ao, co, ous, by rw [cell_of_row WO _ _ _ _ _ hrowO]; rfl, ouO, by omega⟩
          · exact ⟨V, vc, ol, by rw [cell_of_row WO _ _ _ _ _ hrowO]; rfl, soO, by omega⟩)
        clear hrowO hWO hgo SO1 S1 so ouZ soO ouO
        go_wp2_with (fail)
        rw [← HWO.out, ← Hgo.out]
        clear HWO Hgo
        go_loopg [250] 2 (fun g i wr => ∃ j : Nat, j + g = 2 ∧ i = .int .i64 j ∧ AS wb WO wr)
        case atStart => exact ⟨0, rfl, rfl, SO⟩
        case round =>
          clear SO
          obtain ⟨j, hj, rfl, E0⟩ := hrel
          have Hj := Lib.hid hj
          clear hj
          by_cases hltj : j < 2
          · obtain ⟨X, xc, xl, q0, sx, hxl⟩ := HO.out j hltj
            have c0 := (E0.fr.cell hgol hgob j).trans q0
            obtain ⟨Y0, rfl⟩ : ∃ x, x = wr := ⟨_, rfl⟩
            obtain ⟨a1, a2, HMi⟩ : ∃ a1 a2 : Int, Hid ((∀ W, AS wb WO W → Calls Tryd.prog 90 #[.slice X xl.length xc] W fun e w' => e = .returned (.tuple #[.int .i64 a1, .int .i64 a2]) ∧ Below W.heap.size W w') ∧ ∀ W, AS wb WO W → Calls Tryd.prog 91 #[.slice X xl.length xc] W fun e w' => e = .returned (.tuple #[.int .i64 a1, .int .i64 a2]) ∧ Below W.heap.size W w') :=
              ⟨(minutesE xl).1, (minutesE xl).2, Lib.hid ⟨fun W hW => Minutes_any W _ X xc xl (hW.sv sx) hxl, fun W hW => refMinutes_any W _ X xc xl (hW.sv sx) hxl⟩⟩
            obtain ⟨b1', b2', HLo⟩ : ∃ a1 a2 : Int, Hid ((∀ W, AS wb WO W → Calls Tryd.prog 92 #[.slice X xl.length xc, .int .i64 lim] W fun e w' => e = .returned (.tuple #[.int .i64 a1, .int .i64 a2]) ∧ Below W.heap.size W w') ∧ ∀ W, AS wb WO W → Calls Tryd.prog 93 #[.slice X xl.length xc, .int .i64 lim] W fun e w' => e = .returned (.tuple #[.int .i64 a1, .int .i64 a2]) ∧ Below W.heap.size W w') :=
              ⟨(longE lim xl).1, (longE lim xl).2, Lib.hid ⟨fun W hW => Long_any W _ X xc xl (hW.sv sx) hxl lim, fun W hW => refLong_any W _ X xc xl (hW.sv sx) hxl lim⟩⟩
            obtain ⟨w1', w2', HWo⟩ : ∃ (a1 : Int) (a2 : Bool), Hid ((∀ W, AS wb WO W → Calls Tryd.prog 94 #[.slice X xl.length xc] W fun e w' => e = .returned (.tuple #[.int .i64 a1, .bool a2]) ∧ Below W.heap.size W w') ∧ ∀ W, AS wb WO W → Calls Tryd.prog 95 #[.slice X xl.length xc] W fun e w' => e = .returned (.tuple #[.int .i64 a1, .bool a2]) ∧ Below W.heap.size W w') :=
              ⟨(worstE xl).1, (worstE xl).2, Lib.hid ⟨fun W hW => OWorst_any W _ X xc xl (hW.sv sx) hxl, fun W hW => refOWorst_any W _ X xc xl (hW.sv sx) hxl⟩⟩
            clear q0
            go_wp2_with (fail)
            clear c0
            refine (HMi.out.1 Y0 E0).mono ?_
            rintro e Y1 ⟨rfl, hb1⟩
            have E1 := E0.below hb1
            clear hb1 E0
            go_wp2_with (fail)
            refine (HMi.out.2 Y1 E1).mono ?_
            rintro e Y2 ⟨rfl, hb2⟩
            have E2 := E1.below hb2
            clear hb2 E1
            go_wp2_with (fail)
            refine (HLo.out.1 Y2 E2).mono ?_
            rintro e Y3 ⟨rfl, hb3⟩
            have E3 := E2.below hb3
            clear hb3 E2
            go_wp2_with (fail)
            refine (HLo.out.2 Y3 E3).mono ?_
            rintro e Y4 ⟨rfl, hb4⟩
            have E4 := E3.below hb4
            clear hb4 E3
            go_wp2_with (fail)
            refine (HWo.out.1 Y4 E4).mono ?_
            rintro e Y5 ⟨rfl, hb5⟩
            have E5 := E4.below hb5
            clear hb5 E4
            go_wp2_with (fail)
            refine (HWo.out.2 Y5 E5).mono ?_
            rintro e Y6 ⟨rfl, hb6⟩
            have E6 := E5.below hb6
            clear hb6 E5 HMi HLo HWo
            cases w2'
            · go_wp2_with (fail)
              go_roundg (gk - 1)
              case measure => have := Hj.out; omega
              case rel => exact ⟨j + 1, by have := Hj.out; omega, by go_num, E6⟩
            · go_wp2_with (fail)
              go_roundg (gk - 1)
              case measure => have := Hj.out; omega
              case rel => exact ⟨j + 1, by have := Hj.out; omega, by go_num, E6⟩
          · go_wp2_with (fail)
            refine (Fin1.out wr E0.bel).mono ?_
            rintro e w8 ⟨rfl, hb8⟩
            go_wp2_with (fail)
            go_ret
            exact ⟨rfl, hb8⟩

end Go.Proofs.YtgpcojmdfmngeaaDoor
