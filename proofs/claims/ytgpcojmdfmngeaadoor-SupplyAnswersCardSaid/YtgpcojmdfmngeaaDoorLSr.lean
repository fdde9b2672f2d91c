/-
  The law SupplyAnswers, walked: the round of the loop over states, up to the loops over pairs.
-/
import Derived.Test.YtgpcojmdfmngeaaDoorLSa
import Derived.Test.YtgpcojmdfmngeaaDoorAns
import Derived.Test.YtgpcojmdfmngeaaDoorNar
import Derived.Test.YtgpcojmdfmngeaaDoorMkf
import Derived.Test.YtgpcojmdfmngeaaDoorRo06
import Derived.Test.YtgpcojmdfmngeaaDoorMkU
import Derived.Test.YtgpcojmdfmngeaaDoorGf
import Derived.Test.YtgpcojmdfmngeaaDoorR11c
import Derived.Test.YtgpcojmdfmngeaaDoorR11d
import Derived.Test.YtgpcojmdfmngeaaDoorSwy
import Derived.Test.YtgpcojmdfmngeaaDoorGa
namespace Go.Proofs.YtgpcojmdfmngeaaDoor
open Go.RowKit
set_option maxHeartbeats 400000
set_option maxRecDepth 100000

set_option maxHeartbeats 16000000 in
noncomputable def supplyRedB (w : World) (h : TabC w) (ht : Tab w) (A : Option Addr) (c : Nat) (xs : List Int) (hs : SI w (fun _ => True) A xs) (Aa : Option Addr) (ca : Nat) (la : List Int) (hsa : SI w (fun _ => True) Aa la)
    (R1 R2 : Option Addr) (d1 d2 : Nat) (rn : List Node) (rd : List Dev) (hr : NetIn w (fun _ => True) R1 R2 rn rd) (hr1 : rn.length ≤ maxLen) (hr2 : rd.length ≤ maxLen) (v : Int) (hf : xs.length ≤ 400) (h100 : la.length ≤ 100) (hli : lightB rn rd = true) :
    { Q : Prop // Hid Q → (supplyRed w h ht A c xs hs Aa ca la hsa R1 R2 d1 d2 rn rd hr hr1 hr2 v hf h100 hli).1 } := by
  apply Subtype.mk
  case property =>
    intro hq
    unfold supplyRed
    dsimp only
    set_option tactic.hygienic false in intros
    obtain ⟨pp, pe, HPa, hpp⟩ : ∃ (pp : List Int) (pe : Int), Hid ((∀ W, AS wb WP W → Calls Tryd.prog 96 #[.agg #[.slice B1 bn.length b1, .slice B2 be.length b2], .slice Y yl.length yc] W fun e w' => ∃ A c, e = .returned (.tuple #[.slice A pp.length c, .int .i64 pe]) ∧ OI w' (fun g => W.heap.size ≤ g) A c pp ∧ Below W.heap.size W w') ∧ ∀ W, AS wb WP W → Calls Tryd.prog 97 #[.agg #[.slice B1 bn.length b1, .slice B2 be.length b2], .slice Y yl.length yc] W fun e w' => ∃ A c, e = .returned (.tuple #[.slice A pp.length c, .int .i64 pe]) ∧ OI w' (fun g => W.heap.size ≤ g) A c pp ∧ Below W.heap.size W w') ∧ pp.length ≤ 100 :=
      ⟨(suppliedE bn be yl).1, (suppliedE bn be yl).2, Lib.hid ⟨fun W hW => Supplied_any W (h1.below hW.bel) (ht1.below hW.bel) _ B1 B2 b1 b2 bn be (hW.net hnP) (by omega) (by omega) Y yc yl (hW.sv sy) (by omega), fun W hW => refSupplied_any W (fun _ => True) B1 B2 b1 b2 bn be (hW.net hnP) (by omega) (by omega) Y yc yl (hW.sv sy) (by omega)⟩, by have := suppliedE_len bn be yl; omega⟩
    obtain ⟨ck, ce, HCu⟩ : ∃ (ck : Int) (ce : Int), Hid ((∀ W, AS wb WP W → Calls Tryd.prog 98 #[.agg #[.slice B1 bn.length b1, .slice B2 be.length b2], .slice Y yl.length yc] W fun e w' => e = .returned (.tuple #[.int .i64 ck, .int .i64 ce]) ∧ Below W.heap.size W w') ∧ ∀ W, AS wb WP W → Calls Tryd.prog 99 #[.agg #[.slice B1 bn.length b1, .slice B2 be.length b2], .slice Y yl.length yc] W fun e w' => e = .returned (.tuple #[.int .i64 ck, .int .i64 ce]) ∧ Below W.heap.size W w') :=
      ⟨custF bn (suppliedE bn be yl).1, (suppliedE bn be yl).2, Lib.hid ⟨fun W hW => Customers_any W (h1.below hW.bel) (ht1.below hW.bel) _ B1 B2 b1 b2 bn be (hW.net hnP) (by omega) (by omega) Y yc yl (hW.sv sy) (by omega), fun W hW => refCustomers_any W (fun _ => True) B1 B2 b1 b2 bn be (hW.net hnP) (by omega) (by omega) Y yc yl (hW.sv sy) (by omega)⟩⟩
    obtain ⟨aa, ae, HAl, haa⟩ : ∃ (aa : List Int) (ae : Int), Hid ((∀ W, AS wb WP W → Calls Tryd.prog 77 #[.agg #[.slice B1 bn.length b1, .slice B2 be.length b2], .slice Y yl.length yc] W fun e w' => ∃ A c, e = .returned (.tuple #[.slice A aa.length c, .int .i64 ae]) ∧ OI w' (fun g => W.heap.size ≤ g) A c aa ∧ Below W.heap.size W w') ∧ ∀ W, AS wb WP W → Calls Tryd.prog 100 #[.agg #[.slice B1 bn.length b1, .slice B2 be.length b2], .slice Y yl.length yc] W fun e w' => ∃ A c, e = .returned (.tuple #[.slice A aa.length c, .int .i64 ae]) ∧ OI w' (fun g => W.heap.size ≤ g) A c aa ∧ Below W.heap.size W w') ∧ aa.length ≤ 200 :=
      ⟨(aloneE bn be yl).1, (aloneE bn be yl).2, Lib.hid ⟨fun W hW => Alone_any W (h1.below hW.bel) (ht1.below hW.bel) _ B1 B2 b1 b2 bn be (hW.net hnP) (by omega) (by omega) Y yc yl (hW.sv sy) (by omega), fun W hW => refAlone_any W (fun _ => True) B1 B2 b1 b2 bn be (hW.net hnP) (by omega) (by omega) Y yc yl (hW.sv sy) (by omega)⟩, by have := alone_len bn be yl; omega⟩
    obtain ⟨wk, we, HWo⟩ : ∃ (wk : Int) (we : Int), Hid ((∀ W, AS wb WP W → Calls Tryd.prog 101 #[.agg #[.slice B1 bn.length b1, .slice B2 be.length b2], .slice Y yl.length yc] W fun e w' => e = .returned (.tuple #[.int .i64 wk, .int .i64 we]) ∧ Below W.heap.size W w') ∧ ∀ W, AS wb WP W → Calls Tryd.prog 102 #[.agg #[.slice B1 bn.length b1, .slice B2 be.length b2], .slice Y yl.length yc] W fun e w' => e = .returned (.tuple #[.int .i64 wk, .int .i64 we]) ∧ Below W.heap.size W w') :=
      ⟨(sworstE bn be yl).1, (sworstE bn be yl).2, Lib.hid ⟨fun W hW => SWorst_any W (h1.below hW.bel) (ht1.below hW.bel) _ B1 B2 b1 b2 bn be (hW.net hnP) (by omega) (by omega) Y yc yl (hW.sv sy) (by omega), fun W hW => refSWorst_any W (fun _ => True) B1 B2 b1 b2 bn be (hW.net hnP) (by omega) (by omega) Y yc yl (hW.sv sy) (by omega)⟩⟩
    clear q1
    have z0 := (E0.fr.cell hgqP hgqb 0).trans X0.out
    have z1 := (E0.fr.cell hgqP hgqb 1).trans X1.out
    go_wp2_with (fail)
    clear z0 z1 q2
    refine (HPa.out.1 Z0 E0).mono ?_
    rintro e Z1 ⟨V1, vc1, rfl, ho1, hb1⟩
    have E1 := E0.below hb1
    have s1 := (OV.sv ho1).mono (T := fun _ => True) (fun _ _ _ => trivial)
    clear E0 ho1 hb1
    have z0 := (E1.fr.cell hgqP hgqb 0).trans X0.out
    have z1 := (E1.fr.cell hgqP hgqb 1).trans X1.out
    go_wp2_with (fail)
    clear z0 z1
    refine (HPa.out.2 Z1 E1).mono ?_
    rintro e Z2 ⟨V2, vc2, rfl, ho2, hb2⟩
    have E2 := E1.below hb2
    have s1 := s1.keep (Kept.of_below hb2)
    have s2 := (OV.sv ho2).mono (T := fun _ => True) (fun _ _ _ => trivial)
    clear E1 ho2 hb2
    have z0 := (E2.fr.cell hgqP hgqb 0).trans X0.out
    have z1 := (E2.fr.cell hgqP hgqb 1).trans X1.out
    go_wp2_with (fail)
    clear z0 z1
    refine (HCu.out.1 Z2 E2).mono ?_
    rintro e Z3 ⟨rfl, hb3⟩
    have E3 := E2.below hb3
    have s1 := s1.keep (Kept.of_below hb3)
    have s2 := s2.keep (Kept.of_below hb3)
    clear E2 hb3
    have z0 := (E3.fr.cell hgqP hgqb 0).trans X0.out
    have z1 := (E3.fr.cell hgqP hgqb 1).trans X1.out
    go_wp2_with (fail)
    clear z0 z1
    refine (HCu.out.2 Z3 E3).mono ?_
    rintro e Z4 ⟨rfl, hb4⟩
    have E4 := E3.below hb4
    have s1 := s1.keep (Kept.of_below hb4)
    have s2 := s2.keep (Kept.of_below hb4)
    clear E3 hb4
    have z0 := (E4.fr.cell hgqP hgqb 0).trans X0.out
    have z1 := (E4.fr.cell hgqP hgqb 1).trans X1.out
    go_wp2_with (fail)
    clear z0 z1
    refine (HAl.out.1 Z4 E4).mono ?_
    rintro e Z5 ⟨V5, vc5, rfl, ho5, hb5⟩
    have E5 := E4.below hb5
    have s1 := s1.keep (Kept.of_below hb5)
    have s2 := s2.keep (Kept.of_below hb5)
    have s5 := (OV.sv ho5).mono (T := fun _ => True) (fun _ _ _ => trivial)
    clear E4 ho5 hb5
    have z0 := (E5.fr.cell hgqP hgqb 0).trans X0.out
    have z1 := (E5.fr.cell hgqP hgqb 1).trans X1.out
    go_wp2_with (fail)
    clear z0 z1
    refine (HAl.out.2 Z5 E5).mono ?_
    rintro e Z6 ⟨V6, vc6, rfl, ho6, hb6⟩
    have E6 := E5.below hb6
    have s1 := s1.keep (Kept.of_below hb6)
    have s2 := s2.keep (Kept.of_below hb6)
    have s5 := s5.keep (Kept.of_below hb6)
    have s6 := (OV.sv ho6).mono (T := fun _ => True) (fun _ _ _ => trivial)
    clear E5 ho6 hb6
    have z0 := (E6.fr.cell hgqP hgqb 0).trans X0.out
    have z1 := (E6.fr.cell hgqP hgqb 1).trans X1.out
    go_wp2_with (fail)
    clear z0 z1
    refine (HWo.out.1 Z6 E6).mono ?_
    rintro e Z7 ⟨rfl, hb7⟩
    have E7 := E6.below hb7
    have s1 := s1.keep (Kept.of_below hb7)
    have s2 := s2.keep (Kept.of_below hb7)
    have s5 := s5.keep (Kept.of_below hb7)
    have s6 := s6.keep (Kept.of_below hb7)
    clear E6 hb7
    have z0 := (E7.fr.cell hgqP hgqb 0).trans X0.out
    have z1 := (E7.fr.cell hgqP hgqb 1).trans X1.out
    go_wp2_with (fail)
    clear z0 z1
    refine (HWo.out.2 Z7 E7).mono ?_
    rintro e Z8 ⟨rfl, hb8⟩
    have E8 := E7.below hb8
    have s1 := s1.keep (Kept.of_below hb8)
    have s2 := s2.keep (Kept.of_below hb8)
    have s5 := s5.keep (Kept.of_below hb8)
    have s6 := s6.keep (Kept.of_below hb8)
    clear E7 hb8
    clear HPa HCu HAl HWo
    go_wp2_with (fail)
    refine (ints_b Z8 _ _ V1 V2 vc1 vc2 pp pp s1 s2 (by omega) (by omega)).mono ?_
    rintro e Z9 ⟨rfl, hb9⟩
    rw [show decide (pp = pp) = true from decide_eq_true rfl]
    have E9 := E8.below hb9
    have s5 := s5.keep (Kept.of_below hb9)
    have s6 := s6.keep (Kept.of_below hb9)
    clear E8 hb9 s1 s2 hpp
    go_wp2_with (fail)
    refine (ints_b Z9 _ _ V5 V6 vc5 vc6 aa aa s5 s6 (by omega) (by omega)).mono ?_
    rintro e Z10 ⟨rfl, hb10⟩
    rw [show decide (aa = aa) = true from decide_eq_true rfl]
    have E10 := E9.below hb10
    clear E9 hb10 s5 s6 haa
    obtain ⟨WQ, hWQ⟩ : ∃ x, x = Z10.alloc (.cells #[.slice Y yl.length yc, .slice Xo lo.length no, .slice Xo lo.length no, .slice Y yl.length yc] 100) := ⟨_, rfl⟩
    have hrowQ : WQ.heap[Z10.heap.size]? = some (.cells #[.slice Y yl.length yc, .slice Xo lo.length no, .slice Xo lo.length no, .slice Y yl.length yc] 100 (0, 0)) := by rw [hWQ]; exact heap_alloc_new Z10 _
    have SQ1 : AS wb WP WQ := by rw [hWQ]; exact E10.below ((Below.refl _ _).alloc (Nat.le_refl _) _)
    have SQ := AS.start SQ1.deck SQ1.bel
    have hgpb : Z10.heap.size ≠ wb.heap.size := by have := E10.deck.lt; omega
    have hgpl : Z10.heap.size < WQ.heap.size := (Array.getElem?_eq_some_iff.1 hrowQ).1
    have HWQ := Lib.hid hWQ
    obtain ⟨gp, hgp⟩ : ∃ x, x = Z10.heap.size := ⟨_, rfl⟩
    rw [← hgp] at hrowQ hgpb hgpl
    have Hgp := Lib.hid hgp
    clear hWQ hgp E10
    go_wp2_with (fail)
    rw [← HWQ.out, ← Hgp.out]
    clear HWQ Hgp
    have Hpq : Hid (∀ j, j < 2 → ∃ (P : Option Addr) (pc : Nat) (pl : List Int) (Q : Option Addr) (qc : Nat) (ql : List Int), WQ.cell? ⟨gp, j * 2, none⟩ = some (.slice P pl.length pc) ∧ WQ.cell? ⟨gp, j * 2 + 1, none⟩ = some (.slice Q ql.length qc) ∧ SI WP (Old wb WP) P pl ∧ SI WP (Old wb WP) Q ql ∧ pl.length ≤ 200 ∧ ql.length ≤ 200) := Lib.hid (by
      intro j hj
      have hj2 : j = 0 ∨ j = 1 := by omega
      rcases hj2 with rfl | rfl
      · exact ⟨Y, yc, yl, Xo, no, lo, by rw [cell_of_row WQ _ _ _ _ _ hrowQ]; rfl, by rw [cell_of_row WQ _ _ _ _ _ hrowQ]; rfl, sy, soP, hyl, hlo2⟩
      · exact ⟨Xo, no, lo, Y, yc, yl, by rw [cell_of_row WQ _ _ _ _ _ hrowQ]; rfl, by rw [cell_of_row WQ _ _ _ _ _ hrowQ]; rfl, soP, sy, hlo2, hyl⟩)
    clear hrowQ
    rename_i yp1 yd2 yp3 yp4 yp5 yp6 yp7 yp8 yp9 yp10 yp11 yp12 yp13 yp14 yp15 yp16 yp17 yp18 yp19 yd20 yp21
    revert gr wb A1 c1 A2 c2 ns ds W5 gn W6 Am mc ml WM gx zd3 zd5 u13 u14 zd6 zd7 zd8 zd9 zd10 zd11 zd12 zd13 zd14 zd15 zd16 zd17 zd18 zd19 zd20 zd21 zd22 zd23 zd24 zd25 zd26 zd27 zd28 zd29 zd30 zd31 zd32 zd33 zd34 zd35 zd36 zd37 zd38 zd39 zd40 zd41 zd42 zd43 zd44 zd45 zd46 zd47 zd48 zd49 zd50 u89 u90 u91 zd51 zd52 zd53 zd54 zd55 zd56 zd57 zd58 zd59 zd60 zd61 zd62 zd63 zd64 zd65 zd66 zd67 zd68 zd69 zd70 zd71 zd72 zd73 zd74 zd75 zd76 zd77 zd78 zd79 zd80 zd81 zd82 zd83 zd84 zd85 zd86 zd87 zd88 zd89 zd90 zd91 zd92 zd93 zd94 zd95 zd96 zd97 zd98 zd99 zd100 zd101 zd102 zd103 zd104 zd105 zd106 zd107 zd108 zd109 zd110 zd111 zd112 zd113 zd114 zd115 zd116 zd117 zd118 zd119 zd120 zd121 zd122 zd123 zd124 zd125 zd126 zd127 zd128 zd129 zd130 zd131 zd132 zd133 zd134 zd135 zd136 zd137 zd138 zd139 zd140 zd141 zd142 zd143 zd144 zd145 zd146 zd147 zd148 zd149 zd150 zd151 zd152 zd153 zd154 zd155 zd156 zd157 zd158 zd159 zd160 zd161 zd162 zd163 zd164 zd165 zd166 zd167 zd168 zd169 zd170 zd171 zd172 zd173 zd174 zd175 zd176 zd177 zd178 zd179 zd180 zd181 zd182 zd183 zd184 zd185 zd186 zd187 zd188 zd189 zd190 zd191 zd192 zd193 zd194 zd195 zd196 zd197 zd198 zd199 zd200 zd201 zd202 zd203 zd204 zd205 zd206 zd207 zd208 zd209 zd210 zd211 zd212 zd213 zd214 zd215 zd216 zd217 zd218 zd219 zd220 zd221 zd222 zd223 zd224 zd225 zd226 zd227 zd228 zd229 zd230 zd231 zd232 k gkm B1 b1 bn B2 b2 be Wr WN gq zd236 WO Xo no lo u75 u76 u77 u78 u79 u80 u81 u82 u83 u84 u85 u86 u87 u88 zd239 zd240 zd241 zd242 zd243 zd244 zd245 zd246 zd247 zd248 zd249 zd250 zd251 zd252 zd253 zd254 zd255 zd256 zd257 zd258 zd259 zd260 zd261 zd262 zd263 zd264 zd265 zd266 zd267 zd268 zd269 zd270 zd271 zd272 zd273 zd274 zd275 zd276 zd277 zd278 zd279 zd280 zd281 zd282 zd283 zd284 zd285 zd286 zd287 zd288 zd289 zd290 zd291 zd292 zd293 zd294 zd295 zd296 zd297 zd298 zd299 zd300 zd301 zd302 zd303 zd304 zd305 zd306 zd307 zd308 zd309 zd310 zd311 zd312 zd313 zd314 zd315 zd316 zd317 zd318 zd319 zd320 zd321 zd322 zd323 zd324 zd325 zd326 zd327 zd328 zd329 zd330 zd331 zd332 zd333 zd334 zd335 zd336 zd337 zd338 zd339 zd340 zd341 zd342 zd343 zd344 zd345 zd346 zd347 zd348 zd349 zd350 zd351 zd352 zd353 zd354 zd355 zd356 zd357 zd358 zd359 zd360 zd361 zd362 zd363 zd364 zd365 zd366 zd367 zd368 zd369 zd370 zd371 zd372 zd373 zd374 zd375 zd376 zd377 zd378 zd379 zd380 zd381 zd382 zd383 zd384 zd385 zd386 zd387 zd388 zd389 zd390 zd391 zd392 zd393 zd394 zd395 zd396 zd397 zd398 zd399 zd400 zd401 zd402 zd403 zd404 zd405 zd406 zd407 zd408 zd409 zd410 zd411 u271 WP gy X5 n5 l5 X8 n8 l8 u8 u16 u17 u18 u19 u20 u21 u22 u23 u24 u25 u26 u27 u28 u29 u30 u31 u32 u34 u35 u36 u37 u38 u39 u40 u42 u43 u44 u45 u46 u47 u48 u92 u93 u94 u95 u96 u97 u98 u99 u100 u101 u102 u103 u104 u105 u106 u107 u108 u109 u110 u111 u112 u113 u114 u115 u116 u117 u118 u119 u120 u121 u122 u123 u124 u125 u126 u127 u128 u129 u130 u131 u132 u133 u134 u135 u136 u137 u138 u139 u140 u141 u142 u143 u144 u145 u146 u147 u148 u149 u150 u151 u152 u153 u154 u155 u156 u157 u158 u159 u160 u161 u162 u163 u164 u165 u166 u167 u168 u169 u170 u171 u172 u173 u174 u175 u176 u177 u178 u179 u180 u181 u182 u183 u184 u185 u186 u187 u188 u189 u190 u191 u192 u193 u194 u195 u196 u197 u198 u199 u200 u201 u202 u203 u204 u205 u206 u207 u208 u209 u210 u211 u212 u213 u214 u215 u216 u217 u218 u219 u220 u221 u222 u223 u224 u225 u226 u227 u228 u229 u230 u231 u232 u233 u234 u235 u236 u237 u238 u239 u240 u241 u242 u243 u244 u245 u246 u247 u248 u249 u250 u251 u252 u253 u254 u255 u256 u257 u258 u259 u260 u261 u262 u263 u264 u265 u266 u267 u268 u269 u270 zd412 zd413 i5 gk5 Y yc yl Z0 pp pe ck ce aa ae wk we yd2 Z1 V1 vc1 Z2 V2 vc2 Z3 Z4 Z5 V5 vc5 Z6 V6 vc6 Z7 Z8 Z9 Z10 WQ gp yd20
    exact hq.out
end Go.Proofs.YtgpcojmdfmngeaaDoor
