/- Part of the lift: an abstract walk of the program's code, proved sound, and what it shows of this program. -/
import Derived.Test.YtjgmoglhbdgmpaaGreatPart3
namespace Go.Bv
open Go
section
variable {P : Program} {f : FuncId} {args args' : List AV} {H H' H'' : List Blk} {r r' : AV} {next : AV → List Blk → Prop}
theorem NCall.atA (h : ACalls P f args H r H') (hn : next r' H'')
  (er : r = r' := by (try dsimp only [z0, z1, z2, z3, z4, z5, z6, z7, z8, z9, z10, z11, z12, z13, z14, z15, z16, y0, y1, y2, y3, y4, y5, y6, y7, y8, y9, y10, y11, y12, y13, y14, y15, Nat.reduceAdd, Nat.reduceSub, q0, q1, q2, q3, q4, q5, q6, q7, q8, q9, q10, q11, q12, q13, q14, q15, q16, q17, q18, q19, q20, q21, q22, q23, q24, q25, q26, q27, q28, q29, q30, q31, q32, q33, q34, q35, q36, q37, q38, q39, q40, q41, q42, q43, q44, q45, q46, q47, q48, q49, q50, q51, q52, q53, q54, q55, q56, q57, q58, q59, q60, q61, q62, q63, q64, q65, q66, q67, q68, q69, q70, q71, q72, q73, q74, q75, q76, q77, q78, q79, q80, q81, q82, q83, q84, q85, q86, q87, q88, q89, q90, q91, q92, q93, q94, q95, q96, q97, q98, q99, q100, q101, q102, q103, q104, q105, q106, q107, q108, q109, q110, q111, q112, q113, q114, q115, q116, q117, q118, q119, q120, q121, q122, q123, q124, q125, q126, q127, q128, q129, q130, q131, q132, q133, q134, q135, q136, q137, q138, q139, q140, q141, q142, q143, q144, q145, q146, q147, q148, q149, q150, rho, setAll, roAll, thaw]) <;> exact rfl)
  (eH : H' = H'' := by (try dsimp only [z0, z1, z2, z3, z4, z5, z6, z7, z8, z9, z10, z11, z12, z13, z14, z15, z16, y0, y1, y2, y3, y4, y5, y6, y7, y8, y9, y10, y11, y12, y13, y14, y15, Nat.reduceAdd, Nat.reduceSub, q0, q1, q2, q3, q4, q5, q6, q7, q8, q9, q10, q11, q12, q13, q14, q15, q16, q17, q18, q19, q20, q21, q22, q23, q24, q25, q26, q27, q28, q29, q30, q31, q32, q33, q34, q35, q36, q37, q38, q39, q40, q41, q42, q43, q44, q45, q46, q47, q48, q49, q50, q51, q52, q53, q54, q55, q56, q57, q58, q59, q60, q61, q62, q63, q64, q65, q66, q67, q68, q69, q70, q71, q72, q73, q74, q75, q76, q77, q78, q79, q80, q81, q82, q83, q84, q85, q86, q87, q88, q89, q90, q91, q92, q93, q94, q95, q96, q97, q98, q99, q100, q101, q102, q103, q104, q105, q106, q107, q108, q109, q110, q111, q112, q113, q114, q115, q116, q117, q118, q119, q120, q121, q122, q123, q124, q125, q126, q127, q128, q129, q130, q131, q132, q133, q134, q135, q136, q137, q138, q139, q140, q141, q142, q143, q144, q145, q146, q147, q148, q149, q150, rho, setAll, roAll, thaw]) <;> exact rfl) : NCall P f args H next := NCall.atN h er eH hn
theorem NCall.subA {args0 : List AV} {H0 H0' : List Blk} (S : List Nat) (h : ACalls P f args0 H0 r H0') (hn : next r' H'')
  (hS : nodupB S = true := by exact rfl)
  (hH : S.map (fun j => H[j]?) = H0.map (fun b => some (b.rn (rho S H.length))) := by first | exact rfl | (simp [rho, Blk.rn, AV.rnA, AV.rnR, AV.rn1]; done))
  (ha : args = args0.map (AV.rnA (rho S H.length)) := by first | exact rfl | (simp [rho, AV.rnA, AV.rnR, AV.rn1]; done))
  (er : r.rnT (rho S H.length) = r' := by (try dsimp only [z0, z1, z2, z3, z4, z5, z6, z7, z8, z9, z10, z11, z12, z13, z14, z15, z16, y0, y1, y2, y3, y4, y5, y6, y7, y8, y9, y10, y11, y12, y13, y14, y15, Nat.reduceAdd, Nat.reduceSub, q0, q1, q2, q3, q4, q5, q6, q7, q8, q9, q10, q11, q12, q13, q14, q15, q16, q17, q18, q19, q20, q21, q22, q23, q24, q25, q26, q27, q28, q29, q30, q31, q32, q33, q34, q35, q36, q37, q38, q39, q40, q41, q42, q43, q44, q45, q46, q47, q48, q49, q50, q51, q52, q53, q54, q55, q56, q57, q58, q59, q60, q61, q62, q63, q64, q65, q66, q67, q68, q69, q70, q71, q72, q73, q74, q75, q76, q77, q78, q79, q80, q81, q82, q83, q84, q85, q86, q87, q88, q89, q90, q91, q92, q93, q94, q95, q96, q97, q98, q99, q100, q101, q102, q103, q104, q105, q106, q107, q108, q109, q110, q111, q112, q113, q114, q115, q116, q117, q118, q119, q120, q121, q122, q123, q124, q125, q126, q127, q128, q129, q130, q131, q132, q133, q134, q135, q136, q137, q138, q139, q140, q141, q142, q143, q144, q145, q146, q147, q148, q149, q150, rho, setAll, roAll, thaw]) <;> exact rfl)
  (eH : setAll H S ((H0'.take S.length).map (Blk.rn (rho S H.length))) ++ (H0'.drop S.length).map (Blk.rn (rho S H.length)) = H'' := by (try dsimp only [z0, z1, z2, z3, z4, z5, z6, z7, z8, z9, z10, z11, z12, z13, z14, z15, z16, y0, y1, y2, y3, y4, y5, y6, y7, y8, y9, y10, y11, y12, y13, y14, y15, Nat.reduceAdd, Nat.reduceSub, q0, q1, q2, q3, q4, q5, q6, q7, q8, q9, q10, q11, q12, q13, q14, q15, q16, q17, q18, q19, q20, q21, q22, q23, q24, q25, q26, q27, q28, q29, q30, q31, q32, q33, q34, q35, q36, q37, q38, q39, q40, q41, q42, q43, q44, q45, q46, q47, q48, q49, q50, q51, q52, q53, q54, q55, q56, q57, q58, q59, q60, q61, q62, q63, q64, q65, q66, q67, q68, q69, q70, q71, q72, q73, q74, q75, q76, q77, q78, q79, q80, q81, q82, q83, q84, q85, q86, q87, q88, q89, q90, q91, q92, q93, q94, q95, q96, q97, q98, q99, q100, q101, q102, q103, q104, q105, q106, q107, q108, q109, q110, q111, q112, q113, q114, q115, q116, q117, q118, q119, q120, q121, q122, q123, q124, q125, q126, q127, q128, q129, q130, q131, q132, q133, q134, q135, q136, q137, q138, q139, q140, q141, q142, q143, q144, q145, q146, q147, q148, q149, q150, rho, setAll, roAll, thaw]) <;> exact rfl) :
  NCall P f args H next := NCall.sub S h hS hH ha er eH hn
theorem NCall.roA (ids : List Nat) (h : NCall P f args' H' next)
  (eH : roAll H ids = H' := by (try dsimp only [z0, z1, z2, z3, z4, z5, z6, z7, z8, z9, z10, z11, z12, z13, z14, z15, z16, y0, y1, y2, y3, y4, y5, y6, y7, y8, y9, y10, y11, y12, y13, y14, y15, Nat.reduceAdd, Nat.reduceSub, q0, q1, q2, q3, q4, q5, q6, q7, q8, q9, q10, q11, q12, q13, q14, q15, q16, q17, q18, q19, q20, q21, q22, q23, q24, q25, q26, q27, q28, q29, q30, q31, q32, q33, q34, q35, q36, q37, q38, q39, q40, q41, q42, q43, q44, q45, q46, q47, q48, q49, q50, q51, q52, q53, q54, q55, q56, q57, q58, q59, q60, q61, q62, q63, q64, q65, q66, q67, q68, q69, q70, q71, q72, q73, q74, q75, q76, q77, q78, q79, q80, q81, q82, q83, q84, q85, q86, q87, q88, q89, q90, q91, q92, q93, q94, q95, q96, q97, q98, q99, q100, q101, q102, q103, q104, q105, q106, q107, q108, q109, q110, q111, q112, q113, q114, q115, q116, q117, q118, q119, q120, q121, q122, q123, q124, q125, q126, q127, q128, q129, q130, q131, q132, q133, q134, q135, q136, q137, q138, q139, q140, q141, q142, q143, q144, q145, q146, q147, q148, q149, q150, rho, setAll, roAll, thaw]) <;> exact rfl)
  (ea : args.map (thawA H') = args' := by (try dsimp only [z0, z1, z2, z3, z4, z5, z6, z7, z8, z9, z10, z11, z12, z13, z14, z15, z16, y0, y1, y2, y3, y4, y5, y6, y7, y8, y9, y10, y11, y12, y13, y14, y15, Nat.reduceAdd, Nat.reduceSub, q0, q1, q2, q3, q4, q5, q6, q7, q8, q9, q10, q11, q12, q13, q14, q15, q16, q17, q18, q19, q20, q21, q22, q23, q24, q25, q26, q27, q28, q29, q30, q31, q32, q33, q34, q35, q36, q37, q38, q39, q40, q41, q42, q43, q44, q45, q46, q47, q48, q49, q50, q51, q52, q53, q54, q55, q56, q57, q58, q59, q60, q61, q62, q63, q64, q65, q66, q67, q68, q69, q70, q71, q72, q73, q74, q75, q76, q77, q78, q79, q80, q81, q82, q83, q84, q85, q86, q87, q88, q89, q90, q91, q92, q93, q94, q95, q96, q97, q98, q99, q100, q101, q102, q103, q104, q105, q106, q107, q108, q109, q110, q111, q112, q113, q114, q115, q116, q117, q118, q119, q120, q121, q122, q123, q124, q125, q126, q127, q128, q129, q130, q131, q132, q133, q134, q135, q136, q137, q138, q139, q140, q141, q142, q143, q144, q145, q146, q147, q148, q149, q150, rho, setAll, roAll, thaw]) <;> exact rfl) : NCall P f args H next := NCall.ro ids eH ea h
end
section
variable {H H'' : List Blk} {id off len : Nat} {kk : RK} {sh : Sh} {es xs es' : List AV} {bytes n l : Nat} {next : AV → List Blk → Prop}
theorem NApp.endA (h1 : len = es.length) (hb : (es.length + xs.length) * bytes ≤ 2 ^ 46) (hn : next (.own n 0 l) H'') (h0 : off = 0 := by exact rfl)
  (en : H.length = n := by (try dsimp only [z0, z1, z2, z3, z4, z5, z6, z7, z8, z9, z10, z11, z12, z13, z14, z15, z16, y0, y1, y2, y3, y4, y5, y6, y7, y8, y9, y10, y11, y12, y13, y14, y15, Nat.reduceAdd, Nat.reduceSub, q0, q1, q2, q3, q4, q5, q6, q7, q8, q9, q10, q11, q12, q13, q14, q15, q16, q17, q18, q19, q20, q21, q22, q23, q24, q25, q26, q27, q28, q29, q30, q31, q32, q33, q34, q35, q36, q37, q38, q39, q40, q41, q42, q43, q44, q45, q46, q47, q48, q49, q50, q51, q52, q53, q54, q55, q56, q57, q58, q59, q60, q61, q62, q63, q64, q65, q66, q67, q68, q69, q70, q71, q72, q73, q74, q75, q76, q77, q78, q79, q80, q81, q82, q83, q84, q85, q86, q87, q88, q89, q90, q91, q92, q93, q94, q95, q96, q97, q98, q99, q100, q101, q102, q103, q104, q105, q106, q107, q108, q109, q110, q111, q112, q113, q114, q115, q116, q117, q118, q119, q120, q121, q122, q123, q124, q125, q126, q127, q128, q129, q130, q131, q132, q133, q134, q135, q136, q137, q138, q139, q140, q141, q142, q143, q144, q145, q146, q147, q148, q149, q150, rho, setAll, roAll, thaw]) <;> exact rfl)
  (ee : es ++ xs = es' := by (try dsimp only [z0, z1, z2, z3, z4, z5, z6, z7, z8, z9, z10, z11, z12, z13, z14, z15, z16, y0, y1, y2, y3, y4, y5, y6, y7, y8, y9, y10, y11, y12, y13, y14, y15, Nat.reduceAdd, Nat.reduceSub, q0, q1, q2, q3, q4, q5, q6, q7, q8, q9, q10, q11, q12, q13, q14, q15, q16, q17, q18, q19, q20, q21, q22, q23, q24, q25, q26, q27, q28, q29, q30, q31, q32, q33, q34, q35, q36, q37, q38, q39, q40, q41, q42, q43, q44, q45, q46, q47, q48, q49, q50, q51, q52, q53, q54, q55, q56, q57, q58, q59, q60, q61, q62, q63, q64, q65, q66, q67, q68, q69, q70, q71, q72, q73, q74, q75, q76, q77, q78, q79, q80, q81, q82, q83, q84, q85, q86, q87, q88, q89, q90, q91, q92, q93, q94, q95, q96, q97, q98, q99, q100, q101, q102, q103, q104, q105, q106, q107, q108, q109, q110, q111, q112, q113, q114, q115, q116, q117, q118, q119, q120, q121, q122, q123, q124, q125, q126, q127, q128, q129, q130, q131, q132, q133, q134, q135, q136, q137, q138, q139, q140, q141, q142, q143, q144, q145, q146, q147, q148, q149, q150, rho, setAll, roAll, thaw]) <;> exact rfl)
  (el : (es ++ xs).length = l := by (try dsimp only [z0, z1, z2, z3, z4, z5, z6, z7, z8, z9, z10, z11, z12, z13, z14, z15, z16, y0, y1, y2, y3, y4, y5, y6, y7, y8, y9, y10, y11, y12, y13, y14, y15, Nat.reduceAdd, Nat.reduceSub, q0, q1, q2, q3, q4, q5, q6, q7, q8, q9, q10, q11, q12, q13, q14, q15, q16, q17, q18, q19, q20, q21, q22, q23, q24, q25, q26, q27, q28, q29, q30, q31, q32, q33, q34, q35, q36, q37, q38, q39, q40, q41, q42, q43, q44, q45, q46, q47, q48, q49, q50, q51, q52, q53, q54, q55, q56, q57, q58, q59, q60, q61, q62, q63, q64, q65, q66, q67, q68, q69, q70, q71, q72, q73, q74, q75, q76, q77, q78, q79, q80, q81, q82, q83, q84, q85, q86, q87, q88, q89, q90, q91, q92, q93, q94, q95, q96, q97, q98, q99, q100, q101, q102, q103, q104, q105, q106, q107, q108, q109, q110, q111, q112, q113, q114, q115, q116, q117, q118, q119, q120, q121, q122, q123, q124, q125, q126, q127, q128, q129, q130, q131, q132, q133, q134, q135, q136, q137, q138, q139, q140, q141, q142, q143, q144, q145, q146, q147, q148, q149, q150, rho, setAll, roAll, thaw]) <;> exact rfl)
  (eH : H.set id .dead ++ [.row kk sh es'] = H'' := by (try dsimp only [z0, z1, z2, z3, z4, z5, z6, z7, z8, z9, z10, z11, z12, z13, z14, z15, z16, y0, y1, y2, y3, y4, y5, y6, y7, y8, y9, y10, y11, y12, y13, y14, y15, Nat.reduceAdd, Nat.reduceSub, q0, q1, q2, q3, q4, q5, q6, q7, q8, q9, q10, q11, q12, q13, q14, q15, q16, q17, q18, q19, q20, q21, q22, q23, q24, q25, q26, q27, q28, q29, q30, q31, q32, q33, q34, q35, q36, q37, q38, q39, q40, q41, q42, q43, q44, q45, q46, q47, q48, q49, q50, q51, q52, q53, q54, q55, q56, q57, q58, q59, q60, q61, q62, q63, q64, q65, q66, q67, q68, q69, q70, q71, q72, q73, q74, q75, q76, q77, q78, q79, q80, q81, q82, q83, q84, q85, q86, q87, q88, q89, q90, q91, q92, q93, q94, q95, q96, q97, q98, q99, q100, q101, q102, q103, q104, q105, q106, q107, q108, q109, q110, q111, q112, q113, q114, q115, q116, q117, q118, q119, q120, q121, q122, q123, q124, q125, q126, q127, q128, q129, q130, q131, q132, q133, q134, q135, q136, q137, q138, q139, q140, q141, q142, q143, q144, q145, q146, q147, q148, q149, q150, rho, setAll, roAll, thaw]) <;> exact rfl) : NApp H id off len kk sh es xs bytes next := NApp.enddN h0 h1 hb en ee el eH hn
theorem NApp.inA (h1 : off + len + xs.length ≤ es.length) (hn : next (.own id off l) H'')
  (el : len + xs.length = l := by (try dsimp only [z0, z1, z2, z3, z4, z5, z6, z7, z8, z9, z10, z11, z12, z13, z14, z15, z16, y0, y1, y2, y3, y4, y5, y6, y7, y8, y9, y10, y11, y12, y13, y14, y15, Nat.reduceAdd, Nat.reduceSub, q0, q1, q2, q3, q4, q5, q6, q7, q8, q9, q10, q11, q12, q13, q14, q15, q16, q17, q18, q19, q20, q21, q22, q23, q24, q25, q26, q27, q28, q29, q30, q31, q32, q33, q34, q35, q36, q37, q38, q39, q40, q41, q42, q43, q44, q45, q46, q47, q48, q49, q50, q51, q52, q53, q54, q55, q56, q57, q58, q59, q60, q61, q62, q63, q64, q65, q66, q67, q68, q69, q70, q71, q72, q73, q74, q75, q76, q77, q78, q79, q80, q81, q82, q83, q84, q85, q86, q87, q88, q89, q90, q91, q92, q93, q94, q95, q96, q97, q98, q99, q100, q101, q102, q103, q104, q105, q106, q107, q108, q109, q110, q111, q112, q113, q114, q115, q116, q117, q118, q119, q120, q121, q122, q123, q124, q125, q126, q127, q128, q129, q130, q131, q132, q133, q134, q135, q136, q137, q138, q139, q140, q141, q142, q143, q144, q145, q146, q147, q148, q149, q150, rho, setAll, roAll, thaw]) <;> exact rfl)
  (ee : es.take (off + len) ++ (xs ++ es.drop (off + len + xs.length)) = es' := by (try dsimp only [z0, z1, z2, z3, z4, z5, z6, z7, z8, z9, z10, z11, z12, z13, z14, z15, z16, y0, y1, y2, y3, y4, y5, y6, y7, y8, y9, y10, y11, y12, y13, y14, y15, Nat.reduceAdd, Nat.reduceSub, q0, q1, q2, q3, q4, q5, q6, q7, q8, q9, q10, q11, q12, q13, q14, q15, q16, q17, q18, q19, q20, q21, q22, q23, q24, q25, q26, q27, q28, q29, q30, q31, q32, q33, q34, q35, q36, q37, q38, q39, q40, q41, q42, q43, q44, q45, q46, q47, q48, q49, q50, q51, q52, q53, q54, q55, q56, q57, q58, q59, q60, q61, q62, q63, q64, q65, q66, q67, q68, q69, q70, q71, q72, q73, q74, q75, q76, q77, q78, q79, q80, q81, q82, q83, q84, q85, q86, q87, q88, q89, q90, q91, q92, q93, q94, q95, q96, q97, q98, q99, q100, q101, q102, q103, q104, q105, q106, q107, q108, q109, q110, q111, q112, q113, q114, q115, q116, q117, q118, q119, q120, q121, q122, q123, q124, q125, q126, q127, q128, q129, q130, q131, q132, q133, q134, q135, q136, q137, q138, q139, q140, q141, q142, q143, q144, q145, q146, q147, q148, q149, q150, rho, setAll, roAll, thaw]) <;> exact rfl)
  (eH : H.set id (.row kk sh es') = H'' := by (try dsimp only [z0, z1, z2, z3, z4, z5, z6, z7, z8, z9, z10, z11, z12, z13, z14, z15, z16, y0, y1, y2, y3, y4, y5, y6, y7, y8, y9, y10, y11, y12, y13, y14, y15, Nat.reduceAdd, Nat.reduceSub, q0, q1, q2, q3, q4, q5, q6, q7, q8, q9, q10, q11, q12, q13, q14, q15, q16, q17, q18, q19, q20, q21, q22, q23, q24, q25, q26, q27, q28, q29, q30, q31, q32, q33, q34, q35, q36, q37, q38, q39, q40, q41, q42, q43, q44, q45, q46, q47, q48, q49, q50, q51, q52, q53, q54, q55, q56, q57, q58, q59, q60, q61, q62, q63, q64, q65, q66, q67, q68, q69, q70, q71, q72, q73, q74, q75, q76, q77, q78, q79, q80, q81, q82, q83, q84, q85, q86, q87, q88, q89, q90, q91, q92, q93, q94, q95, q96, q97, q98, q99, q100, q101, q102, q103, q104, q105, q106, q107, q108, q109, q110, q111, q112, q113, q114, q115, q116, q117, q118, q119, q120, q121, q122, q123, q124, q125, q126, q127, q128, q129, q130, q131, q132, q133, q134, q135, q136, q137, q138, q139, q140, q141, q142, q143, q144, q145, q146, q147, q148, q149, q150, rho, setAll, roAll, thaw]) <;> exact rfl) : NApp H id off len kk sh es xs bytes next := NApp.inplN h1 el ee eH hn
theorem NApp.roA (h1 : len = es.length) (hb : (es.length + xs.length) * bytes ≤ 2 ^ 46) (hn : next (.list sh es') H'') (h0 : off = 0 := by exact rfl)
  (ee : es ++ xs = es' := by (try dsimp only [z0, z1, z2, z3, z4, z5, z6, z7, z8, z9, z10, z11, z12, z13, z14, z15, z16, y0, y1, y2, y3, y4, y5, y6, y7, y8, y9, y10, y11, y12, y13, y14, y15, Nat.reduceAdd, Nat.reduceSub, q0, q1, q2, q3, q4, q5, q6, q7, q8, q9, q10, q11, q12, q13, q14, q15, q16, q17, q18, q19, q20, q21, q22, q23, q24, q25, q26, q27, q28, q29, q30, q31, q32, q33, q34, q35, q36, q37, q38, q39, q40, q41, q42, q43, q44, q45, q46, q47, q48, q49, q50, q51, q52, q53, q54, q55, q56, q57, q58, q59, q60, q61, q62, q63, q64, q65, q66, q67, q68, q69, q70, q71, q72, q73, q74, q75, q76, q77, q78, q79, q80, q81, q82, q83, q84, q85, q86, q87, q88, q89, q90, q91, q92, q93, q94, q95, q96, q97, q98, q99, q100, q101, q102, q103, q104, q105, q106, q107, q108, q109, q110, q111, q112, q113, q114, q115, q116, q117, q118, q119, q120, q121, q122, q123, q124, q125, q126, q127, q128, q129, q130, q131, q132, q133, q134, q135, q136, q137, q138, q139, q140, q141, q142, q143, q144, q145, q146, q147, q148, q149, q150, rho, setAll, roAll, thaw]) <;> exact rfl)
  (eH : H.set id (.ro sh es) = H'' := by (try dsimp only [z0, z1, z2, z3, z4, z5, z6, z7, z8, z9, z10, z11, z12, z13, z14, z15, z16, y0, y1, y2, y3, y4, y5, y6, y7, y8, y9, y10, y11, y12, y13, y14, y15, Nat.reduceAdd, Nat.reduceSub, q0, q1, q2, q3, q4, q5, q6, q7, q8, q9, q10, q11, q12, q13, q14, q15, q16, q17, q18, q19, q20, q21, q22, q23, q24, q25, q26, q27, q28, q29, q30, q31, q32, q33, q34, q35, q36, q37, q38, q39, q40, q41, q42, q43, q44, q45, q46, q47, q48, q49, q50, q51, q52, q53, q54, q55, q56, q57, q58, q59, q60, q61, q62, q63, q64, q65, q66, q67, q68, q69, q70, q71, q72, q73, q74, q75, q76, q77, q78, q79, q80, q81, q82, q83, q84, q85, q86, q87, q88, q89, q90, q91, q92, q93, q94, q95, q96, q97, q98, q99, q100, q101, q102, q103, q104, q105, q106, q107, q108, q109, q110, q111, q112, q113, q114, q115, q116, q117, q118, q119, q120, q121, q122, q123, q124, q125, q126, q127, q128, q129, q130, q131, q132, q133, q134, q135, q136, q137, q138, q139, q140, q141, q142, q143, q144, q145, q146, q147, q148, q149, q150, rho, setAll, roAll, thaw]) <;> exact rfl) : NApp H id off len kk sh es xs bytes next := by
 subst ee eH; exact .ro h0 h1 hb hn
end
theorem NB.yes {b : Bool} {T E : Prop} (hb : b = true) (h : T) : NB b T E := by subst hb; exact h
theorem NB.no {b : Bool} {T E : Prop} (hb : b = false) (h : E) : NB b T E := by subst hb; exact h
/-- An answer that holds nothing owned. -/
theorem NRet.val {P : Program} {Γ : Tab P} {n0 : Nat} {rs : List ResultVar} {r : AV} {H' : List Blk} {fr : Fr} {H : List Blk}
  (h : ares Γ fr H rs fun as => cvsA n0 [] H as fun vs => cvH n0 [] H (List.range n0 ++ []) fun H'' => LeA (mkRes vs) r ∧ H' = H'') : NRet Γ n0 rs r H' fr H := .mk [] rfl h
end Go.Bv
namespace Go.Bv
open Go
def AV.no1 (p : Nat) : AV → Prop
 | .own id _ _ => id ≠ p
 | .ptr id _ _ => id ≠ p
 | .map id => id ≠ p
 | _ => True
def AV.noR (p : Nat) : AV → Prop
 | .fn _ caps => ∀ c ∈ caps, c.no1 p
 | a => a.no1 p
def AV.noA (p : Nat) : AV → Prop
 | .agg cs => ∀ c ∈ cs, c.noR p
 | a => a.noR p
def AV.noT (p : Nat) : AV → Prop
 | .tup vs => ∀ c ∈ vs, c.noA p
 | a => a.noA p
def AV.noId : AV → Bool
 | .undef => true
 | .tup vs => vs.isEmpty
 | a => a.pure
theorem RL.no1 {C : Ctx} {v : Value} {a : AV} {p : Nat} (h : C.H.length ≤ p) (r : RL C v a) : a.no1 p := by
 cases a <;> first | trivial | (obtain ⟨_, h2, _⟩ := r; show _ ≠ _; omega)
theorem R1.noR {C : Ctx} {v : Value} {a : AV} {p : Nat} (h : C.H.length ≤ p) (r : R1 C v a) : a.noR p := by
 cases a with
 | fn f caps =>
  obtain ⟨cv, hv, hsz, hc⟩ := r
  intro c hm
  obtain ⟨i, hi, rfl⟩ := List.mem_iff_getElem.1 hm
  exact (hc i hi).no1 h
 | agg cs => exact (show False from r).elim
 | tup cs => exact (show False from r).elim
 | own _ _ _ => exact RL.no1 (C := C) (v := v) (a := .own _ _ _) h r
 | ptr _ _ _ => exact RL.no1 (C := C) (v := v) (a := .ptr _ _ _) h r
 | map _ => exact RL.no1 (C := C) (v := v) (a := .map _) h r
 | _ => trivial
theorem RA.noA {C : Ctx} {v : Value} {a : AV} {p : Nat} (h : C.H.length ≤ p) (r : RA C v a) : a.noA p := by
 cases a with
 | agg cs =>
  obtain ⟨vs, hv, hsz, hc, _⟩ := r
  intro c hm
  obtain ⟨i, hi, rfl⟩ := List.mem_iff_getElem.1 hm
  exact (hc i hi).noR h
 | tup cs => exact (show False from r).elim
 | fn _ _ => exact R1.noR (C := C) (v := v) (a := .fn _ _) h r
 | own _ _ _ => exact R1.noR (C := C) (v := v) (a := .own _ _ _) h r
 | ptr _ _ _ => exact R1.noR (C := C) (v := v) (a := .ptr _ _ _) h r
 | map _ => exact R1.noR (C := C) (v := v) (a := .map _) h r
 | _ => trivial
theorem RT.noT {C : Ctx} {v : Value} {a : AV} {p : Nat} (h : C.H.length ≤ p) (r : RT C v a) : a.noT p := by
 cases a with
 | tup cs =>
  obtain ⟨vs, hv, hsz, hc⟩ := r
  intro c hm
  obtain ⟨i, hi, rfl⟩ := List.mem_iff_getElem.1 hm
  exact (hc i hi).noA h
 | agg _ => exact RA.noA (C := C) (v := v) (a := .agg _) h r
 | fn _ _ => exact RA.noA (C := C) (v := v) (a := .fn _ _) h r
 | own _ _ _ => exact RA.noA (C := C) (v := v) (a := .own _ _ _) h r
 | ptr _ _ _ => exact RA.noA (C := C) (v := v) (a := .ptr _ _ _) h r
 | map _ => exact RA.noA (C := C) (v := v) (a := .map _) h r
 | _ => trivial
theorem pure1_noR {a : AV} {p : Nat} (h : a.pure1 = true) : a.noR p := by cases a <;> simp_all [AV.pure1, AV.noR, AV.no1]
theorem pure_noA {a : AV} {p : Nat} (h : a.pure = true) : a.noA p := by
 cases a with
 | agg cs =>
  intro c hm
  exact pure1_noR (List.all_eq_true.1 h c hm)
 | _ => first | trivial | (simp [AV.pure, AV.pure1] at h)
theorem noId_noT {a : AV} {p : Nat} (h : a.noId = true) : a.noT p := by
 cases a with
 | undef => trivial
 | tup vs =>
  cases vs with
  | nil => intro c hc; cases hc
  | cons _ _ => simp [AV.noId] at h
 | agg cs => exact pure_noA (a := .agg cs) h
 | _ => first | trivial | (simp [AV.noId, AV.pure, AV.pure1] at h)
section
variable {ρ : Nat → Nat} {C : Ctx} {p : Nat} (hρ : ∀ id, id < C.H.length → id ≠ p → ρ id = id)
include hρ
theorem RL.rn_eq {v : Value} {a : AV} (r : RL C v a) (hn : a.no1 p) : a.rn1 ρ = a := by
 cases a <;> first | rfl | (obtain ⟨_, h2, _⟩ := r; simp only [AV.rn1, hρ _ h2 hn])
theorem R1.rn_eq {v : Value} {a : AV} (r : R1 C v a) (hn : a.noR p) : a.rnR ρ = a := by
 cases a with
 | fn f caps =>
  obtain ⟨cv, hv, hsz, hc⟩ := r
  simp only [AV.rnR, AV.fn.injEq, true_and]
  exact (List.map_congr_left fun c hm => by
   obtain ⟨i, hi, rfl⟩ := List.mem_iff_getElem.1 hm
   exact (hc i hi).rn_eq hρ (hn _ hm)).trans (List.map_id' _)
 | own _ _ _ => exact RL.rn_eq hρ (v := v) (a := .own _ _ _) r hn
 | ptr _ _ _ => exact RL.rn_eq hρ (v := v) (a := .ptr _ _ _) r hn
 | map _ => exact RL.rn_eq hρ (v := v) (a := .map _) r hn
 | _ => rfl
theorem RA.rn_eq {v : Value} {a : AV} (r : RA C v a) (hn : a.noA p) : a.rnA ρ = a := by
 cases a with
 | agg cs =>
  obtain ⟨vs, hv, hsz, hc, _⟩ := r
  simp only [AV.rnA, AV.agg.injEq]
  exact (List.map_congr_left fun c hm => by
   obtain ⟨i, hi, rfl⟩ := List.mem_iff_getElem.1 hm
   exact (hc i hi).rn_eq hρ (hn _ hm)).trans (List.map_id' _)
 | fn _ _ => exact R1.rn_eq hρ (v := v) (a := .fn _ _) r hn
 | own _ _ _ => exact R1.rn_eq hρ (v := v) (a := .own _ _ _) r hn
 | ptr _ _ _ => exact R1.rn_eq hρ (v := v) (a := .ptr _ _ _) r hn
 | map _ => exact R1.rn_eq hρ (v := v) (a := .map _) r hn
 | _ => rfl
theorem RT.rn_eq {v : Value} {a : AV} (r : RT C v a) (hn : a.noT p) : a.rnT ρ = a := by
 cases a with
 | tup cs =>
  obtain ⟨vs, hv, hsz, hc⟩ := r
  simp only [AV.rnT, AV.tup.injEq]
  exact (List.map_congr_left fun c hm => by
   obtain ⟨i, hi, rfl⟩ := List.mem_iff_getElem.1 hm
   exact (hc i hi).rn_eq hρ (hn _ hm)).trans (List.map_id' _)
 | agg _ => exact RA.rn_eq hρ (v := v) (a := .agg _) r hn
 | fn _ _ => exact RA.rn_eq hρ (v := v) (a := .fn _ _) r hn
 | own _ _ _ => exact RA.rn_eq hρ (v := v) (a := .own _ _ _) r hn
 | ptr _ _ _ => exact RA.rn_eq hρ (v := v) (a := .ptr _ _ _) r hn
 | map _ => exact RA.rn_eq hρ (v := v) (a := .map _) r hn
 | _ => rfl
end
theorem pure_rnA {ρ : Nat → Nat} {a : AV} (h : a.pure = true) : a.rnA ρ = a := by
 have one : ∀ {c : AV}, c.pure1 = true → c.rnR ρ = c := by intro c h; cases c <;> simp_all [AV.pure1, AV.rnR, AV.rn1]
 cases a with
 | agg cs =>
  simp only [AV.rnA, AV.agg.injEq]
  exact (List.map_congr_left fun c hm => one (List.all_eq_true.1 h c hm)).trans (List.map_id' _)
 | _ => first | rfl | (simp [AV.pure, AV.pure1] at h)
theorem sub_RT {C : Ctx} {S : List Nat} {H0 : List Blk} (hS : Sel C S H0) {v : Value} {a : AV} (r : RT C v (a.rnT (rho S C.H.length))) : RT (C.sub S H0) v a := by
 cases a with
 | tup cs =>
  obtain ⟨vs, hv, hsz, hc⟩ := r
  refine ⟨vs, hv, by simpa using hsz, fun i hi => sub_RA hS ?_⟩
  have := hc i (by simpa using hi)
  simpa using this
 | agg _ => exact sub_RA hS (a := .agg _) r
 | fn _ _ => exact sub_RA hS (a := .fn _ _) r
 | own _ _ _ => exact sub_RA hS (a := .own _ _ _) r
 | ptr _ _ _ => exact sub_RA hS (a := .ptr _ _ _) r
 | map _ => exact sub_RA hS (a := .map _) r
 | bool b => exact sub_RA hS (a := .bool b) r
 | int k n => exact sub_RA hS (a := .int k n) r
 | str s => exact sub_RA hS (a := .str s) r
 | nils => exact sub_RA hS (a := .nils) r
 | nilfn => exact sub_RA hS (a := .nilfn) r
 | list sh l => exact sub_RA hS (a := .list sh l) r
 | «at» sh x o => exact sub_RA hS (a := .at sh x o) r
 | undef => exact sub_RA hS (v := v) (a := .undef) r
/-- A place that was held free is taken by a new variable. -/
theorem revive {C0 C C2 : Ctx} {p : Nat} {sh : Sh} {z : AV} (hE0 : Ext C0 C) (hC : HRep C) (hp : C.H[p]? = some .dead) (h0p : C0.H.length ≤ p) (hE : Ext C C2) (hC2 : HRep C2) (hH : C2.H = C.H ++ [.row .box sh [z]]) (hz : z.pure = true)
  (hb : ∀ (id : Nat) (sh : Sh) (es : List AV), C.H[id]? = some (.row .box sh es) → ∀ e ∈ es, e.noA p) :
  ∃ C' : Ctx, C'.w = C2.w ∧ C'.H = C.H.set p (.row .box sh [z]) ∧ HRep C' ∧ Ext C0 C' ∧ (∀ (v : Value) (x : AV), RT C v x → x.noT p → RT C' v x) ∧ ∀ v : Value, RT C2 v (.ptr C.H.length 0 0) → RT C' v (.ptr p 0 0) := by
 have hpl : p < C.H.length := (List.getElem?_eq_some_iff.1 hp).1
 let S := (List.range C.H.length).set p C.H.length
 have hSl : S.length = C.H.length := by simp [S]
 have hSg : ∀ i, i < C.H.length → S[i]? = some (if i = p then C.H.length else i) := fun i hi => by
  simp only [S, List.getElem?_set, List.length_range]
  by_cases h : p = i
  ·subst h; simp [hi]
  ·rw [if_neg h, if_neg (Ne.symm h)]; simp [hi]
 have hρ : ∀ i, i < C.H.length → rho S C2.H.length i = if i = p then C.H.length else i := fun i hi => by
  unfold rho; rw [hSg i hi]
 have hρ' : ∀ id, id < C.H.length → id ≠ p → rho S C2.H.length id = id := fun id h1 h2 => by rw [hρ id h1, if_neg h2]
 have hget : ∀ i, i < C.H.length → C2.H[i]? = C.H[i]? := fun i hi => by rw [hH, List.getElem?_append_left hi]
 have hSel : Sel C2 S (C.H.set p (.row .box sh [z])) := by
  refine ⟨?_, by simp [S], fun i b hib => ?_⟩
  ·refine List.pairwise_iff_getElem.2 fun i j hi hj hij => ?_
   simp only [S, List.getElem_set, List.getElem_range]
   simp only [S, List.length_set, List.length_range] at hi hj
   split <;> split <;> omega
  ·have hi : i < C.H.length := by have := (List.getElem?_eq_some_iff.1 hib).1; simpa using this
   refine ⟨_, hSg i hi, ?_⟩
   by_cases h : i = p
   ·subst h
    rw [if_pos rfl, hH, List.getElem?_append_right (Nat.le_refl _), Nat.sub_self]
    rw [List.getElem?_set_self hi] at hib
    cases hib
    show some (Blk.row .box sh [z]) = some (Blk.row .box sh ([z].map _))
    rw [List.map_cons, List.map_nil, pure_rnA hz]
   ·rw [if_neg h, hget i hi]
    rw [List.getElem?_set_ne (Ne.symm h)] at hib
    rw [hib]
    cases b with
    | row k sh' es =>
     cases k with
     | box =>
      obtain ⟨c, T, fr, _, _, _, _, hrow⟩ := hC.row i .box sh' es hib trivial
      show _ = some (Blk.row .box sh' (es.map _))
      rw [(List.map_congr_left fun e hm => by
       obtain ⟨q, hq, rfl⟩ := List.mem_iff_getElem.1 hm
       obtain ⟨v, hv, _⟩ := hrow q hq
       exact hv.rn_eq hρ' (hb i sh' es hib _ hm)).trans (List.map_id' es)]
     | row => rfl
     | vrow => rfl
    | _ => rfl
 have hF : (C2.sub S (C.H.set p (.row .box sh [z]))).F = C.F := by
  rw [← hE.F]
  funext b
  refine propext ⟨fun h => h.elim id fun ⟨id, k, h1, h2, h3, h4⟩ => ?_, fun h => .inl h⟩
  have hid : id = p := by
   have hlt := (List.getElem?_eq_some_iff.1 h1).1
   rw [hH] at hlt
   simp only [List.length_append, List.length_cons, List.length_nil] at hlt
   refine Classical.byContradiction fun hne => h4 ?_
   by_cases hl : id < C.H.length
   ·have := hSg id hl
    rw [if_neg hne] at this
    exact List.mem_iff_getElem?.2 ⟨_, this⟩
   ·have := hSg p hpl
    rw [if_pos rfl] at this
    exact List.mem_iff_getElem?.2 ⟨p, by rw [this]; congr 1; omega⟩
  subst hid
  rw [hget _ hpl, hp] at h1
  cases h1
  exact h2.elim
 have hβ : ∀ id, id < C.H.length → id ≠ p → (C2.sub S (C.H.set p (.row .box sh [z]))).β id = C.β id := fun id h1 h2 => by
  show C2.β (rho S C2.H.length id) = _
  rw [hρ' id h1 h2, hE.beta id h1]
 refine ⟨C2.sub S (C.H.set p (.row .box sh [z])), rfl, rfl, sub_rep hC2 hSel, ?_, fun v x r hx => ?_, fun v r => ?_⟩
 ·have E2 := hE0.trans hE
  have hgl : ∀ id, id < C0.H.length → (C.H.set p (.row .box sh [z]))[id]? = C2.H[id]? := fun id hid => by
   rw [List.getElem?_set_ne (by omega), hget id (Nat.lt_of_lt_of_le hid hE0.len)]
  exact {
   F := hF.trans hE0.F
   os := E2.os
   tape := E2.tape
   output := E2.output
   size := E2.size
   len := by show C0.H.length ≤ (C.H.set p _).length; rw [List.length_set]; exact hE0.len
   beta := fun id hid => (hβ id (Nat.lt_of_lt_of_le hid hE0.len) (by omega)).trans (hE0.beta id hid)
   keep := E2.keep
   fresh := fun id k hid hk hl => by
    have hk : (C.H.set p (.row .box sh [z]))[id]? = some k := hk
    by_cases h : id = p
    ·subst h
     have e : (C2.sub S (C.H.set id (.row .box sh [z]))).β id = C2.β C.H.length := by
      show C2.β (rho S C2.H.length id) = _
      rw [hρ id hpl, if_pos rfl]
     rw [e]
     exact E2.fresh C.H.length (.row .box sh [z]) (Nat.le_trans h0p (by omega)) (by rw [hH, List.getElem?_append_right (Nat.le_refl _)]; simp) trivial
    ·rw [List.getElem?_set_ne (Ne.symm h)] at hk
     rw [hβ id (List.getElem?_eq_some_iff.1 hk).1 h]
     exact hE0.fresh id k hid hk hl
   rows := fun id k' sh' es hid he => E2.rows id k' sh' es hid (by rw [← hgl id hid]; exact he)
   maps := fun id es hid he => E2.maps id es hid (by rw [← hgl id hid]; exact he)
   ros := fun id sh' es hid he => (E2.ros id sh' es hid (by rw [← hgl id hid]; exact he)).imp (fun h => h) fun ⟨k, es0, h1, h2, h3⟩ => ⟨k, es0, h1, h2, fun hl => (h3 hl).mono fun b hb => ⟨sub_G hSel hb, rfl⟩⟩ }
 ·refine sub_RT hSel ?_
  rw [r.rn_eq hρ' hx]
  exact hE.RT r
 ·refine sub_RT hSel ?_
  show RT C2 v (.ptr (rho S C2.H.length p) 0 0)
  rw [hρ p hpl, if_pos rfl]
  exact r
def isAl (ops : List Oper) (j : Nat) : Bool := match ops[j]? with
 | some o => (match o.op with | .alloc _ => true | _ => false) && (match o.guard with | none => true | some _ => false)
 | none => false
/-- May the two come in any order that the region has? New variables may. -/
def evOk2 (ops : List Oper) (ah : List (List Nat)) (x y : Nat × EvK) : Bool :=
 match x.2, y.2 with
 | .eff _, .eff _ => bif isAl ops x.1 then isAl ops y.1 else memN (ah.getD x.1 []) y.1
 | .eff W, .rd R => !touch W R || memN (ah.getD x.1 []) y.1
 | .rd R, .eff W => !touch W R
 | _, _ => true
def drEg (ok : Nat × EvK → Nat × EvK → Bool) : List (Nat × EvK) → Bool
 | [] => true
 | x :: r => r.all (ok x) && drEg ok r
def zOk {P : Program} (Γ : Tab P) (ops : List Oper) : Bool := allLt ops.length fun j => match isAl ops j with
 | true => match ops[j]? with
  | some o => match o.op with
   | .alloc t => match tget Γ.tbl t with
    | some ti => ti.zero.pure
    | none => false
   | _ => false
  | none => false
 | false => true
def vOk (ops : List Oper) (fr : Fr) : Bool := allLt ops.length fun j => match ops[j]? with
 | some o => isAl ops j || (match o.dst with
  | none => true
  | some d => (fr.get d).noId)
 | none => true
noncomputable def drB {P : Program} (Γ : Tab P) (n : Nat) (ops : List Oper) (fr : Fr) (H : List Blk) (K : Fr → List Blk → Prop) : Prop :=
 NP ((drOk ops (ahead [] ops) && (nodupB (ops.filterMap (·.dst)) && zOk Γ ops)) = true) (drun Γ n ops H ops 0 [] fr H fun E fr' H' => NP ((drEg (evOk2 ops (ahead [] ops)) E && vOk ops fr') = true) (K fr' H'))
theorem drun_exg {P : Program} (Γ : Tab P) (n : Nat) (ops : List Oper) (H0 : List Blk) (ok : Nat × EvK → Nat × EvK → Bool) : ∀ (rest : List Oper) (i : Nat) (E : List (Nat × EvK)) (fr : Fr) (H : List Blk) (k : List (Nat × EvK) → Fr → List Blk → Prop), drun Γ n ops H0 rest i E fr H k →
  ∃ (V : Nat → AV) (e : Nat → EvK) (frs : Nat → Fr) (Hs : Nat → List Blk), frs 0 = fr ∧ Hs 0 = H ∧
   (∀ (j : Nat) (o : Oper), rest[j]? = some o → dstOk n o.dst = true ∧ frs (j + 1) = (frs j).put o.dst (V j) ∧ DFact Γ ops H0 (frs j) o (Hs j) (e j) (V j) (Hs (j + 1))) ∧
   ∃ pre, k (pre ++ E) (frs rest.length) (Hs rest.length) ∧ (drEg ok (pre ++ E) = true → ∀ j, j < rest.length → e j ≠ .no → (∀ x ∈ E, ok (i + j, e j) x = true) ∧ ∀ q, q < j → e q ≠ .no → ok (i + j, e j) (i + q, e q) = true)
 | [], i, E, fr, H, k, h => ⟨fun _ => .undef, fun _ => .no, fun _ => fr, fun _ => H, rfl, rfl, fun j o hj => by simp at hj, [], h, fun _ j hj => by simp at hj⟩
 | o :: rest, i, E, fr, H, k, h => by
  simp only [drun_cons] at h
  split at h
  ·rename_i hd
   have key : ∀ (b : EvK) (r : AV) (H' : List Blk), DFact Γ ops H0 fr o H b r H' → drun Γ n ops H0 rest (i + 1) (addEv b i E) (fr.put o.dst r) H' k →
     ∃ (V : Nat → AV) (e : Nat → EvK) (frs : Nat → Fr) (Hs : Nat → List Blk), frs 0 = fr ∧ Hs 0 = H ∧
      (∀ (j : Nat) (o' : Oper), (o :: rest)[j]? = some o' → dstOk n o'.dst = true ∧ frs (j + 1) = (frs j).put o'.dst (V j) ∧ DFact Γ ops H0 (frs j) o' (Hs j) (e j) (V j) (Hs (j + 1))) ∧
      ∃ pre, k (pre ++ E) (frs (o :: rest).length) (Hs (o :: rest).length) ∧ (drEg ok (pre ++ E) = true → ∀ j, j < (o :: rest).length → e j ≠ .no → (∀ x ∈ E, ok (i + j, e j) x = true) ∧ ∀ q, q < j → e q ≠ .no → ok (i + j, e j) (i + q, e q) = true) := by
    intro b r H' hf hr
    obtain ⟨V, e, frs, Hs, h1, h2, h3, pre, h4, h7⟩ := drun_exg Γ n ops H0 ok rest (i + 1) _ _ _ k hr
    have hadd : ∃ l, addEv b i E = l ++ E ∧ (b ≠ .no → (i, b) ∈ l) ∧ (b ≠ .no → l = [(i, b)]) := by
     cases b with
     | no => exact ⟨[], rfl, fun h => absurd rfl h, fun h => absurd rfl h⟩
     | eff W => exact ⟨[(i, .eff W)], rfl, fun _ => by simp, fun _ => rfl⟩
     | rd R => exact ⟨[(i, .rd R)], rfl, fun _ => by simp, fun _ => rfl⟩
    obtain ⟨l, hl, hin, hone⟩ := hadd
    rw [hl] at h4 h7
    refine ⟨fun | 0 => r | j + 1 => V j, fun | 0 => b | j + 1 => e j, fun | 0 => fr | j + 1 => frs j, fun | 0 => H | j + 1 => Hs j, rfl, rfl, ?_, pre ++ l, by rw [List.append_assoc]; exact h4, ?_⟩
    ·intro j q hq
     cases j with
     | zero =>
      simp at hq; subst hq
      refine ⟨hd, h1, ?_⟩
      show DFact Γ ops H0 fr o H b r (Hs 0)
      rw [h2]; exact hf
     | succ j => exact h3 j q (by simpa using hq)
    ·intro hah j hj hb
     rw [List.append_assoc] at hah
     cases j with
     | zero =>
      refine ⟨?_, fun q hq => by omega⟩
      dsimp only at hb
      rw [hone hb] at hah
      have : ∀ (pre : List (Nat × EvK)), drEg ok (pre ++ ([(i, b)] ++ E)) = true → ∀ x ∈ E, ok (i, b) x = true := by
       intro pre hE
       induction pre with
       | nil =>
        simp only [List.nil_append, List.cons_append, drEg, Bool.and_eq_true, List.all_eq_true] at hE
        exact fun x hx => hE.1 x hx
       | cons p pre ih =>
        simp only [List.cons_append, drEg, Bool.and_eq_true] at hE
        exact ih hE.2
      exact this pre hah
     | succ j =>
      obtain ⟨g1, g2⟩ := h7 hah j (by simpa using hj) hb
      rw [show i + 1 + j = i + (j + 1) by omega] at g1 g2
      refine ⟨fun x hx => g1 x (by simp [hx]), fun q hq hb' => ?_⟩
      cases q with
      | zero => exact g1 (i, b) (by simp [hin hb'])
      | succ q =>
       have := g2 q (by omega) hb'
       rwa [show i + 1 + q = i + (q + 1) by omega] at this
   rcases aWanted_det h with ⟨hw, h⟩ | ⟨hw, h⟩
   ·rcases h with ⟨r, h, hn⟩ | ⟨r, h, hn⟩ | ⟨r, H', h, hn⟩ | ⟨W, r, H', h, ha, hn⟩ | ⟨R, r, h, hn⟩
    ·exact key .no r H (.inl ⟨hw, .inl ⟨rfl, rfl, .inl h⟩⟩) (by rwa [nrm_eq] at hn)
    ·exact key .no r H (.inl ⟨hw, .inl ⟨rfl, rfl, .inr h⟩⟩) (by rwa [nrm_eq] at hn)
    ·exact key (.eff none) r H' (.inl ⟨hw, .inr (.inl ⟨rfl, (fun W hW => by cases hW), h⟩)⟩) (by rwa [nrm_eq] at hn)
    ·exact key (.eff (some W)) r H' (.inl ⟨hw, .inr (.inl ⟨rfl, (fun W' hW => by cases hW; exact ha), h⟩)⟩) (by rwa [nrm_eq] at hn)
    ·exact key (.rd R) r H (.inl ⟨hw, .inr (.inr ⟨R, rfl, rfl, h⟩)⟩) (by rwa [nrm_eq] at hn)
   ·exact key .no (.tup []) H (.inr ⟨hw, rfl, rfl, rfl⟩) h
  ·exact h.elim
section
variable {P : Program} (Γ : Tab P) {n : Nat} {ops : Array Oper}
theorem dr_snd2 (hm : P.follows .mixedOrders = true) : DrSnd P n (drB Γ n) := by
  intro rid ops C0 C1 a1 fr K Q s h hQ
  obtain ⟨hok, h⟩ := h
  simp only [Bool.and_eq_true] at hok
  obtain ⟨hok, hndB, hzB⟩ := hok
  obtain ⟨V, e, frs, Hs, rfl, hH0, hst, pre, ⟨hord, hK⟩, hpr⟩ := drun_exg Γ n ops.toList C1.H (evOk2 ops.toList (ahead [] ops.toList)) ops.toList 0 [] _ _ _ h
  rw [Bool.and_eq_true] at hord
  have hpr := hpr hord.1
  have hvB := hord.2
  refine wp_region_any hm ?_
  -- the static facts
  have hN : ops.toList.length = ops.size := by simp
  have hget : ∀ j o, ops[j]? = some o → ops.toList[j]? = some o := fun j o h => by rw [Array.getElem?_toList]; exact h
  have hah : ∀ j o, ops[j]? = some o → (∀ d ∈ deps o, d < j) ∧ (∀ x ∈ (ahead [] ops.toList).getD j [], x ∈ deps o ∨ ∃ d ∈ deps o, x ∈ (ahead [] ops.toList).getD d []) ∧
      ∀ i p, i < j → ops[i]? = some p → meets ops.toList p o = true → i ∈ (ahead [] ops.toList).getD j [] := by
    intro j o ho
    have hj : j < ops.toList.length := by rw [hN]; exact (Array.getElem?_eq_some_iff.1 ho).1
    have := allLt_spec hok j hj
    rw [hget j o ho] at this
    simp only [Bool.and_eq_true, List.all_eq_true, Bool.or_eq_true, List.any_eq_true, memN_iff] at this
    obtain ⟨⟨h1, h2⟩, h3⟩ := this
    refine ⟨fun d hd => by simpa [Nat.blt_eq] using h1 d hd, fun x hx => (h2 x hx).imp id fun ⟨d, hd, hx⟩ => ⟨d, hd, hx⟩, fun i p hi hp hmt => ?_⟩
    have := allLt_spec h3 i hi
    rw [hget i p hp] at this
    simp only [Bool.or_eq_true, Bool.not_eq_true', memN_iff] at this
    rcases this with h | h
    · rw [hmt] at h; cases h
    · exact h
  generalize ahead [] ops.toList = ah at *
  -- what is listed is closed
  have hclosed : ∀ (listed : Array Bool), (∀ j o, ops[j]? = some o → listed.getD j false = true → ∀ d ∈ deps o, listed.getD d false = true) →
      ∀ j o, ops[j]? = some o → (∀ d ∈ deps o, listed.getD d false = true) → ∀ x ∈ ah.getD j [], listed.getD x false = true := by
    intro listed hcl j
    induction j using Nat.strongRecOn with
    | _ j ih =>
      intro o ho hd x hx
      obtain ⟨h1, h2, _⟩ := hah j o ho
      rcases h2 x hx with h | ⟨d, hdd, hx⟩
      · exact hd x h
      · have hdj := h1 d hdd
        have hlt : d < ops.size := by have := (Array.getElem?_eq_some_iff.1 ho).1; omega
        exact ih d hdj ops[d] (Array.getElem?_eq_getElem hlt) (hcl d ops[d] (Array.getElem?_eq_getElem hlt) (hd d hdd)) x hx
  -- pairs of operations that have to do with owned blocks
  have hpair : ∀ i j, i < j → j < ops.toList.length → (e i).isEff = true → (e j).isEff = true → (isAl ops.toList j = true → isAl ops.toList i = true) ∧ (isAl ops.toList j = false → i ∈ ah.getD j []) := by
    intro i j hij hj hi hj'
    have hni : e i ≠ .no := fun h => by rw [h] at hi; cases hi
    have hnj : e j ≠ .no := fun h => by rw [h] at hj'; cases hj'
    have := (hpr j hj hnj).2 i hij hni
    simp only [Nat.zero_add, evOk2] at this
    cases h1 : e i with
    | eff W =>
      cases h2 : e j with
      | eff W' =>
        rw [h1, h2] at this
        cases hA : isAl ops.toList j with
        | true => rw [hA] at this; exact ⟨fun _ => by simpa using this, fun h => (by cases h)⟩
        | false => rw [hA] at this; exact ⟨fun h => (by cases h), fun _ => by simpa [memN_iff] using this⟩
      | _ => rw [h2] at hj'; cases hj'
    | _ => rw [h1] at hi; cases hi
  -- slots between two points
  have hsame : ∀ t x y, x ≤ y → y ≤ ops.size → (∀ i p, x ≤ i → i < y → ops[i]? = some p → p.dst ≠ some t) → (frs y).get t = (frs x).get t := by
    intro t x y hxy
    obtain ⟨d, rfl⟩ := Nat.exists_eq_add_of_le hxy
    clear hxy
    induction d with
    | zero => intro _ _; rfl
    | succ d ih =>
      intro hy hno
      have hxy : x ≤ x + d := Nat.le_add_right _ _
      generalize hyy : x + d = y at *
      rw [show x + (d + 1) = y + 1 by omega] at *
      have hlt : y < ops.size := by omega
      obtain ⟨_, h2, _⟩ := hst y ops[y] (hget y _ (Array.getElem?_eq_getElem hlt))
      rw [h2, Fr.get_put, if_neg (hno y _ hxy (Nat.lt_succ_self y) (Array.getElem?_eq_getElem hlt))]
      exact ih (by omega) (fun i p h1 h2 => hno i p h1 (by omega))
  have hsameH : ∀ x y, x ≤ y → y ≤ ops.size → (∀ i, x ≤ i → i < y → (e i).isEff = false) → Hs y = Hs x := by
    intro x y hxy
    obtain ⟨d, rfl⟩ := Nat.exists_eq_add_of_le hxy
    clear hxy
    induction d with
    | zero => intro _ _; rfl
    | succ d ih =>
      intro hy hno
      have hxy : x ≤ x + d := Nat.le_add_right _ _
      generalize hyy : x + d = y at *
      rw [show x + (d + 1) = y + 1 by omega] at *
      have hlt : y < ops.size := by omega
      obtain ⟨_, _, h3⟩ := hst y ops[y] (hget y _ (Array.getElem?_eq_getElem hlt))
      have he := hno y hxy (Nat.lt_succ_self y)
      have : Hs (y + 1) = Hs y := by
        rcases h3 with ⟨_, ⟨_, h, _⟩ | ⟨h, _⟩ | ⟨_, _, h, _⟩⟩ | ⟨_, _, _, h⟩
        · exact h
        · rw [he] at h; cases h
        · exact h
        · exact h
      rw [this]
      exact ih (by omega) (fun i h1 h2 => hno i h1 (by omega))
  -- new variables
  have hal : ∀ j, ∃ q : Sh × AV, isAl ops.toList j = true → ∃ o, ops[j]? = some o ∧ o.guard = none ∧ q.2.pure = true ∧ (e j).isEff = true ∧ V j = .ptr (Hs j).length 0 0 ∧ Hs (j + 1) = Hs j ++ [.row .box q.1 [q.2]] ∧
      ∀ (fr : Fr) (H : List Blk) (next : AV → List Blk → Prop), next (.ptr H.length 0 0) (H ++ [.row .box q.1 [q.2]]) → aop Γ fr o.op H next := by
    intro j
    cases hA : isAl ops.toList j with
    | false => exact ⟨(.leaf, .undef), fun h => by cases h⟩
    | true =>
      have hA' := hA
      unfold isAl at hA'
      cases ho : ops.toList[j]? with
      | none => rw [ho] at hA'; simp at hA'
      | some o =>
        rw [ho] at hA'
        simp only [Bool.and_eq_true] at hA'
        obtain ⟨ha1, ha2⟩ := hA'
        have hg : o.guard = none := by cases hg : o.guard with
          | none => rfl
          | some g => rw [hg] at ha2; simp at ha2
        cases hop : o.op <;> rw [hop] at ha1 <;> try (simp at ha1; done)
        rename_i t
        have hj : j < ops.toList.length := (List.getElem?_eq_some_iff.1 ho).1
        have hz := allLt_spec hzB j hj
        simp only [hA, ho, hop] at hz
        cases hti : tget Γ.tbl t with
        | none => rw [hti] at hz; simp at hz
        | some ti =>
          rw [hti] at hz
          obtain ⟨sh, by', kd, z⟩ := ti
          have inv : ∀ (fr : Fr) (H : List Blk) (next : AV → List Blk → Prop), aop Γ fr (.alloc t) H next → (isSh z sh && Nat.ble 1 sh.size) = true ∧ next (.ptr H.length 0 0) (H ++ [.row .box sh [z]]) := fun fr H next h => by
            simp only [aop, hti] at h
            split at h
            · rename_i hs; exact ⟨hs, h⟩
            · split at h
              · split at h
                · split at h
                  · exact absurd hz (by simp [AV.pure, AV.pure1])
                  · exact h.elim
                · exact h.elim
              · exact h.elim
          have oto : (isSh z sh && Nat.ble 1 sh.size) = true → ∀ (fr : Fr) (H : List Blk) (next : AV → List Blk → Prop), next (.ptr H.length 0 0) (H ++ [.row .box sh [z]]) → aop Γ fr (.alloc t) H next := fun hs fr H next h => by
            simp only [aop, hti, hs]; exact h
          refine ⟨(sh, z), fun _ => ⟨o, by rw [← Array.getElem?_toList]; exact ho, hg, hz, ?_⟩⟩
          obtain ⟨_, _, hf⟩ := hst j o ho
          rcases hf with ⟨_, ⟨_, _, hf | hf⟩ | ⟨hb, _, hf⟩ | ⟨R, _, _, hf⟩⟩ | ⟨hw, _⟩
          · rw [hop] at hf; have := (inv _ _ _ hf).2.2; simp at this
          · have hf := hf []; rw [hop] at hf; have := (inv _ _ _ hf).2.2; simp at this
          · rw [hop] at hf
            obtain ⟨hs, h1, h2⟩ := inv _ _ _ hf
            exact ⟨hb, h1.symm, h2.symm, fun fr H next hn => by rw [hop]; exact oto hs fr H next hn⟩
          · have hf := hf (fun _ => .dead) []; rw [hop] at hf
            have := (inv _ _ _ hf).2.2
            have := congrArg List.length this
            simp at this
          · rw [hg] at hw; exact hw.elim
  obtain ⟨sz, hal⟩ := Classical.axiomOfChoice hal
  have hal : ∀ j, isAl ops.toList j = true → ∃ o, ops[j]? = some o ∧ o.guard = none ∧ (sz j).2.pure = true ∧ (e j).isEff = true ∧ V j = .ptr (Hs j).length 0 0 ∧ Hs (j + 1) = Hs j ++ [.row .box (sz j).1 [(sz j).2]] ∧
      ∀ (fr : Fr) (H : List Blk) (next : AV → List Blk → Prop), next (.ptr H.length 0 0) (H ++ [.row .box (sz j).1 [(sz j).2]]) → aop Γ fr o.op H next := fun j h => hal j h
  have haN : ∀ j, isAl ops.toList j = true → j < ops.size := fun j h => by
    obtain ⟨o, ho, _⟩ := hal j h
    exact (Array.getElem?_eq_some_iff.1 ho).1
  generalize hisA : isAl ops.toList = isA at *
  let asU : Nat → List Nat := fun k => (List.range k).filter isA
  let zb : Nat → Blk := fun j => .row .box (sz j).1 [(sz j).2]
  have hasS : ∀ k, asU (k + 1) = asU k ++ if isA k then [k] else [] := fun k => by
    simp only [asU, List.range_succ, List.filter_append]
    cases h : isA k <;> simp [h]
  have hasE : ∀ k d, (∀ i, k ≤ i → i < k + d → isA i = false) → asU (k + d) = asU k := by
    intro k d
    induction d with
    | zero => intro _; rfl
    | succ d ihd =>
      intro h
      rw [show k + (d + 1) = (k + d) + 1 by omega, hasS, h (k + d) (by omega) (by omega), ihd fun i h1 h2 => h i h1 (by omega)]
      simp
  have hHsA : ∀ k, k ≤ ops.size → (∀ i, i < k → (e i).isEff = true → isA i = true) → Hs k = Hs 0 ++ (asU k).map zb := by
    intro k
    induction k with
    | zero => intro _ _; simp [asU]
    | succ k ihk =>
      intro hk hall
      have ih := ihk (by omega) fun i hi => hall i (by omega)
      rw [hasS]
      cases hA : isA k with
      | true =>
        obtain ⟨o, ho, _, _, _, _, h2, _⟩ := hal k hA
        rw [h2, ih]
        simp [zb]
      | false =>
        have : Hs (k + 1) = Hs k := hsameH k (k + 1) (by omega) hk fun i h1 h2 => by
          have : i = k := by omega
          subst this
          cases hb : (e i).isEff with
          | false => rfl
          | true => rw [hall i (by omega) hb] at hA; cases hA
        rw [this, ih]
        simp
  have hpos : ∀ j, isA j = true → Hs j = Hs 0 ++ (asU j).map zb := fun j hA => by
    obtain ⟨_, _, _, _, hb, _⟩ := hal j hA
    have hj := haN j hA
    exact hHsA j (by omega) fun i hi hei => (hpair i j hi (by rw [hN]; exact hj) hei hb).1 hA
  let pos : Nat → Nat := fun j => (Hs 0).length + (asU j).length
  have hVpos : ∀ j, isA j = true → V j = .ptr (pos j) 0 0 := fun j hA => by
    obtain ⟨_, _, _, _, _, hV, _⟩ := hal j hA
    rw [hV, hpos j hA]; simp [pos]
  have hlate : ∀ i j, isA j = true → (e i).isEff = true → isA i = false → i < ops.size → j < i := fun i j hA hei hi hiN => by
    obtain ⟨_, _, _, _, hb, _⟩ := hal j hA
    have hj := haN j hA
    rcases Nat.lt_trichotomy j i with h | h | h
    · exact h
    · subst h; rw [hA] at hi; cases hi
    · have := (hpair i j h (by rw [hN]; exact hj) hei hb).1 hA
      rw [this] at hi; cases hi
  have hkk : ∃ kk, kk ≤ ops.size ∧ (∀ q, isA q = true → q < kk) ∧ (∀ i, i < ops.size → (e i).isEff = true → isA i = false → kk ≤ i) ∧ asU kk = asU ops.size ∧ Hs kk = Hs 0 ++ (asU ops.size).map zb := by
    have least : ∀ m, m ≤ ops.size → (∃ i0, i0 < m ∧ ((e i0).isEff = true ∧ isA i0 = false) ∧ ∀ i, i < i0 → ¬ ((e i).isEff = true ∧ isA i = false)) ∨ ∀ i, i < m → ¬ ((e i).isEff = true ∧ isA i = false) := by
      intro m
      induction m with
      | zero => intro _; exact .inr fun i hi => by omega
      | succ m ihm =>
        intro hm
        rcases ihm (by omega) with ⟨i0, h1, h2, h3⟩ | h
        · exact .inl ⟨i0, by omega, h2, h3⟩
        · by_cases hP : (e m).isEff = true ∧ isA m = false
          · exact .inl ⟨m, by omega, hP, h⟩
          · exact .inr fun i hi => by
              rcases Nat.lt_or_ge i m with h' | h'
              · exact h i h'
              · rw [show i = m by omega]; exact hP
    have fromK : ∀ kk, kk ≤ ops.size → (∀ q, isA q = true → q < kk) → (∀ i, i < kk → ¬ ((e i).isEff = true ∧ isA i = false)) → asU kk = asU ops.size ∧ Hs kk = Hs 0 ++ (asU ops.size).map zb := fun kk hk hq hno => by
      have e1 : asU ops.size = asU kk := by
        have := hasE kk (ops.size - kk) fun i h1 h2 => by
          cases hA : isA i with
          | false => rfl
          | true => have := hq i hA; omega
        rwa [show kk + (ops.size - kk) = ops.size by omega] at this
      refine ⟨e1.symm, ?_⟩
      rw [e1]
      exact hHsA kk hk fun i hi hei => by
        cases hA : isA i with
        | true => rfl
        | false => exact absurd ⟨hei, hA⟩ (hno i hi)
    rcases least ops.size (Nat.le_refl _) with ⟨i0, h1, h2, h3⟩ | h
    · have hq : ∀ q, isA q = true → q < i0 := fun q hA => hlate i0 q hA h2.1 h2.2 h1
      obtain ⟨g1, g2⟩ := fromK i0 (by omega) hq h3
      exact ⟨i0, by omega, hq, fun i hi hei hA => Nat.le_of_not_lt fun hlt => h3 i hlt ⟨hei, hA⟩, g1, g2⟩
    · have hq : ∀ q, isA q = true → q < ops.size := haN
      obtain ⟨g1, g2⟩ := fromK ops.size (Nat.le_refl _) hq h
      exact ⟨ops.size, Nat.le_refl _, hq, fun i hi hei hA => absurd ⟨hei, hA⟩ (h i hi), g1, g2⟩
  -- what other operations leave in slots names no block
  have hVno : ∀ j o d, ops[j]? = some o → isA j = false → o.dst = some d → (V j).noId = true := by
    intro j o d ho hA hd
    have hj : j < ops.size := (Array.getElem?_eq_some_iff.1 ho).1
    have := allLt_spec hvB j (by rw [hN]; exact hj)
    simp only [hget j o ho, hisA, hA, hd, Bool.false_or] at this
    have hfin : (frs ops.toList.length).get d = V j := by
      rw [hN, hsame d (j + 1) ops.size (by omega) (Nat.le_refl _) fun i p h1 h2 hp hpd => ?_]
      · rw [(hst j o (hget j o ho)).2.1, Fr.get_put, if_pos hd]
      · have hnd := nodupB_spec _ hndB
        have key : ∀ (l : List Oper), (l.filterMap (·.dst)).Nodup → ∀ (x y : Nat) (a b : Oper) (d : Nat), x < y → l[x]? = some a → l[y]? = some b → a.dst = some d → b.dst = some d → False := by
          intro l
          induction l with
          | nil => intro _ x y a b d _ h; simp at h
          | cons c l ihl =>
            intro hn x y a b d hxy hx hy hax hby
            have hn' : (l.filterMap (·.dst)).Nodup := by
              rw [List.filterMap_cons] at hn
              split at hn
              · exact hn
              · exact (List.nodup_cons.1 hn).2
            cases y with
            | zero => omega
            | succ y =>
              cases x with
              | zero =>
                simp only [List.getElem?_cons_zero, Option.some.injEq] at hx
                subst hx
                rw [List.filterMap_cons, hax] at hn
                exact (List.nodup_cons.1 hn).1 (List.mem_filterMap.2 ⟨b, List.mem_iff_getElem?.2 ⟨y, by simpa using hy⟩, hby⟩)
              | succ x => exact ihl hn' x y a b d (by omega) (by simpa using hx) (by simpa using hy) hax hby
        exact key _ hnd j i o p d (by omega) (hget j o ho) (hget i p hp) hd hpd
    rwa [hfin] at this
  -- the owned blocks, while some new variables are not laid yet, and behind that
  let HI : Array Bool → List Blk → Prop := fun listed H =>
    ((∃ q, isA q = true ∧ listed.getD q false = false) ∧ (∀ i, i < ops.size → (e i).isEff = true → isA i = false → listed.getD i false = false) ∧ H = Hs 0 ++ (asU ops.size).map fun q => if listed.getD q false = true then zb q else .dead) ∨
    ((∀ q, isA q = true → listed.getD q false = true) ∧ ∃ k, k ≤ ops.size ∧ H = Hs k ∧ ∀ i, i < ops.size → (e i).isEff = true → (listed.getD i false = true ↔ i < k))
  -- the walk, in any order
  -- all listed: the end
  have fin : ∀ (listed : Array Bool) (C : Ctx) (a : Act), (∀ i, i < ops.size → listed.getD i false = true) → Ext C0 C → HRep C → a.tmps.size = n → a.defers = [] →
      (∀ t, ∃ k, k ≤ ops.size ∧ RT C (a.tmps.getD t undef) ((frs k).get t) ∧ (∀ (i : Nat) (p : Oper), ops[i]? = some p → p.dst = some t → (listed.getD i false = true ↔ i < k)) ∧ ∀ q, isA q = true → listed.getD q false = false → ((frs k).get t).noT (pos q)) →
      HI listed C.H → Q .normal a C.w := by
    intro listed C a hall hE hC hn hdf hT hHI
    obtain ⟨k, hk, hH, hke⟩ : ∃ k, k ≤ ops.size ∧ C.H = Hs k ∧ ∀ i, i < ops.size → (e i).isEff = true → (listed.getD i false = true ↔ i < k) := by
      rcases hHI with ⟨⟨q, hq, hl⟩, _⟩ | ⟨_, h⟩
      · rw [hall q (haN q hq)] at hl; cases hl
      · exact h
    have hHN : C.H = Hs ops.toList.length := by
      rw [hN, hH]
      refine (hsameH k ops.size hk (Nat.le_refl _) fun i h1 h2 => ?_).symm
      cases hb : (e i).isEff with
      | false => rfl
      | true => have := (hke i h2 hb).1 (hall i h2); omega
    refine hQ C a (frs ops.toList.length) ⟨hE, hC, fun t => ?_, hn, hdf⟩ (by rw [hHN]; exact hK)
    obtain ⟨k, hk, hr, hkt, hkn⟩ := hT t
    rw [hN, hsame t k ops.size hk (Nat.le_refl _) fun i p h1 h2 hp hd => ?_]
    · exact hr
    · have := (hkt i p hp hd).1 (hall i h2); omega
  -- the walk, in any order
  have main : ∀ (fuel : Nat) (listed : Array Bool) (C : Ctx) (a : Act), listed.size = ops.size → left listed ops.size ≤ fuel →
      (∀ (j : Nat) (o : Oper), ops[j]? = some o → listed.getD j false = true → ∀ d ∈ deps o, listed.getD d false = true) →
      Ext C0 C → HRep C → a.tmps.size = n → a.defers = [] →
      (∀ t, ∃ k, k ≤ ops.size ∧ RT C (a.tmps.getD t undef) ((frs k).get t) ∧ (∀ (i : Nat) (p : Oper), ops[i]? = some p → p.dst = some t → (listed.getD i false = true ↔ i < k)) ∧ ∀ q, isA q = true → listed.getD q false = false → ((frs k).get t).noT (pos q)) →
      HI listed C.H →
      wpAny P .any ops Q fuel listed a C.w := by
    intro fuel
    induction fuel with
    | zero =>
      intro listed C a hsz hl hcl hE hC hn hdf hT hHk
      have hall := left_zero ops.size (by omega : left listed ops.size = 0)
      have hall' : ∀ i, i < ops.size → listed.getD i false = true := fun i hi => by rw [← getD_tf (by omega)]; exact hall i hi
      refine ⟨?_, fin listed C a hall' hE hC hn hdf hT hHk⟩
      cases hr : Region.ready .any ops listed with
      | nil => rfl
      | cons x r =>
        have : x ∈ Region.ready .any ops listed := by rw [hr]; simp
        obtain ⟨h0, o, ho, _⟩ := mem_ready.1 this
        rw [hall x (Array.getElem?_eq_some_iff.1 ho).1] at h0; cases h0
    | succ fuel ih =>
      intro listed C a hsz hl hcl hE hC hn hdf hT hHk
      refine ⟨fun hr => fin listed C a ?_ hE hC hn hdf hT hHk, fun j hj => ?_⟩
      · -- nothing is ready: all is listed
        intro i
        induction i using Nat.strongRecOn with
        | _ i ih =>
          intro hi
          cases hb : listed.getD i false with
          | true => rfl
          | false =>
            have ho : ops[i]? = some ops[i] := Array.getElem?_eq_getElem hi
            have : i ∈ Region.ready .any ops listed := mem_ready.2 ⟨by rw [getD_tf (by omega)]; exact hb, ops[i], ho, fun ed hed hbd => by
              have hd : ed.on ∈ deps ops[i] := List.mem_filterMap.2 ⟨ed, by simpa using hed, by simp [hbd]⟩
              have := (hah i _ ho).1 _ hd
              exact ih _ this (by omega)⟩
            rw [hr] at this; cases this
      · obtain ⟨hun, o, ho, haft⟩ := mem_ready.1 hj
        have hjs : j < ops.size := (Array.getElem?_eq_some_iff.1 ho).1
        have hunf : listed.getD j false = false := by rw [← getD_tf (by omega)]; exact hun
        have hdl : ∀ d ∈ deps o, listed.getD d false = true := fun d hd => by
          obtain ⟨ed, hed, h⟩ := List.mem_filterMap.1 hd
          by_cases hb : Region.binds .any ed = true
          · rw [if_pos hb] at h; cases h
            exact haft ed (by simpa using hed) hb
          · rw [if_neg hb] at h; cases h
        have hahj := hclosed listed hcl j o ho hdl
        have hnot : ∀ i p, ops[i]? = some p → j ∈ ah.getD i [] → listed.getD i false = false := fun i p hp hm => by
          cases hb : listed.getD i false with
          | false => rfl
          | true =>
            have := hclosed listed hcl i p hp (hcl i p hp hb) j hm
            rw [hunf] at this; cases this
        obtain ⟨hdst, hfr, hf⟩ := hst j o (hget j o ho)
        obtain ⟨_, _, hmt⟩ := hah j o ho
        -- a slot that the operation looks at
        have hread : ∀ t, (t ∈ opTmps o.op ∨ t ∈ gTmps ops.toList o) → RT C (a.tmps.getD t undef) ((frs j).get t) := by
          intro t ht
          obtain ⟨k, hk, hr, hkt, hkn⟩ := hT t
          have hm1 : ∀ p : Oper, p.dst = some t → meets ops.toList p o = true := fun p hp => by
            unfold meets
            rw [hp]
            simp only [Bool.or_eq_true, memN_iff]
            exact .inl (.inl ht)
          have hm2 : ∀ p : Oper, p.dst = some t → meets ops.toList o p = true := fun p hp => by
            unfold meets
            rw [hp]
            simp only [Bool.or_eq_true, memN_iff]
            exact .inr ht
          rcases Nat.le_total k j with hkj | hkj
          · rw [hsame t k j hkj (by omega) fun i p h1 h2 hp hd => ?_]
            · exact hr
            · have := (hkt i p hp hd).1 (hahj i (hmt i p h2 hp (hm1 p hd)))
              omega
          · rw [← hsame t j k hkj hk fun i p h1 h2 hp hd => ?_]
            · exact hr
            · have hl := (hkt i p hp hd).2 h2
              rcases Nat.lt_or_ge j i with hji | hji
              · have := hnot i p hp ((hah i p hp).2.2 j o hji ho (hm2 p hd))
                rw [this] at hl; cases hl
              · have : i = j := by omega
                subst this
                rw [hunf] at hl; cases hl
        -- what comes behind it
        have hBof : isA j = false → (e j).isEff = true → (∀ q, isA q = true → listed.getD q false = true) ∧ ∃ k, k ≤ ops.size ∧ C.H = Hs k ∧ ∀ i, i < ops.size → (e i).isEff = true → (listed.getD i false = true ↔ i < k) := by
          intro hA hb
          rcases hHk with ⟨⟨q, hq, hl⟩, _⟩ | h
          · obtain ⟨_, _, _, _, hqb, _⟩ := hal q hq
            have := (hpair q j (hlate j q hq hb hA hjs) (by rw [hN]; exact hjs) hqb hb).2 hA
            rw [hahj q this] at hl; cases hl
          · exact h
        have hgt : ∀ i, i ≠ j → (listed.setIfInBounds j true).getD i false = listed.getD i false := fun i hi => getD_set_ne false (Ne.symm hi)
        have hgj : (listed.setIfInBounds j true).getD j false = true := by simp [show j < listed.size by omega]
        have step : ∀ (v : Value) (C' : Ctx), Ext C0 C' → HRep C' → (∀ (v : Value) (x : AV), RT C v x → (isA j = true → x.noT (pos j)) → RT C' v x) → RT C' v (V j) →
            (∀ d, o.dst = some d → ∀ q, isA q = true → q ≠ j → listed.getD q false = false → (V j).noT (pos q)) → HI (listed.setIfInBounds j true) C'.H →
            wpAny P .any ops Q fuel (listed.setIfInBounds j true) (a.put o.dst v) C'.w := by
          intro v C' hE' hC' hRT hv hVq hH'
          refine ih _ C' _ (by simp [hsz]) (by have := left_set hun ops.size hjs; omega) ?_ hE' hC' ?_ ?_ ?_ hH'
          · intro i p hp hi d hd
            by_cases hij : i = j
            · subst hij
              rw [ho] at hp; cases hp
              exact getD_set_true (hdl d hd)
            · rw [hgt i hij] at hi
              exact getD_set_true (hcl i p hp hi d hd)
          · cases o.dst <;> simp [Act.put, hn]
          · cases o.dst <;> simp [Act.put, hdf]
          · intro t
            by_cases htd : o.dst = some t
            · refine ⟨j + 1, by omega, ?_, fun i p hp hd => ?_, fun q hq hl => ?_⟩
              · have hlt : t < a.tmps.size := by
                  rw [htd] at hdst
                  rw [hn]; simpa [dstOk, Nat.blt_eq] using hdst
                rw [hfr, Fr.get_put, if_pos htd, htd]
                simp only [Act.put]
                simp only [Array.getD_eq_getD_getElem?, Array.getElem?_setIfInBounds_self_of_lt hlt, Option.getD_some]
                exact hv
              · by_cases hij : i = j
                · subst hij; simp [hgj]
                · rw [hgt i hij]
                  rcases Nat.lt_or_ge i j with h | h
                  · have : meets ops.toList p o = true := by
                      unfold meets
                      rw [hd, htd]
                      simp [memN_iff]
                    simp [hahj i (hmt i p h hp this)]; omega
                  · have : meets ops.toList o p = true := by
                      unfold meets
                      rw [hd, htd]
                      simp [memN_iff]
                    simp [hnot i p hp ((hah i p hp).2.2 j o (by omega) ho this)]; omega
              · have hqj : q ≠ j := fun e => by subst e; rw [hgj] at hl; cases hl
                rw [hgt q hqj] at hl
                rw [hfr, Fr.get_put, if_pos htd]
                exact hVq t htd q hq hqj hl
            · obtain ⟨k, hk, hr, hkt, hkn⟩ := hT t
              refine ⟨k, hk, ?_, fun i p hp hd => ?_, fun q hq hl => ?_⟩
              · have : (a.put o.dst v).tmps.getD t undef = a.tmps.getD t undef := by
                  cases hd : o.dst with
                  | none => rfl
                  | some d =>
                    have hne : d ≠ t := fun e => htd (by rw [hd, e])
                    simp only [Act.put, Array.getD_eq_getD_getElem?, Array.getElem?_setIfInBounds_ne hne]
                rw [this]; exact hRT _ _ hr fun hA => hkn j hA hunf
              · have : i ≠ j := fun e => by subst e; rw [ho] at hp; cases hp; exact htd hd
                rw [hgt i this]; exact hkt i p hp hd
              · refine hkn q hq ?_
                by_cases hqj : q = j
                · subst hqj; exact hunf
                · rw [hgt q hqj] at hl; exact hl
        -- an operation that leaves the blocks
        have stepN : ∀ (v : Value) (C' : Ctx), Ext C C' → HRep C' → RT C' v (V j) → C'.H = C.H → (e j).isEff = false → wpAny P .any ops Q fuel (listed.setIfInBounds j true) (a.put o.dst v) C'.w := by
          intro v C' hE' hC' hv hCH hb
          have hA : isA j = false := by
            cases h : isA j with
            | false => rfl
            | true => obtain ⟨_, _, _, _, hb', _⟩ := hal j h; rw [hb] at hb'; cases hb'
          refine step v C' (hE.trans hE') hC' (fun _ _ r _ => hE'.RT r) hv (fun d hd q _ _ _ => noId_noT (hVno j o d ho hA hd)) ?_
          rw [hCH]
          rcases hHk with ⟨⟨q, hq, hl⟩, hno, hH⟩ | ⟨hall, k, hk, hHk, hke⟩
          · have hne : ∀ q, isA q = true → q ≠ j := fun q hq e => by subst e; rw [hA] at hq; cases hq
            refine .inl ⟨⟨q, hq, by rw [hgt q (hne q hq)]; exact hl⟩, fun i hi hei hAi => ?_, ?_⟩
            · have : i ≠ j := fun e => by subst e; rw [hb] at hei; cases hei
              rw [hgt i this]; exact hno i hi hei hAi
            · rw [hH]
              congr 1
              refine List.map_congr_left fun q hq => ?_
              rw [hgt q (hne q (List.mem_filter.1 hq).2)]
          · refine .inr ⟨fun q hq => ?_, k, hk, hHk, fun i hi hei => ?_⟩
            · have : q ≠ j := fun e => by subst e; rw [hA] at hq; cases hq
              rw [hgt q this]; exact hall q hq
            · have : i ≠ j := fun e => by subst e; rw [hb] at hei; cases hei
              rw [hgt i this]; exact hke i hi hei
        -- the heap, where the operation has a place
        have hheap : (e j).isEff = true → isA j = false → C.H = Hs j := by
          intro hb hA
          obtain ⟨_, k, hk, hHk, hke⟩ := hBof hA hb
          rw [hHk]
          rcases Nat.le_total k j with hkj | hkj
          · refine (hsameH k j hkj (by omega) fun i h1 h2 => ?_).symm
            cases hei : (e i).isEff with
            | false => rfl
            | true =>
              have := (hpair i j h2 (by rw [hN]; exact hjs) hei hb).2 hA
              have := (hke i (by omega) hei).1 (hahj i this)
              omega
          · refine hsameH j k hkj hk fun i h1 h2 => ?_
            cases hei : (e i).isEff with
            | false => rfl
            | true =>
              have hl := (hke i (by omega) hei).2 h2
              rcases Nat.lt_or_ge j i with hji | hji
              · have hAi : isA i = false := by
                  cases h : isA i with
                  | false => rfl
                  | true => have := hlate j i h hb hA hjs; omega
                have := (hpair j i hji (by rw [hN]; omega) hb hei).2 hAi
                rw [hnot i ops[i] (Array.getElem?_eq_getElem (by omega)) this] at hl; cases hl
              · have : i = j := by omega
                subst this
                rw [hunf] at hl; cases hl
        -- is it wanted
        have hwant : ∀ {T E : Prop}, aWanted ops.toList (frs j) o.guard T E → (Region.wanted o (yielded ops a.tmps) = true ∧ T) ∨ (Region.wanted o (yielded ops a.tmps) = false ∧ E) := by
          intro T E hw
          have hw' : aWanted ops.toList ((gTmps ops.toList o).map fun t => (t, (frs j).get t)) o.guard T E := by
            refine aWanted_congr (fun d hd => ?_) hw
            exact pick_get d _ hd _
          refine aWanted_snd (C0 := C) (n := n) ⟨Ext.refl C hC, hC, fun t => ?_, hn, hdf⟩ hw'
          rcases pick_get' (frs j) (gTmps ops.toList o) t with ⟨h1, h2⟩ | h2
          · rw [h2]; exact hread t (.inr h1)
          · rw [h2]; trivial
        have hfrok : FrOk C a (opFr (frs j) o.op) := fun t => by
          rcases opFr_get (frs j) o.op t with ⟨h1, h2⟩ | h2
          · rw [h2]; exact hread t (.inl h1)
          · rw [h2]; trivial
        unfold wpOp
        simp only [ho]
        rcases hf with ⟨hw, hf⟩ | ⟨hw, hV, hb, hHj⟩
        · rcases hwant hw with ⟨hw, _⟩ | ⟨_, h⟩
          · rw [hw, if_pos rfl]
            left
            rcases hf with ⟨hb, hHj, hf | hf⟩ | ⟨hb, _, hf⟩ | ⟨R, hb, hHj, hf⟩
            · -- it hangs on nothing owned
              obtain ⟨r, H', ⟨rfl, rfl⟩, hy⟩ := aop_snd Γ (C := C.shut) (shut_rep hC) (a := a) (fr := lowFr (opFr (frs j) o.op)) (fun t => by rw [lowFr_get]; exact shut_RT (hfrok t)) hf
              refine hy _ _ fun v D hDH hED hD hv => ?_
              have hJ := join_RT hC hED hv
              rw [shT_eq hDH hv] at hJ
              exact stepN v (C.join D) (join_ext hC hED) (join_rep hC hED hD) hJ (by simp [Ctx.join, hDH]) (by rw [hb]; rfl)
            · -- whatever is owned
              obtain ⟨r, H', ⟨rfl, rfl⟩, hy⟩ := aop_snd Γ hC hfrok (hf C.H)
              refine hy _ _ fun v C' hCH hE' hC' hv => ?_
              exact stepN v C' hE' hC' hv hCH (by rw [hb]; rfl)
            · cases hA : isA j with
              | false =>
                obtain ⟨r, H', ⟨rfl, rfl⟩, hy⟩ := aop_snd Γ hC hfrok (by rw [hheap hb hA]; exact hf)
                refine hy _ _ fun v C' hCH hE' hC' hv => ?_
                obtain ⟨hall, _⟩ := hBof hA hb
                refine step v C' (hE.trans hE') hC' (fun _ _ r _ => hE'.RT r) hv (fun d hd q hq hqj hl => by rw [hall q hq] at hl; cases hl) (.inr ⟨fun q hq => ?_, j + 1, by omega, hCH, fun i hi hei => ?_⟩)
                · by_cases hqj : q = j
                  · subst hqj; exact hgj
                  · rw [hgt q hqj]; exact hall q hq
                · by_cases hij : i = j
                  · subst hij; simp [hgj]
                  · rw [hgt i hij]
                    rcases Nat.lt_or_ge i j with h | h
                    · have := (hpair i j h (by rw [hN]; exact hjs) hei hb).2 hA
                      simp [hahj i this]; omega
                    · have hAi : isA i = false := by
                        cases h' : isA i with
                        | false => rfl
                        | true => have := hlate j i h' hb hA hjs; omega
                      have := (hpair j i (by omega) (by rw [hN]; exact hi) hb hei).2 hAi
                      simp [hnot i ops[i] (Array.getElem?_eq_getElem hi) this]; omega
              | true =>
                rcases hHk with ⟨_, hno, hH⟩ | ⟨hall, _⟩
                rotate_left
                · rw [hall j hA] at hunf; cases hunf
                obtain ⟨o', ho', _, hzp, _, _, _, hgo⟩ := hal j hA
                rw [ho] at ho'; cases ho'
                obtain ⟨r, H', ⟨rfl, rfl⟩, hy⟩ := aop_snd Γ hC hfrok (hgo (opFr (frs j) o.op) C.H (fun a b => a = .ptr C.H.length 0 0 ∧ b = C.H ++ [.row .box (sz j).1 [(sz j).2]]) ⟨rfl, rfl⟩)
                refine hy _ _ fun v C2 hCH hE2 hC2 hv => ?_
                -- the list of new variables, around this one
                have hsplit : asU ops.size = asU j ++ j :: (List.range' (j + 1) (ops.size - (j + 1))).filter isA := by
                  simp only [asU]
                  rw [List.range_eq_range', List.range_eq_range', show ops.size = j + (ops.size - j) by omega, ← List.range'_append_1, List.filter_append, Nat.zero_add, show ops.size - j = (ops.size - (j + 1)) + 1 by omega, List.range'_succ, List.filter_cons, hA, if_pos rfl, show j + (ops.size - (j + 1) + 1) - (j + 1) = ops.size - (j + 1) by omega]
                have hCHs : C.H = Hs 0 ++ ((asU j).map (fun q => if listed.getD q false = true then zb q else .dead) ++ Blk.dead :: ((List.range' (j + 1) (ops.size - (j + 1))).filter isA).map (fun q => if listed.getD q false = true then zb q else .dead)) := by
                  rw [hH, hsplit, List.map_append, List.map_cons, hunf]; rfl
                have hpd : C.H[pos j]? = some .dead := by
                  rw [hCHs, List.getElem?_append_right (by simp [pos]), List.getElem?_append_right (by simp [pos])]
                  simp [pos]
                have h0p : C0.H.length ≤ pos j := by
                  have := s.ext.len
                  rw [← hH0] at this
                  simp only [pos]; omega
                obtain ⟨C', hw', hH', hC', hE', hR1, hR2⟩ := revive hE hC hpd h0p hE2 hC2 hCH hzp (fun id sh es hid x hx => by
                  rw [hH] at hid
                  rcases Nat.lt_or_ge id (Hs 0).length with hl | hl
                  · rw [List.getElem?_append_left hl, hH0] at hid
                    obtain ⟨c, T, fr, _, _, _, _, hrow⟩ := s.rep.row id .box sh es hid trivial
                    obtain ⟨y, hy, rfl⟩ := List.mem_iff_getElem.1 hx
                    obtain ⟨v, hv, _⟩ := hrow y hy
                    exact hv.noA (by rw [← hH0]; simp only [pos]; omega)
                  · rw [List.getElem?_append_right hl, List.getElem?_map] at hid
                    obtain ⟨q, hq, hid⟩ := Option.map_eq_some_iff.1 hid
                    have hqA : isA q = true := (List.mem_filter.1 (List.mem_iff_getElem?.2 ⟨_, hq⟩)).2
                    split at hid
                    · cases hid
                      rw [List.mem_singleton.1 hx]
                      obtain ⟨_, _, _, hzq, _⟩ := hal q hqA
                      exact pure_noA hzq
                    · cases hid)
                rw [← hw']
                refine step v C' hE' hC' (fun v x r hx => hR1 v x r (hx hA)) ?_ (fun d _ q hq hqj _ => ?_) ?_
                · rw [hVpos j hA]; exact hR2 v hv
                · rw [hVpos j hA]
                  show pos j ≠ pos q
                  have mono : ∀ x y, x < y → isA x = true → (asU x).length < (asU y).length := fun x y hxy hx => by
                    have h1 : (asU y).length = (asU (x + 1)).length + ((List.range' (x + 1) (y - (x + 1))).filter isA).length := by
                      simp only [asU]
                      rw [List.range_eq_range', List.range_eq_range', show y = (x + 1) + (y - (x + 1)) by omega, ← List.range'_append_1, List.filter_append, List.length_append, Nat.zero_add, show x + 1 + (y - (x + 1)) - (x + 1) = y - (x + 1) by omega]
                    rw [hasS, hx, if_pos rfl, List.length_append] at h1
                    simp only [List.length_cons, List.length_nil] at h1
                    omega
                  simp only [pos]
                  rcases Nat.lt_or_gt_of_ne hqj with h | h
                  · have := mono q j h hq; omega
                  · have := mono j q h hA; omega
                · have hnew : C'.H = Hs 0 ++ (asU ops.size).map fun q => if (listed.setIfInBounds j true).getD q false = true then zb q else .dead := by
                    have hlt : ∀ q ∈ asU j, q ≠ j := fun q hq => by
                      have := List.mem_range.1 (List.mem_filter.1 hq).1; omega
                    have hgt' : ∀ q ∈ (List.range' (j + 1) (ops.size - (j + 1))).filter isA, q ≠ j := fun q hq => by
                      have := (List.mem_range'_1.1 (List.mem_filter.1 hq).1).1; omega
                    rw [hH', hCHs, hsplit, List.set_append_right _ _ (by simp [pos]), List.set_append_right _ _ (by simp [pos])]
                    rw [List.map_append, List.map_cons, hgj, if_pos rfl]
                    rw [List.map_congr_left (l := asU j) (g := fun q => if (listed.setIfInBounds j true).getD q false = true then zb q else .dead) fun q hq => by rw [hgt q (hlt q hq)]]
                    rw [List.map_congr_left (l := (List.range' (j + 1) (ops.size - (j + 1))).filter isA) (g := fun q => if (listed.setIfInBounds j true).getD q false = true then zb q else .dead) fun q hq => by rw [hgt q (hgt' q hq)]]
                    simp [pos, zb]
                  have hno' : ∀ i, i < ops.size → (e i).isEff = true → isA i = false → (listed.setIfInBounds j true).getD i false = false := fun i hi hei hAi => by
                    have : i ≠ j := fun e => by subst e; rw [hA] at hAi; cases hAi
                    rw [hgt i this]; exact hno i hi hei hAi
                  by_cases hex : ∃ q, isA q = true ∧ (listed.setIfInBounds j true).getD q false = false
                  · exact .inl ⟨hex, hno', hnew⟩
                  · have hall : ∀ q, isA q = true → (listed.setIfInBounds j true).getD q false = true := fun q hq => by
                      cases hl : (listed.setIfInBounds j true).getD q false with
                      | true => rfl
                      | false => exact absurd ⟨q, hq, hl⟩ hex
                    obtain ⟨kk, hk1, hk2, hk3, hk4, hk5⟩ := hkk
                    refine .inr ⟨hall, kk, hk1, ?_, fun i hi hei => ?_⟩
                    · rw [hnew, hk5]
                      congr 1
                      exact List.map_congr_left fun q hq => by rw [if_pos (hall q (List.mem_filter.1 hq).2)]
                    · cases hAi : isA i with
                      | true => simp [hall i hAi, hk2 i hAi]
                      | false =>
                        have := hk3 i hi hei hAi
                        simp [hno' i hi hei hAi]; omega
            · -- it reads blocks that nothing before it has changed
              have hCf : ∃ f T, C.H = holes R f T 0 C1.H := by
               rcases hHk with ⟨_, _, hH⟩ | ⟨_, k, hk, hHk, hke⟩
               · obtain ⟨f, T, h⟩ := holes_eq (R := R) 0 (Hs 0) C.H (by rw [hH]; simp) (fun id hid _ => by rw [hH, List.getElem?_append_left hid])
                 exact ⟨f, T, by rw [h, hH0]⟩
               · have hag : ∀ y, y ≤ k → (Hs 0).length ≤ (Hs y).length ∧ ∀ id, id < (Hs 0).length → id ∈ R → (Hs y)[id]? = (Hs 0)[id]? := by
                  intro y
                  induction y with
                  | zero => intro _; exact ⟨Nat.le_refl _, fun _ _ _ => rfl⟩
                  | succ y ihy =>
                    intro hyk
                    obtain ⟨h1, h2⟩ := ihy (by omega)
                    obtain ⟨_, _, h3⟩ := hst y ops[y] (hget y _ (Array.getElem?_eq_getElem (by omega)))
                    have same : Hs (y + 1) = Hs y → (Hs 0).length ≤ (Hs (y + 1)).length ∧ ∀ id, id < (Hs 0).length → id ∈ R → (Hs (y + 1))[id]? = (Hs 0)[id]? := fun h => by rw [h]; exact ⟨h1, h2⟩
                    rcases h3 with ⟨_, ⟨_, h, _⟩ | ⟨hey, hW, _⟩ | ⟨_, _, h, _⟩⟩ | ⟨_, _, _, h⟩
                    · exact same h
                    · have hly := (hke y (by omega) hey).2 (by omega)
                      have hyj : y ≠ j := fun h => by subst h; rw [hb] at hey; cases hey
                      have hnj : e j ≠ .no := by rw [hb]; simp
                      have hny : e y ≠ .no := fun h => by rw [h] at hey; cases hey
                      have hnt : ∃ W, e y = .eff (some W) ∧ touch (some W) R = false := by
                        cases hy' : e y with
                        | no => exact absurd hy' hny
                        | rd _ => rw [hy'] at hey; cases hey
                        | eff Wo =>
                          have ht : touch Wo R = false := by
                            rcases Nat.lt_or_gt_of_ne hyj with hlt | hgt
                            · have := (hpr j (by rw [hN]; exact hjs) hnj).2 y hlt hny
                              simp only [evOk2, hb, hy'] at this
                              simpa using this
                            · have := (hpr y (by rw [hN]; omega) hny).2 j hgt hnj
                              simp only [evOk2, hb, hy', Nat.zero_add, Bool.or_eq_true, memN_iff] at this
                              rcases this with h | h
                              · simpa using h
                              · rw [hnot y ops[y] (Array.getElem?_eq_getElem (by omega)) h] at hly; cases hly
                          cases Wo with
                          | none => simp [touch] at ht
                          | some W => exact ⟨W, rfl, ht⟩
                      obtain ⟨W, hyW, ht⟩ := hnt
                      obtain ⟨g1, g2⟩ := agree_get (hW W hyW)
                      refine ⟨by omega, fun id hid hr => ?_⟩
                      rw [g2 id (by omega) ?_, h2 id hid hr]
                      rw [Nat.zero_add]
                      intro hm
                      simp only [touch, List.any_eq_false, memN_iff] at ht
                      exact ht id hr hm
                    · exact same h
                    · exact same h
                 obtain ⟨g1, g2⟩ := hag k (Nat.le_refl _)
                 obtain ⟨f, T, hfT⟩ := holes_eq (R := R) 0 (Hs 0) (Hs k) g1 (fun id hid hr => g2 id hid (by simpa using hr))
                 exact ⟨f, T, by rw [hHk, hfT, hH0]⟩
              obtain ⟨f, T, hCf⟩ := hCf
              obtain ⟨r, H', ⟨rfl, rfl⟩, hy⟩ := aop_snd Γ hC hfrok (by rw [hCf]; exact hf f T)
              refine hy _ _ fun v C' hCH hE' hC' hv => ?_
              exact stepN v C' hE' hC' hv (by rw [hCH, hCf]) (by rw [hb]; rfl)
          · exact h.elim
        · rcases hwant hw with ⟨_, h⟩ | ⟨hw, _⟩
          · exact h.elim
          · rw [hw]
            simp only [Bool.false_eq_true, if_false]
            exact stepN undef C (Ext.refl C hC) hC (by rw [hV]; exact ⟨#[], rfl, rfl, fun i h => by simp at h⟩) rfl (by rw [hb]; rfl)
  obtain ⟨hE1, hC1⟩ := grown_ext s.rep (w' := { C1.w with drawn := C1.w.drawn + 1 }) rfl rfl rfl (Nat.le_refl _) (fun _ _ => rfl)
  have dead_ext : ∀ (C : Ctx) (M : Nat), HRep C → Ext C { C with H := C.H ++ List.replicate M .dead } ∧ HRep { C with H := C.H ++ List.replicate M .dead } := by
    intro C M hC
    have hg : ∀ (id : Nat) (b : Blk), (C.H ++ List.replicate M .dead)[id]? = some b → b ≠ .dead → C.H[id]? = some b := fun id b h hb => by
      rcases Nat.lt_or_ge id C.H.length with hl | hl
      · rwa [List.getElem?_append_left hl] at h
      · rw [List.getElem?_append_right hl, List.getElem?_replicate] at h
        split at h
        · cases h; exact absurd rfl hb
        · cases h
    have hlv : ∀ b : Blk, b.live → b ≠ .dead := fun b h e => by subst e; exact h
    have hE : Ext C { C with H := C.H ++ List.replicate M .dead } := {
      F := rfl, os := rfl, tape := rfl, output := rfl, size := Nat.le_refl _
      len := by show C.H.length ≤ (C.H ++ _).length; rw [List.length_append]; omega
      beta := fun _ _ => rfl
      keep := fun _ _ _ => rfl
      fresh := fun id k hid hk hl => by
        have := (List.getElem?_eq_some_iff.1 (hg id k hk (hlv k hl))).1
        omega
      rows := fun id k sh es _ he => by
        have he' := hg id _ he (by simp)
        refine ⟨es, he', rfl, fun hl => ?_⟩
        obtain ⟨c, T, fr, hc, _⟩ := hC.row id k sh es he' hl
        exact ⟨c, T, fr, c, T, fr, hc, hc, rfl⟩
      maps := fun id es _ he => ⟨es, hg id _ he (by simp)⟩
      ros := fun id sh es _ he => .inl (hg id _ he (by simp)) }
    refine ⟨hE, ⟨fun i j k m hk hm hl1 hl2 => hC.inj i j k m (hg i k hk (hlv k hl1)) (hg j m hm (hlv m hl2)) hl1 hl2, fun i k hk hl => hC.notF i k (hg i k hk (hlv k hl)) hl, hC.Flt, fun id k sh es he => hC.sz id k sh es (hg id _ he (by simp)), fun id k sh es he hl => ?_, fun id es he => ?_⟩⟩
    · obtain ⟨c, T, fr, hc, h1, h2, h3, h4⟩ := hC.row id k sh es (hg id _ he (by simp)) hl
      refine ⟨c, T, fr, hc, h1, h2, h3, fun i hi => ?_⟩
      obtain ⟨v, g1, g2, g3, g4⟩ := h4 i hi
      exact ⟨v, hE.RA g1, fun hk => hE.RP (g2 hk), g3, g4⟩
    · obtain ⟨me, cl, hm, h1, h2⟩ := hC.map id es (hg id _ he (by simp))
      refine ⟨me, cl, hm, h1, fun i hi => ?_⟩
      obtain ⟨m, g1, g2, g3⟩ := h2 i hi
      exact ⟨m, g1, hE.RP g2, hE.RP g3⟩
  obtain ⟨hE2, hC2⟩ := dead_ext { C1 with w := { C1.w with drawn := C1.w.drawn + 1 } } (asU ops.size).length hC1
  refine main ops.size _ { C1 with w := { C1.w with drawn := C1.w.drawn + 1 }, H := C1.H ++ List.replicate (asU ops.size).length .dead } a1 (by simp) ?_ ?_ ((s.ext.trans hE1).trans hE2) hC2 s.size s.defers ?_ ?_
  · have : ∀ (l : Array Bool) k, left l k ≤ k := by
      intro l k
      induction k with
      | zero => exact Nat.le_refl _
      | succ k ih => simp only [left]; split <;> omega
    exact this _ _
  · intro j o _ hj
    simp [Array.getElem?_replicate] at hj
    split at hj <;> simp at hj
  · intro t
    refine ⟨0, Nat.zero_le _, hE2.RT (hE1.RT (s.fr t)), fun i p hp hd => ?_, fun q hq _ => (s.fr t).noT (by rw [← hH0]; simp only [pos]; omega)⟩
    simp [Array.getElem?_replicate]
    split <;> simp
  · have hno : ∀ i, (Array.replicate ops.size false).getD i false = false := fun i => by
      simp [Array.getElem?_replicate]
      split <;> simp
    have hHd : (C1.H ++ List.replicate (asU ops.size).length .dead) = Hs 0 ++ (asU ops.size).map fun q => if (Array.replicate ops.size false).getD q false = true then zb q else .dead := by
      rw [hH0]
      congr 1
      have : ∀ l : List Nat, List.replicate l.length Blk.dead = l.map fun q => if (Array.replicate ops.size false).getD q false = true then zb q else .dead := by
        intro l
        induction l with
        | nil => rfl
        | cons x r ih => rw [List.map_cons, ← ih, hno x]; rfl
      exact this _
    by_cases hex : ∃ q, isA q = true
    · obtain ⟨q, hq⟩ := hex
      exact .inl ⟨⟨q, hq, hno q⟩, fun i _ _ _ => hno i, hHd⟩
    · refine .inr ⟨fun q hq => absurd ⟨q, hq⟩ hex, 0, Nat.zero_le _, ?_, fun i hi _ => ?_⟩
      · have : asU ops.size = [] := List.filter_eq_nil_iff.2 fun q _ hq => hex ⟨q, hq⟩
        show C1.H ++ List.replicate (asU ops.size).length .dead = Hs 0
        rw [this, hH0]; simp
      · rw [hno i]; simp
end
end Go.Bv
namespace Go.Bv
open Go
section
variable {P : Program} {Γ : Tab P} {n0 : Nat} {rs : List ResultVar} {H' : List Blk} {fr : Fr} {H : List Blk}
theorem NRet.boolE {q b : Bool} (h : b = q) (hn : NRet Γ n0 rs (.bool b) H' fr H) : NRet Γ n0 rs (.bool q) H' fr H := h ▸ hn
theorem NRet.intE {x y : Int} (h : x = y) (hn : NRet Γ n0 rs (i64 x) H' fr H) : NRet Γ n0 rs (i64 y) H' fr H := h ▸ hn
end
theorem setAll_same : ∀ (S : List Nat) (R H : List Blk), (∀ (i j : Nat) (b : Blk), S[i]? = some j → R[i]? = some b → H[j]? = some b) → setAll H S R = H
 | [], R, H, _ => by cases R <;> rfl
 | s :: S, [], H, _ => rfl
 | s :: S, b :: R, H, h => by
  have h0 := h 0 s b rfl rfl
  obtain ⟨hl, he⟩ := List.getElem?_eq_some_iff.1 h0
  rw [setAll, show H.set s b = H by rw [← he]; exact List.set_getElem_self hl]
  exact setAll_same S R H fun i j b hi hb => h (i + 1) j b (by simpa using hi) (by simpa using hb)
/-- A call that leaves the blocks that it looks at. -/
theorem NCall.subSame {P : Program} {f : FuncId} {args args0 : List AV} {H H0 : List Blk} {r r' : AV} {next : AV → List Blk → Prop} (S : List Nat) (h : ACalls P f args0 H0 r H0) (hn : next r' H) (hS : nodupB S = true := by exact rfl)
  (hH : S.map (fun j => H[j]?) = H0.map (fun b => some (b.rn (rho S H.length))) := by exact rfl) (ha : args = args0.map (AV.rnA (rho S H.length)) := by exact rfl) (er : r.rnT (rho S H.length) = r' := by (try dsimp only [AV.rnT, AV.rnA, AV.rnR, AV.rn1]) <;> exact rfl) : NCall P f args H next := by
 have hl : S.length = H0.length := by have := congrArg List.length hH; simpa using this
 have e1 : (H0.drop S.length) = [] := List.drop_eq_nil_of_le (by omega)
 have e2 : H0.take S.length = H0 := List.take_of_length_le (by omega)
 refine NCall.sub S h hS hH ha er (H'' := H) ?_ hn
 rw [e1, e2, List.map_nil, List.append_nil]
 refine setAll_same S _ H fun i j b hi hb => ?_
 have := congrArg (fun l => l[i]?) hH
 simp only [List.getElem?_map, hi, Option.map_some] at this
 rw [List.getElem?_map] at hb
 cases hq : H0[i]? with
 | none => rw [hq] at hb; simp at hb
 | some c =>
  rw [hq] at hb this
  simp only [Option.map_some, Option.some.injEq] at hb this
  rw [this, hb]
end Go.Bv
