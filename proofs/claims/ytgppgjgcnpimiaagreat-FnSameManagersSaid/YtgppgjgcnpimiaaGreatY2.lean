/- Texts of one proof, joined, without their blanks: Pq, Pz, Cs, Ri, Cn, Om, Ii, Vo, Vi, Rct, Fr, Qu, Ct, Fc, Fu, ScI, Dp, S3, Sx, Si, Sk, S4. No condition but what each statement names. -/
import Derived.Test.YtgppgjgcnpimiaaGreatY1
import Derived.ArgAppend
namespace Go.Proofs.YtgppgjgcnpimiaaGreat
open Go.RowKit
open Go.Lib (hid)
set_option linter.unusedVariables false
set_option linter.unusedSimpArgs false
set_option maxHeartbeats 3200000 in
theorem always_any (w:World) (B:Nat) (v:Value) (h:Hp) (hh:RdH w B v h) (o:Cmd):Calls Tryz.prog 108 #[v,cmdV o] w fun e w'=>e=.returned (.bool true)/\Below w.heap.size w w':=by
 obtain⟨D,m,d,D',m',d',rfl,hC,hR⟩:=hh.top
 obtain⟨op,a,b,c⟩:=o
 have HB:=(((Owns.nil w).box [.slice D m d,.slice D' m' d'] 29).box [.int .i64 op,.int .i64 a,.int .i64 b,.int .i64 c] 79).below
 go_enter Tryz.func108,Tryz.ntmps108
 go_wp2
 go_ret
 exact⟨rfl,HB⟩
set_option maxHeartbeats 3200000 in
set_option maxRecDepth 20000 in
theorem possGet_any (w:World) (B:Nat) (v:Value) (h:Hp) (hh:RdH w B v h) (g:Good h) (op a c:Int) (bn:Nat) (hb:bn<=3) (hc:0<=c):Calls Tryz.prog 109 #[v,cmdV ⟨op,a,bn,c⟩] w fun e w'=>e=.returned (.bool (placeB h (rootI h bn) c))/\Below w.heap.size w w':=by
 have hh':=hh.top
 obtain⟨D,m,d,D',m',d',rfl,hC,hR⟩:=hh.top
 have H:=((Owns.nil w).box [.slice D m d,.slice D' m' d'] 29).box [.int .i64 op,.int .i64 a,.int .i64 bn,.int .i64 c] 79
 simp only[lnm]at H
 obtain⟨a0,a1,-,-⟩:=H.box2 1 rfl
 obtain⟨b0,b1,b2,b3,-,-,-,-⟩:=box4 H 0 rfl
 go_enter Tryz.func109,Tryz.ntmps109
 go_wp2_with fail
 refine (place_any _ _ _ h (hh'.below H.below) g bn hb c hc).mono ?_
 rintro e w1 ⟨⟨p,rfl⟩,hb1⟩
 have HB:=(H.call hb1).below
 clear H a0 a1 b0 b1 b2 b3 hb1
 go_wp2
 go_ret
 exact⟨rfl,HB⟩
set_option maxHeartbeats 3200000 in
set_option maxRecDepth 20000 in
theorem possSet_any (w:World) (B:Nat) (v:Value) (h:Hp) (hh:RdH w B v h) (g:Good h) (op b c:Int) (an:Nat) (ha:an<=3) (hc:0<=c):Calls Tryz.prog 112 #[v,cmdV ⟨op,an,b,c⟩] w fun e w'=>e=.returned (.bool (placeB h (rootI h an) c))/\Below w.heap.size w w':=by
 have hh':=hh.top
 obtain⟨D,m,d,D',m',d',rfl,hC,hR⟩:=hh.top
 have H:=((Owns.nil w).box [.slice D m d,.slice D' m' d'] 29).box [.int .i64 op,.int .i64 an,.int .i64 b,.int .i64 c] 79
 simp only[lnm]at H
 obtain⟨a0,a1,-,-⟩:=H.box2 1 rfl
 obtain⟨b0,b1,b2,b3,-,-,-,-⟩:=box4 H 0 rfl
 go_enter Tryz.func112,Tryz.ntmps112
 go_wp2_with fail
 refine (place_any _ _ _ h (hh'.below H.below) g an ha c hc).mono ?_
 rintro e w1 ⟨⟨p,rfl⟩,hb1⟩
 have HB:=(H.call hb1).below
 clear H a0 a1 b0 b1 b2 b3 hb1
 go_wp2
 go_ret
 exact⟨rfl,HB⟩
set_option maxHeartbeats 3200000 in
set_option maxRecDepth 20000 in
theorem possData_any (w:World) (B:Nat) (v:Value) (h:Hp) (hh:RdH w B v h) (g:Good h) (op b c:Int) (an:Nat) (ha:an<=3):Calls Tryz.prog 116 #[v,cmdV ⟨op,an,b,c⟩] w fun e w'=>e=.returned (.bool (decide (0<=rootI h an)))/\Below w.heap.size w w':=by
 have hh':=hh.top
 obtain⟨D,m,d,D',m',d',rfl,hC,hR⟩:=hh.top
 have l3:=RdI.le1 hR;have l4:=RdI.le2 hR
 have h4:=g.roots
 obtain⟨bb,oo,x,rfl,hbb,hx,q1⟩:=RdI.at_ hR (show an<m' by omega)
 have H:=((Owns.nil w).box [.slice D m d,.slice (some ⟨bb,oo,none⟩) m' d'] 29).box [.int .i64 op,.int .i64 an,.int .i64 b,.int .i64 c] 79
 simp only[lnm]at H
 obtain⟨a0,a1,-,-⟩:=H.box2 1 rfl
 obtain⟨b0,b1,b2,b3,-,-,-,-⟩:=box4 H 0 rfl
 have q2:=H.ro q1 hbb
 have HB:=H.below
 have HE:=hid (rootI_of hx)
 have hal:an<m':=by omega
 clear H q1 h4 g l3 l4 hC hR hh hh'
 rw[HE.out]
 go_enter Tryz.func116,Tryz.ntmps116
 go_wp2
 go_ret
 first|exact⟨rfl,HB⟩|exact⟨by simp,HB⟩
set_option maxHeartbeats 3200000 in
set_option maxRecDepth 20000 in
theorem implPoss_n1 (w:World) (B:Nat) (v:Value) (h:Hp) (hh:RdH w B v h) (op a b c:Int) (hy:heapOk h=false):
  Calls Tryz.prog 77 #[v,cmdV ⟨op,a,b,c⟩] w fun e w'=>e=.returned (.bool (mPoss h ⟨op,a,b,c⟩))/\Below w.heap.size w w':=by
 have hh':=hh.top
 obtain⟨D,m,d,D',m',d',rfl,hC,hR⟩:=hh.top
 have HY:=hid hy
 have HF:Hid (mPoss h ⟨op,a,b,c⟩=false):=hid (mPoss_no1 hy)
 have H:=((Owns.nil w).box [.slice D m d,.slice D' m' d'] 29).box [.int .i64 op,.int .i64 a,.int .i64 b,.int .i64 c] 79
 simp only[lnm]at H
 obtain⟨a0,a1,-,-⟩:=H.box2 1 rfl
 obtain⟨b0,b1,b2,b3,-,-,-,-⟩:=box4 H 0 rfl
 go_enter Tryz.func77,Tryz.ntmps77
 go_wp2_with fail
 have HX:=H.drew
 clear a0 a1 b0 b1 b2 b3 H
 obtain⟨a0,a1,-,-⟩:=HX.box2 1 rfl
 obtain⟨b0,b1,b2,b3,-,-,-,-⟩:=box4 HX 0 rfl
 refine wp_region_tree (fun w'=>(w'.cell? ⟨w.heap.size,0,none⟩=some (.slice D m d)/\w'.cell? ⟨w.heap.size,1,none⟩=some (.slice D' m' d'))/\w'.cell? ⟨w.heap.size+1,0,none⟩=some (.int .i64 op)/\w'.cell? ⟨w.heap.size+1,1,none⟩=some (.int .i64 a)/\w'.cell? ⟨w.heap.size+1,2,none⟩=some (.int .i64 b)/\w'.cell? ⟨w.heap.size+1,3,none⟩=some (.int .i64 c)) 17 [] (.take 0 (.alt 1 (.take 2 (.take 3 (.alt 4 (.take 5 (.take 6 (.take 8 (.take 9 (.take 12 (.take 13 (.alt 7 (.take 10 (.take 11 (.alt 14 (.take 15 (.take 16 (.done))) (.stop)))) (.stop)))))))) (.stop)))) (.stop))) (by kernel_rfl) (by kernel_rfl) (by kernel_rfl) (⟨⟨a0,a1⟩,b0,b1,b2,b3⟩) ?_
 simp only[fillT,lgz,Nat.reduceBEq]
 repeat first|(with_reducible apply po_take;(·(go_simp;done));(·(intro w' hS';(try dsimp only at hS');go_simp;try with_reducible rfl));simp only[lpa])|(with_reducible apply po_skip;(·(go_simp;done));simp only[lpa])
 with_reducible refine po_last ?_ (fun K hK=>?_)
 ·(go_simp;done)
 go_simp
 refine (heapValid_any _ _ _ h (hh'.below HX.below)).mono ?_
 rintro e w1 ⟨rfl,hb⟩
 rw[HY.out]
 replace HX:=HX.call hb
 clear hb a0 a1 b0 b1 b2 b3
 obtain⟨a0,a1,-,-⟩:=HX.box2 1 rfl
 obtain⟨b0,b1,b2,b3,-,-,-,-⟩:=box4 HX 0 rfl
 refine hK.out _ _ (.inr (⟨⟨a0,a1⟩,b0,b1,b2,b3⟩)) ?_
 clear hK K
 repeat first|(with_reducible apply po_take;(·(go_simp;done));(·(intro w' hS';(try dsimp only at hS');go_simp;try with_reducible rfl));simp only[lpa])|(with_reducible apply po_skip;(·(go_simp;done));simp only[lpa])
 with_reducible refine po_no ?_ ?_ ?_ ?_
 ·(go_simp;done)
 ·exact .inr (⟨⟨a0,a1⟩,b0,b1,b2,b3⟩)
 rotate_left
 ·exact po_stop
 simp only[lpa]
 repeat first|(with_reducible apply po_take;(·(go_simp;done));(·(intro w' hS';(try dsimp only at hS');go_simp;try with_reducible rfl));simp only[lpa])|(with_reducible apply po_skip;(·(go_simp;done));simp only[lpa])
 with_reducible refine po_no ?_ ?_ ?_ ?_
 ·(go_simp;done)
 ·exact .inr (⟨⟨a0,a1⟩,b0,b1,b2,b3⟩)
 rotate_left
 ·exact po_stop
 simp only[lpa]
 repeat first|(with_reducible apply po_take;(·(go_simp;done));(·(intro w' hS';(try dsimp only at hS');go_simp;try with_reducible rfl));simp only[lpa])|(with_reducible apply po_skip;(·(go_simp;done));simp only[lpa])
 with_reducible refine po_no ?_ ?_ ?_ ?_
 ·(go_simp;done)
 ·exact .inr (⟨⟨a0,a1⟩,b0,b1,b2,b3⟩)
 rotate_left
 ·exact po_stop
 simp only[lpa]
 repeat first|(with_reducible apply po_take;(·(go_simp;done));(·(intro w' hS';(try dsimp only at hS');go_simp;try with_reducible rfl));simp only[lpa])|(with_reducible apply po_skip;(·(go_simp;done));simp only[lpa])
 refine po_done ?_
 have HB:=HX.below
 clear HX a0 a1 b0 b1 b2 b3
 go_wp2
 go_ret
 exact⟨ret_b HF.out.symm,HB⟩
set_option maxHeartbeats 3200000 in
set_option maxRecDepth 20000 in
theorem implPoss_n2 (w:World) (B:Nat) (v:Value) (h:Hp) (hh:RdH w B v h) (op a b c:Int) (hy:heapOk h=true) (hc:cmdOk ⟨op,a,b,c⟩=false):
  Calls Tryz.prog 77 #[v,cmdV ⟨op,a,b,c⟩] w fun e w'=>e=.returned (.bool (mPoss h ⟨op,a,b,c⟩))/\Below w.heap.size w w':=by
 have hh':=hh.top
 obtain⟨D,m,d,D',m',d',rfl,hC,hR⟩:=hh.top
 have HY:=hid hy
 have HC:=hid hc
 have HF:Hid (mPoss h ⟨op,a,b,c⟩=false):=hid (mPoss_no2 hc)
 have H:=((Owns.nil w).box [.slice D m d,.slice D' m' d'] 29).box [.int .i64 op,.int .i64 a,.int .i64 b,.int .i64 c] 79
 simp only[lnm]at H
 obtain⟨a0,a1,-,-⟩:=H.box2 1 rfl
 obtain⟨b0,b1,b2,b3,-,-,-,-⟩:=box4 H 0 rfl
 go_enter Tryz.func77,Tryz.ntmps77
 go_wp2_with fail
 have HX:=H.drew
 clear a0 a1 b0 b1 b2 b3 H
 obtain⟨a0,a1,-,-⟩:=HX.box2 1 rfl
 obtain⟨b0,b1,b2,b3,-,-,-,-⟩:=box4 HX 0 rfl
 refine wp_region_tree (fun w'=>(w'.cell? ⟨w.heap.size,0,none⟩=some (.slice D m d)/\w'.cell? ⟨w.heap.size,1,none⟩=some (.slice D' m' d'))/\w'.cell? ⟨w.heap.size+1,0,none⟩=some (.int .i64 op)/\w'.cell? ⟨w.heap.size+1,1,none⟩=some (.int .i64 a)/\w'.cell? ⟨w.heap.size+1,2,none⟩=some (.int .i64 b)/\w'.cell? ⟨w.heap.size+1,3,none⟩=some (.int .i64 c)) 17 [] (.take 0 (.alt 1 (.take 2 (.take 3 (.alt 4 (.take 5 (.take 6 (.take 8 (.take 9 (.take 12 (.take 13 (.alt 7 (.take 10 (.take 11 (.alt 14 (.take 15 (.take 16 (.done))) (.stop)))) (.stop)))))))) (.stop)))) (.stop))) (by kernel_rfl) (by kernel_rfl) (by kernel_rfl) (⟨⟨a0,a1⟩,b0,b1,b2,b3⟩) ?_
 simp only[fillT,lgz,Nat.reduceBEq]
 repeat first|(with_reducible apply po_take;(·(go_simp;done));(·(intro w' hS';(try dsimp only at hS');go_simp;try with_reducible rfl));simp only[lpa])|(with_reducible apply po_skip;(·(go_simp;done));simp only[lpa])
 with_reducible refine po_last ?_ (fun K hK=>?_)
 ·(go_simp;done)
 go_simp
 refine (heapValid_any _ _ _ h (hh'.below HX.below)).mono ?_
 rintro e w1 ⟨rfl,hb⟩
 rw[HY.out]
 replace HX:=HX.call hb
 clear hb a0 a1 b0 b1 b2 b3
 obtain⟨a0,a1,-,-⟩:=HX.box2 1 rfl
 obtain⟨b0,b1,b2,b3,-,-,-,-⟩:=box4 HX 0 rfl
 refine hK.out _ _ (.inr (⟨⟨a0,a1⟩,b0,b1,b2,b3⟩)) ?_
 clear hK K
 repeat first|(with_reducible apply po_take;(·(go_simp;done));(·(intro w' hS';(try dsimp only at hS');go_simp;try with_reducible rfl));simp only[lpa])|(with_reducible apply po_skip;(·(go_simp;done));simp only[lpa])
 with_reducible refine po_last ?_ (fun K hK=>?_)
 ·(go_simp;done)
 go_simp
 refine (implCommandValid_any ⟨op,a,b,c⟩ _).mono ?_
 rintro e w2 ⟨rfl,hb⟩
 rw[HC.out]
 replace HX:=HX.call hb
 clear hb a0 a1 b0 b1 b2 b3
 obtain⟨a0,a1,-,-⟩:=HX.box2 1 rfl
 obtain⟨b0,b1,b2,b3,-,-,-,-⟩:=box4 HX 0 rfl
 refine hK.out _ _ (.inr (⟨⟨a0,a1⟩,b0,b1,b2,b3⟩)) ?_
 clear hK K
 repeat first|(with_reducible apply po_take;(·(go_simp;done));(·(intro w' hS';(try dsimp only at hS');go_simp;try with_reducible rfl));simp only[lpa])|(with_reducible apply po_skip;(·(go_simp;done));simp only[lpa])
 with_reducible refine po_no ?_ ?_ ?_ ?_
 ·(go_simp;done)
 ·exact .inr (⟨⟨a0,a1⟩,b0,b1,b2,b3⟩)
 rotate_left
 ·exact po_stop
 simp only[lpa]
 repeat first|(with_reducible apply po_take;(·(go_simp;done));(·(intro w' hS';(try dsimp only at hS');go_simp;try with_reducible rfl));simp only[lpa])|(with_reducible apply po_skip;(·(go_simp;done));simp only[lpa])
 with_reducible refine po_no ?_ ?_ ?_ ?_
 ·(go_simp;done)
 ·exact .inr (⟨⟨a0,a1⟩,b0,b1,b2,b3⟩)
 rotate_left
 ·exact po_stop
 simp only[lpa]
 repeat first|(with_reducible apply po_take;(·(go_simp;done));(·(intro w' hS';(try dsimp only at hS');go_simp;try with_reducible rfl));simp only[lpa])|(with_reducible apply po_skip;(·(go_simp;done));simp only[lpa])
 refine po_done ?_
 have HB:=HX.below
 clear HX a0 a1 b0 b1 b2 b3
 go_wp2
 go_ret
 exact⟨ret_b HF.out.symm,HB⟩
set_option maxHeartbeats 3200000 in
set_option maxRecDepth 20000 in
theorem implPoss_1 (w:World) (B:Nat) (v:Value) (h:Hp) (hh:RdH w B v h) (an:Nat) (b c:Int) (hy:heapOk h=true) (hc:cmdOk ⟨1,an,b,c⟩=true):
  Calls Tryz.prog 77 #[v,cmdV ⟨1,an,b,c⟩] w fun e w'=>e=.returned (.bool (mPoss h ⟨1,an,b,c⟩))/\Below w.heap.size w w':=by
 have hh':=hh.top
 obtain⟨D,m,d,D',m',d',rfl,hC,hR⟩:=hh.top
 have GG:=hid (good_iff.1 hy)
 have HY:=hid hy
 have HC:=hid hc
 have hI:=opsAt_1
 have hP:=opsP_1
 have HH:=hid hh'
 have ha3:an<=3:=by have:=(cmd_a hc).2;simp only at this;omega
 clear hh hC hR
 have HF:Hid (mPoss h ⟨1,an,b,c⟩=true):=hid (by rw[mPoss_yes hy hc];simp[possB])
 have H:=((Owns.nil w).box [.slice D m d,.slice D' m' d'] 29).box [.int .i64 1,.int .i64 an,.int .i64 b,.int .i64 c] 79
 simp only[lnm]at H
 obtain⟨a0,a1,-,-⟩:=H.box2 1 rfl
 obtain⟨b0,b1,b2,b3,-,-,-,-⟩:=box4 H 0 rfl
 go_enter Tryz.func77,Tryz.ntmps77
 go_wp2_with fail
 have HX:=H.drew
 clear a0 a1 b0 b1 b2 b3 H
 obtain⟨a0,a1,-,-⟩:=HX.box2 1 rfl
 obtain⟨b0,b1,b2,b3,-,-,-,-⟩:=box4 HX 0 rfl
 refine wp_region_tree (fun w'=>(w'.cell? ⟨w.heap.size,0,none⟩=some (.slice D m d)/\w'.cell? ⟨w.heap.size,1,none⟩=some (.slice D' m' d'))/\w'.cell? ⟨w.heap.size+1,0,none⟩=some (.int .i64 1)/\w'.cell? ⟨w.heap.size+1,1,none⟩=some (.int .i64 an)/\w'.cell? ⟨w.heap.size+1,2,none⟩=some (.int .i64 b)/\w'.cell? ⟨w.heap.size+1,3,none⟩=some (.int .i64 c)) 17 [] (.take 0 (.alt 1 (.take 2 (.take 3 (.alt 4 (.take 5 (.take 6 (.take 8 (.take 9 (.take 12 (.take 13 (.alt 7 (.take 10 (.take 11 (.alt 14 (.take 15 (.take 16 (.done))) (.stop)))) (.stop)))))))) (.stop)))) (.stop))) (by kernel_rfl) (by kernel_rfl) (by kernel_rfl) (⟨⟨a0,a1⟩,b0,b1,b2,b3⟩) ?_
 simp only[fillT,lgz,Nat.reduceBEq]
 repeat first|(with_reducible apply po_take;(·(go_simp;done));(·(intro w' hS';(try dsimp only at hS');go_simp;try with_reducible rfl));simp only[lpa])|(with_reducible apply po_skip;(·(go_simp;done));simp only[lpa])
 with_reducible refine po_last ?_ (fun K hK=>?_)
 ·(go_simp;done)
 go_simp
 refine (heapValid_any _ _ _ h (hh'.below HX.below)).mono ?_
 rintro e w1 ⟨rfl,hb⟩
 rw[HY.out]
 replace HX:=HX.call hb
 clear hb a0 a1 b0 b1 b2 b3
 obtain⟨a0,a1,-,-⟩:=HX.box2 1 rfl
 obtain⟨b0,b1,b2,b3,-,-,-,-⟩:=box4 HX 0 rfl
 refine hK.out _ _ (.inr (⟨⟨a0,a1⟩,b0,b1,b2,b3⟩)) ?_
 clear hK K
 repeat first|(with_reducible apply po_take;(·(go_simp;done));(·(intro w' hS';(try dsimp only at hS');go_simp;try with_reducible rfl));simp only[lpa])|(with_reducible apply po_skip;(·(go_simp;done));simp only[lpa])
 with_reducible refine po_last ?_ (fun K hK=>?_)
 ·(go_simp;done)
 go_simp
 refine (implCommandValid_any ⟨1,an,b,c⟩ _).mono ?_
 rintro e w2 ⟨rfl,hb⟩
 rw[HC.out]
 replace HX:=HX.call hb
 clear hb a0 a1 b0 b1 b2 b3
 obtain⟨a0,a1,-,-⟩:=HX.box2 1 rfl
 obtain⟨b0,b1,b2,b3,-,-,-,-⟩:=box4 HX 0 rfl
 refine hK.out _ _ (.inr (⟨⟨a0,a1⟩,b0,b1,b2,b3⟩)) ?_
 clear hK K
 repeat first|(with_reducible apply po_take;(·(go_simp;done));(·(intro w' hS';(try dsimp only at hS');go_simp;try with_reducible rfl));simp only[lpa])|(with_reducible apply po_skip;(·(go_simp;done));simp only[lpa])
 with_reducible refine po_last ?_ (fun K hK=>?_)
 ·(go_simp;done)
 go_simp
 refine (operations_any _).mono ?_
 rintro e w3 ⟨rfl,hb⟩
 replace HX:=HX.call hb
 clear hb a0 a1 b0 b1 b2 b3
 obtain⟨a0,a1,-,-⟩:=HX.box2 1 rfl
 obtain⟨b0,b1,b2,b3,-,-,-,-⟩:=box4 HX 0 rfl
 refine hK.out _ _ (.inr (⟨⟨a0,a1⟩,b0,b1,b2,b3⟩)) ?_
 clear hK K
 repeat first|(with_reducible apply po_take;(·(go_simp;done));(·(intro w' hS';(try dsimp only at hS');go_simp;try with_reducible rfl));simp only[lpa])|(with_reducible apply po_skip;(·(go_simp;done));simp only[lpa])
 with_reducible refine po_last ?_ (fun K hK=>?_)
 ·(go_simp;done)
 go_simp
 refine (always_any _ _ _ h (HH.out.below HX.below) ⟨1,an,b,c⟩).mono ?_
 rintro e w4 ⟨rfl,hb⟩
 replace HX:=HX.call hb
 clear hb a0 a1 b0 b1 b2 b3
 obtain⟨a0,a1,-,-⟩:=HX.box2 1 rfl
 obtain⟨b0,b1,b2,b3,-,-,-,-⟩:=box4 HX 0 rfl
 refine hK.out _ _ (.inr (⟨⟨a0,a1⟩,b0,b1,b2,b3⟩)) ?_
 clear hK K
 repeat first|(with_reducible apply po_take;(·(go_simp;done));(·(intro w' hS';(try dsimp only at hS');go_simp;try with_reducible rfl));simp only[lpa])|(with_reducible apply po_skip;(·(go_simp;done));simp only[lpa])
 refine po_done ?_
 have HB:=HX.below
 clear HX a0 a1 b0 b1 b2 b3
 go_wp2
 go_ret
 exact⟨ret_b HF.out.symm,HB⟩
set_option maxHeartbeats 3200000 in
set_option maxRecDepth 20000 in
theorem implPoss_2 (w:World) (B:Nat) (v:Value) (h:Hp) (hh:RdH w B v h) (an bn:Nat) (c:Int) (hy:heapOk h=true) (hc:cmdOk ⟨2,an,bn,c⟩=true):
  Calls Tryz.prog 77 #[v,cmdV ⟨2,an,bn,c⟩] w fun e w'=>e=.returned (.bool (mPoss h ⟨2,an,bn,c⟩))/\Below w.heap.size w w':=by
 have hh':=hh.top
 obtain⟨D,m,d,D',m',d',rfl,hC,hR⟩:=hh.top
 have GG:=hid (good_iff.1 hy)
 have HY:=hid hy
 have HC:=hid hc
 have hI:=opsAt_2
 have hP:=opsP_2
 have HH:=hid hh'
 have ha3:an<=3:=by have:=(cmd_a hc).2;simp only at this;omega
 have hb3:bn<=3:=by have:=(cmd_b hc (.inl rfl)).2;simp only at this;omega
 have hc0:0<=c:=(cmd_c hc (.inl rfl)).1
 clear hh hC hR
 have HF:Hid (mPoss h ⟨2,an,bn,c⟩=placeB h (rootI h bn) c):=hid (by rw[mPoss_yes hy hc];simp[possB])
 have H:=((Owns.nil w).box [.slice D m d,.slice D' m' d'] 29).box [.int .i64 2,.int .i64 an,.int .i64 bn,.int .i64 c] 79
 simp only[lnm]at H
 obtain⟨a0,a1,-,-⟩:=H.box2 1 rfl
 obtain⟨b0,b1,b2,b3,-,-,-,-⟩:=box4 H 0 rfl
 go_enter Tryz.func77,Tryz.ntmps77
 go_wp2_with fail
 have HX:=H.drew
 clear a0 a1 b0 b1 b2 b3 H
 obtain⟨a0,a1,-,-⟩:=HX.box2 1 rfl
 obtain⟨b0,b1,b2,b3,-,-,-,-⟩:=box4 HX 0 rfl
 refine wp_region_tree (fun w'=>(w'.cell? ⟨w.heap.size,0,none⟩=some (.slice D m d)/\w'.cell? ⟨w.heap.size,1,none⟩=some (.slice D' m' d'))/\w'.cell? ⟨w.heap.size+1,0,none⟩=some (.int .i64 2)/\w'.cell? ⟨w.heap.size+1,1,none⟩=some (.int .i64 an)/\w'.cell? ⟨w.heap.size+1,2,none⟩=some (.int .i64 bn)/\w'.cell? ⟨w.heap.size+1,3,none⟩=some (.int .i64 c)) 17 [] (.take 0 (.alt 1 (.take 2 (.take 3 (.alt 4 (.take 5 (.take 6 (.take 8 (.take 9 (.take 12 (.take 13 (.alt 7 (.take 10 (.take 11 (.alt 14 (.take 15 (.take 16 (.done))) (.stop)))) (.stop)))))))) (.stop)))) (.stop))) (by kernel_rfl) (by kernel_rfl) (by kernel_rfl) (⟨⟨a0,a1⟩,b0,b1,b2,b3⟩) ?_
 simp only[fillT,lgz,Nat.reduceBEq]
 repeat first|(with_reducible apply po_take;(·(go_simp;done));(·(intro w' hS';(try dsimp only at hS');go_simp;try with_reducible rfl));simp only[lpa])|(with_reducible apply po_skip;(·(go_simp;done));simp only[lpa])
 with_reducible refine po_last ?_ (fun K hK=>?_)
 ·(go_simp;done)
 go_simp
 refine (heapValid_any _ _ _ h (hh'.below HX.below)).mono ?_
 rintro e w1 ⟨rfl,hb⟩
 rw[HY.out]
 replace HX:=HX.call hb
 clear hb a0 a1 b0 b1 b2 b3
 obtain⟨a0,a1,-,-⟩:=HX.box2 1 rfl
 obtain⟨b0,b1,b2,b3,-,-,-,-⟩:=box4 HX 0 rfl
 refine hK.out _ _ (.inr (⟨⟨a0,a1⟩,b0,b1,b2,b3⟩)) ?_
 clear hK K
 repeat first|(with_reducible apply po_take;(·(go_simp;done));(·(intro w' hS';(try dsimp only at hS');go_simp;try with_reducible rfl));simp only[lpa])|(with_reducible apply po_skip;(·(go_simp;done));simp only[lpa])
 with_reducible refine po_last ?_ (fun K hK=>?_)
 ·(go_simp;done)
 go_simp
 refine (implCommandValid_any ⟨2,an,bn,c⟩ _).mono ?_
 rintro e w2 ⟨rfl,hb⟩
 rw[HC.out]
 replace HX:=HX.call hb
 clear hb a0 a1 b0 b1 b2 b3
 obtain⟨a0,a1,-,-⟩:=HX.box2 1 rfl
 obtain⟨b0,b1,b2,b3,-,-,-,-⟩:=box4 HX 0 rfl
 refine hK.out _ _ (.inr (⟨⟨a0,a1⟩,b0,b1,b2,b3⟩)) ?_
 clear hK K
 repeat first|(with_reducible apply po_take;(·(go_simp;done));(·(intro w' hS';(try dsimp only at hS');go_simp;try with_reducible rfl));simp only[lpa])|(with_reducible apply po_skip;(·(go_simp;done));simp only[lpa])
 with_reducible refine po_last ?_ (fun K hK=>?_)
 ·(go_simp;done)
 go_simp
 refine (operations_any _).mono ?_
 rintro e w3 ⟨rfl,hb⟩
 replace HX:=HX.call hb
 clear hb a0 a1 b0 b1 b2 b3
 obtain⟨a0,a1,-,-⟩:=HX.box2 1 rfl
 obtain⟨b0,b1,b2,b3,-,-,-,-⟩:=box4 HX 0 rfl
 refine hK.out _ _ (.inr (⟨⟨a0,a1⟩,b0,b1,b2,b3⟩)) ?_
 clear hK K
 repeat first|(with_reducible apply po_take;(·(go_simp;done));(·(intro w' hS';(try dsimp only at hS');go_simp;try with_reducible rfl));simp only[lpa])|(with_reducible apply po_skip;(·(go_simp;done));simp only[lpa])
 with_reducible refine po_last ?_ (fun K hK=>?_)
 ·(go_simp;done)
 go_simp
 refine (possGet_any _ _ _ h (HH.out.below HX.below) GG.out 2 an c bn (by omega) (by omega)).mono ?_
 rintro e w4 ⟨rfl,hb⟩
 replace HX:=HX.call hb
 clear hb a0 a1 b0 b1 b2 b3
 obtain⟨a0,a1,-,-⟩:=HX.box2 1 rfl
 obtain⟨b0,b1,b2,b3,-,-,-,-⟩:=box4 HX 0 rfl
 refine hK.out _ _ (.inr (⟨⟨a0,a1⟩,b0,b1,b2,b3⟩)) ?_
 clear hK K
 repeat first|(with_reducible apply po_take;(·(go_simp;done));(·(intro w' hS';(try dsimp only at hS');go_simp;try with_reducible rfl));simp only[lpa])|(with_reducible apply po_skip;(·(go_simp;done));simp only[lpa])
 refine po_done ?_
 have HB:=HX.below
 clear HX a0 a1 b0 b1 b2 b3
 go_wp2
 go_ret
 exact⟨ret_b HF.out.symm,HB⟩
set_option maxHeartbeats 3200000 in
set_option maxRecDepth 20000 in
theorem implPoss_3 (w:World) (B:Nat) (v:Value) (h:Hp) (hh:RdH w B v h) (an:Nat) (b c:Int) (hy:heapOk h=true) (hc:cmdOk ⟨3,an,b,c⟩=true):
  Calls Tryz.prog 77 #[v,cmdV ⟨3,an,b,c⟩] w fun e w'=>e=.returned (.bool (mPoss h ⟨3,an,b,c⟩))/\Below w.heap.size w w':=by
 have hh':=hh.top
 obtain⟨D,m,d,D',m',d',rfl,hC,hR⟩:=hh.top
 have GG:=hid (good_iff.1 hy)
 have HY:=hid hy
 have HC:=hid hc
 have hI:=opsAt_3
 have hP:=opsP_3
 have HH:=hid hh'
 have ha3:an<=3:=by have:=(cmd_a hc).2;simp only at this;omega
 have hc0:0<=c:=(cmd_c hc (.inr rfl)).1
 clear hh hC hR
 have HF:Hid (mPoss h ⟨3,an,b,c⟩=placeB h (rootI h an) c):=hid (by rw[mPoss_yes hy hc];simp[possB])
 have H:=((Owns.nil w).box [.slice D m d,.slice D' m' d'] 29).box [.int .i64 3,.int .i64 an,.int .i64 b,.int .i64 c] 79
 simp only[lnm]at H
 obtain⟨a0,a1,-,-⟩:=H.box2 1 rfl
 obtain⟨b0,b1,b2,b3,-,-,-,-⟩:=box4 H 0 rfl
 go_enter Tryz.func77,Tryz.ntmps77
 go_wp2_with fail
 have HX:=H.drew
 clear a0 a1 b0 b1 b2 b3 H
 obtain⟨a0,a1,-,-⟩:=HX.box2 1 rfl
 obtain⟨b0,b1,b2,b3,-,-,-,-⟩:=box4 HX 0 rfl
 refine wp_region_tree (fun w'=>(w'.cell? ⟨w.heap.size,0,none⟩=some (.slice D m d)/\w'.cell? ⟨w.heap.size,1,none⟩=some (.slice D' m' d'))/\w'.cell? ⟨w.heap.size+1,0,none⟩=some (.int .i64 3)/\w'.cell? ⟨w.heap.size+1,1,none⟩=some (.int .i64 an)/\w'.cell? ⟨w.heap.size+1,2,none⟩=some (.int .i64 b)/\w'.cell? ⟨w.heap.size+1,3,none⟩=some (.int .i64 c)) 17 [] (.take 0 (.alt 1 (.take 2 (.take 3 (.alt 4 (.take 5 (.take 6 (.take 8 (.take 9 (.take 12 (.take 13 (.alt 7 (.take 10 (.take 11 (.alt 14 (.take 15 (.take 16 (.done))) (.stop)))) (.stop)))))))) (.stop)))) (.stop))) (by kernel_rfl) (by kernel_rfl) (by kernel_rfl) (⟨⟨a0,a1⟩,b0,b1,b2,b3⟩) ?_
 simp only[fillT,lgz,Nat.reduceBEq]
 repeat first|(with_reducible apply po_take;(·(go_simp;done));(·(intro w' hS';(try dsimp only at hS');go_simp;try with_reducible rfl));simp only[lpa])|(with_reducible apply po_skip;(·(go_simp;done));simp only[lpa])
 with_reducible refine po_last ?_ (fun K hK=>?_)
 ·(go_simp;done)
 go_simp
 refine (heapValid_any _ _ _ h (hh'.below HX.below)).mono ?_
 rintro e w1 ⟨rfl,hb⟩
 rw[HY.out]
 replace HX:=HX.call hb
 clear hb a0 a1 b0 b1 b2 b3
 obtain⟨a0,a1,-,-⟩:=HX.box2 1 rfl
 obtain⟨b0,b1,b2,b3,-,-,-,-⟩:=box4 HX 0 rfl
 refine hK.out _ _ (.inr (⟨⟨a0,a1⟩,b0,b1,b2,b3⟩)) ?_
 clear hK K
 repeat first|(with_reducible apply po_take;(·(go_simp;done));(·(intro w' hS';(try dsimp only at hS');go_simp;try with_reducible rfl));simp only[lpa])|(with_reducible apply po_skip;(·(go_simp;done));simp only[lpa])
 with_reducible refine po_last ?_ (fun K hK=>?_)
 ·(go_simp;done)
 go_simp
 refine (implCommandValid_any ⟨3,an,b,c⟩ _).mono ?_
 rintro e w2 ⟨rfl,hb⟩
 rw[HC.out]
 replace HX:=HX.call hb
 clear hb a0 a1 b0 b1 b2 b3
 obtain⟨a0,a1,-,-⟩:=HX.box2 1 rfl
 obtain⟨b0,b1,b2,b3,-,-,-,-⟩:=box4 HX 0 rfl
 refine hK.out _ _ (.inr (⟨⟨a0,a1⟩,b0,b1,b2,b3⟩)) ?_
 clear hK K
 repeat first|(with_reducible apply po_take;(·(go_simp;done));(·(intro w' hS';(try dsimp only at hS');go_simp;try with_reducible rfl));simp only[lpa])|(with_reducible apply po_skip;(·(go_simp;done));simp only[lpa])
 with_reducible refine po_last ?_ (fun K hK=>?_)
 ·(go_simp;done)
 go_simp
 refine (operations_any _).mono ?_
 rintro e w3 ⟨rfl,hb⟩
 replace HX:=HX.call hb
 clear hb a0 a1 b0 b1 b2 b3
 obtain⟨a0,a1,-,-⟩:=HX.box2 1 rfl
 obtain⟨b0,b1,b2,b3,-,-,-,-⟩:=box4 HX 0 rfl
 refine hK.out _ _ (.inr (⟨⟨a0,a1⟩,b0,b1,b2,b3⟩)) ?_
 clear hK K
 repeat first|(with_reducible apply po_take;(·(go_simp;done));(·(intro w' hS';(try dsimp only at hS');go_simp;try with_reducible rfl));simp only[lpa])|(with_reducible apply po_skip;(·(go_simp;done));simp only[lpa])
 with_reducible refine po_last ?_ (fun K hK=>?_)
 ·(go_simp;done)
 go_simp
 refine (possSet_any _ _ _ h (HH.out.below HX.below) GG.out 3 b c an (by omega) (by omega)).mono ?_
 rintro e w4 ⟨rfl,hb⟩
 replace HX:=HX.call hb
 clear hb a0 a1 b0 b1 b2 b3
 obtain⟨a0,a1,-,-⟩:=HX.box2 1 rfl
 obtain⟨b0,b1,b2,b3,-,-,-,-⟩:=box4 HX 0 rfl
 refine hK.out _ _ (.inr (⟨⟨a0,a1⟩,b0,b1,b2,b3⟩)) ?_
 clear hK K
 repeat first|(with_reducible apply po_take;(·(go_simp;done));(·(intro w' hS';(try dsimp only at hS');go_simp;try with_reducible rfl));simp only[lpa])|(with_reducible apply po_skip;(·(go_simp;done));simp only[lpa])
 refine po_done ?_
 have HB:=HX.below
 clear HX a0 a1 b0 b1 b2 b3
 go_wp2
 go_ret
 exact⟨ret_b HF.out.symm,HB⟩
set_option maxHeartbeats 3200000 in
set_option maxRecDepth 20000 in
theorem implPoss_4 (w:World) (B:Nat) (v:Value) (h:Hp) (hh:RdH w B v h) (an:Nat) (b c:Int) (hy:heapOk h=true) (hc:cmdOk ⟨4,an,b,c⟩=true):
  Calls Tryz.prog 77 #[v,cmdV ⟨4,an,b,c⟩] w fun e w'=>e=.returned (.bool (mPoss h ⟨4,an,b,c⟩))/\Below w.heap.size w w':=by
 have hh':=hh.top
 obtain⟨D,m,d,D',m',d',rfl,hC,hR⟩:=hh.top
 have GG:=hid (good_iff.1 hy)
 have HY:=hid hy
 have HC:=hid hc
 have hI:=opsAt_4
 have hP:=opsP_4
 have HH:=hid hh'
 have ha3:an<=3:=by have:=(cmd_a hc).2;simp only at this;omega
 clear hh hC hR
 have HF:Hid (mPoss h ⟨4,an,b,c⟩=true):=hid (by rw[mPoss_yes hy hc];simp[possB])
 have H:=((Owns.nil w).box [.slice D m d,.slice D' m' d'] 29).box [.int .i64 4,.int .i64 an,.int .i64 b,.int .i64 c] 79
 simp only[lnm]at H
 obtain⟨a0,a1,-,-⟩:=H.box2 1 rfl
 obtain⟨b0,b1,b2,b3,-,-,-,-⟩:=box4 H 0 rfl
 go_enter Tryz.func77,Tryz.ntmps77
 go_wp2_with fail
 have HX:=H.drew
 clear a0 a1 b0 b1 b2 b3 H
 obtain⟨a0,a1,-,-⟩:=HX.box2 1 rfl
 obtain⟨b0,b1,b2,b3,-,-,-,-⟩:=box4 HX 0 rfl
 refine wp_region_tree (fun w'=>(w'.cell? ⟨w.heap.size,0,none⟩=some (.slice D m d)/\w'.cell? ⟨w.heap.size,1,none⟩=some (.slice D' m' d'))/\w'.cell? ⟨w.heap.size+1,0,none⟩=some (.int .i64 4)/\w'.cell? ⟨w.heap.size+1,1,none⟩=some (.int .i64 an)/\w'.cell? ⟨w.heap.size+1,2,none⟩=some (.int .i64 b)/\w'.cell? ⟨w.heap.size+1,3,none⟩=some (.int .i64 c)) 17 [] (.take 0 (.alt 1 (.take 2 (.take 3 (.alt 4 (.take 5 (.take 6 (.take 8 (.take 9 (.take 12 (.take 13 (.alt 7 (.take 10 (.take 11 (.alt 14 (.take 15 (.take 16 (.done))) (.stop)))) (.stop)))))))) (.stop)))) (.stop))) (by kernel_rfl) (by kernel_rfl) (by kernel_rfl) (⟨⟨a0,a1⟩,b0,b1,b2,b3⟩) ?_
 simp only[fillT,lgz,Nat.reduceBEq]
 repeat first|(with_reducible apply po_take;(·(go_simp;done));(·(intro w' hS';(try dsimp only at hS');go_simp;try with_reducible rfl));simp only[lpa])|(with_reducible apply po_skip;(·(go_simp;done));simp only[lpa])
 with_reducible refine po_last ?_ (fun K hK=>?_)
 ·(go_simp;done)
 go_simp
 refine (heapValid_any _ _ _ h (hh'.below HX.below)).mono ?_
 rintro e w1 ⟨rfl,hb⟩
 rw[HY.out]
 replace HX:=HX.call hb
 clear hb a0 a1 b0 b1 b2 b3
 obtain⟨a0,a1,-,-⟩:=HX.box2 1 rfl
 obtain⟨b0,b1,b2,b3,-,-,-,-⟩:=box4 HX 0 rfl
 refine hK.out _ _ (.inr (⟨⟨a0,a1⟩,b0,b1,b2,b3⟩)) ?_
 clear hK K
 repeat first|(with_reducible apply po_take;(·(go_simp;done));(·(intro w' hS';(try dsimp only at hS');go_simp;try with_reducible rfl));simp only[lpa])|(with_reducible apply po_skip;(·(go_simp;done));simp only[lpa])
 with_reducible refine po_last ?_ (fun K hK=>?_)
 ·(go_simp;done)
 go_simp
 refine (implCommandValid_any ⟨4,an,b,c⟩ _).mono ?_
 rintro e w2 ⟨rfl,hb⟩
 rw[HC.out]
 replace HX:=HX.call hb
 clear hb a0 a1 b0 b1 b2 b3
 obtain⟨a0,a1,-,-⟩:=HX.box2 1 rfl
 obtain⟨b0,b1,b2,b3,-,-,-,-⟩:=box4 HX 0 rfl
 refine hK.out _ _ (.inr (⟨⟨a0,a1⟩,b0,b1,b2,b3⟩)) ?_
 clear hK K
 repeat first|(with_reducible apply po_take;(·(go_simp;done));(·(intro w' hS';(try dsimp only at hS');go_simp;try with_reducible rfl));simp only[lpa])|(with_reducible apply po_skip;(·(go_simp;done));simp only[lpa])
 with_reducible refine po_last ?_ (fun K hK=>?_)
 ·(go_simp;done)
 go_simp
 refine (operations_any _).mono ?_
 rintro e w3 ⟨rfl,hb⟩
 replace HX:=HX.call hb
 clear hb a0 a1 b0 b1 b2 b3
 obtain⟨a0,a1,-,-⟩:=HX.box2 1 rfl
 obtain⟨b0,b1,b2,b3,-,-,-,-⟩:=box4 HX 0 rfl
 refine hK.out _ _ (.inr (⟨⟨a0,a1⟩,b0,b1,b2,b3⟩)) ?_
 clear hK K
 repeat first|(with_reducible apply po_take;(·(go_simp;done));(·(intro w' hS';(try dsimp only at hS');go_simp;try with_reducible rfl));simp only[lpa])|(with_reducible apply po_skip;(·(go_simp;done));simp only[lpa])
 with_reducible refine po_last ?_ (fun K hK=>?_)
 ·(go_simp;done)
 go_simp
 refine (always_any _ _ _ h (HH.out.below HX.below) ⟨4,an,b,c⟩).mono ?_
 rintro e w4 ⟨rfl,hb⟩
 replace HX:=HX.call hb
 clear hb a0 a1 b0 b1 b2 b3
 obtain⟨a0,a1,-,-⟩:=HX.box2 1 rfl
 obtain⟨b0,b1,b2,b3,-,-,-,-⟩:=box4 HX 0 rfl
 refine hK.out _ _ (.inr (⟨⟨a0,a1⟩,b0,b1,b2,b3⟩)) ?_
 clear hK K
 repeat first|(with_reducible apply po_take;(·(go_simp;done));(·(intro w' hS';(try dsimp only at hS');go_simp;try with_reducible rfl));simp only[lpa])|(with_reducible apply po_skip;(·(go_simp;done));simp only[lpa])
 refine po_done ?_
 have HB:=HX.below
 clear HX a0 a1 b0 b1 b2 b3
 go_wp2
 go_ret
 exact⟨ret_b HF.out.symm,HB⟩
set_option maxHeartbeats 3200000 in
set_option maxRecDepth 20000 in
theorem implPoss_5 (w:World) (B:Nat) (v:Value) (h:Hp) (hh:RdH w B v h) (an:Nat) (b c:Int) (hy:heapOk h=true) (hc:cmdOk ⟨5,an,b,c⟩=true):
  Calls Tryz.prog 77 #[v,cmdV ⟨5,an,b,c⟩] w fun e w'=>e=.returned (.bool (mPoss h ⟨5,an,b,c⟩))/\Below w.heap.size w w':=by
 have hh':=hh.top
 obtain⟨D,m,d,D',m',d',rfl,hC,hR⟩:=hh.top
 have GG:=hid (good_iff.1 hy)
 have HY:=hid hy
 have HC:=hid hc
 have hI:=opsAt_5
 have hP:=opsP_5
 have HH:=hid hh'
 have ha3:an<=3:=by have:=(cmd_a hc).2;simp only at this;omega
 clear hh hC hR
 have HF:Hid (mPoss h ⟨5,an,b,c⟩=true):=hid (by rw[mPoss_yes hy hc];simp[possB])
 have H:=((Owns.nil w).box [.slice D m d,.slice D' m' d'] 29).box [.int .i64 5,.int .i64 an,.int .i64 b,.int .i64 c] 79
 simp only[lnm]at H
 obtain⟨a0,a1,-,-⟩:=H.box2 1 rfl
 obtain⟨b0,b1,b2,b3,-,-,-,-⟩:=box4 H 0 rfl
 go_enter Tryz.func77,Tryz.ntmps77
 go_wp2_with fail
 have HX:=H.drew
 clear a0 a1 b0 b1 b2 b3 H
 obtain⟨a0,a1,-,-⟩:=HX.box2 1 rfl
 obtain⟨b0,b1,b2,b3,-,-,-,-⟩:=box4 HX 0 rfl
 refine wp_region_tree (fun w'=>(w'.cell? ⟨w.heap.size,0,none⟩=some (.slice D m d)/\w'.cell? ⟨w.heap.size,1,none⟩=some (.slice D' m' d'))/\w'.cell? ⟨w.heap.size+1,0,none⟩=some (.int .i64 5)/\w'.cell? ⟨w.heap.size+1,1,none⟩=some (.int .i64 an)/\w'.cell? ⟨w.heap.size+1,2,none⟩=some (.int .i64 b)/\w'.cell? ⟨w.heap.size+1,3,none⟩=some (.int .i64 c)) 17 [] (.take 0 (.alt 1 (.take 2 (.take 3 (.alt 4 (.take 5 (.take 6 (.take 8 (.take 9 (.take 12 (.take 13 (.alt 7 (.take 10 (.take 11 (.alt 14 (.take 15 (.take 16 (.done))) (.stop)))) (.stop)))))))) (.stop)))) (.stop))) (by kernel_rfl) (by kernel_rfl) (by kernel_rfl) (⟨⟨a0,a1⟩,b0,b1,b2,b3⟩) ?_
 simp only[fillT,lgz,Nat.reduceBEq]
 repeat first|(with_reducible apply po_take;(·(go_simp;done));(·(intro w' hS';(try dsimp only at hS');go_simp;try with_reducible rfl));simp only[lpa])|(with_reducible apply po_skip;(·(go_simp;done));simp only[lpa])
 with_reducible refine po_last ?_ (fun K hK=>?_)
 ·(go_simp;done)
 go_simp
 refine (heapValid_any _ _ _ h (hh'.below HX.below)).mono ?_
 rintro e w1 ⟨rfl,hb⟩
 rw[HY.out]
 replace HX:=HX.call hb
 clear hb a0 a1 b0 b1 b2 b3
 obtain⟨a0,a1,-,-⟩:=HX.box2 1 rfl
 obtain⟨b0,b1,b2,b3,-,-,-,-⟩:=box4 HX 0 rfl
 refine hK.out _ _ (.inr (⟨⟨a0,a1⟩,b0,b1,b2,b3⟩)) ?_
 clear hK K
 repeat first|(with_reducible apply po_take;(·(go_simp;done));(·(intro w' hS';(try dsimp only at hS');go_simp;try with_reducible rfl));simp only[lpa])|(with_reducible apply po_skip;(·(go_simp;done));simp only[lpa])
 with_reducible refine po_last ?_ (fun K hK=>?_)
 ·(go_simp;done)
 go_simp
 refine (implCommandValid_any ⟨5,an,b,c⟩ _).mono ?_
 rintro e w2 ⟨rfl,hb⟩
 rw[HC.out]
 replace HX:=HX.call hb
 clear hb a0 a1 b0 b1 b2 b3
 obtain⟨a0,a1,-,-⟩:=HX.box2 1 rfl
 obtain⟨b0,b1,b2,b3,-,-,-,-⟩:=box4 HX 0 rfl
 refine hK.out _ _ (.inr (⟨⟨a0,a1⟩,b0,b1,b2,b3⟩)) ?_
 clear hK K
 repeat first|(with_reducible apply po_take;(·(go_simp;done));(·(intro w' hS';(try dsimp only at hS');go_simp;try with_reducible rfl));simp only[lpa])|(with_reducible apply po_skip;(·(go_simp;done));simp only[lpa])
 with_reducible refine po_last ?_ (fun K hK=>?_)
 ·(go_simp;done)
 go_simp
 refine (operations_any _).mono ?_
 rintro e w3 ⟨rfl,hb⟩
 replace HX:=HX.call hb
 clear hb a0 a1 b0 b1 b2 b3
 obtain⟨a0,a1,-,-⟩:=HX.box2 1 rfl
 obtain⟨b0,b1,b2,b3,-,-,-,-⟩:=box4 HX 0 rfl
 refine hK.out _ _ (.inr (⟨⟨a0,a1⟩,b0,b1,b2,b3⟩)) ?_
 clear hK K
 repeat first|(with_reducible apply po_take;(·(go_simp;done));(·(intro w' hS';(try dsimp only at hS');go_simp;try with_reducible rfl));simp only[lpa])|(with_reducible apply po_skip;(·(go_simp;done));simp only[lpa])
 with_reducible refine po_last ?_ (fun K hK=>?_)
 ·(go_simp;done)
 go_simp
 refine (always_any _ _ _ h (HH.out.below HX.below) ⟨5,an,b,c⟩).mono ?_
 rintro e w4 ⟨rfl,hb⟩
 replace HX:=HX.call hb
 clear hb a0 a1 b0 b1 b2 b3
 obtain⟨a0,a1,-,-⟩:=HX.box2 1 rfl
 obtain⟨b0,b1,b2,b3,-,-,-,-⟩:=box4 HX 0 rfl
 refine hK.out _ _ (.inr (⟨⟨a0,a1⟩,b0,b1,b2,b3⟩)) ?_
 clear hK K
 repeat first|(with_reducible apply po_take;(·(go_simp;done));(·(intro w' hS';(try dsimp only at hS');go_simp;try with_reducible rfl));simp only[lpa])|(with_reducible apply po_skip;(·(go_simp;done));simp only[lpa])
 refine po_done ?_
 have HB:=HX.below
 clear HX a0 a1 b0 b1 b2 b3
 go_wp2
 go_ret
 exact⟨ret_b HF.out.symm,HB⟩
set_option maxHeartbeats 3200000 in
set_option maxRecDepth 20000 in
theorem implPoss_6 (w:World) (B:Nat) (v:Value) (h:Hp) (hh:RdH w B v h) (an:Nat) (b c:Int) (hy:heapOk h=true) (hc:cmdOk ⟨6,an,b,c⟩=true):
  Calls Tryz.prog 77 #[v,cmdV ⟨6,an,b,c⟩] w fun e w'=>e=.returned (.bool (mPoss h ⟨6,an,b,c⟩))/\Below w.heap.size w w':=by
 have hh':=hh.top
 obtain⟨D,m,d,D',m',d',rfl,hC,hR⟩:=hh.top
 have GG:=hid (good_iff.1 hy)
 have HY:=hid hy
 have HC:=hid hc
 have hI:=opsAt_6
 have hP:=opsP_6
 have HH:=hid hh'
 have ha3:an<=3:=by have:=(cmd_a hc).2;simp only at this;omega
 clear hh hC hR
 have HF:Hid (mPoss h ⟨6,an,b,c⟩=decide (0<=rootI h an)):=hid (by rw[mPoss_yes hy hc];simp[possB])
 have H:=((Owns.nil w).box [.slice D m d,.slice D' m' d'] 29).box [.int .i64 6,.int .i64 an,.int .i64 b,.int .i64 c] 79
 simp only[lnm]at H
 obtain⟨a0,a1,-,-⟩:=H.box2 1 rfl
 obtain⟨b0,b1,b2,b3,-,-,-,-⟩:=box4 H 0 rfl
 go_enter Tryz.func77,Tryz.ntmps77
 go_wp2_with fail
 have HX:=H.drew
 clear a0 a1 b0 b1 b2 b3 H
 obtain⟨a0,a1,-,-⟩:=HX.box2 1 rfl
 obtain⟨b0,b1,b2,b3,-,-,-,-⟩:=box4 HX 0 rfl
 refine wp_region_tree (fun w'=>(w'.cell? ⟨w.heap.size,0,none⟩=some (.slice D m d)/\w'.cell? ⟨w.heap.size,1,none⟩=some (.slice D' m' d'))/\w'.cell? ⟨w.heap.size+1,0,none⟩=some (.int .i64 6)/\w'.cell? ⟨w.heap.size+1,1,none⟩=some (.int .i64 an)/\w'.cell? ⟨w.heap.size+1,2,none⟩=some (.int .i64 b)/\w'.cell? ⟨w.heap.size+1,3,none⟩=some (.int .i64 c)) 17 [] (.take 0 (.alt 1 (.take 2 (.take 3 (.alt 4 (.take 5 (.take 6 (.take 8 (.take 9 (.take 12 (.take 13 (.alt 7 (.take 10 (.take 11 (.alt 14 (.take 15 (.take 16 (.done))) (.stop)))) (.stop)))))))) (.stop)))) (.stop))) (by kernel_rfl) (by kernel_rfl) (by kernel_rfl) (⟨⟨a0,a1⟩,b0,b1,b2,b3⟩) ?_
 simp only[fillT,lgz,Nat.reduceBEq]
 repeat first|(with_reducible apply po_take;(·(go_simp;done));(·(intro w' hS';(try dsimp only at hS');go_simp;try with_reducible rfl));simp only[lpa])|(with_reducible apply po_skip;(·(go_simp;done));simp only[lpa])
 with_reducible refine po_last ?_ (fun K hK=>?_)
 ·(go_simp;done)
 go_simp
 refine (heapValid_any _ _ _ h (hh'.below HX.below)).mono ?_
 rintro e w1 ⟨rfl,hb⟩
 rw[HY.out]
 replace HX:=HX.call hb
 clear hb a0 a1 b0 b1 b2 b3
 obtain⟨a0,a1,-,-⟩:=HX.box2 1 rfl
 obtain⟨b0,b1,b2,b3,-,-,-,-⟩:=box4 HX 0 rfl
 refine hK.out _ _ (.inr (⟨⟨a0,a1⟩,b0,b1,b2,b3⟩)) ?_
 clear hK K
 repeat first|(with_reducible apply po_take;(·(go_simp;done));(·(intro w' hS';(try dsimp only at hS');go_simp;try with_reducible rfl));simp only[lpa])|(with_reducible apply po_skip;(·(go_simp;done));simp only[lpa])
 with_reducible refine po_last ?_ (fun K hK=>?_)
 ·(go_simp;done)
 go_simp
 refine (implCommandValid_any ⟨6,an,b,c⟩ _).mono ?_
 rintro e w2 ⟨rfl,hb⟩
 rw[HC.out]
 replace HX:=HX.call hb
 clear hb a0 a1 b0 b1 b2 b3
 obtain⟨a0,a1,-,-⟩:=HX.box2 1 rfl
 obtain⟨b0,b1,b2,b3,-,-,-,-⟩:=box4 HX 0 rfl
 refine hK.out _ _ (.inr (⟨⟨a0,a1⟩,b0,b1,b2,b3⟩)) ?_
 clear hK K
 repeat first|(with_reducible apply po_take;(·(go_simp;done));(·(intro w' hS';(try dsimp only at hS');go_simp;try with_reducible rfl));simp only[lpa])|(with_reducible apply po_skip;(·(go_simp;done));simp only[lpa])
 with_reducible refine po_last ?_ (fun K hK=>?_)
 ·(go_simp;done)
 go_simp
 refine (operations_any _).mono ?_
 rintro e w3 ⟨rfl,hb⟩
 replace HX:=HX.call hb
 clear hb a0 a1 b0 b1 b2 b3
 obtain⟨a0,a1,-,-⟩:=HX.box2 1 rfl
 obtain⟨b0,b1,b2,b3,-,-,-,-⟩:=box4 HX 0 rfl
 refine hK.out _ _ (.inr (⟨⟨a0,a1⟩,b0,b1,b2,b3⟩)) ?_
 clear hK K
 repeat first|(with_reducible apply po_take;(·(go_simp;done));(·(intro w' hS';(try dsimp only at hS');go_simp;try with_reducible rfl));simp only[lpa])|(with_reducible apply po_skip;(·(go_simp;done));simp only[lpa])
 with_reducible refine po_last ?_ (fun K hK=>?_)
 ·(go_simp;done)
 go_simp
 refine (possData_any _ _ _ h (HH.out.below HX.below) GG.out 6 b c an (by omega)).mono ?_
 rintro e w4 ⟨rfl,hb⟩
 replace HX:=HX.call hb
 clear hb a0 a1 b0 b1 b2 b3
 obtain⟨a0,a1,-,-⟩:=HX.box2 1 rfl
 obtain⟨b0,b1,b2,b3,-,-,-,-⟩:=box4 HX 0 rfl
 refine hK.out _ _ (.inr (⟨⟨a0,a1⟩,b0,b1,b2,b3⟩)) ?_
 clear hK K
 repeat first|(with_reducible apply po_take;(·(go_simp;done));(·(intro w' hS';(try dsimp only at hS');go_simp;try with_reducible rfl));simp only[lpa])|(with_reducible apply po_skip;(·(go_simp;done));simp only[lpa])
 refine po_done ?_
 have HB:=HX.below
 clear HX a0 a1 b0 b1 b2 b3
 go_wp2
 go_ret
 exact⟨ret_b HF.out.symm,HB⟩
theorem implPossible_any (w:World) (B:Nat) (v:Value) (h:Hp) (hh:RdH w B v h) (o:Cmd):
  Calls Tryz.prog 77 #[v,cmdV o] w fun e w'=>e=.returned (.bool (mPoss h o))/\Below w.heap.size w w':=by
 obtain⟨op,a,b,c⟩:=o
 cases hy:heapOk h
 ·exact implPoss_n1 w B v h hh op a b c hy
 cases hc:cmdOk ⟨op,a,b,c⟩
 ·exact implPoss_n2 w B v h hh op a b c hy hc
 obtain⟨an,rfl⟩:=Int.eq_ofNat_of_zero_le (cmd_a hc).1
 by_cases h1:op=1
 ·subst h1;exact implPoss_1 w B v h hh an b c hy hc
 by_cases h2:op=2
 ·subst h2
  obtain⟨bn,rfl⟩:=Int.eq_ofNat_of_zero_le (cmd_b hc (.inl rfl)).1
  exact implPoss_2 w B v h hh an bn c hy hc
 by_cases h3:op=3
 ·subst h3;exact implPoss_3 w B v h hh an b c hy hc
 by_cases h4:op=4
 ·subst h4;exact implPoss_4 w B v h hh an b c hy hc
 by_cases h5:op=5
 ·subst h5;exact implPoss_5 w B v h hh an b c hy hc
 by_cases h6:op=6
 ·subst h6;exact implPoss_6 w B v h hh an b c hy hc
 exact absurd hc (by rw[cmdOk0 _ _ _ ⟨h1,h2,h3,h4,h5,h6⟩];exact Bool.false_ne_true)
theorem cmdsOk_long {cs:List Cmd}(h:40<cs.length):cmdsOk cs=false:=by
 unfold cmdsOk
 rw[decide_eq_false (by omega)];simp
set_option maxHeartbeats 1600000 in
theorem implCommandsValid_any (w:World) (B:Nat) (A:Option Addr) (n c:Nat) (cs:List Cmd) (hr:RdQ w B A n c cs):
  Calls Tryz.prog 30 #[.slice A n c] w fun e w'=>e=.returned (.bool (cmdsOk cs))/\Below w.heap.size w w':=by
 have hr:=hr.top
 have l1:=hr.le1;have l2:=hr.le2
 have hm:=Nat.le_trans hr.cap hr.mx
 unfold maxLen at hm
 by_cases h40:40<n
 ·have HF:=hid (cmdsOk_long (cs:=cs) (by omega))
  have HB:=Below.refl w.heap.size w
  have i1:(40:Int)<(n:Int):=by omega
  go_enter Tryz.func30,Tryz.ntmps30
  go_wp2
  go_ret
  exact⟨ret_b HF.out.symm,HB⟩
 have i1:¬ (40:Int)<(n:Int):=by omega
 have H0:=Owns.nil w
 go_enter Tryz.func30,Tryz.ntmps30
 go_wp2_with fail
 go_loopw [10] (fun i wr=>∃ k:Nat,i=.int .i64 k/\k<=n/\(cs.take k).all cmdOk=true/\Owns w.heap.size w wr []) (fun i _=>n - (intOf i).toNat)
 case atStart=>exact⟨0,rfl,Nat.zero_le _,by simp,H0⟩
 case round =>
  clear H0
  obtain⟨k,rfl,hk,hal,H⟩:=hrel
  by_cases hlt:k<n
  ·obtain⟨b,o,q,rfl,hbb,hx,q1,q2,q3,q4⟩:=hr.at_ hlt
   have g1:=H.ro q1 hbb
   have g2:=H.ro q2 hbb
   have g3:=H.ro q3 hbb
   have g4:=H.ro q4 hbb
   have HX:=H.alloc (.cells #[.int .i64 q.op,.int .i64 q.a,.int .i64 q.b,.int .i64 q.c] 79)
   cases hq:cmdOk q
   ·have HF:=hid (show cmdsOk cs=false by simp[cmdsOk,all_no hx hq])
    have HQ:=hid hq
    clear hal q1 q2 q3 q4 hq H
    go_wp2_with fail
    refine (implCommandValid_any q _).mono ?_
    rintro e w2 ⟨rfl,hb2⟩
    rw[HQ.out]
    have HB:=(HX.call hb2).below
    clear HX hb2
    go_wp2
    go_ret
    exact⟨ret_b HF.out.symm,HB⟩
   ·have HA:=hid (all_succ hal hx hq)
    have HQ:=hid hq
    clear hal q1 q2 q3 q4 hq H
    go_wp2_with fail
    refine (implCommandValid_any q _).mono ?_
    rintro e w2 ⟨rfl,hb2⟩
    rw[HQ.out]
    have HZ:=HX.call hb2
    clear HX hb2
    go_wp2_with fail
    go_roundw
    case rel=>exact⟨k+1,by go_num,by omega,HA.out,HZ⟩
    case measure=>simp[intOf];omega
  ·have h1:=all_end hal (by omega)
   have HF:=hid (show cmdsOk cs=true by
    rw[cmdsOk,h1,Bool.true_and]
    exact decide_eq_true (by omega))
   have HB:=H.below
   clear h1 hal H
   go_wp2
   go_ret
   exact⟨ret_b HF.out.symm,HB⟩
set_option maxHeartbeats 1600000 in
theorem implEmptyHeap_any (w:World):Calls Tryz.prog 46 #[] w (MadeHp w emptyH):=by
 have H0:=((Owns.nil w).box [.slice none 0 0,.slice (some ⟨w.heap.size+1,0,none⟩) 4 4] 29).litI [-1,-1,-1,-1] (by unfold maxLen;simp)
 simp only[lml,Nat.reduceAdd,World.size_alloc]at H0
 have H1:=H0.noCells
 obtain⟨z0,z1,-,-⟩:=H1.box2 2 rfl
 have HS:Hid (MadeHp w emptyH (.returned (.agg #[.slice none 0 0,.slice (some ⟨w.heap.size+1,0,none⟩) 4 4])) _):=hid ⟨_,[],_,rfl,H1.take 2⟩
 clear H0 H1
 go_enter Tryz.func46,Tryz.ntmps46
 go_wp2
 exact bodyPost_ret (by simp[results,Tryz.results46,go_sem,z0,z1]) rfl HS.out
set_option maxHeartbeats 3200000 in
set_option maxRecDepth 20000 in
theorem implStepHeap_any (w:World) (B:Nat) (v:Value) (h:Hp) (hh:RdH w B v h) (o:Cmd) (g:Good h) (hc:cmdOk o=true):
  Calls Tryz.prog 47 #[v,cmdV o] w (MadeHBl w (mStep h o) (stepOk h o)):=by
 have hh':=hh.top
 obtain⟨D,m,d,D',m',d',rfl,hC,hR⟩:=hh.top
 obtain rfl:=hC.len
 have hl40:=g.len
 have hr4:h.roots.length<=4:=by have:=g.roots;omega
 obtain⟨op,a,b,c⟩:=o
 have H:=(((Owns.nil w).box [.slice D h.cells.length d,.slice D' m' d'] 29).box [.int .i64 op,.int .i64 a,.int .i64 b,.int .i64 c] 79).box [.slice none 0 0,.slice none 0 0] 29
 simp only[lnm]at H
 have HY:=hid (good_iff.2 g)
 have HC:=hid hc
 have GG:=hid g
 clear hc g
 obtain⟨a0,a1,-,-⟩:=H.box2 2 rfl
 obtain⟨b0,b1,b2,b3,-,-,-,-⟩:=box4 H 1 rfl
 go_enter Tryz.func47,Tryz.ntmps47
 go_wp2_with fail
 refine (heapValid_any _ _ _ h (hh'.below H.below)).mono ?_
 rintro e w1 ⟨rfl,hb⟩
 rw[HY.out]
 replace H:=H.call hb
 clear hb a0 a1 b0 b1 b2 b3
 obtain⟨a0,a1,-,-⟩:=H.box2 2 rfl
 obtain⟨b0,b1,b2,b3,-,-,-,-⟩:=box4 H 1 rfl
 go_wp2_with fail
 refine (implCommandValid_any ⟨op,a,b,c⟩ _).mono ?_
 rintro e w2 ⟨rfl,hb⟩
 rw[HC.out]
 replace H:=H.call hb
 clear hb a0 a1 b0 b1 b2 b3
 obtain⟨a0,a1,-,-⟩:=H.box2 2 rfl
 obtain⟨b0,b1,b2,b3,-,-,-,-⟩:=box4 H 1 rfl
 go_wp2_with fail
 refine (implPossible_any _ _ _ h (hh'.below H.below) ⟨op,a,b,c⟩).mono ?_
 rintro e w3 ⟨rfl,hb⟩
 rw[mPoss_yes HY.out HC.out]
 replace H:=H.call hb
 clear hb a0 a1 b0 b1 b2 b3
 obtain⟨a0,a1,-,-⟩:=H.box2 2 rfl
 obtain⟨b0,b1,b2,b3,-,-,-,-⟩:=box4 H 1 rfl
 obtain⟨y0,y1,y2,y3⟩:=H.box2 0 rfl
 have HN3:=hid (good_small GG.out)
 cases hp:possB h ⟨op,a,b,c⟩
 ·have hs:stepOk h ⟨op,a,b,c⟩=false:=by simp[stepOk,hp]
  have HF1:=hid hs
  have HF2:=hid (mStep_no GG.out HC.out hs)
  clear hs hp
  go_wp2_with fail
  refine (copyHeap_any _ _ _ h (hh'.below H.below) (by omega) (by omega) HN3.out).mono ?_
  rintro e w4 ⟨v1,rfl,ho,hb⟩
  obtain⟨cv,rvs,rv,rfl,K⟩:=H.madeH ho hb
  clear ho hb
  obtain⟨C,kC,rfl,-⟩:=K.formC 0 rfl
  obtain⟨R,kR,rfl,-⟩:=K.formI 1 rfl
  clear H a0 a1 b0 b1 b2 b3 y0 y1 y2 y3
  obtain⟨y0,y1,y2,y3⟩:=K.box2 2 rfl
  have HZ:=(K.putBox 2 rfl 0 (.slice C h.cells.length kC)).putBox 2 rfl 1 (.slice R h.roots.length kR)
  simp only[lnm]at HZ
  obtain⟨z0,z1,-,-⟩:=HZ.box2 2 rfl
  obtain⟨z2,-,-,-⟩:=(K.putBox 2 rfl 0 (.slice C h.cells.length kC)).box2 2 rfl
  have HS:Hid (MadeHBl w (mStep h ⟨op,a,b,c⟩) (stepOk h ⟨op,a,b,c⟩) (.returned (.tuple #[.agg #[.slice C h.cells.length kC,.slice R h.roots.length kR],.bool false])) _):=hid (by rw[HF1.out,HF2.out];exact⟨_,rvs,_,rfl,HZ.take 2⟩)
  clear K HZ
  go_wp2
  exact bodyPost_ret (by simp[results,Tryz.results47,go_sem,z0,z1,z2]) rfl HS.out
 have HP:=hid hp
 by_cases h1:op=1
 ·by_cases hl:h.cells.length=40
  ·have hs:stepOk h ⟨op,a,b,c⟩=false:=by simp[stepOk,h1,hl]
   have HF1:=hid hs
   have HF2:=hid (mStep_no GG.out HC.out hs)
   have k1:((h.cells.length:Int) == 40)=true:=by simp;omega
   have k3:(op == 1)=true:=by simp[h1]
   clear hs hp hl h1
   go_wp2_with fail
   refine (copyHeap_any _ _ _ h (hh'.below H.below) (by omega) (by omega) HN3.out).mono ?_
   rintro e w4 ⟨v1,rfl,ho,hb⟩
   obtain⟨cv,rvs,rv,rfl,K⟩:=H.madeH ho hb
   clear ho hb
   obtain⟨C,kC,rfl,-⟩:=K.formC 0 rfl
   obtain⟨R,kR,rfl,-⟩:=K.formI 1 rfl
   clear H a0 a1 b0 b1 b2 b3 y0 y1 y2 y3
   obtain⟨y0,y1,y2,y3⟩:=K.box2 2 rfl
   have HZ:=(K.putBox 2 rfl 0 (.slice C h.cells.length kC)).putBox 2 rfl 1 (.slice R h.roots.length kR)
   simp only[lnm]at HZ
   obtain⟨z0,z1,-,-⟩:=HZ.box2 2 rfl
   obtain⟨z2,-,-,-⟩:=(K.putBox 2 rfl 0 (.slice C h.cells.length kC)).box2 2 rfl
   have HS:Hid (MadeHBl w (mStep h ⟨op,a,b,c⟩) (stepOk h ⟨op,a,b,c⟩) (.returned (.tuple #[.agg #[.slice C h.cells.length kC,.slice R h.roots.length kR],.bool false])) _):=hid (by rw[HF1.out,HF2.out];exact⟨_,rvs,_,rfl,HZ.take 2⟩)
   clear K HZ
   go_wp2
   exact bodyPost_ret (by simp[results,Tryz.results47,go_sem,z0,z1,z2]) rfl HS.out
  ·have hs:stepOk h ⟨op,a,b,c⟩=true:=by unfold stepOk;rw[hp];simp[hl]
   have HF1:=hid hs
   have HF2:=hid (mStep_yes GG.out HC.out hs)
   have k1:((h.cells.length:Int) == 40)=false:=by simp;omega
   have k3:(op == 1)=true:=by simp[h1]
   clear hs hp hl h1
   go_wp2_with fail
   refine (execute_any _ _ _ h (hh'.below H.below) ⟨op,a,b,c⟩ GG.out HC.out HP.out h.cells.length (Nat.le_refl _)).mono ?_
   rintro e w4 ⟨cv,rvs,rv,rfl,K⟩
   replace K:=H.merge K
   simp only[lca]at K
   obtain⟨T,hT⟩:∃ T,T=mDo h ⟨op,a,b,c⟩ h.cells.length:=⟨_,rfl⟩
   rw[<-hT]at K HF2
   clear hT
   obtain⟨C,kC,rfl,-⟩:=K.formC 0 rfl
   obtain⟨R,kR,rfl,-⟩:=K.formI 1 rfl
   clear H a0 a1 b0 b1 b2 b3 y0 y1 y2 y3
   obtain⟨y0,y1,y2,y3⟩:=K.box2 2 rfl
   have HZ:=(K.putBox 2 rfl 0 (.slice C T.cells.length kC)).putBox 2 rfl 1 (.slice R T.roots.length kR)
   simp only[lnm]at HZ
   obtain⟨z0,z1,-,-⟩:=HZ.box2 2 rfl
   obtain⟨z2,-,-,-⟩:=(K.putBox 2 rfl 0 (.slice C T.cells.length kC)).box2 2 rfl
   have HS:Hid (MadeHBl w (mStep h ⟨op,a,b,c⟩) (stepOk h ⟨op,a,b,c⟩) (.returned (.tuple #[.agg #[.slice C T.cells.length kC,.slice R T.roots.length kR],.bool true])) _):=hid (by rw[HF1.out,HF2.out];exact⟨_,rvs,_,rfl,HZ.take 2⟩)
   clear K HZ
   go_wp2
   exact bodyPost_ret (by simp[results,Tryz.results47,go_sem,z0,z1,z2]) rfl HS.out
 ·have hs:stepOk h ⟨op,a,b,c⟩=true:=by unfold stepOk;rw[hp];simp[h1]
  have HF1:=hid hs
  have HF2:=hid (mStep_yes GG.out HC.out hs)
  have k3:(op == 1)=false:=by simp[h1]
  clear hs hp
  go_wp2_with fail
  refine (execute_any _ _ _ h (hh'.below H.below) ⟨op,a,b,c⟩ GG.out HC.out HP.out h.cells.length (Nat.le_refl _)).mono ?_
  rintro e w4 ⟨cv,rvs,rv,rfl,K⟩
  replace K:=H.merge K
  simp only[lca]at K
  obtain⟨T,hT⟩:∃ T,T=mDo h ⟨op,a,b,c⟩ h.cells.length:=⟨_,rfl⟩
  rw[<-hT]at K HF2
  clear hT
  obtain⟨C,kC,rfl,-⟩:=K.formC 0 rfl
  obtain⟨R,kR,rfl,-⟩:=K.formI 1 rfl
  clear H a0 a1 b0 b1 b2 b3 y0 y1 y2 y3
  obtain⟨y0,y1,y2,y3⟩:=K.box2 2 rfl
  have HZ:=(K.putBox 2 rfl 0 (.slice C T.cells.length kC)).putBox 2 rfl 1 (.slice R T.roots.length kR)
  simp only[lnm]at HZ
  obtain⟨z0,z1,-,-⟩:=HZ.box2 2 rfl
  obtain⟨z2,-,-,-⟩:=(K.putBox 2 rfl 0 (.slice C T.cells.length kC)).box2 2 rfl
  have HS:Hid (MadeHBl w (mStep h ⟨op,a,b,c⟩) (stepOk h ⟨op,a,b,c⟩) (.returned (.tuple #[.agg #[.slice C T.cells.length kC,.slice R T.roots.length kR],.bool true])) _):=hid (by rw[HF1.out,HF2.out];exact⟨_,rvs,_,rfl,HZ.take 2⟩)
  clear K HZ
  go_wp2
  exact bodyPost_ret (by simp[results,Tryz.results47,go_sem,z0,z1,z2]) rfl HS.out
set_option maxHeartbeats 3200000 in
set_option maxRecDepth 20000 in
theorem implRunHeap_any (w:World) (B:Nat) (A:Option Addr) (n c:Nat) (cs:List Cmd) (hr:RdQ w B A n c cs):
  Calls Tryz.prog 14 #[.slice A n c] w (MadeHp w (mRun cs)):=by
 have hr:=hr.top
 obtain rfl:=hr.len
 have hm:=Nat.le_trans hr.cap hr.mx
 unfold maxLen at hm
 have H:=(Owns.nil w).box [.slice none 0 0,.slice none 0 0] 29
 go_enter Tryz.func14,Tryz.ntmps14
 go_wp2_with fail
 refine (implCommandsValid_any _ _ _ _ _ cs (hr.below H.below)).mono ?_
 rintro e w1 ⟨rfl,hb⟩
 replace H:=H.call hb
 clear hb
 obtain⟨y0,y1,y2,y3⟩:=H.box2 0 rfl
 cases hc:cmdsOk cs
 ·have HF:=hid (mRun_no hc)
  clear hc
  have HZ:=(((H.putBox 0 rfl 0 (.slice none 0 0)).putBox 0 rfl 1 (.slice none 0 0)).noInts).noCells
  simp only[lnm]at HZ
  obtain⟨z0,z1,-,-⟩:=HZ.box2 2 rfl
  have HS:Hid (MadeHp w (mRun cs) (.returned (.agg #[.slice none 0 0,.slice none 0 0])) _):=hid (by rw[HF.out];exact⟨_,[],_,rfl,HZ.take 2⟩)
  clear HZ H
  go_wp2
  exact bodyPost_ret (by simp[results,Tryz.results14,go_sem,z0,z1]) rfl HS.out
 have HF:=hid (mRun_yes hc)
 have HA:=hid (cmdsOk_all hc)
 clear hc
 go_wp2_with fail
 refine (implEmptyHeap_any _).mono ?_
 rintro e w2 ⟨cv,rvs,rv,rfl,K⟩
 replace K:=H.merge K
 simp only[lca]at K
 obtain⟨C,kC,rfl,-⟩:=K.formC 0 rfl
 obtain⟨R,kR,rfl,-⟩:=K.formI 1 rfl
 clear H y0 y1 y2 y3
 have H2:=K.box [.slice C emptyH.cells.length kC,.slice R emptyH.roots.length kR] 29
 clear K
 have H3:Owns w.heap.size w _ [.box w2.heap.size [.slice C (runTo (cs.take 0)).cells.length kC,.slice R (runTo (cs.take 0)).roots.length kR] 29,.cells (.slice C (runTo (cs.take 0)).cells.length kC) rvs (runTo (cs.take 0)).cells,.ints (.slice R (runTo (cs.take 0)).roots.length kR) (runTo (cs.take 0)).roots,.box w.heap.size [.slice none 0 0,.slice none 0 0] 29]:=H2
 clear H2
 go_wp2_with fail
 go_loopw [13] (fun i wr=>∃ (k:Nat) (C R:Option Addr) (kC kR:Nat) (rvs:List Value) (h:Hp),i=.int .i64 k/\k<=cs.length/\h=runTo (cs.take k)/\Owns w.heap.size w wr [.box w2.heap.size [.slice C h.cells.length kC,.slice R h.roots.length kR] 29,.cells (.slice C h.cells.length kC) rvs h.cells,.ints (.slice R h.roots.length kR) h.roots,.box w.heap.size [.slice none 0 0,.slice none 0 0] 29]) (fun i _=>cs.length - (intOf i).toNat)
 case atStart=>exact⟨0,C,R,kC,kR,rvs,_,rfl,Nat.zero_le _,rfl,H3⟩
 case round =>
  clear H3
  obtain⟨k,C,R,kC,kR,rvs,h,rfl,hk,hh,H⟩:=hrel
  by_cases hlt:k<cs.length
  ·obtain⟨b,o,p,rfl,hbb,hx,q1,q2,q3,q4⟩:=hr.at_ hlt
   have hp:cmdOk p=true:=HA.out p (List.mem_of_getElem? hx.out)
   have hg:Good h:=by rw[hh];exact runTo_good _ fun o ho=>HA.out o (List.mem_of_mem_take ho)
   have HE:=hid (show mStep h p=runTo (cs.take (k+1)) by rw[take_snoc' hx,runTo_snoc,hh])
   have GG:=hid hg
   have HP:=hid hp
   clear hp hg hh
   have g1:=H.ro q1 hbb
   have g2:=H.ro q2 hbb
   have g3:=H.ro q3 hbb
   have g4:=H.ro q4 hbb
   have H0:=H.box [.int .i64 p.op,.int .i64 p.a,.int .i64 p.b,.int .i64 p.c] 79
   obtain⟨x0,x1,-,-⟩:=H0.box2 1 rfl
   clear H q1 q2 q3 q4
   go_wp2_with fail
   refine (implStepHeap_any _ _ _ h (H0.rdH 2 3 rfl rfl) p GG.out HP.out).mono ?_
   rintro e w4 ⟨cv,rvs',rv,rfl,K⟩
   replace K:=H0.merge K
   simp only[lca]at K
   obtain⟨T,hT⟩:∃ T,T=mStep h p:=⟨_,rfl⟩
   rw[<-hT]at K HE
   clear hT H0 x0 x1 g1 g2 g3 g4
   obtain⟨C',kC',rfl,-⟩:=K.formC 0 rfl
   obtain⟨R',kR',rfl,-⟩:=K.formI 1 rfl
   obtain⟨x0,x1,x2,x3⟩:=K.box2 3 rfl
   have H7:=((K.putBox 3 rfl 0 (.slice C' T.cells.length kC')).putBox 3 rfl 1 (.slice R' T.roots.length kR')).places [3,0,1,6] (by decide) (by simp)
   simp only[lfm,lsz]at H7
   clear K
   go_wp2_with fail
   go_roundw
   case rel=>exact⟨k+1,C',R',kC',kR',rvs',T,by go_num,by omega,HE.out,H7⟩
   case measure=>simp[intOf];omega
  ·have HE:=hid (show runTo cs=h by rw[hh,List.take_of_length_le (by omega)])
   clear hh
   obtain⟨x0,x1,-,-⟩:=H.box2 0 rfl
   obtain⟨y0,y1,y2,y3⟩:=H.box2 3 rfl
   have HZ:=(H.putBox 3 rfl 0 (.slice C h.cells.length kC)).putBox 3 rfl 1 (.slice R h.roots.length kR)
   simp only[lnm]at HZ
   obtain⟨z0,z1,-,-⟩:=HZ.box2 3 rfl
   obtain⟨z2,-,-,-⟩:=(H.putBox 3 rfl 0 (.slice C h.cells.length kC)).box2 3 rfl
   have HS:Hid (MadeHp w (mRun cs) (.returned (.agg #[.slice C h.cells.length kC,.slice R h.roots.length kR])) _):=hid (by rw[HF.out,HE.out];exact⟨_,rvs,_,rfl,HZ.order [1,2] (by decide) rfl⟩)
   clear H HZ
   go_wp2
   exact bodyPost_ret (by simp[results,Tryz.results14,go_sem,z0,z1,z2]) rfl HS.out
def cnts (n:Nat) (xs:List Int):List Int:=(List.range n).map fun k:Nat=>((xs.count (k:Int):Nat):Int)
theorem cnts_len (n:Nat) (xs:List Int):(cnts n xs).length=n:=by simp[cnts]
theorem cnts_at {n:Nat}(xs:List Int) {k:Nat}(h:k<n):(cnts n xs)[k]?=some ((xs.count (k:Int):Nat):Int):=by simp[cnts,List.getElem?_range h]
theorem cnts_nil (n:Nat):cnts n []=List.replicate n 0:=by
 apply List.ext_getElem?
 intro k
 by_cases h:k<n
 ·rw[cnts_at _ h];simp[List.getElem?_replicate,h]
 ·rw[List.getElem?_eq_none (by rw[cnts_len];omega),List.getElem?_eq_none (by simp;omega)]
theorem cnts_perm {n:Nat}{xs ys:List Int}(h:xs.Perm ys):cnts n xs=cnts n ys:=by
 unfold cnts
 refine List.map_congr_left fun k _=>?_
 rw[h.count_eq]
theorem cnts_set {n:Nat}{xs ys:List Int}{q:Nat}(hs:∀ k:Nat,k≠q->xs.count (k:Int)=ys.count (k:Int)) {v:Int}(hv:v=(ys.count (q:Int):Nat)):(cnts n xs).set q v=cnts n ys:=by
 apply List.ext_getElem?
 intro k
 rw[List.getElem?_set]
 by_cases h:k<n
 ·by_cases e:q=k
  ·subst e
   rw[if_pos rfl,if_pos (by rw[cnts_len];exact h),cnts_at _ h,hv]
  ·rw[if_neg e,cnts_at _ h,cnts_at _ h,hs k fun e2=>e e2.symm]
 ·rw[List.getElem?_eq_none (l:=cnts n ys) (by rw[cnts_len];omega)]
  split
  ·rw[if_neg (by rw[cnts_len];omega)]
  ·exact List.getElem?_eq_none (by rw[cnts_len];omega)
theorem cnts_snoc_neg {n:Nat}{xs:List Int}{r:Int}(h:r<0):cnts n (xs++[r])=cnts n xs:=by
 unfold cnts
 refine List.map_congr_left fun k _=>?_
 have hk:¬ r=(k:Int):=by omega
 simp[List.count_append,List.count_cons,hk]
theorem cnts_snoc {n:Nat}{xs:List Int}{q:Nat}:cnts n (xs++[(q:Int)])=(cnts n xs).set q (((xs.count (q:Int):Nat):Int)+1):=by
 symm
 refine cnts_set (fun k hk=>?_) ?_
 ·have hk:¬ (q:Int)=(k:Int):=by omega
  simp[List.count_append,List.count_cons,hk]
 ·simp[List.count_append]
theorem cnts_cons_neg {n:Nat}{xs:List Int}{r:Int}(h:r<0):cnts n (r::xs)=cnts n xs:=by
 unfold cnts
 refine List.map_congr_left fun k _=>?_
 have hk:¬ r=(k:Int):=by omega
 simp[List.count_cons,hk]
theorem cnts_cons {n:Nat}{xs:List Int}{q:Nat}:(cnts n ((q:Int)::xs)).set q ((xs.count (q:Int):Nat):Int)=cnts n xs:=by
 refine cnts_set (fun k hk=>?_) rfl
 have hk:¬ (q:Int)=(k:Int):=by omega
 simp[List.count_cons,hk]
theorem count_cons_same (xs:List Int) (x:Int):(x::xs).count x=xs.count x+1:=by simp
def refsTo (cs:List Cel) (k:Nat):List Int:=(cs.take k).flatMap (·.refs)
def allRefs (h:Hp):List Int:=h.roots++h.cells.flatMap (·.refs)
def mCounts (h:Hp):List Int:=cnts h.cells.length (allRefs h)
theorem mCounts_len (h:Hp):(mCounts h).length=h.cells.length:=cnts_len _ _
theorem refsTo_succ {cs:List Cel}{k:Nat}{l:Cel}(h:Hid (cs[k]?=some l)):refsTo cs (k+1)=refsTo cs k++l.refs:=by
 unfold refsTo
 rw[take_snoc' h,List.flatMap_append]
 simp
theorem refsTo_all {cs:List Cel}{k:Nat}(h:cs.length<=k):refsTo cs k=cs.flatMap (·.refs):=by
 unfold refsTo
 rw[List.take_of_length_le h]
theorem held_iff {X:Hp}{k:Nat}:heldP X k ↔ (k:Int)∈allRefs X:=by
 unfold heldP allRefs
 rw[List.mem_append,List.mem_flatMap]
 constructor
 ·rintro (h|⟨j,l,h1,h2⟩)
  ·exact .inl h
  ·exact .inr ⟨l,List.mem_of_getElem? h1,h2⟩
 ·rintro (h|⟨l,h1,h2⟩)
  ·exact .inl h
  ·obtain⟨j,hj,rfl⟩:=List.mem_iff_getElem.1 h1
   exact .inr ⟨j,_,List.getElem?_eq_getElem hj,h2⟩
theorem flat_set:∀ (cs:List Cel) (k:Nat) (l:Cel),cs[k]?=some l->(cs.flatMap (·.refs)).Perm (l.refs++(cs.set k noCel).flatMap (·.refs))
 | [],k,l,h=>by simp at h
 | c::cs,0,l,h=>by
  simp only[List.getElem?_cons_zero,Option.some.injEq]at h
  subst h
  simp[noCel]
 | c::cs,k+1,l,h=>by
  have:=flat_set cs k l (by simpa using h)
  simp only[List.flatMap_cons,List.set_cons_succ]
  refine (this.append_left c.refs).trans ?_
  rw[<-List.append_assoc,<-List.append_assoc]
  exact List.perm_append_comm.append_right _
theorem refs_freed {X:Hp}{k:Nat}{l:Cel}(h:X.cells[k]?=some l):(allRefs X).Perm (l.refs++allRefs ⟨X.cells.set k noCel,X.roots⟩):=by
 unfold allRefs
 refine ((flat_set _ _ _ h).append_left X.roots).trans ?_
 rw[<-List.append_assoc,<-List.append_assoc]
 exact List.perm_append_comm.append_right _
def LeadX (cs:List Cel) (xs:List Int):Prop:=∀ r∈xs,r<0\/(0<=r/\r.toNat<cs.length/\usedN cs r.toNat=true)
theorem lead_start {h:Hp}(h0:heapOk h=true):LeadX h.cells (allRefs h):=fun r hr=>by
 obtain⟨g1,g2⟩:=heapOk_leads h0
 have hl:leadsB h.cells r=true:=by
  rcases List.mem_append.1 hr with e|e
  ·exact g1 r e
  ·obtain⟨l,h1,h2⟩:=List.mem_flatMap.1 e
   obtain⟨j,hj,rfl⟩:=List.mem_iff_getElem.1 h1
   exact g2 j _ (List.getElem?_eq_getElem hj) r h2
 by_cases hp:0<=r
 ·have hu:=leadsB_used hl hp
  exact .inr ⟨hp,usedN_lt hu,hu⟩
 ·exact .inl (by omega)
theorem usedN_wipe {cs:List Cel}{k i:Nat}(hk:k<cs.length):usedN (cs.set k noCel) i=(usedN cs i && !decide (i=k)):=by
 unfold usedN
 rw[List.getD_eq_getElem?_getD,List.getD_eq_getElem?_getD,List.getElem?_set]
 by_cases e:k=i
 ·subst e
  rw[if_pos rfl,if_pos hk]
  simp[noCel]
 ·rw[if_neg e,decide_eq_false (fun e2=>e e2.symm)]
  simp
theorem lead_freed {X:Hp}{k:Nat}{l:Cel}(hl:X.cells[k]?=some l) (hn:(k:Int) ∉ allRefs X) (L:LeadX X.cells (allRefs X)):LeadX (X.cells.set k noCel) (l.refs++allRefs ⟨X.cells.set k noCel,X.roots⟩):=fun r hr=>by
 have hm:=(refs_freed hl).mem_iff.2 hr
 have hk:=(List.getElem?_eq_some_iff.1 hl).1
 rcases L r hm with e|⟨h1,h2,h3⟩
 ·exact .inl e
 ·have hne:r.toNat≠k:=fun e=>hn (by rw[<-e,Int.toNat_of_nonneg h1];exact hm)
  exact .inr ⟨h1,by simpa using h2,by rw[usedN_wipe hk,h3,decide_eq_false hne];rfl⟩
structure QuOk (cs:List Cel) (xs:List Int) (Q:List Int):Prop where
 nodup:Q.Nodup
 mem:∀ r,r∈Q ↔ 0<=r/\usedN cs r.toNat=true/\r ∉ xs
theorem QuOk.pop {X:Hp}{q:Int}{Q:List Int}{l:Cel}(h:QuOk X.cells (allRefs X) (q::Q)) (hl:X.cells[q.toNat]?=some l):QuOk (X.cells.set q.toNat noCel) (l.refs++allRefs ⟨X.cells.set q.toNat noCel,X.roots⟩) Q:=by
 have hk:=(List.getElem?_eq_some_iff.1 hl).1
 obtain⟨q0,-,-⟩:=(h.mem q).1 (by simp)
 have hnd:=List.nodup_cons.1 h.nodup
 refine⟨hnd.2,fun r=>?_⟩
 have hm:r∈allRefs X ↔ r∈l.refs++allRefs ⟨X.cells.set q.toNat noCel,X.roots⟩:=(refs_freed hl).mem_iff
 rw[<-hm,usedN_wipe hk]
 constructor
 ·intro hr
  obtain⟨r0,r1,r2⟩:=(h.mem r).1 (List.mem_cons_of_mem _ hr)
  have hne:r.toNat≠q.toNat:=fun e=>hnd.1 (by rw[show q=r by omega];exact hr)
  exact⟨r0,by rw[r1,decide_eq_false hne];rfl,r2⟩
 ·rintro ⟨r0,r1,r2⟩
  simp only[Bool.and_eq_true,Bool.not_eq_true',decide_eq_false_iff_not]at r1
  rcases List.mem_cons.1 ((h.mem r).2 ⟨r0,r1.1,r2⟩) with e|e
  ·rw[e]at r1;exact absurd rfl r1.2
  ·exact e
theorem QuOk.neg {cs:List Cel}{r:Int}{xs Q:List Int}(h:QuOk cs (r::xs) Q) (hr:r<0):QuOk cs xs Q:=by
 refine⟨h.nodup,fun x=>?_⟩
 rw[h.mem x,List.mem_cons]
 constructor
 ·rintro ⟨h1,h2,h3⟩
  exact⟨h1,h2,fun k=>h3 (.inr k)⟩
 ·rintro ⟨h1,h2,h3⟩
  refine⟨h1,h2,?_⟩
  rintro (e|e)
  ·omega
  ·exact h3 e
theorem QuOk.more {cs:List Cel}{r:Int}{xs Q:List Int}(h:QuOk cs (r::xs) Q) (hr:r∈xs):QuOk cs xs Q:=by
 refine⟨h.nodup,fun x=>?_⟩
 rw[h.mem x,List.mem_cons]
 constructor
 ·rintro ⟨h1,h2,h3⟩
  exact⟨h1,h2,fun k=>h3 (.inr k)⟩
 ·rintro ⟨h1,h2,h3⟩
  refine⟨h1,h2,?_⟩
  rintro (e|e)
  ·exact h3 (e ▸ hr)
  ·exact h3 e
theorem QuOk.last {cs:List Cel}{r:Int}{xs Q:List Int}(h:QuOk cs (r::xs) Q) (hn:r ∉ xs) (h0:0<=r) (hu:usedN cs r.toNat=true):QuOk cs xs (Q++[r]):=by
 have hq:r ∉ Q:=fun k=>((h.mem r).1 k).2.2 (by simp)
 refine⟨?_,fun x=>?_⟩
 ·rw[List.nodup_append]
  refine⟨h.nodup,by simp,fun a ha b hb=>?_⟩
  rw[List.mem_singleton]at hb
  subst hb
  exact fun e=>hq (e ▸ ha)
 ·rw[List.mem_append,h.mem x,List.mem_cons,List.mem_singleton]
  constructor
  ·rintro (⟨h1,h2,h3⟩|rfl)
   ·exact⟨h1,h2,fun k=>h3 (.inr k)⟩
   ·exact⟨h0,hu,hn⟩
  ·rintro ⟨h1,h2,h3⟩
   by_cases e:x=r
   ·exact .inr e
   ·refine .inl ⟨h1,h2,?_⟩
    rintro (k|k)
    ·exact e k
    ·exact h3 k
def qu0 (h:Hp) (k:Nat):List Int:=((List.range k).filter fun i=>usedN h.cells i && !decide ((i:Int)∈allRefs h)).map fun i:Nat=>(i:Int)
theorem qu0_succ (h:Hp) (k:Nat):qu0 h (k+1)=qu0 h k++(if usedN h.cells k && !decide ((k:Int)∈allRefs h) then [(k:Int)] else []):=by
 unfold qu0
 rw[List.range_succ,List.filter_append,List.map_append]
 congr 1
 cases e:(usedN h.cells k && !decide ((k:Int)∈allRefs h))
 ·simp[List.filter_cons,e]
 ·simp[List.filter_cons,e]
theorem qu0_len (h:Hp) (k:Nat):(qu0 h k).length<=k:=by
 unfold qu0
 have:=List.length_filter_le (fun i=>usedN h.cells i && !decide ((i:Int)∈allRefs h)) (List.range k)
 simp only[List.length_map]
 simpa using this
theorem qu0_ok (h:Hp):QuOk h.cells (allRefs h) (qu0 h h.cells.length):=by
 refine⟨?_,fun r=>?_⟩
 ·unfold qu0
  refine List.Pairwise.map _ (R:=fun a b:Nat=>a≠b) (fun a b hab=>by omega) ?_
  exact List.Pairwise.filter _ List.nodup_range
 ·unfold qu0
  simp only[List.mem_map,List.mem_filter,List.mem_range,Bool.and_eq_true,Bool.not_eq_true',decide_eq_false_iff_not]
  constructor
  ·rintro ⟨i,⟨h1,h2,h3⟩,rfl⟩
   exact⟨by omega,by simpa using h2,h3⟩
  ·rintro ⟨h1,h2,h3⟩
   refine⟨r.toNat,⟨usedN_lt h2,h2,?_⟩,by omega⟩
   rw[Int.toNat_of_nonneg h1]
   exact h3
theorem QuOk.len {cs:List Cel}{xs Q:List Int}(h:QuOk cs xs Q):Q.length<=cs.length:=by
 have hs:Q ⊆ (List.range cs.length).map fun i:Nat=>(i:Int):=fun r hr=>by
  obtain⟨h1,h2,-⟩:=(h.mem r).1 hr
  exact List.mem_map.2 ⟨r.toNat,List.mem_range.2 (usedN_lt h2),by omega⟩
 have:=h.nodup.length_le_of_subset hs
 simpa using this
def usedC:List Cel->Nat
 | []=>0
 | c::cs=>(if c.used then 1 else 0)+usedC cs
theorem usedC_set:∀ (cs:List Cel) (k:Nat),usedN cs k=true->usedC (cs.set k noCel)+1=usedC cs
 | [],k,h=>by simp[usedN,noCel]at h
 | c::cs,0,h=>by
  have:c.used=true:=by simpa [usedN] using h
  simp[usedC,noCel,this,Nat.add_comm]
 | c::cs,k+1,h=>by
  have:=usedC_set cs k (by simpa [usedN] using h)
  simp only[usedC,List.set_cons_succ]
  omega
theorem usedC_le:∀ cs:List Cel,usedC cs<=cs.length
 | []=>Nat.le_refl _
 | c::cs=>by
  have:=usedC_le cs
  simp only[usedC,List.length_cons]
  split <;> omega
theorem fre_end {h X:Hp}(h0:heapOk h=true) (f:Fre h X) (q:QuOk X.cells (allRefs X) []):X=mUncount h:=by
 refine f.fin h0 fun k hu=>?_
 rw[held_iff]
 refine Classical.byContradiction fun hn=>?_
 have:=(q.mem (k:Int)).2 ⟨by omega,by simpa using hu,hn⟩
 simp at this
theorem fre_free {h X:Hp}(f:Fre h X) {k:Nat}(hn:(k:Int) ∉ allRefs X):Fre h ⟨X.cells.set k noCel,X.roots⟩:=f.step fun hh=>hn (held_iff.1 hh)
theorem count_zero {xs:List Int}{x:Int}:xs.count x=0 ↔ x ∉ xs:=List.count_eq_zero
theorem mCounts_zero {X:Hp}{k:Nat}{x:Int}(hx:(mCounts X)[k]?=some x):x=0 ↔ (k:Int) ∉ allRefs X:=by
 have hk:k<X.cells.length:=by
  have:=(List.getElem?_eq_some_iff.1 hx).1
  rwa [mCounts_len]at this
 unfold mCounts at hx
 rw[cnts_at _ hk]at hx
 injection hx with hx
 rw[<-count_zero,<-hx]
 omega
def ordM (o:List Int):Nat:=o.foldl addB 0
theorem ordM_snoc (o:List Int) (x:Int):ordM (o++[x])=addB (ordM o) x:=by simp[ordM]
theorem foldM_has:∀ (o:List Int) (m:Nat),(∀ x∈o,0<=x)->∀ r,hasB (o.foldl addB m) r=(hasB m r || decide (r∈o))
 | [],m,_,r=>by simp
 | a::o,m,h,r=>by
  rw[List.foldl_cons,foldM_has o _ (fun x hx=>h x (List.mem_cons_of_mem _ hx)) r,addB_has (h a (by simp))]
  by_cases e:r=a
  ·simp[e]
  ·simp[e]
theorem hasB_zero (r:Int):hasB 0 r=false:=by simp[hasB]
theorem ordM_has {o:List Int}(h:∀ x∈o,0<=x) (r:Int):hasB (ordM o) r=decide (r∈o):=by
 unfold ordM
 rw[foldM_has o 0 h r,hasB_zero,Bool.false_or]
theorem foldM_lt:∀ (o:List Int) (m:Nat),m<2 ^ 64->(∀ x∈o,0<=x/\x<64)->o.foldl addB m<2 ^ 64
 | [],m,h,_=>h
 | a::o,m,h,k=>foldM_lt o _ (addB_lt h (k a (by simp)).1 (k a (by simp)).2) fun x hx=>k x (List.mem_cons_of_mem _ hx)
theorem ordM_lt {o:List Int}(k:∀ x∈o,0<=x/\x<64):ordM o<2 ^ 64:=foldM_lt o 0 (by omega) k
abbrev OrdB (g1 g2:Nat) (v:Value) (o:List Int) (L:List OB):List OB:=
 .box g1 [.int .u64 (ordM o)] 140::.box g2 [v] 27::.ints v o::L
set_option maxHeartbeats 1600000 in
theorem visitO_any {lo:Nat}{w0 w:World}{L:List OB}{g1 g2:Nat}{v:Value}{o:List Int}(H:Owns lo w0 w (OrdB g1 g2 v o L)) {B:Nat}{A:Option Addr}{n c:Nat}{rs:List Int}(hr:RdI w0 B A n c rs) (hB:B<=lo)
  (hO:∀ x∈o,0<=x/\x<64) (hR:∀ r∈rs,0<=r->r<64) (hl:o.length+n<=100):
  Calls Tryz.prog 103 #[.slice A n c,.pointer (some ⟨g1,0,none⟩),.pointer (some ⟨g2,0,none⟩)] w fun e w' =>
   (∃ u,e=.returned u)/\∃ v',Owns lo w0 w' (OrdB g1 g2 v' (ordL o rs) L):=by
 have hm1:=hr.mx;have hcap1:=hr.cap
 have l1:=RdI.le1 hr;have l2:=RdI.le2 hr
 unfold maxLen at hm1
 go_enter Tryz.func103,Tryz.ntmps103
 go_wp2_with fail
 go_loopw [8] (fun i wr=>∃ (k:Nat) (v':Value),i=.int .i64 k/\k<=n/\Owns lo w0 wr (OrdB g1 g2 v' (ordL o (rs.take k)) L)) (fun i _=>n - (intOf i).toNat)
 case atStart=>exact⟨0,v,rfl,Nat.zero_le _,H⟩
 case round =>
  clear H
  obtain⟨k,v',rfl,hk,H⟩:=hrel
  have hall:∀ x∈ordL o (rs.take k),0<=x/\x<64:=fun x hx=>by
   rcases (ordL_mem _ _).1 hx with hx|⟨h1,h2⟩
   ·exact hO x hx
   ·exact⟨h2,hR x (List.mem_of_mem_take h1) h2⟩
  have hlen:(ordL o (rs.take k)).length<=o.length+k:=by
   have:∀ (rs o:List Int),(ordL o rs).length<=o.length+rs.length:=by
    intro rs
    induction rs with
    | nil=>intro o;simp[ordL]
    | cons r rs ih =>
     intro o
     have h1:=ih (ord1 o r)
     have h2:(ord1 o r).length<=o.length+1:=by unfold ord1;split <;> simp
     show (ordL (ord1 o r) rs).length<=_
     simp only[List.length_cons];omega
   have h3:=this (rs.take k) o
   rw[List.length_take]at h3;omega
  by_cases hlt:k<n
  ·obtain⟨b,ob,x,rfl,hbb,hx,q1⟩:=RdI.at_ hr hlt
   have hT:=ordL_take (o:=o) hx
   have hxr:=hR x (List.mem_of_getElem? hx.out)
   generalize ordL o (rs.take k)=p at *
   have g1':=H.ro q1 (by show b<lo;omega)
   obtain⟨x0,xf⟩:=H.box1 0 rfl
   obtain⟨y0,yf⟩:=H.box1 1 rfl
   have HM:=hid (ordM_lt hall)
   have HH:=hid (ordM_has (fun x hx=>(hall x hx).1) x)
   clear q1
   by_cases c0:x<0
   ·rw[ord1_no (.inl c0)]at hT
    have HT:=hid hT
    clear hT hall
    go_wp2
    go_roundw
    case rel=>exact⟨k+1,v',by go_num,by omega,by rw[HT.out];exact H⟩
    case measure=>simp[intOf];omega
   have x0':0<=x:=by omega
   have x1':x<64:=hxr x0'
   by_cases hm:x∈p
   ·rw[ord1_no (.inr hm)]at hT
    have HT:=hid hT
    have HY:Hid (hasB (ordM p) x=true):=hid (by rw[HH.out];simp[hm])
    clear hT hall hm HH hxr
    go_wp2_with fail
    refine (has_any (ordM p) x wr HM.out).mono ?_
    rintro e w2 ⟨rfl,hw2⟩
    obtain rfl:=hw2
    rw[HY.out]
    go_wp2
    go_roundw
    case rel=>exact⟨k+1,v',by go_num,by omega,by rw[HT.out];exact H⟩
    case measure=>simp[intOf];omega
   ·rw[ord1_yes x0' hm]at hT
    have HT:=hid hT
    have HY:Hid (hasB (ordM p) x=false):=hid (by rw[HH.out];simp[hm])
    have HZ:=hid (ordM_snoc p x)
    clear hT hall hm HH hxr
    go_wp2_with fail
    refine (has_any (ordM p) x wr HM.out).mono ?_
    rintro e w2 ⟨rfl,hw2⟩
    obtain rfl:=hw2
    rw[HY.out]
    go_wp2_with fail
    refine (add_own H 0 rfl x HM.out x0' x1').mono ?_
    rintro e w2 ⟨⟨u,rfl⟩,H2⟩
    rw[<-HZ.out]at H2
    clear x0 xf y0 yf g1'
    simp only[List.set_cons_zero]at H2
    obtain⟨y0,yf⟩:=H2.box1 1 rfl
    have H3:=H2.alloc (.cells #[.int .i64 x] 3)
    have y0':=H3.box1 1 rfl
    go_wp2_with (at_builtin;go_loud (refine wpList_pushO rfl (.tmp 22) (.tmp 24) rfl H3 2 rfl rfl rfl (rdI_one (heap1 w2 _) (Nat.le_refl _) one_le_maxLen) (by omega) ?_;intro A3 k3 w3 H4;obtain⟨y1,yf1⟩:=H4.box1 1 rfl))
    simp only[lsz]at H4
    have H5:=H4.putBox 1 rfl 0 (.slice A3 (p++[x]).length k3)
    simp only[lnm]at H5
    have HO:=hid H5
    clear H2 H3 H4 H5 y0' H
    go_wp2
    go_roundw
    case rel=>exact⟨k+1,_,by go_num,by omega,by rw[HT.out];exact HO.out⟩
    case measure=>simp[intOf];omega
  ·rw[List.take_of_length_le (by omega)]at H
   clear hall hlen
   go_wp2
   refine bodyPost_end (results_none rfl _ _ _) rfl ?_
   exact⟨⟨_,rfl⟩,v',H⟩
set_option maxHeartbeats 3200000 in
set_option maxRecDepth 20000 in
theorem metOrder_any (w:World) (B:Nat) (v:Value) (h:Hp) (hh:RdH w B v h) (hok:heapOk h=true):
  Calls Tryz.prog 74 #[v] w (MadeI w (ordH h)):=by
 obtain⟨D,m,d,D',m',d',rfl,hC,hR⟩:=hh.top
 have hm1:=hC.mx;have hcap1:=hC.cap
 have l3:=hC.le1;have l4:=hC.le2
 unfold maxLen at hm1
 obtain⟨s4,s5⟩:=heapOk_small hok
 have l1:=RdI.le1 hR;have l2:=RdI.le2 hR
 have HReach:Hid (∀ k,∀ x∈ordS h.cells k (ordL [] h.roots),0<=x/\x<h.cells.length):=hid fun k x hx=>⟨(ordS_reach hok k x hx).1,reach_lt (ordS_reach hok k x hx)⟩
 have HLen:Hid (∀ k,(ordS h.cells k (ordL [] h.roots)).length<=h.cells.length):=hid fun k=>ordS_len hok k
 have HRt:Hid (∀ r∈h.roots,0<=r->r<64):=hid fun r hr h0=>by have:=reach_lt (rchI_root hok r hr h0);omega
 have HRf:Hid (∀ (c:Nat) (l:Cel),h.cells[c]?=some l->l.refs.length<=3/\∀ r∈l.refs,0<=r->r<64):=hid fun c l hl=>by
  refine⟨?_,fun r hr h0=>by have:=usedN_lt (leadsB_used ((heapOk_leads hok).2 c l hl r hr) h0);omega⟩
  have h2:=hok
  simp only[heapOk,Bool.and_eq_true,List.all_eq_true]at h2
  have h3:=h2.1.2 l (List.mem_of_getElem? hl)
  unfold cellOk at h3
  split at h3 <;> simp at h3
  ·omega
  ·rw[h3.2];simp
 clear hok
 have H1:=((((Owns.nil w).box [.slice D m d,.slice D' m' d'] 29).litI [] zero_le_maxLen).box [.slice (some ⟨w.heap.size+1,0,none⟩) 0 0] 27).box [.int .u64 (0:Nat)] 140
 simp only[lnm]at H1
 have H3:Owns w.heap.size w _ (OrdB (w.heap.size+1+1+1) (w.heap.size+1+1) (.slice (some ⟨w.heap.size+1,0,none⟩) 0 0) [] [.box w.heap.size [.slice D m d,.slice D' m' d'] 29]):=H1.order [0,1,2,3] (by decide) rfl
 clear H1
 go_enter Tryz.func74,Tryz.ntmps74
 go_wp2_with fail
 refine (visitO_any H3 hR (Nat.le_refl _) (fun x hx=>by simp at hx) HRt.out (by simp;omega)).mono ?_
 rintro e w1 ⟨⟨u,rfl⟩,v1,H⟩
 clear H3
 have hS0:Hid (ordL [] h.roots=ordS h.cells 0 (ordL [] h.roots)):=hid rfl
 rw[hS0.out]at H
 clear hS0
 go_wp2_with fail
 go_loopw [6] (fun i wr=>∃ (k:Nat) (v':Value),i=.int .i64 k/\k<=(ordS h.cells k (ordL [] h.roots)).length/\Owns w.heap.size w wr (OrdB (w.heap.size+1+1+1) (w.heap.size+1+1) v' (ordS h.cells k (ordL [] h.roots)) [.box w.heap.size [.slice D m d,.slice D' m' d'] 29])) (fun i _=>h.cells.length - (intOf i).toNat)
 case atStart=>exact⟨0,v1,rfl,Nat.zero_le _,H⟩
 case round =>
  clear H
  obtain⟨k,v',rfl,hk,H⟩:=hrel
  have hlen:=HLen.out k
  have hall:=HReach.out k
  have hnext:∀ c,(ordS h.cells k (ordL [] h.roots))[k]?=some c->Hid (ordS h.cells (k+1) (ordL [] h.roots)=ordL (ordS h.cells k (ordL [] h.roots)) (cel h.cells c).refs):=fun c hc=>hid (ordS_succ (hid hc))
  have hstop:(ordS h.cells k (ordL [] h.roots)).length<=k->Hid (ordS h.cells k (ordL [] h.roots)=ordH h):=fun hq=>hid (ordH_end hq (by omega))
  have hgrow:Hid ((ordS h.cells k (ordL [] h.roots)).length<=(ordS h.cells (k+1) (ordL [] h.roots)).length):=hid (by
   cases hq:(ordS h.cells k (ordL [] h.roots))[k]? with
   | none=>simp only[ordS,hq];exact Nat.le_refl _
   | some c =>
    obtain⟨e2,h2⟩:=ordL_ext (cel h.cells c).refs (ordS h.cells k (ordL [] h.roots))
    simp only[ordS,hq];rw[h2];simp)
  generalize ordS h.cells k (ordL [] h.roots)=p at *
  obtain⟨y0,yf⟩:=H.box1 1 rfl
  obtain⟨a0,a1,-,-⟩:=H.box2 3 rfl
  by_cases hlt:k<p.length
  ·obtain⟨x,hx0⟩:∃ x,Hid (p[k]?=some x):=⟨_,hid (List.getElem?_eq_getElem hlt)⟩
   obtain⟨hp0,hp1⟩:=hall x (List.mem_of_getElem? hx0.out)
   obtain⟨q,rfl⟩:=Int.eq_ofNat_of_zero_le hp0
   have hq:q<m:=by omega
   obtain⟨b,o,l,A2,n2,c2,rfl,hbb,hx,q1,q2,q3,hrf⟩:=hC.at_ hq
   obtain⟨g,cc,rfl,hc1,hc2,hg1,hg2⟩:=H.rowAt 2 rfl (by omega)
   obtain⟨z0,zf⟩:=H.elem 2 rfl (j:=k) (u:=.int .i64 (q:Int)) (by rw[List.getElem?_map,hx0.out];rfl)
   have g3:=H.ro q3 hbb
   have r1:=RdI.le1 hrf;have r2:=RdI.le2 hrf
   have HF:=hid (HRf.out q l hx.out)
   have hf3:=HF.out.1
   have HN:=hnext _ hx0.out
   have hce:Hid ((cel h.cells (q:Int)).refs=l.refs):=hid (by rw[cel_at hx])
   rw[hce.out]at HN
   have HAll:Hid (∀ x∈p,0<=x/\x<64):=hid fun x hx=>by have:=hall x hx;omega
   have i1:(0:Int)<=(k:Int):=by omega
   have i2:(k:Int)<(p.length:Int):=by omega
   have i3:(0:Int)<=(q:Int):=by omega
   have i4:(q:Int)<(m:Int):=by omega
   clear hx0 hnext hstop hall q1 q2 hce hp0 hp1
   have HX:=H.drew
   have H0:=hid H
   clear H
   go_wp2_with fail
   refine wp_region_tree (fun w'=>((w'.cell? ⟨w.heap.size,0,none⟩=some (.slice (some ⟨b,o,none⟩) m d)/\w'.cell? ⟨w.heap.size,1,none⟩=some (.slice D' m' d'))/\w'.cell? ⟨w.heap.size+1+1,0,none⟩=some (.slice (some ⟨g,0,none⟩) p.length cc))/\w'.cell? ⟨g,k,none⟩=some (.int .i64 (q:Int))/\w'.cell? ⟨b,o+q*3+2,none⟩=some (.slice A2 n2 c2)) 10 [] (.take 0 (.take 1 (.take 2 (.take 3 (.take 4 (.take 5 (.take 6 (.take 7 (.take 8 (.take 9 (.alt 10 (.done) (.stop)))))))))))) (by kernel_rfl) (by kernel_rfl) (by kernel_rfl) (⟨⟨⟨a0,a1⟩,y0⟩,z0,g3⟩) ?_
   simp only[fillT,lgz,Nat.reduceBEq]
   repeat first|(with_reducible apply po_take;(·(go_simp;done));(·(intro w' hS';(try dsimp only at hS');go_simp;try with_reducible rfl));simp only[lpa])|(with_reducible apply po_skip;(·(go_simp;done));simp only[lpa])
   with_reducible refine po_last ?_ (fun K hK=>?_)
   ·(go_simp;done)
   go_simp
   refine (visitO_any HX hrf (Nat.le_refl _) HAll.out HF.out.2 (by omega)).mono ?_
   rintro e w2 ⟨⟨u,rfl⟩,v2,H4⟩
   refine hK.out _ _ (.inl rfl) ?_
   clear hK K
   refine po_done ?_
   rw[<-HN.out]at H4
   have hg:=hgrow.out
   clear H0 HX a0 a1 y0 yf z0 zf g3
   go_wp2
   go_roundw
   case rel=>exact⟨k+1,v2,by go_num,by omega,H4⟩
   case measure=>simp[intOf];omega
  ·have HE:=hstop (by omega)
   obtain⟨C1,k1,rfl,-⟩:=H.formI 2 rfl
   have HO:=hid H
   clear H hstop hnext hgrow hall
   go_wp2
   go_ret
   have H:=HO.out
   have hE:=HE.out
   subst hE
   exact H.toI 2 rfl
theorem RdI.len2 {w:World}{B:Nat}{A:Option Addr}{n c:Nat}{xs:List Int}(h:RdI w B A n c xs):n=xs.length:=by have:=RdI.le1 h;have:=RdI.le2 h;omega
theorem same2_any (w:World) (B B':Nat) (A A':Option Addr) (n c n' c':Nat) (xs ys:List Int) (hr:RdI w B A n c xs) (hs:RdI w B' A' n' c' ys):
  Calls Tryz.prog 44 #[.slice A n c,.slice A' n' c'] w fun e w'=>e=.returned (.bool (decide (xs=ys)))/\Below w.heap.size w w':=by
 have hr:=hr.top
 have hs:=hs.top
 have l1:=RdI.len2 hr
 have l2:=RdI.len2 hs
 have m1:=Nat.le_trans hr.cap hr.mx
 have m2:=Nat.le_trans hs.cap hs.mx
 unfold maxLen at m1 m2
 go_enter Tryz.func44,Tryz.ntmps44
 by_cases c0:n=n'
 rotate_left
 ·have HF:Hid (decide (xs=ys)=false):=hid (decide_eq_false fun e=>c0 (by rw[l1,l2,e]))
  have k1:((n:Int) != (n':Int))=true:=by simp;omega
  go_wp2
  go_ret
  exact⟨ret_b HF.out.symm,Below.refl _ _⟩
 subst c0
 go_wp2_with fail
 go_loopw [13] (fun i wr=>∃ k:Nat,i=.int .i64 k/\k<=n/\xs.take k=ys.take k/\Below w.heap.size w wr) (fun i _=>n - (intOf i).toNat)
 case atStart=>exact⟨0,rfl,Nat.zero_le _,rfl,Below.refl _ _⟩
 case round =>
  obtain⟨k,rfl,hk,he,hb⟩:=hrel
  by_cases hlt:k<n
  ·obtain⟨b,o,x,rfl,hbb,hx,q1⟩:=RdI.at_ hr hlt
   obtain⟨b',o',y,rfl,hbb',hy,q2⟩:=RdI.at_ hs hlt
   have g1:=keepd (keept q1 hb) (Below.refl _ _)
   have g2:=keepd (keept q2 hb) (Below.refl _ _)
   by_cases c1:x=y
   ·subst c1
    have HE:=hid (show xs.take (k+1)=ys.take (k+1) from by rw[take_snoc' hx,take_snoc' hy,he])
    clear he
    go_wp2_with fail
    refine wp_region_tree (fun w'=>w'.cell? ⟨b,o+k,none⟩=some (.int .i64 x)/\w'.cell? ⟨b',o'+k,none⟩=some (.int .i64 x)) 9 [] (.take 0 (.take 1 (.take 2 (.take 3 (.take 4 (.take 5 (.take 6 (.take 7 (.take 8 (.done)))))))))) (by kernel_rfl) (by kernel_rfl) (by kernel_rfl) (⟨g1,g2⟩) ?_
    simp only[fillT,lgz,Nat.reduceBEq]
    repeat first|(with_reducible apply po_take;(·(go_simp;done));(·(intro w' hS';(try dsimp only at hS');go_simp;try with_reducible rfl));simp only[lpa])|(with_reducible apply po_skip;(·(go_simp;done));simp only[lpa])
    refine po_done ?_
    go_wp2
    go_roundw
    case rel=>exact⟨k+1,by go_num,by omega,HE.out,hb.drew⟩
    case measure=>simp[intOf];omega
   ·have HF:Hid (decide (xs=ys)=false):=hid (decide_eq_false fun e=>c1 (by have h1:=hx.out;rw[e,hy.out]at h1;injection h1 with h1;exact h1.symm))
    have k1:(x != y)=true:=by simp;exact c1
    clear he
    go_wp2_with fail
    refine wp_region_tree (fun w'=>w'.cell? ⟨b,o+k,none⟩=some (.int .i64 x)/\w'.cell? ⟨b',o'+k,none⟩=some (.int .i64 y)) 9 [] (.take 0 (.take 1 (.take 2 (.take 3 (.take 4 (.take 5 (.take 6 (.take 7 (.take 8 (.done)))))))))) (by kernel_rfl) (by kernel_rfl) (by kernel_rfl) (⟨g1,g2⟩) ?_
    simp only[fillT,lgz,Nat.reduceBEq]
    repeat first|(with_reducible apply po_take;(·(go_simp;done));(·(intro w' hS';(try dsimp only at hS');go_simp;try with_reducible rfl));simp only[lpa])|(with_reducible apply po_skip;(·(go_simp;done));simp only[lpa])
    refine po_done ?_
    go_wp2
    go_ret
    exact⟨ret_b HF.out.symm,hb.drew⟩
  ·have HF:Hid (decide (xs=ys)=true):=hid (decide_eq_true (by rwa [List.take_of_length_le (by omega),List.take_of_length_le (by omega)]at he))
   clear he
   go_wp2
   go_ret
   exact⟨ret_b HF.out.symm,hb⟩
theorem nameI_snoc {o:List Int}{x:Int}(hx:x ∉ o) (r:Int):nameI (o++[x]) r=if r=x then ((o.length:Nat):Int) else nameI o r:=by
 unfold nameI
 by_cases e:r=x
 ·subst e
  rw[if_pos (by simp),if_pos rfl,List.idxOf_append]
  rw[if_neg hx];simp
 ·rw[if_neg e]
  by_cases hm:r∈o
  ·rw[if_pos (by simp[hm]),if_pos hm,List.idxOf_append,if_pos hm]
  ·rw[if_neg (by simp[hm,e]),if_neg hm]
theorem nameI_nil (r:Int):nameI [] r=-1:=rfl
def numL (o:List Int) (n:Nat):List Int:=(List.range n).map fun c:Nat=>nameI o (c:Int)
theorem numL_len (o:List Int) (n:Nat):(numL o n).length=n:=by simp[numL]
theorem numL_at {o:List Int}{n c:Nat}(h:c<n):(numL o n)[c]?=some (nameI o (c:Int)):=by simp[numL,List.getElem?_range h]
theorem numL_succ {o:List Int}{n k q:Nat}(hd:o.Nodup) (hx:Hid (o[k]?=some (q:Int))):numL (o.take (k+1)) n=(numL (o.take k) n).set q (k:Int):=by
 obtain⟨hk,hq⟩:=List.getElem?_eq_some_iff.1 hx.out
 have hn:(q:Int) ∉ o.take k:=by
  have h1:=List.Nodup.sublist (List.take_sublist (k+1) o) hd
  rw[take_snoc' hx,List.nodup_append]at h1
  intro hm
  exact h1.2.2 _ hm _ (by simp) rfl
 apply List.ext_getElem?
 intro c
 rw[take_snoc' hx,List.getElem?_set]
 rcases Nat.lt_or_ge c n with hc|hc
 ·rw[numL_at hc,nameI_snoc hn,List.length_take,numL_at hc,numL_len]
  by_cases e:q=c
  ·subst e
   rw[if_pos rfl,if_pos rfl,if_pos hc,show min k o.length=k by omega]
  ·rw[if_neg (by omega),if_neg e]
 ·rw[List.getElem?_eq_none (by rw[numL_len];exact hc),List.getElem?_eq_none (by rw[numL_len];exact hc),numL_len]
  split
  ·rw[if_neg (by omega)]
  ·rfl
set_option maxHeartbeats 1600000 in
set_option maxRecDepth 20000 in
theorem numbersIn_any (w:World) (B:Nat) (A:Option Addr) (n c:Nat) (o:List Int) (m:Nat) (hr:RdI w B A n c o) (hm:m<=1048576) (hd:o.Nodup) (hO:∀ x∈o,0<=x/\x<m):
  Calls Tryz.prog 75 #[.slice A n c,.int .i64 m] w (MadeI w (numL o m)):=by
 have hr:=hr.top
 have l1:=RdI.le1 hr;have l2:=RdI.le2 hr
 have hm1:=hr.mx;have hcap1:=hr.cap
 unfold maxLen at hm1
 have hlen:=nodup_len m o hd hO
 have HN:Hid (o.Nodup):=hid hd
 have HO:=hid hO
 obtain⟨i0,hi,hz0,hz1,hz2⟩:=info_parts Tryz.infoInt
 clear hd hO
 go_enter Tryz.func75,Tryz.ntmps75
 go_wp2_with (at_make;refine wpList_make_full _ rfl _ _ _ rfl w.heap.size 3 i0 (.int .i64 0) 1 Tryz.underlying27 hi hz0 hz1 .i64 .i64 _ _ m rfl rfl rfl rfl (by rw[hz2];omega) (by unfold maxLen;omega) (Nat.le_refl _) ?_)
 intro w1 hown hg
 have H1:=(Owns.nil w).mkI (by simpa using hown) hg
 clear hown hg
 go_wp2_with fail
 go_loopw [13] (fun i wr=>∃ k:Nat,i=.int .i64 k/\k<=m/\Owns w.heap.size w wr [.row 3 1 (.slice (some ⟨w.heap.size,0,none⟩) m m) m ((List.replicate k (-1:Int)++List.replicate (m - k) (0:Int)).map (Value.int .i64))]) (fun i _=>m - (intOf i).toNat)
 case atStart=>exact⟨0,rfl,Nat.zero_le _,by simpa using H1⟩
 case round =>
  clear H1
  obtain⟨k,rfl,hk,H⟩:=hrel
  by_cases hlt:k<m
  ·have e1:((List.replicate k (-1:Int)++List.replicate (m - k) (0:Int)).map (Value.int .i64)).set k (.int .i64 (-1))=(List.replicate (k+1) (-1:Int)++List.replicate (m - (k+1)) (0:Int)).map (Value.int .i64):=by
    rw[<-List.map_set]
    congr 1
    rw[show m - k=(m - (k+1))+1 by omega,List.replicate_succ,List.set_append_right _ _ (by simp)]
    simp[List.replicate_succ',List.append_assoc]
   obtain⟨y0,yf⟩:=H.elem 0 rfl (j:=k) (u:=.int .i64 0) (by
    rw[List.getElem?_map,List.getElem?_append_right (by simp),List.getElem?_replicate,if_pos (by simp;omega)];rfl)
   have H2:=H.putRow 0 rfl k (.int .i64 (-1))
   simp only[List.set_cons_zero]at H2
   rw[e1]at H2
   have HO2:=hid H2
   clear H2 H e1
   go_wp2
   go_roundw
   case rel=>exact⟨k+1,by go_num,by omega,HO2.out⟩
   case measure=>simp[intOf];omega
  ·have e2:(List.replicate k (-1:Int)++List.replicate (m - k) (0:Int))=numL (o.take 0) m:=by
    rw[show k=m by omega,Nat.sub_self,List.take_zero]
    unfold numL
    simp only[nameI_nil,List.replicate_zero,List.append_nil]
    apply List.ext_getElem?
    intro c
    rw[List.getElem?_replicate,List.getElem?_map]
    by_cases hc:c<m
    ·rw[if_pos hc,List.getElem?_range hc];rfl
    ·rw[if_neg hc,List.getElem?_eq_none (by simpa using hc)];rfl
   rw[e2]at H
   have H3:=H
   clear H e2
   go_wp2_with fail
   clear hlt hk
   go_loopw [22] (fun i wr=>∃ k:Nat,i=.int .i64 k/\k<=n/\Owns w.heap.size w wr [.row 3 1 (.slice (some ⟨w.heap.size,0,none⟩) m m) m ((numL (o.take k) m).map (Value.int .i64))]) (fun i _=>n - (intOf i).toNat)
   case atStart=>exact⟨0,rfl,Nat.zero_le _,H3⟩
   case round =>
    clear H3
    obtain⟨k,rfl,hk,H⟩:=hrel
    by_cases hlt:k<n
    ·obtain⟨b,ob,x,rfl,hbb,hx,q1⟩:=RdI.at_ hr hlt
     obtain⟨hp0,hp1⟩:=HO.out x (List.mem_of_getElem? hx.out)
     obtain⟨q,rfl⟩:=Int.eq_ofNat_of_zero_le hp0
     have hq:q<m:=by omega
     have g1:=H.ro q1 hbb
     have HS:=hid (numL_succ (n:=m) HN.out hx)
     obtain⟨y0,yf⟩:=H.elem 0 rfl (j:=q) (u:=.int .i64 (nameI (o.take k) (q:Int))) (by rw[List.getElem?_map,numL_at hq];rfl)
     have H2:=H.putRow 0 rfl q (.int .i64 (k:Int))
     simp only[List.set_cons_zero]at H2
     rw[<-List.map_set]at H2
     have HO2:=hid H2
     have i1:(0:Int)<=(q:Int):=by omega
     have i2:(q:Int)<(m:Int):=by omega
     clear H2 H q1
     go_wp2
     go_roundw
     case rel=>exact⟨k+1,by go_num,by omega,by rw[HS.out];exact HO2.out⟩
     case measure=>simp[intOf];omega
    ·rw[List.take_of_length_le (by omega)]at H
     have ho:=H.own 0 rfl
     have hO:OwI wr w.heap.size wr.heap.size (.slice (some ⟨w.heap.size,0,none⟩) m m) (numL o m):=⟨by rw[numL_len];exact ho,fun q e=>(ho.lt q e).2⟩
     have HD:=H.below
     have HS:=hid (And.intro hO HD)
     clear H ho hO HD
     go_wp2
     go_ret
     exact⟨_,rfl,HS.out.1,HS.out.2⟩
theorem renamed_any (w:World) (B B':Nat) (A A':Option Addr) (n c n' c':Nat) (rs N:List Int) (g:Int->Int) (hr:RdI w B A n c rs) (hN:RdI w B' A' n' c' N) (hn:rs.length<=1000) (hneg:∀ r∈rs,r<0->g r=r) (hpos:∀ r∈rs,0<=r->N[r.toNat]?=some (g r)):
  Calls Tryz.prog 76 #[.slice A n c,.slice A' n' c'] w (MadeI w (rs.map g)):=by
 have hr:=hr.top
 have hN:=hN.top
 have l1:=RdI.le1 hr;have l2:=RdI.le2 hr
 have l3:=RdI.le1 hN;have l4:=RdI.le2 hN
 have hm1:=hr.mx;have hcap1:=hr.cap
 unfold maxLen at hm1
 have HNe:=hid hneg
 have HPo:=hid hpos
 have H1:=(Owns.nil w).litI [] zero_le_maxLen
 clear hneg hpos
 go_enter Tryz.func76,Tryz.ntmps76
 go_wp2_with fail
 go_loopw [5,11] (fun v i wr=>∃ k:Nat,i=.int .i64 k/\k<=n/\Owns w.heap.size w wr [.ints v ((rs.take k).map g)]) (fun _ i _=>n - (intOf i).toNat)
 case atStart=>exact⟨0,rfl,Nat.zero_le _,H1⟩
 case round =>
  clear H1
  obtain⟨k,rfl,hk,H⟩:=hrel
  have hkl:((rs.take k).map g).length<=1000:=by simp;omega
  by_cases hlt:k<n
  ·obtain⟨b,ob,x,rfl,hbb,hx,q1⟩:=RdI.at_ hr hlt
   have g1:=H.ro q1 hbb
   have HS:Hid ((rs.take (k+1)).map g=(rs.take k).map g++[g x]):=hid (by rw[take_snoc' hx,List.map_append];rfl)
   have hmem:=List.mem_of_getElem? hx.out
   generalize (rs.take k).map g=p at *
   obtain⟨Cp,kp,rfl,-⟩:=H.formI 0 rfl
   by_cases c0:x<0
   ·have hgx:=HNe.out x hmem c0
    have HG:=hid hgx
    have H3:=H.alloc (.cells #[.int .i64 x] 3)
    have hz2:=H.le
    clear hgx hmem
    go_wp2_with (at_builtin;go_loud (refine wpList_pushO rfl (.tmp 21) (.tmp 23) rfl H3 0 rfl rfl rfl (rdI_new _ _ _ (by simp)) (by omega) ?_;intro A3 k3 w3 H4))
    simp only[lnm]at H4
    go_roundw
    case rel=>exact⟨k+1,by go_num,by omega,by rw[HS.out,HG.out];exact H4⟩
    case measure=>simp[intOf];omega
   ·obtain⟨q,rfl⟩:=Int.eq_ofNat_of_zero_le (by omega:0<=x)
    have hat:=HPo.out _ hmem (by omega)
    rw[Int.toNat_natCast]at hat
    have hql:=(List.getElem?_eq_some_iff.1 hat).1
    obtain⟨b2,o2,y,rfl,hbb2,hy,q2⟩:=RdI.at_ hN (k:=q) (by omega)
    have hyg:y=g (q:Int):=by have:=hy.out;rw[hat]at this;injection this with this;exact this.symm
    have HG:=hid hyg
    have g2:=H.ro q2 hbb2
    have H3:=H.alloc (.cells #[.int .i64 y] 3)
    have hz2:=H.le
    have i1:(0:Int)<=(q:Int):=by omega
    have i2:(q:Int)<(n':Int):=by omega
    clear hyg hmem hat q1 q2 c0
    go_wp2_with (at_builtin;go_loud (refine wpList_pushO rfl (.tmp 21) (.tmp 23) rfl H3 0 rfl rfl rfl (rdI_new _ _ _ (by simp)) (by omega) ?_;intro A3 k3 w3 H4))
    simp only[lnm]at H4
    go_roundw
    case rel=>exact⟨k+1,by go_num,by omega,by rw[HS.out,<-HG.out];exact H4⟩
    case measure=>simp[intOf];omega
  ·rw[List.take_of_length_le (by omega)]at H
   obtain⟨Cp,kp,rfl,-⟩:=H.formI 0 rfl
   have HO2:=hid H
   clear H
   go_wp2
   go_ret
   exact HO2.out.toI 0 rfl
theorem flat_take {α:Type}{o:List Int}{k:Nat}{x:Int}(f:Int->List α) (h:Hid (o[k]?=some x)):(o.take (k+1)).flatMap f=(o.take k).flatMap f++f x:=by
 rw[take_snoc' h,List.flatMap_append];simp
theorem flat_len (f:Int->List Int) (b:Nat):∀ o:List Int,(∀ x∈o,(f x).length<=b)->(o.flatMap f).length<=o.length*b
 | [],_=>by simp
 | a::o,h=>by
  have h1:=flat_len f b o fun x hx=>h x (List.mem_cons_of_mem _ hx)
  have h2:=h a (by simp)
  rw[List.flatMap_cons,List.length_append,List.length_cons,Nat.succ_mul];omega
theorem two_le_maxLen:2<=maxLen:=by unfold maxLen;omega
theorem refs3 {h:Hp}(hok:heapOk h=true) {c:Nat}{l:Cel}(hl:h.cells[c]?=some l):l.refs.length<=3/\∀ r∈l.refs,r=-1\/(0<=r/\r.toNat<h.cells.length):=by
 have g:l.refs.length<=3:=by
  have h2:=hok
  simp only[heapOk,Bool.and_eq_true,List.all_eq_true]at h2
  have h3:=h2.1.2 l (List.mem_of_getElem? hl)
  unfold cellOk at h3
  split at h3 <;> simp at h3
  ·omega
  ·rw[h3.2];simp
 refine⟨g,fun r hr=>?_⟩
 have h1:=(heapOk_leads hok).2 c l hl r hr
 by_cases h0:0<=r
 ·exact .inr ⟨h0,usedN_lt (leadsB_used h1 h0)⟩
 ·refine .inl ?_
  unfold leadsB at h1
  rw[decide_eq_false h0]at h1
  simpa using h1
set_option maxHeartbeats 3200000 in
set_option maxRecDepth 20000 in
theorem viewOf_any (w:World) (B:Nat) (v:Value) (h:Hp) (hh:RdH w B v h) (hok:heapOk h=true):
  Calls Tryz.prog 45 #[v] w (MadeI w (viewH h)):=by
 have hh':=hh.top
 obtain⟨D,m,d,D',m',d',rfl,hC,hR⟩:=hh.top
 have l3:=hC.le1;have l4:=hC.le2
 have l1:=RdI.le1 hR;have l2:=RdI.le2 hR
 obtain⟨s4,s5⟩:=heapOk_small hok
 have HOk:=hid hok
 obtain⟨o,ho⟩:∃ o,o=ordH h:=⟨_,rfl⟩
 have HOr:Hid (∀ x∈o,0<=x/\x<h.cells.length):=hid fun x hx=>by rw[ho]at hx;exact⟨(ordH_reach hok x hx).1,reach_lt (ordH_reach hok x hx)⟩
 have HNd:Hid o.Nodup:=hid (by rw[ho];exact ordH_nodup h)
 have hol:o.length<=40:=by have:=ordH_len hok;rw[<-ho]at this;omega
 have HOe:=hid ho
 have HVw:Hid (viewH h=h.roots.map (nameI o)++o.flatMap (viewC h.cells o)):=hid (by rw[ho];rfl)
 have HCl:Hid (∀ (c:Nat) (l:Cel),h.cells[c]?=some l->l.refs.length<=3/\∀ r∈l.refs,r=-1\/(0<=r/\r.toNat<h.cells.length)):=hid fun c l hl=>refs3 hok hl
 have HRt:Hid (∀ r∈h.roots,r=-1\/(0<=r/\r.toNat<h.cells.length)):=hid fun r hr=>by
  have h1:=(heapOk_leads hok).1 r hr
  by_cases h0:0<=r
  ·exact .inr ⟨h0,usedN_lt (leadsB_used h1 h0)⟩
  ·refine .inl ?_
   unfold leadsB at h1
   rw[decide_eq_false h0]at h1
   simpa using h1
 have HNeg:Hid (nameI o (-1)=-1):=hid (by
  unfold nameI
  rw[if_neg]
  intro k
  have:=(HOr.out _ k).1
  omega)
 have HLen:Hid (∀ k,(h.roots.map (nameI o)++(o.take k).flatMap (viewC h.cells o)).length<=1000):=hid fun k=>by
  have h1:=flat_len (viewC h.cells o) 5 (o.take k) fun x hx=>by
   have hx:=List.mem_of_mem_take hx
   obtain⟨p0,p1⟩:=HOr.out x hx
   have hl:=(HCl.out x.toNat _ (List.getElem?_eq_getElem (by omega))).1
   unfold viewC cel
   rw[List.getD_eq_getElem?_getD,List.getElem?_eq_getElem (by omega:x.toNat<h.cells.length)]
   simpa using hl
  rw[List.length_take]at h1
  have:min k o.length<=40:=by omega
  have h2:min k o.length*5<=40*5:=Nat.mul_le_mul_right 5 this
  rw[List.length_append,List.length_map]
  omega
 rw[HVw.out]
 clear hok ho HVw
 have H1:=(Owns.nil w).box [.slice D m d,.slice D' m' d'] 29
 go_enter Tryz.func45,Tryz.ntmps45
 go_wp2_with fail
 refine (heapValid_any _ _ _ h (hh'.below H1.below)).mono ?_
 rintro e w1 ⟨rfl,hb1⟩
 rw[HOk.out]
 have H2:=H1.call hb1
 obtain⟨a0,a1,-,-⟩:=H2.box2 0 rfl
 clear H1 hb1
 go_wp2_with fail
 refine (metOrder_any _ _ _ h (hh'.below H2.below) HOk.out).mono ?_
 rintro e w2 ⟨v2,rfl,ho2,hb2⟩
 rw[<-HOe.out]at ho2
 have H3:=H2.madeI ho2 hb2
 clear H2 ho2 hb2 a0 a1
 obtain⟨O,kO,rfl,-⟩:=H3.formI 0 rfl
 obtain⟨a0,a1,-,-⟩:=H3.box2 1 rfl
 go_wp2_with fail
 refine (numbersIn_any _ _ _ _ _ o m (H3.owI 0 rfl).rdI (by omega) HNd.out fun x hx=>by have:=HOr.out x hx;omega).mono ?_
 rintro e w3 ⟨v3,rfl,ho3,hb3⟩
 have H4:=H3.madeI ho3 hb3
 clear H3 ho3 hb3 a0 a1
 obtain⟨N,hN⟩:∃ N,N=numL o m:=⟨_,rfl⟩
 rw[<-hN]at H4
 have HN:Hid (∀ q,q<m->N[q]?=some (nameI o (q:Int))):=hid fun q hq=>by rw[hN];exact numL_at hq
 clear hN
 obtain⟨E,kE,rfl,-⟩:=H4.formI 0 rfl
 obtain⟨a0,a1,-,-⟩:=H4.box2 2 rfl
 go_wp2_with fail
 refine (renamed_any _ _ _ _ _ _ _ _ _ h.roots N (nameI o) (hR.below H4.below) (H4.owI 0 rfl).rdI (by omega) (fun r hr h0=>?_) fun r hr h0=>?_).mono ?_
 ·rcases HRt.out r hr with e|⟨k,-⟩
  ·rw[e];exact HNeg.out
  ·omega
 ·rcases HRt.out r hr with e|⟨k,k2⟩
  ·omega
  ·rw[HN.out _ (by omega),Int.toNat_of_nonneg k]
 rintro e w4 ⟨v4,rfl,ho4,hb4⟩
 have H5:=H4.madeI ho4 hb4
 clear H4 ho4 hb4 a0 a1
 have e0:h.roots.map (nameI o)=h.roots.map (nameI o)++(o.take 0).flatMap (viewC h.cells o):=by simp
 rw[e0]at H5
 clear e0
 go_wp2_with fail
 go_loopw [5,25] (fun v i wr=>∃ k:Nat,i=.int .i64 k/\k<=o.length/\Owns w.heap.size w wr [.ints v (h.roots.map (nameI o)++(o.take k).flatMap (viewC h.cells o)),.ints (.slice E N.length kE) N,.ints (.slice O o.length kO) o,.box w.heap.size [.slice D m d,.slice D' m' d'] 29]) (fun _ i _=>o.length - (intOf i).toNat)
 case atStart=>exact⟨0,rfl,Nat.zero_le _,H5⟩
 case round =>
  clear H5
  obtain⟨k,rfl,hk,H⟩:=hrel
  have hlen:=HLen.out k
  obtain⟨a0,a1,-,-⟩:=H.box2 3 rfl
  by_cases hlt:k<o.length
  ·obtain⟨x,hx0⟩:∃ x,Hid (o[k]?=some x):=⟨_,hid (List.getElem?_eq_getElem hlt)⟩
   obtain⟨hp0,hp1⟩:=HOr.out x (List.mem_of_getElem? hx0.out)
   obtain⟨q,rfl⟩:=Int.eq_ofNat_of_zero_le hp0
   have hq:q<m:=by omega
   obtain⟨b,ob,l,A2,n2,c2,rfl,hbb,hx,q1,q2,q3,hrf⟩:=hC.at_ hq
   obtain⟨gO,cO,eO,-,-,-,-⟩:=H.rowAt 2 rfl (by omega)
   simp only[Value.slice.injEq]at eO
   obtain⟨rfl,-,rfl⟩:=eO
   obtain⟨z0,-⟩:=H.elem 2 rfl (j:=k) (u:=.int .i64 (q:Int)) (by rw[List.getElem?_map,hx0.out];rfl)
   have g1:=H.ro q1 hbb
   have g2:=H.ro q2 hbb
   have g3:=H.ro q3 hbb
   have r1:=RdI.le1 hrf;have r2:=RdI.le2 hrf
   have hn2:n2=l.refs.length:=by omega
   have HF:=hid (HCl.out q l hx.out)
   have HS:Hid (h.roots.map (nameI o)++(o.take (k+1)).flatMap (viewC h.cells o)=((h.roots.map (nameI o)++(o.take k).flatMap (viewC h.cells o))++[l.data,((n2:Nat):Int)])++l.refs.map (nameI o)):=hid (by
    rw[flat_take _ hx0,hn2]
    unfold viewC
    rw[cel_at hx]
    simp)
   have hf3:=HF.out.1
   generalize h.roots.map (nameI o)++(o.take k).flatMap (viewC h.cells o)=p at *
   obtain⟨P,kP,rfl,-⟩:=H.formI 0 rfl
   have i1:(0:Int)<=(k:Int):=by omega
   have i2:(k:Int)<(o.length:Int):=by omega
   have i3:(0:Int)<=(q:Int):=by omega
   have i4:(q:Int)<(m:Int):=by omega
   have HBox:=H.box [.bool l.used,.int .i64 l.data,.slice A2 n2 c2] 68
   obtain⟨b0,b1,b2,-,-,-⟩:=HBox.box3 0 rfl
   have H6:=HBox.litI [l.data,((n2:Nat):Int)] two_le_maxLen
   have HRd:=hid ((H6.owI 0 rfl).rdI)
   simp only[lml,Nat.reduceAdd,World.size_alloc]at H6 HRd
   obtain⟨c0,c1,c2',-,-,-⟩:=H6.box3 1 rfl
   clear hp0 hp1 hx0 H hn2 q1 q2 q3
   go_wp2_with (at_builtin;go_loud (refine wpList_pushO rfl (.tmp 34) (.tmp 40) rfl H6 2 rfl rfl rfl HRd.out (by omega) ?_;intro A3 k3 w5 H7;simp only[lsz]at H7;obtain⟨d0,d1,d2,-,-,-⟩:=H7.box3 1 rfl))
   refine (renamed_any _ _ _ _ _ _ _ _ _ l.refs N (nameI o) (hrf.below H7.below) (H7.owI 3 rfl).rdI (by omega) (fun r hr h0=>?_) fun r hr h0=>?_).mono ?_
   ·rcases HF.out.2 r hr with e|⟨k,-⟩
    ·rw[e];exact HNeg.out
    ·omega
   ·rcases HF.out.2 r hr with e|⟨k,k2⟩
    ·omega
    ·rw[HN.out _ (by omega),Int.toNat_of_nonneg k]
   rintro e w6 ⟨v6,rfl,ho6,hb6⟩
   obtain⟨Y,hY⟩:∃ Y,Y=l.refs.map (nameI o):=⟨_,rfl⟩
   have hl6:Y.length<=3:=by rw[hY];simpa using hf3
   rw[<-hY]at ho6 HS
   clear hY
   have H8:=H7.madeI ho6 hb6
   rw[show Value.slice A3 (p++[l.data,((n2:Nat):Int)]).length k3=.slice A3 (p.length+2) k3 from by simp]at H8
   clear H7 ho6 hb6 d0 d1 d2 a0 a1 z0 g1 g2 g3 b0 b1 b2 c0 c1 c2' HRd H6 HBox
   obtain⟨A6,k6,rfl,-⟩:=H8.formI 0 rfl
   have HRd:=hid ((H8.owI 0 rfl).rdI)
   have hp2:(p++[l.data,((n2:Nat):Int)]).length<=1002:=by simp;omega
   go_wp2_with (at_builtin;go_loud (refine wpList_pushO rfl (.tmp 42) (.tmp 46) rfl H8 3 rfl rfl rfl HRd.out (by omega) ?_;intro A7 k7 w7 H9))
   have HE:=H9.drop 3
   simp only[lsz,List.drop_succ_cons,List.drop_zero]at HE
   rw[show Value.slice A7 ((p++[l.data,((n2:Nat):Int)])++Y).length k7=.slice A7 (p.length+(Y.length+1+1)) k7 from by simp]at HE
   go_roundw
   case rel=>exact⟨k+1,by go_num,by omega,by rw[HS.out];exact HE⟩
   case measure=>simp[intOf];omega
  ·rw[List.take_of_length_le (by omega)]at H
   obtain⟨P,kP,rfl,-⟩:=H.formI 0 rfl
   have HO2:=hid H
   clear H hlen
   go_wp2
   go_ret
   exact HO2.out.toI 0 rfl
set_option maxHeartbeats 3200000 in
set_option maxRecDepth 20000 in
theorem sameView_yes (w:World) (B B':Nat) (u v:Value) (a b:Hp) (ha:RdH w B u a) (hb:RdH w B' v b) (oka:heapOk a=true) (okb:heapOk b=true) (he:mView a=mView b):
  Calls Tryz.prog 13 #[u,v] w fun e w'=>e=.returned (.bool true)/\Below w.heap.size w w':=by
 have ha':=ha.top
 have hb':=hb.top
 obtain⟨D,m,d,D',m',d',rfl,hC,hR⟩:=ha.top
 obtain⟨E,q,f,E',q',f',rfl,hC2,hR2⟩:=hb.top
 rw[mView_yes oka,mView_yes okb]at he
 obtain⟨V,hV⟩:∃ V,V=viewH a:=⟨_,rfl⟩
 have HVa:=hid hV
 have HVb:Hid (V=viewH b):=hid (hV.trans he)
 have HA:=hid oka
 have HB:=hid okb
 clear hV he oka okb
 have H1:=((Owns.nil w).box [.slice D m d,.slice D' m' d'] 29).box [.slice E q f,.slice E' q' f'] 29
 simp only[lnm]at H1
 go_enter Tryz.func13,Tryz.ntmps13
 go_wp2_with fail
 have HX:=H1.drew
 have H0:=hid H1
 clear H1
 obtain⟨x0,x1,-,-⟩:=HX.box2 1 rfl
 obtain⟨y0,y1,-,-⟩:=HX.box2 0 rfl
 refine wp_region_tree (fun w'=>(w'.cell? ⟨w.heap.size,0,none⟩=some (.slice D m d)/\w'.cell? ⟨w.heap.size,1,none⟩=some (.slice D' m' d'))/\w'.cell? ⟨w.heap.size+1,0,none⟩=some (.slice E q f)/\w'.cell? ⟨w.heap.size+1,1,none⟩=some (.slice E' q' f')) 14 [] (.take 0 (.alt 1 (.take 2 (.take 3 (.alt 4 (.take 5 (.take 6 (.take 7 (.take 9 (.alt 8 (.alt 10 (.alt 11 (.take 12 (.take 13 (.done))) (.stop)) (.stop)) (.stop)))))) (.stop)))) (.stop))) (by kernel_rfl) (by kernel_rfl) (by kernel_rfl) (⟨⟨x0,x1⟩,y0,y1⟩) ?_
 simp only[fillT,lgz,Nat.reduceBEq]
 repeat first|(with_reducible apply po_take;(·(go_simp;done));(·(intro w' hS';(try dsimp only at hS');go_simp;try with_reducible rfl));simp only[lpa])|(with_reducible apply po_skip;(·(go_simp;done));simp only[lpa])
 with_reducible refine po_last ?_ (fun K hK=>?_)
 ·(go_simp;done)
 go_simp
 refine (heapValid_any _ _ _ a (ha'.below HX.below)).mono ?_
 rintro e w1 ⟨rfl,hb1⟩
 rw[HA.out]
 replace HX:=HX.call hb1
 clear hb1 x0 x1 y0 y1
 obtain⟨x0,x1,-,-⟩:=HX.box2 1 rfl
 obtain⟨y0,y1,-,-⟩:=HX.box2 0 rfl
 refine hK.out _ _ (.inr (⟨⟨x0,x1⟩,y0,y1⟩)) ?_
 clear hK K
 repeat first|(with_reducible apply po_take;(·(go_simp;done));(·(intro w' hS';(try dsimp only at hS');go_simp;try with_reducible rfl));simp only[lpa])|(with_reducible apply po_skip;(·(go_simp;done));simp only[lpa])
 with_reducible refine po_last ?_ (fun K hK=>?_)
 ·(go_simp;done)
 go_simp
 refine (heapValid_any _ _ _ b (hb'.below HX.below)).mono ?_
 rintro e w2 ⟨rfl,hb1⟩
 rw[HB.out]
 replace HX:=HX.call hb1
 clear hb1 x0 x1 y0 y1
 obtain⟨x0,x1,-,-⟩:=HX.box2 1 rfl
 obtain⟨y0,y1,-,-⟩:=HX.box2 0 rfl
 refine hK.out _ _ (.inr (⟨⟨x0,x1⟩,y0,y1⟩)) ?_
 clear hK K
 repeat first|(with_reducible apply po_take;(·(go_simp;done));(·(intro w' hS';(try dsimp only at hS');go_simp;try with_reducible rfl));simp only[lpa])|(with_reducible apply po_skip;(·(go_simp;done));simp only[lpa])
 with_reducible refine po_last ?_ (fun K hK=>?_)
 ·(go_simp;done)
 go_simp
 refine (viewOf_any _ _ _ a (ha'.below HX.below) HA.out).mono ?_
 rintro e w3 ⟨va,rfl,ho,hb1⟩
 rw[<-HVa.out]at ho
 replace HX:=HX.madeI ho hb1
 clear ho hb1 x0 x1 y0 y1
 obtain⟨VA,kA,rfl,-⟩:=HX.formI 0 rfl
 obtain⟨x0,x1,-,-⟩:=HX.box2 (1+1) rfl
 obtain⟨y0,y1,-,-⟩:=HX.box2 (0+1) rfl
 refine hK.out _ _ (.inr (⟨⟨x0,x1⟩,y0,y1⟩)) ?_
 clear hK K
 with_reducible refine po_last ?_ (fun K hK=>?_)
 ·(go_simp;done)
 go_simp
 refine (viewOf_any _ _ _ b (hb'.below HX.below) HB.out).mono ?_
 rintro e w4 ⟨vb,rfl,ho,hb1⟩
 rw[<-HVb.out]at ho
 replace HX:=HX.madeI ho hb1
 clear ho hb1 x0 x1 y0 y1
 obtain⟨VB,kB,rfl,-⟩:=HX.formI 0 rfl
 obtain⟨x0,x1,-,-⟩:=HX.box2 (2+1) rfl
 obtain⟨y0,y1,-,-⟩:=HX.box2 (1+1) rfl
 refine hK.out _ _ (.inr (⟨⟨x0,x1⟩,y0,y1⟩)) ?_
 clear hK K
 with_reducible refine po_last ?_ (fun K hK=>?_)
 ·(go_simp;done)
 go_simp
 refine (same2_any _ _ _ _ _ _ _ _ _ V V (HX.owI 1 rfl).rdI (HX.owI 0 rfl).rdI).mono ?_
 rintro e w5 ⟨rfl,hb1⟩
 rw[decide_eq_true rfl]
 have HD:=(HX.call hb1).below
 have HX:=HX.call hb1
 clear hb1 x0 x1 y0 y1
 obtain⟨x0,x1,-,-⟩:=HX.box2 3 rfl
 obtain⟨y0,y1,-,-⟩:=HX.box2 2 rfl
 refine hK.out _ _ (.inr (⟨⟨x0,x1⟩,y0,y1⟩)) ?_
 clear hK K
 repeat first|(with_reducible apply po_take;(·(go_simp;done));(·(intro w' hS';(try dsimp only at hS');go_simp;try with_reducible rfl));simp only[lpa])|(with_reducible apply po_skip;(·(go_simp;done));simp only[lpa])
 refine po_done ?_
 clear HX H0 x0 x1 y0 y1
 go_wp2
 go_ret
 exact⟨rfl,HD⟩
abbrev OB.rowN (v:Value) (n:Nat) (xs:List Int):OB:=.row 3 1 v n (xs.map (Value.int .i64))
theorem rowI_ints {L:List OB}{i n:Nat}{v:Value}{xs:List Int}(h:L[i]?=some (.rowN v n xs)) (hn:xs.length=n):L[i]?=some (.ints v xs):=by subst hn;exact h
theorem cnt_set {m q:Nat}{xs:List Int}:((cnts m xs).map (Value.int .i64)).set q (.int .i64 (((xs.count (q:Int):Nat):Int)+1))=(cnts m (xs++[(q:Int)])).map (Value.int .i64):=by
 rw[cnts_snoc,List.map_set]
theorem cnt_at {m q:Nat}(xs:List Int) (h:q<m):((cnts m xs).map (Value.int .i64))[q]?=some (.int .i64 ((xs.count (q:Int):Nat):Int)):=by
 rw[List.getElem?_map,cnts_at _ h];rfl
theorem refsTo_len {h:Hp}(hok:heapOk h=true) (k:Nat):(refsTo h.cells k).length<=190:=by
 obtain⟨s4,s5⟩:=heapOk_small hok
 have:∀ cs:List Cel,(∀ c∈cs,c.refs.length<=3)->(cs.flatMap (·.refs)).length<=3*cs.length:=by
  intro cs
  induction cs with
  | nil=>intro _;simp
  | cons c cs ih =>
   intro hc
   have h1:=ih fun x hx=>hc x (List.mem_cons_of_mem _ hx)
   have h2:=hc c (by simp)
   simp only[List.flatMap_cons,List.length_append,List.length_cons];omega
 have h3:=this (h.cells.take k) fun c hc=>by
  obtain⟨j,hj,rfl⟩:=List.mem_iff_getElem.1 (List.mem_of_mem_take hc)
  exact (refs3 hok (List.getElem?_eq_getElem hj)).1
 have h4:(h.cells.take k).length<=h.cells.length:=by rw[List.length_take];omega
 unfold refsTo;omega
set_option maxHeartbeats 1600000 in
theorem refAdd_any {lo:Nat}{w0 w:World}{L:List OB}{g gc cc m:Nat}{xs:List Int}(H:Owns lo w0 w (.box g [.slice (some ⟨gc,0,none⟩) m cc] 27::.rowN (.slice (some ⟨gc,0,none⟩) m cc) m (cnts m xs)::L)) {B:Nat}{A:Option Addr}{n c:Nat}{rs:List Int}(hr:RdI w0 B A n c rs) (hB:B<=lo)
  (hR:∀ r∈rs,0<=r->r<m) (hl:xs.length+n<=1000) (hm:m<=1000) (hcc:m<=cc):
  Calls Tryz.prog 152 #[.slice A n c,.pointer (some ⟨g,0,none⟩)] w fun e w' =>
   (∃ u,e=.returned u)/\Owns lo w0 w' (.box g [.slice (some ⟨gc,0,none⟩) m cc] 27::.rowN (.slice (some ⟨gc,0,none⟩) m cc) m (cnts m (xs++rs))::L):=by
 have hm1:=hr.mx;have hcap1:=hr.cap
 have l1:=RdI.le1 hr;have l2:=RdI.le2 hr
 unfold maxLen at hm1
 have HR:=hid hR
 clear hR
 go_enter Tryz.func152,Tryz.ntmps152
 go_wp2_with fail
 go_loopw [7] (fun i wr=>∃ k:Nat,i=.int .i64 k/\k<=n/\Owns lo w0 wr (.box g [.slice (some ⟨gc,0,none⟩) m cc] 27::.rowN (.slice (some ⟨gc,0,none⟩) m cc) m (cnts m (xs++rs.take k))::L)) (fun i _=>n - (intOf i).toNat)
 case atStart=>exact⟨0,rfl,Nat.zero_le _,by simpa using H⟩
 case round =>
  clear H
  obtain⟨k,rfl,hk,H⟩:=hrel
  by_cases hlt:k<n
  ·obtain⟨b,ob,x,rfl,hbb,hx,q1⟩:=RdI.at_ hr hlt
   have hT:=take_snoc' hx
   have hxr:=HR.out x (List.mem_of_getElem? hx.out)
   have hle:(xs++rs.take k).length<=1000:=by simp;omega
   have hTT:xs++rs.take (k+1)=(xs++rs.take k)++[x]:=by rw[hT,List.append_assoc]
   generalize xs++rs.take k=X at *
   have g1:=H.ro q1 (by show b<lo;omega)
   clear q1 hT
   by_cases c0:x<0
   ·have HT:Hid (cnts m (xs++rs.take (k+1))=cnts m X):=hid (by rw[hTT,cnts_snoc_neg c0])
    clear hTT
    go_wp2
    go_roundw
    case rel=>exact⟨k+1,by go_num,by omega,by rw[HT.out];exact H⟩
    case measure=>simp[intOf];omega
   obtain⟨q,rfl⟩:=Int.eq_ofNat_of_zero_le (by omega:0<=x)
   have hq:q<m:=by omega
   obtain⟨x0,xf⟩:=H.box1 0 rfl
   obtain⟨y0,yf⟩:=H.elem 1 rfl (cnt_at X hq)
   have H2:=H.putRow 1 rfl q (.int .i64 (((X.count (q:Int):Nat):Int)+1))
   simp only[lsz]at H2
   rw[cnt_set,<-hTT]at H2
   have HO:=hid H2
   have hcn:X.count (q:Int)<=1000:=Nat.le_trans List.count_le_length hle
   generalize X.count (q:Int)=cn at *
   clear H2 H hTT hxr
   go_wp2
   go_roundw
   case rel=>exact⟨k+1,by go_num,by omega,HO.out⟩
   case measure=>simp[intOf];omega
  ·rw[List.take_of_length_le (by omega)]at H
   go_wp2
   refine bodyPost_end (results_none rfl _ _ _) rfl ?_
   exact⟨⟨_,rfl⟩,H⟩
set_option maxHeartbeats 3200000 in
set_option maxRecDepth 20000 in
theorem refCounts_any (w:World) (B:Nat) (v:Value) (h:Hp) (hh:RdH w B v h) (hok:heapOk h=true):
  Calls Tryz.prog 146 #[v,.int .u64 0] w (MadeI w (mCounts h)):=by
 obtain⟨D,m,d,D',m',d',rfl,hC,hR⟩:=hh.top
 have hm1:=hC.mx;have hcap1:=hC.cap
 have l3:=hC.le1;have l4:=hC.le2
 unfold maxLen at hm1
 obtain⟨s4,s5⟩:=heapOk_small hok
 have l1:=RdI.le1 hR;have l2:=RdI.le2 hR
 have HLd:Hid (LeadX h.cells (allRefs h)):=hid (lead_start hok)
 have HLn:=hid (refsTo_len hok)
 have HRt:Hid (∀ r∈h.roots,0<=r->r<m):=hid fun r hr h0=>by rcases HLd.out r (List.mem_append_left _ hr) with e|⟨-,e,-⟩ <;> omega
 have HRf:Hid (∀ (c:Nat) (l:Cel),h.cells[c]?=some l->l.refs.length<=3/\∀ r∈l.refs,0<=r->r<m):=hid fun c l hl=>by
  refine⟨(refs3 hok hl).1,fun r hr h0=>?_⟩
  rcases (refs3 hok hl).2 r hr with e|⟨-,e⟩ <;> omega
 obtain⟨i0,hi,hz0,hz1,hz2⟩:=info_parts Tryz.infoInt
 clear hok
 have H0:=(Owns.nil w).box [.slice D m d,.slice D' m' d'] 29
 obtain⟨a0,a1,-,-⟩:=H0.box2 0 rfl
 go_enter Tryz.func146,Tryz.ntmps146
 go_wp2_with (at_make;refine wpList_make_full _ rfl _ _ _ rfl (w.heap.size+1) 3 i0 (.int .i64 0) 1 Tryz.underlying27 hi hz0 hz1 .i64 .i64 _ _ m rfl rfl rfl rfl (by rw[hz2];omega) (by unfold maxLen;omega) (by simp) ?_)
 intro w1 hown hg
 have H1:=H0.mkI (by simpa using hown) hg
 rw[<-cnts_nil]at H1
 have H2:=(H1.box [.slice (some ⟨w.heap.size+1,0,none⟩) m m] 27)
 clear H0 H1 hown hg a0 a1
 obtain⟨a0,a1,-,-⟩:=H2.box2 2 rfl
 go_wp2_with fail
 refine (refAdd_any H2 hR (Nat.le_refl _) HRt.out (by simp;omega) (by omega) (Nat.le_refl _)).mono ?_
 rintro e w2 ⟨⟨u,rfl⟩,H3⟩
 clear H2 a0 a1
 obtain⟨a0,a1,-,-⟩:=H3.box2 2 rfl
 have H4:Owns w.heap.size w w2 [.box w1.heap.size [.slice (some ⟨w.heap.size+1,0,none⟩) m m] 27,.rowN (.slice (some ⟨w.heap.size+1,0,none⟩) m m) m (cnts m (h.roots++refsTo h.cells 0)),.box w.heap.size [.slice D m d,.slice D' m' d'] 29]:=by simpa [refsTo] using H3
 clear H3
 go_wp2_with fail
 clear a0 a1
 go_loopw [21] (fun i wr=>∃ k:Nat,i=.int .i64 k/\k<=m/\Owns w.heap.size w wr [.box w1.heap.size [.slice (some ⟨w.heap.size+1,0,none⟩) m m] 27,.rowN (.slice (some ⟨w.heap.size+1,0,none⟩) m m) m (cnts m (h.roots++refsTo h.cells k)),.box w.heap.size [.slice D m d,.slice D' m' d'] 29]) (fun i _=>m - (intOf i).toNat)
 case atStart=>exact⟨0,rfl,Nat.zero_le _,H4⟩
 case round =>
  clear H4
  obtain⟨k,rfl,hk,H⟩:=hrel
  by_cases hlt:k<m
  ·obtain⟨b,o,l,A2,n2,c2,rfl,hbb,hx,q1,q2,q3,hrf⟩:=hC.at_ hlt
   have hT:=refsTo_succ hx
   have HF:=hid (HRf.out k l hx.out)
   have hf3:=HF.out.1
   have r1:=RdI.le1 hrf;have r2:=RdI.le2 hrf
   have hle:(h.roots++refsTo h.cells k).length<=194:=by have:=HLn.out k;simp;omega
   have HT:Hid (h.roots++refsTo h.cells (k+1)=(h.roots++refsTo h.cells k)++l.refs):=hid (by rw[hT,List.append_assoc])
   generalize h.roots++refsTo h.cells k=X at *
   have g1:=H.ro q1 hbb
   have g2:=H.ro q2 hbb
   have g3:=H.ro q3 hbb
   clear q1 q2 q3 hT
   have H5:=(H.box [.bool l.used,.int .i64 l.data,.slice A2 n2 c2] 68).order [1,2,3,0] (L':=[.box w1.heap.size [.slice (some ⟨w.heap.size+1,0,none⟩) m m] 27,.rowN (.slice (some ⟨w.heap.size+1,0,none⟩) m m) m (cnts m X),.box w.heap.size [.slice (some ⟨b,o,none⟩) m d,.slice D' m' d'] 29,.box wr.heap.size [.bool l.used,.int .i64 l.data,.slice A2 n2 c2] 68]) (by decide) rfl
   clear H
   obtain⟨y0,y1,y2,-,-,-⟩:=H5.box3 3 rfl
   have e0:hasB 0 (k:Int)=false:=hasB_zero _
   go_wp2_with fail
   refine (has_any 0 (k:Int) _ (by omega)).mono ?_
   rintro e w3 ⟨rfl,hw3⟩
   obtain rfl:=hw3
   rw[e0]
   go_wp2_with fail
   refine (refAdd_any H5 hrf (Nat.le_refl _) HF.out.2 (by omega) (by omega) (Nat.le_refl _)).mono ?_
   rintro e w4 ⟨⟨u,rfl⟩,H6⟩
   rw[<-HT.out]at H6
   have H7:=H6.take 3
   simp only[List.take_succ_cons,List.take_zero]at H7
   clear H5 H6 y0 y1 y2 g1 g2 g3 e0
   go_wp2
   go_roundw
   case rel=>exact⟨k+1,by go_num,by omega,H7⟩
   case measure=>simp[intOf];omega
  ·have HE:Hid (cnts m (h.roots++refsTo h.cells k)=mCounts h):=hid (by rw[refsTo_all (by omega)];unfold mCounts allRefs;rw[show m=h.cells.length by omega])
   rw[HE.out]at H
   obtain⟨x0,xf⟩:=H.box1 0 rfl
   have HO:=hid H
   clear H
   go_wp2
   go_ret
   exact HO.out.toI 1 (rowI_ints rfl (by rw[mCounts_len];omega))
set_option maxHeartbeats 3200000 in
set_option maxRecDepth 20000 in
theorem l7Counts_any (w:World) (B:Nat) (v:Value) (h:Hp) (hh:RdH w B v h) (hok:heapOk h=true):
  Calls Tryz.prog 121 #[v] w (MadeI w (mCounts h)):=by
 obtain⟨D,m,d,D',m',d',rfl,hC,hR⟩:=hh.top
 have hm1:=hC.mx;have hcap1:=hC.cap
 have l3:=hC.le1;have l4:=hC.le2
 unfold maxLen at hm1
 obtain⟨s4,s5⟩:=heapOk_small hok
 have l1:=RdI.le1 hR;have l2:=RdI.le2 hR
 have HLd:Hid (LeadX h.cells (allRefs h)):=hid (lead_start hok)
 have HLn:=hid (refsTo_len hok)
 have HRt:Hid (∀ r∈h.roots,0<=r->r<m):=hid fun r hr h0=>by rcases HLd.out r (List.mem_append_left _ hr) with e|⟨-,e,-⟩ <;> omega
 have HRf:Hid (∀ (c:Nat) (l:Cel),h.cells[c]?=some l->l.refs.length<=3/\∀ r∈l.refs,0<=r->r<m):=hid fun c l hl=>by
  refine⟨(refs3 hok hl).1,fun r hr h0=>?_⟩
  rcases (refs3 hok hl).2 r hr with e|⟨-,e⟩ <;> omega
 obtain⟨i0,hi,hz0,hz1,hz2⟩:=info_parts Tryz.infoInt
 clear hok
 have H0:=(Owns.nil w).box [.slice D m d,.slice D' m' d'] 29
 obtain⟨a0,a1,-,-⟩:=H0.box2 0 rfl
 go_enter Tryz.func121,Tryz.ntmps121
 go_wp2_with (at_make;refine wpList_make_full _ rfl _ _ _ rfl (w.heap.size+1) 3 i0 (.int .i64 0) 1 Tryz.underlying27 hi hz0 hz1 .i64 .i64 _ _ m rfl rfl rfl rfl (by rw[hz2];omega) (by unfold maxLen;omega) (by simp) ?_)
 intro w1 hown hg
 have H1:=H0.mkI (by simpa using hown) hg
 rw[<-cnts_nil]at H1
 clear H0 hown hg a0 a1
 go_wp2_with fail
 go_loopw [4] (fun i wr=>∃ k:Nat,i=.int .i64 k/\k<=m'/\Owns w.heap.size w wr [.rowN (.slice (some ⟨w.heap.size+1,0,none⟩) m m) m (cnts m (h.roots.take k)),.box w.heap.size [.slice D m d,.slice D' m' d'] 29]) (fun i _=>m' - (intOf i).toNat)
 case atStart=>exact⟨0,rfl,Nat.zero_le _,H1⟩
 case round =>
  clear H1
  obtain⟨k,rfl,hk,H⟩:=hrel
  obtain⟨a0,a1,-,-⟩:=H.box2 1 rfl
  by_cases hlt:k<m'
  ·obtain⟨b,ob,x,rfl,hbb,hx,q1⟩:=RdI.at_ hR hlt
   have hT:=take_snoc' hx
   have hxr:=HRt.out x (List.mem_of_getElem? hx.out)
   have hle:(h.roots.take k).length<=1000:=by simp;omega
   generalize h.roots.take k=X at *
   have g1:=H.ro q1 (by omega)
   by_cases c0:x<0
   ·have HT:Hid (cnts m (h.roots.take (k+1))=cnts m X):=hid (by rw[hT,cnts_snoc_neg c0])
    clear hT q1
    go_wp2
    go_roundw
    case rel=>exact⟨k+1,by go_num,by omega,by rw[HT.out];exact H⟩
    case measure=>simp[intOf];omega
   obtain⟨q,rfl⟩:=Int.eq_ofNat_of_zero_le (by omega:0<=x)
   have hq:q<m:=by omega
   have hcn:X.count (q:Int)<=1000:=Nat.le_trans List.count_le_length hle
   go_wp2_with fail
   have HX:=H.drew
   clear H a0 a1 g1
   obtain⟨a0,a1,-,-⟩:=HX.box2 1 rfl
   have g1:=HX.ro q1 (by omega)
   obtain⟨y0,yf⟩:=HX.elem 0 rfl (cnt_at X hq)
   have H2:=HX.putRow 0 rfl q (.int .i64 (((X.count (q:Int):Nat):Int)+1))
   simp only[lsz]at H2
   rw[cnt_set,<-hT]at H2
   have HO:=hid H2
   generalize X.count (q:Int)=cn at *
   clear H2 HX hT hxr q1
   refine wp_region_tree (fun w'=>w'.cell? ⟨w.heap.size,1,none⟩=some (.slice (some ⟨b,ob,none⟩) m' d')/\w'.cell? ⟨b,ob+k,none⟩=some (.int .i64 (q:Int))/\w'.cell? ⟨w.heap.size+1,q,none⟩=some (.int .i64 (cn:Int))) 16 [] (.take 0 (.take 1 (.take 2 (.take 3 (.take 4 (.take 5 (.take 6 (.take 7 (.take 8 (.take 9 (.take 10 (.take 11 (.take 12 (.take 13 (.take 14 (.take 15 (.alt 16 (.done) (.stop)))))))))))))))))) (by kernel_rfl) (by kernel_rfl) (by kernel_rfl) (⟨a1,g1,y0⟩) ?_
   simp only[fillT,lgz,Nat.reduceBEq]
   repeat first|(with_reducible apply po_take;(·(go_simp;done));(·(intro w' hS';(try dsimp only at hS');go_simp;try with_reducible rfl));simp only[lpa])|(with_reducible apply po_skip;(·(go_simp;done));simp only[lpa])
   with_reducible refine po_last ?_ (fun K hK=>?_)
   ·(go_simp;done)
   go_simp
   refine hK.out _ _ (.inl rfl) ?_
   clear hK K
   refine po_done ?_
   clear a0 a1 g1 y0 yf
   go_wp2
   go_roundw
   case rel=>exact⟨k+1,by go_num,by omega,HO.out⟩
   case measure=>simp[intOf];omega
  ·have H4:Owns w.heap.size w wr [.rowN (.slice (some ⟨w.heap.size+1,0,none⟩) m m) m (cnts m (h.roots++refsTo h.cells 0)),.box w.heap.size [.slice D m d,.slice D' m' d'] 29]:=by
    rw[List.take_of_length_le (by omega)]at H
    simpa [refsTo] using H
   clear H
   go_wp2_with fail
   clear a0 a1 hlt hk
   go_loopw [5] (fun i wr=>∃ k:Nat,i=.int .i64 k/\k<=m/\Owns w.heap.size w wr [.rowN (.slice (some ⟨w.heap.size+1,0,none⟩) m m) m (cnts m (h.roots++refsTo h.cells k)),.box w.heap.size [.slice D m d,.slice D' m' d'] 29]) (fun i _=>m - (intOf i).toNat)
   case atStart=>exact⟨0,rfl,Nat.zero_le _,H4⟩
   case round =>
    clear H4
    obtain⟨k,rfl,hk,H⟩:=hrel
    obtain⟨a0,a1,-,-⟩:=H.box2 1 rfl
    by_cases hlt:k<m
    ·obtain⟨b,o,l,A2,n2,c2,rfl,hbb,hx,q1,q2,q3,hrf⟩:=hC.at_ hlt
     have hT:=refsTo_succ hx
     have HF:=hid (HRf.out k l hx.out)
     have hf3:=HF.out.1
     have r1:=RdI.le1 hrf;have r2:=RdI.le2 hrf
     have hle:(h.roots++refsTo h.cells k).length<=194:=by have:=HLn.out k;simp;omega
     have HT:Hid (h.roots++refsTo h.cells (k+1)=(h.roots++refsTo h.cells k)++l.refs):=hid (by rw[hT,List.append_assoc])
     generalize h.roots++refsTo h.cells k=X at *
     clear hT q1 q2
     have H5:Owns w.heap.size w wr [.rowN (.slice (some ⟨w.heap.size+1,0,none⟩) m m) m (cnts m (X++l.refs.take 0)),.box w.heap.size [.slice (some ⟨b,o,none⟩) m d,.slice D' m' d'] 29]:=by simpa using H
     clear H
     go_wp2_with fail
     clear a0 a1
     go_loopw [6] (fun i wr=>∃ j:Nat,i=.int .i64 j/\j<=n2/\Owns w.heap.size w wr [.rowN (.slice (some ⟨w.heap.size+1,0,none⟩) m m) m (cnts m (X++l.refs.take j)),.box w.heap.size [.slice (some ⟨b,o,none⟩) m d,.slice D' m' d'] 29]) (fun i _=>n2 - (intOf i).toNat)
     case atStart=>exact⟨0,rfl,Nat.zero_le _,H5⟩
     case round =>
      clear H5
      obtain⟨j,rfl,hj,H⟩:=hrel
      obtain⟨a0,a1,-,-⟩:=H.box2 1 rfl
      have g3:=H.ro q3 hbb
      by_cases hlj:j<n2
      ·obtain⟨b2,o2,x,rfl,hbb2,hx2,p1⟩:=RdI.at_ hrf hlj
       have hT:=take_snoc' hx2
       have hxr:=HF.out.2 x (List.mem_of_getElem? hx2.out)
       have hle2:(X++l.refs.take j).length<=1000:=by simp;omega
       have hTT:X++l.refs.take (j+1)=(X++l.refs.take j)++[x]:=by rw[hT,List.append_assoc]
       generalize X++l.refs.take j=Y at *
       have g1:=H.ro p1 hbb2
       clear p1 hT
       by_cases c0:x<0
       ·have HT2:Hid (cnts m (X++l.refs.take (j+1))=cnts m Y):=hid (by rw[hTT,cnts_snoc_neg c0])
        clear hTT
        go_wp2
        go_roundw
        case rel=>exact⟨j+1,by go_num,by omega,by rw[HT2.out];exact H⟩
        case measure=>simp[intOf];omega
       obtain⟨q,rfl⟩:=Int.eq_ofNat_of_zero_le (by omega:0<=x)
       have hq:q<m:=by omega
       obtain⟨y0,yf⟩:=H.elem 0 rfl (cnt_at Y hq)
       have H2:=H.putRow 0 rfl q (.int .i64 (((Y.count (q:Int):Nat):Int)+1))
       simp only[lsz]at H2
       rw[cnt_set,<-hTT]at H2
       have HO:=hid H2
       have hcn:Y.count (q:Int)<=1000:=Nat.le_trans List.count_le_length hle2
       generalize Y.count (q:Int)=cn at *
       clear H2 H hTT hxr
       go_wp2
       go_roundw
       case rel=>exact⟨j+1,by go_num,by omega,HO.out⟩
       case measure=>simp[intOf];omega
      ·rw[List.take_of_length_le (by omega),<-HT.out]at H
       go_wp2
       go_roundw
       case rel=>exact⟨k+1,by go_num,by omega,H⟩
       case measure=>simp[intOf];omega
    ·have HE:Hid (cnts m (h.roots++refsTo h.cells k)=mCounts h):=hid (by rw[refsTo_all (by omega)];unfold mCounts allRefs;rw[show m=h.cells.length by omega])
     rw[HE.out]at H
     have HO:=hid H
     clear H
     go_wp2
     go_ret
     exact HO.out.toI 0 (rowI_ints rfl (by rw[mCounts_len];omega))
set_option maxHeartbeats 1600000 in
theorem specRefCounts_yes (w:World) (B:Nat) (v:Value) (h:Hp) (hh:RdH w B v h) (hok:heapOk h=true):
  Calls Tryz.prog 120 #[v] w (MadeI w (mCounts h)):=by
 have hh':=hh.top
 obtain⟨D,m,d,D',m',d',rfl,-,-⟩:=hh.top
 have HOk:=hid hok
 have H0:=(Owns.nil w).box [.slice D m d,.slice D' m' d'] 29
 obtain⟨a0,a1,-,-⟩:=H0.box2 0 rfl
 go_enter Tryz.func120,Tryz.ntmps120
 go_wp2_with fail
 refine (specHeapValid_any _ _ _ h (hh'.below H0.below)).mono ?_
 rintro e w1 ⟨rfl,hb⟩
 rw[HOk.out]
 have H:=H0.call hb
 clear hb a0 a1 H0 hok
 obtain⟨a0,a1,-,-⟩:=H.box2 0 rfl
 go_wp2_with fail
 refine (l7Counts_any _ _ _ h (hh'.below H.below) HOk.out).mono ?_
 rintro e w2 ⟨v2,rfl,ho,hb⟩
 have H2:=H.madeI ho hb
 clear a0 a1 H ho hb
 go_wp2
 go_ret
 exact H2.toI 0 rfl
set_option maxHeartbeats 1600000 in
theorem freePlace_any (w:World) (B:Nat) (v:Value) (h:Hp) (hh:RdH w B v h) (hn:h.cells.length<=1048576):
  Calls Tryz.prog 151 #[v] w fun e w'=>e=.returned (.int .i64 (mFree h:Nat))/\Below w.heap.size w w':=by
 obtain⟨D,m,d,D',m',d',rfl,hC,hR⟩:=hh.top
 have l3:=hC.le1;have l4:=hC.le2
 have H1:=(Owns.nil w).box [.slice D m d,.slice D' m' d'] 29
 obtain⟨a0,a1,-,-⟩:=H1.box2 0 rfl
 go_enter Tryz.func151,Tryz.ntmps151
 go_wp2_with fail
 clear a0 a1
 go_loopw [8] (fun i wr=>∃ (k:Nat),i=.int .i64 k/\k<=m/\Hid (∀ i,i<k->usedN h.cells i=true)/\Owns w.heap.size w wr [.box w.heap.size [.slice D m d,.slice D' m' d'] 29]) (fun i _=>m - (intOf i).toNat)
 case atStart=>exact⟨0,rfl,Nat.zero_le _,hid fun i hi=>by omega,H1⟩
 case round =>
  clear H1
  obtain⟨k,rfl,hk,hu,H⟩:=hrel
  by_cases hlt:k<m
  ·obtain⟨b,o,l,A2,n2,c2,rfl,hbb,hx,q1,q2,q3,hrf⟩:=hC.at_ hlt
   have g1:=H.ro q1 hbb
   have g2:=H.ro q2 hbb
   have g3:=H.ro q3 hbb
   have hun:=usedN_at hx
   clear q1 q2 q3
   cases hl:l.used
   ·rw[hl]at g1 hun
    have HF:=hid (mFree_at hu.out hun)
    have HB:=(H.alloc (.cells #[.bool false,.int .i64 l.data,.slice A2 n2 c2] 68)).below
    clear H hl hun hu
    go_wp2
    go_ret
    exact⟨ret_i (by rw[HF.out]),HB⟩
   ·rw[hl]at g1 hun
    have HU:=hid (lt_more hu.out hun)
    have H2:=H.alloc (.cells #[.bool true,.int .i64 l.data,.slice A2 n2 c2] 68)
    clear H hl hun hu
    go_wp2
    go_roundw
    case rel=>exact⟨k+1,by go_num,by omega,HU,H2⟩
    case measure=>simp[intOf];omega
  ·have hkm:k=m:=by omega
   have HF:Hid (mFree h=m):=hid (by rw[mFree_end (fun i hi=>hu.out i (by omega))];omega)
   obtain⟨a0,a1,-,-⟩:=H.box2 0 rfl
   have HB:=H.below
   clear H hu hkm
   go_wp2
   go_ret
   exact⟨ret_i (by rw[HF.out]),HB⟩
set_option maxHeartbeats 1600000 in
theorem l10Place_any (w:World) (B:Nat) (v:Value) (h:Hp) (hh:RdH w B v h) (hn:h.cells.length<=1048576):
  Calls Tryz.prog 90 #[v] w fun e w'=>e=.returned (.int .i64 (mFree h:Nat))/\Below w.heap.size w w':=by
 obtain⟨D,m,d,D',m',d',rfl,hC,hR⟩:=hh.top
 have l3:=hC.le1;have l4:=hC.le2
 have H1:=(Owns.nil w).box [.slice D m d,.slice D' m' d'] 29
 go_enter Tryz.func90,Tryz.ntmps90
 go_wp2_with fail
 go_loopw [3] (fun i wr=>∃ (k:Nat),i=.int .i64 k/\k<=m/\Hid (∀ i,i<k->usedN h.cells i=true)/\Owns w.heap.size w wr [.box w.heap.size [.slice D m d,.slice D' m' d'] 29]) (fun i _=>m - (intOf i).toNat)
 case atStart=>exact⟨0,rfl,Nat.zero_le _,hid fun i hi=>by omega,H1⟩
 case round =>
  clear H1
  obtain⟨k,rfl,hk,hu,H⟩:=hrel
  obtain⟨a0,a1,-,-⟩:=H.box2 0 rfl
  by_cases hlt:k<m
  ·obtain⟨b,o,l,A2,n2,c2,rfl,hbb,hx,q1,q2,q3,hrf⟩:=hC.at_ hlt
   have g1:=H.ro q1 hbb
   have hun:=usedN_at hx
   clear q1 q2 q3
   cases hl:l.used
   ·rw[hl]at g1 hun
    have HF:=hid (mFree_at hu.out hun)
    have HB:=H.below
    clear H hl hun hu
    go_wp2
    go_ret
    exact⟨ret_i (by rw[HF.out]),HB⟩
   ·rw[hl]at g1 hun
    have HU:=hid (lt_more hu.out hun)
    clear hl hun hu
    go_wp2
    go_roundw
    case rel=>exact⟨k+1,by go_num,by omega,HU,H⟩
    case measure=>simp[intOf];omega
  ·have HF:Hid (mFree h=m):=hid (by rw[mFree_end (fun i hi=>hu.out i (by omega))];omega)
   have HB:=H.below
   clear H hu
   go_wp2
   go_ret
   exact⟨ret_i (by rw[HF.out]),HB⟩
theorem isLimit_any (n:Int) (w:World):Calls Tryz.prog 31 #[.int .i64 n] w fun e w'=>e=.returned (.bool (inR n 1 40))/\w=w':=by
 by_cases h1:1<=n
 ·by_cases h2:n<=40
  ·have HF:Hid (inR n 1 40=true):=hid (by simp[inR,h1,h2])
   go_enter Tryz.func31,Tryz.ntmps31
   go_wp2
   go_ret
   exact⟨ret_b HF.out.symm,rfl⟩
  ·have HF:Hid (inR n 1 40=false):=hid (by simp[inR,h2])
   go_enter Tryz.func31,Tryz.ntmps31
   go_wp2
   go_ret
   exact⟨ret_b HF.out.symm,rfl⟩
 ·have HF:Hid (inR n 1 40=false):=hid (by simp[inR,h1])
  go_enter Tryz.func31,Tryz.ntmps31
  go_wp2
  go_ret
  exact⟨ret_b HF.out.symm,rfl⟩
section
def TailQ (v v0:Value) (xs xs0:List Int):Prop:=
 (v=v0/\xs=xs0) ∨
 (∃ g o c,v0=.slice (some ⟨g,0,none⟩) xs0.length c/\o<=xs0.length/\xs=xs0.drop o/\v=.slice (some ⟨g,o,none⟩) xs.length (c - o)) ∨
 (∃ g o c,v0=.slice (some ⟨g,0,none⟩) xs0.length c/\xs=[]/\v=.slice (some ⟨g,o,none⟩) 0 0)
section
variable {lo:Nat} {w0 w:World} {L:List OB}
theorem Owns.intRow (h:Owns lo w0 w L) (i:Nat) {v0:Value}{xs0:List Int}(hX:L[i]?=some (.ints v0 xs0)) {g c n:Nat}(e:v0=.slice (some ⟨g,0,none⟩) n c):
  n=xs0.length/\xs0.length<=c/\c<=maxLen/\(∀ j x,xs0[j]?=some x->w.cell? ⟨g,j,none⟩=some (.int .i64 x))/\(∀ j,j<c->(w.cell? ⟨g,j,none⟩).isSome=true)/\∀ j,w.frozen? ⟨g,j,none⟩=false:=by
 have ho:=h.own i hX
 rcases ho.2 with⟨rfl,_⟩|⟨g',c',cur,e',hb,hg,hn,hm,hs,ht⟩
 ·cases e
 ·rw[e]at e'
  simp only[Value.slice.injEq,Option.some.injEq,Addr.mk.injEq,and_true,true_and]at e'
  obtain⟨rfl,rfl,rfl⟩:=e'
  refine⟨rfl,hn,hm,fun j x hx=>?_,fun j hj=>?_,fun j=>?_⟩
  ·rw[e]at ho
   have hj:=(List.getElem?_eq_some_iff.1 hx).1
   exact (ho.cellAt j (by omega)).trans (by rw[List.getElem?_map,hx];rfl)
  ·have:j<cur.size:=by omega
   simp[World.cell?,hg,this]
  ·simp[World.frozen?,hg]
theorem Owns.rdQ (h:Owns lo w0 w L) (i:Nat) {v v0:Value}{xs xs0:List Int}(hX:L[i]?=some (.ints v0 xs0)) (ht:TailQ v v0 xs xs0):∃ A c,v=.slice A xs.length c:=by
 rcases ht with⟨rfl,rfl⟩|⟨g,o,c,-,-,-,rfl⟩|⟨g,o,c,-,rfl,rfl⟩
 ·obtain⟨A,c,e,-⟩:=h.formI i hX
  exact⟨A,c,e⟩
 ·exact⟨_,_,rfl⟩
 ·exact⟨_,_,rfl⟩
theorem Owns.headQ (h:Owns lo w0 w L) (i:Nat) {v v0:Value}{x:Int}{xs xs0:List Int}(hX:L[i]?=some (.ints v0 xs0)) (ht:TailQ v v0 (x::xs) xs0):
  ∃ b o c,v=.slice (some ⟨b,o,none⟩) (xs.length+1) c/\xs.length+1<=c/\c<=maxLen/\w.cell? ⟨b,o,none⟩=some (.int .i64 x) ∧
   (c≠1->TailQ (.slice (some ⟨b,o+1,none⟩) xs.length (c - 1)) v0 xs xs0)/\(c=1->TailQ (.slice (some ⟨b,o,none⟩) 0 0) v0 xs xs0):=by
 have fin:∀ {g o c:Nat},v0=.slice (some ⟨g,0,none⟩) xs0.length c->o<=xs0.length->x::xs=xs0.drop o →
   xs.length+1<=c - o/\c - o<=maxLen/\w.cell? ⟨g,o,none⟩=some (.int .i64 x)/\(c - o≠1->TailQ (.slice (some ⟨g,o+1,none⟩) xs.length (c - o - 1)) v0 xs xs0)/\(c - o=1->TailQ (.slice (some ⟨g,o,none⟩) 0 0) v0 xs xs0):=by
  intro g o c e ho hd
  obtain⟨-,k1,k2,k3,-,-⟩:=h.intRow i hX e
  have hl:=congrArg List.length hd
  simp only[List.length_cons,List.length_drop]at hl
  have hx:xs0[o]?=some x:=by
   have:=congrArg (fun l:List Int=>l[0]?) hd
   simpa [List.getElem?_drop] using this.symm
  have hd1:xs=xs0.drop (o+1):=by
   have:=congrArg (List.drop 1) hd
   simpa [List.drop_drop,Nat.add_comm] using this
  refine⟨by omega,by omega,k3 o x hx,fun _=>.inr (.inl ⟨g,o+1,c,e,by omega,hd1,by rw[Nat.sub_sub]⟩),fun hc=>.inr (.inr ⟨g,o,c,e,?_,rfl⟩)⟩
  exact List.eq_nil_of_length_eq_zero (by omega)
 rcases ht with⟨rfl,rfl⟩|⟨g,o,c,e,ho,hd,rfl⟩|⟨g,o,c,-,e,-⟩
 ·obtain⟨g,c,e,-,-,-,-⟩:=h.rowAt i hX (by simp)
  have:=fin e (Nat.zero_le _) rfl
  simp only[Nat.sub_zero]at this
  refine⟨g,0,c,e,this⟩
 ·exact⟨g,o,c - o,by rw[List.length_cons],fin e ho hd⟩
 ·cases e
theorem run_pushQ (h:Owns lo w0 w L) (i:Nat) {v v0:Value}{xs xs0:List Int}(hX:L[i]?=some (.ints v0 xs0)) (ht:TailQ v v0 xs xs0) {b o c:Nat}{x:Int}(hx:w.cell? ⟨b,o,none⟩=some (.int .i64 x)) (hb:xs.length+1<=1048576) (hb0:xs0.length+1<=1048576) (ty:TypeId):
  ∃ A' c' w' v0' xs0',(Builtin.append_ #[27,27] ty #[v,.slice (some ⟨b,o,none⟩) 1 c]).run Tryz.prog w=.ok (.slice A' (xs.length+1) c') w'/\TailQ (.slice A' (xs.length+1) c') v0' (xs++[x]) xs0'/\xs0'.length<=xs0.length+1/\Owns lo w0 w' (L.set i (.ints v0' xs0')):=by
 obtain⟨i0,hi,hz0,hz1,hz2⟩:=info_parts Tryz.infoInt
 have hnews:∀ j u,[Value.int .i64 x][j]?=some u->w.cell? ((⟨b,o,none⟩:Addr).add j)=some u:=by
  intro j u hu
  cases j with
  | zero=>simp only[List.getElem?_cons_zero,Option.some.injEq]at hu;subst hu;rw[Addr.add_lit];exact hx
  | succ j=>simp at hu
 have h1:∀ u∈[Value.int .i64 x],u.oneCell'=true:=by
  intro u hu
  simp only[List.mem_singleton]at hu
  subst hu;rfl
 have whole:∀ {v0:Value},L[i]?=some (.ints v0 xs0)->∃ v' w',(Builtin.append_ #[27,27] ty #[v0,.slice (some ⟨b,o,none⟩) 1 c]).run Tryz.prog w=.ok v' w'/\Owns lo w0 w' (L.set i (.ints v' (xs0++[x]))):=fun {v0} hX=>by
  obtain⟨v',w',hrun,ho,hg,-,hat⟩:=run_append_own_at (P:=Tryz.prog) w lo 27 ty 3 i0 (.int .i64 0) 1 _ Tryz.underlying27 hi hz0 hz1 rfl rfl (by omega) v0 _ _ (h.own i hX) ⟨b,o,none⟩ 1 c [.int .i64 x] rfl hnews h1 (by unfold maxLen;omega) (by rw[hz2];omega) h.le
  refine⟨v',w',hrun,?_⟩
  have e:xs0.length+1=(xs0++[x]).length:=by simp
  have e2:xs0.map (Value.int .i64)++[.int .i64 x]=(xs0++[x]).map (Value.int .i64):=by simp
  rw[e,e2]at ho
  exact h.grow i hX ho hg hat
 have fresh:∀ {g p n k:Nat},v=.slice (some ⟨g,p,none⟩) n k->n=xs.length->k<n+1->(∀ j y,xs[j]?=some y->w.cell? ⟨g,p+j,none⟩=some (.int .i64 y)) →
   ∃ A' c' w' v0' xs0',(Builtin.append_ #[27,27] ty #[v,.slice (some ⟨b,o,none⟩) 1 c]).run Tryz.prog w=.ok (.slice A' (xs.length+1) c') w'/\TailQ (.slice A' (xs.length+1) c') v0' (xs++[x]) xs0'/\xs0'.length<=xs.length+1/\Owns lo w0 w' (L.set i (.ints v0' xs0')):=by
  intro g p n k e hn hk hc
  subst e hn
  obtain⟨v',w',hrun,ho,hg⟩:=run_append_arg_grows (P:=Tryz.prog) w 27 ty 3 i0 (.int .i64 0) 1 _ Tryz.underlying27 hi hz0 hz1 rfl rfl (by omega) ⟨g,p,none⟩ xs.length k (xs.map (Value.int .i64)) (by simp)
   (fun j u hu=>by
    rw[List.getElem?_map]at hu
    obtain⟨y,hy,rfl⟩:=Option.map_eq_some_iff.1 hu
    rw[Addr.add_lit]
    exact hc j y hy) ⟨b,o,none⟩ 1 c [.int .i64 x] rfl hnews hk (by unfold maxLen;omega) (by rw[hz2];omega)
  have e:xs.length+1=(xs++[x]).length:=by simp
  have e2:xs.map (Value.int .i64)++[.int .i64 x]=(xs++[x]).map (Value.int .i64):=by simp
  rw[e,e2]at ho
  have H:=h.row (grown_below hg) ho
  obtain⟨A',c',rfl,-⟩:=H.formI 0 rfl
  refine⟨A',c',w',.slice A' (xs++[x]).length c',xs++[x],by rw[hrun,<-e],.inl ⟨by rw[e],rfl⟩,by simp,H.pick (fun j=>if j=i then 0 else j+1) (fun j X hj=>?_) fun a b' _ _ hab=>?_⟩
  ·rw[List.getElem?_set]at hj
   have hil:=(List.getElem?_eq_some_iff.1 hX).1
   by_cases e3:i=j
   ·subst e3
    rw[if_pos rfl,if_pos hil]at hj
    rw[if_pos rfl]
    exact hj
   ·rw[if_neg e3]at hj
    rw[if_neg (fun e4=>e3 e4.symm)]
    simpa using hj
  ·split at hab <;> split at hab <;> omega
 rcases ht with⟨rfl,rfl⟩|⟨g,p,k,e,ho,hd,rfl⟩|⟨g,p,k,e,rfl,rfl⟩
 ·obtain⟨v',w',hrun,H⟩:=whole hX
  have hil:=(List.getElem?_eq_some_iff.1 hX).1
  obtain⟨A',c',rfl,-⟩:=H.formI i (by rw[List.getElem?_set_self hil])
  have e:(xs++[x]).length=xs.length+1:=by simp
  exact⟨A',c',w',.slice A' (xs++[x]).length c',xs++[x],by rw[hrun,e],.inl ⟨by rw[e],rfl⟩,by simp,H⟩
 ·obtain⟨-,k1,k2,k3,k4,k5⟩:=h.intRow i hX e
  have hl:xs.length=xs0.length - p:=by rw[hd,List.length_drop]
  by_cases hroom:xs0.length+1<=k
  ·obtain⟨v',w',hrun,H⟩:=whole hX
   rw[e]at hrun
   have r1:=run_append_room_cells (P:=Tryz.prog) w 27 ty 3 i0 Tryz.underlying27 hi g 0 xs0.length k ⟨b,o,none⟩ 1 c [.int .i64 x] (by rw[hz1];rfl) hnews h1 hroom (fun j hj=>k4 _ (by simp at hj;rw[hz1];omega)) fun j _=>k5 _
   rw[r1]at hrun
   injection hrun with e1 e2
   have r2:=run_append_room_cells (P:=Tryz.prog) w 27 ty 3 i0 Tryz.underlying27 hi g p xs.length (k - p) ⟨b,o,none⟩ 1 c [.int .i64 x] (by rw[hz1];rfl) hnews h1 (by omega) (fun j hj=>k4 _ (by simp at hj;rw[hz1];omega)) fun j _=>k5 _
   have e3:p+xs.length*i0.size=0+xs0.length*i0.size:=by rw[hz1];omega
   rw[e3,e2]at r2
   refine⟨_,_,w',v',xs0++[x],r2,.inr (.inl ⟨g,p,k,by rw[<-e1];simp,by simp;omega,?_,by simp⟩),by simp,H⟩
   rw[List.drop_append_of_le_length ho,<-hd]
  ·obtain⟨A',c',w',v0',xs0',q1,q2,q3,q4⟩:=fresh rfl rfl (by omega) fun j y hy=>k3 _ _ (by rw[hd,List.getElem?_drop]at hy;exact hy)
   exact⟨A',c',w',v0',xs0',q1,q2,by omega,q4⟩
 ·obtain⟨A',c',w',v0',xs0',q1,q2,q3,q4⟩:=fresh rfl rfl (by simp) fun j y hy=>by simp at hy
  exact⟨A',c',w',v0',xs0',q1,q2,by simp at q3;omega,q4⟩
theorem wp_pushQ {o:Oper}{a:Act}{K:Act->World->Prop}{Q:Exit->Act->World->Prop}(s x:Operand)
  (hop:o.op=.call { callee:=.builtin .append,args:=#[s,x],argTypes:=#[27,27] })
  (h:Owns lo w0 w L) (i:Nat) {v v0:Value} {xs xs0:List Int} (hX:L[i]?=some (.ints v0 xs0)) (ht:TailQ v v0 xs xs0) (hs:a.eval s=v) {b p c:Nat} {y:Int} (hx:a.eval x=.slice (some ⟨b,p,none⟩) 1 c) (hy:w.cell? ⟨b,p,none⟩=some (.int .i64 y)) (hb:xs.length+1<=1048576) (hb0:xs0.length+1<=1048576)
  (hK:∀ A' c' w' v0' xs0',TailQ (.slice A' (xs.length+1) c') v0' (xs++[y]) xs0'->xs0'.length<=xs0.length+1->Owns lo w0 w' (L.set i (.ints v0' xs0'))->K (a.put o.dst (.slice A' (xs.length+1) c')) w'):o.wp Tryz.prog a w K Q:=by
 obtain⟨A',c',w',v0',xs0',hrun,hT,hl,hO⟩:=run_pushQ h i hX ht (c:=c) hy hb hb0 o.type
 unfold Oper.wp execOp
 simp only[hop,resolve,invoke,builtin,Sem.run_bind,Sem.run_pure,Result.andThen_ok,List.map_toArray,List.map_cons,List.map_nil,hs,hx,hrun]
 exact hK A' c' w' v0' xs0' hT hl hO
theorem wpList_pushQ {ops:Array Oper}{rest:List Oper}{o:Oper}{a:Act}{Q:Exit->Act->World->Prop}(hgd:o.guard=none) (s x:Operand)
  (hop:o.op=.call { callee:=.builtin .append,args:=#[s,x],argTypes:=#[27,27] })
  (h:Owns lo w0 w L) (i:Nat) {v v0:Value} {xs xs0:List Int} (hX:L[i]?=some (.ints v0 xs0)) (ht:TailQ v v0 xs xs0) (hs:a.eval s=v) {b p c:Nat} {y:Int} (hx:a.eval x=.slice (some ⟨b,p,none⟩) 1 c) (hy:w.cell? ⟨b,p,none⟩=some (.int .i64 y)) (hb:xs.length+1<=1048576) (hb0:xs0.length+1<=1048576)
  (hK:∀ A' c' w' v0' xs0',TailQ (.slice A' (xs.length+1) c') v0' (xs++[y]) xs0'->xs0'.length<=xs0.length+1->Owns lo w0 w' (L.set i (.ints v0' xs0'))->wpList Tryz.prog ops Q rest (a.put o.dst (.slice A' (xs.length+1) c')) w'):wpList Tryz.prog ops Q (o::rest) a w:=
 wpList_plain hgd fun _ hK'=>wp_pushQ s x hop h i hX ht hs hx hy hb hb0 fun A' c' w' v0' xs0' h1 h2 h3=>hK' _ _ (hK A' c' w' v0' xs0' h1 h2 h3)
theorem Owns.cons {X:OB}(h:Owns lo w0 w L) (hX:X.holds lo w) (ha:∀ (j:Nat) (Y:OB),L[j]?=some Y->∀ q,X.blks q->¬ Y.blks q):Owns lo w0 w (X::L):=by
 refine⟨h.below,h.le,fun i Y hY=>?_,fun i j Y Z hij hY hZ k hk=>?_⟩
 ·cases i with
  | zero=>simp at hY;subst hY;exact hX
  | succ i=>exact h.holds i Y (by simpa using hY)
 ·cases i with
  | zero =>
   simp at hY;subst hY
   cases j with
   | zero=>exact absurd rfl hij
   | succ j=>exact ha j Z (by simpa using hZ) k hk
  | succ i =>
   cases j with
   | zero =>
    simp at hZ;subst hZ
    exact fun hz=>ha i Y (by simpa using hY) k hz hk
   | succ j=>exact h.apart i j Y Z (by omega) (by simpa using hY) (by simpa using hZ) k hk
theorem Owns.wipeOut {rvs:List Value}{cs:List Cel}{g n cap:Nat}(h:Owns lo w0 w L) (j:Nat) (hX:L[j]?=some (.cells (.slice (some ⟨g,0,none⟩) n cap) rvs cs)) (hn:n=cs.length) (i:Nat) {rv:Value}{l:Cel}(hrv:rvs[i]?=some rv) (hl:cs[i]?=some l):
  Owns lo w0 (((w.setCell ⟨g,i*3,none⟩ (.bool false)).setCell ⟨g,i*3+1,none⟩ (.int .i64 0)).setCell ⟨g,i*3+2,none⟩ (.slice none 0 0)) (.ints rv l.refs::L.set j (.cells (.slice (some ⟨g,0,none⟩) n cap) (rvs.set i (.slice none 0 0)) (cs.set i noCel))):=by
 have hi:=(List.getElem?_eq_some_iff.1 hl).1
 have hjl:=(List.getElem?_eq_some_iff.1 hX).1
 have ho:=h.owC j hX
 have hr:=ho.refs i rv l hrv hl
 have hne:∀ k,rv.ownBlock=some k->k≠g:=fun k hk e=>own_ne hr.own ho.own (by decide) hk (by rw[e];rfl)
 refine (h.wipe j hX hn i hi).cons ?_ fun a Y hY q hq=>?_
 ·refine OB.holds.keep (w:=w) (X:=.ints rv l.refs) hr.own (fun k hk=>?_) (by simp)
  have hk:=hne k hk
  rw[Below.heap_setCell _ _ _ k (by exact hk),Below.heap_setCell _ _ _ k (by exact hk),Below.heap_setCell _ _ _ k (by exact hk)]
 ·rw[List.getElem?_set]at hY
  by_cases e:j=a
  ·subst e
   rw[if_pos rfl,if_pos hjl]at hY
   injection hY with hY
   subst hY
   rintro (hb|⟨x,hx,hb⟩)
   ·simp only[Value.ownBlock,Option.some.injEq]at hb
    exact hne q hq hb.symm
   ·obtain⟨k,hk,e2⟩:=List.mem_iff_getElem.1 hx
    have hx2:(rvs.set i (.slice none 0 0))[k]?=some x:=by rw[List.getElem?_eq_getElem hk,e2]
    by_cases e3:i=k
    ·subst e3
     rw[List.getElem?_set_self (by rw[ho.same];exact hi)]at hx2
     injection hx2 with hx2
     subst hx2
     simp[Value.ownBlock]at hb
    ·rw[List.getElem?_set_ne e3]at hx2
     exact apart_ne (ho.apart i k rv x e3 hrv hx2) hq hb
  ·rw[if_neg e]at hY
   intro hy
   exact h.apart j a _ Y e hX hY q (.inr ⟨rv,List.mem_of_getElem? hrv,hq⟩) hy
end
end
def RdCt (w:World) (B:Nat) (v:Value) (h:Hp):Prop:=
 ∃ A n c A' n' c' E q f,v=.agg #[.slice A n c,.slice A' n' c',.slice E q f]/\RdC w B A n c h.cells/\RdI w B A' n' c' h.roots/\RdI w B E q f (mCounts h)
theorem RdCt.below {w w':World}{B:Nat}{v:Value}{h:Hp}(hh:RdCt w B v h) (hb:Below B w w'):RdCt w' B v h:=by
 obtain⟨A,n,c,A',n',c',E,q,f,rfl,h1,h2,h3⟩:=hh
 exact⟨_,_,_,_,_,_,_,_,_,rfl,h1.below hb,h2.below hb,h3.below hb⟩
theorem RdCt.top {w:World}{B:Nat}{v:Value}{h:Hp}(hh:RdCt w B v h):RdCt w w.heap.size v h:=by
 obtain⟨A,n,c,A',n',c',E,q,f,rfl,h1,h2,h3⟩:=hh
 exact⟨_,_,_,_,_,_,_,_,_,rfl,h1.top,h2.top,h3.top⟩
theorem Owns.rdCt {lo:Nat}{w0 w:World}{L:List OB}(h:Owns lo w0 w L) (i j k:Nat) {cv rv hv:Value}{rvs:List Value}{H:Hp}(hX:L[i]?=some (.cells cv rvs H.cells)) (hY:L[j]?=some (.ints rv H.roots)) (hZ:L[k]?=some (.ints hv (mCounts H))):RdCt w w.heap.size (.agg #[cv,rv,hv]) H:=by
 obtain⟨A,a,rfl,h1⟩:=h.formC i hX
 obtain⟨C,c,rfl,h2⟩:=h.formI j hY
 obtain⟨E,e,rfl,h3⟩:=h.formI k hZ
 exact⟨_,_,_,_,_,_,_,_,_,rfl,h1,h2,h3⟩
def MadeCt (w:World) (h:Hp) (e:Ending) (w':World):Prop:=∃ cv rvs rv nv,e=.returned (.agg #[cv,rv,nv])/\Owns w.heap.size w w' [.cells cv rvs h.cells,.ints rv h.roots,.ints nv (mCounts h)]
def MadeCtB (w:World) (h:Hp) (e:Ending) (w':World):Prop:=∃ cv rvs rv nv b,e=.returned (.tuple #[.agg #[cv,rv,nv],.bool b])/\Owns w.heap.size w w' [.cells cv rvs h.cells,.ints rv h.roots,.ints nv (mCounts h)]
set_option maxHeartbeats 1600000 in
set_option maxRecDepth 20000 in
theorem counted_any (w:World) (B:Nat) (D D':Option Addr) (m d m' d':Nat) (h:Hp) (hh:RdH w B (.agg #[.slice D m d,.slice D' m' d']) h) (hok:heapOk h=true):
  Calls Tryz.prog 144 #[.agg #[.slice D m d,.slice D' m' d']] w fun e w'=>∃ nv,e=.returned (.agg #[.slice D m d,.slice D' m' d',nv])/\OwI w' w.heap.size w'.heap.size nv (mCounts h)/\Below w.heap.size w w':=by
 have hh:=hh.top
 have HOk:=hid hok
 have H:=((Owns.nil w).box [.slice D m d,.slice D' m' d'] 29).box [.slice none 0 0,.slice none 0 0,.slice none 0 0] 60
 simp only[lnm]at H
 clear hok
 go_enter Tryz.func144,Tryz.ntmps144
 go_wp2_with fail
 have HX:=H.drew
 clear H
 obtain⟨a0,a1,-,-⟩:=HX.box2 1 rfl
 refine wp_region_tree (fun w'=>w'.cell? ⟨w.heap.size,0,none⟩=some (.slice D m d)/\w'.cell? ⟨w.heap.size,1,none⟩=some (.slice D' m' d')) 4 [] (.take 0 (.take 1 (.alt 2 (.take 3 (.alt 4 (.done) (.stop))) (.stop)))) (by kernel_rfl) (by kernel_rfl) (by kernel_rfl) (⟨a0,a1⟩) ?_
 simp only[fillT,lgz,Nat.reduceBEq]
 repeat first|(with_reducible apply po_take;(·(go_simp;done));(·(intro w' hS';(try dsimp only at hS');go_simp;try with_reducible rfl));simp only[lpa])|(with_reducible apply po_skip;(·(go_simp;done));simp only[lpa])
 with_reducible refine po_last ?_ (fun K hK=>?_)
 ·(go_simp;done)
 go_simp
 refine (refCounts_any _ _ _ h (hh.below HX.below) HOk.out).mono ?_
 rintro e w1 ⟨v1,rfl,ho,hb⟩
 replace HX:=HX.madeI ho hb
 obtain⟨V,kV,rfl,-⟩:=HX.formI 0 rfl
 refine hK.out _ _ (.inr (⟨keept a0 hb,keept a1 hb⟩)) ?_
 clear hK K
 repeat first|(with_reducible apply po_take;(·(go_simp;done));(·(intro w' hS';(try dsimp only at hS');go_simp;try with_reducible rfl));simp only[lpa])|(with_reducible apply po_skip;(·(go_simp;done));simp only[lpa])
 with_reducible refine po_last ?_ (fun K hK=>?_)
 ·(go_simp;done)
 obtain⟨y0,y1,y2,y3,y4,y5⟩:=HX.box3 1 rfl
 go_simp
 have HZ:=((HX.putBox 1 rfl 0 (.slice D m d)).putBox 1 rfl 1 (.slice D' m' d')).putBox 1 rfl 2 (.slice V (mCounts h).length kV)
 simp only[lnm]at HZ
 refine hK.out _ _ (.inl rfl) ?_
 clear hK K
 refine po_done ?_
 obtain⟨z0,z1,z2,-,-,-⟩:=HZ.box3 1 rfl
 have HI:=hid (HZ.owI 0 rfl)
 have HB:=hid HZ.below
 clear HZ HX ho hb a0 a1 y0 y1 y2 y3 y4 y5
 go_wp2
 exact bodyPost_ret (v:=.agg #[.slice D m d,.slice D' m' d',.slice V (mCounts h).length kV]) (by simp[results,Tryz.results144,go_sem,z0,z1,z2]) rfl ⟨_,rfl,HI.out,HB.out⟩
set_option maxHeartbeats 1600000 in
set_option maxRecDepth 20000 in
theorem copyCounted_any (w:World) (B:Nat) (v:Value) (h:Hp) (hh:RdCt w B v h) (hok:heapOk h=true):
  Calls Tryz.prog 149 #[v] w (MadeCt w h):=by
 obtain⟨D,m,d,D',m',d',E,q,f,rfl,hC,hR,hE⟩:=hh.top
 have HOk:=hid hok
 have hst:RdH w w.heap.size (.agg #[.slice D m d,.slice D' m' d']) h:=⟨_,_,_,_,_,_,rfl,hC,hR⟩
 have l1:=RdI.le1 hE
 obtain⟨s4,s5⟩:=heapOk_small hok
 replace s5:=Nat.le_of_eq s5
 have hN:=mCounts_len h
 have HN3:Hid (∀ c∈h.cells,c.refs.length<=1048576):=hid fun c hc=>by
  obtain⟨j,hj,rfl⟩:=List.mem_iff_getElem.1 hc
  have:=(refs3 hok (List.getElem?_eq_getElem hj)).1
  omega
 have hq:q<=1048576:=by omega
 have H:=((Owns.nil w).box [.slice D m d,.slice D' m' d',.slice E q f] 60).box [.slice none 0 0,.slice none 0 0,.slice none 0 0] 60
 simp only[lnm]at H
 clear hok hN
 go_enter Tryz.func149,Tryz.ntmps149
 go_wp2_with fail
 have HX:=H.drew
 clear H
 obtain⟨a0,a1,a2,-,-,-⟩:=HX.box3 1 rfl
 refine wp_region_tree (fun w'=>w'.cell? ⟨w.heap.size,0,none⟩=some (.slice D m d)/\w'.cell? ⟨w.heap.size,1,none⟩=some (.slice D' m' d')/\w'.cell? ⟨w.heap.size,2,none⟩=some (.slice E q f)) 7 [] (.take 0 (.take 1 (.take 3 (.take 4 (.alt 2 (.alt 5 (.take 6 (.alt 7 (.done) (.stop))) (.stop)) (.stop)))))) (by kernel_rfl) (by kernel_rfl) (by kernel_rfl) (⟨a0,a1,a2⟩) ?_
 simp only[fillT,lgz,Nat.reduceBEq]
 repeat first|(with_reducible apply po_take;(·(go_simp;done));(·(intro w' hS';(try dsimp only at hS');go_simp;try with_reducible rfl));simp only[lpa])|(with_reducible apply po_skip;(·(go_simp;done));simp only[lpa])
 with_reducible refine po_last ?_ (fun K hK=>?_)
 ·(go_simp;done)
 go_simp
 refine (copyHeap_any _ _ _ h (hst.below HX.below) (by omega) (by omega) HN3.out).mono ?_
 rintro e w1 ⟨v1,rfl,ho,hb⟩
 obtain⟨cv,rvs,rv,rfl,K⟩:=HX.madeH ho hb
 obtain⟨C,kC,rfl,-⟩:=K.formC 0 rfl
 obtain⟨R,kR,rfl,-⟩:=K.formI 1 rfl
 clear HX ho hb a0 a1 a2
 have HX:=K
 clear K
 obtain⟨a0,a1,a2,-,-,-⟩:=HX.box3 3 rfl
 refine hK.out _ _ (.inr (⟨a0,a1,a2⟩)) ?_
 clear hK K
 with_reducible refine po_last ?_ (fun K hK=>?_)
 ·(go_simp;done)
 go_simp
 refine (clone_any _ _ E q f (mCounts h) (hE.below HX.below) hq).mono ?_
 rintro e w2 ⟨hv,rfl,ho,hb⟩
 have K:=HX.madeI ho hb
 obtain⟨V,kV,rfl,-⟩:=K.formI 0 rfl
 clear HX ho hb a0 a1 a2
 have HX:=K
 clear K
 obtain⟨a0,a1,a2,-,-,-⟩:=HX.box3 4 rfl
 refine hK.out _ _ (.inr (⟨a0,a1,a2⟩)) ?_
 clear hK K
 repeat first|(with_reducible apply po_take;(·(go_simp;done));(·(intro w' hS';(try dsimp only at hS');go_simp;try with_reducible rfl));simp only[lpa])|(with_reducible apply po_skip;(·(go_simp;done));simp only[lpa])
 with_reducible refine po_last ?_ (fun K hK=>?_)
 ·(go_simp;done)
 obtain⟨y0,y1,y2,y3,y4,y5⟩:=HX.box3 3 rfl
 go_simp
 have HZ:=(((HX.putBox 3 rfl 0 (.slice C h.cells.length kC)).putBox 3 rfl 1 (.slice R h.roots.length kR)).putBox 3 rfl 2 (.slice V (mCounts h).length kV))
 simp only[lnm]at HZ
 clear HX a0 a1 a2
 refine hK.out _ _ (.inl rfl) ?_
 clear hK K
 refine po_done ?_
 obtain⟨z0,z1,z2,-,-,-⟩:=HZ.box3 3 rfl
 have HS:Hid (MadeCt w h (.returned (.agg #[.slice C h.cells.length kC,.slice R h.roots.length kR,.slice V (mCounts h).length kV])) _):=hid ⟨_,rvs,_,_,rfl,HZ.order [1,2,0] (by decide) rfl⟩
 clear HZ
 go_wp2
 exact bodyPost_ret (by simp[results,Tryz.results149,go_sem,z0,z1,z2]) rfl HS.out
set_option maxHeartbeats 1600000 in
set_option maxRecDepth 20000 in
theorem implCountedValid_yes (w:World) (B:Nat) (v:Value) (h:Hp) (hh:RdCt w B v h) (hok:heapOk h=true):
  Calls Tryz.prog 147 #[v] w fun e w'=>e=.returned (.bool true)/\Below w.heap.size w w':=by
 obtain⟨D,m,d,D',m',d',E,q,f,rfl,hC,hR,hE⟩:=hh.top
 have HOk:=hid hok
 have hst:RdH w w.heap.size (.agg #[.slice D m d,.slice D' m' d']) h:=⟨_,_,_,_,_,_,rfl,hC,hR⟩
 have H:=(Owns.nil w).box [.slice D m d,.slice D' m' d',.slice E q f] 60
 clear hok
 go_enter Tryz.func147,Tryz.ntmps147
 go_wp2_with fail
 have HX:=H.drew
 clear H
 obtain⟨a0,a1,a2,-,-,-⟩:=HX.box3 0 rfl
 refine wp_region_tree (fun w'=>w'.cell? ⟨w.heap.size,0,none⟩=some (.slice D m d)/\w'.cell? ⟨w.heap.size,1,none⟩=some (.slice D' m' d')/\w'.cell? ⟨w.heap.size,2,none⟩=some (.slice E q f)) 12 [] (.take 0 (.take 1 (.alt 2 (.take 3 (.take 4 (.take 5 (.take 6 (.take 7 (.alt 8 (.alt 9 (.take 10 (.take 11 (.done))) (.stop)) (.stop))))))) (.stop)))) (by kernel_rfl) (by kernel_rfl) (by kernel_rfl) (⟨a0,a1,a2⟩) ?_
 simp only[fillT,lgz,Nat.reduceBEq]
 repeat first|(with_reducible apply po_take;(·(go_simp;done));(·(intro w' hS';(try dsimp only at hS');go_simp;try with_reducible rfl));simp only[lpa])|(with_reducible apply po_skip;(·(go_simp;done));simp only[lpa])
 with_reducible refine po_last ?_ (fun K hK=>?_)
 ·(go_simp;done)
 go_simp
 refine (heapValid_any _ _ _ h (hst.below HX.below)).mono ?_
 rintro e w1 ⟨rfl,hb⟩
 rw[HOk.out]
 replace HX:=HX.call hb
 replace a0:=keept a0 hb
 replace a1:=keept a1 hb
 replace a2:=keept a2 hb
 clear hb
 refine hK.out _ _ (.inr (⟨a0,a1,a2⟩)) ?_
 clear hK K
 repeat first|(with_reducible apply po_take;(·(go_simp;done));(·(intro w' hS';(try dsimp only at hS');go_simp;try with_reducible rfl));simp only[lpa])|(with_reducible apply po_skip;(·(go_simp;done));simp only[lpa])
 with_reducible refine po_last ?_ (fun K hK=>?_)
 ·(go_simp;done)
 go_simp
 refine (refCounts_any _ _ _ h (hst.below HX.below) HOk.out).mono ?_
 rintro e w2 ⟨v2,rfl,ho,hb⟩
 replace HX:=HX.madeI ho hb
 obtain⟨V,kV,rfl,-⟩:=HX.formI 0 rfl
 replace a0:=keept a0 hb
 replace a1:=keept a1 hb
 replace a2:=keept a2 hb
 clear ho hb
 refine hK.out _ _ (.inr (⟨a0,a1,a2⟩)) ?_
 clear hK K
 with_reducible refine po_last ?_ (fun K hK=>?_)
 ·(go_simp;done)
 go_simp
 refine (same2_any _ _ _ _ _ _ _ _ _ (mCounts h) (mCounts h) (hE.below HX.below) (HX.owI 0 rfl).rdI).mono ?_
 rintro e w3 ⟨rfl,hb⟩
 rw[decide_eq_true (rfl:mCounts h=mCounts h)]
 replace HX:=HX.call hb
 replace a0:=keept a0 hb
 replace a1:=keept a1 hb
 replace a2:=keept a2 hb
 clear hb
 refine hK.out _ _ (.inr (⟨a0,a1,a2⟩)) ?_
 clear hK K
 repeat first|(with_reducible apply po_take;(·(go_simp;done));(·(intro w' hS';(try dsimp only at hS');go_simp;try with_reducible rfl));simp only[lpa])|(with_reducible apply po_skip;(·(go_simp;done));simp only[lpa])
 refine po_done ?_
 have HB:=HX.below
 clear HX a0 a1 a2
 go_wp2
 go_ret
 exact⟨rfl,HB⟩
def canB (h:Hp) (o:Cmd):Bool:=possB h o && !(decide (o.op=1) && decide (40<=mFree h))
theorem stepCt_can (h:Hp) (o:Cmd):stepCt h o=if canB h o then mUncount (mDo h o (mFree h)) else h:=rfl
set_option maxHeartbeats 1600000 in
set_option maxRecDepth 20000 in
theorem canStep_any (w:World) (B:Nat) (v:Value) (h:Hp) (hh:RdH w B v h) (o:Cmd) (g:Good h) (hc:cmdOk o=true):
  Calls Tryz.prog 148 #[v,cmdV o] w fun e w'=>e=.returned (.bool (canB h o))/\Below w.heap.size w w':=by
 have hh':=hh.top
 obtain⟨D,m,d,D',m',d',rfl,hC,hR⟩:=hh.top
 have HV:=hid (mPoss_yes (good_iff.2 g) hc)
 have s4:h.cells.length<=1048576:=by have:=(heapOk_small (good_iff.2 g)).1;omega
 clear g hc
 have H:=((Owns.nil w).box [.slice D m d,.slice D' m' d'] 29).box [.int .i64 o.op,.int .i64 o.a,.int .i64 o.b,.int .i64 o.c] 79
 simp only[lnm]at H
 obtain⟨a0,a1,-,-⟩:=H.box2 1 rfl
 obtain⟨b0,b1,b2,b3,-,-,-,-⟩:=box4 H 0 rfl
 go_enter Tryz.func148,Tryz.ntmps148
 go_wp2_with fail
 refine (implPossible_any _ _ _ h (hh'.below H.below) o).mono ?_
 rintro e w1 ⟨rfl,hb⟩
 rw[HV.out]
 replace H:=H.call hb
 clear hb a0 a1 b0 b1 b2 b3
 obtain⟨a0,a1,-,-⟩:=H.box2 1 rfl
 obtain⟨b0,b1,b2,b3,-,-,-,-⟩:=box4 H 0 rfl
 cases hp:possB h o
 ·have HF:Hid (canB h o=false):=hid (by simp[canB,hp])
  have HB:=H.below
  clear hp H
  go_wp2
  go_ret
  exact⟨ret_b (by rw[HF.out]),HB⟩
 by_cases h1:o.op=1
 ·have k1:(o.op == 1)=true:=by simp[h1]
  go_wp2_with fail
  refine (freePlace_any _ _ _ h (hh'.below H.below) s4).mono ?_
  rintro e w2 ⟨rfl,hb⟩
  have HB:=(H.call hb).below
  by_cases hf:mFree h<40
  ·have HF:Hid (canB h o=true):=hid (by simp[canB,hp];omega)
   clear hp H hb h1
   go_wp2
   go_ret
   exact⟨ret_b (by rw[HF.out];exact decide_eq_true (by omega)),HB⟩
  ·have HF:Hid (canB h o=false):=hid (by simp[canB,hp,h1];omega)
   clear hp H hb h1
   go_wp2
   go_ret
   exact⟨ret_b (by rw[HF.out];exact decide_eq_false (by omega)),HB⟩
 ·have k1:(o.op == 1)=false:=by simp[h1]
  have HF:Hid (canB h o=true):=hid (by simp[canB,hp,h1])
  have HB:=H.below
  have hU:undef=Value.tuple #[]:=rfl
  have k2:(o.op != 1)=true:=by simp[h1]
  clear hp H
  go_wp2
  go_ret
  exact⟨ret_b (by rw[HF.out]),HB⟩
theorem Owns.cell3 {lo:Nat}{w0 w:World}{L:List OB}{v:Value}{rvs:List Value}{cs:List Cel}{k:Nat}{l:Cel}(h:Owns lo w0 w L) (j:Nat) (hX:L[j]?=some (.cells v rvs cs)) (hc:Hid (cs[k]?=some l)):
  ∃ g cC x,v=.slice (some ⟨g,0,none⟩) cs.length cC/\(w.cell? ⟨g,k*3,none⟩=some (.bool l.used)/\w.cell? ⟨g,k*3+1,none⟩=some (.int .i64 l.data)/\w.cell? ⟨g,k*3+2,none⟩=some x)/\w.frozen? ⟨g,k*3,none⟩=false/\w.frozen? ⟨g,k*3+1,none⟩=false/\w.frozen? ⟨g,k*3+2,none⟩=false:=by
 have ho:=h.owC j hX
 have hk:=(List.getElem?_eq_some_iff.1 hc.out).1
 have hrv:rvs[k]?=some (rvs[k]'(by rw[ho.same];exact hk)):=List.getElem?_eq_getElem _
 obtain⟨v0,v1,v2⟩:=cellVals_at cs rvs k l _ hc.out hrv
 rcases ho.own.2 with⟨_,h0⟩|⟨g,cC,cur,rfl,_⟩
 ·omega
 ·exact⟨g,cC,_,rfl,⟨(ho.own.cellAt _ (by omega)).trans v0,(ho.own.cellAt _ (by omega)).trans v1,(ho.own.cellAt _ (by omega)).trans v2⟩,ho.own.frozenAt _,ho.own.frozenAt _,ho.own.frozenAt _⟩
def goneB (S:Nat) (cs:List Cel) (i:Nat):Bool:=S.testBit i && (cs.getD i noCel).used
def wipeTo (S:Nat) (cs:List Cel) (k:Nat):List Cel:=(List.range cs.length).map fun i=>if decide (i<k) && goneB S cs i then noCel else cs.getD i noCel
def cntTo (S:Nat) (cs:List Cel) (k:Nat):Nat:=((List.range k).filter (goneB S cs)).length
theorem wipeTo_len (S:Nat) (cs:List Cel) (k:Nat):(wipeTo S cs k).length=cs.length:=by simp[wipeTo]
theorem wipeTo_zero (S:Nat) (cs:List Cel):wipeTo S cs 0=cs:=by
 unfold wipeTo
 apply List.ext_getElem (by simp)
 intro i h1 h2
 simp[List.getD,h2]
theorem wipeTo_at {S:Nat}{cs:List Cel}{k:Nat}{l:Cel}(h:Hid (cs[k]?=some l)):(wipeTo S cs k)[k]?=some l:=by
 have hk:=(List.getElem?_eq_some_iff.1 h.out).1
 unfold wipeTo
 rw[List.getElem?_map,List.getElem?_range hk,Option.map_some]
 have:decide (k<k)=false:=by simp
 rw[this,Bool.false_and,if_neg Bool.false_ne_true,getD_of h]
theorem wipeTo_no {S:Nat}{cs:List Cel}{k:Nat}(h:goneB S cs k=false):wipeTo S cs (k+1)=wipeTo S cs k:=by
 unfold wipeTo
 apply List.map_congr_left
 intro i _
 by_cases e:i=k
 ·subst e;rw[h];simp
 ·have:decide (i<k+1)=decide (i<k):=by simp;omega
  rw[this]
theorem wipeTo_yes {S:Nat}{cs:List Cel}{k:Nat}(h:goneB S cs k=true):wipeTo S cs (k+1)=(wipeTo S cs k).set k noCel:=by
 unfold wipeTo
 apply List.ext_getElem (by simp)
 intro i h1 h2
 simp only[List.getElem_set,List.getElem_map,List.getElem_range]
 by_cases e:k=i
 ·subst e;rw[if_pos rfl,h];simp
 ·rw[if_neg e]
  have:decide (i<k+1)=decide (i<k):=by simp;omega
  rw[this]
theorem cntTo_no {S:Nat}{cs:List Cel}{k:Nat}(h:goneB S cs k=false):cntTo S cs (k+1)=cntTo S cs k:=by
 unfold cntTo;rw[List.range_succ,List.filter_append,List.filter_cons,List.filter_nil,h];simp
theorem cntTo_yes {S:Nat}{cs:List Cel}{k:Nat}(h:goneB S cs k=true):cntTo S cs (k+1)=cntTo S cs k+1:=by
 unfold cntTo;rw[List.range_succ,List.filter_append,List.filter_cons,List.filter_nil,h];simp
theorem cntTo_le (S:Nat) (cs:List Cel) (k:Nat):cntTo S cs k<=k:=by
 unfold cntTo;exact Nat.le_trans (List.length_filter_le _ _) (by simp)
theorem goneB_at {S:Nat}{cs:List Cel}{k:Nat}{l:Cel}(h:Hid (cs[k]?=some l)):goneB S cs k=(S.testBit k && l.used):=by unfold goneB;rw[getD_of h]
set_option maxHeartbeats 1600000 in
theorem freeCells_own {lo:Nat}{w0 w:World}{M:List OB}{g:Nat}{cv rv:Value}{tt:TypeId}{rvs:List Value}{cs:List Cel}{S:Nat}(h:Owns lo w0 w (.box g [cv,rv] tt::.cells cv rvs cs::M)) (hS:S<2 ^ 64) (hn:cs.length<=1048576):
  Calls Tryz.prog 161 #[.pointer (some ⟨g,0,none⟩),.int .u64 S] w fun e w'=>e=.returned (.int .i64 (cntTo S cs cs.length:Nat))/\∃ rvs',Owns lo w0 w' (.box g [cv,rv] tt::.cells cv rvs' (wipeTo S cs cs.length)::M):=by
 obtain⟨C,kC,rfl,-⟩:=h.formC 1 rfl
 obtain⟨x0,x1,-,-⟩:=h.box2 0 rfl
 have HM:=hid hS
 clear hS
 go_enter Tryz.func161,Tryz.ntmps161
 go_wp2_with fail
 go_loopw [5,12] (fun v5 i wr=>∃ (k:Nat) (rvs':List Value),i=.int .i64 k/\k<=cs.length/\v5=.int .i64 (cntTo S cs k:Nat)/\Owns lo w0 wr (.box g [.slice C cs.length kC,rv] tt::.cells (.slice C cs.length kC) rvs' (wipeTo S cs k)::M)) (fun _ i _=>cs.length - (intOf i).toNat)
 case atStart=>exact⟨0,rvs,rfl,Nat.zero_le _,rfl,by rw[wipeTo_zero];exact h⟩
 case round =>
  clear h x0 x1
  obtain⟨k,rvs',rfl,hk,rfl,H⟩:=hrel
  obtain⟨x0,x1,-,-⟩:=H.box2 0 rfl
  have hc:=cntTo_le S cs k
  by_cases hlt:k<cs.length
  ·obtain⟨l,hl⟩:∃ l,Hid (cs[k]?=some l):=⟨_,hid (List.getElem?_eq_getElem hlt)⟩
   obtain⟨gC,cC,x,e7,⟨y0,y1,y2⟩,z0,z1,z2⟩:=H.cell3 1 rfl (hid (wipeTo_at (S:=S) hl))
   simp only[Value.slice.injEq]at e7
   obtain⟨rfl,-,rfl⟩:=e7
   have HB:=hid (hasB_nat S k)
   have hg:=goneB_at (S:=S) hl
   cases hb:S.testBit k
   ·rw[hb,Bool.false_and]at hg
    have H1:=hid (wipeTo_no hg)
    have H2:=hid (cntTo_no hg)
    have HV:=hid (HB.out.trans hb)
    clear hg hb HB
    go_wp2_with fail
    refine (has_any _ (k:Int) _ HM.out).mono ?_
    rintro e w5 ⟨rfl,hw5⟩
    obtain rfl:=hw5
    rw[HV.out]
    go_wp2
    go_roundw
    case rel=>exact⟨k+1,_,by go_num,by omega,by rw[H2.out],by rw[H1.out];exact H⟩
    case measure=>simp[intOf];omega
   ·have HV:=hid (HB.out.trans hb)
    rw[hb,Bool.true_and]at hg
    cases hu:l.used
    ·rw[hu]at y0 hg
     have H1:=hid (wipeTo_no hg)
     have H2:=hid (cntTo_no hg)
     clear hg hb HB hu
     go_wp2_with fail
     refine (has_any _ (k:Int) _ HM.out).mono ?_
     rintro e w5 ⟨rfl,hw5⟩
     obtain rfl:=hw5
     rw[HV.out]
     go_wp2
     go_roundw
     case rel=>exact⟨k+1,_,by go_num,by omega,by rw[H2.out],by rw[H1.out];exact H⟩
     case measure=>simp[intOf];omega
    ·rw[hu]at y0 hg
     have H1:=hid (wipeTo_yes hg)
     have H2:=hid (cntTo_yes hg)
     have H7:=H.wipe 1 rfl (by rw[wipeTo_len]) k (by rw[wipeTo_len];exact hlt)
     rw[<-H1.out]at H7
     clear hg hb HB hu
     go_wp2_with fail
     refine (has_any _ (k:Int) _ HM.out).mono ?_
     rintro e w5 ⟨rfl,hw5⟩
     obtain rfl:=hw5
     rw[HV.out]
     go_wp2
     go_roundw
     case rel=>exact⟨k+1,_,by go_num,by omega,by rw[H2.out];go_num,H7⟩
     case measure=>simp[intOf];omega
  ·obtain rfl:k=cs.length:=by omega
   have HO:Hid (∃ rvs',Owns lo w0 wr (.box g [.slice C cs.length kC,rv] tt::.cells (.slice C cs.length kC) rvs' (wipeTo S cs cs.length)::M)):=hid ⟨rvs',H⟩
   clear H
   go_wp2
   go_ret
   exact⟨rfl,HO.out⟩
theorem cnt_less {m q:Nat}{xs:List Int}:((cnts m ((q:Int)::xs)).map (Value.int .i64)).set q (.int .i64 ((xs.count (q:Int):Nat):Int))=(cnts m xs).map (Value.int .i64):=by
 rw[<-cnts_cons (n:=m) (xs:=xs) (q:=q),List.map_set]
theorem cnt_more {m q:Nat}(xs:List Int) (h:q<m):((cnts m ((q:Int)::xs)).map (Value.int .i64))[q]?=some (.int .i64 (((xs.count (q:Int):Nat):Int)+1)):=by
 rw[cnt_at _ h,count_cons_same];simp
theorem drop_next {l:List Int}{j:Nat}{x:Int}(h:Hid (l[j]?=some x)):l.drop j=x::l.drop (j+1):=by
 obtain⟨hj,e⟩:=List.getElem?_eq_some_iff.1 h.out
 rw[List.drop_eq_getElem_cons hj,e]
theorem fre_refs {h X:Hp}(h0:heapOk h=true) (f:Fre h X) {k:Nat}{l:Cel}(hl:X.cells[k]?=some l):l.refs.length<=3:=by
 have hk:=(List.getElem?_eq_some_iff.1 hl).1
 rcases f.at_ k (by rw[<-f.len];exact hk) with e|⟨e,-⟩
 ·exact (refs3 h0 (e ▸ hl)).1
 ·rw[hl]at e
  injection e with e
  rw[e];simp[noCel]
theorem fre_all {h X:Hp}(h0:heapOk h=true) (f:Fre h X):(allRefs X).length<=200:=by
 obtain⟨s4,s5⟩:=heapOk_small h0
 have:∀ cs:List Cel,(∀ c∈cs,c.refs.length<=3)->(cs.flatMap (·.refs)).length<=3*cs.length:=by
  intro cs
  induction cs with
  | nil=>intro _;simp
  | cons c cs ih =>
   intro hc
   have h1:=ih fun x hx=>hc x (List.mem_cons_of_mem _ hx)
   have h2:=hc c (by simp)
   simp only[List.flatMap_cons,List.length_append,List.length_cons];omega
 have h3:=this X.cells fun c hc=>by
  obtain⟨j,hj,rfl⟩:=List.mem_iff_getElem.1 hc
  exact fre_refs h0 f (List.getElem?_eq_getElem hj)
 have h4:=f.len
 have h5:=congrArg List.length f.roots
 unfold allRefs
 rw[List.length_append];omega
set_option maxHeartbeats 6400000 in
set_option maxRecDepth 20000 in
theorem freeUncounted_any {lo:Nat}{w0 w:World}{L:List OB}{cv rv:Value}{rvs:List Value}{h:Hp}(H:Owns lo w0 w (.cells cv rvs h.cells::.ints rv h.roots::L)) (hok:heapOk h=true):
  Calls Tryz.prog 150 #[.agg #[cv,rv]] w fun e w'=>∃ rvs' nv,e=.returned (.agg #[cv,rv,nv])/\Owns lo w0 w' (.cells cv rvs' (mUncount h).cells::.ints rv (mUncount h).roots::.ints nv (mCounts (mUncount h))::L):=by
 have hlw:=H.le
 obtain⟨C,kC,rfl,-⟩:=H.formC 0 rfl
 obtain⟨R,kR,rfl,-⟩:=H.formI 1 rfl
 obtain⟨s4,s5⟩:=heapOk_small hok
 replace s5:=Nat.le_of_eq s5
 have HOk:=hid hok
 have HLd:=hid (lead_start hok)
 have H1:=(H.box [.slice C h.cells.length kC,.slice R h.roots.length kR] 29).box [.slice none 0 0,.slice none 0 0,.slice none 0 0] 60
 simp only[World.size_alloc]at H1
 obtain⟨a0,a1,-,-⟩:=H1.box2 1 rfl
 clear H hok
 go_enter Tryz.func150,Tryz.ntmps150
 go_wp2_with fail
 refine (counted_any _ _ _ _ _ _ _ _ h (H1.rdH 2 3 rfl rfl) HOk.out).mono ?_
 rintro e w1 ⟨nv,rfl,ho,hb⟩
 have H2:=H1.madeI ho hb
 have hw1:=hb.size
 simp only[World.size_alloc]at hw1
 obtain⟨N,hN⟩:∃ N,N=mCounts h:=⟨_,rfl⟩
 rw[<-hN]at H2
 have HN:=hid hN
 have hNl:N.length<=h.cells.length:=by rw[hN,mCounts_len];exact Nat.le_refl _
 have hNm:h.cells.length<=N.length:=by rw[hN,mCounts_len];exact Nat.le_refl _
 clear hN H1 ho hb a0 a1
 obtain⟨V,kV,rfl,-⟩:=H2.formI 0 rfl
 have H3:=(H2.box [.slice C h.cells.length kC,.slice R h.roots.length kR,.slice V N.length kV] 60).litI [] zero_le_maxLen
 simp only[World.size_alloc,List.length_nil,List.map_nil]at H3
 have H4:Owns lo w0 _ (.ints (.slice (some ⟨w1.heap.size+1,0,none⟩) 0 0) (qu0 h 0)::.box w1.heap.size [.slice C h.cells.length kC,.slice R h.roots.length kR,.slice V N.length kV] 60::.ints (.slice V N.length kV) N::.box (w.heap.size+1) [.slice none 0 0,.slice none 0 0,.slice none 0 0] 60::.box w.heap.size [.slice C h.cells.length kC,.slice R h.roots.length kR] 29::.cells (.slice C h.cells.length kC) rvs h.cells::.ints (.slice R h.roots.length kR) h.roots::L):=H3
 obtain⟨c0,c1,c2,-,-,-⟩:=H4.box3 1 rfl
 clear H2 H3
 go_wp2_with fail
 clear c0 c1 c2
 go_loopw [4,16] (fun v4 i wr=>∃ k:Nat,i=.int .i64 k/\k<=N.length/\Owns lo w0 wr (.ints v4 (qu0 h k)::.box w1.heap.size [.slice C h.cells.length kC,.slice R h.roots.length kR,.slice V N.length kV] 60::.ints (.slice V N.length kV) N::.box (w.heap.size+1) [.slice none 0 0,.slice none 0 0,.slice none 0 0] 60::.box w.heap.size [.slice C h.cells.length kC,.slice R h.roots.length kR] 29::.cells (.slice C h.cells.length kC) rvs h.cells::.ints (.slice R h.roots.length kR) h.roots::L)) (fun _ i _=>N.length - (intOf i).toNat)
 case atStart=>exact⟨0,rfl,Nat.zero_le _,H4⟩
 case round =>
  clear H4
  obtain⟨k,rfl,hk,H⟩:=hrel
  have hql:=qu0_len h k
  by_cases hlt:k<N.length
  ·obtain⟨x,hx⟩:∃ x,Hid (N[k]?=some x):=⟨_,hid (List.getElem?_eq_getElem hlt)⟩
   have HZ:Hid (x=0 ↔ (k:Int) ∉ allRefs h):=hid (mCounts_zero (by rw[<-HN.out];exact hx.out))
   have HS:=qu0_succ h k
   obtain⟨l,hl⟩:∃ l,Hid (h.cells[k]?=some l):=⟨_,hid (List.getElem?_eq_getElem (by omega))⟩
   have hu:=usedN_at hl
   rw[hu]at HS
   obtain⟨Q,hQ⟩:∃ Q,Q=qu0 h k:=⟨_,rfl⟩
   rw[<-hQ]at H HS hql
   obtain⟨A4,c4,rfl,-⟩:=H.formI 0 rfl
   obtain⟨b,ob,rfl,hbb,y0⟩:=((H.owI 2 rfl).rdI).rd (by omega)
   have y1:=y0 k (.int .i64 x) (by rw[List.getElem?_map,hx.out];rfl)
   obtain⟨gC,cC,A2,c2,e,-,z0,z1,z2,-⟩:=H.cellW 5 rfl hl
   simp only[Value.slice.injEq]at e
   obtain⟨rfl,-,rfl⟩:=e
   obtain⟨a0,a1,-,-⟩:=H.box2 4 rfl
   clear hu hQ y0
   by_cases x0:x=0
   ·have k1:(x == 0)=true:=by simp[x0]
    have hm:=HZ.out.1 x0
    rw[decide_eq_false hm]at HS
    cases hlu:l.used
    ·rw[hlu]at z0 HS
     have HT:Hid (qu0 h (k+1)=Q):=hid (by simpa using HS)
     clear HS hm x0 hlu
     go_wp2
     go_roundw
     case rel=>exact⟨k+1,by go_num,by omega,by rw[HT.out];exact H⟩
     case measure=>simp[intOf];omega
    ·rw[hlu]at z0 HS
     have HT:Hid (qu0 h (k+1)=Q++[(k:Int)]):=hid (by simpa using HS)
     have H5:=H.litI [(k:Int)] one_le_maxLen
     simp only[lml]at H5
     clear HS hm x0 hlu H
     go_wp2_with (at_builtin;go_loud (refine wpList_pushO rfl (.tmp 31) (.tmp 33) rfl H5 1 rfl rfl rfl (rdI_new _ _ _ rfl) (by omega) ?_;intro A3 k3 w5 H6;simp only[lsz]at H6;generalize hM:Q++[(k:Int)]=M at *))
     have H7:=H6.erase 0
     simp only[List.eraseIdx_cons_zero]at H7
     clear H5 H6
     go_roundw
     case rel=>exact⟨k+1,by go_num,by omega,by rw[HT.out];exact H7⟩
     case measure=>simp[intOf];omega
   ·have k1:(x == 0)=false:=by simp[x0]
    have hm:(k:Int)∈allRefs h:=Classical.byContradiction fun hn=>x0 (HZ.out.2 hn)
    rw[decide_eq_true hm]at HS
    have HT:Hid (qu0 h (k+1)=Q):=hid (by simpa using HS)
    clear HS hm x0
    go_wp2
    go_roundw
    case rel=>exact⟨k+1,by go_num,by omega,by rw[HT.out];exact H⟩
    case measure=>simp[intOf];omega
  ·have HQ:=hid (qu0_ok h)
   rw[show k=h.cells.length by omega]at H hql
   have hNe:N.length=h.cells.length:=by omega
   have e3:OB.ints (.slice V h.cells.length kV) N=OB.rowN (.slice V h.cells.length kV) h.cells.length (cnts h.cells.length (allRefs h)):=by
    show OB.row _ _ _ N.length _=_
    rw[hNe,HN.out];rfl
   rw[hNe,e3]at H
   obtain⟨A4,c4,rfl,-⟩:=H.formI 0 rfl
   have huc:=usedC_le h.cells
   clear hNe e3 hNl hNm
   go_wp2_with fail
   clear hlt hk
   go_loopg [4] (usedC h.cells) (fun gk v4 wr=>∃ (X:Hp) (Q Q0:List Int) (v0:Value) (rvs:List Value),gk=usedC X.cells/\Hid (Fre h X)/\Hid (LeadX X.cells (allRefs X))/\Hid (QuOk X.cells (allRefs X) Q)/\Hid (TailQ v4 v0 Q Q0)/\Q0.length+3*usedC X.cells<=160/\Owns lo w0 wr (.ints v0 Q0::.box w1.heap.size [.slice C h.cells.length kC,.slice R h.roots.length kR,.slice V h.cells.length kV] 60::.rowN (.slice V h.cells.length kV) h.cells.length (cnts h.cells.length (allRefs X))::.box (w.heap.size+1) [.slice none 0 0,.slice none 0 0,.slice none 0 0] 60::.box w.heap.size [.slice C h.cells.length kC,.slice R h.roots.length kR] 29::.cells (.slice C h.cells.length kC) rvs X.cells::.ints (.slice R h.roots.length kR) X.roots::L))
   case atStart=>exact⟨h,_,_,_,rvs,rfl,hid (Fre.start h),HLd,HQ,hid (.inl ⟨rfl,rfl⟩),by omega,H⟩
   case round =>
    clear H HQ hql huc
    obtain⟨X,Q,Q0,v0,rvs,rfl,HF,HLX,HQ,HT,hb0,H⟩:=hrel
    cases Q with
    | nil =>
     have HE:Hid (X=mUncount h):=hid (fre_end HOk.out HF.out HQ.out)
     obtain⟨A,cq,rfl⟩:=H.rdQ 0 rfl HT.out
     obtain⟨c0,c1,c2,-,-,-⟩:=H.box3 1 rfl
     obtain⟨y0,y1,y2,y3,y4,y5⟩:=H.box3 3 rfl
     have HZ:=((H.putBox 3 rfl 0 (.slice C h.cells.length kC)).putBox 3 rfl 1 (.slice R h.roots.length kR)).putBox 3 rfl 2 (.slice V h.cells.length kV)
     simp only[lsz]at HZ
     obtain⟨z0,z1,z2,-,-,-⟩:=HZ.box3 3 rfl
     have HW:=HZ.pick (fun j=>if j=0 then 5 else if j=1 then 6 else if j=2 then 2 else j+4) (L':=.cells (.slice C h.cells.length kC) rvs X.cells::.ints (.slice R h.roots.length kR) X.roots::.rowN (.slice V h.cells.length kV) h.cells.length (cnts h.cells.length (allRefs X))::L) (fun i Y hY=>by
      rcases i with _|_|_|i
      ·simpa using hY
      ·simpa using hY
      ·simpa using hY
      ·simpa using hY) (fun i j _ _ e=>by split at e <;> split at e <;> (try split at e) <;> (try split at e) <;> (try split at e) <;> (try split at e) <;> omega)
     have hl:=HF.out.len
     have e3:OB.rowN (.slice V h.cells.length kV) h.cells.length (cnts h.cells.length (allRefs X))=OB.ints (.slice V h.cells.length kV) (mCounts X):=by
      show _=OB.row _ _ _ (mCounts X).length _
      rw[mCounts_len,hl]
      unfold mCounts
      rw[hl]
     rw[e3,HE.out]at HW
     have HO:=hid HW
     clear HW HZ H hl e3 hb0
     go_wp2
     exact bodyPost_ret (v:=.agg #[.slice C h.cells.length kC,.slice R h.roots.length kR,.slice V h.cells.length kV]) (by simp[results,Tryz.results150,go_sem,z0,z1,z2]) rfl ⟨rvs,_,rfl,HO.out⟩
    | cons q Q' =>
     obtain⟨q0,qu,qn⟩:=(HQ.out.mem q).1 (by simp)
     obtain⟨q,rfl⟩:=Int.eq_ofNat_of_zero_le q0
     simp only[Int.toNat_natCast]at qu
     have hXl:=HF.out.len
     have hqn:q<h.cells.length:=by have:=usedN_lt qu;omega
     obtain⟨l,hl⟩:∃ l,Hid (X.cells[q]?=some l):=⟨_,hid (List.getElem?_eq_getElem (by omega))⟩
     obtain⟨b,o,cq,rfl,hc1,hc2,y0,T1,T2⟩:=H.headQ 0 rfl HT.out
     obtain⟨gC,cC,A2,c2,e,hrv,z0,z1,z2,f0,f1,f2,-⟩:=H.cellW 5 rfl hl
     simp only[Value.slice.injEq]at e
     obtain⟨rfl,-,rfl⟩:=e
     obtain⟨c0,c1,c3,-,-,-⟩:=H.box3 1 rfl
     obtain⟨X',hX'⟩:∃ X':Hp,X'=⟨X.cells.set q noCel,X.roots⟩:=⟨_,rfl⟩
     have HF':Hid (Fre h X'):=hid (by rw[hX'];exact fre_free HF.out qn)
     have HLX':Hid (LeadX X'.cells (l.refs++allRefs X')):=hid (by rw[hX'];exact lead_freed hl.out qn HLX.out)
     have HQ':Hid (QuOk X'.cells (l.refs++allRefs X') Q'):=hid (by rw[hX'];simpa using HQ.out.pop (by simpa using hl.out))
     have hus:usedC X'.cells+1=usedC X.cells:=by rw[hX'];exact usedC_set X.cells q qu
     have HC':Hid (cnts h.cells.length (allRefs X)=cnts h.cells.length (l.refs++allRefs X')):=hid (by rw[hX'];exact cnts_perm (refs_freed hl.out))
     have HXc:Hid (X.cells.set q noCel=X'.cells/\X.roots=X'.roots):=hid (by rw[hX'];exact⟨rfl,rfl⟩)
     clear hX'
     rw[HC'.out]at H
     have r3:=fre_refs HOk.out HF.out hl.out
     have i3:(0:Int)<=(q:Int):=by omega
     have i4:(q:Int)<(h.cells.length:Int):=by omega
     have i5:(0:Int)<((Q'.length+1:Nat):Int):=by omega
     have HLn:=hid hXl
     clear qu qn q0 HF HLX HQ HT hXl
     go_wp2_with fail
     have HX:=H.drew
     clear H
     have x0:wr.drew.cell? ⟨w1.heap.size,0,none⟩=some (.slice (some ⟨gC,0,none⟩) h.cells.length kC):=c0
     have x1:wr.drew.cell? ⟨b,o,none⟩=some (.int .i64 (q:Int)):=y0
     have x2:wr.drew.cell? ⟨gC,q*3+2,none⟩=some (.slice A2 l.refs.length c2):=z2
     clear c0 c1 c3 y0
     refine wp_region_tree (fun w'=>w'.cell? ⟨w1.heap.size,0,none⟩=some (.slice (some ⟨gC,0,none⟩) h.cells.length kC)/\w'.cell? ⟨b,o,none⟩=some (.int .i64 (q:Int))/\w'.cell? ⟨gC,q*3+2,none⟩=some (.slice A2 l.refs.length c2)) 10 [] (.take 0 (.take 1 (.take 2 (.take 3 (.take 4 (.take 5 (.take 6 (.take 7 (.take 8 (.take 9 (.done))))))))))) (by kernel_rfl) (by kernel_rfl) (by kernel_rfl) (⟨x0,x1,x2⟩) ?_
     simp only[fillT,lgz,Nat.reduceBEq]
     repeat first|(with_reducible apply po_take;(·(go_simp;done));(·(intro w' hS';(try dsimp only at hS');go_simp;try with_reducible rfl));simp only[lpa])|(with_reducible apply po_skip;(·(go_simp;done));simp only[lpa])
     refine po_done ?_
     go_wp2_with fail
     have HX2:=HX.drew
     have y0:wr.drew.drew.cell? ⟨w1.heap.size,0,none⟩=some (.slice (some ⟨gC,0,none⟩) h.cells.length kC):=x0
     have y1:wr.drew.drew.cell? ⟨b,o,none⟩=some (.int .i64 (q:Int)):=x1
     have v0:wr.drew.drew.cell? ⟨gC,q*3,none⟩=some (.bool l.used):=z0
     have v1:wr.drew.drew.cell? ⟨gC,q*3+1,none⟩=some (.int .i64 l.data):=z1
     have v2:wr.drew.drew.cell? ⟨gC,q*3+2,none⟩=some (.slice A2 l.refs.length c2):=z2
     have k0:wr.drew.drew.frozen? ⟨gC,q*3,none⟩=false:=f0
     have k1:wr.drew.drew.frozen? ⟨gC,q*3+1,none⟩=false:=f1
     have k2:wr.drew.drew.frozen? ⟨gC,q*3+2,none⟩=false:=f2
     have HW:=HX2.wipeOut 5 rfl (by rw[HLn.out]) q hrv.out hl.out
     refine wp_region_tree (fun w'=>w'.cell? ⟨w1.heap.size,0,none⟩=some (.slice (some ⟨gC,0,none⟩) h.cells.length kC)/\w'.cell? ⟨b,o,none⟩=some (.int .i64 (q:Int))) 8 [] (.take 0 (.take 1 (.take 2 (.take 3 (.take 4 (.take 5 (.take 6 (.take 7 (.alt 8 (.done) (.stop)))))))))) (by kernel_rfl) (by kernel_rfl) (by kernel_rfl) (⟨y0,y1⟩) ?_
     simp only[fillT,lgz,Nat.reduceBEq]
     repeat first|(with_reducible apply po_take;(·(go_simp;done));(·(intro w' hS';(try dsimp only at hS');go_simp;try with_reducible rfl));simp only[lpa])|(with_reducible apply po_skip;(·(go_simp;done));simp only[lpa])
     with_reducible refine po_last ?_ (fun K hK=>?_)
     ·(go_simp;done)
     go_simp
     refine hK.out _ _ (.inl rfl) ?_
     clear hK K
     refine po_done ?_
     simp only[lsz]at HW
     rw[HXc.out.1,HXc.out.2]at HW
     generalize rvs.set q (.slice none 0 0)=rvs' at HW
     clear HX HX2 x0 x1 x2 y0 y1 v0 v1 v2 k0 k1 k2 z0 z1 z2 f0 f1 f2 hrv hl HXc HC'
     go_upto_region 12 with fail
     go_cut [4] (fun v4 wx=>Hid (TailQ v4 v0 Q' Q0)/\Owns lo w0 wx (.ints (.slice A2 l.refs.length c2) l.refs::.ints v0 Q0::.box w1.heap.size [.slice (some ⟨gC,0,none⟩) h.cells.length kC,.slice R h.roots.length kR,.slice V h.cells.length kV] 60::.rowN (.slice V h.cells.length kV) h.cells.length (cnts h.cells.length (l.refs++allRefs X'))::.box (w.heap.size+1) [.slice none 0 0,.slice none 0 0,.slice none 0 0] 60::.box w.heap.size [.slice (some ⟨gC,0,none⟩) h.cells.length kC,.slice R h.roots.length kR] 29::.cells (.slice (some ⟨gC,0,none⟩) h.cells.length kC) rvs' X'.cells::.ints (.slice R h.roots.length kR) X'.roots::L))
     case first =>
      by_cases hq1:cq=1
      ·have HTT:=hid (T2 hq1)
       subst hq1
       obtain rfl:Q'=[]:=List.eq_nil_of_length_eq_zero (by omega)
       simp only[List.length_nil,Nat.zero_add]
       clear T1 T2
       go_wp2_with fail
       go_meet
       exact⟨HTT,HW⟩
      ·have HTT:=hid (T1 hq1)
       have u2:(1:Int)<=(cq:Int):=by omega
       have u3:((1:Int)).toNat=1:=rfl
       clear T1 T2
       go_wp2_with fail
       go_meet
       exact⟨HTT,HW⟩
     case rest =>
      obtain⟨HT,H⟩:=hcut
      clear T1 T2 HW
      obtain⟨A4,c4,rfl⟩:=H.rdQ 1 rfl HT.out
      have HQ2:Hid (QuOk X'.cells (l.refs.drop 0++allRefs X') Q'):=hid (by rw[List.drop_zero];exact HQ'.out)
      have H0:Owns lo w0 wc (.ints (.slice A2 l.refs.length c2) l.refs::.ints v0 Q0::.box w1.heap.size [.slice (some ⟨gC,0,none⟩) h.cells.length kC,.slice R h.roots.length kR,.slice V h.cells.length kV] 60::.rowN (.slice V h.cells.length kV) h.cells.length (cnts h.cells.length (l.refs.drop 0++allRefs X'))::.box (w.heap.size+1) [.slice none 0 0,.slice none 0 0,.slice none 0 0] 60::.box w.heap.size [.slice (some ⟨gC,0,none⟩) h.cells.length kC,.slice R h.roots.length kR] 29::.cells (.slice (some ⟨gC,0,none⟩) h.cells.length kC) rvs' X'.cells::.ints (.slice R h.roots.length kR) X'.roots::L):=by rw[List.drop_zero];exact H
      clear H
      go_wp2_with fail
      go_loopw [4,60] (fun v4 i ws=>∃ (j:Nat) (Q Q0:List Int) (v0:Value),i=.int .i64 j/\j<=l.refs.length/\Hid (QuOk X'.cells (l.refs.drop j++allRefs X') Q)/\Hid (TailQ v4 v0 Q Q0)/\Q0.length+3*usedC X'.cells+3<=160+j/\Owns lo w0 ws (.ints (.slice A2 l.refs.length c2) l.refs::.ints v0 Q0::.box w1.heap.size [.slice (some ⟨gC,0,none⟩) h.cells.length kC,.slice R h.roots.length kR,.slice V h.cells.length kV] 60::.rowN (.slice V h.cells.length kV) h.cells.length (cnts h.cells.length (l.refs.drop j++allRefs X'))::.box (w.heap.size+1) [.slice none 0 0,.slice none 0 0,.slice none 0 0] 60::.box w.heap.size [.slice (some ⟨gC,0,none⟩) h.cells.length kC,.slice R h.roots.length kR] 29::.cells (.slice (some ⟨gC,0,none⟩) h.cells.length kC) rvs' X'.cells::.ints (.slice R h.roots.length kR) X'.roots::L)) (fun _ i _=>l.refs.length - (intOf i).toNat)
      case atStart=>exact⟨0,Q',Q0,v0,rfl,Nat.zero_le _,HQ2,HT,by omega,H0⟩
      case round =>
       clear H0 HT hb0 HQ2 HQ'
       obtain⟨j,Q,Q0,v0,rfl,hj,HQ,HT,hb1,H⟩:=hrel
       obtain⟨A4,c4,rfl⟩:=H.rdQ 1 rfl HT.out
       by_cases hlj:j<l.refs.length
       ·obtain⟨y,hy⟩:∃ y,Hid (l.refs[j]?=some y):=⟨_,hid (List.getElem?_eq_getElem hlj)⟩
        have hD:l.refs.drop j++allRefs X'=y::(l.refs.drop (j+1)++allRefs X'):=by rw[drop_next hy];rfl
        have HLy:=HLX'.out y (List.mem_append_left _ (List.mem_of_getElem? hy.out))
        obtain⟨ys,hys⟩:∃ ys,ys=l.refs.drop (j+1)++allRefs X':=⟨_,rfl⟩
        rw[hD,<-hys]at H
        have HQy:Hid (QuOk X'.cells (y::ys) Q):=hid (by rw[hys,<-hD];exact HQ.out)
        have HYs:=hid hys
        have hyl:ys.length<=100000:=by have h9:=fre_all HOk.out HF'.out;rw[hys,List.length_append,List.length_drop];omega
        obtain⟨bA,oA,rfl,hbA,z0⟩:=((H.owI 0 rfl).rdI).rd (by omega)
        have g1:=z0 j (.int .i64 y) (by rw[List.getElem?_map,hy.out];rfl)
        obtain⟨c0,c1,c3,-,-,-⟩:=H.box3 2 rfl
        clear z0 hD hys HQ
        by_cases y0:y<0
        ·have HQn:=hid (HQy.out.neg y0)
         rw[cnts_cons_neg y0]at H
         rw[HYs.out]at HQn H
         clear HLy
         go_wp2
         go_roundw
         case rel=>exact⟨j+1,Q,Q0,v0,by go_num,by omega,HQn,HT,by omega,H⟩
         case measure=>simp[intOf];omega
        obtain⟨r,rfl⟩:=Int.eq_ofNat_of_zero_le (by omega:0<=y)
        have HLr:r<X'.cells.length/\usedN X'.cells r=true:=by
         rcases HLy with e|⟨-,e1,e2⟩
         ·omega
         ·exact⟨by simpa using e1,by simpa using e2⟩
        have HLu:=hid HLr.2
        have hrl:r<h.cells.length:=by have:=HF'.out.len;omega
        have hQl:Q.length<=h.cells.length:=by have h1:=HQy.out.len;have h2:=HF'.out.len;omega
        obtain⟨gV,cV,e,hv1,hv2,hv3,hv4⟩:=H.rowAt 3 rfl (by omega)
        simp only[Value.slice.injEq,true_and]at e
        obtain⟨rfl,rfl⟩:=e
        obtain⟨m0,mf⟩:=H.elem 3 rfl (cnt_more ys hrl)
        have H2:=H.putRow 3 rfl r (.int .i64 ((ys.count (r:Int):Nat):Int))
        simp only[lsz]at H2
        rw[cnt_less]at H2
        have hcn:ys.count (r:Int)<=100000:=Nat.le_trans List.count_le_length hyl
        have HCn:Hid (ys.count (r:Int)=0 ↔ (r:Int) ∉ ys):=hid count_zero
        obtain⟨cn,hcn0⟩:∃ cn,cn=ys.count (r:Int):=⟨_,rfl⟩
        rw[<-hcn0]at m0 H2 hcn HCn
        obtain⟨m1,mf1⟩:=H2.elem 3 rfl (j:=r) (u:=.int .i64 (cn:Int)) (by rw[cnt_at _ hrl,<-hcn0])
        obtain⟨d0,d1,d3,-,-,-⟩:=H2.box3 2 rfl
        clear hcn0 HLy HLr H
        by_cases hz:cn=0
        ·have k1:((cn:Int) == 0)=true:=by simp[hz]
         have HQn:=hid (HQy.out.last (HCn.out.1 hz) (by omega) (by simpa using HLu.out))
         have H3:=H2.litI [(r:Int)] one_le_maxLen
         simp only[lml,World.size_setCell]at H3
         obtain⟨m2,-⟩:=H3.elem 0 rfl (j:=0) (u:=.int .i64 (r:Int)) rfl
         clear H2 hz
         go_wp2_with (at_builtin;go_loud (refine wpList_pushQ rfl (.tmp 79) (.tmp 81) rfl H3 2 rfl HT.out rfl rfl m2 (by omega) (by omega) ?_;intro A3 k3 w5 v0' Q0' hT2 hl2 H6;simp only[lsz]at H6))
         have H7:=H6.drop 1
         simp only[List.drop_succ_cons,List.drop_zero]at H7
         have HT2:=hid hT2
         rw[HYs.out]at HQn H7
         clear H6 H3 hT2
         go_roundw
         case rel=>exact⟨j+1,_,Q0',v0',by go_num,by omega,HQn,HT2,by omega,H7⟩
         case measure=>simp[intOf];omega
        ·have k1:((cn:Int) == 0)=false:=by simp[hz]
         have HQn:=hid (HQy.out.more (Classical.byContradiction fun hn=>hz (HCn.out.2 hn)))
         rw[HYs.out]at HQn H2
         clear hz
         go_wp2
         go_roundw
         case rel=>exact⟨j+1,Q,Q0,v0,by go_num,by omega,HQn,HT,by omega,H2⟩
         case measure=>simp[intOf];omega
       ·have e2:l.refs.drop j=[]:=List.drop_eq_nil_of_le (by omega)
        rw[e2,List.nil_append]at H HQ
        have H5:=H.drop 1
        simp only[List.drop_succ_cons,List.drop_zero]at H5
        have HLZ:Hid (LeadX X'.cells (allRefs X')):=hid fun x hx=>HLX'.out x (List.mem_append_right _ hx)
        clear H e2
        go_wp2_with fail
        go_roundg (usedC X'.cells)
        case measure=>omega
        case rel=>exact⟨X',Q,Q0,v0,rvs',rfl,HF',HLZ,HQ,HT,by omega,H5⟩
theorem Manager.run_next {α:Type}{M:Manager α}{k:Nat}{a:α}{cs:List Cmd}{p:Cmd}(hx:Hid (cs[k]?=some p)):M.run k a (cs.drop k)=M.run (k+1) (M.step a k p) (cs.drop (k+1)):=by
 obtain⟨hk,rfl⟩:=List.getElem?_eq_some_iff.1 hx.out
 rw[List.drop_eq_getElem_cons hk]
 rfl
theorem Manager.run_out {α:Type}{M:Manager α}{k:Nat}{a:α}{cs:List Cmd}(hk:cs.length<=k):M.run k a (cs.drop k)=a:=by
 rw[List.drop_of_length_le hk];rfl
theorem can_poss {h:Hp}{o:Cmd}(hc:canB h o=true):possB h o=true/\(o.op=1->mFree h<40):=by
 unfold canB at hc
 simp only[Bool.and_eq_true,Bool.not_eq_true',Bool.and_eq_false_iff,decide_eq_false_iff_not]at hc
 refine⟨hc.1,fun h1=>?_⟩
 rcases hc.2 with e|e
 ·exact absurd h1 e
 ·omega
theorem can_good {h:Hp}{o:Cmd}(g:Good h) (hc:cmdOk o=true) (hb:canB h o=true):Good (mDo h o (mFree h)):=mDo_good g hc (can_poss hb).1 (mFree_le h) (can_poss hb).2
theorem stepCt_good {h:Hp}{o:Cmd}(g:Good h) (hc:cmdOk o=true):Good (stepCt h o):=by
 rw[stepCt_can]
 split
 ·rename_i hb
  exact good_iff.1 (uncount_ok (good_iff.2 (can_good g hc hb)))
 ·exact g
noncomputable def mCt (cs:List Cmd):Hp:=if cmdsOk cs then counter.run 0 emptyH cs else ⟨[],[]⟩
set_option maxHeartbeats 3200000 in
set_option maxRecDepth 20000 in
theorem implStepCounted_any (w:World) (B:Nat) (v:Value) (h:Hp) (hh:RdCt w B v h) (o:Cmd) (g:Good h) (hc:cmdOk o=true):
  Calls Tryz.prog 145 #[v,cmdV o] w (MadeCtB w (stepCt h o)):=by
 have hh':=hh.top
 obtain⟨D,m,d,D',m',d',E,q,f,rfl,hC,hR,hE⟩:=hh.top
 have GG:=hid g
 have HCo:=hid hc
 have hst:RdH w w.heap.size (.agg #[.slice D m d,.slice D' m' d']) h:=⟨_,_,_,_,_,_,rfl,hC,hR⟩
 have H:=(((Owns.nil w).box [.slice D m d,.slice D' m' d',.slice E q f] 60).box [.int .i64 o.op,.int .i64 o.a,.int .i64 o.b,.int .i64 o.c] 79).box [.slice none 0 0,.slice none 0 0,.slice none 0 0] 60
 simp only[lnm]at H
 obtain⟨a0,a1,a2,-,-,-⟩:=H.box3 2 rfl
 obtain⟨b0,b1,b2,b3,-,-,-,-⟩:=box4 H 1 rfl
 clear g hc
 go_enter Tryz.func145,Tryz.ntmps145
 go_wp2_with fail
 refine (implCountedValid_yes _ _ _ h (hh'.below H.below) (good_iff.2 GG.out)).mono ?_
 rintro e w1 ⟨rfl,hb⟩
 replace H:=H.call hb
 clear hb a0 a1 a2 b0 b1 b2 b3
 obtain⟨b0,b1,b2,b3,-,-,-,-⟩:=box4 H 1 rfl
 go_wp2_with fail
 refine (implCommandValid_any o _).mono ?_
 rintro e w2 ⟨rfl,hb⟩
 rw[HCo.out]
 replace H:=H.call hb
 clear hb b0 b1 b2 b3
 obtain⟨a0,a1,a2,-,-,-⟩:=H.box3 2 rfl
 obtain⟨b0,b1,b2,b3,-,-,-,-⟩:=box4 H 1 rfl
 go_wp2_with fail
 refine (canStep_any _ _ _ h (hst.below H.below) o GG.out HCo.out).mono ?_
 rintro e w3 ⟨rfl,hb⟩
 replace H:=H.call hb
 clear hb a0 a1 a2 b0 b1 b2 b3
 obtain⟨a0,a1,a2,-,-,-⟩:=H.box3 2 rfl
 obtain⟨b0,b1,b2,b3,-,-,-,-⟩:=box4 H 1 rfl
 have HS:=hid (stepCt_can h o)
 cases hb:canB h o
 ·rw[hb]at HS
  have HT:Hid (stepCt h o=h):=HS
  clear hb HS b0 b1 b2 b3
  go_wp2_with fail
  refine (copyCounted_any _ _ _ h (hh'.below H.below) (good_iff.2 GG.out)).mono ?_
  rintro e w4 ⟨cv,rvs,rv,nv,rfl,K⟩
  replace K:=H.merge K
  simp only[lca]at K
  obtain⟨C,kC,rfl,-⟩:=K.formC 0 rfl
  obtain⟨R,kR,rfl,-⟩:=K.formI 1 rfl
  obtain⟨V,kV,rfl,-⟩:=K.formI 2 rfl
  clear H a0 a1 a2
  obtain⟨y0,y1,y2,y3,y4,y5⟩:=K.box3 3 rfl
  have HZ:=((K.putBox 3 rfl 0 (.slice C h.cells.length kC)).putBox 3 rfl 1 (.slice R h.roots.length kR)).putBox 3 rfl 2 (.slice V (mCounts h).length kV)
  simp only[lnm]at HZ
  obtain⟨z0,z1,z2,-,-,-⟩:=HZ.box3 3 rfl
  have HS:Hid (MadeCtB w (stepCt h o) (.returned (.tuple #[.agg #[.slice C h.cells.length kC,.slice R h.roots.length kR,.slice V (mCounts h).length kV],.bool false])) _):=hid (by rw[HT.out];exact⟨_,rvs,_,_,_,rfl,HZ.take 3⟩)
  clear HZ K
  go_wp2
  exact bodyPost_ret (by simp[results,Tryz.results145,go_sem,z0,z1,z2]) rfl HS.out
 ·rw[hb]at HS
  have HT:Hid (stepCt h o=mUncount (mDo h o (mFree h))):=HS
  have HD:=hid (can_good GG.out HCo.out hb)
  have HP:=hid (can_poss hb).1
  have s4:h.cells.length<=1048576:=by have:=(heapOk_small (good_iff.2 GG.out)).1;omega
  clear hb HS
  go_wp2_with fail
  have HX:=H.drew
  clear H
  have x0:w3.drew.cell? ⟨w.heap.size,0,none⟩=some (.slice D m d):=a0
  have x1:w3.drew.cell? ⟨w.heap.size,1,none⟩=some (.slice D' m' d'):=a1
  have x2:(w3.drew.cell? ⟨w.heap.size+1,0,none⟩=some (.int .i64 o.op)/\w3.drew.cell? ⟨w.heap.size+1,1,none⟩=some (.int .i64 o.a))/\w3.drew.cell? ⟨w.heap.size+1,2,none⟩=some (.int .i64 o.b)/\w3.drew.cell? ⟨w.heap.size+1,3,none⟩=some (.int .i64 o.c):=⟨⟨b0,b1⟩,b2,b3⟩
  clear a0 a1 a2 b0 b1 b2 b3
  refine wp_region_tree (fun w'=>(w'.cell? ⟨w.heap.size,0,none⟩=some (.slice D m d)/\w'.cell? ⟨w.heap.size,1,none⟩=some (.slice D' m' d'))/\(w'.cell? ⟨w.heap.size+1,0,none⟩=some (.int .i64 o.op)/\w'.cell? ⟨w.heap.size+1,1,none⟩=some (.int .i64 o.a))/\w'.cell? ⟨w.heap.size+1,2,none⟩=some (.int .i64 o.b)/\w'.cell? ⟨w.heap.size+1,3,none⟩=some (.int .i64 o.c)) 10 [] (.take 0 (.take 1 (.take 2 (.take 3 (.take 4 (.alt 5 (.alt 6 (.alt 7 (.alt 8 (.take 9 (.done)) (.stop)) (.stop)) (.stop)) (.stop))))))) (by kernel_rfl) (by kernel_rfl) (by kernel_rfl) (⟨⟨x0,x1⟩,x2⟩) ?_
  simp only[fillT,lgz,Nat.reduceBEq]
  repeat first|(with_reducible apply po_take;(·(go_simp;done));(·(intro w' hS';(try dsimp only at hS');go_simp;try with_reducible rfl));simp only[lpa])|(with_reducible apply po_skip;(·(go_simp;done));simp only[lpa])
  with_reducible refine po_last ?_ (fun K hK=>?_)
  ·(go_simp;done)
  go_simp
  refine (freePlace_any _ _ _ h (hst.below HX.below) s4).mono ?_
  rintro e w4 ⟨rfl,hb⟩
  replace HX:=HX.call hb
  replace x0:=keept x0 hb
  replace x1:=keept x1 hb
  replace x2:=And.intro (And.intro (keept x2.1.1 hb) (keept x2.1.2 hb)) (And.intro (keept x2.2.1 hb) (keept x2.2.2 hb))
  clear hb
  refine hK.out _ _ (.inr (⟨⟨x0,x1⟩,x2⟩)) ?_
  clear hK K
  with_reducible refine po_last ?_ (fun K hK=>?_)
  ·(go_simp;done)
  go_simp
  refine (execute_any _ _ _ h (hst.below HX.below) o GG.out HCo.out HP.out (mFree h) (mFree_le h)).mono ?_
  rintro e w5 ⟨cv,rvs,rv,rfl,K⟩
  replace x0:=keept x0 K.below
  replace x1:=keept x1 K.below
  replace x2:=And.intro (And.intro (keept x2.1.1 K.below) (keept x2.1.2 K.below)) (And.intro (keept x2.2.1 K.below) (keept x2.2.2 K.below))
  replace K:=HX.merge K
  simp only[lca]at K
  obtain⟨T,hT⟩:∃ T,T=mDo h o (mFree h):=⟨_,rfl⟩
  rw[<-hT]at K HT HD
  clear hT HX
  have HX:=K
  clear K
  refine hK.out _ _ (.inr (⟨⟨x0,x1⟩,x2⟩)) ?_
  clear hK K
  with_reducible refine po_last ?_ (fun K hK=>?_)
  ·(go_simp;done)
  go_simp
  refine (freeUncounted_any HX (good_iff.2 HD.out)).mono ?_
  rintro e w6 ⟨rvs',nv,rfl,K2⟩
  obtain⟨X,hX⟩:∃ X,X=mUncount T:=⟨_,rfl⟩
  rw[<-hX]at K2 HT
  clear hX HX x0 x1 x2
  obtain⟨C,kC,rfl,-⟩:=K2.formC 0 rfl
  obtain⟨R,kR,rfl,-⟩:=K2.formI 1 rfl
  obtain⟨V,kV,rfl,-⟩:=K2.formI 2 rfl
  obtain⟨a0,a1,a2,-,-,-⟩:=K2.box3 5 rfl
  obtain⟨b0,b1,b2,b3,-,-,-,-⟩:=box4 K2 4 rfl
  refine hK.out _ _ (.inr (⟨⟨a0,a1⟩,⟨⟨b0,b1⟩,b2,b3⟩⟩)) ?_
  clear hK K
  with_reducible refine po_last ?_ (fun K hK=>?_)
  ·(go_simp;done)
  obtain⟨y0,y1,y2,y3,y4,y5⟩:=K2.box3 3 rfl
  go_simp
  have HZ:=((K2.putBox 3 rfl 0 (.slice C X.cells.length kC)).putBox 3 rfl 1 (.slice R X.roots.length kR)).putBox 3 rfl 2 (.slice V (mCounts X).length kV)
  simp only[lnm]at HZ
  clear a0 a1 a2 b0 b1 b2 b3
  obtain⟨a0,a1,a2,-,-,-⟩:=HZ.box3 5 rfl
  obtain⟨b0,b1,b2,b3,-,-,-,-⟩:=box4 HZ 4 rfl
  refine hK.out _ _ (.inr (⟨⟨a0,a1⟩,⟨⟨b0,b1⟩,b2,b3⟩⟩)) ?_
  clear hK K
  repeat first|(with_reducible apply po_take;(·(go_simp;done));(·(intro w' hS';(try dsimp only at hS');go_simp;try with_reducible rfl));simp only[lpa])|(with_reducible apply po_skip;(·(go_simp;done));simp only[lpa])
  refine po_done ?_
  obtain⟨z0,z1,z2,-,-,-⟩:=HZ.box3 3 rfl
  have HS:Hid (MadeCtB w (stepCt h o) (.returned (.tuple #[.agg #[.slice C X.cells.length kC,.slice R X.roots.length kR,.slice V (mCounts X).length kV],.bool true])) _):=hid (by rw[HT.out];exact⟨_,rvs',_,_,_,rfl,HZ.take 3⟩)
  clear HZ K2 a0 a1 a2 b0 b1 b2 b3 y0 y1 y2 y3 y4 y5
  go_wp2
  exact bodyPost_ret (by simp[results,Tryz.results145,go_sem,z0,z1,z2]) rfl HS.out
set_option maxHeartbeats 3200000 in
set_option maxRecDepth 20000 in
theorem implRunCounted_any (w:World) (B:Nat) (A:Option Addr) (n c:Nat) (cs:List Cmd) (hr:RdQ w B A n c cs) (hok:cmdsOk cs=true):
  Calls Tryz.prog 143 #[.slice A n c] w (MadeCt w (mCt cs)):=by
 have hr:=hr.top
 obtain rfl:=hr.len
 have hm:=Nat.le_trans hr.cap hr.mx
 unfold maxLen at hm
 have H:=(Owns.nil w).box [.slice none 0 0,.slice none 0 0,.slice none 0 0] 60
 have HC:=hid hok
 have HA:=hid (cmdsOk_all hok)
 obtain⟨RR,hRR⟩:∃ r,r=counter.run 0 emptyH cs:=⟨_,rfl⟩
 have HF:Hid (mCt cs=RR):=hid (by unfold mCt;rw[if_pos hok,hRR])
 have HR0:Hid (counter.run 0 emptyH (cs.drop 0)=RR):=hid (by rw[hRR,List.drop_zero])
 clear hok hRR
 go_enter Tryz.func143,Tryz.ntmps143
 go_wp2_with fail
 refine (implCommandsValid_any _ _ _ _ _ cs (hr.below H.below)).mono ?_
 rintro e w1 ⟨rfl,hb⟩
 rw[HC.out]
 replace H:=H.call hb
 clear hb
 go_wp2_with fail
 refine (implEmptyHeap_any _).mono ?_
 rintro e w3 ⟨cv,rvs,rv,rfl,K⟩
 replace K:=H.merge K
 simp only[lca]at K
 obtain⟨C,kC,rfl,-⟩:=K.formC 0 rfl
 obtain⟨R,kR,rfl,-⟩:=K.formI 1 rfl
 clear H
 go_wp2_with fail
 refine (counted_any _ _ _ _ _ _ _ _ emptyH (K.rdH 0 1 rfl rfl) (good_iff.2 emptyH_good)).mono ?_
 rintro e w4 ⟨nv,rfl,ho,hb⟩
 have K2:=K.madeI ho hb
 obtain⟨V,kV,rfl,-⟩:=K2.formI 0 rfl
 have H3:=(K2.box [.slice C emptyH.cells.length kC,.slice R emptyH.roots.length kR,.slice V (mCounts emptyH).length kV] 60).order [0,2,3,1,4] (L':=[.box w4.heap.size [.slice C emptyH.cells.length kC,.slice R emptyH.roots.length kR,.slice V (mCounts emptyH).length kV] 60,.cells (.slice C emptyH.cells.length kC) rvs emptyH.cells,.ints (.slice R emptyH.roots.length kR) emptyH.roots,.ints (.slice V (mCounts emptyH).length kV) (mCounts emptyH),.box w.heap.size [.slice none 0 0,.slice none 0 0,.slice none 0 0] 60]) (by decide) rfl
 clear K K2 ho hb
 go_wp2_with fail
 go_loopw [14] (fun i wr=>∃ (k:Nat) (C R V:Option Addr) (kC kR kV:Nat) (rvs:List Value) (h:Hp),i=.int .i64 k/\k<=cs.length/\Hid (counter.run k h (cs.drop k)=RR)/\Hid (Good h)/\Owns w.heap.size w wr [.box w4.heap.size [.slice C h.cells.length kC,.slice R h.roots.length kR,.slice V (mCounts h).length kV] 60,.cells (.slice C h.cells.length kC) rvs h.cells,.ints (.slice R h.roots.length kR) h.roots,.ints (.slice V (mCounts h).length kV) (mCounts h),.box w.heap.size [.slice none 0 0,.slice none 0 0,.slice none 0 0] 60]) (fun i _=>cs.length - (intOf i).toNat)
 case atStart=>exact⟨0,C,R,V,kC,kR,kV,rvs,emptyH,rfl,Nat.zero_le _,HR0,hid emptyH_good,H3⟩
 case round =>
  clear H3 HR0
  obtain⟨k,C,R,V,kC,kR,kV,rvs,h,rfl,hk,HR,GG,H⟩:=hrel
  by_cases hlt:k<cs.length
  ·obtain⟨b,o,p,rfl,hbb,hx,q1,q2,q3,q4⟩:=hr.at_ hlt
   have HP:Hid (cmdOk p=true):=hid (HA.out p (List.mem_of_getElem? hx.out))
   have HE:Hid (counter.run (k+1) (stepCt h p) (cs.drop (k+1))=RR):=hid (by rw[<-HR.out,Manager.run_next hx];rfl)
   have HTG:Hid (Good (stepCt h p)):=hid (stepCt_good GG.out HP.out)
   have g1:=H.ro q1 hbb
   have g2:=H.ro q2 hbb
   have g3:=H.ro q3 hbb
   have g4:=H.ro q4 hbb
   have H0:=H.box [.int .i64 p.op,.int .i64 p.a,.int .i64 p.b,.int .i64 p.c] 79
   obtain⟨x0,x1,x2,-,-,-⟩:=H0.box3 1 rfl
   clear H q1 q2 q3 q4 HR
   go_wp2_with fail
   refine (implStepCounted_any _ _ _ h (H0.rdCt 2 3 4 rfl rfl rfl) p GG.out HP.out).mono ?_
   rintro e w5 ⟨cv,rvs',rv,nv,tb,rfl,K⟩
   replace K:=H0.merge K
   simp only[lca]at K
   obtain⟨T,hT⟩:∃ T,T=stepCt h p:=⟨_,rfl⟩
   rw[<-hT]at K HE HTG
   clear hT H0 x0 x1 x2 g1 g2 g3 g4
   obtain⟨C',kC',rfl,-⟩:=K.formC 0 rfl
   obtain⟨R',kR',rfl,-⟩:=K.formI 1 rfl
   obtain⟨V',kV',rfl,-⟩:=K.formI 2 rfl
   obtain⟨x0,x1,x2,x3,x4,x5⟩:=K.box3 4 rfl
   have H7:=(((K.putBox 4 rfl 0 (.slice C' T.cells.length kC')).putBox 4 rfl 1 (.slice R' T.roots.length kR')).putBox 4 rfl 2 (.slice V' (mCounts T).length kV')).places [4,0,1,2,8] (by decide) (by simp)
   simp only[lfm,lsz]at H7
   clear K
   go_wp2_with fail
   go_roundw
   case rel=>exact⟨k+1,C',R',V',kC',kR',kV',rvs',T,by go_num,by omega,HE,HTG,H7⟩
   case measure=>simp[intOf];omega
  ·have HE:Hid (RR=h):=hid (by rw[<-HR.out,Manager.run_out (by omega)])
   obtain⟨x0,x1,x2,-,-,-⟩:=H.box3 0 rfl
   obtain⟨y0,y1,y2,y3,y4,y5⟩:=H.box3 4 rfl
   have HZ:=((H.putBox 4 rfl 0 (.slice C h.cells.length kC)).putBox 4 rfl 1 (.slice R h.roots.length kR)).putBox 4 rfl 2 (.slice V (mCounts h).length kV)
   simp only[lnm]at HZ
   obtain⟨z0,z1,z2,-,-,-⟩:=HZ.box3 4 rfl
   have HS:Hid (MadeCt w (mCt cs) (.returned (.agg #[.slice C h.cells.length kC,.slice R h.roots.length kR,.slice V (mCounts h).length kV])) _):=hid (by rw[HF.out,HE.out];exact⟨_,rvs,_,_,rfl,HZ.order [1,2,3] (by decide) rfl⟩)
   clear H HZ
   go_wp2
   exact bodyPost_ret (by simp[results,Tryz.results143,go_sem,z0,z1,z2]) rfl HS.out
set_option maxHeartbeats 6400000 in
set_option maxRecDepth 20000 in
theorem l8Do_at (w:World) (B:Nat) (v:Value) (h:Hp) (hh:RdH w B v h) (o:Cmd) (g:Good h) (hc:cmdOk o=true) (hp:possB h o=true) (pc:Nat) (hpc:pc<=h.cells.length):
  Calls Tryz.prog 88 #[v,cmdV o,.int .i64 (pc:Int)] w (MadeHp w (mDo h o pc)):=by
 have hh':=hh.top
 obtain⟨D,m,d,D',m',d',rfl,hC,hR⟩:=hh.top
 have hl40:=g.len
 have h4:=g.roots
 have hn3:∀ c∈h.cells,c.refs.length<=1048576:=fun c hm=>by
  have:=g.cell c hm
  rw[cellOk_iff]at this
  rcases this with k|k
  ·omega
  ·rw[k.2.2];simp
 have l1:=hC.le1;have l2:=hC.le2
 have l3:=RdI.le1 hR;have l4:=RdI.le2 hR
 have hca:=cmd_a hc
 have hcb:=cmd_b hc
 have hcc:=cmd_c hc
 obtain⟨op,a,b,c⟩:=o
 simp only at hca hcb hcc
 have H:=(((Owns.nil w).box [.slice D m d,.slice D' m' d'] 29).box [.int .i64 op,.int .i64 a,.int .i64 b,.int .i64 c] 79).box [.slice none 0 0,.slice none 0 0] 29
 simp only[lnm]at H
 obtain⟨a0,a1,-,-⟩:=H.box2 2 rfl
 have HN3:=hid hn3
 have HCB:=hid hcb
 have HCC:=hid hcc
 have H4:=hid h4
 have hm4:4<=m':=by omega
 have hr4:4<=h.roots.length:=by omega
 have hr4':h.roots.length<=4:=by omega
 clear hn3 hcb hcc h4
 obtain⟨an,rfl⟩:=Int.eq_ofNat_of_zero_le hca.1
 go_enter Tryz.func88,Tryz.ntmps88
 go_wp2_with fail
 refine (l7Copy_any _ _ _ h (hh'.below H.below) (by omega) (by omega) HN3.out).mono ?_
 rintro e w1 ⟨v1,rfl,ho,hb⟩
 obtain⟨cv,rvs,rv,rfl,H1⟩:=H.madeH ho hb
 obtain⟨C,kC,rfl,-⟩:=H1.formC 0 rfl
 obtain⟨gR,kR,eR,-,-,-,-⟩:=H1.rowAt 1 rfl (show 0<h.roots.length by omega)
 obtain rfl:=eR
 clear H ho hb a0 a1
 have H2:=H1.box [.slice C h.cells.length kC,.slice (some ⟨gR,0,none⟩) h.roots.length kR] 29
 clear H1
 obtain⟨x0,x1,xf0,xf1⟩:=H2.box2 0 rfl
 obtain⟨a0,a1,-,-⟩:=H2.box2 5 rfl
 obtain⟨b0,b1,b2,b3,-,-,-,-⟩:=box4 H2 4 rfl
 have HC':=hid hc
 have HP:=hid hp
 clear hc hp
 by_cases h4:op=4
 ·subst h4
  obtain⟨bn,rfl⟩:=Int.eq_ofNat_of_zero_le (HCB.out (.inr (.inr rfl))).1
  have hbn:(bn:Int)<=3:=(HCB.out (.inr (.inr rfl))).2
  have hbm:bn<m':=by omega
  have hal:an<h.roots.length:=by omega
  obtain⟨bb,oo,x,rfl,hbb,hx,q1⟩:=RdI.at_ hR hbm
  obtain⟨bz,oz,xo,-,-,hxo,-⟩:=RdI.at_ hR (show an<m' by omega)
  have HF:Hid (mDo h ⟨4,an,bn,c⟩ pc=⟨h.cells,h.roots.set an x⟩):=hid (by simp[mDo,rootI_of hx])
  go_wp2_with fail
  have HX:=H2.drew
  clear x0 x1 xf0 xf1 a0 a1 b0 b1 b2 b3
  obtain⟨x0,x1,xf0,xf1⟩:=HX.box2 0 rfl
  obtain⟨a0,a1,-,-⟩:=HX.box2 5 rfl
  obtain⟨b0,b1,b2,b3,-,-,-,-⟩:=box4 HX 4 rfl
  have q2:=HX.ro q1 hbb
  obtain⟨e0,e1⟩:=HX.intAt 2 rfl rfl hxo
  clear q1
  refine wp_region_tree (fun w'=>(w'.cell? ⟨w1.heap.size,0,none⟩=some (.slice C h.cells.length kC)/\w'.cell? ⟨w1.heap.size,1,none⟩=some (.slice (some ⟨gR,0,none⟩) h.roots.length kR))/\(w'.cell? ⟨w.heap.size,0,none⟩=some (.slice D m d)/\w'.cell? ⟨w.heap.size,1,none⟩=some (.slice (some ⟨bb,oo,none⟩) m' d'))/\(w'.cell? ⟨w.heap.size+1,1,none⟩=some (.int .i64 an)/\w'.cell? ⟨w.heap.size+1,2,none⟩=some (.int .i64 bn)/\w'.cell? ⟨w.heap.size+1,3,none⟩=some (.int .i64 c))/\w'.cell? ⟨bb,oo+bn,none⟩=some (.int .i64 x)) 11 [] (.take 0 (.take 1 (.take 2 (.take 3 (.take 4 (.take 5 (.take 6 (.take 7 (.take 8 (.take 9 (.take 10 (.alt 11 (.done) (.stop))))))))))))) (by kernel_rfl) (by kernel_rfl) (by kernel_rfl) (⟨⟨x0,x1⟩,⟨a0,a1⟩,⟨b1,b2,b3⟩,q2⟩) ?_
  simp only[fillT,lgz,Nat.reduceBEq]
  repeat first|(with_reducible apply po_take;(·(go_simp;done));(·(intro w' hS';(try dsimp only at hS');go_simp;try with_reducible rfl));simp only[lpa])|(with_reducible apply po_skip;(·(go_simp;done));simp only[lpa])
  with_reducible refine po_last ?_ (fun K hK=>?_)
  ·(go_simp;done)
  go_simp
  clear HX
  have HX:=H2.setInt 2 rfl rfl an x
  simp only[lsz]at HX
  clear e0 e1 q2 x0 x1 xf0 xf1 a0 a1 b0 b1 b2 b3 H2
  refine hK.out _ _ (.inl rfl) ?_
  clear hK K
  refine po_done ?_
  obtain⟨x0,x1,xf0,xf1⟩:=HX.box2 0 rfl
  obtain⟨y0,y1,y2,y3⟩:=HX.box2 3 rfl
  have HZ0:=(HX.putBox 3 rfl 0 (.slice C h.cells.length kC)).putBox 3 rfl 1 (.slice (some ⟨gR,0,none⟩) h.roots.length kR)
  simp only[lnm]at HZ0
  obtain⟨z0,z1,-,-⟩:=HZ0.box2 3 rfl
  have HZ:=(HX.drew.putBox 3 rfl 0 (.slice C h.cells.length kC)).putBox 3 rfl 1 (.slice (some ⟨gR,0,none⟩) h.roots.length kR)
  simp only[lnm]at HZ
  obtain⟨z2,-,-,-⟩:=(HX.putBox 3 rfl 0 (.slice C h.cells.length kC)).box2 3 rfl
  have HS:Hid (MadeHp w (mDo h ⟨4,an,bn,c⟩ pc) (.returned (.agg #[.slice C h.cells.length kC,.slice (some ⟨gR,0,none⟩) h.roots.length kR])) _):=hid (by rw[HF.out];exact⟨_,rvs,_,rfl,HZ.order [1,2] (by decide) rfl⟩)
  clear HX HZ HZ0
  go_wp2
  exact bodyPost_ret (by simp[results,Tryz.results88,go_sem,z0,z1,z2]) rfl HS.out
 by_cases h5:op=5
 ·subst h5
  have hal:an<h.roots.length:=by omega
  obtain⟨bz,oz,xo,-,-,hxo,-⟩:=RdI.at_ hR (show an<m' by omega)
  have HF:Hid (mDo h ⟨5,an,b,c⟩ pc=⟨h.cells,h.roots.set an (-1)⟩):=hid (by simp[mDo])
  obtain⟨e0,e1⟩:=H2.intAt 2 rfl rfl hxo
  have HX:=H2.setInt 2 rfl rfl an (-1)
  simp only[lsz]at HX
  clear H2
  obtain⟨x0,x1,xf0,xf1⟩:=HX.box2 0 rfl
  obtain⟨y0,y1,y2,y3⟩:=HX.box2 3 rfl
  have HZ0:=(HX.putBox 3 rfl 0 (.slice C h.cells.length kC)).putBox 3 rfl 1 (.slice (some ⟨gR,0,none⟩) h.roots.length kR)
  simp only[lnm]at HZ0
  obtain⟨z0,z1,-,-⟩:=HZ0.box2 3 rfl
  have HZ:=(HX.putBox 3 rfl 0 (.slice C h.cells.length kC)).putBox 3 rfl 1 (.slice (some ⟨gR,0,none⟩) h.roots.length kR)
  simp only[lnm]at HZ
  obtain⟨z2,-,-,-⟩:=(HX.putBox 3 rfl 0 (.slice C h.cells.length kC)).box2 3 rfl
  have HS:Hid (MadeHp w (mDo h ⟨5,an,b,c⟩ pc) (.returned (.agg #[.slice C h.cells.length kC,.slice (some ⟨gR,0,none⟩) h.roots.length kR])) _):=hid (by rw[HF.out];exact⟨_,rvs,_,rfl,HZ.order [1,2] (by decide) rfl⟩)
  clear HX HZ HZ0
  go_wp2
  exact bodyPost_ret (by simp[results,Tryz.results88,go_sem,z0,z1,z2]) rfl HS.out
 by_cases h2:op=2
 ·subst h2
  obtain⟨bn,rfl⟩:=Int.eq_ofNat_of_zero_le (HCB.out (.inl rfl)).1
  obtain⟨cn,rfl⟩:=Int.eq_ofNat_of_zero_le (HCC.out (.inl rfl)).1
  have hbn:(bn:Int)<=3:=(HCB.out (.inl rfl)).2
  have hbm:bn<m':=by omega
  have hal:an<h.roots.length:=by omega
  obtain⟨bb,oo,x,rfl,hbb,hx,q1⟩:=RdI.at_ hR hbm
  obtain⟨bz,oz,xo,-,-,hxo,-⟩:=RdI.at_ hR (show an<m' by omega)
  have hpl:placeB h x cn=true:=by
   have:=HP.out
   simpa [possB,rootI_of hx] using this
  simp only[placeB,Bool.and_eq_true,decide_eq_true_eq]at hpl
  have hxl:x<h.cells.length:=by rw[<-rootI_of hx];exact good_rootLt g _
  obtain⟨q,rfl⟩:=Int.eq_ofNat_of_zero_le hpl.1
  have hqm:q<m:=by omega
  obtain⟨b2',o2',l,A2,n2,c2,rfl,hbb2,hxc,k1,k2,k3,hrf⟩:=hC.at_ hqm
  rw[celI_of hxc]at hpl
  have r1:=RdI.le1 hrf;have r2:=RdI.le2 hrf
  have hcn:cn<n2:=by omega
  obtain⟨b3',o3',y,rfl,hbb3,hy,t1⟩:=RdI.at_ hrf hcn
  have HF:Hid (mDo h ⟨2,an,bn,cn⟩ pc=⟨h.cells,h.roots.set an y⟩):=hid (by simp[mDo,rootI_of hx,celI_of hxc,hy.out])
  clear hpl k1 k2
  go_wp2_with fail
  have HX:=H2.drew
  clear x0 x1 xf0 xf1 a0 a1 b0 b1 b2 b3
  obtain⟨x0,x1,xf0,xf1⟩:=HX.box2 0 rfl
  obtain⟨a0,a1,-,-⟩:=HX.box2 5 rfl
  obtain⟨b0,b1,b2,b3,-,-,-,-⟩:=box4 HX 4 rfl
  have q2:=HX.ro q1 hbb
  have k4:=HX.ro k3 hbb2
  have t2:=HX.ro t1 hbb3
  obtain⟨e0,e1⟩:=HX.intAt 2 rfl rfl hxo
  clear q1 k3 t1
  refine wp_region_tree (fun w'=>(w'.cell? ⟨w1.heap.size,0,none⟩=some (.slice C h.cells.length kC)/\w'.cell? ⟨w1.heap.size,1,none⟩=some (.slice (some ⟨gR,0,none⟩) h.roots.length kR))/\(w'.cell? ⟨w.heap.size,0,none⟩=some (.slice (some ⟨b2',o2',none⟩) m d)/\w'.cell? ⟨w.heap.size,1,none⟩=some (.slice (some ⟨bb,oo,none⟩) m' d'))/\(w'.cell? ⟨w.heap.size+1,1,none⟩=some (.int .i64 an)/\w'.cell? ⟨w.heap.size+1,2,none⟩=some (.int .i64 bn)/\w'.cell? ⟨w.heap.size+1,3,none⟩=some (.int .i64 cn))/\w'.cell? ⟨bb,oo+bn,none⟩=some (.int .i64 (q:Int))/\w'.cell? ⟨b2',o2'+q*3+2,none⟩=some (.slice (some ⟨b3',o3',none⟩) n2 c2)/\w'.cell? ⟨b3',o3'+cn,none⟩=some (.int .i64 y)) 20 [] (.take 0 (.take 1 (.take 2 (.take 3 (.take 4 (.take 5 (.take 6 (.take 7 (.take 8 (.take 9 (.take 10 (.take 11 (.take 12 (.take 13 (.take 14 (.take 15 (.take 16 (.take 17 (.take 18 (.take 19 (.alt 20 (.done) (.stop)))))))))))))))))))))) (by kernel_rfl) (by kernel_rfl) (by kernel_rfl) (⟨⟨x0,x1⟩,⟨a0,a1⟩,⟨b1,b2,b3⟩,q2,k4,t2⟩) ?_
  simp only[fillT,lgz,Nat.reduceBEq]
  repeat first|(with_reducible apply po_take;(·(go_simp;done));(·(intro w' hS';(try dsimp only at hS');go_simp;try with_reducible rfl));simp only[lpa])|(with_reducible apply po_skip;(·(go_simp;done));simp only[lpa])
  with_reducible refine po_last ?_ (fun K hK=>?_)
  ·(go_simp;done)
  go_simp
  clear HX
  have HX:=H2.setInt 2 rfl rfl an y
  simp only[lsz]at HX
  clear e0 e1 q2 k4 t2 x0 x1 xf0 xf1 a0 a1 b0 b1 b2 b3 H2
  refine hK.out _ _ (.inl rfl) ?_
  clear hK K
  refine po_done ?_
  obtain⟨x0,x1,xf0,xf1⟩:=HX.box2 0 rfl
  obtain⟨y0,y1,y2,y3⟩:=HX.box2 3 rfl
  have HZ0:=(HX.putBox 3 rfl 0 (.slice C h.cells.length kC)).putBox 3 rfl 1 (.slice (some ⟨gR,0,none⟩) h.roots.length kR)
  simp only[lnm]at HZ0
  obtain⟨z0,z1,-,-⟩:=HZ0.box2 3 rfl
  have HZ:=(HX.drew.putBox 3 rfl 0 (.slice C h.cells.length kC)).putBox 3 rfl 1 (.slice (some ⟨gR,0,none⟩) h.roots.length kR)
  simp only[lnm]at HZ
  obtain⟨z2,-,-,-⟩:=(HX.putBox 3 rfl 0 (.slice C h.cells.length kC)).box2 3 rfl
  have HS:Hid (MadeHp w (mDo h ⟨2,an,bn,cn⟩ pc) (.returned (.agg #[.slice C h.cells.length kC,.slice (some ⟨gR,0,none⟩) h.roots.length kR])) _):=hid (by rw[HF.out];exact⟨_,rvs,_,rfl,HZ.order [1,2] (by decide) rfl⟩)
  clear HX HZ HZ0
  go_wp2
  exact bodyPost_ret (by simp[results,Tryz.results88,go_sem,z0,z1,z2]) rfl HS.out
 by_cases h3:op=3
 ·subst h3
  obtain⟨bn,rfl⟩:=Int.eq_ofNat_of_zero_le (HCB.out (.inr (.inl rfl))).1
  obtain⟨cn,rfl⟩:=Int.eq_ofNat_of_zero_le (HCC.out (.inr rfl)).1
  have hbn:(bn:Int)<=3:=(HCB.out (.inr (.inl rfl))).2
  have hbm:bn<m':=by omega
  have ham:an<m':=by omega
  obtain⟨bb,oo,x,rfl,hbb,hx,q1⟩:=RdI.at_ hR ham
  obtain⟨bz,oz,z,ez,hbz,hz,qz⟩:=RdI.at_ hR hbm
  simp only[Option.some.injEq,Addr.mk.injEq,and_true]at ez
  obtain⟨rfl,rfl⟩:=ez
  have hpl:placeB h x cn=true:=by
   have:=HP.out
   simpa [possB,rootI_of hx] using this
  simp only[placeB,Bool.and_eq_true,decide_eq_true_eq]at hpl
  have HQ:=hpl.1
  have hxl:x<h.cells.length:=by rw[<-rootI_of hx];exact good_rootLt g _
  obtain⟨q,rfl⟩:=Int.eq_ofNat_of_zero_le HQ
  have hql:q<h.cells.length:=by omega
  obtain⟨l,hxc⟩:∃ l,Hid (h.cells[q]?=some l):=⟨_,hid (List.getElem?_eq_getElem hql)⟩
  rw[celI_of hxc]at hpl
  have hcn:cn<l.refs.length:=by omega
  obtain⟨yo,hyo⟩:∃ y,Hid (l.refs[cn]?=some y):=⟨_,hid (List.getElem?_eq_getElem hcn)⟩
  obtain⟨gC,cC,A2,c2,eC,hrv,-,-,-,-,-,-,-,-⟩:=H2.cellW 1 rfl hxc
  simp only[Value.slice.injEq]at eC
  obtain⟨rfl,-,rfl⟩:=eC
  obtain⟨gF,rfl,-,-⟩:=H2.refAt 1 rfl hrv hxc hyo
  have HF:Hid (mDo h ⟨3,an,bn,cn⟩ pc=⟨h.cells.set q ⟨l.used,l.data,l.refs.set cn z⟩,h.roots⟩):=hid (by simp[mDo,rootI_of hx,rootI_of hz,celI_of hxc,setRef])
  clear hpl HQ
  go_wp2_with fail
  have HX:=H2.drew
  clear x0 x1 xf0 xf1 a0 a1 b0 b1 b2 b3
  obtain⟨x0,x1,xf0,xf1⟩:=HX.box2 0 rfl
  obtain⟨a0,a1,-,-⟩:=HX.box2 5 rfl
  obtain⟨b0,b1,b2,b3,-,-,-,-⟩:=box4 HX 4 rfl
  have q2:=HX.ro q1 hbb
  have qz2:=HX.ro qz hbb
  obtain⟨gC',cC',A2',c2',eC,hrv',-,-,k4,-,-,-,-,-⟩:=HX.cellW 1 rfl hxc
  simp only[Value.slice.injEq,Option.some.injEq,Addr.mk.injEq,and_true,true_and]at eC
  obtain⟨rfl,rfl⟩:=eC
  obtain⟨gF',eF,e0,e1⟩:=HX.refAt 1 rfl hrv' hxc hyo
  obtain rfl:=eF
  have eV:=hid_inj hrv hrv'
  simp only[Value.slice.injEq,Option.some.injEq,Addr.mk.injEq,and_true,true_and]at eV
  obtain⟨rfl,rfl⟩:=eV
  clear q1 qz
  refine wp_region_tree (fun w'=>(w'.cell? ⟨w1.heap.size,0,none⟩=some (.slice (some ⟨gC,0,none⟩) h.cells.length kC)/\w'.cell? ⟨w1.heap.size,1,none⟩=some (.slice (some ⟨gR,0,none⟩) h.roots.length kR))/\(w'.cell? ⟨w.heap.size,0,none⟩=some (.slice D m d)/\w'.cell? ⟨w.heap.size,1,none⟩=some (.slice (some ⟨bb,oo,none⟩) m' d'))/\(w'.cell? ⟨w.heap.size+1,1,none⟩=some (.int .i64 an)/\w'.cell? ⟨w.heap.size+1,2,none⟩=some (.int .i64 bn)/\w'.cell? ⟨w.heap.size+1,3,none⟩=some (.int .i64 cn))/\w'.cell? ⟨bb,oo+an,none⟩=some (.int .i64 (q:Int))/\w'.cell? ⟨bb,oo+bn,none⟩=some (.int .i64 z)/\w'.cell? ⟨gC,q*3+2,none⟩=some (.slice (some ⟨gF,0,none⟩) l.refs.length c2)) 20 [] (.take 0 (.take 1 (.take 2 (.take 3 (.take 4 (.take 5 (.take 6 (.take 7 (.take 8 (.take 9 (.take 10 (.take 11 (.take 12 (.take 13 (.take 14 (.take 15 (.take 16 (.take 17 (.take 18 (.take 19 (.alt 20 (.done) (.stop)))))))))))))))))))))) (by kernel_rfl) (by kernel_rfl) (by kernel_rfl) (⟨⟨x0,x1⟩,⟨a0,a1⟩,⟨b1,b2,b3⟩,q2,qz2,k4⟩) ?_
  simp only[fillT,lgz,Nat.reduceBEq]
  repeat first|(with_reducible apply po_take;(·(go_simp;done));(·(intro w' hS';(try dsimp only at hS');go_simp;try with_reducible rfl));simp only[lpa])|(with_reducible apply po_skip;(·(go_simp;done));simp only[lpa])
  with_reducible refine po_last ?_ (fun K hK=>?_)
  ·(go_simp;done)
  go_simp
  clear HX
  have HX:=H2.putRef 1 rfl hrv.out hxc.out rfl cn z
  simp only[lsz]at HX
  clear e0 e1 q2 qz2 k4 x0 x1 xf0 xf1 a0 a1 b0 b1 b2 b3 H2
  refine hK.out _ _ (.inl rfl) ?_
  clear hK K
  refine po_done ?_
  obtain⟨x0,x1,xf0,xf1⟩:=HX.box2 0 rfl
  obtain⟨y0,y1,y2,y3⟩:=HX.box2 3 rfl
  have HZ0:=(HX.putBox 3 rfl 0 (.slice (some ⟨gC,0,none⟩) h.cells.length kC)).putBox 3 rfl 1 (.slice (some ⟨gR,0,none⟩) h.roots.length kR)
  simp only[lnm]at HZ0
  obtain⟨z0,z1,-,-⟩:=HZ0.box2 3 rfl
  have HZ:=(HX.drew.putBox 3 rfl 0 (.slice (some ⟨gC,0,none⟩) h.cells.length kC)).putBox 3 rfl 1 (.slice (some ⟨gR,0,none⟩) h.roots.length kR)
  simp only[lnm]at HZ
  obtain⟨z2,-,-,-⟩:=(HX.putBox 3 rfl 0 (.slice (some ⟨gC,0,none⟩) h.cells.length kC)).box2 3 rfl
  have HS:Hid (MadeHp w (mDo h ⟨3,an,bn,cn⟩ pc) (.returned (.agg #[.slice (some ⟨gC,0,none⟩) h.cells.length kC,.slice (some ⟨gR,0,none⟩) h.roots.length kR])) _):=hid (by rw[HF.out];exact⟨_,rvs,_,rfl,HZ.order [1,2] (by decide) rfl⟩)
  clear HX HZ HZ0
  go_wp2
  exact bodyPost_ret (by simp[results,Tryz.results88,go_sem,z0,z1,z2]) rfl HS.out
 by_cases h6:op=6
 ·subst h6
  have ham:an<m':=by omega
  obtain⟨bb,oo,x,rfl,hbb,hx,q1⟩:=RdI.at_ hR ham
  have HQ:0<=x:=by
   have:=HP.out
   simpa [possB,rootI_of hx] using this
  have hxl:x<h.cells.length:=by rw[<-rootI_of hx];exact good_rootLt g _
  obtain⟨q,rfl⟩:=Int.eq_ofNat_of_zero_le HQ
  have hql:q<h.cells.length:=by omega
  obtain⟨l,hxc⟩:∃ l,Hid (h.cells[q]?=some l):=⟨_,hid (List.getElem?_eq_getElem hql)⟩
  obtain⟨gC,cC,A2,c2,eC,hrv,-,-,-,-,-,-,-,-⟩:=H2.cellW 1 rfl hxc
  simp only[Value.slice.injEq]at eC
  obtain⟨rfl,-,rfl⟩:=eC
  have HF:Hid (mDo h ⟨6,an,b,c⟩ pc=⟨h.cells.set q ⟨l.used,b,l.refs⟩,h.roots⟩):=hid (by simp[mDo,rootI_of hx,celI_of hxc,setDat])
  clear HQ
  go_wp2_with fail
  have HX:=H2.drew
  clear x0 x1 xf0 xf1 a0 a1 b0 b1 b2 b3
  obtain⟨x0,x1,xf0,xf1⟩:=HX.box2 0 rfl
  obtain⟨a0,a1,-,-⟩:=HX.box2 5 rfl
  obtain⟨b0,b1,b2,b3,-,-,-,-⟩:=box4 HX 4 rfl
  have q2:=HX.ro q1 hbb
  obtain⟨gC',cC',A2',c2',eC,hrv',-,e0,-,-,e1,-,-,-⟩:=HX.cellW 1 rfl hxc
  simp only[Value.slice.injEq,Option.some.injEq,Addr.mk.injEq,and_true,true_and]at eC
  obtain⟨rfl,rfl⟩:=eC
  clear q1
  refine wp_region_tree (fun w'=>(w'.cell? ⟨w1.heap.size,0,none⟩=some (.slice (some ⟨gC,0,none⟩) h.cells.length kC)/\w'.cell? ⟨w1.heap.size,1,none⟩=some (.slice (some ⟨gR,0,none⟩) h.roots.length kR))/\(w'.cell? ⟨w.heap.size,0,none⟩=some (.slice D m d)/\w'.cell? ⟨w.heap.size,1,none⟩=some (.slice (some ⟨bb,oo,none⟩) m' d'))/\(w'.cell? ⟨w.heap.size+1,1,none⟩=some (.int .i64 an)/\w'.cell? ⟨w.heap.size+1,2,none⟩=some (.int .i64 b)/\w'.cell? ⟨w.heap.size+1,3,none⟩=some (.int .i64 c))/\w'.cell? ⟨bb,oo+an,none⟩=some (.int .i64 (q:Int))) 12 [] (.take 0 (.take 1 (.take 2 (.take 3 (.take 4 (.take 5 (.take 6 (.take 7 (.take 8 (.take 9 (.take 10 (.take 11 (.alt 12 (.done) (.stop)))))))))))))) (by kernel_rfl) (by kernel_rfl) (by kernel_rfl) (⟨⟨x0,x1⟩,⟨a0,a1⟩,⟨b1,b2,b3⟩,q2⟩) ?_
  simp only[fillT,lgz,Nat.reduceBEq]
  repeat first|(with_reducible apply po_take;(·(go_simp;done));(·(intro w' hS';(try dsimp only at hS');go_simp;try with_reducible rfl));simp only[lpa])|(with_reducible apply po_skip;(·(go_simp;done));simp only[lpa])
  with_reducible refine po_last ?_ (fun K hK=>?_)
  ·(go_simp;done)
  go_simp
  clear HX
  have HX:=H2.putDat 1 rfl rfl hxc.out b
  simp only[lsz]at HX
  clear e0 e1 q2 x0 x1 xf0 xf1 a0 a1 b0 b1 b2 b3 H2
  refine hK.out _ _ (.inl rfl) ?_
  clear hK K
  refine po_done ?_
  obtain⟨x0,x1,xf0,xf1⟩:=HX.box2 0 rfl
  obtain⟨y0,y1,y2,y3⟩:=HX.box2 3 rfl
  have HZ0:=(HX.putBox 3 rfl 0 (.slice (some ⟨gC,0,none⟩) h.cells.length kC)).putBox 3 rfl 1 (.slice (some ⟨gR,0,none⟩) h.roots.length kR)
  simp only[lnm]at HZ0
  obtain⟨z0,z1,-,-⟩:=HZ0.box2 3 rfl
  have HZ:=(HX.drew.putBox 3 rfl 0 (.slice (some ⟨gC,0,none⟩) h.cells.length kC)).putBox 3 rfl 1 (.slice (some ⟨gR,0,none⟩) h.roots.length kR)
  simp only[lnm]at HZ
  obtain⟨z2,-,-,-⟩:=(HX.putBox 3 rfl 0 (.slice (some ⟨gC,0,none⟩) h.cells.length kC)).box2 3 rfl
  have HS:Hid (MadeHp w (mDo h ⟨6,an,b,c⟩ pc) (.returned (.agg #[.slice (some ⟨gC,0,none⟩) h.cells.length kC,.slice (some ⟨gR,0,none⟩) h.roots.length kR])) _):=hid (by rw[HF.out];exact⟨_,rvs,_,rfl,HZ.order [1,2] (by decide) rfl⟩)
  clear HX HZ HZ0
  go_wp2
  exact bodyPost_ret (by simp[results,Tryz.results88,go_sem,z0,z1,z2]) rfl HS.out
 by_cases h1:op=1
 ·subst h1
  have hok:=HC'.out
  rw[cmdOk1]at hok
  simp only[Bool.and_eq_true,inR_iff]at hok
  obtain⟨bn,rfl⟩:=Int.eq_ofNat_of_zero_le hok.1.2.1
  have hbn:(bn:Int)<=3:=hok.1.2.2
  have ham:an<m':=by omega
  obtain⟨bb,oo,xo,rfl,-,hxo,-⟩:=RdI.at_ hR ham
  have HF:Hid (∀ n,n=bn->mDo h ⟨1,an,n,c⟩ pc=⟨putCel h.cells pc ⟨true,c,emptyTo n⟩,h.roots.set an (pc:Int)⟩):=hid (fun n e=>by subst e;simp[mDo,newCel,emptyTo])
  clear hok
  have H3:=(H2.box [.bool true,.int .i64 c,.slice none 0 0] 68).noInts
  simp only[World.size_alloc]at H3
  go_wp2_with fail
  clear H2 x0 x1 xf0 xf1 a0 a1 b0 b1 b2 b3
  go_loopw [9] (fun i wr=>∃ (k:Nat) (v:Value),i=.int .i64 k/\k<=bn/\Owns w.heap.size w wr [.ints v (emptyTo k),.box (w1.heap.size+1) [.bool true,.int .i64 c,v] 68,.box w1.heap.size [.slice C h.cells.length kC,.slice (some ⟨gR,0,none⟩) h.roots.length kR] 29,.cells (.slice C h.cells.length kC) rvs h.cells,.ints (.slice (some ⟨gR,0,none⟩) h.roots.length kR) h.roots,.box (w.heap.size+1+1) [.slice none 0 0,.slice none 0 0] 29,.box (w.heap.size+1) [.int .i64 1,.int .i64 an,.int .i64 bn,.int .i64 c] 79,.box w.heap.size [.slice D m d,.slice (some ⟨bb,oo,none⟩) m' d'] 29]) (fun i _=>bn - (intOf i).toNat)
  case atStart=>exact⟨0,_,rfl,Nat.zero_le _,H3⟩
  case round =>
   clear H3
   obtain⟨k,v,rfl,hk,H⟩:=hrel
   obtain⟨A,c1,rfl,-⟩:=H.formI 0 rfl
   have el:(emptyTo k).length=k:=by simp[emptyTo]
   rw[el]at H
   have HL:=hid el
   clear el
   obtain⟨u0,u1,u2,u3,u4,u5⟩:=H.box3 1 rfl
   obtain⟨b0,b1,b2,b3,-,-,-,-⟩:=box4 H 6 rfl
   by_cases hlt:k<bn
   ·have H4:=H.litI [-1] one_le_maxLen
    simp only[lml]at H4
    have e:emptyTo k++[-1]=emptyTo (k+1):=by simp[emptyTo,List.replicate_succ']
    have HE:=hid e
    clear e
    go_wp2_with (at_builtin;go_loud (refine wpList_pushO rfl (.tmp 26) (.tmp 27) rfl H4 1 rfl rfl rfl (rdI_new _ _ _ rfl) (by rw[HL.out];simp;omega) ?_;intro A3 k3 w3 H5;simp only[lsz,List.length_append,List.length_cons,List.length_nil,Nat.zero_add]at H5;rw[HE.out]at H5;obtain⟨e0,e1,e2,e3,e4,e5⟩:=H5.box3 2 rfl))
    have H6:=(H5.putBox 2 rfl 2 (.slice A3 ((emptyTo k).length+1) k3)).erase 0
    simp only[lnm]at H6
    go_roundw
    case rel=>exact⟨k+1,_,by go_num,by omega,H6⟩
    case measure=>simp[intOf];omega
   ·obtain rfl:k=bn:=by omega
    obtain⟨x0,x1,xf0,xf1⟩:=H.box2 2 rfl
    by_cases hpq:pc=h.cells.length
    ·have k1:((pc:Int) == (h.cells.length:Int))=true:=by simp;omega
     have H4:=H.alloc (.cells #[.bool true,.int .i64 c,.slice A k c1] 68)
     have HF2:Hid (mDo h ⟨1,an,k,c⟩ pc=⟨h.cells++[⟨true,c,emptyTo k⟩],h.roots.set an (pc:Int)⟩):=hid (by rw[HF.out k rfl,putCel,if_pos hpq])
     clear hpq
     go_wp2_with (at_builtin;go_loud (refine wpList_pushCO rfl (.tmp 36) (.tmp 38) rfl H4 3 0 (c:=⟨true,c,emptyTo k⟩) (rv:=.slice A k c1) rfl rfl rfl rfl rfl (heap1 wr _) (by omega) ?_;intro A3 k3 w3 H5;simp only[lsz,List.eraseIdx_cons_zero,List.length_append,List.length_cons,List.length_nil,Nat.zero_add]at H5;obtain⟨e0,e1,e2,e3⟩:=H5.box2 1 rfl;have H6:=H5.putBox 1 rfl 0 (.slice A3 (h.cells.length+1) k3);simp only[lsz]at H6;obtain⟨e4,e5,-,-⟩:=H6.box2 1 rfl;obtain⟨f0,f1,f2,f3,-,-,-,-⟩:=box4 H6 5 rfl;obtain⟨r0,r1⟩:=H6.intAt 3 rfl rfl hxo;have H7:=H6.setInt 3 rfl rfl an (pc:Int);simp only[lsz]at H7;obtain⟨i0,i1,-,-⟩:=H7.box2 1 rfl;obtain⟨y0,y1,y2,y3⟩:=H7.box2 4 rfl;have HZ:=(H7.putBox 4 rfl 0 (.slice A3 (h.cells.length+1) k3)).putBox 4 rfl 1 (.slice (some ⟨gR,0,none⟩) h.roots.length kR);simp only[lsz]at HZ;obtain⟨z0,z1,-,-⟩:=HZ.box2 4 rfl;obtain⟨z2,-,-,-⟩:=(H7.putBox 4 rfl 0 (.slice A3 (h.cells.length+1) k3)).box2 4 rfl))
     have HS:Hid (MadeHp w (mDo h ⟨1,an,k,c⟩ pc) (.returned (.agg #[.slice A3 (h.cells.length+1) k3,.slice (some ⟨gR,0,none⟩) h.roots.length kR])) _):=hid (by rw[HF2.out];exact⟨_,_,_,rfl,HZ.order [2,3] (by decide) rfl⟩)
     exact bodyPost_ret (by simp[results,Tryz.results88,go_sem,z0,z1,z2]) rfl HS.out
    ·have hpl:pc<h.cells.length:=by omega
     have k1:((pc:Int) == (h.cells.length:Int))=false:=by simp;omega
     have i1:(0:Int)<=(pc:Int):=by omega
     have i2:(pc:Int)<(h.cells.length:Int):=by omega
     have HF2:Hid (mDo h ⟨1,an,k,c⟩ pc=⟨h.cells.set pc ⟨true,c,emptyTo k⟩,h.roots.set an (pc:Int)⟩):=hid (by rw[HF.out k rfl,putCel,if_neg hpq])
     obtain⟨l0,hl0⟩:∃ l0,Hid (h.cells[pc]?=some l0):=⟨_,hid (List.getElem?_eq_getElem hpl)⟩
     obtain⟨gC,cC,A2,c2,eC,-,s0,s1,s2,t0,t1,t2,-,-⟩:=H.cellW 3 rfl hl0
     simp only[Value.slice.injEq]at eC
     obtain⟨rfl,-,rfl⟩:=eC
     obtain⟨x0,x1,xf0,xf1⟩:=H.box2 2 rfl
     have H5:=H.putCell 3 0 (c:=⟨true,c,emptyTo k⟩) (rv:=.slice A k c1) rfl rfl rfl pc hpl
     simp only[lsz,List.eraseIdx_cons_zero]at H5
     obtain⟨e0,e1,-,-⟩:=H5.box2 1 rfl
     obtain⟨f0,f1,f2,f3,-,-,-,-⟩:=box4 H5 5 rfl
     obtain⟨r0,r1⟩:=H5.intAt 3 rfl rfl hxo
     have H7:=H5.setInt 3 rfl rfl an (pc:Int)
     simp only[lsz]at H7
     obtain⟨j0,j1,-,-⟩:=H7.box2 1 rfl
     obtain⟨y0,y1,y2,y3⟩:=H7.box2 4 rfl
     have HZ:=(H7.putBox 4 rfl 0 (.slice (some ⟨gC,0,none⟩) h.cells.length kC)).putBox 4 rfl 1 (.slice (some ⟨gR,0,none⟩) h.roots.length kR)
     simp only[lsz]at HZ
     obtain⟨z0,z1,-,-⟩:=HZ.box2 4 rfl
     obtain⟨z2,-,-,-⟩:=(H7.putBox 4 rfl 0 (.slice (some ⟨gC,0,none⟩) h.cells.length kC)).box2 4 rfl
     have HS:Hid (MadeHp w (mDo h ⟨1,an,k,c⟩ pc) (.returned (.agg #[.slice (some ⟨gC,0,none⟩) h.cells.length kC,.slice (some ⟨gR,0,none⟩) h.roots.length kR])) _):=hid (by rw[HF2.out];exact⟨_,_,_,rfl,HZ.order [2,3] (by decide) rfl⟩)
     clear H H5 H7 HZ
     go_wp2
     exact bodyPost_ret (by simp[results,Tryz.results88,go_sem,z0,z1,z2]) rfl HS.out
 exact absurd HC'.out (by rw[cmdOk0 _ _ _ ⟨h1,h2,h3,h4,h5,h6⟩];exact Bool.false_ne_true)
theorem mDo_place {h:Hp}{o:Cmd}(h1:o.op≠1) (p:Nat):mDo h o p=mDo h o 0:=by
 unfold mDo
 rw[if_neg h1,if_neg h1]
theorem stepSw_no {h:Hp}{L:Nat}{o:Cmd}(hp:possB h o=false):stepSw h L o=(h,false):=by simp[stepSw,hp]
theorem stepSw_other {h:Hp}{L:Nat}{o:Cmd}(hp:possB h o=true) (h1:o.op≠1):stepSw h L o=(mDo h o 0,true):=by simp[stepSw,hp,h1]
theorem stepSw_room {h:Hp}{L:Nat}{o:Cmd}(h1:o.op=1) (hf:mFree h<L):stepSw h L o=(mDo h o (mFree h),true):=by simp[stepSw,poss_new h1,h1,hf]
theorem stepSw_swept {h:Hp}{L:Nat}{o:Cmd}(h1:o.op=1) (hf:¬ mFree h<L) (hf2:mFree (mCollect h)<L):stepSw h L o=(mDo (mCollect h) o (mFree (mCollect h)),true):=by simp[stepSw,poss_new h1,h1,hf,hf2]
theorem stepSw_full {h:Hp}{L:Nat}{o:Cmd}(h1:o.op=1) (hf:¬ mFree h<L) (hf2:¬ mFree (mCollect h)<L):stepSw h L o=(mCollect h,false):=by simp[stepSw,poss_new h1,h1,hf,hf2]
set_option maxHeartbeats 6400000 in
set_option maxRecDepth 20000 in
theorem specStepSweep_any (w:World) (B:Nat) (v:Value) (h:Hp) (hh:RdH w B v h) (L:Nat) (hL1:1<=L) (hL2:L<=40) (o:Cmd) (g:Good h) (hc:cmdOk o=true):
  Calls Tryz.prog 64 #[v,.int .i64 (L:Int),cmdV o] w (MadeHBl w (stepSw h L o).1 (stepSw h L o).2):=by
 have hh':=hh.top
 obtain⟨D,m,d,D',m',d',rfl,hC,hR⟩:=hh.top
 have hl40:=g.len
 have hr4:h.roots.length<=4:=by have:=g.roots;omega
 obtain⟨op,a,b,c⟩:=o
 have H:=(((Owns.nil w).box [.slice D m d,.slice D' m' d'] 29).box [.int .i64 op,.int .i64 a,.int .i64 b,.int .i64 c] 79).box [.slice none 0 0,.slice none 0 0] 29
 simp only[lnm]at H
 have HY:=hid (good_iff.2 g)
 have HC:=hid hc
 have GG:=hid g
 have HI:=hid (inR_L hL1 hL2)
 have HN3:=hid (good_small g)
 have HH:=hid hh'
 clear hc g hh hh' hC hR
 obtain⟨a0,a1,-,-⟩:=H.box2 2 rfl
 obtain⟨b0,b1,b2,b3,-,-,-,-⟩:=box4 H 1 rfl
 go_enter Tryz.func64,Tryz.ntmps64
 go_wp2_with fail
 refine (specHeapValid_any _ _ _ h (HH.out.below H.below)).mono ?_
 rintro e w1 ⟨rfl,hb⟩
 rw[HY.out]
 replace H:=H.call hb
 clear hb a0 a1 b0 b1 b2 b3
 obtain⟨a0,a1,-,-⟩:=H.box2 2 rfl
 obtain⟨b0,b1,b2,b3,-,-,-,-⟩:=box4 H 1 rfl
 go_wp2_with fail
 refine (specCommandValid_any ⟨op,a,b,c⟩ _).mono ?_
 rintro e w2 ⟨rfl,hb⟩
 rw[HC.out]
 replace H:=H.call hb
 clear hb a0 a1 b0 b1 b2 b3
 obtain⟨a0,a1,-,-⟩:=H.box2 2 rfl
 obtain⟨b0,b1,b2,b3,-,-,-,-⟩:=box4 H 1 rfl
 go_wp2_with fail
 refine (l1In_b (L:Int) 1 40 _).mono ?_
 rintro e w3 ⟨rfl,hw⟩
 obtain rfl:=hw
 rw[HI.out]
 go_wp2_with fail
 refine (specPossible_any _ _ _ h (HH.out.below H.below) ⟨op,a,b,c⟩).mono ?_
 rintro e w4 ⟨rfl,hb⟩
 rw[mPoss_yes HY.out HC.out]
 replace H:=H.call hb
 clear hb a0 a1 b0 b1 b2 b3
 obtain⟨a0,a1,-,-⟩:=H.box2 2 rfl
 obtain⟨b0,b1,b2,b3,-,-,-,-⟩:=box4 H 1 rfl
 cases hp:possB h ⟨op,a,b,c⟩
 ·have HF:=hid (stepSw_no (L:=L) hp)
  clear hp
  go_wp2_with fail
  refine (l7Copy_any _ _ _ h (HH.out.below H.below) (by omega) (by omega) HN3.out).mono ?_
  rintro e w5 ⟨v1,rfl,ho,hb⟩
  obtain⟨cv,rvs,rv,rfl,K⟩:=H.madeH ho hb
  clear ho hb
  obtain⟨C',kC',rfl,-⟩:=K.formC 0 rfl
  obtain⟨R',kR',rfl,-⟩:=K.formI 1 rfl
  clear H a0 a1 b0 b1 b2 b3
  obtain⟨y0,y1,y2,y3⟩:=K.box2 2 rfl
  have HZ:=(K.putBox 2 rfl 0 (.slice C' h.cells.length kC')).putBox 2 rfl 1 (.slice R' h.roots.length kR')
  simp only[lnm]at HZ
  obtain⟨z0,z1,-,-⟩:=HZ.box2 2 rfl
  obtain⟨z2,-,-,-⟩:=(K.putBox 2 rfl 0 (.slice C' h.cells.length kC')).box2 2 rfl
  have HS:Hid (MadeHBl w (stepSw h L ⟨op,a,b,c⟩).1 (stepSw h L ⟨op,a,b,c⟩).2 (.returned (.tuple #[.agg #[.slice C' h.cells.length kC',.slice R' h.roots.length kR'],.bool false])) _):=hid (by rw[HF.out];exact⟨_,_,_,rfl,HZ.take 2⟩)
  clear K HZ
  go_wp2
  exact bodyPost_ret (by simp[results,Tryz.results64,go_sem,z0,z1,z2]) rfl HS.out
 have HP:=hid hp
 clear hp
 go_wp2_with fail
 refine (l7Copy_any _ _ _ h (HH.out.below H.below) (by omega) (by omega) HN3.out).mono ?_
 rintro e w5 ⟨v1,rfl,ho,hb⟩
 obtain⟨cv,rvs,rv,rfl,K⟩:=H.madeH ho hb
 clear ho hb
 obtain⟨C,kC,rfl,-⟩:=K.formC 0 rfl
 obtain⟨R,kR,rfl,-⟩:=K.formI 1 rfl
 clear H a0 a1 b0 b1 b2 b3
 have H2:=K.box [.slice C h.cells.length kC,.slice R h.roots.length kR] 29
 clear K
 obtain⟨x0,x1,xf0,xf1⟩:=H2.box2 0 rfl
 obtain⟨b0,b1,b2,b3,-,-,-,-⟩:=box4 H2 4 rfl
 by_cases h1:op=1
 rotate_left
 ·have HF:Hid (stepSw h L ⟨op,a,b,c⟩=(mDo h ⟨op,a,b,c⟩ (mFree h),true)):=hid (by rw[stepSw_other HP.out h1,mDo_place h1 (mFree h)])
  have k3:(op == 1)=false:=by simp[h1]
  go_wp2_with fail
  have HX:=H2.drew
  clear H2 x0 x1 xf0 xf1 b0 b1 b2 b3
  obtain⟨x0,x1,-,-⟩:=HX.box2 0 rfl
  obtain⟨b0,b1,b2,b3,-,-,-,-⟩:=box4 HX 4 rfl
  refine wp_region_tree (fun w'=>(w'.cell? ⟨w5.heap.size,0,none⟩=some (.slice C h.cells.length kC)/\w'.cell? ⟨w5.heap.size,1,none⟩=some (.slice R h.roots.length kR))/\w'.cell? ⟨w.heap.size+1,0,none⟩=some (.int .i64 op)/\w'.cell? ⟨w.heap.size+1,1,none⟩=some (.int .i64 a)/\w'.cell? ⟨w.heap.size+1,2,none⟩=some (.int .i64 b)/\w'.cell? ⟨w.heap.size+1,3,none⟩=some (.int .i64 c)) 7 [] (.take 0 (.take 1 (.take 2 (.alt 3 (.alt 4 (.alt 5 (.take 6 (.done)) (.stop)) (.stop)) (.stop))))) (by kernel_rfl) (by kernel_rfl) (by kernel_rfl) (⟨⟨x0,x1⟩,b0,b1,b2,b3⟩) ?_
  simp only[fillT,lgz,Nat.reduceBEq]
  repeat first|(with_reducible apply po_take;(·(go_simp;done));(·(intro w' hS';(try dsimp only at hS');go_simp;try with_reducible rfl));simp only[lpa])|(with_reducible apply po_skip;(·(go_simp;done));simp only[lpa])
  with_reducible refine po_last ?_ (fun K hK=>?_)
  ·(go_simp;done)
  go_simp
  refine (l10Place_any _ _ _ h (HX.rdH 1 2 rfl rfl) (by omega)).mono ?_
  rintro e wa ⟨rfl,hb⟩
  replace HX:=HX.call hb
  clear hb x0 x1 b0 b1 b2 b3
  obtain⟨x0,x1,-,-⟩:=HX.box2 0 rfl
  obtain⟨b0,b1,b2,b3,-,-,-,-⟩:=box4 HX 4 rfl
  refine hK.out _ _ (.inr (⟨⟨x0,x1⟩,b0,b1,b2,b3⟩)) ?_
  clear hK K
  with_reducible refine po_last ?_ (fun K hK=>?_)
  ·(go_simp;done)
  go_simp
  refine (l8Do_at _ _ _ h (HX.rdH 1 2 rfl rfl) ⟨op,a,b,c⟩ GG.out HC.out HP.out (mFree h) (mFree_le h)).mono ?_
  rintro e wb ⟨cv2,rvs2,rv2,rfl,K⟩
  replace K:=HX.merge K
  simp only[lca]at K
  obtain⟨T,hT⟩:∃ T,T=mDo h ⟨op,a,b,c⟩ (mFree h):=⟨_,rfl⟩
  rw[<-hT]at K HF
  clear hT HX
  have HX:=K
  clear K
  obtain⟨C',kC',rfl,-⟩:=HX.formC 0 rfl
  obtain⟨R',kR',rfl,-⟩:=HX.formI 1 rfl
  clear x0 x1 b0 b1 b2 b3
  obtain⟨x0,x1,-,-⟩:=HX.box2 2 rfl
  obtain⟨b0,b1,b2,b3,-,-,-,-⟩:=box4 HX 6 rfl
  refine hK.out _ _ (.inr (⟨⟨x0,x1⟩,b0,b1,b2,b3⟩)) ?_
  clear hK K
  with_reducible refine po_last ?_ (fun K hK=>?_)
  ·(go_simp;done)
  obtain⟨y0,y1,y2,y3⟩:=HX.box2 5 rfl
  go_simp
  replace HX:=(HX.putBox 5 rfl 0 (.slice C' T.cells.length kC')).putBox 5 rfl 1 (.slice R' T.roots.length kR')
  simp only[lnm]at HX
  clear y0 y1 y2 y3 x0 x1 b0 b1 b2 b3
  obtain⟨x0,x1,-,-⟩:=HX.box2 2 rfl
  obtain⟨b0,b1,b2,b3,-,-,-,-⟩:=box4 HX 6 rfl
  refine hK.out _ _ (.inr (⟨⟨x0,x1⟩,b0,b1,b2,b3⟩)) ?_
  clear hK K
  repeat first|(with_reducible apply po_take;(·(go_simp;done));(·(intro w' hS';(try dsimp only at hS');go_simp;try with_reducible rfl));simp only[lpa])|(with_reducible apply po_skip;(·(go_simp;done));simp only[lpa])
  refine po_done ?_
  clear x0 x1 b0 b1 b2 b3
  obtain⟨z0,z1,-,-⟩:=HX.box2 5 rfl
  have HS:Hid (MadeHBl w (stepSw h L ⟨op,a,b,c⟩).1 (stepSw h L ⟨op,a,b,c⟩).2 (.returned (.tuple #[.agg #[.slice C' T.cells.length kC',.slice R' T.roots.length kR'],.bool true])) _):=hid (by rw[HF.out];exact⟨_,rvs2,_,rfl,HX.take 2⟩)
  clear HX
  go_wp2
  exact bodyPost_ret (by simp[results,Tryz.results64,go_sem,z0,z1]) rfl HS.out
 have k3:(op == 1)=true:=by simp[h1]
 have HO:=hid h1
 clear h1
 go_wp2_with fail
 refine (l10Place_any _ _ _ h (H2.rdH 1 2 rfl rfl) (by omega)).mono ?_
 rintro e w6 ⟨rfl,hb⟩
 replace H2:=H2.call hb
 clear hb x0 x1 xf0 xf1 b0 b1 b2 b3
 obtain⟨x0,x1,xf0,xf1⟩:=H2.box2 0 rfl
 obtain⟨b0,b1,b2,b3,-,-,-,-⟩:=box4 H2 4 rfl
 obtain⟨gx,hgx⟩:∃ n,n=w5.heap.size:=⟨_,rfl⟩
 rw[<-hgx]at H2 x0 x1 xf0 xf1⊢
 clear hgx
 by_cases hf:mFree h<L
 ·have HF:=hid (stepSw_room (o:=⟨op,a,b,c⟩) HO.out hf)
  have q1:¬ (L:Int)<=((mFree h:Nat):Int):=by omega
  go_wp2_with fail
  have HX:=H2.drew
  clear H2 x0 x1 xf0 xf1 b0 b1 b2 b3
  obtain⟨x0,x1,-,-⟩:=HX.box2 0 rfl
  obtain⟨b0,b1,b2,b3,-,-,-,-⟩:=box4 HX 4 rfl
  refine wp_region_tree (fun w'=>(w'.cell? ⟨gx,0,none⟩=some (.slice C h.cells.length kC)/\w'.cell? ⟨gx,1,none⟩=some (.slice R h.roots.length kR))/\w'.cell? ⟨w.heap.size+1,0,none⟩=some (.int .i64 op)/\w'.cell? ⟨w.heap.size+1,1,none⟩=some (.int .i64 a)/\w'.cell? ⟨w.heap.size+1,2,none⟩=some (.int .i64 b)/\w'.cell? ⟨w.heap.size+1,3,none⟩=some (.int .i64 c)) 7 [] (.take 0 (.take 1 (.take 2 (.alt 3 (.alt 4 (.alt 5 (.take 6 (.done)) (.stop)) (.stop)) (.stop))))) (by kernel_rfl) (by kernel_rfl) (by kernel_rfl) (⟨⟨x0,x1⟩,b0,b1,b2,b3⟩) ?_
  simp only[fillT,lgz,Nat.reduceBEq]
  repeat first|(with_reducible apply po_take;(·(go_simp;done));(·(intro w' hS';(try dsimp only at hS');go_simp;try with_reducible rfl));simp only[lpa])|(with_reducible apply po_skip;(·(go_simp;done));simp only[lpa])
  with_reducible refine po_last ?_ (fun K hK=>?_)
  ·(go_simp;done)
  go_simp
  refine (l10Place_any _ _ _ h (HX.rdH 1 2 rfl rfl) (by omega)).mono ?_
  rintro e wa ⟨rfl,hb⟩
  replace HX:=HX.call hb
  clear hb x0 x1 b0 b1 b2 b3
  obtain⟨x0,x1,-,-⟩:=HX.box2 0 rfl
  obtain⟨b0,b1,b2,b3,-,-,-,-⟩:=box4 HX 4 rfl
  refine hK.out _ _ (.inr (⟨⟨x0,x1⟩,b0,b1,b2,b3⟩)) ?_
  clear hK K
  with_reducible refine po_last ?_ (fun K hK=>?_)
  ·(go_simp;done)
  go_simp
  refine (l8Do_at _ _ _ h (HX.rdH 1 2 rfl rfl) ⟨op,a,b,c⟩ GG.out HC.out HP.out (mFree h) (mFree_le h)).mono ?_
  rintro e wb ⟨cv2,rvs2,rv2,rfl,K⟩
  replace K:=HX.merge K
  simp only[lca]at K
  obtain⟨T,hT⟩:∃ T,T=mDo h ⟨op,a,b,c⟩ (mFree h):=⟨_,rfl⟩
  rw[<-hT]at K HF
  clear hT HX
  have HX:=K
  clear K
  obtain⟨C',kC',rfl,-⟩:=HX.formC 0 rfl
  obtain⟨R',kR',rfl,-⟩:=HX.formI 1 rfl
  clear x0 x1 b0 b1 b2 b3
  obtain⟨x0,x1,-,-⟩:=HX.box2 2 rfl
  obtain⟨b0,b1,b2,b3,-,-,-,-⟩:=box4 HX 6 rfl
  refine hK.out _ _ (.inr (⟨⟨x0,x1⟩,b0,b1,b2,b3⟩)) ?_
  clear hK K
  with_reducible refine po_last ?_ (fun K hK=>?_)
  ·(go_simp;done)
  obtain⟨y0,y1,y2,y3⟩:=HX.box2 5 rfl
  go_simp
  replace HX:=(HX.putBox 5 rfl 0 (.slice C' T.cells.length kC')).putBox 5 rfl 1 (.slice R' T.roots.length kR')
  simp only[lnm]at HX
  clear y0 y1 y2 y3 x0 x1 b0 b1 b2 b3
  obtain⟨x0,x1,-,-⟩:=HX.box2 2 rfl
  obtain⟨b0,b1,b2,b3,-,-,-,-⟩:=box4 HX 6 rfl
  refine hK.out _ _ (.inr (⟨⟨x0,x1⟩,b0,b1,b2,b3⟩)) ?_
  clear hK K
  repeat first|(with_reducible apply po_take;(·(go_simp;done));(·(intro w' hS';(try dsimp only at hS');go_simp;try with_reducible rfl));simp only[lpa])|(with_reducible apply po_skip;(·(go_simp;done));simp only[lpa])
  refine po_done ?_
  clear x0 x1 b0 b1 b2 b3
  obtain⟨z0,z1,-,-⟩:=HX.box2 5 rfl
  have HS:Hid (MadeHBl w (stepSw h L ⟨op,a,b,c⟩).1 (stepSw h L ⟨op,a,b,c⟩).2 (.returned (.tuple #[.agg #[.slice C' T.cells.length kC',.slice R' T.roots.length kR'],.bool true])) _):=hid (by rw[HF.out];exact⟨_,rvs2,_,rfl,HX.take 2⟩)
  clear HX
  go_wp2
  exact bodyPost_ret (by simp[results,Tryz.results64,go_sem,z0,z1]) rfl HS.out
 have q1:(L:Int)<=((mFree h:Nat):Int):=by omega
 go_wp2_with fail
 refine (specCollect_any _ _ _ h (H2.rdH 1 2 rfl rfl)).mono ?_
 rintro e w7 ⟨cv,rvs',rv,rfl,K⟩
 replace K:=H2.merge K
 simp only[lca]at K
 have GX:=hid (mCollect_good GG.out)
 have HPX:Hid (possB (mCollect h) ⟨op,a,b,c⟩=true):=hid (poss_new HO.out)
 have HFL:=hid (fun hf2=>stepSw_full (L:=L) (o:=⟨op,a,b,c⟩) HO.out hf hf2)
 have HSW:=hid (fun hf2=>stepSw_swept (L:=L) (o:=⟨op,a,b,c⟩) HO.out hf hf2)
 have hX40:(mCollect h).cells.length<=40:=GX.out.len
 obtain⟨X,hX⟩:∃ X,X=mCollect h:=⟨_,rfl⟩
 rw[<-hX]at K GX HPX HFL HSW hX40
 clear hX H2 x0 x1 xf0 xf1 b0 b1 b2 b3 hf q1
 obtain⟨C,kC,rfl,-⟩:=K.formC 0 rfl
 obtain⟨R,kR,rfl,-⟩:=K.formI 1 rfl
 obtain⟨x0,x1,xf0,xf1⟩:=K.box2 2 rfl
 have H2:=((K.putBox 2 rfl 0 (.slice C X.cells.length kC)).putBox 2 rfl 1 (.slice R X.roots.length kR)).places [2,0,1,5,6,7] (by decide) (by simp)
 simp only[lfm,lsz]at H2
 obtain⟨v0,v1,-,-⟩:=H2.box2 0 rfl
 go_wp2_with fail
 clear x0 x1 xf0 xf1 v0 v1 K
 refine (l10Place_any _ _ _ X (H2.rdH 1 2 rfl rfl) (by omega)).mono ?_
 rintro e w8 ⟨rfl,hb⟩
 replace H2:=H2.call hb
 clear hb
 obtain⟨x0,x1,xf0,xf1⟩:=H2.box2 0 rfl
 obtain⟨b0,b1,b2,b3,-,-,-,-⟩:=box4 H2 4 rfl
 by_cases hf2:mFree X<L
 ·have HF:=hid (HSW.out hf2)
  have q1:¬ (L:Int)<=((mFree X:Nat):Int):=by omega
  go_wp2_with fail
  have HX:=H2.drew
  clear H2 x0 x1 xf0 xf1 b0 b1 b2 b3
  obtain⟨x0,x1,-,-⟩:=HX.box2 0 rfl
  obtain⟨b0,b1,b2,b3,-,-,-,-⟩:=box4 HX 4 rfl
  refine wp_region_tree (fun w'=>(w'.cell? ⟨gx,0,none⟩=some (.slice C X.cells.length kC)/\w'.cell? ⟨gx,1,none⟩=some (.slice R X.roots.length kR))/\w'.cell? ⟨w.heap.size+1,0,none⟩=some (.int .i64 op)/\w'.cell? ⟨w.heap.size+1,1,none⟩=some (.int .i64 a)/\w'.cell? ⟨w.heap.size+1,2,none⟩=some (.int .i64 b)/\w'.cell? ⟨w.heap.size+1,3,none⟩=some (.int .i64 c)) 7 [] (.take 0 (.take 1 (.take 2 (.alt 3 (.alt 4 (.alt 5 (.take 6 (.done)) (.stop)) (.stop)) (.stop))))) (by kernel_rfl) (by kernel_rfl) (by kernel_rfl) (⟨⟨x0,x1⟩,b0,b1,b2,b3⟩) ?_
  simp only[fillT,lgz,Nat.reduceBEq]
  repeat first|(with_reducible apply po_take;(·(go_simp;done));(·(intro w' hS';(try dsimp only at hS');go_simp;try with_reducible rfl));simp only[lpa])|(with_reducible apply po_skip;(·(go_simp;done));simp only[lpa])
  with_reducible refine po_last ?_ (fun K hK=>?_)
  ·(go_simp;done)
  go_simp
  refine (l10Place_any _ _ _ X (HX.rdH 1 2 rfl rfl) (by omega)).mono ?_
  rintro e wa ⟨rfl,hb⟩
  replace HX:=HX.call hb
  clear hb x0 x1 b0 b1 b2 b3
  obtain⟨x0,x1,-,-⟩:=HX.box2 0 rfl
  obtain⟨b0,b1,b2,b3,-,-,-,-⟩:=box4 HX 4 rfl
  refine hK.out _ _ (.inr (⟨⟨x0,x1⟩,b0,b1,b2,b3⟩)) ?_
  clear hK K
  with_reducible refine po_last ?_ (fun K hK=>?_)
  ·(go_simp;done)
  go_simp
  refine (l8Do_at _ _ _ X (HX.rdH 1 2 rfl rfl) ⟨op,a,b,c⟩ GX.out HC.out HPX.out (mFree X) (mFree_le X)).mono ?_
  rintro e wb ⟨cv2,rvs2,rv2,rfl,K⟩
  replace K:=HX.merge K
  simp only[lca]at K
  obtain⟨T,hT⟩:∃ T,T=mDo X ⟨op,a,b,c⟩ (mFree X):=⟨_,rfl⟩
  rw[<-hT]at K HF
  clear hT HX
  have HX:=K
  clear K
  obtain⟨C',kC',rfl,-⟩:=HX.formC 0 rfl
  obtain⟨R',kR',rfl,-⟩:=HX.formI 1 rfl
  clear x0 x1 b0 b1 b2 b3
  obtain⟨x0,x1,-,-⟩:=HX.box2 2 rfl
  obtain⟨b0,b1,b2,b3,-,-,-,-⟩:=box4 HX 6 rfl
  refine hK.out _ _ (.inr (⟨⟨x0,x1⟩,b0,b1,b2,b3⟩)) ?_
  clear hK K
  with_reducible refine po_last ?_ (fun K hK=>?_)
  ·(go_simp;done)
  obtain⟨y0,y1,y2,y3⟩:=HX.box2 5 rfl
  go_simp
  replace HX:=(HX.putBox 5 rfl 0 (.slice C' T.cells.length kC')).putBox 5 rfl 1 (.slice R' T.roots.length kR')
  simp only[lnm]at HX
  clear y0 y1 y2 y3 x0 x1 b0 b1 b2 b3
  obtain⟨x0,x1,-,-⟩:=HX.box2 2 rfl
  obtain⟨b0,b1,b2,b3,-,-,-,-⟩:=box4 HX 6 rfl
  refine hK.out _ _ (.inr (⟨⟨x0,x1⟩,b0,b1,b2,b3⟩)) ?_
  clear hK K
  repeat first|(with_reducible apply po_take;(·(go_simp;done));(·(intro w' hS';(try dsimp only at hS');go_simp;try with_reducible rfl));simp only[lpa])|(with_reducible apply po_skip;(·(go_simp;done));simp only[lpa])
  refine po_done ?_
  clear x0 x1 b0 b1 b2 b3
  obtain⟨z0,z1,-,-⟩:=HX.box2 5 rfl
  have HS:Hid (MadeHBl w (stepSw h L ⟨op,a,b,c⟩).1 (stepSw h L ⟨op,a,b,c⟩).2 (.returned (.tuple #[.agg #[.slice C' T.cells.length kC',.slice R' T.roots.length kR'],.bool true])) _):=hid (by rw[HF.out];exact⟨_,rvs2,_,rfl,HX.take 2⟩)
  clear HX
  go_wp2
  exact bodyPost_ret (by simp[results,Tryz.results64,go_sem,z0,z1]) rfl HS.out
 have HF:=hid (HFL.out hf2)
 have q1:(L:Int)<=((mFree X:Nat):Int):=by omega
 obtain⟨y0,y1,y2,y3⟩:=H2.box2 3 rfl
 have HZ:=(H2.putBox 3 rfl 0 (.slice C X.cells.length kC)).putBox 3 rfl 1 (.slice R X.roots.length kR)
 simp only[lnm]at HZ
 obtain⟨z0,z1,-,-⟩:=HZ.box2 3 rfl
 obtain⟨z2,-,-,-⟩:=(H2.putBox 3 rfl 0 (.slice C X.cells.length kC)).box2 3 rfl
 have HS:Hid (MadeHBl w (stepSw h L ⟨op,a,b,c⟩).1 (stepSw h L ⟨op,a,b,c⟩).2 (.returned (.tuple #[.agg #[.slice C X.cells.length kC,.slice R X.roots.length kR],.bool false])) _):=hid (by rw[HF.out];exact⟨_,_,_,rfl,HZ.order [1,2] (by decide) rfl⟩)
 clear H2 HZ
 go_wp2
 exact bodyPost_ret (by simp[results,Tryz.results64,go_sem,z0,z1,z2]) rfl HS.out
theorem stepSw_good {h:Hp}{L:Nat}{o:Cmd}(g:Good h) (hc:cmdOk o=true) (hL:L<=40):Good (stepSw h L o).1:=by
 cases hp:possB h o
 ·rw[stepSw_no hp];exact g
 by_cases h1:o.op=1
 ·by_cases hf:mFree h<L
  ·rw[stepSw_room h1 hf];exact mDo_good g hc hp (mFree_le h) fun _=>by omega
  ·by_cases hf2:mFree (mCollect h)<L
   ·rw[stepSw_swept h1 hf hf2];exact mDo_good (mCollect_good g) hc (poss_new h1) (mFree_le _) fun _=>by omega
   ·rw[stepSw_full h1 hf hf2];exact mCollect_good g
 ·rw[stepSw_other hp h1];exact mDo_good g hc hp (Nat.zero_le _) fun k=>absurd k h1
theorem runSw_at {L:Nat}{h:Hp}{cs:List Cmd}{k:Nat}{p:Cmd}(hx:Hid (cs[k]?=some p)):runSw L h (cs.drop k)=if (stepSw h L p).2=false/\p.op=1 then ((stepSw h L p).1,false) else runSw L (stepSw h L p).1 (cs.drop (k+1)):=by
 obtain⟨hk,rfl⟩:=List.getElem?_eq_some_iff.1 hx.out
 rw[List.drop_eq_getElem_cons hk]
 rfl
theorem runSw_stop {L:Nat}{h:Hp}{cs:List Cmd}{k:Nat}{p:Cmd}{r:Hp × Bool}(hx:Hid (cs[k]?=some p)) (hr:runSw L h (cs.drop k)=r) (h1:(stepSw h L p).2=false) (h2:p.op=1):r=((stepSw h L p).1,false):=by
 rw[<-hr,runSw_at hx,if_pos ⟨h1,h2⟩]
theorem runSw_go {L:Nat}{h:Hp}{cs:List Cmd}{k:Nat}{p:Cmd}{r:Hp × Bool}(hx:Hid (cs[k]?=some p)) (hr:runSw L h (cs.drop k)=r) (hn:¬ ((stepSw h L p).2=false/\p.op=1)):runSw L (stepSw h L p).1 (cs.drop (k+1))=r:=by
 rw[<-hr,runSw_at hx,if_neg hn]
theorem runSw_out {L:Nat}{h:Hp}{cs:List Cmd}{k:Nat}{r:Hp × Bool}(hk:cs.length<=k) (hr:runSw L h (cs.drop k)=r):r=(h,true):=by
 rw[<-hr,List.drop_of_length_le hk];rfl
theorem stepSw_new {h:Hp}{L:Nat}{o:Cmd}(hp:possB h o=true) (hb:(stepSw h L o).2=false):o.op=1:=by
 by_cases h1:o.op=1
 ·exact h1
 ·rw[stepSw_other hp h1]at hb;cases hb
section
def setM (bs:List Bool):Nat:=bitsOf bs.length (fun i=>bs.getD i false)
theorem setM_lt {bs:List Bool}(h:bs.length<=64):setM bs<2 ^ 64:=Nat.lt_of_lt_of_le (bitsOf_lt _ _) (Nat.pow_le_pow_right (by omega) h)
theorem setM_bit (bs:List Bool) (i:Nat):(setM bs).testBit i=bs.getD i false:=by
 unfold setM
 rw[bitsOf_bit]
 by_cases h:i<bs.length
 ·simp[h]
 ·rw[List.getD_eq_getElem?_getD,List.getElem?_eq_none (by omega)];simp[h]
set_option maxHeartbeats 800000 in
set_option maxRecDepth 20000 in
theorem setOf_any (w:World) (B:Nat) (A:Option Addr) (n c:Nat) (bs:List Bool) (hr:RdB w B A n c bs) (hn:n<=64):
  Calls Tryz.prog 160 #[.slice A n c] w fun e w'=>e=.returned (.int .u64 (setM bs))/\Below w.heap.size w w':=by
 have hr:=hr.top
 have l1:=RdB.le1 hr;have l2:=RdB.le2 hr
 have H1:=(Owns.nil w).box [.int .u64 (bitsOf 0 (fun i=>bs.getD i false))] 140
 go_enter Tryz.func160,Tryz.ntmps160
 go_wp2_with fail
 generalize hw4:w.alloc (.cells #[.int .u64 0] 140)=w4 at *
 go_loopw [8] (fun i wr=>∃ (k:Nat),i=.int .i64 k/\k<=n/\Owns w.heap.size w wr [.box w.heap.size [.int .u64 (bitsOf k (fun i=>bs.getD i false))] 140]) (fun i _=>n - (intOf i).toNat)
 case atStart=>exact⟨0,rfl,Nat.zero_le _,by rw[<-hw4];exact H1⟩
 case round =>
  clear H1 hw4
  obtain⟨k,rfl,hk,H⟩:=hrel
  obtain⟨x0,xf⟩:=H.box1 0 rfl
  by_cases hlt:k<n
  ·obtain⟨b,o,u,rfl,hbb,hx,g1⟩:=RdB.at_ (hr.below H.below) hlt
   have hbl:=bitsOf_lt k (fun i=>bs.getD i false)
   have hb64:bitsOf k (fun i=>bs.getD i false)<2 ^ 64:=Nat.lt_of_lt_of_le hbl (Nat.pow_le_pow_right (by omega) (by omega))
   have hun:bs.getD k false=u:=by rw[List.getD_eq_getElem?_getD,hx.out];rfl
   obtain⟨M,hM⟩:∃ M,M=bitsOf k (fun i=>bs.getD i false):=⟨_,rfl⟩
   cases u
   ·have HB:Hid (bitsOf (k+1) (fun i=>bs.getD i false)=M):=hid (by rw[bitsOf,hun,hM];simp)
    rw[<-hM]at H x0 hb64
    have H2:=H
    clear hun hbl hb64 hM H
    go_wp2
    go_roundw
    case rel=>exact⟨k+1,by go_num,by omega,by rw[HB.out];exact H2⟩
    case measure=>simp[intOf];omega
   ·have HB:Hid (bitsOf (k+1) (fun i=>bs.getD i false)=addB M k):=hid (by rw[bitsOf,hun,hM];simp[addB])
    rw[<-hM]at H x0 hb64
    have H2:=H
    have P:=hid hb64
    clear hun hbl hb64 hM H
    go_wp2_with fail
    refine (add_own H2 0 rfl (k:Int) P.out (by omega) (by omega)).mono ?_
    rintro e w2 ⟨⟨u,rfl⟩,H3⟩
    go_wp2
    go_roundw
    case rel=>exact⟨k+1,by go_num,by omega,by rw[HB.out];exact H3⟩
    case measure=>simp[intOf];omega
  ·obtain⟨M,hM⟩:∃ M,M=bitsOf k (fun i=>bs.getD i false):=⟨_,rfl⟩
   have HB:Hid (M=setM bs):=hid (by rw[hM,show k=bs.length by omega];rfl)
   rw[<-hM]at H x0
   have HD:=H.below
   clear H hM
   go_wp2
   go_ret
   exact⟨ret_i (by rw[HB.out]),HD⟩
theorem Tryz.infoSl:(Tryz.prog.info? 27).map (fun i=>(i.zero,i.size,i.bytes))=some (some (.slice none 0 0),1,24):=by kernel_rfl
section
variable {lo:Nat} {w0 w:World} {L:List OB}
abbrev OB.rowS (v:Value) (vs:List Value):OB:=.row 27 1 v vs.length vs
theorem Owns.formS (h:Owns lo w0 w L) (i:Nat) {v:Value}{vs:List Value}(hX:L[i]?=some (.rowS v vs)):∃ A c,v=.slice A vs.length c:=by
 rcases (h.own i hX).2 with⟨rfl,h0⟩|⟨g,cap,cur,rfl,-⟩
 ·exact⟨none,0,by rw[h0]⟩
 ·exact⟨_,_,rfl⟩
theorem rdV_row (h:Owns lo w0 w L) (i:Nat) {A:Option Addr}{n c:Nat}{vs:List Value}(hX:L[i]?=some (.row 27 1 (.slice A n c) n vs)):RdV w w.heap.size A n c vs:=by
 obtain⟨A',c',e,hr⟩:=RdV_of_own (h.own i hX) (fun k e=>((h.own i hX).lt k e).2)
 injection e with e1 e2 e3
 subst e1 e3
 exact hr
theorem wp_pushR {o:Oper}{a:Act}{K:Act->World->Prop}{Q:Exit->Act->World->Prop}(s x:Operand)
  (hop:o.op=.call { callee:=.builtin .append,args:=#[s,x],argTypes:=#[178,178] })
  (h:Owns lo w0 w L) (i:Nat) {v:Value} {vs:List Value} (hX:L[i]?=some (.rowS v vs)) (hs:a.eval s=v) {B:Nat} {A:Option Addr} {n c:Nat} {us:List Value} (hx:a.eval x=.slice A n c) (hr:RdV w B A n c us) (h1:∀ u∈us,u.oneCell'=true) (hb:vs.length+n<=1099511627776)
  (hK:∀ A' c' w',Owns lo w0 w' (L.set i (.rowS (.slice A' (vs++us).length c') (vs++us)))->K (a.put o.dst (.slice A' (vs++us).length c')) w'):o.wp Tryz.prog a w K Q:=by
 obtain⟨i0,hi,hz0,hz1,hz2⟩:=info_parts Tryz.infoSl
 obtain⟨v',w',hrun,ho,hg,hat⟩:=run_pushV Tryz.underlying178 hi hz0 hz1 hz2 rfl (by omega) (h.own i hX) hr h1 hb h.le o.type
 have hl:vs.length+n=(vs++us).length:=by have:=hr.len;simp;omega
 rw[hl]at ho
 have hv:∃ A' c',v'=.slice A' (vs++us).length c':=by
  rcases ho.2 with⟨rfl,h0⟩|⟨g,cap,cur,rfl,-⟩
  ·exact⟨none,0,by rw[h0]⟩
  ·exact⟨_,_,rfl⟩
 obtain⟨A',c',rfl⟩:=hv
 unfold Oper.wp execOp
 simp only[hop,resolve,invoke,builtin,Sem.run_bind,Sem.run_pure,Result.andThen_ok,List.map_toArray,List.map_cons,List.map_nil,hs,hx,hrun]
 exact hK A' c' w' (h.grow i hX ho hg hat)
theorem wpList_pushR {ops:Array Oper}{rest:List Oper}{o:Oper}{a:Act}{Q:Exit->Act->World->Prop}(hgd:o.guard=none) (s x:Operand)
  (hop:o.op=.call { callee:=.builtin .append,args:=#[s,x],argTypes:=#[178,178] })
  (h:Owns lo w0 w L) (i:Nat) {v:Value} {vs:List Value} (hX:L[i]?=some (.rowS v vs)) (hs:a.eval s=v) {B:Nat} {A:Option Addr} {n c:Nat} {us:List Value} (hx:a.eval x=.slice A n c) (hr:RdV w B A n c us) (h1:∀ u∈us,u.oneCell'=true) (hb:vs.length+n<=1099511627776)
  (hK:∀ A' c' w',Owns lo w0 w' (L.set i (.rowS (.slice A' (vs++us).length c') (vs++us)))->wpList Tryz.prog ops Q rest (a.put o.dst (.slice A' (vs++us).length c')) w'):wpList Tryz.prog ops Q (o::rest) a w:=
 wpList_plain hgd fun _ hK'=>wp_pushR s x hop h i hX hs hx hr h1 hb fun A' c' w' hO=>hK' _ _ (hK A' c' w' hO)
end
def Lst (w:World) (O:Nat) (u:Value):Prop:=∃ A n c xs,u=.slice A n c/\RdI w w.heap.size A n c xs/\n<=1000/\∀ r∈xs,hasB O r=false
set_option maxHeartbeats 3200000 in
set_option maxRecDepth 20000 in
theorem refersOutside_no (w:World) (B:Nat) (v:Value) (h:Hp) (S:Nat) (hh:RdH w B v h) (hn:h.cells.length<=64) (hS:S<2 ^ 64) (hrt:h.roots.length<=1000) (hrf:∀ c∈h.cells,c.refs.length<=1000) (h1:∀ r∈h.roots,hasB (lessB (usedM h.cells) S) r=false)
  (h2:∀ (k:Nat) (l:Cel),h.cells[k]?=some l->S.testBit k=true->∀ r∈l.refs,hasB (lessB (usedM h.cells) S) r=false):
  Calls Tryz.prog 159 #[v,.int .u64 S] w fun e w'=>e=.returned (.bool false)/\Below w.heap.size w w':=by
 have hh':=hh.top
 obtain⟨D,m,d,D',m',d',rfl,hC,hR⟩:=hh.top
 have l3:=hC.le1;have l4:=hC.le2
 have l5:=RdI.le1 hR;have l6:=RdI.le2 hR
 obtain⟨U,hU⟩:∃ U,U=usedM h.cells:=⟨_,rfl⟩
 obtain⟨O,hO⟩:∃ O,O=lessB U S:=⟨_,rfl⟩
 rw[<-hU,<-hO]at h1 h2
 have HUe:=hid hU
 have HO:Hid (O<2 ^ 64):=hid (by rw[hO];exact lessB_lt _ _)
 have HSl:=hid hS
 have tO:Go.bits .andNot .u64 (U:Int) (S:Int)=(O:Int):=by rw[hO];exact bits_andNot U S
 have HL1:Hid (Lst w O (.slice D' m' d')):=hid ⟨_,_,_,_,rfl,hR,by omega,h1⟩
 have HL2:Hid (∀ (k:Nat) (l:Cel) (A2:Option Addr) (n2 c2:Nat),h.cells[k]?=some l->S.testBit k=true->RdI w w.heap.size A2 n2 c2 l.refs->Lst w O (.slice A2 n2 c2)):=hid fun k l A2 n2 c2 hl hb hr=>⟨_,_,_,_,rfl,hr,by have:=RdI.le1 hr;have:=hrf l (List.mem_of_getElem? hl);omega,h2 k l hl hb⟩
 clear hU hO h1 h2 hS hrf hR
 have H1:=(Owns.nil w).box [.slice D m d,.slice D' m' d'] 29
 go_enter Tryz.func159,Tryz.ntmps159
 go_wp2_with fail
 refine (usedSet_any _ _ _ h (hh'.below H1.below) hn).mono ?_
 rintro e w1 ⟨he,hb1⟩
 rw[<-HUe.out]at he
 subst he
 have H2:=H1.call hb1
 clear H1 hb1
 obtain⟨a0,a1,-,-⟩:=H2.box2 0 rfl
 have H3:=H2.lit [.slice D' m' d'] 27 one_le_maxLen
 simp only[List.length_cons,List.length_nil,Nat.zero_add]at H3
 obtain⟨c0,c1,-,-⟩:=H3.box2 1 rfl
 clear H2
 go_wp2_with fail
 clear a0 a1 c0 c1
 go_loopw [6,23] (fun v i wr=>∃ (k:Nat) (vs:List Value),i=.int .i64 k/\k<=m/\vs.length<=k+1/\(∀ u∈vs,Lst w O u)/\Owns w.heap.size w wr [.rowS v vs,.box w.heap.size [.slice D m d,.slice D' m' d'] 29]) (fun _ i _=>m - (intOf i).toNat)
 case atStart=>exact⟨0,[.slice D' m' d'],rfl,Nat.zero_le _,by simp,fun u hu=>by rw[List.mem_singleton.1 hu];exact HL1.out,H3⟩
 case round =>
  clear H3
  obtain⟨k,vs,rfl,hk,hvl,hvs,H⟩:=hrel
  obtain⟨Av,cv,rfl⟩:=H.formS 0 rfl
  obtain⟨a0,a1,-,-⟩:=H.box2 1 rfl
  by_cases hlt:k<m
  ·obtain⟨b,o,l,A2,n2,c2,rfl,hbb,hx,q1,q2,q3,hrf⟩:=hC.at_ hlt
   have g1:=H.ro q1 hbb
   have g2:=H.ro q2 hbb
   have g3:=H.ro q3 hbb
   have HVs:=hid hvs
   have HBox:=H.box [.bool l.used,.int .i64 l.data,.slice A2 n2 c2] 68
   have HRf:=hid hrf.top
   clear q1 q2 q3 hvs hrf H
   go_wp2_with fail
   refine (has_any S (k:Int) _ HSl.out).mono ?_
   rintro e w2 ⟨rfl,hw2⟩
   obtain rfl:=hw2
   rw[hasB_nat]
   cases hb:S.testBit k
   ·have H4:=HBox.erase 0
    simp only[List.eraseIdx_cons_zero]at H4
    clear HBox hb
    go_wp2
    go_roundw
    case rel=>exact⟨k+1,vs,by go_num,by omega,by omega,HVs.out,H4⟩
    case measure=>simp[intOf];omega
   ·have HNew:=hid (HL2.out k l A2 n2 c2 hx.out hb HRf.out)
    obtain⟨b0,b1,b2,-,-,-⟩:=HBox.box3 0 rfl
    have H5:=HBox.lit [.slice A2 n2 c2] 27 one_le_maxLen
    simp only[List.length_cons,List.length_nil,Nat.zero_add,World.size_alloc]at H5
    have HRd:=hid (rdV_row H5 0 rfl)
    have HOne:Hid (∀ u∈[Value.slice A2 n2 c2],u.oneCell'=true):=hid fun u hu=>by rw[List.mem_singleton.1 hu];rfl
    clear hb HBox
    go_wp2_with (at_builtin;go_loud (refine wpList_pushR rfl (.tmp 31) (.tmp 34) rfl H5 2 rfl rfl rfl HRd.out HOne.out (by omega) ?_;intro A3 k3 w5 H6;simp only[lsz]at H6))
    have H7:=(H6.erase 0).erase 0
    simp only[List.eraseIdx_cons_zero]at H7
    go_roundw
    case rel=>exact⟨k+1,vs++[.slice A2 n2 c2],by go_num,by omega,by simp;omega,fun u hu=>(List.mem_append.1 hu).elim (HVs.out u) (fun e=>by rw[List.mem_singleton.1 e];exact HNew.out),by simpa using H7⟩
    case measure=>simp[intOf];omega
  ·have H3:=H
   have HVs:=hid hvs
   have hvl2:vs.length<=100:=by omega
   clear H hvs a0 a1 hvl
   go_wp2_with fail
   clear hlt hk
   go_loopw [39] (fun i wr=>∃ k:Nat,i=.int .i64 k/\k<=vs.length/\Owns w.heap.size w wr [.rowS (.slice Av vs.length cv) vs,.box w.heap.size [.slice D m d,.slice D' m' d'] 29]) (fun i _=>vs.length - (intOf i).toNat)
   case atStart=>exact⟨0,rfl,Nat.zero_le _,H3⟩
   case round =>
    clear H3
    obtain⟨k,rfl,hk,H⟩:=hrel
    by_cases hlt:k<vs.length
    ·obtain⟨u,hu0⟩:∃ u,Hid (vs[k]?=some u):=⟨_,hid (List.getElem?_eq_getElem hlt)⟩
     obtain⟨A4,n4,c4,xs4,rfl,r4,hn4,hx4⟩:=HVs.out u (List.mem_of_getElem? hu0.out)
     obtain⟨g0,c0,e0,-,-,-,-⟩:=H.rowAt 0 rfl (by omega)
     simp only[Value.slice.injEq]at e0
     obtain⟨rfl,-,rfl⟩:=e0
     obtain⟨z0,-⟩:=H.elem 0 rfl (j:=k) (u:=.slice A4 n4 c4) hu0.out
     have i1:(0:Int)<=(k:Int):=by omega
     have i2:(k:Int)<(vs.length:Int):=by omega
     have HX4:=hid hx4
     have H5:=H
     clear H hx4 hu0
     go_wp2_with fail
     clear z0
     go_loopw [45] (fun i wr=>∃ j:Nat,i=.int .i64 j/\j<=n4/\Owns w.heap.size w wr [.rowS (.slice (some ⟨g0,0,none⟩) vs.length cv) vs,.box w.heap.size [.slice D m d,.slice D' m' d'] 29]) (fun i _=>n4 - (intOf i).toNat)
     case atStart=>exact⟨0,rfl,Nat.zero_le _,H5⟩
     case round =>
      clear H5
      obtain⟨j,rfl,hj,H⟩:=hrel
      by_cases hjl:j<n4
      ·obtain⟨b,o,x,rfl,hbb,hx,g1⟩:=RdI.at_ (r4.below H.below) hjl
       have hno:=hid (HX4.out x (List.mem_of_getElem? hx.out))
       go_wp2_with fail
       refine (has_any O x _ HO.out).mono ?_
       rintro e w2 ⟨rfl,hw2⟩
       obtain rfl:=hw2
       rw[hno.out]
       go_wp2
       go_roundw
       case rel=>first|exact⟨j+1,by go_num,by omega,H⟩|exact⟨j+1,by go_num,by omega⟩
       case measure=>simp[intOf];omega
      ·go_wp2
       go_roundw
       case rel=>first|exact⟨k+1,by go_num,by omega,H⟩|exact⟨k+1,by go_num,by omega⟩
       case measure=>simp[intOf];omega
    ·have HB:=H.below
     clear H
     go_wp2
     go_ret
     exact⟨rfl,HB⟩
end
theorem out_bit {h:Hp}{ms:List Bool}(h64:h.cells.length<=64) (i:Nat):(lessB (usedM h.cells) (setM ms)).testBit i=(usedN h.cells i && !atB ms i):=by
 rw[lessB_bit _ _ _ (usedM_lt _),usedM_bit h64,setM_bit];rfl
theorem out_no {h:Hp}{ms:List Bool}(h64:h.cells.length<=64) {r:Int}(hr:0<=r->atB ms r.toNat=true):hasB (lessB (usedM h.cells) (setM ms)) r=false:=by
 unfold hasB
 by_cases h0:0<=r
 ·rw[out_bit h64,hr h0];simp
 ·simp[h0]
theorem free_cel {h:Hp}(h0:heapOk h=true) {i:Nat}(hi:i<h.cells.length) (hu:usedN h.cells i=false):h.cells.getD i noCel=noCel:=by
 simp only[heapOk,Bool.and_eq_true,List.all_eq_true]at h0
 have h1:=h0.1.2 _ (List.getElem_mem hi)
 rw[List.getD_eq_getElem?_getD,List.getElem?_eq_getElem hi]
 have h2:h.cells[i].used=false:=by rw[<-usedN_at (hid (List.getElem?_eq_getElem hi))];exact hu
 unfold cellOk at h1
 rw[if_neg (by rw[h2];exact Bool.false_ne_true)]at h1
 simp only[Bool.and_eq_true,beq_iff_eq,decide_eq_true_eq]at h1
 show h.cells[i]=noCel
 generalize h.cells[i]=c at *
 obtain⟨u,d,rs⟩:=c
 simp only at h1 h2
 obtain⟨e1,e2⟩:=h1
 rw[List.length_eq_zero_iff]at e2
 subst h2 e1 e2
 rfl
theorem gone_bit {h:Hp}{ms:List Bool}(h64:h.cells.length<=64) (i:Nat):goneB (lessB (usedM h.cells) (setM ms)) h.cells i=(usedN h.cells i && !atB ms i):=by
 unfold goneB
 rw[out_bit h64]
 show (usedN h.cells i && !atB ms i && usedN h.cells i)=_
 cases usedN h.cells i <;> simp
theorem sweep_cells {h:Hp}{ms:List Bool}(h0:heapOk h=true) (hl:ms.length=h.cells.length):wipeTo (lessB (usedM h.cells) (setM ms)) h.cells h.cells.length=(mDrop h (deadL ms)).cells:=by
 have h64:h.cells.length<=64:=by have:=(heapOk_small h0).1;omega
 show _=wipeP _ _ _
 unfold wipeTo wipeP
 refine List.map_congr_left fun i hi=>?_
 have hi:=List.mem_range.1 hi
 rw[gone_bit h64,atB_dead (by omega)]
 cases hu:usedN h.cells i
 ·rw[free_cel h0 hi hu];simp
 ·simp
theorem sweep_cnt {h:Hp}{ms:List Bool}(h0:heapOk h=true):cntTo (lessB (usedM h.cells) (setM ms)) h.cells h.cells.length=cntP (lostS h ms) h.cells.length:=by
 have h64:h.cells.length<=64:=by have:=(heapOk_small h0).1;omega
 unfold cntTo cntP
 congr 1
 refine List.filter_congr fun i _=>?_
 rw[gone_bit h64]
 unfold lostS
 rw[Bool.and_comm]
set_option maxHeartbeats 3200000 in
set_option maxRecDepth 20000 in
theorem implSweep_keeps (w:World) (B B':Nat) (v:Value) (h:Hp) (A:Option Addr) (n c:Nat) (ms:List Bool) (hh:RdH w B v h) (hok:heapOk h=true) (hr:RdB w B' A n c ms) (hK:Keeps h ms):
  Calls Tryz.prog 157 #[v,.slice A n c] w (MadeHN w (mDrop h (deadL ms)) ((cntP (lostS h ms) h.cells.length:Nat):Int)):=by
 have hh':=hh.top
 have hr:=hr.top
 obtain⟨D,m,d,D',m',d',rfl,hC,hR⟩:=hh.top
 have l3:=hC.le1;have l4:=hC.le2
 have l1:=RdB.le1 hr;have l2:=RdB.le2 hr
 have hml:=hK.len
 obtain⟨s4,s5⟩:=heapOk_small hok
 have g:=good_iff.1 hok
 have h64:h.cells.length<=64:=by omega
 obtain rfl:m=n:=by omega
 have hn64:m<=64:=by omega
 have hrefs:∀ c∈h.cells,c.refs.length<=3:=fun c hc=>by
  have:=g.cell c hc
  rw[cellOk_iff]at this
  rcases this with k|k
  ·exact k.2.2.2.2
  ·rw[k.2.2];simp
 have HH3:Hid (∀ c∈h.cells,c.refs.length<=1048576):=hid fun c hc=>by have:=hrefs c hc;omega
 obtain⟨S,hS⟩:∃ S,S=setM ms:=⟨_,rfl⟩
 obtain⟨O,hO⟩:∃ O,O=lessB (usedM h.cells) S:=⟨_,rfl⟩
 have HSe:=hid hS
 have HS6:Hid (S<2 ^ 64):=hid (by rw[hS];exact setM_lt (by omega))
 have HO6:Hid (O<2 ^ 64):=hid (by rw[hO];exact lessB_lt _ _)
 obtain⟨U,hU⟩:∃ U,U=usedM h.cells:=⟨_,rfl⟩
 have HUe:=hid hU
 have tO:Go.bits .andNot .u64 (U:Int) (S:Int)=(O:Int):=by rw[hO,hU];exact bits_andNot _ S
 have HRoot:Hid (∀ r∈h.roots,hasB (lessB (usedM h.cells) S) r=false):=hid fun r hrr=>by
  rw[hS]
  exact out_no h64 fun h0=>hK.root r hrr h0
 have HRefs:Hid (∀ (k:Nat) (l:Cel),h.cells[k]?=some l->S.testBit k=true->∀ r∈l.refs,hasB (lessB (usedM h.cells) S) r=false):=hid fun k l hl hb r hrr=>by
  rw[hS]at hb⊢
  rw[setM_bit]at hb
  exact out_no h64 fun h0=>hK.ref k l hl hb r hrr h0
 have HRl:Hid (∀ c∈h.cells,c.refs.length<=1000):=hid fun c hc=>by have:=hrefs c hc;omega
 obtain⟨T,hT⟩:∃ T,T=mDrop h (deadL ms):=⟨_,rfl⟩
 obtain⟨N,hN⟩:∃ N:Int,N=((cntP (lostS h ms) h.cells.length:Nat):Int):=⟨_,rfl⟩
 have HCe:Hid (wipeTo O h.cells h.cells.length=T.cells/\T.roots=h.roots/\N=((cntTo O h.cells h.cells.length:Nat):Int)):=hid (by
  rw[hT,hN,hO,hS]
  exact⟨sweep_cells hok hml,rfl,by rw[sweep_cnt hok]⟩)
 rw[<-hT,<-hN]
 have HOk:=hid hok
 have hrt:h.roots.length<=1000:=by omega
 clear hS hO hU g hrefs hok s5 hK hT hN
 have H1:=((Owns.nil w).box [.slice D m d,.slice D' m' d'] 29).box [.slice none 0 0,.slice none 0 0] 29
 simp only[lnm]at H1
 go_enter Tryz.func157,Tryz.ntmps157
 go_wp2_with fail
 have HX:=H1.drew
 have H0:=hid H1
 clear H1
 obtain⟨b0,b1,-,-⟩:=HX.box2 1 rfl
 refine wp_region_tree (fun w'=>w'.cell? ⟨w.heap.size,0,none⟩=some (.slice D m d)/\w'.cell? ⟨w.heap.size,1,none⟩=some (.slice D' m' d')) 17 [] (.take 0 (.alt 1 (.take 2 (.take 3 (.take 4 (.take 5 (.take 6 (.take 7 (.take 8 (.take 9 (.take 10 (.take 11 (.take 12 (.take 13 (.alt 14 (.alt 15 (.take 16 (.done)) (.stop)) (.stop)))))))))))))) (.stop))) (by kernel_rfl) (by kernel_rfl) (by kernel_rfl) (⟨b0,b1⟩) ?_
 simp only[fillT,lgz,Nat.reduceBEq]
 repeat first|(with_reducible apply po_take;(·(go_simp;done));(·(intro w' hS';(try dsimp only at hS');go_simp;try with_reducible rfl));simp only[lpa])|(with_reducible apply po_skip;(·(go_simp;done));simp only[lpa])
 with_reducible refine po_last ?_ (fun K hK=>?_)
 ·(go_simp;done)
 try (revert b0 b1 HX;generalize World.drew _=wd;intro HX b0 b1)
 go_simp
 refine (heapValid_any _ _ _ h (hh'.below HX.below)).mono ?_
 rintro e w3 ⟨rfl,hb⟩
 rw[HOk.out]
 replace HX:=HX.call hb
 clear hb b0 b1
 obtain⟨b0,b1,-,-⟩:=HX.box2 1 rfl
 refine hK.out _ _ (.inr (⟨b0,b1⟩)) ?_
 clear hK K
 repeat first|(with_reducible apply po_take;(·(go_simp;done));(·(intro w' hS';(try dsimp only at hS');go_simp;try with_reducible rfl));simp only[lpa])|(with_reducible apply po_skip;(·(go_simp;done));simp only[lpa])
 with_reducible refine po_last ?_ (fun K hK=>?_)
 ·(go_simp;done)
 go_simp
 refine (setOf_any _ _ _ _ _ ms (hr.below HX.below) hn64).mono ?_
 rintro e w4 ⟨he,hb⟩
 rw[<-HSe.out]at he
 subst he
 replace HX:=HX.call hb
 clear hb b0 b1
 obtain⟨b0,b1,-,-⟩:=HX.box2 1 rfl
 refine hK.out _ _ (.inr (⟨b0,b1⟩)) ?_
 clear hK K
 with_reducible refine po_last ?_ (fun K hK=>?_)
 ·(go_simp;done)
 go_simp
 refine (refersOutside_no _ _ _ h S (hh'.below HX.below) h64 HS6.out hrt HRl.out HRoot.out HRefs.out).mono ?_
 rintro e w5 ⟨rfl,hb⟩
 replace HX:=HX.call hb
 clear hb b0 b1
 obtain⟨b0,b1,-,-⟩:=HX.box2 1 rfl
 refine hK.out _ _ (.inr (⟨b0,b1⟩)) ?_
 clear hK K
 repeat first|(with_reducible apply po_take;(·(go_simp;done));(·(intro w' hS';(try dsimp only at hS');go_simp;try with_reducible rfl));simp only[lpa])|(with_reducible apply po_skip;(·(go_simp;done));simp only[lpa])
 refine po_done ?_
 clear H0
 go_wp2_with fail
 refine (copyHeap_any _ _ _ h (hh'.below HX.below) (by omega) (by omega) HH3.out).mono ?_
 rintro e w6 ⟨v6,rfl,ho,hb⟩
 obtain⟨cv,rvs,rv,rfl,H5⟩:=HX.madeH ho hb
 obtain⟨X1,x1,rfl,-⟩:=H5.formC 0 rfl
 obtain⟨X2,x2,rfl,-⟩:=H5.formI 1 rfl
 have H6:=H5.box [.slice X1 h.cells.length x1,.slice X2 h.roots.length x2] 29
 clear HX H5 ho hb b0 b1
 obtain⟨b0,b1,-,-⟩:=H6.box2 4 rfl
 go_wp2_with fail
 refine (usedSet_any _ _ _ h (hh'.below H6.below) h64).mono ?_
 rintro e w7 ⟨he,hb⟩
 rw[<-HUe.out]at he
 subst he
 have H7:=H6.call hb
 clear H6 hb b0 b1
 go_wp2_with fail
 refine (setOf_any _ _ _ _ _ ms (hr.below H7.below) hn64).mono ?_
 rintro e w8 ⟨he,hb⟩
 rw[<-HSe.out]at he
 subst he
 have H8:=H7.call hb
 clear H7 hb
 go_wp2_with fail
 refine (freeCells_own H8 HO6.out (by omega)).mono ?_
 rintro e w9 ⟨rfl,rvs9,H9⟩
 rw[HCe.out.1]at H9
 rw[<-HCe.out.2.2]
 clear H8
 obtain⟨c0,c1,-,-⟩:=H9.box2 0 rfl
 obtain⟨d0,d1,d2,d3⟩:=H9.box2 3 rfl
 have HZ:=(H9.putBox 3 rfl 0 (.slice X1 h.cells.length x1)).putBox 3 rfl 1 (.slice X2 h.roots.length x2)
 simp only[lnm]at HZ
 obtain⟨z0,z1,-,-⟩:=HZ.box2 3 rfl
 have HE:=(HZ.erase 0).take 2
 simp only[lnm]at HE
 have HS:Hid (MadeHN w T N (.returned (.tuple #[.agg #[.slice X1 h.cells.length x1,.slice X2 h.roots.length x2],.int .i64 N])) _):=hid ⟨_,rvs9,_,rfl,by rw[HCe.out.2.1];exact HE⟩
 clear H9 HZ HE
 go_wp2
 exact bodyPost_ret (by simp[results,Tryz.results157,go_sem,z0,z1]) rfl HS.out
set_option maxHeartbeats 1600000 in
set_option maxRecDepth 20000 in
theorem implSweep_no (w:World) (B:Nat) (v:Value) (h:Hp) (A:Option Addr) (n c:Nat) (hh:RdH w B v h) (hok:heapOk h=false):
  Calls Tryz.prog 157 #[v,.slice A n c] w (MadeHN w (mCollect h) (mCollectN h)):=by
 have hh':=hh.top
 obtain⟨D,m,d,D',m',d',rfl,hC,hR⟩:=hh.top
 have HOk:=hid hok
 have HCe:Hid (mCollect h=⟨[],[]⟩/\mCollectN h=-1):=hid (by
  have e1:sweepOk h (mReachable h)=false:=by unfold sweepOk;rw[hok];rfl
  exact mSweep_no e1)
 clear hok
 have H1:=((Owns.nil w).box [.slice D m d,.slice D' m' d'] 29).box [.slice none 0 0,.slice none 0 0] 29
 simp only[lnm]at H1
 go_enter Tryz.func157,Tryz.ntmps157
 go_wp2_with fail
 have HX:=H1.drew
 have H0:=hid H1
 clear H1
 obtain⟨b0,b1,-,-⟩:=HX.box2 1 rfl
 refine wp_region_tree (fun w'=>w'.cell? ⟨w.heap.size,0,none⟩=some (.slice D m d)/\w'.cell? ⟨w.heap.size,1,none⟩=some (.slice D' m' d')) 17 [] (.take 0 (.alt 1 (.take 2 (.take 3 (.take 4 (.take 5 (.take 6 (.take 7 (.take 8 (.take 9 (.take 10 (.take 11 (.take 12 (.take 13 (.alt 14 (.alt 15 (.take 16 (.done)) (.stop)) (.stop)))))))))))))) (.stop))) (by kernel_rfl) (by kernel_rfl) (by kernel_rfl) (⟨b0,b1⟩) ?_
 simp only[fillT,lgz,Nat.reduceBEq]
 repeat first|(with_reducible apply po_take;(·(go_simp;done));(·(intro w' hS';(try dsimp only at hS');go_simp;try with_reducible rfl));simp only[lpa])|(with_reducible apply po_skip;(·(go_simp;done));simp only[lpa])
 with_reducible refine po_last ?_ (fun K hK=>?_)
 ·(go_simp;done)
 try (revert b0 b1 HX;generalize World.drew _=wd;intro HX b0 b1)
 go_simp
 refine (heapValid_any _ _ _ h (hh'.below HX.below)).mono ?_
 rintro e w3 ⟨rfl,hb⟩
 rw[HOk.out]
 replace HX:=HX.call hb
 clear hb b0 b1
 obtain⟨b0,b1,-,-⟩:=HX.box2 1 rfl
 refine hK.out _ _ (.inr (⟨b0,b1⟩)) ?_
 clear hK K
 repeat first|(with_reducible apply po_take;(·(go_simp;done));(·(intro w' hS';(try dsimp only at hS');go_simp;try with_reducible rfl));simp only[lpa])|(with_reducible apply po_skip;(·(go_simp;done));simp only[lpa])
 with_reducible refine po_no ?_ ?_ ?_ ?_
 ·(go_simp;done)
 ·exact .inr (⟨b0,b1⟩)
 rotate_left
 ·exact po_stop
 simp only[lpa]
 with_reducible refine po_no ?_ ?_ ?_ ?_
 ·(go_simp;done)
 ·exact .inr (⟨b0,b1⟩)
 rotate_left
 ·exact po_stop
 simp only[lpa]
 repeat first|(with_reducible apply po_take;(·(go_simp;done));(·(intro w' hS';(try dsimp only at hS');go_simp;try with_reducible rfl));simp only[lpa])|(with_reducible apply po_skip;(·(go_simp;done));simp only[lpa])
 refine po_done ?_
 clear H0 b0 b1
 obtain⟨d0,d1,d2,d3⟩:=HX.box2 0 rfl
 have HZ:=(((HX.putBox 0 rfl 0 (.slice none 0 0)).putBox 0 rfl 1 (.slice none 0 0)).noInts).noCells
 simp only[lnm]at HZ
 obtain⟨z0,z1,-,-⟩:=HZ.box2 2 rfl
 have HE:=HZ.take 2
 simp only[lnm]at HE
 have HS:Hid (MadeHN w (mCollect h) (mCollectN h) (.returned (.tuple #[.agg #[.slice none 0 0,.slice none 0 0],.int .i64 (-1)])) _):=hid (by rw[HCe.out.1,HCe.out.2];exact⟨_,[],_,rfl,HE⟩)
 clear HX HZ HE
 go_wp2
 exact bodyPost_ret (by simp[results,Tryz.results157,go_sem,z0,z1]) rfl HS.out
theorem implSweep_any (w:World) (B B':Nat) (v:Value) (h:Hp) (A:Option Addr) (n c:Nat) (hh:RdH w B v h) (hr:RdB w B' A n c (mReachable h)):
  Calls Tryz.prog 157 #[v,.slice A n c] w (MadeHN w (mCollect h) (mCollectN h)):=by
 cases hy:heapOk h
 ·exact implSweep_no w B v h A n c hh hy
 ·have hK:=keeps_reach hy
  have e:=mSweep_yes (hK.ok hy)
  unfold mCollect mCollectN
  rw[e.1,e.2]
  exact implSweep_keeps w B B' v h A n c _ hh hy hr hK
set_option maxHeartbeats 3200000 in
set_option maxRecDepth 20000 in
theorem implCollect_any (w:World) (B:Nat) (v:Value) (h:Hp) (hh:RdH w B v h):
  Calls Tryz.prog 156 #[v] w (MadeHN w (mCollect h) (mCollectN h)):=by
 have hh':=hh.top
 obtain⟨D,m,d,D',m',d',rfl,hC,hR⟩:=hh.top
 have H:=((Owns.nil w).box [.slice D m d,.slice D' m' d'] 29).box [.slice none 0 0,.slice none 0 0] 29
 simp only[lnm]at H
 go_enter Tryz.func156,Tryz.ntmps156
 go_wp2_with fail
 have HX:=H.drew
 have H0:=hid H
 clear H
 obtain⟨a0,a1,-,-⟩:=HX.box2 1 rfl
 refine wp_region_tree (fun w'=>w'.cell? ⟨w.heap.size,0,none⟩=some (.slice D m d)/\w'.cell? ⟨w.heap.size,1,none⟩=some (.slice D' m' d')) 8 [] (.take 0 (.take 1 (.alt 2 (.alt 3 (.take 4 (.take 5 (.alt 6 (.take 7 (.done)) (.stop)))) (.stop)) (.stop)))) (by kernel_rfl) (by kernel_rfl) (by kernel_rfl) (⟨a0,a1⟩) ?_
 simp only[fillT,lgz,Nat.reduceBEq]
 repeat first|(with_reducible apply po_take;(·(go_simp;done));(·(intro w' hS';(try dsimp only at hS');go_simp;try with_reducible rfl));simp only[lpa])|(with_reducible apply po_skip;(·(go_simp;done));simp only[lpa])
 with_reducible refine po_last ?_ (fun K hK=>?_)
 ·(go_simp;done)
 go_simp
 refine (implReachable_any _ _ _ h (hh'.below HX.below)).mono ?_
 rintro e w1 ⟨vR,rfl,ho,hb⟩
 replace HX:=HX.madeB ho hb
 obtain⟨V,kV,rfl,rV⟩:=HX.formB 0 rfl
 clear a0 a1 ho hb
 obtain⟨a0,a1,-,-⟩:=HX.box2 2 rfl
 refine hK.out _ _ (.inr (⟨a0,a1⟩)) ?_
 clear hK K
 with_reducible refine po_last ?_ (fun K hK=>?_)
 ·(go_simp;done)
 go_simp
 refine (implSweep_any _ _ _ _ h _ _ _ (hh'.below HX.below) rV).mono ?_
 rintro e w2 ⟨cv,rvs,rv,rfl,K⟩
 replace K:=HX.merge K
 simp only[lca]at K
 obtain⟨T,hT⟩:∃ T,T=mCollect h:=⟨_,rfl⟩
 rw[<-hT]at K
 have HT:Hid (T=mCollect h):=hid hT
 clear hT HX
 have HX:=K
 clear K
 obtain⟨C,kC,rfl,-⟩:=HX.formC 0 rfl
 obtain⟨R,kR,rfl,-⟩:=HX.formI 1 rfl
 clear a0 a1
 obtain⟨a0,a1,-,-⟩:=HX.box2 4 rfl
 refine hK.out _ _ (.inr (⟨a0,a1⟩)) ?_
 clear hK K
 repeat first|(with_reducible apply po_take;(·(go_simp;done));(·(intro w' hS';(try dsimp only at hS');go_simp;try with_reducible rfl));simp only[lpa])|(with_reducible apply po_skip;(·(go_simp;done));simp only[lpa])
 with_reducible refine po_last ?_ (fun K hK=>?_)
 ·(go_simp;done)
 obtain⟨y0,y1,y2,y3⟩:=HX.box2 3 rfl
 go_simp
 have HZ:=(HX.putBox 3 rfl 0 (.slice C T.cells.length kC)).putBox 3 rfl 1 (.slice R T.roots.length kR)
 simp only[lnm]at HZ
 clear a0 a1
 obtain⟨a0,a1,-,-⟩:=HZ.box2 4 rfl
 refine hK.out _ _ (.inr (⟨a0,a1⟩)) ?_
 clear hK K
 repeat first|(with_reducible apply po_take;(·(go_simp;done));(·(intro w' hS';(try dsimp only at hS');go_simp;try with_reducible rfl));simp only[lpa])|(with_reducible apply po_skip;(·(go_simp;done));simp only[lpa])
 refine po_done ?_
 obtain⟨z0,z1,-,-⟩:=HZ.box2 3 rfl
 have HS:Hid (MadeHN w (mCollect h) (mCollectN h) (.returned (.tuple #[.agg #[.slice C T.cells.length kC,.slice R T.roots.length kR],.int .i64 (mCollectN h)])) _):=hid (by rw[<-HT.out];exact⟨_,rvs,_,rfl,HZ.take 2⟩)
 clear HX HZ H0 a0 a1
 go_wp2
 exact bodyPost_ret (by simp[results,Tryz.results156,go_sem,z0,z1]) rfl HS.out
theorem execute_zero (w:World) (B:Nat) (v:Value) (h:Hp) (hh:RdH w B v h) (o:Cmd) (g:Good h) (hc:cmdOk o=true) (hp:possB h o=true):Calls Tryz.prog 79 #[v,cmdV o,.int .i64 0] w (MadeHp w (mDo h o 0)):=execute_any w B v h hh o g hc hp 0 (Nat.zero_le _)
set_option maxHeartbeats 6400000 in
set_option maxRecDepth 20000 in
theorem implStepSweep_any (w:World) (B:Nat) (v:Value) (h:Hp) (hh:RdH w B v h) (L:Nat) (hL1:1<=L) (hL2:L<=40) (o:Cmd) (g:Good h) (hc:cmdOk o=true):
  Calls Tryz.prog 155 #[v,.int .i64 (L:Int),cmdV o] w (MadeHBl w (stepSw h L o).1 (stepSw h L o).2):=by
 have hh':=hh.top
 obtain⟨D,m,d,D',m',d',rfl,hC,hR⟩:=hh.top
 have hl40:=g.len
 have hr4:h.roots.length<=4:=by have:=g.roots;omega
 obtain⟨op,a,b,c⟩:=o
 have H:=(((Owns.nil w).box [.slice D m d,.slice D' m' d'] 29).box [.int .i64 op,.int .i64 a,.int .i64 b,.int .i64 c] 79).box [.slice none 0 0,.slice none 0 0] 29
 simp only[lnm]at H
 have HY:=hid (good_iff.2 g)
 have HC:=hid hc
 have GG:=hid g
 have HI:=hid (inR_L hL1 hL2)
 have HN3:=hid (good_small g)
 have HH:=hid hh'
 clear hc g hh hh' hC hR
 obtain⟨a0,a1,-,-⟩:=H.box2 2 rfl
 obtain⟨b0,b1,b2,b3,-,-,-,-⟩:=box4 H 1 rfl
 go_enter Tryz.func155,Tryz.ntmps155
 go_wp2_with fail
 refine (heapValid_any _ _ _ h (HH.out.below H.below)).mono ?_
 rintro e w1 ⟨rfl,hb⟩
 rw[HY.out]
 replace H:=H.call hb
 clear hb a0 a1 b0 b1 b2 b3
 obtain⟨a0,a1,-,-⟩:=H.box2 2 rfl
 obtain⟨b0,b1,b2,b3,-,-,-,-⟩:=box4 H 1 rfl
 go_wp2_with fail
 refine (isLimit_any (L:Int) _).mono ?_
 rintro e w3 ⟨rfl,hw⟩
 obtain rfl:=hw
 rw[HI.out]
 go_wp2_with fail
 refine (implCommandValid_any ⟨op,a,b,c⟩ _).mono ?_
 rintro e w2 ⟨rfl,hb⟩
 rw[HC.out]
 replace H:=H.call hb
 clear hb a0 a1 b0 b1 b2 b3
 obtain⟨a0,a1,-,-⟩:=H.box2 2 rfl
 obtain⟨b0,b1,b2,b3,-,-,-,-⟩:=box4 H 1 rfl
 go_wp2_with fail
 refine (implPossible_any _ _ _ h (HH.out.below H.below) ⟨op,a,b,c⟩).mono ?_
 rintro e w4 ⟨rfl,hb⟩
 rw[mPoss_yes HY.out HC.out]
 replace H:=H.call hb
 clear hb a0 a1 b0 b1 b2 b3
 obtain⟨a0,a1,-,-⟩:=H.box2 2 rfl
 obtain⟨b0,b1,b2,b3,-,-,-,-⟩:=box4 H 1 rfl
 cases hp:possB h ⟨op,a,b,c⟩
 ·have HF:=hid (stepSw_no (L:=L) hp)
  clear hp
  go_wp2_with fail
  refine (copyHeap_any _ _ _ h (HH.out.below H.below) (by omega) (by omega) HN3.out).mono ?_
  rintro e w5 ⟨v1,rfl,ho,hb⟩
  obtain⟨cv,rvs,rv,rfl,K⟩:=H.madeH ho hb
  clear ho hb
  obtain⟨C',kC',rfl,-⟩:=K.formC 0 rfl
  obtain⟨R',kR',rfl,-⟩:=K.formI 1 rfl
  clear H a0 a1 b0 b1 b2 b3
  obtain⟨y0,y1,y2,y3⟩:=K.box2 2 rfl
  have HZ:=(K.putBox 2 rfl 0 (.slice C' h.cells.length kC')).putBox 2 rfl 1 (.slice R' h.roots.length kR')
  simp only[lnm]at HZ
  obtain⟨z0,z1,-,-⟩:=HZ.box2 2 rfl
  obtain⟨z2,-,-,-⟩:=(K.putBox 2 rfl 0 (.slice C' h.cells.length kC')).box2 2 rfl
  have HS:Hid (MadeHBl w (stepSw h L ⟨op,a,b,c⟩).1 (stepSw h L ⟨op,a,b,c⟩).2 (.returned (.tuple #[.agg #[.slice C' h.cells.length kC',.slice R' h.roots.length kR'],.bool false])) _):=hid (by rw[HF.out];exact⟨_,_,_,rfl,HZ.take 2⟩)
  clear K HZ
  go_wp2
  exact bodyPost_ret (by simp[results,Tryz.results155,go_sem,z0,z1,z2]) rfl HS.out
 have HP:=hid hp
 clear hp
 by_cases h1:op=1
 rotate_left
 ·have HF:Hid (stepSw h L ⟨op,a,b,c⟩=(mDo h ⟨op,a,b,c⟩ 0,true)):=hid (stepSw_other HP.out h1)
  have k3:(op != 1)=true:=by simp[h1]
  go_wp2_with fail
  refine (execute_zero _ _ _ h (HH.out.below H.below) ⟨op,a,b,c⟩ GG.out HC.out HP.out).mono ?_
  rintro e w5 ⟨cv2,rvs2,rv2,rfl,K⟩
  replace K:=H.merge K
  simp only[lca]at K
  obtain⟨T,hT⟩:∃ T,T=mDo h ⟨op,a,b,c⟩ 0:=⟨_,rfl⟩
  rw[<-hT]at K HF
  clear hT
  obtain⟨C',kC',rfl,-⟩:=K.formC 0 rfl
  obtain⟨R',kR',rfl,-⟩:=K.formI 1 rfl
  clear H a0 a1 b0 b1 b2 b3
  obtain⟨y0,y1,y2,y3⟩:=K.box2 2 rfl
  have HZ:=(K.putBox 2 rfl 0 (.slice C' T.cells.length kC')).putBox 2 rfl 1 (.slice R' T.roots.length kR')
  simp only[lnm]at HZ
  obtain⟨z0,z1,-,-⟩:=HZ.box2 2 rfl
  obtain⟨z2,-,-,-⟩:=(K.putBox 2 rfl 0 (.slice C' T.cells.length kC')).box2 2 rfl
  have HS:Hid (MadeHBl w (stepSw h L ⟨op,a,b,c⟩).1 (stepSw h L ⟨op,a,b,c⟩).2 (.returned (.tuple #[.agg #[.slice C' T.cells.length kC',.slice R' T.roots.length kR'],.bool true])) _):=hid (by rw[HF.out];exact⟨_,_,_,rfl,HZ.take 2⟩)
  clear K HZ
  go_wp2
  exact bodyPost_ret (by simp[results,Tryz.results155,go_sem,z0,z1,z2]) rfl HS.out
 have k3:(op != 1)=false:=by simp[h1]
 have HO:=hid h1
 clear h1
 go_wp2_with fail
 refine (freePlace_any _ _ _ h (HH.out.below H.below) (by omega)).mono ?_
 rintro e w6 ⟨rfl,hb⟩
 replace H:=H.call hb
 clear hb a0 a1 b0 b1 b2 b3
 obtain⟨a0,a1,-,-⟩:=H.box2 2 rfl
 obtain⟨b0,b1,b2,b3,-,-,-,-⟩:=box4 H 1 rfl
 by_cases hf:mFree h<L
 ·have HF:=hid (stepSw_room (o:=⟨op,a,b,c⟩) HO.out hf)
  have q1:¬ (L:Int)<=((mFree h:Nat):Int):=by omega
  go_wp2_with fail
  refine (freePlace_any _ _ _ h (HH.out.below H.below) (by omega)).mono ?_
  rintro e w7 ⟨rfl,hb⟩
  replace H:=H.call hb
  clear hb a0 a1 b0 b1 b2 b3
  obtain⟨a0,a1,-,-⟩:=H.box2 2 rfl
  obtain⟨b0,b1,b2,b3,-,-,-,-⟩:=box4 H 1 rfl
  go_wp2_with fail
  have HX:=H.drew
  clear H a0 a1 b0 b1 b2 b3
  obtain⟨a0,a1,-,-⟩:=HX.box2 2 rfl
  obtain⟨b0,b1,b2,b3,-,-,-,-⟩:=box4 HX 1 rfl
  refine wp_region_tree (fun w'=>(w'.cell? ⟨w.heap.size,0,none⟩=some (.slice D m d)/\w'.cell? ⟨w.heap.size,1,none⟩=some (.slice D' m' d'))/\w'.cell? ⟨w.heap.size+1,0,none⟩=some (.int .i64 op)/\w'.cell? ⟨w.heap.size+1,1,none⟩=some (.int .i64 a)/\w'.cell? ⟨w.heap.size+1,2,none⟩=some (.int .i64 b)/\w'.cell? ⟨w.heap.size+1,3,none⟩=some (.int .i64 c)) 7 [] (.take 0 (.take 1 (.take 2 (.alt 3 (.alt 4 (.alt 5 (.take 6 (.done)) (.stop)) (.stop)) (.stop))))) (by kernel_rfl) (by kernel_rfl) (by kernel_rfl) (⟨⟨a0,a1⟩,b0,b1,b2,b3⟩) ?_
  simp only[fillT,lgz,Nat.reduceBEq]
  repeat first|(with_reducible apply po_take;(·(go_simp;done));(·(intro w' hS';(try dsimp only at hS');go_simp;try with_reducible rfl));simp only[lpa])|(with_reducible apply po_skip;(·(go_simp;done));simp only[lpa])
  with_reducible refine po_last ?_ (fun K hK=>?_)
  ·(go_simp;done)
  go_simp
  refine (freePlace_any _ _ _ h (HH.out.below HX.below) (by omega)).mono ?_
  rintro e wa ⟨rfl,hb⟩
  replace HX:=HX.call hb
  clear hb a0 a1 b0 b1 b2 b3
  obtain⟨a0,a1,-,-⟩:=HX.box2 2 rfl
  obtain⟨b0,b1,b2,b3,-,-,-,-⟩:=box4 HX 1 rfl
  refine hK.out _ _ (.inr (⟨⟨a0,a1⟩,b0,b1,b2,b3⟩)) ?_
  clear hK K
  with_reducible refine po_last ?_ (fun K hK=>?_)
  ·(go_simp;done)
  go_simp
  refine (execute_any _ _ _ h (HH.out.below HX.below) ⟨op,a,b,c⟩ GG.out HC.out HP.out (mFree h) (mFree_le h)).mono ?_
  rintro e wb ⟨cv2,rvs2,rv2,rfl,K⟩
  replace K:=HX.merge K
  simp only[lca]at K
  obtain⟨T,hT⟩:∃ T,T=mDo h ⟨op,a,b,c⟩ (mFree h):=⟨_,rfl⟩
  rw[<-hT]at K HF
  clear hT HX
  have HX:=K
  clear K
  obtain⟨C',kC',rfl,-⟩:=HX.formC 0 rfl
  obtain⟨R',kR',rfl,-⟩:=HX.formI 1 rfl
  clear a0 a1 b0 b1 b2 b3
  obtain⟨a0,a1,-,-⟩:=HX.box2 4 rfl
  obtain⟨b0,b1,b2,b3,-,-,-,-⟩:=box4 HX 3 rfl
  refine hK.out _ _ (.inr (⟨⟨a0,a1⟩,b0,b1,b2,b3⟩)) ?_
  clear hK K
  with_reducible refine po_last ?_ (fun K hK=>?_)
  ·(go_simp;done)
  obtain⟨y0,y1,y2,y3⟩:=HX.box2 2 rfl
  go_simp
  replace HX:=(HX.putBox 2 rfl 0 (.slice C' T.cells.length kC')).putBox 2 rfl 1 (.slice R' T.roots.length kR')
  simp only[lnm]at HX
  clear y0 y1 y2 y3 a0 a1 b0 b1 b2 b3
  obtain⟨a0,a1,-,-⟩:=HX.box2 4 rfl
  obtain⟨b0,b1,b2,b3,-,-,-,-⟩:=box4 HX 3 rfl
  refine hK.out _ _ (.inr (⟨⟨a0,a1⟩,b0,b1,b2,b3⟩)) ?_
  clear hK K
  repeat first|(with_reducible apply po_take;(·(go_simp;done));(·(intro w' hS';(try dsimp only at hS');go_simp;try with_reducible rfl));simp only[lpa])|(with_reducible apply po_skip;(·(go_simp;done));simp only[lpa])
  refine po_done ?_
  clear a0 a1 b0 b1 b2 b3
  obtain⟨z0,z1,-,-⟩:=HX.box2 2 rfl
  have HS:Hid (MadeHBl w (stepSw h L ⟨op,a,b,c⟩).1 (stepSw h L ⟨op,a,b,c⟩).2 (.returned (.tuple #[.agg #[.slice C' T.cells.length kC',.slice R' T.roots.length kR'],.bool true])) _):=hid (by rw[HF.out];exact⟨_,rvs2,_,rfl,HX.take 2⟩)
  clear HX
  go_wp2
  exact bodyPost_ret (by simp[results,Tryz.results155,go_sem,z0,z1]) rfl HS.out
 have q1:(L:Int)<=((mFree h:Nat):Int):=by omega
 go_wp2_with fail
 refine (implCollect_any _ _ _ h (HH.out.below H.below)).mono ?_
 rintro e w7 ⟨cv,rvs',rv,rfl,K⟩
 replace K:=H.merge K
 simp only[lca]at K
 have GX:=hid (mCollect_good GG.out)
 have HPX:Hid (possB (mCollect h) ⟨op,a,b,c⟩=true):=hid (poss_new HO.out)
 have HFL:=hid (fun hf2=>stepSw_full (L:=L) (o:=⟨op,a,b,c⟩) HO.out hf hf2)
 have HSW:=hid (fun hf2=>stepSw_swept (L:=L) (o:=⟨op,a,b,c⟩) HO.out hf hf2)
 have hX40:(mCollect h).cells.length<=40:=GX.out.len
 have hX4:(mCollect h).roots.length<=4:=by have:=GX.out.roots;omega
 have HNX:=hid (good_small GX.out)
 obtain⟨X,hX⟩:∃ X,X=mCollect h:=⟨_,rfl⟩
 rw[<-hX]at K GX HPX HFL HSW hX40 hX4 HNX
 clear hX H a0 a1 b0 b1 b2 b3 hf q1
 obtain⟨C,kC,rfl,-⟩:=K.formC 0 rfl
 obtain⟨R,kR,rfl,-⟩:=K.formI 1 rfl
 obtain⟨x0,x1,xf0,xf1⟩:=K.box2 4 rfl
 have H:=(K.putBox 4 rfl 0 (.slice C X.cells.length kC)).putBox 4 rfl 1 (.slice R X.roots.length kR)
 simp only[lnm]at H
 obtain⟨a0,a1,-,-⟩:=H.box2 4 rfl
 obtain⟨b0,b1,b2,b3,-,-,-,-⟩:=box4 H 3 rfl
 clear K
 go_wp2_with fail
 clear x0 x1 xf0 xf1
 refine (freePlace_any _ _ _ X (H.rdH 0 1 rfl rfl) (by omega)).mono ?_
 rintro e w8 ⟨rfl,hb⟩
 replace H:=H.call hb
 clear hb a0 a1 b0 b1 b2 b3
 obtain⟨a0,a1,-,-⟩:=H.box2 4 rfl
 obtain⟨b0,b1,b2,b3,-,-,-,-⟩:=box4 H 3 rfl
 by_cases hf2:mFree X<L
 ·have HF:=hid (HSW.out hf2)
  have q1:¬ (L:Int)<=((mFree X:Nat):Int):=by omega
  go_wp2_with fail
  have HX:=H.drew
  clear H a0 a1 b0 b1 b2 b3
  obtain⟨a0,a1,-,-⟩:=HX.box2 4 rfl
  obtain⟨b0,b1,b2,b3,-,-,-,-⟩:=box4 HX 3 rfl
  refine wp_region_tree (fun w'=>(w'.cell? ⟨w.heap.size,0,none⟩=some (.slice C X.cells.length kC)/\w'.cell? ⟨w.heap.size,1,none⟩=some (.slice R X.roots.length kR))/\w'.cell? ⟨w.heap.size+1,0,none⟩=some (.int .i64 op)/\w'.cell? ⟨w.heap.size+1,1,none⟩=some (.int .i64 a)/\w'.cell? ⟨w.heap.size+1,2,none⟩=some (.int .i64 b)/\w'.cell? ⟨w.heap.size+1,3,none⟩=some (.int .i64 c)) 7 [] (.take 0 (.take 1 (.take 2 (.alt 3 (.alt 4 (.alt 5 (.take 6 (.done)) (.stop)) (.stop)) (.stop))))) (by kernel_rfl) (by kernel_rfl) (by kernel_rfl) (⟨⟨a0,a1⟩,b0,b1,b2,b3⟩) ?_
  simp only[fillT,lgz,Nat.reduceBEq]
  repeat first|(with_reducible apply po_take;(·(go_simp;done));(·(intro w' hS';(try dsimp only at hS');go_simp;try with_reducible rfl));simp only[lpa])|(with_reducible apply po_skip;(·(go_simp;done));simp only[lpa])
  with_reducible refine po_last ?_ (fun K hK=>?_)
  ·(go_simp;done)
  go_simp
  refine (freePlace_any _ _ _ X (HX.rdH 0 1 rfl rfl) (by omega)).mono ?_
  rintro e wa ⟨rfl,hb⟩
  replace HX:=HX.call hb
  clear hb a0 a1 b0 b1 b2 b3
  obtain⟨a0,a1,-,-⟩:=HX.box2 4 rfl
  obtain⟨b0,b1,b2,b3,-,-,-,-⟩:=box4 HX 3 rfl
  refine hK.out _ _ (.inr (⟨⟨a0,a1⟩,b0,b1,b2,b3⟩)) ?_
  clear hK K
  with_reducible refine po_last ?_ (fun K hK=>?_)
  ·(go_simp;done)
  go_simp
  refine (execute_any _ _ _ X (HX.rdH 0 1 rfl rfl) ⟨op,a,b,c⟩ GX.out HC.out HPX.out (mFree X) (mFree_le X)).mono ?_
  rintro e wb ⟨cv2,rvs2,rv2,rfl,K⟩
  replace K:=HX.merge K
  simp only[lca]at K
  obtain⟨T,hT⟩:∃ T,T=mDo X ⟨op,a,b,c⟩ (mFree X):=⟨_,rfl⟩
  rw[<-hT]at K HF
  clear hT HX
  have HX:=K
  clear K
  obtain⟨C',kC',rfl,-⟩:=HX.formC 0 rfl
  obtain⟨R',kR',rfl,-⟩:=HX.formI 1 rfl
  clear a0 a1 b0 b1 b2 b3
  obtain⟨a0,a1,-,-⟩:=HX.box2 6 rfl
  obtain⟨b0,b1,b2,b3,-,-,-,-⟩:=box4 HX 5 rfl
  refine hK.out _ _ (.inr (⟨⟨a0,a1⟩,b0,b1,b2,b3⟩)) ?_
  clear hK K
  with_reducible refine po_last ?_ (fun K hK=>?_)
  ·(go_simp;done)
  obtain⟨y0,y1,y2,y3⟩:=HX.box2 4 rfl
  go_simp
  replace HX:=(HX.putBox 4 rfl 0 (.slice C' T.cells.length kC')).putBox 4 rfl 1 (.slice R' T.roots.length kR')
  simp only[lnm]at HX
  clear y0 y1 y2 y3 a0 a1 b0 b1 b2 b3
  obtain⟨a0,a1,-,-⟩:=HX.box2 6 rfl
  obtain⟨b0,b1,b2,b3,-,-,-,-⟩:=box4 HX 5 rfl
  refine hK.out _ _ (.inr (⟨⟨a0,a1⟩,b0,b1,b2,b3⟩)) ?_
  clear hK K
  repeat first|(with_reducible apply po_take;(·(go_simp;done));(·(intro w' hS';(try dsimp only at hS');go_simp;try with_reducible rfl));simp only[lpa])|(with_reducible apply po_skip;(·(go_simp;done));simp only[lpa])
  refine po_done ?_
  clear a0 a1 b0 b1 b2 b3
  obtain⟨z0,z1,-,-⟩:=HX.box2 4 rfl
  have HS:Hid (MadeHBl w (stepSw h L ⟨op,a,b,c⟩).1 (stepSw h L ⟨op,a,b,c⟩).2 (.returned (.tuple #[.agg #[.slice C' T.cells.length kC',.slice R' T.roots.length kR'],.bool true])) _):=hid (by rw[HF.out];exact⟨_,rvs2,_,rfl,HX.take 2⟩)
  clear HX
  go_wp2
  exact bodyPost_ret (by simp[results,Tryz.results155,go_sem,z0,z1]) rfl HS.out
 have HF:=hid (HFL.out hf2)
 have q1:(L:Int)<=((mFree X:Nat):Int):=by omega
 go_wp2_with fail
 refine (copyHeap_any _ _ _ X (H.rdH 0 1 rfl rfl) (by omega) (by omega) HNX.out).mono ?_
 rintro e w9 ⟨v1,rfl,ho,hb⟩
 obtain⟨cv,rvs2,rv,rfl,K⟩:=H.madeH ho hb
 clear ho hb
 obtain⟨C',kC',rfl,-⟩:=K.formC 0 rfl
 obtain⟨R',kR',rfl,-⟩:=K.formI 1 rfl
 clear H a0 a1 b0 b1 b2 b3
 obtain⟨y0,y1,y2,y3⟩:=K.box2 4 rfl
 have HZ:=(K.putBox 4 rfl 0 (.slice C' X.cells.length kC')).putBox 4 rfl 1 (.slice R' X.roots.length kR')
 simp only[lnm]at HZ
 obtain⟨z0,z1,-,-⟩:=HZ.box2 4 rfl
 obtain⟨z2,-,-,-⟩:=(K.putBox 4 rfl 0 (.slice C' X.cells.length kC')).box2 4 rfl
 have HS:Hid (MadeHBl w (stepSw h L ⟨op,a,b,c⟩).1 (stepSw h L ⟨op,a,b,c⟩).2 (.returned (.tuple #[.agg #[.slice C' X.cells.length kC',.slice R' X.roots.length kR'],.bool false])) _):=hid (by rw[HF.out];exact⟨_,_,_,rfl,HZ.take 2⟩)
 clear K HZ
 go_wp2
 exact bodyPost_ret (by simp[results,Tryz.results155,go_sem,z0,z1,z2]) rfl HS.out
end Go.Proofs.YtgppgjgcnpimiaaGreat
