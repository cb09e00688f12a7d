/- YtolhlldgnfbemaaGreatDoorXAl8: parts of the proof, put together by program. -/
import Derived.Test.YtolhlldgnfbemaaGreatDoorXAl7
set_option linter.unusedVariables false
set_option linter.defProp false
set_option linter.unusedSimpArgs false
set_option linter.unusedSectionVars false
noncomputable section
set_option maxRecDepth 100000
namespace Go.Proofs.YtolhlldgnfbemaaGreatDoor
section
open Go Go.Vx
def F33 (a0:Int) (K:Int->Wp):Wp:=cB 76 #[(vI a0)] λx1=>sif x1 (K 0) (cB 77 #[(vI a0)] λx2=>sif x2 (K 2) (K 1))
def h33:Hint:=(hS (hR 1) (hS (hS (hR 2) (hC (hS (hR 1) hL) hL)) (hS (hS (hR 2) (hC (hS (hR 1) hL) hL)) (hS (hR 1) hL))))
theorem A33 {a0:Int}{K:Int->Wp}{w:World}(h:F33 a0 K w):Aa Tryz.prog 33 #[(vI a0)] rI K w:=tied Ai Tryz.func33 h33 _ h
def F125 (a0:Int) (K:Int->Wp):Wp:=cB 172 #[(vI a0)] λx1=>sif (!x1) (K 3) (jB (λJ2=>sif (decide (a0>=44032)) (J2 ((decide (a0<=55203)),())) (J2 (false,()))) λs3=>sif s3.1 (chk ((28:Int)≠0)<|sif ((Int.tmod (W64 (a0-44032)) 28)==0) (K 12) (K 13)) (sif (decide (a0<3076)) (cN 173 #[(vI a0)] λx4=>K x4) (sif (decide (a0<8505)) (cN 174 #[(vI a0)] λx5=>K x5) (cN 175 #[(vI a0)] λx6=>K x6))))
def Dx6:Hint:=(hS (hR 1) (hS (hS (hR 3) (hC (hS (hR 1) hL) hL)) (hS (hJ (4032,[(11,tB)]) (.region [] (.ops 3 (.split 8 (hO 3) (.skips 2 (hO 1))))) (hC (hS (hS (hR 4) (hC (hS (hR 1) hL) hL)) (hS (hR 1) hL)) hL)) (hS (.block (hS (hR 3) (hC (hS (hR 3) hL) (hS (hR 3) (hC (hS (hR 3) hL) hL))))) (hS (hR 3) hL)))))
theorem Eo0 {a0:Int}{K:Int->Wp}{w:World}(h:F125 a0 K w):Aa Tryz.prog 125 #[(vI a0)] rI K w:=tied Ai Tryz.func125 Dx6 _ h
def F172 (a0:Int) (K:Bool->Wp):Wp:=sif (decide (a0>=0)) (sif (decide (a0<=1114111)) (sif (decide (a0<55296)) (K true) (K (decide (a0>57343)))) (K false)) (K false)
def Dt1:Hint:=(hS (hR 1) (hS (.region [] (.ops 3 (.split 5 (.ops 4 (.split 9 (.ops 3 (.split 12 (.skips 2 (hO 3)) (hO 5))) (.skips 6 (hO 2)))) (.skips 2 (.ops 2 (.skips 6 (hO 2))))))) hL))
theorem Ej4 {a0:Int}{K:Bool->Wp}{w:World}(h:F172 a0 K w):Aa Tryz.prog 172 #[(vI a0)] rB K w:=tied Ai Tryz.func172 Dt1 _ h
def F176 (a0:Int) (K:Int->Wp):Wp:=jB (λJ1=>sif (a0==2381) (J1 (true,())) (sif (a0==2509) (J1 (true,())) (sif (a0==2765) (J1 (true,())) (sif (a0==2893) (J1 (true,())) (sif (a0==3149) (J1 (true,())) (J1 ((a0==3405),()))))))) λs2=>sif s2.1 (K 3) (cN 125 #[(vI a0)] λx3=>jB (λJ4=>sif (x3==4) (J4 ((a0 !=8204),())) (sif (x3==5) (J4 ((a0 !=8204),())) (J4 (false,())))) λs5=>sif s5.1 (K 2) (cB 200 #[(vI a0)] λx6=>sif x6 (K 1) (K 0)))
def Dt0:Hint:=(hS (hR 1) (hS (hJ (67108848,[(25,tB)]) (.region [] (.ops 3 (.split 6 (.skips 2 (.ops 2 (.skips 2 (.ops 2 (.skips 2 (.ops 2 (.skips 2 (.ops 2 (.skips 2 (hO 1)))))))))) (.ops 4 (.split 10 (.skips 2 (.ops 2 (.skips 2 (.ops 2 (.skips 2 (.ops 2 (.skips 2 (hO 1)))))))) (.ops 4 (.split 14 (.skips 2 (.ops 2 (.skips 2 (.ops 2 (.skips 2 (hO 1)))))) (.ops 4 (.split 18 (.skips 2 (.ops 2 (.skips 2 (hO 1)))) (.ops 4 (.split 22 (.skips 2 (hO 1)) (hO 3)))))))))))) (hC (hS (hR 1) hL) hL)) (hS (hR 3) (hS (hJ (0x3ff0000000,[(37,tB)]) (.region [] (.ops 3 (.split 30 (.skips 2 (hO 5)) (.ops 4 (.split 34 (hO 3) (.skips 2 (hO 1))))))) (hC (hS (hR 1) hL) hL)) (hS (hS (hR 2) (hC (hS (hR 1) hL) hL)) (hS (hR 1) hL))))))
theorem Ej3 {a0:Int}{K:Int->Wp}{w:World}(h:F176 a0 K w):Aa Tryz.prog 176 #[(vI a0)] rI K w:=tied Ai Tryz.func176 Dt0 _ h
end
section
open Go Go.Vx Cdc Gly
namespace Rgl
def Ux (a:Int) (J:Bool×Unit->Wp):List (Bool×Int×Int)->World->Prop
 |[]=>J (false,())
 |[(true,v,_)]=>J ((a==v),())
 |[(false,l,h)]=>sif (decide (a>=l)) (J ((decide (a<=h)),())) (J (false,()))
 |(true,v,_)::x::r=>sif (a==v) (J ((a==v),())) (Ux a J (x::r))
 |(false,l,h)::x::r=>join (S:=Bool×Unit) (λJ3=>sif (decide (a>=l)) (J3 ((decide (a<=h)),())) (J3 (false,()))) λs=>sif s.1 (J (s.1,())) (Ux a J (x::r))
def As0 (a:Int) (K:Int->Wp) (d:Int):List (List (Bool×Int×Int)×Int)->World->Prop
 |[]=>K d
 |([(true,v,_)],n)::r=>sif (a==v) (K n) (As0 a K d r)
 |(ch,n)::r=>join (S:=Bool×Unit) (λJ=>Ux a J ch) λs=>sif s.1 (K n) (As0 a K d r)
def inR (a:Int) (x:Bool×Int×Int):Bool:=if x.1 then a==x.2.1 else decide (x.2.1<=a)&&decide (a<=x.2.2)
def Ig (a:Int) (ch:List (Bool×Int×Int)):Bool:=ch.any (inR a)
def X9 (a d:Int):List (List (Bool×Int×Int)×Int)->Int
 |[]=>d
 |(ch,n)::r=>if Ig a ch then n else X9 a d r
variable {w:World}
theorem Ai1 {a:Int}{J:Bool×Unit->Wp}:∀{ch:List (Bool×Int×Int)},J (Ig a ch,()) w->Ux a J ch w
 |[],h=>h
 |[(true,v,_)],h=>by
  have e:Ig a [(true,v,‹Int›)]=(a==v):=by simp [Ig,inR]
  rw [e] at h;exact h
 | [(false,l,u)],h=>by
  have e:Ig a [(false,l,u)]=(decide (l<=a)&&decide (a<=u)):=by simp [Ig,inR]
  rw [e] at h
  refine Ac (λh1=>?_) (λh1=>?_)
  ·simp only [iI,jT] at h1
   rw [jP h1,lD] at h;exact h
  ·simp only [iH,jT] at h1
   rw [jQ h1,lW] at h;exact h
 | (true,v,u)::x::r,h=>by
  have e:Ig a ((true,v,u)::x::r)=((a==v)||Ig a (x::r)):=by simp [Ig,inR]
  rw [e] at h
  refine Ac (λh1=>?_) (λh1=>?_)
  ·have h1:(a==v)=true:=h1
   rw [h1,fB] at h
   rw [h1];exact h
  ·have h1:(a==v)=false:=h1
   rw [h1,bD] at h
   exact Ai1 h
 | (false,l,u)::x::r,h=>by
  have e:Ig a ((false,l,u)::x::r)=((decide (l<=a)&&decide (a<=u))||Ig a (x::r)):=by simp [Ig,inR]
  rw [e] at h
  refine Ae (λy W=>y=((decide (l<=a)&&decide (a<=u)),())/\w=W) (Ac (λh1=>?_) (λh1=>?_)) ?_
  ·simp only [iI,jT] at h1
   rw [jP h1,lD];exact ⟨rfl,rfl⟩
  ·simp only [iH,jT] at h1
   rw [jQ h1,lW];exact ⟨rfl,rfl⟩
  rintro _ _ ⟨rfl,rfl⟩
  refine Ac (λh1=>?_) (λh1=>?_)
  ·have h1:(decide (l<=a)&&decide (a<=u))=true:=h1
   rw [h1,fB] at h
   show J ((decide (l<=a)&&decide (a<=u)),()) w
   rw [h1];exact h
  ·have h1:(decide (l<=a)&&decide (a<=u))=false:=h1
   rw [h1,bD] at h
   exact Ai1 h
theorem Ap0 {a d n:Int}{K:Int->Wp}{ch:List (Bool×Int×Int)}{r:List (List (Bool×Int×Int)×Int)}(ih:K (X9 a d r) w->As0 a K d r w) (h:K (X9 a d ((ch,n)::r)) w) :
  join (S:=Bool×Unit) (λJ=>Ux a J ch) (λs=>sif s.1 (K n) (As0 a K d r)) w:=by refine Ae (λx W=>x=(Ig a ch,())/\w=W) (Ai1 ⟨rfl,rfl⟩) ?_;rintro _ _ ⟨rfl,rfl⟩;rw [X9] at h;refine Ac (λh1=>?_) (λh1=>?_);{have h1:Ig a ch=true:=h1;rw [aF h1] at h;exact h};{have h1:Ig a ch=false:=h1;rw [aJ (by rw [h1];decide)] at h;exact ih h}
theorem Ao9 {a d:Int}{K:Int->Wp}:∀{T:List (List (Bool×Int×Int)×Int)},K (X9 a d T) w->As0 a K d T w
 |[],h=>h
 | ([(true,v,u)],n)::r,h=>by
  rw [X9] at h
  have e:Ig a [(true,v,u)]=(a==v):=by simp [Ig,inR]
  rw [e] at h
  refine Ac (λh1=>?_) (λh1=>?_)
  ·have h1:(a==v)=true:=h1
   rw [aF h1] at h;exact h
  ·have h1:(a==v)=false:=h1
   rw [aJ (by rw [h1];decide)] at h;exact Ao9 h
 |([],n)::r,h=>Ap0 Ao9 h
 |([(false,l,u)],n)::r,h=>Ap0 Ao9 h
 | (x::y::z,n)::r,h=>by
  have:As0 a K d ((x::y::z,n)::r)=join (S:=Bool×Unit) (λJ=>Ux a J (x::y::z)) λs=>sif s.1 (K n) (As0 a K d r):=by
   obtain ⟨b,l,u⟩:=x
   cases b<;>rfl
  rw [this]
  exact Ap0 Ao9 h
def rr2:List Nat->List (Bool×Int×Int)
  |a::b::r=>(Nat.beq a b,a,b)::rr2 r
  |_=>[]
def rC1:List (List (Bool×Int×Int)×Int):=[(rr2 [13,13],1),(rr2 [10,10],2),(rr2 [0,9,11,12,14,31,127,159,173,173,1564,1564],3),(rr2 [768,879,1155,1161,1425,1469,1471,1471,1473,1474,1476,1477,1479,1479,1552,1562,1611,1631,1648,1648,1750,1756,1759,1764,1767,1768,1770,1773,1809,1809,1840,1866,1958,1968,2027,2035,2045,2045,2070,2073,2075,2083,2085,2087,2089,2093,2137,2139,2200,2207,2250,2273,2275,2306,2362,2362,2364,2364,2369,2376,2381,2381,2385,2391,2402,2403,2433,2433,2492,2492,2494,2494,2497,2500,2509,2509,2519,2519,2530,2531,2558,2558,2561,2562,2620,2620,2625,2626,2631,2632,2635,2637,2641,2641,2672,2673,2677,2677,2689,2690,2748,2748,2753,2757,2759,2760,2765,2765,2786,2787,2810,2815,2817,2817,2876,2876,2878,2879,2881,2884,2893,2893,2901,2903,2914,2915,2946,2946,3006,3006,3008,3008,3021,3021,3031,3031,3072,3072],4),(rr2 [1536,1541,1757,1757,1807,1807,2192,2193,2274,2274],7),(rr2 [2307,2307,2363,2363,2366,2368,2377,2380,2382,2383,2434,2435,2495,2496,2503,2504,2507,2508,2563,2563,2622,2624,2691,2691,2750,2752,2761,2761,2763,2764,2818,2819,2880,2880,2887,2888,2891,2892,3007,3007,3009,3010,3014,3016,3018,3020,3073,3075],8),(rr2 [169,169,174,174],14)]
def rC2:List (List (Bool×Int×Int)×Int):=[(rr2 [6158,6158,8203,8203,8206,8207,8232,8238,8288,8303],3),(rr2 [3076,3076,3132,3132,3134,3136,3142,3144,3146,3149,3157,3158,3170,3171,3201,3201,3260,3260,3263,3263,3266,3266,3270,3270,3276,3277,3285,3286,3298,3299,3328,3329,3387,3388,3390,3390,3393,3396,3405,3405,3415,3415,3426,3427,3457,3457,3530,3530,3535,3535,3538,3540,3542,3542,3551,3551,3633,3633,3636,3642,3655,3662,3761,3761,3764,3772,3784,3790,3864,3865,3893,3893,3895,3895,3897,3897,3953,3966,3968,3972,3974,3975,3981,3991,3993,4028,4038,4038,4141,4144,4146,4151,4153,4154,4157,4158,4184,4185,4190,4192,4209,4212,4226,4226,4229,4230,4237,4237,4253,4253,4957,4959,6068,6069,6071,6077,6086,6086,6089,6099,6109,6109,6155,6157,6159,6159,6313,6313,6832,6862,7616,7679,8204,8204,8400,8432],4),(rr2 [8205,8205],5),(rr2 [3406,3406],7),(rr2 [3137,3140,3202,3203,3262,3262,3264,3265,3267,3268,3271,3272,3274,3275,3315,3315,3330,3331,3391,3392,3398,3400,3402,3404,3458,3459,3536,3537,3544,3550,3570,3571,3635,3635,3763,3763,3902,3903,3967,3967,4145,4145,4155,4156,4182,4183,4228,4228,6070,6070,6078,6085,6087,6088],8),(rr2 [4352,4447],9),(rr2 [4448,4519],10),(rr2 [4520,4607],11),(rr2 [8252,8252,8265,8265,8482,8482],14)]
def rC3:List (List (Bool×Int×Int)×Int):=[(rr2 [65279,65279,65520,65531,78896,78911,113824,113827,119155,119162,917504,917535,917632,917759,918000,921599],3),(rr2 [12330,12335,12441,12442,42607,42610,42612,42621,42654,42655,42736,42737,64286,64286,65024,65039,65056,65071,65438,65439,66045,66045,119141,119141,119143,119145,119150,119154,119163,119170,119173,119179,119210,119213,127995,127999,917536,917631,917760,917999],4),(rr2 [127462,127487],6),(rr2 [69821,69821,69837,69837,70082,70083],7),(rr2 [43360,43388],9),(rr2 [55216,55238],10),(rr2 [55243,55291],11),(rr2 [8505,8505,8596,8601,8617,8618,8986,8987,9000,9000,9096,9096,9167,9167,9193,9203,9208,9210,9410,9410,9642,9643,9654,9654,9664,9664,9723,9726,9728,9733,9735,9746,9748,9861,9872,9989,9992,10002,10004,10004,10006,10006,10013,10013,10017,10017,10024,10024,10035,10036,10052,10052,10055,10055,10060,10060,10062,10062,10067,10069,10071,10071,10083,10087,10133,10135,10145,10145,10160,10160,10175,10175,10548,10549,11013,11015,11035,11036,11088,11088,11093,11093,12336,12336,12349,12349,12951,12951,12953,12953,126976,127231,127245,127247,127279,127279,127340,127345,127358,127359,127374,127374,127377,127386,127405,127461,127489,127503,127514,127514,127535,127535,127538,127546,127548,127551,127561,127994,128000,128317,128326,128591,128640,128767,128884,128895,128981,129023,129036,129039,129096,129103,129114,129119,129160,129167,129198,129279,129292,129338,129340,129349,129351,129791,130048,131069],14)]
def Aa3:List (Bool×Int×Int):=rr2 [2325,2361,2392,2399,2424,2431,2453,2472,2474,2480,2482,2482,2486,2489,2524,2525,2527,2527,2544,2545,2709,2728,2730,2736,2738,2739,2741,2745,2809,2809,2837,2856,2858,2864,2866,2867,2869,2873,2908,2909,2911,2911,2929,2929,3093,3112,3114,3129,3160,3162,3349,3386]
def Ag1:List (Bool×Int×Int):=[(false,9,13),(true,32,32),(true,133,133),(true,160,160),(true,5760,5760),(false,8192,8202),(false,8232,8233),(true,8239,8239),(true,8287,8287),(true,12288,12288)]
def Aa2:List (Bool×Int×Int):=rr2 [48,57,65,90,95,95,97,122,170,170,181,181,186,186,192,214,216,246,248,705,768,884,886,893,895,895,902,902,904,1013,1015,1153,1155,1327,1329,1366,1376,1416,1425,1469,1488,1514,1552,1562,1568,1641,1646,1747,1749,1756,1759,1768,1770,1788,1808,1866,2304,2403,2406,2415,2417,3571,3585,3642,3648,3662,3664,3673,3713,3807,3864,3897,3904,3972,3984,4028,4096,4169,4176,4253,4256,4346,4348,4607,4608,4959,6016,6099,7680,8188,8486,8486,8490,8491,8544,8584,12293,12295,12321,12335,12353,12438,12441,12442,12445,12447,12449,12538,12540,12543,12549,12591,12593,12686,13312,19903,19968,40959,43360,43388,44032,55203,55216,55291,63744,64255,64285,64335,65296,65305,65313,65338,65345,65370,65382,65500,66560,66639,131072,195103,196608,205743]
def slN:List (Bool×Int×Int)->Nat
 |[]=>0
 |x::r=>(if x.1 then 2 else 6)+slN r
def rgH (b:Nat):Hint:=.region [] (.ops 3 (.split (b+2) (.ops 4 .done) (.skips 2 (.ops 2 .done))))
def sgH:Hint:=.region [] (.ops 3 .done)
def chH (o:Nat):List (Bool×Int×Int)->Nat->Hint
 |[],_=>.leaf
 |[x],b=>if x.1 then sgH else rgH b
 |x::y::r,b=>if x.1 then .seq none sgH (.cond none .leaf (chH o (y::r) (b+2))) else .seq (some (2^(b+6)-2^b+2^o,[(o,.one .bool)])) (rgH b) (.cond none .leaf (chH o (y::r) (b+6)))
def rtH:Hint:=.seq none (.region [] (.ops 1 .done)) .leaf
def csH:List (List (Bool×Int×Int)×Int)->Nat->Hint
 |[],_=>.leaf
 |([(true,_)],_)::r,o=>.seq none sgH (.cond none rtH (csH r (o+3)))
 |(ch,_)::r,o=>.seq (some (2^(o+1+slN ch)-2^o,[(o,.one .bool)])) (chH o ch (o+1)) (.cond none rtH (csH r (o+1+slN ch)))
def tbH (T:List (List (Bool×Int×Int)×Int)):Hint:=.seq none (.region [] (.ops 1 .done)) (.seq none (.block (csH T 3)) rtH)
theorem Cz8 {a:Int}{K:Int->Wp}(h:K (X9 a 0 rC1) w):Aa Tryz.prog 173 #[.int .i64 a] rI K w:=by have e:Ax8 tab Tryz.prog Tryz.f173 (tbH rC1) [.int .i64 a] (.one (.one (.int .i64))) K=As0 a K 0 rC1:=(by kernel_rfl);exact Jh Ai Tryz.func173 (tbH rC1) [.int .i64 a] (.one (.one (.int .i64))) K w (by rw [e];exact Ao9 h)
theorem Cz7 {a:Int}{K:Int->Wp}(h:K (X9 a 0 rC2) w):Aa Tryz.prog 174 #[.int .i64 a] rI K w:=by have e:Ax8 tab Tryz.prog Tryz.f174 (tbH rC2) [.int .i64 a] (.one (.one (.int .i64))) K=As0 a K 0 rC2:=(by kernel_rfl);exact Jh Ai Tryz.func174 (tbH rC2) [.int .i64 a] (.one (.one (.int .i64))) K w (by rw [e];exact Ao9 h)
theorem Cz6 {a:Int}{K:Int->Wp}(h:K (X9 a 0 rC3) w):Aa Tryz.prog 175 #[.int .i64 a] rI K w:=by have e:Ax8 tab Tryz.prog Tryz.f175 (tbH rC3) [.int .i64 a] (.one (.one (.int .i64))) K=As0 a K 0 rC3:=(by kernel_rfl);exact Jh Ai Tryz.func175 (tbH rC3) [.int .i64 a] (.one (.one (.int .i64))) K w (by rw [e];exact Ao9 h)
theorem Bt1 {a:Int}{K:Bool->Wp}{ch:List (Bool×Int×Int)}(h:K (Ig a ch) w):join (S:=Bool×Unit) (λJ=>Ux a J ch) (λs=>sif s.1 (K true) (K false)) w:=by refine Ae (λx W=>x=(Ig a ch,())/\w=W) (Ai1 ⟨rfl,rfl⟩) ?_;rintro _ _ ⟨rfl,rfl⟩;refine Ac (λh1=>?_) (λh1=>?_);{have h1:Ig a ch=true:=h1;rw [h1] at h;exact h};{have h1:Ig a ch=false:=h1;rw [h1] at h;exact h}
theorem Cg0 {a:Int}{K:Bool->Wp}(h:K (Ig a Aa3) w):Aa Tryz.prog 200 #[.int .i64 a] rB K w:=by have e:Ax8 tab Tryz.prog Tryz.f200 (tbH [(Aa3,1)]) [.int .i64 a] (.one (.one .bool)) K=join (S:=Bool×Unit) (λJ=>Ux a J Aa3) λs=>sif s.1 (K true) (K false):=(by kernel_rfl);exact Jh Ai Tryz.func200 (tbH [(Aa3,1)]) [.int .i64 a] (.one (.one .bool)) K w (by rw [e];exact Bt1 h)
theorem Cg1 {a:Int}{K:Bool->Wp}(h:K (Ig a Ag1) w):Aa Tryz.prog 76 #[.int .i64 a] rB K w:=by have e:Ax8 tab Tryz.prog Tryz.f76 (tbH [(Ag1,1)]) [.int .i64 a] (.one (.one .bool)) K=join (S:=Bool×Unit) (λJ=>Ux a J Ag1) λs=>sif s.1 (K true) (K false):=(by kernel_rfl);exact Jh Ai Tryz.func76 (tbH [(Ag1,1)]) [.int .i64 a] (.one (.one .bool)) K w (by rw [e];exact Bt1 h)
theorem Cf9 {a:Int}{K:Bool->Wp}(h:K (Ig a Aa2) w):Aa Tryz.prog 77 #[.int .i64 a] rB K w:=by have e:Ax8 tab Tryz.prog Tryz.f77 (tbH [(Aa2,1)]) [.int .i64 a] (.one (.one .bool)) K=join (S:=Bool×Unit) (λJ=>Ux a J Aa2) λs=>sif s.1 (K true) (K false):=(by kernel_rfl);exact Jh Ai Tryz.func77 (tbH [(Aa2,1)]) [.int .i64 a] (.one (.one .bool)) K w (by rw [e];exact Bt1 h)
end Rgl
end
section
open Cdc Gly
namespace Rgl
def rl3:List Nat->List Row
  |a::b::c::r=>⟨a,b,c⟩::rl3 r
  |_=>[]
def Ar9:List Row:=rl3 [0,9,3,10,10,2,11,12,3,13,13,1,14,31,3,127,159,3,169,169,14,173,173,3,174,174,14,768,879,4,1155,1161,4,1425,1469,4,1471,1471,4,1473,1474,4,1476,1477,4,1479,1479,4,1536,1541,7,1552,1562,4,1564,1564,3,1611,1631,4,1648,1648,4,1750,1756,4,1757,1757,7,1759,1764,4,1767,1768,4,1770,1773,4,1807,1807,7,1809,1809,4,1840,1866,4,1958,1968,4,2027,2035,4,2045,2045,4,2070,2073,4,2075,2083,4,2085,2087,4,2089,2093,4,2137,2139,4,2192,2193,7,2200,2207,4,2250,2273,4,2274,2274,7,2275,2306,4,2307,2307,8,2362,2362,4,2363,2363,8,2364,2364,4,2366,2368,8,2369,2376,4,2377,2380,8,2381,2381,4,2382,2383,8,2385,2391,4,2402,2403,4,2433,2433,4,2434,2435,8,2492,2492,4,2494,2494,4,2495,2496,8,2497,2500,4,2503,2504,8,2507,2508,8,2509,2509,4,2519,2519,4,2530,2531,4,2558,2558,4,2561,2562,4,2563,2563,8,2620,2620,4,2622,2624,8,2625,2626,4,2631,2632,4,2635,2637,4,2641,2641,4,2672,2673,4,2677,2677,4,2689,2690,4,2691,2691,8,2748,2748,4,2750,2752,8,2753,2757,4,2759,2760,4,2761,2761,8,2763,2764,8,2765,2765,4,2786,2787,4,2810,2815,4,2817,2817,4,2818,2819,8,2876,2876,4,2878,2879,4,2880,2880,8,2881,2884,4,2887,2888,8,2891,2892,8,2893,2893,4,2901,2903,4,2914,2915,4,2946,2946,4,3006,3006,4,3007,3007,8,3008,3008,4,3009,3010,8,3014,3016,8,3018,3020,8,3021,3021,4,3031,3031,4,3072,3072,4,3073,3075,8,3076,3076,4,3132,3132,4,3134,3136,4,3137,3140,8,3142,3144,4,3146,3149,4,3157,3158,4,3170,3171,4,3201,3201,4,3202,3203,8,3260,3260,4,3262,3262,8,3263,3263,4,3264,3265,8,3266,3266,4,3267,3268,8,3270,3270,4,3271,3272,8,3274,3275,8,3276,3277,4,3285,3286,4,3298,3299,4,3315,3315,8,3328,3329,4,3330,3331,8,3387,3388,4,3390,3390,4,3391,3392,8,3393,3396,4,3398,3400,8,3402,3404,8,3405,3405,4,3406,3406,7,3415,3415,4,3426,3427,4,3457,3457,4,3458,3459,8,3530,3530,4,3535,3535,4,3536,3537,8,3538,3540,4,3542,3542,4,3544,3550,8,3551,3551,4,3570,3571,8,3633,3633,4,3635,3635,8,3636,3642,4,3655,3662,4,3761,3761,4,3763,3763,8,3764,3772,4,3784,3790,4,3864,3865,4,3893,3893,4,3895,3895,4,3897,3897,4,3902,3903,8,3953,3966,4,3967,3967,8,3968,3972,4,3974,3975,4,3981,3991,4,3993,4028,4,4038,4038,4,4141,4144,4,4145,4145,8,4146,4151,4,4153,4154,4,4155,4156,8,4157,4158,4,4182,4183,8,4184,4185,4,4190,4192,4,4209,4212,4,4226,4226,4,4228,4228,8,4229,4230,4,4237,4237,4,4253,4253,4,4352,4447,9,4448,4519,10,4520,4607,11,4957,4959,4,6068,6069,4,6070,6070,8,6071,6077,4,6078,6085,8,6086,6086,4,6087,6088,8,6089,6099,4,6109,6109,4,6155,6157,4,6158,6158,3,6159,6159,4,6313,6313,4,6832,6862,4,7616,7679,4,8203,8203,3,8204,8204,4,8205,8205,5,8206,8207,3,8232,8238,3,8252,8252,14,8265,8265,14,8288,8303,3,8400,8432,4,8482,8482,14,8505,8505,14,8596,8601,14,8617,8618,14,8986,8987,14,9000,9000,14,9096,9096,14,9167,9167,14,9193,9203,14,9208,9210,14,9410,9410,14,9642,9643,14,9654,9654,14,9664,9664,14,9723,9726,14,9728,9733,14,9735,9746,14,9748,9861,14,9872,9989,14,9992,10002,14,10004,10004,14,10006,10006,14,10013,10013,14,10017,10017,14,10024,10024,14,10035,10036,14,10052,10052,14,10055,10055,14,10060,10060,14,10062,10062,14,10067,10069,14,10071,10071,14,10083,10087,14,10133,10135,14,10145,10145,14,10160,10160,14,10175,10175,14,10548,10549,14,11013,11015,14,11035,11036,14,11088,11088,14,11093,11093,14,12330,12335,4,12336,12336,14,12349,12349,14,12441,12442,4,12951,12951,14,12953,12953,14,42607,42610,4,42612,42621,4,42654,42655,4,42736,42737,4,43360,43388,9,55216,55238,10,55243,55291,11,64286,64286,4,65024,65039,4,65056,65071,4,65279,65279,3,65438,65439,4,65520,65531,3,66045,66045,4,69821,69821,7,69837,69837,7,70082,70083,7,78896,78911,3,113824,113827,3,119141,119141,4,119143,119145,4,119150,119154,4,119155,119162,3,119163,119170,4,119173,119179,4,119210,119213,4,126976,127231,14,127245,127247,14,127279,127279,14,127340,127345,14,127358,127359,14,127374,127374,14,127377,127386,14,127405,127461,14,127462,127487,6,127489,127503,14,127514,127514,14,127535,127535,14,127538,127546,14,127548,127551,14,127561,127994,14,127995,127999,4,128000,128317,14,128326,128591,14,128640,128767,14,128884,128895,14,128981,129023,14,129036,129039,14,129096,129103,14,129114,129119,14,129160,129167,14,129198,129279,14,129292,129338,14,129340,129349,14,129351,129791,14,130048,131069,14,917504,917535,3,917536,917631,4,917632,917759,3,917760,917999,4,918000,921599,3]
def Bq1:List Row:=rl3 [2325,2361,1,2392,2399,1,2424,2431,1,2453,2472,1,2474,2480,1,2482,2482,1,2486,2489,1,2524,2525,1,2527,2527,1,2544,2545,1,2709,2728,1,2730,2736,1,2738,2739,1,2741,2745,1,2809,2809,1,2837,2856,1,2858,2864,1,2866,2867,1,2869,2873,1,2908,2909,1,2911,2911,1,2929,2929,1,3093,3112,1,3114,3129,1,3160,3162,1,3349,3386,1]
def Dk1:List Row:=rl3 [9,13,1,32,32,1,48,57,2,65,90,2,95,95,2,97,122,2,133,133,1,160,160,1,170,170,2,181,181,2,186,186,2,192,214,2,216,246,2,248,705,2,768,884,2,886,893,2,895,895,2,902,902,2,904,1013,2,1015,1153,2,1155,1327,2,1329,1366,2,1376,1416,2,1425,1469,2,1488,1514,2,1552,1562,2,1568,1641,2,1646,1747,2,1749,1756,2,1759,1768,2,1770,1788,2,1808,1866,2,2304,2403,2,2406,2415,2,2417,3571,2,3585,3642,2,3648,3662,2,3664,3673,2,3713,3807,2,3864,3897,2,3904,3972,2,3984,4028,2,4096,4169,2,4176,4253,2,4256,4346,2,4348,4607,2,4608,4959,2,5760,5760,1,6016,6099,2,7680,8188,2,8192,8202,1,8232,8233,1,8239,8239,1,8287,8287,1,8486,8486,2,8490,8491,2,8544,8584,2,12288,12288,1,12293,12295,2,12321,12335,2,12353,12438,2,12441,12442,2,12445,12447,2,12449,12538,2,12540,12543,2,12549,12591,2,12593,12686,2,13312,19903,2,19968,40959,2,43360,43388,2,44032,55203,2,55216,55291,2,63744,64255,2,64285,64335,2,65296,65305,2,65313,65338,2,65345,65370,2,65382,65500,2,66560,66639,2,131072,195103,2,196608,205743,2]
theorem By3:Dg6=Ar9:=by kernel_rfl
theorem By2:Da7=Bq1:=by kernel_rfl
theorem Cw3:Ca1=Dk1:=by kernel_rfl
theorem greatest:∀(L:List Nat) (s n:Nat),s<=n->∃b,(b=s\/b∈L)/\s<=b/\b<=n/\∀c∈L,c<=n->c<=b
 |[],s,n,h=>⟨s,.inl rfl,fJ _,h,λc hc=>by cases hc⟩
 |x::L,s,n,h=>by
  obtain ⟨b,h1,h2,h3,h4⟩:=greatest L s n h
  by_cases hx:x<=n/\b<x
  ·exact ⟨x,.inr aH,by omega,hx.1,λc hc hcn=>by
    rcases aG.1 hc with rfl|hc
    ·exact fJ _
    ·have:=h4 c hc hcn;omega⟩
  ·exact ⟨b,h1.imp id (aI _),h2,h3,λc hc hcn=>by
    rcases aG.1 hc with rfl|hc
    ·omega
    ·exact h4 c hc hcn⟩
def ends (T:List Row):List Nat:=T.flatMap λr=>[r.lo,r.hi+1]
theorem Vm:∀{T:List Row}{b n:Nat},b<=n->(∀c∈ends T,c<=n->c<=b)->Lh T n=Lh T b
 |[],_,_,_,_=>rfl
 | r::T,b,n,hb,h=>by
  have h1:r.lo<=n->r.lo<=b:=h r.lo (by simp [ends])
  have h2:r.hi+1<=n->r.hi+1<=b:=h (r.hi+1) (by simp [ends])
  have ih:=Vm (T:=T) hb λc hc=>h c (by
   unfold ends at hc ⊢
   rw [iD]
   exact bY _ hc)
  have e:(Nat.ble r.lo n&&Nat.ble n r.hi)=(Nat.ble r.lo b&&Nat.ble b r.hi):=by
   rw [gV]
   simp only [aV,nG]
   omega
  rw [Lh,Lh,e,ih]
def chk (A B:List Row) (s e:Nat):Bool:=(s::(ends A++ends B)).all λb=>!(Nat.ble s b&&Nat.ble (b+1) e)||Nat.beq (Lh A b) (Lh B b)
theorem P9 {A B:List Row}{s e:Nat}(h:chk A B s e=true){n:Nat}(h1:s<=n) (h2:n<e):Lh A n=Lh B n:=by
 obtain ⟨b,hb,g1,g2,g3⟩:=greatest (ends A++ends B) s n h1;have hm:b∈s::(ends A++ends B):=by
  rcases hb with rfl|hb
  ·exact aH
  ·exact aI _ hb
 have:=aS.1 h b hm;simp only [bM,dX,oW,Nat.beq_eq_true_eq] at this;rw [Vm g2 λc hc=>g3 c (bQ _ hc),Vm g2 λc hc=>g3 c (bY _ hc)];rcases this with (h|h)|h;{(have:Nat.ble s b=true:=by rw [nG];exact g1);rw [this] at h;cases h};{(have:Nat.ble (b+1) e=true:=by rw [nG];omega);rw [this] at h;cases h};{exact bP h}
def Q7 (ch:List (Bool×Int×Int)) (n:Nat):List Row:=ch.map λx=>⟨x.2.1.toNat,x.2.2.toNat,n⟩
def Ak7 (T:List (List (Bool×Int×Int)×Int)):List Row:=T.flatMap λp=>Q7 p.1 p.2.toNat
def Ce3 (ch:List (Bool×Int×Int)):Bool:=ch.all λx=>decide (0<=x.2.1)&&decide (0<=x.2.2)&&(!x.1||x.2.1==x.2.2)
def Co4 (T:List (List (Bool×Int×Int)×Int)):Bool:=T.all λp=>decide (0<=p.2)&&Ce3 p.1
theorem Cz2 {a:Int}(ha:0<=a){x:Bool×Int×Int}(h:(decide (0<=x.2.1)&&decide (0<=x.2.2)&&(!x.1||x.2.1==x.2.2))=true):inR a x=(Nat.ble x.2.1.toNat a.toNat&&Nat.ble a.toNat x.2.2.toNat):=by
 obtain ⟨b,l,u⟩:=x;simp only [aV,iI,bM,dX,jM] at h;unfold inR;rw [gV];cases b with
 |true=>simp only [aP,jM,aV,nG];(have:l=u:=by rcases h.2 with h|h;cases h;exact h);omega
 |false=>simp only [dO,dP,aV,iI,nG];omega
theorem Rn {a:Int}(ha:0<=a) (n:Nat) (R:List Row):∀{ch:List (Bool×Int×Int)},Ce3 ch=true->Lh (Q7 ch n++R) a.toNat=if Ig a ch then n else Lh R a.toNat
 |[],_=>rfl
 |x::ch,h=>by
  unfold Ce3 at h
  rw [aY,aV] at h
  have e:=Cz2 ha h.1
  have ih:=Rn ha n R (ch:=ch) h.2
  have e2:Q7 (x::ch) n++R=⟨x.2.1.toNat,x.2.2.toNat,n⟩::(Q7 ch n++R):=rfl
  have e3:Ig a (x::ch)=(inR a x||Ig a ch):=rfl
  rw [e2,Lh,ih,e3,←e]
  cases inR a x<;>simp
theorem X8 {a:Int}(ha:0<=a):∀{T:List (List (Bool×Int×Int)×Int)},Co4 T=true->X9 a 0 T=(Lh (Ak7 T) a.toNat:Nat)
 |[],_=>rfl
 |(ch,n)::T,h=>by
  unfold Co4 at h
  rw [aY,aV,aV,iI] at h
  have ih:=X8 ha (T:=T) h.2
  have e2:Ak7 ((ch,n)::T)=Q7 ch n.toNat++Ak7 T:=rfl
  rw [X9,e2,Rn ha n.toNat (Ak7 T) h.1.2,ih]
  split
  ·have:=h.1.1;dsimp only at this;omega
  ·rfl
theorem ok1:Co4 rC1=true:=by kernel_rfl
theorem ok2:Co4 rC2=true:=by kernel_rfl
theorem ok3:Co4 rC3=true:=by kernel_rfl
theorem Dj1:Ce3 Aa3=true:=by kernel_rfl
theorem Dj2:Ce3 Ag1=true:=by kernel_rfl
theorem Dj0:Ce3 Aa2=true:=by kernel_rfl
theorem Ea2:chk Ar9 (Ak7 rC1) 0 3076=true:=by kernel_rfl
theorem Ea1:chk Ar9 (Ak7 rC2) 3076 8505=true:=by kernel_rfl
theorem Ea0:chk Ar9 (Ak7 rC3) 8505 1114112=true:=by kernel_rfl
theorem Dg8:chk Bq1 (Q7 Aa3 1) 0 1114112=true:=by kernel_rfl
theorem Dg7:chk Dk1 (Q7 Ag1 1++Q7 Aa2 2) 0 1114112=true:=by kernel_rfl
end Rgl
end
section
open Go Go.Vx Cdc Gly Rgl
namespace Rgl
theorem Da8 {a:Int}(hs:Scalar a) (hh:¬(44032<=a/\a<55204)):(cls a:Int)=if a<3076 then X9 a 0 rC1 else if a<8505 then X9 a 0 rC2 else X9 a 0 rC3:=by have ha:0<=a:=(by rcases hs with h|h<;>omega);have hb:a.toNat<1114112:=(by rcases hs with h|h<;>omega);(have e:cls a=Lh Ar9 a.toNat:=by unfold cls;rw [aF hs,aJ hh,By3]);rw [e];split;{rw [X8 ha ok1,P9 Ea2 (iW _) (by omega)]};{split;{rw [X8 ha ok2,P9 Ea1 (by omega) (by omega)]};{rw [X8 ha ok3,P9 Ea0 (by omega) (by omega)]}}
theorem Bc1 {a:Int}(hs:Scalar a):Lh Da7 a.toNat=if Ig a Aa3 then 1 else 0:=by have ha:0<=a:=(by rcases hs with h|h<;>omega);have hb:a.toNat<1114112:=(by rcases hs with h|h<;>omega);rw [By2,P9 Dg8 (iW _) hb];have:=Rn ha 1 [] Dj1;rw [kM] at this;exact this
theorem Da6:(Aa3.all λx=>decide (0<=x.2.1)&&decide (x.2.2<44032)&&(!x.1||x.2.1==x.2.2))=true:=by kernel_rfl
theorem Dg5 {a:Int}(h:Ig a Aa3=true):0<=a/\a<44032:=by
 obtain ⟨x,hx,h⟩:=bK.1 h;have:=aS.1 Da6 x hx;obtain ⟨b,l,u⟩:=x;simp only [aV,iI,bM,dX,jM] at this;unfold inR at h;cases b with
 |true=>simp at h this;omega
 |false=>simp at h;omega
def Dk9:Bool:=(0::(ends Bq1++ends Ar9)).all λb=>Nat.beq (Lh Bq1 b) 0||Nat.beq (Lh Ar9 b) 0
theorem Ct0:Dk9=true:=by kernel_rfl
theorem Ci1 {n:Nat}(h:Lh Bq1 n≠0):Lh Ar9 n=0:=by
 obtain ⟨b,hb,g1,g2,g3⟩:=greatest (ends Bq1++ends Ar9) 0 n (iW _);have hm:b∈0::(ends Bq1++ends Ar9):=by
  rcases hb with rfl|hb
  ·exact aH
  ·exact aI _ hb
 have:=aS.1 Ct0 b hm;simp only [bM] at this;rw [Vm g2 λc hc=>g3 c (bQ _ hc)] at h;rw [Vm g2 λc hc=>g3 c (bY _ hc)];rcases this with q|q;{exact absurd (bP q) h};{exact bP q}
theorem By1 {a:Int}(h:Ig a Aa3=true):Scalar a/\cls a=0:=by obtain ⟨h1,h2⟩:=Dg5 h;have hs:Scalar a:=.inl ⟨h1,by omega⟩;refine ⟨hs,?_⟩;have:=Bc1 hs;rw [h,aF rfl,By2] at this;unfold cls;rw [aF hs,aJ (by omega),By3];exact Ci1 (by omega)
theorem Cs5:Ig 8204 Aa3=false:=by kernel_rfl
theorem X7 (a:Int):cnj a=if a=2381\/a=2509\/a=2765\/a=2893\/a=3149\/a=3405 then 3 else if (cls a=4\/cls a=5)/\a≠8204 then 2 else if Ig a Aa3 then 1 else 0:=by
 unfold cnj;split;{rfl};by_cases h2:a=8204;{subst h2;rw [aF rfl,aJ (λh=>h.2 rfl),Cs5];rfl}
 ·rw [aJ h2];by_cases h3:cls a=4\/cls a=5;{rw [aF h3,aF ⟨h3,h2⟩]}
  ·rw [aJ h3,aJ (show ¬((cls a=4\/cls a=5)/\a≠8204) from λh=>h3 h.1)];cases h4:Ig a Aa3 with
   |true=>obtain ⟨g1,g2⟩:=By1 h4;rw [aF ⟨g2,g1⟩,Bc1 g1,h4]
   |false=>split;{rename_i h5;rw [Bc1 h5.2,h4]};{rfl}
theorem Cw2:((Ag1++Aa2).all λx=>decide (0<=x.2.1)&&(decide (x.2.2<55296)||(decide (57343<x.2.1)&&decide (x.2.2<1114112)))&&(!x.1||x.2.1==x.2.2))=true:=by kernel_rfl
theorem Ck1 {a:Int}(h:Ig a Ag1=true\/Ig a Aa2=true):Scalar a:=by
 obtain ⟨x,hx,h⟩:∃x∈Ag1++Aa2,inR a x=true:=by
  rcases h with h|h
  ·obtain ⟨x,hx,h⟩:=bK.1 h;exact ⟨x,bQ _ hx,h⟩
  ·obtain ⟨x,hx,h⟩:=bK.1 h;exact ⟨x,bY _ hx,h⟩
 have:=aS.1 Cw2 x hx;obtain ⟨b,l,u⟩:=x;simp only [aV,iI,bM,dX,jM] at this;unfold inR at h;unfold Scalar;cases b with
 |true=>simp at h this;omega
 |false=>simp at h;omega
theorem Cw1 (a:Int):wrd a=if Ig a Ag1 then 0 else if Ig a Aa2 then 2 else 1:=by
 by_cases hs:Scalar a;{have ha:0<=a:=(by rcases hs with h|h<;>omega);have hb:a.toNat<1114112:=(by rcases hs with h|h<;>omega);have e1:=Rn ha 1 (Q7 Aa2 2) Dj2;have e2:=Rn ha 2 [] Dj0;rw [kM] at e2;rw [e2] at e1;unfold wrd;rw [aF hs,Cw3,P9 Dg7 (iW _) hb,e1];cases Ig a Ag1<;>cases Ig a Aa2<;>rfl}
 ·unfold wrd;rw [aJ hs];cases h1:Ig a Ag1 with
  |true=>exact absurd (Ck1 (.inl h1)) hs
  |false =>
   cases h2:Ig a Aa2 with
   |true=>exact absurd (Ck1 (.inr h2)) hs
   |false=>rfl
end Rgl
section
variable {w:World}
theorem Ar5 {a:Int}{K:Bool->Wp}(h:K (decide (Scalar a)) w):Aa Tryz.prog 172 #[.int .i64 a] rB K w:=by
 refine Ej4 ?_;unfold F172;have g:∀{b:Bool},(b=true↔Scalar a)->K b w:=λ{b} hb=>by
  have e:decide (Scalar a)=b:=by
   rw [gV,iI];exact hb.symm
  rw [e] at h;exact h
 refine Ac (λh1=>Ac (λh2=>Ac (λh3=>g ?_) (λh3=>g ?_)) (λh2=>g ?_)) (λh1=>g ?_);(all_goals simp only [iI,iH,jT,kG,dO,lQ,lS] at *);(all_goals unfold Scalar);all_goals omega
theorem Ij {a:Int}{K:Int->Wp}(h:K ((cls a:Nat):Int) w):Aa Tryz.prog 125 #[.int .i64 a] rI K w:=by refine Eo0 ?_;unfold F125;refine Ar5 ?_;refine Ac (λhn=>?_) (λhn=>?_);{simp only [dX,iH] at hn;(have:cls a=3:=by unfold cls;rw [aJ hn]);rw [this] at h;exact h};{simp only [nP,iI] at hn;have h0:0<=a:=(by rcases hn with q|q<;>omega);refine Ae (λx W=>x=(decide (44032<=a/\a<55204),())/\w=W) (Ac (λh1=>⟨Az ?_,rfl⟩) (λh1=>⟨Az ?_,rfl⟩)) ?_;{simp only [iI,jT] at *;omega};{simp only [iI,iH,jT,dO,lS] at *;omega};rintro _ _ ⟨rfl,rfl⟩;refine Ac (λhh=>?_) (λhh=>?_);{simp only [iI] at hh;refine Dc (by decide) ?_;(have e:cls a=if (a.toNat-44032)%28=0 then 12 else 13:=by unfold cls;rw [aF hn,aF hh]);rw [e] at h;rw [wrap64 (by omega) (by omega),mW (by omega)];refine Ac (λh1=>?_) (λh1=>?_);{simp only [jM] at h1;rw [aF (by omega)] at h;exact h};{simp only [jO,ne_eq] at h1;rw [aJ (by omega)] at h;exact h}};{simp only [iH] at hh;rw [Da8 hn hh] at h;refine Ac (λh1=>?_) (λh1=>?_);{simp only [iI] at h1;rw [aF h1] at h;exact Cz8 h};{simp only [iH] at h1;rw [aJ h1] at h;refine Ac (λh2=>?_) (λh2=>?_);{simp only [iI] at h2;rw [aF h2] at h;exact Cz7 h};{simp only [iH] at h2;rw [aJ h2] at h;exact Cz6 h}}}}
theorem Al3 {a:Int}{K:Int->Wp}(h:K ((cnj a:Nat):Int) w):Aa Tryz.prog 176 #[.int .i64 a] rI K w:=by refine Ej3 ?_;unfold F176;rw [X7] at h;refine Ae (λx W=>x=(decide (a=2381\/a=2509\/a=2765\/a=2893\/a=3149\/a=3405),())/\w=W) ?_ ?_;{refine Ac (λh1=>⟨Az ?_,rfl⟩) λh1=>Ac (λh2=>⟨Az ?_,rfl⟩) λh2=>Ac (λh3=>⟨Az ?_,rfl⟩) λh3=>Ac (λh4=>⟨Az ?_,rfl⟩) λh4=>Ac (λh5=>⟨Az ?_,rfl⟩) λh5=>⟨Az ?_,rfl⟩;(all_goals simp only [jM,jO,ne_eq,iI,lQ] at *);all_goals omega};rintro _ _ ⟨rfl,rfl⟩;refine Ac (λh1=>?_) (λh1=>?_);{simp only [iI] at h1;rw [aF h1] at h;exact h};simp only [iH] at h1;rw [aJ h1] at h;refine Ij ?_;refine Ae (λx W=>x=(decide ((cls a=4\/cls a=5)/\a≠8204),())/\w=W) ?_ ?_;{refine Ac (λh1=>⟨Az ?_,rfl⟩) λh1=>Ac (λh2=>⟨Az ?_,rfl⟩) λh2=>⟨Az ?_,rfl⟩;(all_goals simp only [jM,jO,mY,ne_eq,iI,dO,lS] at *);all_goals omega};rintro _ _ ⟨rfl,rfl⟩;refine Ac (λh1=>?_) (λh1=>?_);{simp only [iI] at h1;rw [aF h1] at h;exact h};simp only [iH] at h1;rw [aJ h1] at h;refine Cg0 (Ac (λh2=>?_) (λh2=>?_));{rw [h2] at h;exact h};{rw [h2] at h;exact h}
theorem Bn6 {a:Int}{K:Int->Wp}(h:K ((wrd a:Nat):Int) w):Aa Tryz.prog 33 #[.int .i64 a] rI K w:=by refine A33 ?_;unfold F33;rw [Cw1] at h;refine Cg1 (Ac (λh1=>?_) (λh1=>Cf9 (Ac (λh2=>?_) (λh2=>?_))));{rw [h1] at h;exact h};{rw [h1,h2] at h;exact h};{rw [h1,h2] at h;exact h}
end
end
section
open Gly Clu Rgl
namespace Clu
def sN (l:List Int):Sc:=l.foldl (λs a=>s.note (cls a) (cnj a)) Sc.zero
theorem Qk (l:List Int) (a:Int):sN (l++[a])=(sN l).note (cls a) (cnj a):=by simp [sN]
theorem Cy8:(([2381,2509,2765,2893,3149,3405]:List Int).all λa=>cls a==4)=true:=by kernel_rfl
theorem Dk6 {a:Int}(h:cnj a=3):cls a=4:=by rw [X7] at h;split at h;{rename_i hl;have:=aS.1 Cy8 a (by simp;omega);simpa using this};{split at h;{omega};{split at h<;>omega}}
theorem Dk7 {a:Int}(h:cnj a=2):cls a=4\/cls a=5:=by rw [X7] at h;split at h;{omega};{split at h;{rename_i hx;exact hx.1};{split at h<;>omega}}
theorem Dz9 {a:Int}(h:cnj a=1):cls a=0:=by rw [X7] at h;split at h;{omega};{split at h;{omega};{split at h;{rename_i hx;exact (By1 hx).2};{omega}}}
theorem Cs7 (a:Int):cnj a<=3:=by rw [X7];split;{omega};{split;{omega};{split<;>omega}}
structure NOk (s:Sc):Prop where
 fl:0<s.flags->s.last=6
 pi:0<s.pict->s.last=14\/s.last=4\/s.last=5
 co:0<s.conj->s.last=0\/s.last=4\/s.last=5
theorem Co9 {s:Sc}(a:Int):NOk (s.note (cls a) (cnj a)):=by
 refine ⟨λh=>?_,λh=>?_,λh=>?_⟩
 ·simp only [Sc.note] at h ⊢
  split at h
  ·assumption
  ·omega
 ·simp only [Sc.note] at h ⊢
  split at h
  ·omega
  ·split at h
   ·omega
   ·split at h<;>omega
 ·simp only [Sc.note] at h ⊢
  split at h
  ·exact .inl (Dz9 ‹_›)
  ·split at h
   ·exact .inr (.inl (Dk6 (by omega)))
   ·split at h
    ·exact .inr (Dk7 (by omega))
    ·omega
theorem nok (l:List Int):NOk (sN l):=by rcases qB l with rfl|⟨m,a,rfl⟩;{exact ⟨λh=>by simp [sN,Sc.zero] at h,λh=>by simp [sN,Sc.zero] at h,λh=>by simp [sN,Sc.zero] at h⟩};{rw [qC,Qk];exact Co9 a}
structure Alike (s t:Sc):Prop where
 la:s.last=t.last
 fl:s.flags%2=t.flags%2
 pi:s.pict=t.pict
 co:s.conj=t.conj
theorem Bt9 {s t:Sc}(h:Alike s t) (c p:Nat):Alike (s.note c p) (t.note c p):=by obtain ⟨h1,h2,h3,h4⟩:=h;refine ⟨rfl,?_,?_,?_⟩;{simp only [Sc.note];split<;>omega};{simp only [Sc.note,h3]};{simp only [Sc.note,h4]}
theorem Ag0 {s t:Sc}(h:Alike s t) (c p:Nat):joins s c p=joins t c p:=by obtain ⟨h1,h2,h3,h4⟩:=h;unfold joins;rw [h1,h2,h3,h4]
theorem Ce5 (s:Sc) (c p:Nat):(s.note c p).conj=(if p=1 then 1 else if 0<s.conj/\p=3 then 2 else if 0<s.conj/\p=2 then s.conj else 0):=rfl
theorem Au6 (s:Sc) (c p:Nat):(s.note c p).pict=(if c=14 then 1 else if s.pict=1/\c=5 then 2 else if s.pict=1/\c=4 then s.pict else 0):=rfl
theorem Ce4 (c p:Nat):(Sc.zero.note c p).flags=(if c=6 then 1 else 0)/\(Sc.zero.note c p).pict=(if c=14 then 1 else 0)/\(Sc.zero.note c p).conj=(if p=1 then 1 else 0):=by simp [Sc.note,Sc.zero]
theorem alike (l:List Int):Alike (sc l) (sN l):=by
 have key : ∀n (l:List Int),l.length=n->Alike (sc l) (sN l):=by
  intro n
  induction n with
  |zero=>intro l hl;obtain rfl:=bF.1 hl;exact ⟨rfl,rfl,rfl,rfl⟩
  | succ n ih =>
   intro l hl;rcases qB l with rfl|⟨m,a,rfl⟩;{simp at hl};rw [qC] at hl ⊢;have ih:=ih m (by rw [iE] at hl;simpa using hl);rw [P8,Qk];cases hj:joins (sc m) (cls a) (cnj a) with
   |true=>rw [As9 hj];exact Bt9 ih _ _
   | false =>
    rw [Bu3 hj,Aj2];have hN:=nok m;rw [Ag0 ih] at hj;obtain ⟨n1,n2,n3⟩:=hN;generalize sN m=t at *;have c3:=Dk6 (a:=a);have c2:=Dk7 (a:=a);have hle:=Cs7 a;generalize cls a=c at *;generalize cnj a=p at *;have hap:c=4\/c=5->apart t.last=true:=by
     intro hc
     unfold joins at hj
     split at hj
     ·cases hj
     ·split at hj
      ·rename_i hap
       rcases hap with h|h
       ·exact h
       ·simp only [apart,iI] at h;omega
      ·rw [aF (by omega)] at hj;cases hj
    have hap2:apart t.last=true->t.flags=0/\t.pict=0/\t.conj=0:=by
     intro h
     simp only [apart,iI] at h
     refine ⟨?_,?_,?_⟩
     ·rcases lC t.flags with q|q
      ·exact q
      ·have:=n1 q;omega
     ·rcases lC t.pict with q|q
      ·exact q
      ·have:=n2 q;omega
     ·rcases lC t.conj with q|q
      ·exact q
      ·have:=n3 q;omega
    obtain ⟨z1,z2,z3⟩:=Ce4 c p;refine ⟨rfl,?_,?_,?_⟩
    ·rw [z1];simp only [Sc.note];by_cases hc:c=6
     ·have : t.flags%2=0:=by
       subst hc
       unfold joins at hj
       split at hj
       ·cases hj
       ·split at hj
        ·rename_i hap'
         rcases hap' with h|h
         ·rw [(hap2 h).1]
         ·simp [apart] at h
        ·split at hj
         ·cases hj
         ·split at hj
          ·cases hj
          ·split at hj
           ·cases hj
           ·simp at hj;omega
      rw [aF hc,aF hc];omega
     {rw [aJ hc,aJ hc]}
    {rw [z2];simp only [Sc.note];by_cases h14:c=14;{rw [aF h14,aF h14]};{rw [aJ h14,aJ h14];by_cases hc:c=4\/c=5;{have:=(hap2 (hap hc)).2.1;rw [aJ (λq=>by have:=q.1;omega),aJ (λq=>by have:=q.1;omega)]};{rw [aJ (λq=>by have:=q.2;omega),aJ (λq=>by have:=q.2;omega)]}}}
    ·rw [z3];simp only [Sc.note];by_cases h1:p=1;{rw [aF h1,aF h1]}
     ·rw [aJ h1,aJ h1];by_cases hp:p=3\/p=2
      ·have h45:c=4\/c=5:=by
        rcases hp with h|h
        ·exact .inl (c3 h)
        ·exact c2 h
       have:=(hap2 (hap h45)).2.2;rw [aJ (λq=>by have:=q.1;omega),aJ (λq=>by have:=q.1;omega)]
      {rw [aJ (λq=>by have:=q.2;omega),aJ (λq=>by have:=q.2;omega)]}
 exact key _ l rfl
def Xq:List Int->Nat->Bool
 |[],_=>false
 |a::r,n=>if cnj a≠3/\cnj a≠2 then decide (0<n)&&(cnj a==1) else Xq r (if cnj a=3 then n+1 else n)
def Vf:List Int->Bool
 |[]=>false
 |a::r=>if cls a≠4 then cls a==14 else Vf r
def Vr:List Int->Nat
 |[]=>0
 |a::r=>if cls a≠6 then 0 else Vr r+1
theorem Bj6:∀(r:List Int) (n:Nat),Xq r n=((sN r.reverse).conj==2||((sN r.reverse).conj==1&&decide (0<n)))
 |[],n=>by simp [Xq,sN,Sc.zero]
 | a :: r,n=>by
  rw [qE,Qk,Xq]
  have hle:=Cs7 a
  rw [Ce5]
  by_cases h:cnj a≠3/\cnj a≠2
  ·rw [aF h]
   by_cases h1:cnj a=1
   ·rw [h1];simp
   ·have h0:cnj a=0:=by omega
    rw [h0];simp
  ·rw [aJ h,Bj6 r]
   have c2:(sN r.reverse).conj<=2:=by
    have key:∀l:List Int,(sN l).conj<=2:=by
     intro l
     have:∀n (l:List Int),l.length=n->(sN l).conj<=2:=by
      intro n
      induction n with
      |zero=>intro l hl;rw [bF.1 hl];simp [sN,Sc.zero]
      | succ n ih =>
       intro l hl
       rcases qB l with rfl|⟨m,b,rfl⟩
       ·simp at hl
       rw [qC] at hl ⊢
       have:=ih m (by rw [iE] at hl;simpa using hl)
       rw [Qk]
       simp only [Sc.note]
       split
       ·omega
       ·split
        ·omega
        ·split<;>omega
     exact this _ l rfl
    exact key _
   generalize (sN r.reverse).conj=t at *
   by_cases h3:cnj a=3
   ·rw [h3]
    match t,c2 with
    |0,_=>simp
    |1,_=>simp
    |2,_=>simp
   ·have h2:cnj a=2:=by omega
    rw [h2]
    match t,c2 with
    |0,_=>simp
    |1,_=>simp
    |2,_=>simp
theorem Bg0:∀(r:List Int),Vf r=((sN r.reverse).pict==1)
 |[]=>by simp [Vf,sN,Sc.zero]
 | a::r=>by
  rw [qE,Qk,Vf,Au6]
  by_cases h:cls a≠4
  ·rw [aF h]
   by_cases h14:cls a=14
   ·rw [h14];simp
   ·have:(cls a==14)=false:=by rw [jO];exact h14
    rw [this,aJ h14]
    split
    ·rfl
    ·rw [aJ (λq=>h q.2)];rfl
  ·rw [aJ h,Bg0 r]
   have h4:cls a=4:=by omega
   rw [h4,aJ (by decide),aJ (by omega)]
   by_cases hp:(sN r.reverse).pict=1
   ·rw [aF ⟨hp,rfl⟩]
   ·rw [aJ (λq=>hp q.1)];simp [hp]
theorem Bi0:∀(r:List Int),Vr r=(sN r.reverse).flags
 |[]=>rfl
 |a::r=>by
  rw [qE,Qk,Vr,Bi0 r]
  simp only [Sc.note]
  by_cases h:cls a=6
  ·rw [aJ (by omega),aF h]
  ·rw [aF h,aJ h]
def Bb3 (r:List Int) (l:Nat) (c p:Nat):Bool :=
 if l=1/\c=2 then true else if apart l=true\/apart c=true then false else
  Nb l c||decide (c=4\/c=5\/c=8\/l=7)||(decide (p=1)&&Xq r 0)||(decide (c=14/\l=5)&&Vf r.tail)||(decide (c=6)&&Vr r%2==1)
theorem Bq3 {b:Int}(r:List Int) (c p:Nat):joins (sc (r.reverse++[b])) c p=Bb3 (b::r) (cls b) c p:=by
 have ha:=alike (r.reverse++[b]);rw [Ag0 ha];(have hl:(sN (r.reverse++[b])).last=cls b:=by rw [Qk];rfl);have hc:Xq (b::r) 0=((sN (r.reverse++[b])).conj==2):=by
  rw [Bj6,qE];simp
 have hf:Vr (b::r)=(sN (r.reverse++[b])).flags:=(by rw [Bi0,qE]);have hp:(decide (cls b=5)&&Vf r)=((sN (r.reverse++[b])).pict==2):=by
  rw [Bg0,Qk,Au6]
  have p2:(sN r.reverse).pict<=2:=by
   rcases qB r.reverse with h|⟨m,x,h⟩
   ·rw [h];simp [sN,Sc.zero]
   ·rw [h,qC,Qk]
    simp only [Sc.note]
    split
    ·omega
    ·split
     ·omega
     ·split<;>omega
  by_cases h5:cls b=5
  ·rw [h5]
   by_cases h1:(sN r.reverse).pict=1
   ·simp [h1]
   ·simp [h1]
  ·by_cases h14:cls b=14
   ·simp [h5,h14]
   ·rw [aJ h14,aJ (λh=>h5 h.2)]
    by_cases h4:(sN r.reverse).pict=1/\cls b=4
    ·rw [aF h4];simp [h5,h4.1]
    ·rw [aJ h4];simp [h5]
 unfold joins Bb3;rw [hl];have:(b::r).tail=r:=rfl;rw [this,hc,hf];split;{rfl}
 ·split;{rfl}
  ·have e2:(decide (c=14/\cls b=5)&&Vf r)=(decide (c=14)&&((sN (r.reverse++[b])).pict==2)):=by
    rw [←hp,←Bool.and_assoc]
    congr 1
    simp
   rw [e2];generalize sN (r.reverse++[b])=t at *;by_cases g1:c=4\/c=5\/c=8\/cls b=7;{rw [aF g1];simp [g1]}
   ·rw [aJ g1];cases g2:Nb (cls b) c with
    |true=>simp
    | false =>
     simp only [dO,dP,g1,decide_false,bD];by_cases g3:p=1/\t.conj=2;{rw [aF g3];simp [g3.1,g3.2]}
     ·rw [aJ g3];have e3:(decide (p=1)&&(t.conj==2))=false:=by
       rw [lX];intro q;simp at q;exact g3 q
      rw [e3,bD];by_cases g4:c=14;{rw [aF g4,g4];simp};{rw [aJ g4];by_cases g5:c=6;{rw [aF g5,g5];simp};{rw [aJ g5];simp [g4,g5]}}
end Clu
end
section
open Go Go.Vx Gly Clu Rgl
section
variable {w w':World}
theorem Az0 {l r:Nat}{K:Bool->Wp}(h:K (Nb l r) w):Aa Tryz.prog 126 #[.int .i64 (l:Int),.int .i64 (r:Int)] rB K w:=by
 refine En9 ?_;unfold F126;have g:∀{b:Bool},(b=true↔Nb l r=true)->K b w:=λ{b} hb=>by
  have:Nb l r=b:=gV.2 hb.symm
  rw [this] at h;exact h
 (have hx:∀{n m:Nat},(((n:Int)==(m:Int))=true)=(n=m):=by intro n m;simp;omega);refine Ae (λx W=>x=(decide (l=9/\(r=9\/r=10\/r=12\/r=13)),())/\w=W) ?_ ?_;{refine Ac (λh1=>Ac (λh2=>⟨Az ?_,rfl⟩) λh2=>Ac (λh3=>⟨Az ?_,rfl⟩) λh3=>Ac (λh4=>⟨Az ?_,rfl⟩) λh4=>⟨Az ?_,rfl⟩) λh1=>⟨Az ?_,rfl⟩;(all_goals simp only [jM,jO,ne_eq,iI,lQ,dO,lS] at *);all_goals omega};rintro _ _ ⟨rfl,rfl⟩;refine Ac (λh1=>?_) (λh1=>?_);{simp only [iI] at h1;refine g ?_;unfold Nb;simp only [iI,lQ];exact .inl h1};simp only [iH] at h1;refine Ae (λx W=>x=(decide ((l=12\/l=10)/\(r=10\/r=11)),())/\w=W) ?_ ?_;{refine Ac (λh1=>Ac (λh2=>⟨Az ?_,rfl⟩) λh2=>⟨Az ?_,rfl⟩) λh1=>Ac (λh2=>Ac (λh3=>⟨Az ?_,rfl⟩) λh3=>⟨Az ?_,rfl⟩) λh2=>⟨Az ?_,rfl⟩;(all_goals simp only [jM,jO,ne_eq,iI,lQ,dO,lS] at *);all_goals omega};rintro _ _ ⟨rfl,rfl⟩;refine Ac (λh2=>?_) (λh2=>?_);{simp only [iI] at h2;refine g ?_;unfold Nb;simp only [iI,lQ];exact .inr (.inl h2)};simp only [iH] at h2;refine Ac (λh3=>g ?_) (λh3=>Ac (λh4=>g ?_) (λh4=>g ?_));(all_goals unfold Nb);(all_goals simp only [jM,jO,ne_eq,iI,dO,lS] at *);all_goals omega
variable {A:List Int}{s:Sl}{t:TypeId}
theorem O6 {A:List Int}{j:Nat}{a:Int}(h:A[j]?=some a):(A.take (j+1)).reverse=a::(A.take j).reverse:=by rw [kT,h];simp
theorem rdA (hs:Bl w s t 1 (iv A)){j:Nat}{a:Int}(h:A[j]?=some a){K:Addr->Int->Wp}(hK:∀q,K q a w):ix s.a s.len (j:Int) (λq=>ld (.int .i64) (q.add (scaled (Int.toNat (j:Int)) 1)) (K q)) w :=
 Ew (c:=.int .i64) (xs:=A) hs (by omega) (by rw [dF];exact h) hK
theorem Al2 (hs:Bl w s t 1 (iv A)) (hl:A.length<2^40){k:Nat}{a:Int}(ha:A[k]?=some a){K:Bool->Wp}(h:K (decide (cnj a=1)&&Xq (A.take k).reverse 0) w) :
  Aa Tryz.prog 127 #[s.v,.int .i64 (k:Int)] rB K w:=by refine En8 ?_;unfold F127;have hk:=(fG.1 ha).1;refine rdA hs ha λq=>Al3 (Ac (λh1=>?_) (λh1=>?_));{simp only [mY,ne_eq] at h1;rw [jQ (by omega),lW] at h;exact h};simp only [mZ] at h1;rw [jP (by omega),lD] at h;have ew:W64 ((k:Int)-1)=(k:Int)-1:=wrap64 (by omega) (by omega);rw [ew];refine Ae (λ_ W=>w=W/\Xq (A.take k).reverse 0=false) ?_ (λ_ W hW=>by obtain ⟨rfl,hf⟩:=hW;rw [hf] at h;exact h);refine Ba (λx W=>∃n j:Nat,x=((n:Int),(j:Int)-1,())/\j<=k/\n+j<=k/\w=W/\Xq (A.take k).reverse 0=Xq (A.take j).reverse n) (λx _=>(x.2.1+1).toNat) ⟨0,k,rfl,fJ _,by omega,rfl,rfl⟩ ?_;rintro _ _ ⟨n,j,rfl,hj,hnj,rfl,he⟩;dsimp only;refine Ac (λhc=>?_) (λhc=>?_);{simp only [iI,jT] at hc;obtain ⟨i,rfl⟩:∃i,j=i+1:=⟨j-1,by omega⟩;obtain ⟨b,hb⟩:∃b,A[i]?=some b:=⟨_,jC (by omega)⟩;have e1:((i+1:Nat):Int)-1=(i:Int):=(by omega);rw [O6 hb,Xq] at he;rw [e1];have ewi:W64 ((i:Int)-1)=(i:Int)-1:=wrap64 (by omega) (by omega);(have ewn:W64 ((n:Int)+1)=((n+1:Nat):Int):=by rw [wrap64 (by omega) (by omega)];omega);rw [ewi,ewn];refine rdA hs hb λq=>Al3 ?_;refine Ae (λx W=>x=(((if cnj b=3 then n+1 else n:Nat):Int),())/\w=W) (Ac (λh3=>⟨?_,rfl⟩) (λh3=>⟨?_,rfl⟩)) ?_;{simp only [jM] at h3;rw [aF (by omega)]};{simp only [jO,ne_eq] at h3;rw [aJ (by omega)]};rintro _ _ ⟨rfl,rfl⟩;refine Ae (λx W=>x=(decide (cnj b≠3/\cnj b≠2),())/\w=W) (Ac (λh3=>⟨Az ?_,rfl⟩) (λh3=>⟨Az ?_,rfl⟩)) ?_;{simp only [mY,ne_eq,iI] at *;omega};{simp only [mZ,ne_eq,iI,dO,lS] at *;omega};rintro _ _ ⟨rfl,rfl⟩;refine Ac (λh3=>?_) (λh3=>?_);{simp only [iI] at h3;rw [aF h3] at he;rw [aJ h3.1];refine Ac (λh4=>?_) (λh4=>?_);{simp only [iI,kG] at h4;rw [he,jP (by omega),lD] at h;(have:(((cnj b:Nat):Int)==(1:Int))=(cnj b==1):=by rw [gV,jM,jM];omega);rw [this];exact h};{simp only [iH,kG] at h4;rw [he,jQ (by omega),lW] at h;exact h}};{simp only [iH] at h3;rw [aJ h3] at he;exact ⟨⟨_,i,rfl,by omega,by split<;>omega,rfl,he⟩,by omega⟩}};{simp only [iH,jT] at hc;obtain rfl:j=0:=(by omega);exact ⟨rfl,he⟩}
theorem Ay9 (hs:Bl w s t 1 (iv A)) (hl:A.length<2^40){k:Nat}{a b:Int}(ha:A[k+1]?=some a) (hb:A[k]?=some b){K:Bool->Wp}(h:K (decide (cls a=14/\cls b=5)&&Vf (A.take k).reverse) w) :
  Aa Tryz.prog 128 #[s.v,.int .i64 ((k+1:Nat):Int)] rB K w:=by refine En7 ?_;unfold F128;have hk:=(fG.1 ha).1;(have ew1:W64 (((k+1:Nat):Int)-1)=(k:Int):=by rw [wrap64 (by omega) (by omega)];omega);(have ew2:W64 (((k+1:Nat):Int)-2)=(k:Int)-1:=by rw [wrap64 (by omega) (by omega)];omega);rw [ew1,ew2];refine Ae (λx W=>x=(decide (¬(cls a=14/\cls b=5)),())/\w=W) ?_ ?_;{refine rdA hs ha λq=>Ij (Ac (λh1=>⟨Az ?_,rfl⟩) (λh1=>rdA hs hb λq=>Ij ⟨Az ?_,rfl⟩));{simp only [mY,ne_eq,iI,lQ] at *;omega};{simp only [mZ,mY,ne_eq,iI] at *;omega}};rintro _ _ ⟨rfl,rfl⟩;refine Ac (λh1=>?_) (λh1=>?_);{simp only [iI] at h1;rw [jQ h1,lW] at h;exact h};simp only [iH,Decidable.not_not] at h1;rw [jP h1,lD] at h;refine Ae (λ_ W=>w=W/\Vf (A.take k).reverse=false) ?_ (λ_ W hW=>by obtain ⟨rfl,hf⟩:=hW;rw [hf] at h;exact h);refine Ba (λx W=>∃j:Nat,x=((j:Int)-1,())/\j<=k/\w=W/\Vf (A.take k).reverse=Vf (A.take j).reverse) (λx _=>(x.1+1).toNat) ⟨k,rfl,fJ _,rfl,rfl⟩ ?_;rintro _ _ ⟨j,rfl,hj,rfl,he⟩;dsimp only;refine Ac (λhc=>?_) (λhc=>?_);{simp only [iI,jT] at hc;obtain ⟨i,rfl⟩:∃i,j=i+1:=⟨j-1,by omega⟩;obtain ⟨c,hcc⟩:∃b,A[i]?=some b:=⟨_,jC (by omega)⟩;have e1:((i+1:Nat):Int)-1=(i:Int):=(by omega);rw [O6 hcc,Vf] at he;rw [e1];have ewi:W64 ((i:Int)-1)=(i:Int)-1:=wrap64 (by omega) (by omega);rw [ewi];refine rdA hs hcc λq=>Ij (Ac (λh3=>?_) (λh3=>?_));{simp only [mY,ne_eq] at h3;rw [aF (by omega)] at he;rw [he] at h;(have:(((cls c:Nat):Int)==(14:Int))=(cls c==14):=by rw [gV,jM,jM];omega);rw [this];exact h};{simp only [mZ] at h3;rw [aJ (by omega)] at he;exact ⟨⟨i,rfl,by omega,rfl,he⟩,by omega⟩}};{simp only [iH,jT] at hc;obtain rfl:j=0:=(by omega);exact ⟨rfl,he⟩}
theorem Bo0 (hs:Bl w s t 1 (iv A)) (hl:A.length<2^40){k:Nat}{a:Int}(ha:A[k]?=some a){K:Bool->Wp}(h:K (decide (cls a=6)&&Vr (A.take k).reverse%2==1) w) :
  Aa Tryz.prog 129 #[s.v,.int .i64 (k:Int)] rB K w:=by refine En6 ?_;unfold F129;have hk:=(fG.1 ha).1;refine rdA hs ha λq=>Ij (Ac (λh1=>?_) (λh1=>?_));{simp only [mY,ne_eq] at h1;rw [jQ (by omega),lW] at h;exact h};simp only [mZ] at h1;rw [jP (by omega),lD] at h;have ew:W64 ((k:Int)-1)=(k:Int)-1:=wrap64 (by omega) (by omega);rw [ew];refine Ae (λx W=>x=(((Vr (A.take k).reverse:Nat):Int),())/\w=W) ?_ ?_;{refine Ba (λx W=>∃n j:Nat,x=((n:Int),(j:Int)-1,())/\j<=k/\n+j<=k/\w=W/\Vr (A.take k).reverse=n+Vr (A.take j).reverse) (λx _=>(x.2.1+1).toNat) ⟨0,k,rfl,fJ _,by omega,rfl,by omega⟩ ?_;rintro _ _ ⟨n,j,rfl,hj,hnj,rfl,he⟩;dsimp only;refine Ac (λhc=>?_) (λhc=>?_);{simp only [iI,jT] at hc;obtain ⟨i,rfl⟩:∃i,j=i+1:=⟨j-1,by omega⟩;obtain ⟨c,hcc⟩:∃b,A[i]?=some b:=⟨_,jC (by omega)⟩;have e1:((i+1:Nat):Int)-1=(i:Int):=(by omega);rw [O6 hcc,Vr] at he;rw [e1];have ewi:W64 ((i:Int)-1)=(i:Int)-1:=wrap64 (by omega) (by omega);(have ewn:W64 ((n:Int)+1)=((n+1:Nat):Int):=by rw [wrap64 (by omega) (by omega)];omega);rw [ewi,ewn];refine rdA hs hcc λq=>Ij (Ac (λh3=>⟨?_,rfl⟩) (λh3=>?_));{simp only [mY,ne_eq] at h3;rw [aF (by omega)] at he;rw [he,Nat.add_zero]};{simp only [mZ] at h3;rw [aJ (by omega)] at he;exact ⟨⟨n+1,i,rfl,by omega,by omega,rfl,by omega⟩,by omega⟩}};{simp only [iH,jT] at hc;obtain rfl:j=0:=(by omega);refine ⟨?_,rfl⟩;rw [he];rfl}};rintro _ _ ⟨rfl,rfl⟩;refine Dc (by decide) ?_;rw [mW (by omega)];(have:((((Vr (A.take k).reverse:Nat):Int)%2)==(1:Int))=(Vr (A.take k).reverse%2==1):=by rw [gV,jM,jM];omega);rw [this];exact h
theorem Ar4 (hs:Bl w s t 1 (iv A)) (hl:A.length<2^40){k:Nat}(hk:k<=A.length){K:Bool->Wp}(h:K (bk A k) w) :
  Aa Tryz.prog 75 #[s.v,.int .i64 (k:Int)] rB K w:=by
 refine A75 ?_;unfold F75;(have hlen:A.length=s.len:=by have:=hs.len1;rwa [gW] at this);refine Ae (λx W=>x=(false,())/\w=W) (Ac (λhc=>?_) (λhc=>⟨Az ?_,rfl⟩)) ?_;{simp only [iI] at hc;omega};{simp only [iI,kG,dO,iff_false];omega};rintro _ _ ⟨rfl,rfl⟩;refine Ah ?_;refine Ae (λx W=>x=(decide (k=0\/k=A.length),())/\w=W) (Ac (λhc=>⟨Az ?_,rfl⟩) (λhc=>⟨Az ?_,rfl⟩)) ?_;{simp only [jM,iI,lQ] at *;omega};{simp only [jO,ne_eq,jM,iI] at *;omega};rintro _ _ ⟨rfl,rfl⟩;refine Ac (λhc=>?_) (λhc=>?_)
 ·simp only [iI] at hc;have:bk A k=true:=by
   rcases hc with rfl|rfl
   ·exact Y7 A
   ·exact Bc9 A
  rw [this] at h;exact h
 simp only [iH,not_or] at hc;obtain ⟨j,rfl⟩:∃j,k=j+1:=⟨k-1,by omega⟩;have ha:A[j+1]?=some A[j+1]:=jC (by omega);have hb:A[j]?=some A[j]:=jC (by omega);generalize A[j+1]=a at *;generalize A[j]=b at *;have hbk:bk A (j+1) = !Bb3 (b::(A.take j).reverse) (cls b) (cls a) (cnj a):=by
  rw [By9 ha (by omega),kT,hb]
  have:=Bq3 (b:=b) (A.take j).reverse (cls a) (cnj a)
  rw [oG] at this
  show (!joins (sc (A.take j++[b])) _ _)=_
  rw [this]
 rw [hbk] at h;(have ew1:W64 (((j+1:Nat):Int)-1)=(j:Int):=by rw [wrap64 (by omega) (by omega)];omega);rw [ew1];refine rdA hs hb λq=>Ij (rdA hs ha λq=>Ij ?_);unfold Bb3 at h;refine Ae (λx W=>x=(decide (cls b=1/\cls a=2),())/\w=W) (Ac (λh1=>⟨Az ?_,rfl⟩) (λh1=>⟨Az ?_,rfl⟩)) ?_;{simp only [jM,iI] at *;omega};{simp only [jO,ne_eq,iI,dO,lS] at *;omega};rintro _ _ ⟨rfl,rfl⟩;refine Ac (λh1=>?_) (λh1=>?_);{simp only [iI] at h1;rw [aF h1] at h;exact h};simp only [iH] at h1;rw [aJ h1] at h;refine Ae (λx W=>x=(decide (apart (cls b)=true\/apart (cls a)=true),())/\w=W) ?_ ?_;{refine Ac (λg1=>⟨Az ?_,rfl⟩) λg1=>Ac (λg2=>⟨Az ?_,rfl⟩) λg2=>Ac (λg3=>⟨Az ?_,rfl⟩) λg3=>Ac (λg4=>⟨Az ?_,rfl⟩) λg4=>Ac (λg5=>⟨Az ?_,rfl⟩) λg5=>⟨Az ?_,rfl⟩;(all_goals unfold apart);(all_goals simp only [jM,jO,ne_eq,iI,lQ] at *);all_goals omega};rintro _ _ ⟨rfl,rfl⟩;refine Ac (λh2=>?_) (λh2=>?_);{simp only [iI] at h2;rw [aF h2] at h;exact h};simp only [iH] at h2;rw [aJ h2] at h;refine Az0 ?_;refine Ae (λx W=>x=((Nb (cls b) (cls a)||decide (cls a=4\/cls a=5\/cls a=8\/cls b=7)),())/\w=W) ?_ ?_;{refine Ac (λg1=>⟨Az ?_,rfl⟩) λg1=>Ac (λg2=>⟨Az ?_,rfl⟩) λg2=>Ac (λg3=>⟨Az ?_,rfl⟩) λg3=>Ac (λg4=>⟨Az ?_,rfl⟩) λg4=>⟨Az ?_,rfl⟩;(all_goals simp only [g1,fB,bD,jM,jO,ne_eq,iI,lQ] at *);all_goals omega};rintro _ _ ⟨rfl,rfl⟩;refine Ac (λh3=>?_) (λh3=>?_);{have h3:(Nb (cls b) (cls a)||decide (cls a=4\/cls a=5\/cls a=8\/cls b=7))=true:=h3;rw [h3,fB,fB,fB] at h;exact h};have h3:(Nb (cls b) (cls a)||decide (cls a=4\/cls a=5\/cls a=8\/cls b=7))=false:=h3;rw [h3,bD] at h;refine Al2 hs hl ha (Ay9 hs hl ha hb (Bo0 hs hl ha ?_));rw [O6 hb];have ht:(b::(A.take j).reverse).tail=(A.take j).reverse:=rfl;rw [ht] at h;generalize (decide (cnj a=1)&&Xq (b::(A.take j).reverse) 0)=x at *;generalize (decide (cls a=14/\cls b=5)&&Vf (A.take j).reverse)=y at *;generalize (decide (cls a=6)&&Vr (b::(A.take j).reverse)%2==1)=z at *;cases x;{cases y;{refine Ac (λ_=>Ac (λ_=>?_) (λq=>by cases q)) (λq=>by cases q);exact h};{exact Bh (Ah h)}};{exact Ah h}
end
end
section
open Go Go.Vx Gly Clu Rgl Lns Trx Obx
section
variable {w w':World}{A:List Int}{s:Sl}{t:TypeId}
theorem Az7 (hs:Bl w s t 1 (iv A)) (hl:A.length<2^40){K:Sl->Wp}(hK:∀s' w',Ar w' w.heap.size s' 3 1 (nv (cuts A))->Ext w w'->K s' w') :
  Aa Tryz.prog 32 #[s.v] rS K w:=by refine A32 ?_;unfold F32;(have hlen:A.length=s.len:=by have:=hs.len1;rwa [gW] at this);(have nvi:∀l:List Nat,nv l=iv (l.map λ(n:Nat)=>(n:Int)):=λl=>by show l.map _=(l.map _).map _;rw [jL];rfl);have full:(List.range (A.length+1)).filter (bk A)=cuts A:=rfl;refine Ae (λx W=>Ar W w.heap.size x.1 3 1 (nv (cuts A))/\Ext w W) ?_ (λx W h=>hK _ _ h.1 h.2);refine Ba (λx W=>∃i:Nat,i<=A.length+1/\x.2=((i:Int),())/\Ar W w.heap.size x.1 3 1 (nv ((List.range i).filter (bk A)))/\Ext w W) (λx _=>((A.length:Int)+1-x.2.1).toNat) ⟨0,iW _,rfl,Ar.nil _ _ _ _,Ext.refl w⟩ ?_;rintro ⟨r,_⟩ W ⟨i,hi,rfl,hr,eW⟩;dsimp only at hr ⊢;refine Ac (λhc=>?_) (λhc=>?_);{simp only [iI] at hc;(have ew:W64 ((i:Int)+1)=((i+1:Nat):Int):=by rw [wrap64 (by omega) (by omega)];omega);rw [ew];(have fl:((List.range i).filter (bk A)).length<=i:=by have:=nO (bk A) (List.range i);rwa [lZ] at this);refine Ae (λx W'=>Ar W' w.heap.size x.1 3 1 (nv ((List.range (i+1)).filter (bk A)))/\Ext w W') ?_ (λx W' h=>⟨⟨i+1,by omega,rfl,h.1,h.2⟩,by omega⟩);refine Ar4 (hs.ext eW) hl (by omega) ?_;rw [mF,nJ];refine Ac (λhb=>?_) (λhb=>?_);{rw [nH hb];rw [nvi] at hr;refine Cm λb8 w4 e4 n4 hb4 _=>push (hr.ext e4) n4 (by rw [gW];omega) (by have:=eW.size;have:=e4.size;omega) λr' w5 o5 u5=>?_;refine ⟨?_,(eW.trans e4).step u5 λk hk=>hr.Fq hk⟩;rw [nvi,lG];exact o5};{rw [nK (by rw [hb];decide)];rw [show ([]:List Nat).filter (bk A)=[] from rfl,kM];exact ⟨hr,eW⟩}};{simp only [iH] at hc;have:i=A.length+1:=(by omega);subst this;rw [full] at hr;exact ⟨hr,eW⟩}
def lnF (A:List Int):List Ln:=(List.range (brs A+1)).map λi=>(Oy A i).getD ⟨0,0,0,0⟩
theorem Bw8 (A:List Int):(lnF A).length=brs A+1:=by unfold lnF;simp
theorem Cp7 {A:List Int}{i:Nat}{l:Ln}(h:Oy A i=some l):(lnF A)[i]?=some l:=by have:=(Qs h).1;unfold lnF;rw [gX,oZ (by omega),bI,h];rfl
abbrev lnR (l:Ln):Cells.T c71:=((l.from_:Int),(l.to_:Int),(l.next:Int),(l.kind:Int),())
theorem eR6:Je Tryz.prog 60 71 4 32:=Je.of (z:=.agg #[.int .i64 0,.int .i64 0,.int .i64 0,.int .i64 0]) C60 C71 rfl rfl rfl (by decide)
theorem De8 (l:Ln):∀v∈flat c71 [lnR l],Gn v=true:=by intro v hv;rw [V9] at hv;have h:v∈[_,_,_,_]:=hv;simp only [aG,kW,kX] at h;rcases h with rfl|rfl|rfl|rfl<;>rfl
theorem Bv5 {r:Sl}{L:List Ln}{l:Ln}{b N:Nat}{K:Sl->Wp}(hr:Ar w N r 71 4 (flat c71 (L.map lnR))) (hb:w.heap[b]?=some (.cells #[.int .i64 (l.from_:Int),.int .i64 (l.to_:Int),.int .i64 (l.next:Int),.int .i64 (l.kind:Int)] 71 (0,0))) (hl:L.length<2^40) (hN:N<=w.heap.size)
  (hK:∀r' w',Ar w' N r' 71 4 (flat c71 ((L++[l]).map lnR))->r'.len=L.length+1->Upd r.blk w w'->K r' w') :
  Du Tryz.prog (.one (.one .sl)) (Builtin.append_ #[60,60] 60 #[.slice r.a r.len r.cap,.slice (some (at0 b)) 1 1]) K w:=by
 have hrl:=Ar.Na (cs:=c71) hr (by decide);rw [gW] at hrl;have hbox:SlX w ⟨some (at0 b),1,1⟩ 4 (flat c71 [lnR l]):=(Bl.Jp hb (n:=1) (sz:=4) rfl).x;refine En eR6 eR6.ts_ (x:=⟨some (at0 b),1,1⟩) hr hbox (De8 l) (by
  show (r.len+1+(r.len+1)/4+512)*32<=2^48
  omega) hN λr' w' o l' u k=>hK r' w' ?_ (by rw [l',hrl]) u
 rw [lG,Nu];exact o
set_option maxHeartbeats 1000000 in
theorem Cc8 (hs:Bl w s t 1 (iv A)) (hl:A.length<2^39) {K:Sl×Int×Unit->Wp} (hK:∀s' w',Ar w' w.heap.size s' 71 4 (flat c71 ((lnF A).map lnR))->Ext w w'->K (s',((lnN A:Nat):Int),()) w') :
  Aa Tryz.prog 31 #[s.v] (.tup [(.one .sl),(.one (.int .i64))]) K w:=by
 refine A31 ?_;unfold F31;(have hlen:A.length=s.len:=by have:=hs.len1;rwa [gW] at this);(have hbr:brs A<=A.length:=by rw [Nh];exact Bg5 _ _);have hF:=Bw8 A;have grow:∀{i m:Nat} {l:Ln},i=m->Oy A i=some l->(lnF A).take (m+1)=(lnF A).take m++[l]:=λ{i m l} e h=>by
  subst e;rw [kT,Cp7 h];rfl
 refine Ae (λx W=>∃f:Nat,Ar W w.heap.size x.1 71 4 (flat c71 (((lnF A).take (brs A)).map lnR))/\x.2=((f:Int),())/\sk A (brs A)=some f/\Ext w W) ?_ ?_
 ·refine Ba (λx W=>∃i f:Nat,i<=A.length/\x.2=((f:Int),(i:Int),())/\sk A (nb A i)=some f/\f<=i/\(f<i->A[i]?=some 10->A[i-1]?≠some 13)/\Ar W w.heap.size x.1 71 4 (flat c71 (((lnF A).take (nb A i)).map lnR))/\Ext w W) (λx _=>((A.length:Int)-x.2.2.1).toNat) ⟨0,0,iW _,rfl,by rw [Pm,Ah0],fJ _,(λh=>by omega),by rw [Pm];exact Ar.nil _ _ _ _,Ext.refl w⟩ ?_;rintro ⟨r,_⟩ W ⟨i,f,hi,rfl,hsk,hfi,hmid,hr,eW⟩;dsimp only at hr ⊢;(have hnb:nb A i<=brs A:=by rw [Nh];exact Ny A _ _ hi);(have tkl:((lnF A).take (nb A i)).length<2^40:=by rw [gI];omega);refine Ac (λhc=>?_) (λhc=>?_)
  ·simp only [iI] at hc;have hil:i<A.length:=(by omega);obtain ⟨v,hv⟩:∃v,A[i]?=some v:=⟨_,jC hil⟩;have hsW:=hs.ext eW;(have ew1:W64 ((i:Int)+1)=((i+1:Nat):Int):=by rw [wrap64 (by omega) (by omega)];omega);(have ew2:W64 ((i:Int)+2)=((i+2:Nat):Int):=by rw [wrap64 (by omega) (by omega)];omega);(have ewk:∀k:Nat,k<=A.length->W64 ((k:Int)+1)=((k+1:Nat):Int):=λk hk=>by rw [wrap64 (by omega) (by omega)];omega);rw [ew1,ew2];refine Ae (λx W'=>∃j f:Nat,i<=j/\j<A.length/\x.2=((f:Int),(j:Int),())/\sk A (nb A (j+1))=some f/\f<=j+1/\(f<j+1->A[j+1]?=some 10->A[j]?≠some 13)/\Ar W' w.heap.size x.1 71 4 (flat c71 (((lnF A).take (nb A (j+1))).map lnR))/\Ext w W') ?_ ?_
   ·refine rdA hsW hv λq=>Ac (λh10=>?_) (λh10=>?_)
    ·simp only [jM] at h10;subst h10;obtain ⟨g1,g2⟩:=Bn0 ((Ku hv).2 (.inl rfl));have hln:Oy A (nb A i)=some ⟨f,i,i+1,1⟩:=by
      unfold Oy
      rw [hsk,g1]
      simp only [lnC,nR,hv,dN]
      rw [aJ (by decide)]
      rw [aJ (λh=>hmid (by omega) hv (by have:=h.2;rwa [show i+1-2=i-1 by omega] at this))]
     refine Cm λb9 w4 e4 n4 hb4 _=>Bv5 (l:=⟨f,i,i+1,1⟩) (hr.ext e4) n4 tkl (by have:=eW.size;have:=e4.size;omega) λr' w5 o5 _ u5=>?_;rw [←grow rfl hln] at o5;refine ⟨i,i+1,fJ _,hil,rfl,by rw [g2];exact g1,fJ _,(λh=>by omega),by rw [g2];exact o5,(eW.trans e4).step u5 λk hk=>hr.Fq hk⟩
    ·simp only [jO,ne_eq] at h10;refine Ae (λx W'=>x=(decide (v=13/\A[i+1]?=some 10),())/\W=W') ?_ ?_;{refine rdA hsW hv λq=>Ac (λh13=>?_) (λh13=>⟨Az ?_,rfl⟩);{simp only [jM] at h13;refine Ac (λhlt=>?_) (λhlt=>⟨Az ?_,rfl⟩);{simp only [iI] at hlt;obtain ⟨u,hu⟩:∃u,A[i+1]?=some u:=⟨_,jC (by omega)⟩;refine rdA hsW hu λq=>⟨Az ?_,rfl⟩;rw [hu];simp [h13]};{simp only [iH] at hlt;rw [kL (by omega)];simp}};{simp only [jO,ne_eq] at h13;simp [h13]}};rintro _ _ ⟨rfl,rfl⟩;refine Ac (λhcl=>?_) (λhcl=>?_)
     ·simp only [iI] at hcl;obtain ⟨rfl,hu⟩:=hcl;have hil2:=(fG.1 hu).1;have hno:isb A i=false:=by
       cases hb:isb A i with
       |false=>rfl
       |true=>rcases (Ku hv).1 hb with h|h;{exact absurd h h10};{exact absurd hu h.2}
      (have hn1:nb A (i+1)=nb A i:=by rw [Tt,hno];simp);obtain ⟨g1,g2⟩:=Bn0 ((Ku hu).2 (.inl rfl));rw [hn1] at g1 g2;have hln:Oy A (nb A i)=some ⟨f,i,i+2,2⟩:=by
       unfold Oy
       rw [hsk,g1]
       simp only [lnC,dN]
       rw [show i+1+1-1=i+1 by omega,hu,aJ (by decide),show i+1+1-2=i by omega,aF ⟨by omega,hv⟩]
      refine Cm λb9 w4 e4 n4 hb4 _=>Bv5 (l:=⟨f,i,i+2,2⟩) (hr.ext e4) n4 tkl (by have:=eW.size;have:=e4.size;omega) λr' w5 o5 _ u5=>?_;rw [←grow rfl hln] at o5;refine ⟨i+1,i+2,by omega,hil2,rfl,by rw [g2];exact g1,fJ _,(λh=>by omega),by rw [g2];exact o5,(eW.trans e4).step u5 λk hk=>hr.Fq hk⟩
     ·simp only [iH] at hcl;refine rdA hsW hv λq=>Ac (λh13=>?_) (λh13=>?_)
      ·simp only [jM] at h13;subst h13;have hu:A[i+1]?≠some 10:=λh=>hcl ⟨rfl,h⟩;obtain ⟨g1,g2⟩:=Bn0 ((Ku hv).2 (.inr ⟨rfl,hu⟩));have hln:Oy A (nb A i)=some ⟨f,i,i+1,3⟩:=by
        unfold Oy
        rw [hsk,g1]
        simp only [lnC,nR,hv,dN]
        rw [aF trivial]
       refine Cm λb9 w4 e4 n4 hb4 _=>Bv5 (l:=⟨f,i,i+1,3⟩) (hr.ext e4) n4 tkl (by have:=eW.size;have:=e4.size;omega) λr' w5 o5 _ u5=>?_;rw [←grow rfl hln] at o5;refine ⟨i,i+1,fJ _,hil,rfl,by rw [g2];exact g1,fJ _,(λh=>by omega),by rw [g2];exact o5,(eW.trans e4).step u5 λk hk=>hr.Fq hk⟩
      ·simp only [jO,ne_eq] at h13;have hno:isb A i=false:=by
        cases hb:isb A i with
        |false=>rfl
        |true=>rcases (Ku hv).1 hb with h|h;{exact absurd h h10};{exact absurd h.1 h13}
       (have hn1:nb A (i+1)=nb A i:=by rw [Tt,hno];simp);refine ⟨i,f,fJ _,hil,rfl,by rw [hn1];exact hsk,by omega,(λ_ _ h=>by rw [hv] at h;cases h;exact h13 rfl),by rw [hn1];exact hr,eW⟩
   {rintro ⟨r',_⟩ W' ⟨j,f',hij,hjl,rfl,g1,g2,g3,g4,g5⟩;dsimp only at g4 ⊢;rw [ewk j (by omega)];exact ⟨⟨j+1,f',by omega,rfl,g1,g2,(by rw [nR];exact g3),g4,g5⟩,by omega⟩}
  {simp only [iH] at hc;obtain rfl:i=A.length:=(by omega);rw [←Nh] at hsk hr;exact ⟨f,hr,rfl,hsk,eW⟩}
 ·rintro ⟨r,_⟩ W ⟨f,hr,rfl,hsk,eW⟩;dsimp only at hr ⊢;have hrl:=Ar.Na (cs:=c71) hr (by decide);rw [gW,gI] at hrl;have hfl:=(Rf hsk).2.1;have hln:Oy A (brs A)=some ⟨f,A.length,A.length,0⟩:=by
   unfold Oy
   rw [hsk,Zg A _ (by omega)]
  rw [←hlen];refine Cm λb23 w4 e4 n4 hb4 _=>Bv5 (l:=⟨f,A.length,A.length,0⟩) (hr.ext e4) n4 (by rw [gI];omega) (by have:=eW.size;have:=e4.size;omega) λr' w5 o5 l5 u5=>?_;rw [←grow rfl hln,jE (by omega)] at o5;rw [gI] at l5;have x5:Ext w w5:=(eW.trans e4).step u5 λk hk=>hr.Fq hk;have hN:lnN A=if A.length=0\/f<A.length then brs A+1 else brs A:=by
   unfold lnN ended
   rw [hsk]
   by_cases h0:A.length=0\/f<A.length
   ·rw [aF h0]
    have:(decide (0<A.length)&&(some f==some A.length))=false:=by
     rw [lX];intro h;simp at h;omega
    rw [this];simp
   ·rw [aJ h0]
    have:(decide (0<A.length)&&(some f==some A.length))=true:=by simp;omega
    rw [this];simp
  refine Ae (λx W'=>x=(((lnN A:Nat):Int),())/\w5=W') ?_ ?_;{refine Ae (λx W'=>x=(decide (A.length=0\/f<A.length),())/\w5=W') (Ac (λh0=>⟨Az ?_,rfl⟩) (λh0=>⟨Az ?_,rfl⟩)) ?_;{simp only [jM,iI,lQ] at *;omega};{simp only [jO,ne_eq,iI] at *;omega};rintro _ _ ⟨rfl,rfl⟩;refine Ac (λh0=>⟨?_,rfl⟩) (λh0=>⟨?_,rfl⟩);{simp only [iI] at h0;rw [hN,aF h0,l5];congr 1;omega};{simp only [iH] at h0;rw [hN,aJ h0,←hrl];congr 1;omega}};rintro _ _ ⟨rfl,rfl⟩;exact hK r' w5 o5 x5
end
end
section
open Go Go.Vx Cdc Trx Gly Clu Lns Obx Mot
abbrev spT (c:Cel):Cells.T c76:=((c.from_:Int),(c.to_:Int),c.atom,c.alone,(c.kind:Int),())
abbrev pgO (sa sl:Sl) (n:Int) (ss:Sl):Obj:=.cells #[.slice sa.a sa.len sa.cap,.slice sl.a sl.len sl.cap,.int .i64 n,.slice ss.a ss.len ss.cap] 63 (0,0)
abbrev r6O (l:Ln):Obj:=.cells #[.int .i64 (l.from_:Int),.int .i64 (l.to_:Int),.int .i64 (l.next:Int),.int .i64 (l.kind:Int)] 71 (0,0)
abbrev Qr (w:World) (s:Sl) (A:List Int):Prop:=Bl w s 71 4 (flat c71 ((lnF A).map lnR))
abbrev Kw (w:World) (s:Sl) (A:List Int) (i:Nat):Prop:=Bl w s 76 5 (flat c76 ((Ag A i).map spT))
structure Gq (w:World) (q:Nat) (A:List Int):Prop where
 ex:∃(sa sl ss:Sl) (t0:TypeId) (xs:List Sl),w.heap[q]?=some (pgO sa sl (lnN A:Int) ss)/\Bl w sa t0 1 (iv A)/\Qr w sl A/\Bl w ss 73 1 (xs.map Cell.sl.val)/\xs.length=brs A+1/\∀(i:Nat) x,xs[i]?=some x->Kw w x A i
 len:A.length<=1048576
theorem Cs0:Je Tryz.prog 73 76 5 40:=Je.of (z:=.agg #[.int .i64 0,.int .i64 0,.int .i64 0,.bool false,.int .i64 0]) C73 C76 rfl rfl rfl (by decide)
theorem Bx9:Je Tryz.prog 61 73 1 24:=Je.of (z:=.slice none 0 0) C61 C73 rfl rfl rfl (by decide)
section
variable {w w':World}{q:Nat}{A:List Int}{i:Nat}
theorem Gq.ext (h:Gq w q A) (e:Ext w w'):Gq w' q A:=by obtain ⟨sa,sl,ss,t0,xs,h1,h2,h3,h4,h5,h6⟩:=h.ex;exact ⟨⟨sa,sl,ss,t0,xs,e.ext_get h1,h2.ext e,h3.ext e,h4.ext e,h5,λi x hx=>(h6 i x hx).ext e⟩,h.len⟩
theorem Gq.Oe (h:Gq w q A){K:Addr->Int->Wp}(hK:K (at0 q) (lnN A:Int) w):nn (some (at0 q)) (λp=>ld (.int .i64) (p.add 2) (K p)) w:=by obtain ⟨sa,sl,ss,t0,xs,h1,h2,h3,h4,h5,h6⟩:=h.ex;exact Am (Ce (off:=2) (x:=(lnN A:Int)) h1 rfl hK)
theorem Gq.Pj (h:Gq w q A){K:Addr->Sl->Wp}(hK:∀s t,Bl w s t 1 (iv A)->K (at0 q) s w):nn (some (at0 q)) (λp=>ld .sl p (K p)) w:=by obtain ⟨sa,sl,ss,t0,xs,h1,h2,h3,h4,h5,h6⟩:=h.ex;exact Am (Ce (off:=0) (x:=sa) h1 rfl (hK sa t0 h2))
theorem Gq.Ur (h:Gq w q A){K:Addr->Sl->Wp}(hK:∀s,Qr w s A->(∀w',Ext w w'->w'.cell? ((at0 q).add 1)=some (Cell.val .sl s))->K (at0 q) s w):nn (some (at0 q)) (λp=>ld .sl (p.add 1) (K p)) w:=by obtain ⟨sa,sl,ss,t0,xs,h1,h2,h3,h4,h5,h6⟩:=h.ex;exact Am (Ce (off:=1) (x:=sl) h1 rfl (hK sl h3 λw' e=>cell_of (off:=1) (e.ext_get h1) rfl))
theorem Zn (hi:i<=brs A):((lnF A).map lnR)[((i:Int)).toNat]?=some (lnR (Aq A i)):=by rw [dF,gX,Cp7 (Wx hi)];rfl
theorem Ab3 {s:Sl}(hs:Qr w s A):s.len=brs A+1:=by have:=Bl.Na (cs:=c71) hs (by decide);rw [gW,Bw8] at this;exact this.symm
theorem Dk3 {c:Cell}{cs:List Cell}{s:Sl}{t:TypeId}{xs:List (Cells.T cs)}{n:Int}{K:Addr->c.T->Wp}(h:Bl w s t cs.length (flat cs xs)) (h0:0<=n){x:Cells.T cs}{y:c.T}(hx:xs[n.toNat]?=some x) (hy:(Cells.vals cs x)[0]?=some (c.val y))
  (hK:∀p,(∀w',Ext w w'->w'.cell? (p.add (scaled (Int.toNat n) cs.length))=some (c.val y))->K p y w) :
  ix s.a s.len n (λp=>ld c (p.add (scaled (Int.toNat n) cs.length)) (K p)) w:=by
 have hlt:=(fG.1 hx).1;have hjl:0<cs.length:=by
  have:=(fG.1 hy).1
  rwa [Gm] at this
 have hl:=h.Na (by omega);refine h.ix h0 (by omega) (by omega) λb off ha hv=>?_;have hc:w.cell? ((⟨b,off,none⟩:Addr).add (scaled (Int.toNat n) cs.length))=some (c.val y):=by
  rw [addr_add]
  have:=hv 0 (c.val y) (by rw [flat_get cs xs _ 0 x hx hjl];exact hy)
  simpa [Ei] using this
 exact F5 (x:=y) hc (hK _ λw' x'=>Vy hc x')
theorem Am9 {s:Sl}(hs:Qr w s A) (hi:i<=brs A){K:Addr->Int->Wp}(hK:∀p,(∀w',Ext w w'->w'.cell? (p.add (scaled (Int.toNat (i:Int)) 4))=some (Cell.val (.int .i64) ((Aq A i).from_:Int)))->K p ((Aq A i).from_:Int) w):ix s.a s.len (i:Int) (λp=>ld (.int .i64) (p.add (scaled (Int.toNat (i:Int)) 4)) (K p)) w :=
 Dk3 (c:=.int .i64) (cs:=c71) hs (kQ i) (Zn hi) rfl hK
theorem Am7 {s:Sl}(hs:Qr w s A) (hi:i<=brs A){K:Addr->Int->Wp}(hK:∀p,K p ((Aq A i).to_:Int) w):ix s.a s.len (i:Int) (λp=>ld (.int .i64) ((p.add (scaled (Int.toNat (i:Int)) 4)).add 1) (K p)) w :=
 An4 (c:=.int .i64) (cs:=c71) (j:=1) hs (kQ i) (Zn hi) rfl hK
theorem Am8 {s:Sl}(hs:Qr w s A) (hi:i<=brs A){K:Addr->Int->Wp}(hK:∀p,K p ((Aq A i).next:Int) w):ix s.a s.len (i:Int) (λp=>ld (.int .i64) ((p.add (scaled (Int.toNat (i:Int)) 4)).add 2) (K p)) w :=
 An4 (c:=.int .i64) (cs:=c71) (j:=2) hs (kQ i) (Zn hi) rfl hK
theorem Gq.V8 (h:Gq w q A) (hi:i<=brs A){K:Addr->Sl->Addr->Int->Wp}(hK:∀s p,K (at0 q) s p ((Aq A i).from_:Int) w) :
  nn (some (at0 q)) (λr=>ld .sl (r.add 1) λs=>ix s.a s.len (i:Int) λp=>ld (.int .i64) (p.add (scaled (Int.toNat (i:Int)) 4)) (K r s p)) w :=
 h.Ur λs hs _=>Am9 hs hi λp _=>hK s p
theorem Gq.toK (h:Gq w q A) (hi:i<=brs A){K:Addr->Sl->Addr->Int->Wp}(hK:∀s p,K (at0 q) s p ((Aq A i).to_:Int) w) :
  nn (some (at0 q)) (λr=>ld .sl (r.add 1) λs=>ix s.a s.len (i:Int) λp=>ld (.int .i64) ((p.add (scaled (Int.toNat (i:Int)) 4)).add 1) (K r s p)) w :=
 h.Ur λs hs _=>Am7 hs hi λp=>hK s p
theorem Gq.nextK (h:Gq w q A) (hi:i<=brs A){K:Addr->Sl->Addr->Int->Wp}(hK:∀s p,K (at0 q) s p ((Aq A i).next:Int) w) :
  nn (some (at0 q)) (λr=>ld .sl (r.add 1) λs=>ix s.a s.len (i:Int) λp=>ld (.int .i64) ((p.add (scaled (Int.toNat (i:Int)) 4)).add 2) (K r s p)) w :=
 h.Ur λs hs _=>Am8 hs hi λp=>hK s p
theorem Gq.Xp (h:Gq w q A) (hi:i<=brs A){K:Addr->Sl->Addr->Sl->Wp}(hK:∀s p y,Kw w y A i->y.len=(Ag A i).length->K (at0 q) s p y w) :
  nn (some (at0 q)) (λr=>ld .sl (r.add 3) λs=>ix s.a s.len (i:Int) λp=>ld .sl (p.add (scaled (Int.toNat (i:Int)) 1)) (K r s p)) w:=by obtain ⟨sa,sl,ss,t0,xs,h1,h2,h3,h4,h5,h6⟩:=h.ex;obtain ⟨y,hy⟩:∃y,xs[i]?=some y:=⟨_,jC (by omega)⟩;have hy2:=h6 i y hy;have hl:=Bl.Na (cs:=c76) hy2 (by decide);rw [gW] at hl;exact Am (Ce (off:=3) (x:=ss) h1 rfl (Ew (c:=.sl) (xs:=xs) h4 (kQ i) (by rw [dF];exact hy) λp=>hK ss p y hy2 hl.symm))
theorem Gq.Di3 {W:World}(h:Gq w q A) (e:Ext w W) (hi:i<=brs A){K:Addr->Sl->Addr->Sl->Wp}(hK:∀s p y,Kw w y A i->y.len=(Ag A i).length->K (at0 q) s p y W) :
  nn (some (at0 q)) (λr=>ld .sl (r.add 3) λs=>ix s.a s.len (i:Int) λp=>ld .sl (p.add (scaled (Int.toNat (i:Int)) 1)) (K r s p)) W:=by obtain ⟨sa,sl,ss,t0,xs,h1,h2,h3,h4,h5,h6⟩:=h.ex;obtain ⟨y,hy⟩:∃y,xs[i]?=some y:=⟨_,jC (by omega)⟩;have hy2:=h6 i y hy;have hl:=Bl.Na (cs:=c76) hy2 (by decide);rw [gW] at hl;exact Am (Ce (off:=3) (x:=ss) (e.ext_get h1) rfl (Ew (c:=.sl) (xs:=xs) (h4.ext e) (kQ i) (by rw [dF];exact hy) λp=>hK ss p y hy2 hl.symm))
theorem Gq.Di4 (h:Gq w q A){K:Addr->Sl->Wp}(hK:∀s,(∀w',Ext w w'->w'.cell? ((at0 q).add 3)=some (Cell.val .sl s))->(∀(j:Nat) (w':World) (K':Addr->Sl->Wp),j<=brs A->Ext w w'->(∀p y,Kw w' y A j->y.len=(Ag A j).length->K' p y w')->ix s.a s.len (j:Int) (λp=>ld .sl (p.add (scaled (Int.toNat (j:Int)) 1)) (K' p)) w')->K (at0 q) s w) :
  nn (some (at0 q)) (λr=>ld .sl (r.add 3) (K r)) w:=by obtain ⟨sa,sl,ss,t0,xs,h1,h2,h3,h4,h5,h6⟩:=h.ex;refine Am (Ce (off:=3) (x:=ss) h1 rfl (hK ss (λw' e=>cell_of (off:=3) (e.ext_get h1) rfl) λj w' K' hj e hK'=>?_));obtain ⟨y,hy⟩:∃y,xs[j]?=some y:=⟨_,jC (by omega)⟩;have hy2:=(h6 j y hy).ext e;have hl:=Bl.Na (cs:=c76) hy2 (by decide);rw [gW] at hl;exact Ew (c:=.sl) (xs:=xs) (h4.ext e) (kQ j) (by rw [dF];exact hy) λp=>hK' p y hy2 hl.symm
theorem O8 {j:Nat}{c:Cel}(hc:(Ag A i)[j]?=some c):((Ag A i).map spT)[((j:Int)).toNat]?=some (spT c):=by rw [dF,gX,hc];rfl
theorem Jw {y:Sl}(hy:Kw w y A i){j:Nat}{c:Cel}(hc:(Ag A i)[j]?=some c){K:Addr->Int->Wp}(hK:∀p,K p (c.from_:Int) w):ix y.a y.len (j:Int) (λp=>ld (.int .i64) (p.add (scaled (Int.toNat (j:Int)) 5)) (K p)) w :=
 Bx6 (c:=.int .i64) (cs:=c76) hy (kQ j) (O8 hc) rfl hK
theorem Bu4 {y:Sl}(hy:Kw w y A i){j:Nat}{c:Cel}(hc:(Ag A i)[j]?=some c){K:Addr->Int->Wp}(hK:∀p,K p (c.to_:Int) w):ix y.a y.len (j:Int) (λp=>ld (.int .i64) ((p.add (scaled (Int.toNat (j:Int)) 5)).add 1) (K p)) w :=
 An4 (c:=.int .i64) (cs:=c76) (j:=1) hy (kQ j) (O8 hc) rfl hK
theorem At3 {y:Sl}(hy:Kw w y A i){j:Nat}{c:Cel}(hc:(Ag A i)[j]?=some c){K:Addr->Int->Wp}(hK:∀p,K p c.atom w):ix y.a y.len (j:Int) (λp=>ld (.int .i64) ((p.add (scaled (Int.toNat (j:Int)) 5)).add 2) (K p)) w :=
 An4 (c:=.int .i64) (cs:=c76) (j:=2) hy (kQ j) (O8 hc) rfl hK
theorem Z8 {y:Sl}(hy:Kw w y A i){j:Nat}{c:Cel}(hc:(Ag A i)[j]?=some c){K:Addr->Int->Wp}(hK:∀p,K p (c.kind:Int) w):ix y.a y.len (j:Int) (λp=>ld (.int .i64) ((p.add (scaled (Int.toNat (j:Int)) 5)).add 4) (K p)) w :=
 An4 (c:=.int .i64) (cs:=c76) (j:=4) hy (kQ j) (O8 hc) rfl hK
theorem De0 (c:Cel):∀v∈flat c76 [spT c],Gn v=true:=by intro v hv;rw [V9] at hv;have h:v∈[_,_,_,_,_]:=hv;simp only [aG,kW,kX] at h;rcases h with rfl|rfl|rfl|rfl|rfl<;>rfl
theorem Dc4 {r:Sl}{L:List Cel}{c:Cel}{b N:Nat}{K:Sl->Wp}(hr:Ar w N r 76 5 (flat c76 (L.map spT))) (hb:w.heap[b]?=some (.cells #[.int .i64 (c.from_:Int),.int .i64 (c.to_:Int),.int .i64 c.atom,.bool c.alone,.int .i64 (c.kind:Int)] 76 (0,0))) (hl:L.length<2^40) (hN:N<=w.heap.size)
  (hK:∀r' w',Ar w' N r' 76 5 (flat c76 ((L++[c]).map spT))->r'.len=L.length+1->Upd r.blk w w'->K r' w') :
  Du Tryz.prog (.one (.one .sl)) (Builtin.append_ #[73,73] 73 #[.slice r.a r.len r.cap,.slice (some (at0 b)) 1 1]) K w:=by
 have hrl:=Ar.Na (cs:=c76) hr (by decide);rw [gW] at hrl;have hbox:SlX w ⟨some (at0 b),1,1⟩ 5 (flat c76 [spT c]):=(Bl.Jp hb (n:=1) (sz:=5) rfl).x;refine En Cs0 Cs0.ts_ (x:=⟨some (at0 b),1,1⟩) hr hbox (De0 c) (by
  show (r.len+1+(r.len+1)/4+512)*40<=2^48
  omega) hN λr' w' o l' u k=>hK r' w' ?_ (by rw [l',hrl]) u
 rw [lG,Nu];exact o
set_option maxHeartbeats 2000000 in
theorem Bh3 {s:Sl}{t:TypeId}(hs:Bl w s t 1 (iv A)) (hl:A.length<=1048576){K:Option Addr->Wp}(hK:∀q w',Gq w' q A->w.heap.size<=q->Ext w w'->K (some (at0 q)) w') :
  Aa Tryz.prog 17 #[s.v] rP K w:=by
 refine A17 ?_;unfold F17;(have hlen:A.length=s.len:=by have:=hs.len1;rwa [gW] at this);have hcap:=hs.le;have hbl:=Gl A;refine (St.start w).Af λb1 w1 S1 e1=>Cc8 (hs.ext e1) (by omega) λsl w2 o2 e2=>?_;have S2:=S1.ext e2;have S2:St (λ_=>False) w w2 [(b1,pgO s ⟨none,0,0⟩ 0 ⟨none,0,0⟩)]:=S2;refine Am (S2.stC (off:=1) 0 rfl (by show 1<4;decide) λw3 S3 u3=>Am (S3.stC (off:=2) 0 rfl (by show 2<4;decide) λw4 S4 u4=>?_));have S4:St (λ_=>False) w w4 [(b1,pgO s sl (lnN A:Int) ⟨none,0,0⟩)]:=S4;have o4:Qr w4 sl A:=(o2.in.box (S2.at_ 0 rfl) (by decide) u3).box (S3.at_ 0 rfl) (by decide) u4;have hll:=Ab3 o4;refine Ae (λ_ V=>∃(so:Sl) (xs:List Sl),St (λ_=>False) w V [(b1,pgO s sl (lnN A:Int) so)]/\Qr V sl A/\Bl V so 73 1 (xs.map Cell.sl.val)/\xs.length=brs A+1/\∀(i:Nat) x,xs[i]?=some x->Kw V x A i) ?_ ?_
 ·refine Ba (λx V=>∃(i:Nat) (so:Sl) (xs:List Sl),x=((i:Int),())/\i<=brs A+1/\xs.length=i/\St (λ_=>False) w V [(b1,pgO s sl (lnN A:Int) so)]/\Qr V sl A/\Ar V w4.heap.size so 73 1 (xs.map Cell.sl.val)/\w4.heap.size<=V.heap.size/\∀(j:Nat) x,xs[j]?=some x->Kw V x A j) (λx _=>((brs A:Int)+1-x.1).toNat) ⟨0,⟨none,0,0⟩,[],rfl,iW _,rfl,S4,o4,Ar.nil _ _ _ _,fJ _,λj x hx=>by simp at hx⟩ ?_;rintro _ V ⟨i,so,xs,rfl,hi,hxs,SV,oV,ho,hsz,hsp⟩;dsimp only;refine Am (SV.ld (off:=1) 0 rfl (x:=sl) rfl (Ac (λhc=>?_) (λhc=>?_)))
  ·simp only [iI] at hc;have hib:i<=brs A:=(by omega);have ok:=Cb hib;have ft:=ok.ft;have tn:=ok.tn;have nl:=ok.nl;have hrl:=Ti hib;have hcl:=Ht hib;refine Am (SV.ld (off:=1) 0 rfl (x:=sl) rfl (Xe (cs:=c71) (xs:=(lnF A).map lnR) oV (by decide) (kQ i) (Zn hib) λp13=>?_));refine SV.Fp rfl rfl rfl λb15 w5 S5 e5=>?_;have S5:St (λ_=>False) w w5 [(b15,r6O (Aq A i)),(b1,pgO s sl (lnN A:Int) so)]:=S5;refine S5.ld (off:=0) 0 rfl (x:=((Aq A i).from_:Int)) rfl (S5.ld (off:=1) 0 rfl (x:=((Aq A i).to_:Int)) rfl ?_);refine Be8 (hs.ext S5.upd) (by omega) (by omega) (by omega) (by omega) (by omega) λy hy _ _ _=>?_;have hy:Bl w5 y t 1 (iv (rowB A i)):=by
    rw [dS,dS,dF,dF,←kD,←kE] at hy
    exact hy
   refine Az7 hy (by omega) λsb w6 ob e6=>?_;have S6:=S5.ext e6;(have nvi:nv (cuts (rowB A i))=((cuts (rowB A i)).map λ(n:Nat)=>(n:Int)).map (Cell.int .i64).val:=by rw [jL];rfl);rw [nvi] at ob;have hbl2:=ob.len1;rw [gW,gW] at hbl2;have hcuts:=At9 A i;have hcnt:(Ag A i).length=(cuts (rowB A i)).length-1:=(by omega);have hcp:=Ao6 (rowB A i);refine Ae (λx W=>Ext w6 W/\Ar W w6.heap.size x.1 76 5 (flat c76 ((Ag A i).map spT))) ?_ ?_
   ·refine Ba (λx W=>∃j:Nat,x.2=((j:Int),())/\j<=(Ag A i).length/\Ext w6 W/\Ar W w6.heap.size x.1 76 5 (flat c76 (((Ag A i).take j).map spT))) (λx _=>(((Ag A i).length:Int)-x.2.1).toNat) ⟨0,rfl,iW _,Ext.refl _,Ar.nil _ _ _ _⟩ ?_;rintro ⟨r,_⟩ W ⟨j,rfl,hj,eW,hr⟩;dsimp only at hr ⊢;(have ew1:W64 ((j:Int)+1)=((j+1:Nat):Int):=by rw [wrap64 (by omega) (by omega)];omega);rw [ew1];refine Ac (λhc2=>?_) (λhc2=>?_)
    ·simp only [iI] at hc2;obtain ⟨c,hcc⟩:∃c,(Ag A i)[j]?=some c:=⟨_,jC (by omega)⟩;have hcc':(Xj (rowB A i) (Aq A i).from_)[j]?=some c:=hcc;obtain ⟨ci,cj,g1,g2,g3,g4,g5,g6,_,_,g7,g8,g9⟩:=(Uf hcc').ex;(have m1:((cuts (rowB A i)).map λ(n:Nat)=>(n:Int))[((j:Int)).toNat]?=some (ci:Int):=by rw [dF,gX,g1];rfl);(have m2:((cuts (rowB A i)).map λ(n:Nat)=>(n:Int))[(((j+1:Nat):Int)).toNat]?=some (cj:Int):=by rw [dF,gX,g2];rfl);have SW:=S6.ext eW;refine Ew (c:=.int .i64) (xs:=(cuts (rowB A i)).map λ(n:Nat)=>(n:Int)) (ob.ext eW).in (kQ j) m1 λp24=>rdA ((hy.ext e6).ext eW) g7 λp26=>SW.drew λw7 S7 e7 _=>S7.ld (off:=0) 0 rfl (x:=((Aq A i).from_:Int)) rfl ?_;have ob7:=(ob.ext (eW.trans e7)).in;refine Bb5 (c:=.int .i64) (xs:=(cuts (rowB A i)).map λ(n:Nat)=>(n:Int)) ob7 (kQ j) m1 λp29 k29=>S7.ld (off:=0) 0 rfl (x:=((Aq A i).from_:Int)) rfl ?_;refine Bb5 (c:=.int .i64) (xs:=(cuts (rowB A i)).map λ(n:Nat)=>(n:Int)) ob7 (kQ _) m2 λp32 k32=>?_;refine Bb5 (c:=.int .i64) (xs:=(cuts (rowB A i)).map λ(n:Nat)=>(n:Int)) ob7 (kQ _) m2 λp34 k34=>?_;refine Bb5 (c:=.int .i64) (xs:=(cuts (rowB A i)).map λ(n:Nat)=>(n:Int)) ob7 (kQ j) m1 λp36 k36=>?_;refine Bn6 ?_;refine Bg (k36 w7 (Ext.refl _)) (Bg (k34 w7 (Ext.refl _)) (Bg (k32 w7 (Ext.refl _)) (S7.keep (off:=0) 0 rfl (v:=.int .i64 ((Aq A i).from_:Int)) rfl (Bg (k29 w7 (Ext.refl _)) (S7.keep (off:=0) 0 rfl (v:=.int .i64 ((Aq A i).from_:Int)) rfl ?_)))));(have q1:W64 (((Aq A i).from_:Int)+(ci:Int))=(c.from_:Int):=by rw [wrap64 (by omega) (by omega)];omega);(have q2:W64 (((Aq A i).from_:Int)+(cj:Int))=(c.to_:Int):=by rw [wrap64 (by omega) (by omega)];omega);have q3:(W64 ((cj:Int)-(ci:Int))==(1:Int))=c.alone:=by
      rw [wrap64 (by omega) (by omega),gV,jM,g9];omega
     rw [q1,q2,q3,←g8];refine Cm λb39 w8 e8 n8 hb8 _=>Dc4 (c:=c) (hr.ext (e7.trans e8)) n8 (by rw [gI];omega) (by have:=eW.size;have:=e7.size;have:=e8.size;omega) λr' w9 o9 _ u9=>?_;refine ⟨⟨j+1,rfl,by omega,((eW.trans e7).trans e8).step u9 λk hk=>hr.Fq hk,?_⟩,by omega⟩;rw [kT,hcc];exact o9
    {simp only [iH] at hc2;obtain rfl:j=(Ag A i).length:=(by omega);rw [jR] at hr;exact ⟨eW,hr⟩}
   rintro ⟨sp,_⟩ W ⟨eW,hr⟩;have eVW:Ext V W:=(e5.trans e6).trans eW;have SW:=(S6.ext eW).tail;have hoW:=ho.ext eVW;refine Am (SW.ld (off:=3) 0 rfl (x:=so) rfl (SW.Am1 λb43 w7 S7 e7 hb43=>?_));have hsol:=hoW.len1;rw [gW] at hsol;have ho7:=hoW.ext e7;(have hsz7:w4.heap.size<=w7.heap.size:=by have:=eVW.size;have:=e7.size;omega);have hbox:SlX w7 ⟨some (at0 b43),1,1⟩ 1 ([sp].map Cell.sl.val):=(Bl.Jp (S7.at_ 0 rfl) (n:=1) (sz:=1) rfl).x;have hb1:b1<w4.heap.size:=lt_of_heap (S4.at_ 0 rfl);have hw4:w.heap.size<=w4.heap.size:=S4.upd.size;refine En Bx9 Bx9.ts_ (x:=⟨some (at0 b43),1,1⟩) ho7 hbox (λv hv=>by rw [iT.1 hv];rfl) (by
    show (so.len+1+(so.len+1)/4+512)*24<=2^48
    omega) hsz7 λso' w8 o8 l8 u8 _=>?_
   have nty1:Gs w7 so.blk 71:=λk hk c fr hn=>by
    obtain ⟨c',fr',hc'⟩:=ho7.in.Fv hk
    rw [hn] at hc';cases hc'
   have nty2:Gs w7 so.blk 76:=λk hk c fr hn=>by
    obtain ⟨c',fr',hc'⟩:=ho7.in.Fv hk
    rw [hn] at hc';cases hc'
   have S8:St (λ_=>False) w w8 [(b1,pgO s sl (lnN A:Int) so)]:=S7.tail.fresh u8 (λk hk=>.inr (by have:=ho7.Fq hk;omega)) (λz hz hk=>by
    rw [iT.1 hz] at hk
    have:=ho7.Fq hk
    dsimp only at this
    omega)
   refine Am (S8.stC (off:=3) 0 rfl (by show 3<4;decide) λw9 S9 u9=>?_);(have ewi:W64 ((i:Int)+1)=((i+1:Nat):Int):=by rw [wrap64 (by omega) (by omega)];omega);rw [ewi];refine ⟨⟨i+1,so',xs++[sp],rfl,by omega,by simp [hxs],S9,?_,?_,?_,?_⟩,by omega⟩;{exact ((oV.ext (eVW.trans e7)).ty u8 nty1).box (S8.at_ 0 rfl) (by decide) u9};{rw [lG];exact o8.box (S8.at_ 0 rfl) (by decide) u9};{have:=u8.size;have:=u9.size;omega}
   ·intro j x hx;refine Bl.box ?_ (S8.at_ 0 rfl) (by decide) u9;by_cases hj:j<xs.length;{rw [fZ hj] at hx;exact ((hsp j x hx).ext (eVW.trans e7)).ty u8 nty2}
    ·have hje:j=xs.length:=by
      have:=(fG.1 hx).1
      simp at this;omega
     subst hje;rw [qA] at hx;cases hx;rw [hxs];exact (hr.in.ext e7).ty u8 nty2
  {simp only [iH] at hc;exact ⟨so,xs,SV,oV,ho.in,by omega,hsp⟩}
 rintro _ V ⟨so,xs,SV,oV,ho,hxs,hsp⟩;exact hK b1 V ⟨⟨s,sl,so,t,xs,SV.at_ 0 rfl,hs.ext SV.upd,oV,ho,hxs,hsp⟩,hl⟩ (SV.ge 0 rfl) SV.upd
end
section
variable {w w':World}{q:Nat}{A:List Int}{i:Nat}
theorem Qy {n:Nat}(h:n<=2^40):W64 ((n:Int)+1)=((n+1:Nat):Int):=by rw [wrap64 (by omega) (by omega)];omega
theorem U2 (h:Gq w q A){x:Int}{K:Int->Wp}(hK:K (inT A x:Int) w):Aa Tryz.prog 82 #[.pointer (some (at0 q)),.int .i64 x] rI K w:=by refine A82 ?_;unfold F82;(have e:(inT A x:Int)=min (max x 0) (A.length:Int):=by unfold inT;omega);rw [e] at hK;refine Ac (λhc=>?_) (λhc=>h.Pj λs t hs=>?_);{simp only [iI] at hc;rw [show min (max x 0) (A.length:Int)=0 by omega] at hK;exact hK};{simp only [iH] at hc;have hl:=hs.len1;rw [gW] at hl;refine Ac (λhc2=>h.Pj λs2 t2 hs2=>?_) (λhc2=>?_);{simp only [iI,kG] at hc2;have hl2:=hs2.len1;rw [gW] at hl2;rw [show min (max x 0) (A.length:Int)=(A.length:Int) by omega] at hK;rw [←hl2];exact hK};{simp only [iH,kG] at hc2;rw [show min (max x 0) (A.length:Int)=x by omega] at hK;exact hK}}
theorem Ib (h:Gq w q A){n:Nat}(hn:n<=A.length){K:Int->Wp}(hK:K (nb A n:Int) w):Aa Tryz.prog 83 #[.pointer (some (at0 q)),.int .i64 (n:Int)] rI K w:=by
 refine A83 ?_;unfold F83;have hA:=h.len;have hbl:=Gl A;have hnb:=Ho A n;obtain ⟨r1,r2⟩:=row_of (A:=A) hn;refine Ae (λ_ W=>w=W/\nb A n=brs A) ?_ ?_
 ·refine Ba (λx W=>∃i:Nat,x=((i:Int),())/\w=W/\i<=brs A+1/\(i<=nb A n\/nb A n=brs A)) (λx _=>((brs A+1:Nat)-x.1).toNat) ⟨0,rfl,rfl,by omega,.inl (iW _)⟩ ?_;rintro _ _ ⟨i,rfl,rfl,hi,hin⟩;dsimp only;refine h.Ur λs hs _=>?_;have hl:=Ab3 hs;refine Ac (λhc=>?_) (λhc=>?_)
  ·simp only [iI] at hc;have hib:i<=brs A:=(by omega);have ok:=Cb hib;have ft:=ok.ft;have tn:=ok.tn;rw [Qy (by omega)];refine h.nextK hib λs p=>?_;refine Ac (λhlt=>?_) (λhlt=>?_)
   ·simp only [iI] at hlt;have:nb A n=i:=by
     by_cases hq:(Aq A i).from_<=n
     ·exact ok.nbf n hq (by omega)
     ·exfalso
      rcases qF i (nb A n) with u|u|u
      ·have:=Nw (A:=A) u hnb;omega
      ·rw [u] at hq;exact hq r1
      ·rcases hin with v|v<;>omega
    rw [this] at hK;exact hK
   {simp only [iH] at hlt;refine ⟨⟨i+1,rfl,rfl,by omega,?_⟩,by omega⟩;rcases hin with v|v;{rcases lT i (nb A n) with u|u;{exact .inl u};{right;have e:i=nb A n:=(by omega);rw [e] at hlt;rcases r2 with r2|r2;{omega};{exact r2.1}}};{exact .inr v}}
  {simp only [iH] at hc;refine ⟨rfl,?_⟩;rcases hin with v|v<;>omega}
 rintro _ _ ⟨rfl,hb⟩;refine h.Ur λs hs _=>?_;have hl:=Ab3 hs;rw [hl,show W64 (((brs A+1:Nat):Int)-1)=(nb A n:Int) by rw [wrap64 (by omega) (by omega)];omega];exact hK
theorem Bf8 (h:Gq w q A){n:Nat}(hn:n<=A.length){K:Int->Wp}(hK:K (Cc A (n:Int) false:Int) w):Aa Tryz.prog 84 #[.pointer (some (at0 q)),.int .i64 (n:Int)] rI K w:=by refine A84 ?_;unfold F84;have hb:=Bc A;have hA:=h.len;have hbl:=Gl A;(have e:Cc A (n:Int) false=min (nb A n) (lnN A-1):=by unfold Cc ofI;rw [aJ (by decide),Ut hn]);rw [e] at hK;refine Ib h hn (h.Oe (Ac (λhc=>h.Oe ?_) (λhc=>?_)));{simp only [iI,jT] at hc;rw [show W64 ((lnN A:Int)-1)=((min (nb A n) (lnN A-1):Nat):Int) by rw [wrap64 (by omega) (by omega)];omega];exact hK};{simp only [iH,jT] at hc;rw [show min (nb A n) (lnN A-1)=nb A n by omega] at hK;exact hK}
theorem Oq (h:Gq w q A) (hi:i<=brs A){K:Int->Wp}(hK:K (Aw A i (((Ag A i).length:Int)-1):Int) w):Aa Tryz.prog 85 #[.pointer (some (at0 q)),.int .i64 (i:Int)] rI K w:=by refine A85 ?_;unfold F85;have hA:=h.len;have hcl:=Ht hi;have ok:=Cb hi;have tn:=ok.tn;have nl:=ok.nl;refine h.Xp hi λs p y hy hyl=>?_;refine Ac (λhc=>h.V8 hi λs p=>?_) (λhc=>?_);{rw [jM] at hc;rw [Hw (by omega),Nq hi] at hK;exact hK};{rw [jO] at hc;(have ew:W64 (((y.len:Nat):Int)-1)=(((Ag A i).length-1:Nat):Int):=by rw [wrap64 (by omega) (by omega)];omega);rw [ew];obtain ⟨c,hcc⟩:=Dk (C:=Ag A i) (j:=(Ag A i).length-1) (by omega);rw [show ((Ag A i).length:Int)-1=(((Ag A i).length-1:Nat):Int) by omega,Ec (by omega),Hg hcc] at hK;exact Jw hy hcc λp=>hK}
theorem Al6 (h:Gq w q A) (hi:i<=brs A){K:Int->Wp}(hK:K (Aw A i (Pv A i:Int):Int) w):Aa Tryz.prog 94 #[.pointer (some (at0 q)),.int .i64 (i:Int)] rI K w:=by
 refine A94 ?_;unfold F94;have hA:=h.len;have hcl:=Ht hi;have ok:=Cb hi;have tn:=ok.tn;have nl:=ok.nl;refine h.Xp hi λs p y hy hyl=>?_;refine Ae (λ_ W=>w=W/\∀(j:Nat) c,(Ag A i)[j]?=some c->c.kind=0) ?_ ?_
 ·refine Ba (λx W=>∃j:Nat,x=((j:Int),())/\w=W/\j<=(Ag A i).length/\∀(m:Nat) c,m<j->(Ag A i)[m]?=some c->c.kind=0) (λx _=>(((Ag A i).length:Int)-x.1).toNat) ⟨0,rfl,rfl,iW _,λm c hm=>by omega⟩ ?_;rintro _ _ ⟨j,rfl,rfl,hj,hz⟩;dsimp only;refine Ac (λhc=>?_) (λhc=>?_)
  ·simp only [iI] at hc;obtain ⟨c,hcc⟩:=Dk (C:=Ag A i) (j:=j) (by omega);rw [Qy (by omega)];refine Z8 hy hcc λp=>Ac (λhk=>Jw hy hcc λp=>?_) (λhk=>⟨⟨j+1,rfl,rfl,by omega,λm d hm hd=>?_⟩,by omega⟩)
   ·have hk:c.kind≠0:=by
     rw [mY] at hk
     intro h0;exact hk (by rw [h0];rfl)
    have:=Bu8 (A:=A) (i:=i) hcc hk λm d hm hd=>hz m d hm hd;rw [this,Ec (by omega),Hg hcc] at hK;exact hK
   {by_cases hmj:m=j;{subst hmj;rw [hcc] at hd;cases hd;rw [mZ] at hk;omega};{exact hz m d (by omega) hd}}
  {simp only [iH] at hc;exact ⟨rfl,λm c hm=>hz m c (by have:=(fG.1 hm).1;omega) hm⟩}
 rintro _ _ ⟨rfl,hz⟩;refine Oq h hi ?_;have:=Z9 (A:=A) (i:=i) hz;rw [this] at hK;rcases lC (Ag A i).length with u|u;{rw [u] at hK ⊢;rw [Hw (by omega)];exact hK};{rw [show ((Ag A i).length:Int)-1=(((Ag A i).length-1:Nat):Int) by omega];exact hK}
theorem Tm (h:Gq w q A) (hi:i<=brs A){K:Bool->Wp}(hK:K (Ez A i) w):Aa Tryz.prog 102 #[.pointer (some (at0 q)),.int .i64 (i:Int)] rB K w:=by
 refine Eq0 ?_;unfold F102;have hA:=h.len;have hcl:=Ht hi;have ok:=Cb hi;have tn:=ok.tn;have nl:=ok.nl;refine h.Xp hi λs p y hy hyl=>?_;refine Ae (λ_ W=>w=W/\Ez A i=true) ?_ ?_
 ·refine Ba (λx W=>∃j:Nat,x=((j:Int),())/\w=W/\j<=(Ag A i).length/\∀(m:Nat) c,m<j->(Ag A i)[m]?=some c->c.kind=0) (λx _=>(((Ag A i).length:Int)-x.1).toNat) ⟨0,rfl,rfl,iW _,λm c hm=>by omega⟩ ?_;rintro _ _ ⟨j,rfl,rfl,hj,hz⟩;dsimp only;refine Ac (λhc=>?_) (λhc=>?_)
  ·simp only [iI] at hc;obtain ⟨c,hcc⟩:=Dk (C:=Ag A i) (j:=j) (by omega);rw [Qy (by omega)];refine Z8 hy hcc λp=>Ac (λhk=>?_) (λhk=>⟨⟨j+1,rfl,rfl,by omega,λm d hm hd=>?_⟩,by omega⟩)
   ·have hk:c.kind≠0:=by
     rw [mY] at hk
     intro h0;exact hk (by rw [h0];rfl)
    have:Ez A i=false:=by
     unfold Ez
     rw [pV]
     exact ⟨c,eY hcc,by simpa using hk⟩
    rw [this] at hK;exact hK
   {by_cases hmj:m=j;{subst hmj;rw [hcc] at hd;cases hd;rw [mZ] at hk;omega};{exact hz m d (by omega) hd}}
  {simp only [iH] at hc;refine ⟨rfl,?_⟩;unfold Ez;rw [aS];intro c hm;obtain ⟨m,hm⟩:=gZ hm;have:=hz m c (by have:=(fG.1 hm).1;omega) hm;simpa using this}
 rintro _ _ ⟨rfl,hz⟩;rw [hz] at hK;exact hK
theorem Ik (h:Gq w q A) {x:Int} {past:Bool} {K:Int->Wp} (hK:K (Ak A x past:Int) w):Aa Tryz.prog 35 #[.pointer (some (at0 q)),.int .i64 x,.bool past] rI K w:=by
 refine A35 ?_;unfold F35;have hA:=h.len;have hi:=Tc A x past;have hin:=Bq6 A x;have ok:=Cb hi;have ft:=ok.ft;have tn:=ok.tn;have nl:=ok.nl;have hcl:=Ht hi;refine U2 h (Ib h hin (Ae (λy W=>y=((Cc A x past:Int),())/\w=W) ?_ ?_))
 ·cases past with
  |true=>exact Ah ⟨rfl,rfl⟩
  |false=>refine Bh (Bf8 h hin ⟨?_,rfl⟩);(have:Cc A (inT A x:Int) false=Cc A x false:=by unfold Cc ofI;rw [Ut hin]);rw [this]
 rintro _ _ ⟨rfl,rfl⟩;unfold Ak at hK;obtain ⟨n,hn⟩:∃n,inT A x=n:=⟨_,rfl⟩;have hro:=row_of (A:=A) hin;have hrow:past=true/\Cc A x past=nb A n\/past=false/\Cc A x past=min (nb A n) (lnN A-1):=by
  cases past with
  |true=>left;refine ⟨rfl,?_⟩;unfold Cc ofI;rw [aF rfl,hn]
  |false=>right;refine ⟨rfl,?_⟩;unfold Cc ofI;rw [aJ (by decide),hn]
 rw [hn] at hro hin hK;rw [hn];obtain ⟨i,hi'⟩:∃i,Cc A x past=i:=⟨_,rfl⟩;rw [hi'] at hi ok ft tn nl hcl hrow hK;rw [hi'];refine h.toK hi λs p=>Ac (λhc=>?_) (λhc=>?_);{simp only [iI,jT] at hc;rw [aF (by omega)] at hK;refine Ac (λhp=>h.toK hi λs p=>?_) (λhp=>Oq h hi ?_);{rw [aF hp] at hK;exact hK};{rw [aJ (by rw [hp];decide)] at hK;exact hK}}
 ·simp only [iH,jT] at hc;rw [aJ (by omega)] at hK;have hf:(Aq A i).from_<=n:=by
   rcases hrow with ⟨_,hr⟩|⟨_,hr⟩
   ·rw [hr];exact hro.1
   ·rcases lT (lnN A-1) (nb A n) with u|u
    ·exfalso
     have hb:=Bc A
     have hnb:=Ho A n
     have:=Nw (A:=A) (i:=i) (j:=nb A n) (by omega) hnb
     omega
    ·rw [show i=nb A n by omega];exact hro.1
  obtain ⟨g1,g2⟩:=Bi1 hi hf (by omega);obtain ⟨m,hm⟩:∃m,Dj (Ag A i) (n:Int)=m:=⟨_,rfl⟩;obtain ⟨s1,s2⟩:=Ue (C:=Ag A i) (at_:=(n:Int));rw [hm] at g1 g2 hK s1 s2;rw [Ec g1] at hK g2;obtain ⟨cm,hcm⟩:=Dk g1;rw [Hg hcm] at hK g2;have hto:=s2 cm hcm;have hch:=Gi A i;refine h.V8 hi λs p=>h.Xp hi λs2 p2 y hy hyl=>?_;refine Ae (λx W=>x=((cm.from_:Int),())/\w=W) ?_ (by rintro _ _ ⟨rfl,rfl⟩;exact hK);refine Ba (λx W=>∃j:Nat,x=(((if j=0 then (Aq A i).from_ else frm (Ag A i) (min (j-1) m):Nat):Int),(j:Int),())/\w=W/\j<=(Ag A i).length) (λx _=>(((Ag A i).length:Int)-x.2.1).toNat) ⟨0,rfl,rfl,iW _⟩ ?_;rintro _ _ ⟨j,rfl,rfl,hj⟩;dsimp only;refine Ac (λhc2=>?_) (λhc2=>?_)
  ·simp only [iI] at hc2;obtain ⟨c,hcc⟩:=Dk (C:=Ag A i) (j:=j) (by omega);refine Ae (λx W=>x=(((frm (Ag A i) (min j m):Nat):Int),())/\w=W) ?_ ?_
   ·refine Jw hy hcc λp=>Ac (λhle=>Jw hy hcc λp=>⟨?_,rfl⟩) (λhle=>⟨?_,rfl⟩)
    ·simp only [iI] at hle;have:j<=m:=by
      rcases lT m j with u|u
      ·have:=hch.lt u hcm hcc;omega
      ·exact u
     rw [gK this,Hg hcc]
    ·simp only [iH] at hle;have hmj:m<j:=by
      rcases lT m j with u|u
      ·exact u
      ·exfalso
       rcases lT j m with v|v
       ·have:=hch.lt v hcc hcm;have:=hch.pos _ c hcc;omega
       ·have:j=m:=by omega
        subst this
        rw [hcm] at hcc;cases hcc
        omega
     rw [aJ (by omega),oH (by omega),oH (by omega)]
   rintro _ _ ⟨rfl,rfl⟩;rw [Qy (by omega)];refine ⟨⟨j+1,?_,rfl,by omega⟩,by omega⟩;rw [aJ (by omega),nR]
  {simp only [iH] at hc2;refine ⟨?_,rfl⟩;rw [aJ (by omega),oH (by omega),Hg hcm]}
theorem Cg5 (A:List Int) (x:Int):Dj (Ag A (ofI A x)) x=Dj (Ag A (ofI A x)) (inT A x:Int):=by have hi:=Aa9 A x;have ok:=Cb hi;have tn:=ok.tn;have nl:=ok.nl;obtain ⟨s1,s2⟩:=Ue (C:=Ag A (ofI A x)) (at_:=x);refine (Ac1 (Qu _ _) (λj c hj hc=>?_) λc hc=>?_).symm;{have:=s1 j c hj hc;have:=Tf hi hc;unfold inT;omega};{have:=s2 c hc;have:=Tf hi hc;unfold inT;omega}
theorem Vg (h:Gq w q A){x:Int}{K:Int->Wp}(hK:∀w',Ext w w'->K (Xh A x:Int) w'):Aa Tryz.prog 39 #[.pointer (some (at0 q)),.int .i64 x] rI K w:=by
 refine A39 ?_;unfold F39;have hA:=h.len;have hi:=Aa9 A x;have hin:=Bq6 A x;unfold Xh at hK;rw [Cg5] at hK;have ok:=Cb hi;have tn:=ok.tn;have nl:=ok.nl;have hcl:=Ht hi;have hofn:ofI A x=nb A (inT A x):=rfl;refine U2 h (Ci λw1 e1 _=>?_);have h1:=h.ext e1;refine h1.Di4 λs ks kr=>Ib h1 hin (Bg (ks w1 (Ext.refl _)) ?_);rw [←hofn];refine kr _ w1 _ hi (Ext.refl _) λp y hy hyl=>?_;have hK:=hK w1 e1;obtain ⟨i,hi'⟩:∃i,ofI A x=i:=⟨_,rfl⟩;obtain ⟨n,hn⟩:∃n,inT A x=n:=⟨_,rfl⟩;rw [hi'] at hK hi hcl hy hyl tn nl;rw [hn] at hK;rw [hn];obtain ⟨s1,s2⟩:=Ue (C:=Ag A i) (at_:=(n:Int));have hfl:=Qu (Ag A i) (n:Int);obtain ⟨m,hm⟩:∃m,Dj (Ag A i) (n:Int)=m:=⟨_,rfl⟩;rw [hm] at hK s1 s2 hfl;have hch:=Gi A i;refine Ae (λx W=>x=((m:Int),())/\w1=W) ?_ (by rintro _ _ ⟨rfl,rfl⟩;exact hK);refine Ba (λx W=>∃j:Nat,x=(((min j m:Nat):Int),(j:Int),())/\w1=W/\j<=(Ag A i).length) (λx _=>(((Ag A i).length:Int)-x.2.1).toNat) ⟨0,by simp,rfl,iW _⟩ ?_;rintro _ _ ⟨j,rfl,rfl,hj⟩;dsimp only;refine Ac (λhc2=>?_) (λhc2=>?_)
 ·simp only [iI] at hc2;obtain ⟨c,hcc⟩:=Dk (C:=Ag A i) (j:=j) (by omega);refine Ae (λx W=>x=(((min (j+1) m:Nat):Int),())/\w1=W) ?_ ?_
  ·refine Bu4 hy hcc λp=>Ac (λhle=>⟨?_,rfl⟩) (λhle=>⟨?_,rfl⟩)
   ·simp only [iI] at hle;have:j<m:=by
     rcases lT j m with u|u
     ·exact u
     ·exfalso
      rcases lT m j with v|v
      ·obtain ⟨cm,hcm⟩:=Dk (C:=Ag A i) (j:=m) (by omega)
       have:=hch.lt v hcm hcc;have:=hch.pos _ c hcc;have:=s2 cm hcm;omega
      ·have:j=m:=by omega
       subst this
       have:=s2 c hcc;omega
    rw [gK (by omega),gK (by omega),Qy (by omega)]
   ·simp only [iH] at hle;have:m<=j:=by
     rcases lT j m with u|u
     ·exfalso
      exact hle (s1 j c u hcc)
     ·exact u
    rw [oH (by omega),oH (by omega)]
  rintro _ _ ⟨rfl,rfl⟩;rw [Qy (by omega)];exact ⟨⟨j+1,rfl,rfl,by omega⟩,by omega⟩
 {simp only [iH] at hc2;refine ⟨?_,rfl⟩;rw [oH (by omega)]}
theorem Iu (h:Gq w q A) (hi:i<=brs A){x:Int}(hx:0<=x){K:Int->Wp}(hK:K (Aw A i x:Int) w):Aa Tryz.prog 88 #[.pointer (some (at0 q)),.int .i64 (i:Int),.int .i64 x] rI K w:=by refine A88 ?_;unfold F88;obtain ⟨n,rfl⟩:∃n:Nat,x=(n:Int):=⟨x.toNat,by omega⟩;refine h.Xp hi λs p y hy hyl=>Ac (λhc=>?_) (λhc=>h.toK hi λs p=>?_);{simp only [iI] at hc;obtain ⟨c,hcc⟩:=Dk (C:=Ag A i) (j:=n) (by omega);rw [Ec (by omega),Hg hcc] at hK;exact Jw hy hcc λp=>hK};{simp only [iH] at hc;rw [Ej (by omega)] at hK;exact hK}
theorem Ae2 (h:Gq w q A){line col:Int}{past:Bool}{K:Int->Wp}(hK:K (Yd A line col past:Int) w):Aa Tryz.prog 37 #[.pointer (some (at0 q)),.int .i64 line,.int .i64 col,.bool past] rI K w:=by
 refine A37 ?_;unfold F37;have hA:=h.len;have hbl:=Gl A;have hb:=Bc A;obtain ⟨l1,l2⟩:=Ro A line;(have el:(Eo A line:Int)=max (min line ((lnN A:Int)-1)) 0:=by unfold Eo;omega);unfold Yd at hK;obtain ⟨i,hi'⟩:∃i,Eo A line=i:=⟨_,rfl⟩;rw [hi'] at hK l1 l2 el;refine Ae (λx W=>x=(max line 0,())/\w=W) (Ac (λhc=>⟨?_,rfl⟩) (λhc=>⟨?_,rfl⟩)) ?_;{simp only [iI] at hc;rw [show max line 0=0 by omega]};{simp only [iH] at hc;rw [show max line 0=line by omega]};rintro _ _ ⟨rfl,rfl⟩;refine Ae (λx W=>x=((i:Int),())/\w=W) (h.Oe (Ac (λhc=>h.Oe ⟨?_,rfl⟩) (λhc=>⟨?_,rfl⟩))) ?_;{simp only [iI,jT] at hc;rw [wrap64 (by omega) (by omega),show (lnN A:Int)-1=(i:Int) by omega]};{simp only [iH,jT] at hc;rw [show max line 0=(i:Int) by omega]};rintro _ _ ⟨rfl,rfl⟩;refine Ae (λx W=>x=(max col 0,())/\w=W) (Ac (λhc=>⟨?_,rfl⟩) (λhc=>⟨?_,rfl⟩)) ?_;{simp only [iI] at hc;rw [show max col 0=0 by omega]};{simp only [iH] at hc;rw [show max col 0=col by omega]};rintro _ _ ⟨rfl,rfl⟩;have hmx:Aw A i (max col 0)=Aw A i col:=by
  unfold Aw
  rw [show (max col 0).toNat=col.toNat by omega]
 refine Ae (λx W=>x=(decide (((Ag A i).length:Int)<=max col 0/\past=false),())/\w=W) (h.Xp l2 λs p y hy hyl=>Ac (λhc=>⟨Az ?_,rfl⟩) (λhc=>⟨Az ?_,rfl⟩)) ?_;{simp only [iI,jT] at hc;cases past<;>simp<;>omega};{simp only [iH,jT] at hc;simp only [dO,iI,lS];omega};rintro _ _ ⟨rfl,rfl⟩;refine Ac (λhc=>Oq h l2 ?_) (λhc=>Iu h l2 (by omega) ?_);{obtain ⟨hc1,hc2⟩:=cO hc;by_cases hcc:((Ag A i).length:Int)<=col;{rw [aF ⟨hcc,hc2⟩] at hK;exact hK};{rw [aJ (λhh=>hcc hh.1),Hw (by omega)] at hK;rw [Hw (by omega)];exact hK}};{have hc:=pW hc;rw [hmx];rw [aJ (λhh=>hc ⟨by omega,hh.2⟩)] at hK;exact hK}
theorem Px {kind count arg:Int}{K:Int×Bool×Unit->Wp}(hK:∀w',Ext w w'->K ((kOf count:Int),decide (0<count),()) w'):Aa Tryz.prog 91 #[.agg (Cells.vals c48 (mvM kind count arg)).toArray] (.tup [(.one (.int .i64)),(.one .bool)]) K w:=by refine A91 (a0:=mvM kind count arg) ?_;unfold F91;(have ek:(kOf count:Int)=if 0<count then min count 9999 else 1:=by unfold kOf;split<;>omega);rw [ek] at hK;refine (St.start w).Af λb1 w1 S1 e1=>?_;have S1:St (λ_=>False) w w1 [(b1,Kr kind count arg)]:=S1;have hK:=hK w1 e1;refine S1.ld (off:=1) 0 rfl (x:=count) rfl (Ac (λhc=>?_) (λhc=>S1.ld (off:=1) 0 rfl (x:=count) rfl (Ac (λhc2=>?_) (λhc2=>S1.ld (off:=1) 0 rfl (x:=count) rfl ?_))));(all_goals simp only [iI,iH,kG] at *);{rw [aJ (by omega),jQ (by omega)] at hK;exact hK};{rw [aF (by omega),jP (by omega),show min count 9999=9999 by omega] at hK;exact hK};{rw [aF (by omega),jP (by omega),show min count 9999=count by omega] at hK;exact hK}
theorem Yc {e:Int}{K:LdT->Wp}(hK:∀w',Ext w w'->K (ldT (noP e)) w'):Aa Tryz.prog 92 #[.int .i64 e] (.tup [(.agg c83),(.one (.int .i64))]) K w:=by refine A92 ?_;unfold F92;exact (St.start w).Af λb1 w1 S1 e1=>S1.Ad 0 rfl rfl rfl rfl λw2 S2 _=>S2.lds 0 (ldT (noP e)).1 rfl (hK w2 S2.upd)
theorem Xa (h:Gq w q A){n:Nat}{kind:Int}{K:LdT->Wp}(hK:∀w',Ext w w'->K (ldT (Bz A n kind)) w'):Aa Tryz.prog 93 #[.pointer (some (at0 q)),.int .i64 (n:Int),.int .i64 kind] (.tup [(.agg c83),(.one (.int .i64))]) K w:=by refine A93 ?_;unfold F93;exact (St.start w).Af λb1 w1 S1 e1=>Vg (h.ext e1) λw2 e2=>(S1.ext e2).Ad 0 rfl rfl rfl rfl λw3 S3 _=>S3.lds 0 (ldT (Bz A n kind)).1 rfl (hK w3 S3.upd)
end
section
variable {w w':World}
theorem Cz1 {w0:World}{c:Cell}{s:Sl}{xs:List c.T}{n:Int}{K:Addr->c.T->Wp}(h:SlX w0 s 1 (xs.map c.val)) (x0:Ext w0 w) (h0:0<=n){x:c.T}(hx:xs[n.toNat]?=some x)
  (hK:∀p,(∀w',Ext w0 w'->w'.cell? (p.add (scaled (Int.toNat n) 1))=some (c.val x))->K p x w):ix s.a s.len n (λp=>ld c (p.add (scaled (Int.toNat n) 1)) (K p)) w:=by
 have hlt:=(fG.1 hx).1;have hl:=h.len1;rw [gW] at hl;obtain ⟨t,h⟩:=h.Av6 (by omega);rcases h.at_ with ⟨_,hc⟩|⟨b,off,cc,fr,ha,hb,_,hv⟩;{have:=h.le;omega}
 ·have hcell:∀w',Ext w0 w'->w'.cell? ((⟨b,off,none⟩:Addr).add (scaled (Int.toNat n) 1))=some (c.val x):=λw' e=>by
   rw [addr_add,Ei]
   exact cell_of (e.ext_get hb) (hv _ _ (by rw [dS,gX,hx];rfl))
  exact ⟨⟨b,off,none⟩,⟨ha,h0,by omega⟩,F5 (x:=x) (hcell w x0) (hK _ hcell)⟩
structure Bt (w0 w:World) (e:Enc) (p r:Nat) (A:As) (na:Nat):Prop where
 ex:∃O M F na',na'<=na/\Txt w p e 65536 na' O M/\aOf e M=A/\Si w r e (atoms A) F/\(∀k,F k->¬O k)/\(∀k,O k->w0.heap.size<=k)/\(∀k,F k->w0.heap.size<=k)
 ok:A=prs e (atoms A)
 sz:szs A<=65536
theorem Bt.ext {w0:World}{e:Enc}{p r:Nat}{A:As}{na:Nat}(h:Bt w0 w e p r A na) (x:Ext w w'):Bt w0 w' e p r A na:=by obtain ⟨O,M,F,na',h0,h1,h2,h3,h4,h5,h6⟩:=h.ex;exact ⟨⟨O,M,F,na',h0,h1.ext x,h2,h3.ext x,h4,h5,h6⟩,h.ok,h.sz⟩
set_option maxHeartbeats 1000000 in
theorem Cg9 {w0:World}{e:Enc}{p r:Nat}{A:As}{na:Nat}{s:Sl}{es:List LEd}(x0:Ext w0 w) (hB:Bt w0 w e p r A na) (hE:EdX w0 s es) (hna:na+200000<2^40){P1 P2:World->Prop}(hP:∀w',Ext w0 w'->P1 w'/\P2 w'){R:Int->Int->Wp}(hR:∀v A' w',Ext w0 w'->Bt w0 w' e p r A' (na+65536)->R v v w') :
  Aa Tryz.prog 15 #[s.v] rS (λx23=>keep P1 (keep P2 (Aa Tryz.prog 14 #[.pointer (some (at0 p)),x23.v] rI λx24=>keep P1 (keep P2 (Aa Tryz.prog 16 #[.pointer (some (at0 r)),s.v] rI λx25=>R x24 x25))))) w:=by
 obtain ⟨O,M,F,na',h0,h1,h2,h3,h4,h5,h6⟩:=hB.ex;have hok:=hB.ok;have hsz:=hB.sz;subst h2;refine Co2 (hE.ext x0) λq zs w6 hEd hr hz e6=>?_;have x6:=x0.trans e6;refine Bg (hP w6 x6).1 (Bg (hP w6 x6).2 ?_);have t6:=h1.ext e6;obtain ⟨ys,hER⟩:=hE.toR;refine Bc3 t6 hEd hsz (λk hk hOk=>?_) (λj z hj k hk hOk=>?_) (by omega) (λc w7 hc0 hc e7=>?_) λhc O' M' w7 t7 ha7 hs7 u7 _ o2=>?_;{have:=hr k hk;have:=h1.own k hOk;omega};{have:=hz j z hj k hk;have:=h1.own k hOk;omega};{have x7:=x6.trans e7;refine Bg (hP w7 x7).1 (Bg (hP w7 x7).2 ?_);refine U1 (h3.ext (e6.trans e7)) hok (hER.ext x7) hsz (λhne w8 e8=>?_) (λheq=>by rw [heq] at hc;exact absurd hc.symm hc0);rw [hc];exact hR c _ w8 (x7.trans e8) ⟨⟨O,M,F,na',by omega,((h1.ext e6).ext e7).ext e8,rfl,((h3.ext e6).ext e7).ext e8,h4,h5,h6⟩,hok,hsz⟩}
 ·have x7:Ext w0 w7:=x6.step u7 λk hk=>h5 k hk.1;refine Bg (hP w7 x7).1 (Bg (hP w7 x7).2 ?_);have hps:=Bo1 hc;have r7:Si w7 r e (atoms (aOf e M)) F:=(h3.ext e6).upd u7 λk hk hw=>h4 k hk hw.1;refine U1 r7 hok (hER.ext x7) hsz (λhne=>absurd hc hne) (λ_ F' w8 r8 u8 f8=>?_);have hrO:¬O' r:=λhO=>by
   rcases o2 r hO with q1|q1
   ·exact h4 r h3.root q1
   ·have:=h3.own r h3.root;have:=e6.size;omega
  obtain ⟨sa0,st0,T0,hr0,_⟩:=r7.ex;have t8:Txt w8 p e 65536 _ O' M':=t7.upd u8 (λk hk hkr=>by subst hkr;exact hrO hk) (λk hk c fr hn=>by
   subst hk
   rw [hr0] at hn
   cases hn)
  (have x8:Ext w0 w8:=x7.step u8 λk hk=>by subst hk;exact h6 _ h3.root);have hok':Dq e (aOf e M) es=prs e (atoms (Dq e (aOf e M) es)):=(Aq3 (e:=e) (by rw [hok];exact Bo4 e _) es).prs;refine hR 0 (Dq e (aOf e M) es) w8 x8 ⟨⟨O',M',F',_,by omega,t8,ha7,r8,λk hk hO=>?_,λk hk=>?_,λk hk=>?_⟩,hok',by rw [←ha7];exact hs7⟩;{rcases f8 k hk with q1|q1;{rcases o2 k hO with q2|q2;{exact h4 k q1 q2};{have:=h3.own k q1;have:=e6.size;omega}};{have:=t7.own k hO;omega}};{rcases o2 k hk with q1|q1;{exact h5 k q1};{have:=x6.size;omega}};{rcases f8 k hk with q1|q1;{exact h6 k q1};{have:=x7.size;omega}}
theorem Cm4 {c:Int}{s:Sl}{n:Nat}(hl:s.len=n) (hc:¬(1<=c/\c<=4/\n<=65536)){K:Option Addr×Int×Unit->Wp}(hK:∀v,v≠0->K (none,v,()) w) :
  Aa Tryz.prog 12 #[.int .i64 c,s.v,.int .i64 65536] (.tup [(.one .ptr),(.one (.int .i64))]) K w:=by refine A12 ?_;unfold F12;refine Ae (λx W=>x=(decide (¬(1<=c/\c<=4)),())/\w=W) (Ac (λhc=>⟨Az ?_,rfl⟩) (λhc=>⟨Az ?_,rfl⟩)) ?_;{simp only [iI,lQ] at hc ⊢;omega};{simp only [iH,iI,kG] at hc ⊢;omega};rintro _ _ ⟨rfl,rfl⟩;refine Ac (λ_=>hK 10 (by decide)) (λhc2=>?_);have hc2:=lJ λhn=>(pW hc2) hn;refine Ae (λx W=>x=(false,())/\w=W) (Ah ⟨rfl,rfl⟩) ?_;rintro _ _ ⟨rfl,rfl⟩;refine Ah (Ac (λ_=>hK 50 (by decide)) (λhc3=>?_));simp only [iH,kG] at hc3;omega
end
section
variable {w w':World}{p:Nat}{A:List Int}
abbrev Rz (a:Va):Obj:=.cells #[.int .i64 a.kind,.int .i64 a.at_,.int .i64 a.b,.int .i64 a.mkd,.int .i64 a.count,.int .i64 a.arg,.bool a.past] 50 (0,0)
theorem Lm {W:World}{b:Nat}{a:Va}{K:Cells.T c48->Wp}(hb:W.heap[b]?=some (Rz a)) (hK:K (mvM a.mkd a.count a.arg) W):lds c48 ⟨b,3,none⟩ K W :=
 Qh (x:=mvM a.mkd a.count a.arg) hb (λj v hv=>by
  match j with
  |0=>exact hv
  |1=>exact hv
  |2=>exact hv
  |j+3=>cases hv) hK
end
def Brk (w:World):Prop:=∀j,j<6->w.cell? ⟨0,j,none⟩=some (.int .i64 (Y4.getD j 0))
section
variable {w w':World}{p q:Nat}{A:List Int}{a:Va}
theorem Brk.ext (h:Brk w) (x:Ext w w'):Brk w':=λj hj=>Vy (h j hj) x
def Zb (a:Va):Prop:=∀(w:World) (p q:Nat) (A:List Int) (K:Bool->Wp),Brk w->TxA w p A->Gq w q A->(∀w',Ext w w'->K true w')->Aa Tryz.prog 18 #[.pointer (some (at0 p)),.pointer (some (at0 q)),.agg (Cells.vals c50 (Xv a)).toArray] rB K w
theorem Wv {l:Ld}{K:Bool->Wp}(hK:∀w',Ext w w'->K true w'):Aa Tryz.prog 42 #[.agg (Cells.vals c83 (ldT l).1).toArray,.int .i64 l.2,.agg (Cells.vals c83 (ldT l).1).toArray,.int .i64 l.2] rB K w:=by refine A42 (a0:=(ldT l).1) (a2:=(ldT l).1) ?_;unfold F42;refine (St.start w).Af λb1 w1 S1 e1=>S1.Af λb2 w2 S2 e2=>S2.ld (off:=0) 1 rfl (x:=l.1.1) rfl (S2.ld (off:=0) 0 rfl (x:=l.1.1) rfl ?_);rw [qI];refine Bh (S2.ld (off:=1) 1 rfl (x:=l.1.2.1) rfl (S2.ld (off:=1) 0 rfl (x:=l.1.2.1) rfl ?_));rw [qI];refine Bh (S2.ld (off:=2) 1 rfl (x:=l.1.2.2) rfl (S2.ld (off:=2) 0 rfl (x:=l.1.2.2) rfl ?_));rw [qI,qI];exact Bh (hK w2 S2.upd)
theorem Cj9 (hk:a.kind=1):Zb a:=by intro w p q A K hg tx pg hK;refine A18 (a2:=Xv a) ?_;unfold F18;refine (St.start w).Af λb1 w1 S1 e1=>?_;have S1:St (λ_=>False) w w1 [(b1,Rz a)]:=S1;refine S1.ld (off:=0) 0 rfl (x:=a.kind) rfl ?_;rw [hk];refine Bh (S1.drew λw2 S2 e2 _=>S2.ld (off:=1) 0 rfl (x:=a.at_) rfl (S2.ld (off:=6) 0 rfl (x:=a.past) rfl (S2.ld (off:=1) 0 rfl (x:=a.at_) rfl (S2.ld (off:=6) 0 rfl (x:=a.past) rfl (Ns (tx.ext S2.upd) λw3 e3=>?_)))));have S3:=S2.ext e3;refine S3.keep (off:=6) 0 rfl (v:=.bool a.past) rfl (S3.keep (off:=1) 0 rfl (v:=.int .i64 a.at_) rfl (Ik (pg.ext S3.upd) ?_));rw [qI];exact hK w3 S3.upd
theorem Cj7 (hk:a.kind=2):Zb a:=by intro w p q A K hg tx pg hK;refine A18 (a2:=Xv a) ?_;unfold F18;refine (St.start w).Af λb1 w1 S1 e1=>?_;have S1:St (λ_=>False) w w1 [(b1,Rz a)]:=S1;refine S1.ld (off:=0) 0 rfl (x:=a.kind) rfl ?_;rw [hk];refine Ah (Bh (S1.drew λw2 S2 e2 _=>S2.ld (off:=1) 0 rfl (x:=a.at_) rfl (S2.ld (off:=2) 0 rfl (x:=a.b) rfl (S2.ld (off:=6) 0 rfl (x:=a.past) rfl (S2.ld (off:=1) 0 rfl (x:=a.at_) rfl (S2.ld (off:=2) 0 rfl (x:=a.b) rfl (S2.ld (off:=6) 0 rfl (x:=a.past) rfl (U9 (tx.ext S2.upd) λw3 e3=>?_))))))));have S3:=S2.ext e3;refine S3.keep (off:=6) 0 rfl (v:=.bool a.past) rfl (S3.keep (off:=2) 0 rfl (v:=.int .i64 a.b) rfl (S3.keep (off:=1) 0 rfl (v:=.int .i64 a.at_) rfl (Ae2 (pg.ext S3.upd) ?_)));rw [qI];exact hK w3 S3.upd
theorem Bl7 (hk:a.kind=3):Zb a:=by intro w p q A K hg tx pg hK;refine A18 (a2:=Xv a) ?_;unfold F18;refine (St.start w).Af λb1 w1 S1 e1=>?_;have S1:St (λ_=>False) w w1 [(b1,Rz a)]:=S1;refine S1.ld (off:=0) 0 rfl (x:=a.kind) rfl ?_;rw [hk];refine Ah (Ah (Bh (S1.drew λw2 S2 e2 _=>S2.ld (off:=1) 0 rfl (x:=a.at_) rfl (S2.ld (off:=1) 0 rfl (x:=a.at_) rfl (Qp (tx.ext S2.upd) λw3 e3=>?_)))));have S3:=S2.ext e3;refine S3.keep (off:=1) 0 rfl (v:=.int .i64 a.at_) rfl (Vg (pg.ext S3.upd) λw4 e4=>?_);rw [qI];exact hK w4 (S3.ext e4).upd
section
variable {y:Cells.T c26}{c:Int}{l:List UInt8}{L:List (List LEd)}{al:List Va}
end
end
end
section
open Go Go.Vx Go.ChangeShapes Go.WideShapes Go.RowKit Cdc Mot
theorem Dz8:Tryz.prog.globalNamed "copyist/copyistref8.brackets" = some 0:=by kernel_rfl
theorem Dn0:(Tryz.prog.globals[0]?).map (·.type)=some 202:=by kernel_rfl
theorem Dm9:Tryz.prog.underlying 202=some (.array 6 3):=by kernel_rfl
theorem Ea6:Tryz.prog.cellsOf 3=1:=by kernel_rfl
abbrev laidB:List (String×DataW Unit):=[("copyist/copyistref8.brackets",Rows.laid_copyist_copyistref8_brackets)]
theorem Bk4 {W:World}(h:laidMetH Tryz.prog laidB W):Brk W:=by
 rw [qG _ _ _ (by kernel_rfl)] at h;obtain ⟨ps,⟨g0,t0,cs0,f0,p0,q0,hg0,ht0,hv0,hd0,_,_⟩,_,_⟩:=h;obtain rfl:=kS (Dz8.symm.trans hg0);obtain rfl:=kS (Dn0.symm.trans ht0);obtain ⟨xs,m1,rfl,hx1,hlen,hn6,hel⟩:=DataW.trod_array Dm9 hd0;have hm:xs.map (·.1)=[.lit (.int .i64 40),.lit (.int .i64 91),.lit (.int .i64 123),.lit (.int .i64 41),.lit (.int .i64 93),.lit (.int .i64 125)]:=by
  have:=(Prod.mk.inj hx1).1
  unfold Rows.laid_copyist_copyistref8_brackets at this
  exact (DataW.agg.inj this).symm
 intro j hj;have h0:=hel j hj;rw [Ea6,dS] at h0;obtain ⟨x,hx⟩:∃x,xs[j]?=some x:=⟨_,jC (by omega)⟩;rw [hx] at h0;obtain ⟨n,e1,e2,_⟩:=DataW.trod_int ui h0;have hcs:cs0[j]?=some (.int .i64 n):=by
  have:=fC (λl:List Value=>l[0]?) e1
  simp only [gQ,gU,Nat.add_zero] at this
  simpa using this
 (have hx1:(xs.map (·.1))[j]?=some (.lit (.int .i64 n)):=by rw [gX,hx,e2];rfl);rw [hm] at hx1;rw [World.var?_cell hg0 hv0 j,hcs];have hn:n=Y4.getD j 0:=by
  rcases (by omega:j=0\/j=1\/j=2\/j=3\/j=4\/j=5) with rfl|rfl|rfl|rfl|rfl|rfl
  all_goals
   have:=kS hx1
   have:=Lit.int.inj (DataW.lit.inj this)
   exact this.2.symm
 rw [hn]
def laidWorld (os:Os):World :=
 let w0:=World.holding Tryz.prog os ⟨#[],#[],[]⟩
 { w0 with heap:=w0.heap.modify 0 λ
  |.cells _ t frozen=>.cells #[.int .i64 40,.int .i64 91,.int .i64 123,.int .i64 41,.int .i64 93,.int .i64 125] t frozen
  |o=>o }
abbrev look0:Value:=.agg #[.int .i64 0,.slice none 0 0,.slice none 0 0,.slice none 0 0]
theorem laid_met (os:Os) (args:Array Value):laidMetH Tryz.prog laidB ((laidWorld os).forCall (λ_ _=>0) ⟨#[],args,[]⟩).memory:=by rw [qG _ _ _ (by kernel_rfl)];exact (LaidIn.of_run [0] 8 (by kernel_rfl) (by kernel_rfl) (by kernel_rfl) (by kernel_rfl)).met
end
section
open Go Go.Vx Cdc Trx Gly Clu Lns Obx Mot
abbrev Jg (l:Ld):Obj:=.cells #[.int .i64 l.1.1,.int .i64 l.1.2.1,.int .i64 l.1.2.2] 94 (0,0)
abbrev SpT:=Cells.T c94×Int×Unit
abbrev O9 (l:Ld):SpT:=((l.1.1,l.1.2.1,l.1.2.2,()),l.2,())
abbrev Cf2 (l:Ld):Obj:=.cells #[.int .i64 l.1.1,.int .i64 l.1.2.1,.int .i64 l.1.2.2] 83 (0,0)
theorem Dn6 (c:Int):(if (9999:Int)<(if (1:Int)>c then (1:Int) else c) then (9999:Int) else (if (1:Int)>c then (1:Int) else c))=(kOf c:Int):=by unfold kOf;split<;>split at * <;> split<;>omega
theorem Zo (c:Int):1<=kOf c/\kOf c<=9999:=by unfold kOf;split<;>omega
section
variable {w w':World}{p:Nat}{A:List Int}
set_option maxHeartbeats 1000000 in
theorem Bb2 (h:TxA w p A){s:Nat}(hs:Ak A (s:Int) true=s){to_ kind count arg:Int}{K:Int×Bool×Unit->Wp}
  (hK:∀w',Ext w w'->K (((Aq A (ofI A (Mc A s (decide (kind=25)) (kOf count):Int))).to_:Int),decide (ofI A (Mc A s (decide (kind=25)) (kOf count):Int)<ofI A to_),()) w') :
  Aa Tryz.prog 104 #[.pointer (some (at0 p)),.int .i64 (s:Int),.int .i64 to_,.agg (Cells.vals c48 (mvM kind count arg)).toArray] (.tup [(.one (.int .i64)),(.one .bool)]) K w:=by
 refine Ep8 (a3:=mvM kind count arg) ?_;unfold F104;have eb:(kind==25)=decide (kind=25):=(by rw [gV,jM,iI]);obtain ⟨big,hbig⟩:∃big,decide (kind=25)=big:=⟨_,rfl⟩;rw [hbig] at hK eb;have hkr:=Zo count;obtain ⟨kk,hkk⟩:∃kk,kOf count=kk:=⟨_,rfl⟩;rw [hkk] at hK hkr;refine (St.start w).Af λb1 w1 S1 e1=>?_;have S1:St (λ_=>False) w w1 [(b1,Kr kind count arg)]:=S1;refine S1.ld (off:=0) 0 rfl (x:=kind) rfl ?_;rw [eb];refine U8 (h.ext S1.upd) hs λbw r0 w2 hw hbw e2=>?_;have S2:=S1.ext e2;have hon:=(Rj A (s:Int) true).1;have hoff:Bo A (Au A (s:Int) true)=s:=(by rw [(Rj A (s:Int) true).2.1,hs]);have hpass:Mc A s big kk=((((((aft A (Au A (s:Int) true)).filter (Ll A big)).map (Bo A)).take (kk-1)).getLast?).getD s):=by
  unfold Mc
  have:=Av3 (Ll A big) hon
  rw [hoff] at this
  rw [this]
 rw [hpass] at hK;obtain ⟨f,hf⟩:∃f,(((((aft A (Au A (s:Int) true)).filter (Ll A big)).map (Bo A)).take (kk-1)).getLast?).getD s=f:=⟨_,rfl⟩;rw [hf] at hK;have fin:∀{W:World},Ext w W->(Aa Tryz.prog 78 #[.pointer (some (at0 p)),.int .i64 (f:Int),.bool true] (.one (.agg Bf)) λx14=>Af (.cells #[(.int .i64 (0:Int)),(.int .i64 (0:Int)),(.int .i64 (0:Int)),(.int .i64 (0:Int)),(.int .i64 (0:Int)),(.slice none 0 0),(.slice none 0 0)] 135) λb15 =>
   Ad (at0 b15) (.agg (Cells.vals Bf x14).toArray) 7<|drew<|ld (.int .i64) (⟨b15,1,none⟩:Addr) λ(x16:Int)=>ld (.int .i64) (⟨b15,4,none⟩:Addr) λ(x17:Int) =>
   Aa Tryz.prog 130 #[(.pointer (some (at0 p))),(.int .i64 to_)] rI λ(x18:Int)=>keep (λw=>w.cell? (⟨b15,4,none⟩:Addr)=some (Cell.val (.int .i64) x17))<|keep (λw=>w.cell? (⟨b15,1,none⟩:Addr)=some (Cell.val (.int .i64) x16)) <|
   K (x16,(decide (x18>x17)),())) W:=λ{W} eW=>by
  refine Jo (h.ext eW) λr w3 hr e3=>?_
  have er:Cc A (f:Int) true=ofI A (f:Int):=by unfold Cc;rw [aF rfl]
  rw [er] at hr
  refine ((St.start w).ext (eW.trans e3)).Fp rfl rfl rfl λb15 w4 S4 e4=>?_
  have S4:St (λ_=>False) w w4 [(b15,rwO r)]:=S4
  have ht:=hr.t;have hn:=hr.num
  refine S4.drew λw5 S5 e5 _=>S5.ld (off:=1) 0 rfl (x:=r.2.1) rfl (S5.ld (off:=4) 0 rfl (x:=r.2.2.2.2.1) rfl ((h.ext S5.upd).of λw6 e6=>?_))
  have S6:=S5.ext e6
  refine S6.keep (off:=4) 0 rfl (v:=.int .i64 r.2.2.2.2.1) rfl (S6.keep (off:=1) 0 rfl (v:=.int .i64 r.2.1) rfl ?_)
  rw [ht,hn]
  have:=hK w6 S6.upd
  have ed:decide (((ofI A to_:Nat):Int)>((ofI A (f:Int):Nat):Int))=decide (ofI A (f:Int)<ofI A to_):=by rw [gV,iI,iI];omega
  rw [ed];exact this
 refine Ae (λx W=>x=((f:Int),())/\Ext w W) ?_ (λx W hx=>by rw [hx.1];exact fin hx.2);refine S2.ld (off:=1) 0 rfl (x:=count) rfl ?_;rw [Dn6,hkk];(have ew0:W64 ((kk:Int)-1)=((kk-1:Nat):Int):=by rw [wrap64 (by omega) (by omega)];omega);rw [ew0];(have hbw2:w.heap.size<=bw:=by have:=S1.upd.size;omega);refine P5 (λ(g:Nat×Nat×(Nat×Nat)×RwT) x W=>x=((g.2.1:Int),(g.1:Int),())/\g.1<=9999/\Fa W bw p A big g.2.2.1 g.2.2.2/\Ext w W/\((((aft A g.2.2.1).filter (Ll A big)).map (Bo A)).take g.1).getLast?.getD g.2.1=f) (λg=>(aft A g.2.2.1).length) (kk-1,s,Au A (s:Int) true,r0) ⟨rfl,by dsimp only;omega,hw,S2.upd,hf⟩ ?_;rintro ⟨k,v,q,r⟩ _ W R ⟨rfl,hk,hW,eW,hv⟩ hR;dsimp only at hk hW hv hR ⊢;refine Ae (λx V=>(x=(false,())/\v=f/\Ext w V)\/(x=(true,())/\0<k/\∃q2 r2,Il A q=some q2/\Fa V bw p A big q2 r2/\Ext w V)) ?_ ?_;{refine Ac (λhc=>?_) (λhc=>?_);{simp only [iI,kG] at hc;refine Sj hW (λhn W1 e1'=>.inl ⟨rfl,?_,eW.trans e1'⟩) (λq2 r2 W1 hn hW1 u1=>.inr ⟨rfl,by omega,q2,r2,hn,hW1,eW.step u1 λk hk=>by omega⟩);rw [Yv hn] at hv;simpa using hv};{simp only [iH,kG] at hc;refine .inl ⟨rfl,?_,eW⟩;rw [show k=0 by omega] at hv;simpa using hv}};rintro _ V (⟨rfl,rfl,eV⟩|⟨rfl,hk0,q2,r2,hn,hV,eV⟩);{exact Ah ⟨rfl,eV⟩};refine Bh (D8 hV (Ab0 hW.on hn) λV1 e1'=>?_);(have hlen:(aft A q2).length<(aft A q).length:=by rw [Jv hn];simp);rw [Jv hn] at hv;refine Ac (λhb=>?_) (λhb=>?_);{refine Om (hV.ext e1') λV2 e2'=>?_;(have ew:W64 ((k:Int)-1)=((k-1:Nat):Int):=by rw [wrap64 (by omega) (by omega)];omega);rw [ew];refine hR (k-1,Bo A q2,q2,r2) _ V2 ⟨rfl,by dsimp only;omega,(hV.ext e1').ext e2',(eV.trans e1').trans e2',?_⟩ hlen;dsimp only;rw [nH hb,dQ,show k=k-1+1 by omega,iK,List.getLast?_cons] at hv;simpa using hv};{refine hR (k,v,q2,r2) _ V1 ⟨rfl,hk,hV.ext e1',eV.trans e1',?_⟩ hlen;dsimp only;rw [nK (by rw [hb];decide)] at hv;exact hv}
theorem Me {W w0:World}{b1:Nat}{l:Ld}{o:Obj}{ls:List (Nat×Obj)}{K:SpT->Wp}{a b c:Int}{i:Nat}(S:St (λ_=>False) w0 W ls) (hi:ls[i]?=some (b1,Jg ((a,b,c),0))) (hK:∀w',Ext w0 w'->K (O9 l) w') :
  Ad (at0 b1) (.agg #[.int .i64 l.1.1,.int .i64 l.1.2.1,.int .i64 l.1.2.2]) 3 (lds c94 (at0 b1) λy=>K (y,l.2,())) W:=by have hlt:=(fG.1 hi).1;refine S.Ad i hi rfl rfl rfl λw1 S1 _=>S1.lds i (O9 l).1 (by rw [List.getElem?_set_self hlt];rfl) (hK w1 S1.upd)
set_option maxHeartbeats 1000000 in
theorem Y8 (h:TxA w p A){a b kind:Int}{K:SpT->Wp}(hK:∀w',Ext w w'->K (O9 (Qb A a b kind)) w') :
  Aa Tryz.prog 52 #[.pointer (some (at0 p)),.int .i64 a,.int .i64 b,.int .i64 kind] (.tup [(.agg c94),(.one (.int .i64))]) K w:=by refine A52 ?_;unfold F52;have hA:=h.len;unfold Qb at hK;dsimp only at hK;refine (St.start w).Af λb1 w1 S1 e1=>Ns (h.ext S1.upd) λw2 e2=>Ns (h.ext (S1.ext e2).upd) λw3 e3=>?_;have S3:=(S1.ext e2).ext e3;have S3:St (λ_=>False) w w3 [(b1,Jg ((0,0,0),0))]:=S3;obtain ⟨ca,hca⟩:∃ca,Ak A a true=ca:=⟨_,rfl⟩;obtain ⟨cb,hcb⟩:∃cb,Ak A b true=cb:=⟨_,rfl⟩;rw [hca,hcb] at hK;rw [hca,hcb];have emin:(if (cb:Int)<(ca:Int) then (cb:Int) else (ca:Int))=((min ca cb:Nat):Int):=(by split<;>omega);have emax:(if (cb:Int)>(ca:Int) then (cb:Int) else (ca:Int))=((max ca cb:Nat):Int):=(by split<;>omega);rw [emin,emax];obtain ⟨lo,hlo⟩:∃lo,min ca cb=lo:=⟨_,rfl⟩;obtain ⟨hi,hhi⟩:∃hi,max ca cb=hi:=⟨_,rfl⟩;rw [hlo,hhi] at hK;rw [hlo,hhi];refine Jo (h.ext S3.upd) λr w4 hr e4=>?_;(have er:Cc A (hi:Int) true=ofI A (hi:Int):=by unfold Cc;rw [aF rfl]);rw [er] at hr;obtain ⟨i,hi'⟩:∃i,ofI A (hi:Int)=i:=⟨_,rfl⟩;rw [hi'] at hK hr;have hf:=hr.f;have ht:=hr.t;have hn:=hr.num;have fw:=hr.few;have hib:=hr.row;have hbl:=Gl A;refine (S3.ext e4).Fp rfl rfl rfl λb5 w5 S5 e5=>?_;have S5:St (λ_=>False) w w5 [(b5,rwO r),(b1,Jg ((0,0,0),0))]:=S5;have hr5:=hr.ext e5;refine Ac (λhk=>?_) (λhk=>?_);{rw [jM] at hk;rw [aF hk] at hK;refine Ae (λx V=>x=(((if hi=(Aq A i).from_/\lo<hi/\0<i then max (Aq A (i-1)).to_ lo else hi:Nat):Int),())/\∃ls,St (λ_=>False) w V ls/\ls[ls.length-1]?=some (b1,Jg ((0,0,0),0))) ?_ ?_;{refine Ae (λx V=>x=(decide (hi=(Aq A i).from_/\lo<hi/\0<i),())/\w5=V) ?_ ?_;{refine S5.ld (off:=0) 0 rfl (x:=r.1) rfl ?_;rw [hf];refine Ac (λh1=>Ac (λh2=>S5.ld (off:=4) 0 rfl (x:=r.2.2.2.2.1) rfl ⟨Az ?_,rfl⟩) (λh2=>⟨Az ?_,rfl⟩)) (λh1=>⟨Az ?_,rfl⟩);{simp only [jM,iI,kG] at h1 h2 ⊢;rw [hn];omega};{simp only [jM,iH] at h1 h2;simp only [dO,iI,lS];omega};{simp only [jO,ne_eq] at h1;simp only [dO,iI,lS];omega}};rintro _ _ ⟨rfl,rfl⟩;refine Ac (λhc=>?_) (λhc=>?_);{have hc:=cO hc;rw [aF hc];refine S5.ld (off:=4) 0 rfl (x:=r.2.2.2.2.1) rfl ?_;(have ew:W64 (r.2.2.2.2.1-1)=((i-1:Nat):Int):=by rw [hn,wrap64 (by omega) (by omega)];omega);rw [ew];refine (h.ext S5.upd).at_ (by omega) λw6 e6=>(S5.ext e6).Fp rfl rfl rfl λb14 w7 S7 _=>?_;have S7:St (λ_=>False) w w7 [(b14,.cells #[.int .i64 ((Aq A (i-1)).from_:Int),.int .i64 ((Aq A (i-1)).to_:Int),.int .i64 ((Aq A (i-1)).next:Int),.int .i64 ((Aq A (i-1)).kind:Int)] 133 (0,0)),(b5,rwO r),(b1,Jg ((0,0,0),0))]:=S7;refine S7.ld (off:=1) 0 rfl (x:=((Aq A (i-1)).to_:Int)) rfl ⟨?_,_,S7,rfl⟩;have:(if (lo:Int)>((Aq A (i-1)).to_:Int) then (lo:Int) else ((Aq A (i-1)).to_:Int))=((max (Aq A (i-1)).to_ lo:Nat):Int):=(by split<;>omega);rw [this]};{have hc:=pW hc;rw [aJ hc];exact ⟨rfl,_,S5,rfl⟩}};rintro _ V ⟨rfl,ls,SV,hls⟩;refine Me (l:=(((lo:Int),(((if hi=(Aq A i).from_/\lo<hi/\0<i then max (Aq A (i-1)).to_ lo else hi:Nat):Int)),0),0)) (o:=Jg ((0,0,0),0)) SV hls λw' x=>?_;have:=hK w' x;split at this;{rename_i hc;rw [aF hc];exact this};{rename_i hc;rw [aJ hc];exact this}};rw [jO] at hk;rw [aJ hk] at hK;refine Ac (λhk=>?_) (λhk=>?_);{rw [jM] at hk;rw [aF hk] at hK;refine Ae (λx V=>x=(((if hi<(Aq A i).to_ then Aw A i ((Dj (Ag A i) (hi:Int):Nat)+1) else hi:Nat):Int),())/\St (λ_=>False) w V [(b5,rwO r),(b1,Jg ((0,0,0),0))]) ?_ ?_;{refine S5.ld (off:=1) 0 rfl (x:=r.2.1) rfl ?_;rw [ht];refine Ac (λhc=>?_) (λhc=>?_);{simp only [iI] at hc;rw [aF (by omega)];refine S5.drew λw6 S6 e6 _=>S6.lds 0 r rfl (S6.lds 0 r rfl (Vl (hr5.ext e6) λw7 e7=>?_));have S7:=S6.ext e7;have hfl:=Qu (Ag A i) (hi:Int);have ew:W64 ((Dj (Ag A i) (hi:Int):Int)+1)=((Dj (Ag A i) (hi:Int):Nat):Int)+1:=wrap64 (by omega) (by omega);rw [ew];exact S7.keeps 0 (x:=r) rfl (Et ((hr5.ext e6).ext e7) λw8 e8=>⟨rfl,S7.ext e8⟩)};{simp only [iH] at hc;rw [aJ (by omega)];exact ⟨rfl,S5⟩}};rintro _ V ⟨rfl,SV⟩;exact Me (l:=(((lo:Int),(((if hi<(Aq A i).to_ then Aw A i ((Dj (Ag A i) (hi:Int):Nat)+1) else hi:Nat):Int)),0),0)) (o:=Jg ((0,0,0),0)) (i:=1) SV rfl hK};rw [jO] at hk;rw [aJ hk] at hK;refine Ac (λhk=>?_) (λhk=>?_);{rw [jM] at hk;rw [aF hk] at hK;refine Jo (h.ext S5.upd) λr1 w6 hr1 e6=>Jo (h.ext (S5.ext e6).upd) λr2 w7 hr2 e7=>?_;have S7:=(S5.ext e6).ext e7;refine S7.Af λb27 w8 S8 e8=>S8.Af λb28 w9 S9 e9=>S9.Ad 1 rfl rfl rfl rfl λw10 S10 _=>S10.Ad 0 rfl rfl rfl rfl λw11 S11 _=>?_;have S11:St (λ_=>False) w w11 [(b28,rwO r2),(b27,rwO r1),(b5,rwO r),(b1,Jg ((0,0,0),0))]:=S11;refine S11.ld (off:=0) 1 rfl (x:=r1.1) rfl (S11.ld (off:=2) 0 rfl (x:=r2.2.2.1) rfl ?_);rw [hr1.f,hr2.n];exact Me (l:=((((Aq A (Cc A (lo:Int) false)).from_:Int),((Aq A (Cc A (hi:Int) false)).next:Int),1),0)) (o:=Jg ((0,0,0),0)) (i:=3) S11 rfl hK};{rw [jO] at hk;rw [aJ hk] at hK;exact Me (l:=noP 1) (o:=Jg ((0,0,0),0)) (i:=1) S5 rfl hK}
set_option maxHeartbeats 2000000 in
theorem Bo2 (h:TxA w p A){x kind count arg:Int}{K:SpT->Wp}(hK:∀w',Ext w w'->K (O9 (Aa1 A x kind count arg)) w') :
  Aa Tryz.prog 49 #[.pointer (some (at0 p)),.int .i64 x,.agg (Cells.vals c48 (mvM kind count arg)).toArray] (.tup [(.agg c94),(.one (.int .i64))]) K w:=by
 refine A49 (a2:=mvM kind count arg) ?_;unfold F49;refine (St.start w).Af λb1 w1 S1 e1=>S1.Af λb2 w2 S2 e2=>Ns (h.ext S2.upd) λw3 e3=>(S2.ext e3).Af λb4 w4 S4 e4=>?_;have S4:St (λ_=>False) w w4 [(b4,Cf2 (noP 1)),(b2,Jg ((0,0,0),0)),(b1,Kr kind count arg)]:=S4;have ss:=Ws (Nl A x false);unfold Aa1 at hK;dsimp only at hK;obtain ⟨s,hs⟩:∃s,Ak A x false=s:=⟨_,rfl⟩;rw [hs] at hK ss;rw [hs];have hsc:=ss.clamp;obtain ⟨l,hl⟩:∃l,goP A (s:Int) kind count arg=l:=⟨_,rfl⟩;rw [hl] at hK;unfold goP at hl;refine Ae (λy V=>y=(l.2,())/\∃kd,(kd=kind\/(kind=60/\kd=15))/\St (λ_=>False) w V [(b4,Cf2 l),(b2,Jg ((0,0,0),0)),(b1,Kr kd count arg)]) ?_ ?_
 ·refine S4.ld (off:=0) 2 rfl (x:=kind) rfl ?_;have two:∀{lo hi:Int} {V:World},join (S:=Bool×Unit) (λJ8=>sif (decide (kind>=lo)) (J8 (decide (kind<=hi),())) (J8 (false,())))=join (S:=Bool×Unit) (λJ8=>sif (decide (kind>=lo)) (J8 (decide (kind<=hi),())) (J8 (false,()))):=rfl;have rng:∀{lo hi:Int} {V:World} {B C:World->Prop},(lo<=kind/\kind<=hi->B V)->(¬(lo<=kind/\kind<=hi)->C V)->join (S:=Bool×Unit) (λJ8=>sif (decide (kind>=lo)) (J8 (decide (kind<=hi),())) (J8 (false,()))) (λs9=>sif s9.1 B C) V:=λ{lo hi V B C} hB hC=>by
   refine Ae (λy V'=>y=(decide (lo<=kind/\kind<=hi),())/\V=V') ?_ ?_
   ·refine Ac (λh1=>⟨Az ?_,rfl⟩) (λh1=>⟨Az ?_,rfl⟩)
    ·simp only [iI,jT] at h1 ⊢
     exact ⟨λhh=>⟨h1,hh⟩,λhh=>hh.2⟩
    ·simp only [iH,jT] at h1
     simp only [dO,iI,lS]
     exact λhh=>h1 hh.1
   ·rintro _ _ ⟨rfl,rfl⟩
    exact Ac (λhc=>hB (cO hc)) (λhc=>hC (pW hc))
  refine rng (λhc=>?_) (λhc=>?_);{rw [aF hc] at hl;refine S4.lds 2 (mvM kind count arg) rfl (Yp (h.ext S4.upd) λw5 e5=>?_);rw [hl];exact (S4.ext e5).Ad 0 rfl rfl rfl rfl λw6 S6 _=>⟨rfl,kind,.inl rfl,S6⟩};rw [aJ hc] at hl;refine rng (λhc=>?_) (λhc=>?_);{rw [aF hc] at hl;refine S4.drew λw5 S5 e5 _=>S5.lds 2 (mvM kind count arg) rfl (Qp (h.ext S5.upd) λw6 e6=>?_);have S6:=S5.ext e6;refine S6.keeps 2 (x:=mvM kind count arg) rfl (I8 (h.ext S6.upd) λw7 e7=>?_);rw [hl];exact (S6.ext e7).Ad 0 rfl rfl rfl rfl λw6 S6 _=>⟨rfl,kind,.inl rfl,S6⟩};rw [aJ hc] at hl;refine Ac (λhc=>?_) (λhc=>?_);{rw [jM] at hc;rw [aF hc] at hl;refine S4.stC (off:=0) 2 rfl (by show 0<3;decide) λw5 S5 _=>?_;have S5:St (λ_=>False) w w5 [(b4,Cf2 (noP 1)),(b2,Jg ((0,0,0),0)),(b1,Kr 15 count arg)]:=S5;refine S5.lds 2 (mvM 15 count arg) rfl (I8 (h.ext S5.upd) λw6 e6=>?_);rw [hl];exact (S5.ext e6).Ad 0 rfl rfl rfl rfl λw6 S6 _=>⟨rfl,15,.inr ⟨hc,rfl⟩,S6⟩};rw [jO] at hc;rw [aJ hc] at hl;refine rng (λhc=>?_) (λhc=>?_);{rw [aF hc] at hl;refine S4.lds 2 (mvM kind count arg) rfl (Ae8 (h.ext S4.upd) λw5 e5=>?_);rw [hl];exact (S4.ext e5).Ad 0 rfl rfl rfl rfl λw6 S6 _=>⟨rfl,kind,.inl rfl,S6⟩};rw [aJ hc] at hl;refine rng (λhc=>?_) (λhc=>?_);{rw [aF hc] at hl;refine S4.lds 2 (mvM kind count arg) rfl (Ae9 (h.ext S4.upd) λw5 e5=>?_);rw [hl];exact (S4.ext e5).Ad 0 rfl rfl rfl rfl λw6 S6 _=>⟨rfl,kind,.inl rfl,S6⟩};rw [aJ hc] at hl;rw [←hl];exact ⟨rfl,kind,.inl rfl,S4⟩
 rintro _ w5 ⟨rfl,kd,hkd,S5⟩;refine Ac (λhz=>?_) (λhz=>?_);{have hz:l.2≠0:=(by simpa using hz);rw [aF hz] at hK;exact Me (l:=noP l.2) (o:=Jg ((0,0,0),0)) (i:=1) S5 rfl hK};have hz:l.2=0:=(by simpa using hz);rw [aJ (by omega)] at hK;refine Ae (λ_ V=>¬((kind=21\/kind=25)/\ofI A (Mc A s (decide (kind=25)) (kOf count):Int)<ofI A l.1.1)/\St (λ_=>False) w V [(b4,Cf2 l),(b2,Jg ((0,0,0),0)),(b1,Kr kd count arg)]) ?_ ?_;{refine Ae (λy V=>y=(decide (kind=21\/kind=25),())/\w5=V) ?_ ?_;{refine S5.ld (off:=0) 2 rfl (x:=kd) rfl (Ac (λh1=>⟨Az ?_,rfl⟩) (λh1=>S5.ld (off:=0) 2 rfl (x:=kd) rfl ⟨Az ?_,rfl⟩));{simp only [jM] at h1;simp only [lQ,iI];omega};{simp only [jO,ne_eq] at h1;simp only [jM,iI];omega}};rintro _ _ ⟨rfl,rfl⟩;refine Ac (λhc=>?_) (λhc=>?_);{have hc:=cO hc;have hkd:kd=kind:=(by omega);subst hkd;refine S5.ld (off:=0) 0 rfl (x:=l.1.1) rfl (S5.lds 2 (mvM kd count arg) rfl (Bb2 (h.ext S5.upd) hsc λw6 e6=>?_));have S6:=S5.ext e6;refine Ac (λhd=>?_) (λhd=>?_);{have hd:=cO hd;rw [aF ⟨hc,hd⟩] at hK;exact Me (l:=(((s:Int),((Aq A (ofI A (Mc A s (decide (kd=25)) (kOf count):Int))).to_:Int),0),0)) (o:=Jg ((0,0,0),0)) (i:=1) S6 rfl hK};{have hd:=pW hd;exact ⟨λhh=>hd hh.2,S6⟩}};{have hc:=pW hc;exact ⟨λhh=>hc hh.1,S5⟩}};rintro _ w6 ⟨hn,S6⟩;rw [aJ hn] at hK;refine S6.ld (off:=0) 0 rfl (x:=l.1.1) rfl (S6.ld (off:=1) 0 rfl (x:=l.1.2.1) rfl (Y8 (h.ext S6.upd) λw7 e7=>?_));exact Me (o:=Jg ((0,0,0),0)) (i:=1) (S6.ext e7) rfl hK
end
def Qm:Option Nat->Int
 |none=>-1
 |some j=>(j:Int)
section
variable {w w':World}{q:Nat}{A:List Int}{i:Nat}
theorem Bg1 {y:Sl}(hy:Kw w y A i) (hyl:y.len=(Ag A i).length) (hs:(Ag A i).length<=1048576){c k:Nat}{a:Int}(hc:c<=(Ag A i).length) (hk:1<=k/\k<=9999){K:Int->Wp}(hK:K (Qm (Hf (Ag A i) a (upL (Ag A i).length c) k)) w) :
  Aa Tryz.prog 95 #[y.v,.int .i64 (c:Int),.int .i64 1,.int .i64 (k:Int),.int .i64 a] rI K w:=by refine A95 ?_;unfold F95;rw [Bu9] at hK;obtain ⟨n,hn⟩:∃n,(Ag A i).length=n:=⟨_,rfl⟩;rw [hn] at hyl hs hc hK;obtain ⟨tg,htg⟩:∃tg,upF (Vq A i a) (c+1) n k=tg:=⟨_,rfl⟩;rw [htg] at hK;refine Ae (λ_ W=>w=W/\tg=none) ?_ (by rintro _ _ ⟨rfl,rfl⟩;exact hK);rw [Qy (by omega)];refine Ba (λx W=>∃j k':Nat,x=((k':Int),(j:Int),())/\w=W/\j<=n+1/\1<=k'/\k'<=9999/\upF (Vq A i a) j n k'=tg) (λx _=>((n:Int)+1-x.2.1).toNat) ⟨c+1,k,rfl,rfl,by omega,hk.1,hk.2,htg⟩ ?_;rintro _ _ ⟨j,k',rfl,rfl,hj,hk1,hk2,hu⟩;dsimp only;refine Ae (λx W=>x=(decide (j<n),())/\w=W) (Ac (λ_=>⟨Az ?_,rfl⟩) (λhc=>by simp only [iH] at hc;omega)) ?_;{simp only [iI];omega};rintro _ _ ⟨rfl,rfl⟩;refine Ac (λhc=>?_) (λhc=>?_);{have hc:=cO hc;obtain ⟨x,hx⟩:=Dk (C:=Ag A i) (j:=j) (by omega);have hh:=Ab7 (a:=a) hx;rw [Qy (by omega),show W64 ((k':Int)-1)=((k'-1:Nat):Int) by rw [wrap64 (by omega) (by omega)];omega];refine Ae (λz W=>z=(((if x.atom=a then k'-1 else k':Nat):Int),())/\w=W/\(x.atom=a->k'≠1)) ?_ ?_;{refine At3 hy hx λp=>Ac (λhe=>?_) (λhe=>?_);{rw [jM] at he;rw [jP he] at hh;refine Ac (λh1=>?_) (λh1=>⟨by rw [aF he],rfl,λ_=>?_⟩);{rw [jM] at h1;obtain rfl:k'=1:=(by omega);rw [Ag6 hc hh] at hu;rw [←hu] at hK;exact hK};{rw [jO] at h1;omega}};{rw [jO] at he;exact ⟨by rw [aJ he],rfl,λhh=>absurd hh he⟩}};rintro _ _ ⟨rfl,rfl,h1⟩;refine ⟨⟨j+1,if x.atom=a then k'-1 else k',rfl,rfl,by omega,by split<;>omega,by split<;>omega,?_⟩,by omega⟩;by_cases he:x.atom=a;{have:=h1 he;rw [jP he] at hh;have hm:=O4 (k:=k'-1) hc hh (by omega);rw [show k'-1+1=k' by omega] at hm;rw [aF he,←hm];exact hu};{rw [jQ he] at hh;rw [aJ he,←Ay0 hc hh];exact hu}};{have hc:=pW hc;refine ⟨rfl,?_⟩;rw [←hu];exact O1 (by omega)}
theorem Ba2 {y:Sl}(hy:Kw w y A i) (hyl:y.len=(Ag A i).length) (hs:(Ag A i).length<=1048576){c k:Nat}{a:Int}(hc:c<=(Ag A i).length) (hk:1<=k/\k<=9999){K:Int->Wp}(hK:K (Qm (Hf (Ag A i) a (Ob c) k)) w) :
  Aa Tryz.prog 95 #[y.v,.int .i64 (c:Int),.int .i64 (-1),.int .i64 (k:Int),.int .i64 a] rI K w:=by refine A95 ?_;unfold F95;rw [Bv1] at hK;obtain ⟨n,hn⟩:∃n,(Ag A i).length=n:=⟨_,rfl⟩;rw [hn] at hyl hs hc;obtain ⟨tg,htg⟩:∃tg,dnF (Vq A i a) c k=tg:=⟨_,rfl⟩;rw [htg] at hK;refine Ae (λ_ W=>w=W/\tg=none) ?_ (by rintro _ _ ⟨rfl,rfl⟩;exact hK);(have e0:W64 ((c:Int)+(-1))=(c:Int)-1:=by rw [wrap64 (by omega) (by omega)];omega);rw [e0];refine Ba (λx W=>∃m k':Nat,x=((k':Int),(m:Int)-1,())/\w=W/\m<=n/\1<=k'/\k'<=9999/\dnF (Vq A i a) m k'=tg) (λx _=>(x.2.1+1).toNat) ⟨c,k,rfl,rfl,hc,hk.1,hk.2,htg⟩ ?_;rintro _ _ ⟨m,k',rfl,rfl,hj,hk1,hk2,hu⟩;dsimp only;refine Ae (λx W=>x=(decide (0<m),())/\w=W) (Ac (λhc=>⟨Az ?_,rfl⟩) (λhc=>⟨Az ?_,rfl⟩)) ?_;{simp only [iI,jT] at hc ⊢;omega};{simp only [iH,jT] at hc;simp only [dO,iI,lS];omega};rintro _ _ ⟨rfl,rfl⟩;refine Ac (λhc=>?_) (λhc=>?_);{have hc:=cO hc;obtain ⟨j,rfl⟩:∃j,m=j+1:=⟨m-1,by omega⟩;have ej:((j+1:Nat):Int)-1=(j:Int):=(by omega);rw [ej];obtain ⟨x,hx⟩:=Dk (C:=Ag A i) (j:=j) (by omega);have hh:=Ab7 (a:=a) hx;rw [show W64 ((j:Int)+(-1))=(j:Int)-1 by rw [wrap64 (by omega) (by omega)];omega,show W64 ((k':Int)-1)=((k'-1:Nat):Int) by rw [wrap64 (by omega) (by omega)];omega];refine Ae (λz W=>z=(((if x.atom=a then k'-1 else k':Nat):Int),())/\w=W/\(x.atom=a->k'≠1)) ?_ ?_;{refine At3 hy hx λp=>Ac (λhe=>?_) (λhe=>?_);{rw [jM] at he;rw [jP he] at hh;refine Ac (λh1=>?_) (λh1=>⟨by rw [aF he],rfl,λ_=>?_⟩);{rw [jM] at h1;obtain rfl:k'=1:=(by omega);rw [Ah9 hh] at hu;rw [←hu] at hK;exact hK};{rw [jO] at h1;omega}};{rw [jO] at he;exact ⟨by rw [aJ he],rfl,λhh=>absurd hh he⟩}};rintro _ _ ⟨rfl,rfl,h1⟩;refine ⟨⟨j,if x.atom=a then k'-1 else k',rfl,rfl,by omega,by split<;>omega,by split<;>omega,?_⟩,by omega⟩;by_cases he:x.atom=a;{have:=h1 he;rw [jP he] at hh;have hm:=X6 (k:=k'-1) hh (by omega);rw [show k'-1+1=k' by omega] at hm;rw [aF he,←hm];exact hu};{rw [jQ he] at hh;rw [aJ he,←Bb8 hh];exact hu}};{have hc:=pW hc;refine ⟨rfl,?_⟩;rw [←hu,show m=0 by omega];exact Bi9}
theorem O5 {kind a b:Int}{W:World}{B C:World->Prop}(hB:kind=a\/kind=b->B W) (hC:¬(kind=a\/kind=b)->C W):join (S:=Bool×Unit) (λJ=>sif (kind==a) (J ((kind==a),())) (J ((kind==b),()))) (λs=>sif s.1 B C) W:=by refine Ae (λx V=>x=(decide (kind=a\/kind=b),())/\W=V) (Ac (λhc=>⟨Az ?_,rfl⟩) (λhc=>⟨Az ?_,rfl⟩)) ?_;{rw [jM] at hc;simp only [jM,iI];exact ⟨λh=>.inl h,λ_=>hc⟩};{rw [jO] at hc;simp only [jM,iI];exact ⟨λh=>.inr h,λh=>h.resolve_left hc⟩};{rintro _ _ ⟨rfl,rfl⟩;exact Ac (λhc=>hB (cO hc)) (λhc=>hC (pW hc))}
theorem Bo8 (A:List Int) (i:Nat) (c:Int):Aw A i (max c 0)=Aw A i c:=by unfold Aw;rw [show (max c 0).toNat=c.toNat by omega]
set_option maxHeartbeats 2000000 in
theorem Ae4 (h:Gq w q A){x kind count arg:Int}{past:Bool}{K:LdT->Wp}(hK:∀w',Ext w w'->K (ldT (Dh A x kind count arg past)) w') :
  Aa Tryz.prog 41 #[.pointer (some (at0 q)),.int .i64 x,.agg (Cells.vals c48 (mvM kind count arg)).toArray,.bool past] (.tup [(.agg c83),(.one (.int .i64))]) K w:=by
 refine A41 (a2:=mvM kind count arg) ?_;unfold F41;have hA:=h.len;have hbl:=Gl A;have hb:=Bc A;refine (St.start w).Af λb1 w1 S1 e1=>S1.Af λb2 w2 S2 e2=>?_;have S2:St (λ_=>False) w w2 [(b2,ldZ),(b1,Kr kind count arg)]:=S2;have h2:=h.ext S2.upd;have hle:=Y0 A x past;have hro:=U7 A x past;have hcr:=Dy A x past;unfold Dh at hK;dsimp only at hK;rw [hcr,←hro] at hK;refine Ik h2 (Ib h2 hle ?_);have hi:=Ho A (Ak A x past);have hcol:Xh A (Ak A x past:Int)=Dj (Ag A (nb A (Ak A x past))) (Ak A x past:Int):=by
  unfold Xh ofI;rw [Ut hle]
 refine h2.Xp hi λs0 p0 y hy hyl=>Vg h2 λw3 e3=>?_;rw [hcol];obtain ⟨s,hs⟩:∃s,Ak A x past=s:=⟨_,rfl⟩;rw [hs] at hK hi hle hy hyl;rw [hs];obtain ⟨i,hi'⟩:∃i,nb A s=i:=⟨_,rfl⟩;rw [hi'] at hK hi hy hyl;rw [hi'];have hfl:=Qu (Ag A i) (s:Int);obtain ⟨c,hc⟩:∃c,Dj (Ag A i) (s:Int)=c:=⟨_,rfl⟩;rw [hc] at hK hfl;rw [hc];have hcl:=Ht hi;have ok:=Cb hi;have tn:=ok.tn;have nl:=ok.nl;have hkr:=Zo count;have S3:=S2.ext e3;refine S3.lds 1 (mvM kind count arg) rfl (Px λw4 e4=>?_);have S4:=S3.ext e4;have h4:=h.ext S4.upd;have hy4:=(hy.ext e3).ext e4;obtain ⟨k,hk⟩:∃k,kOf count=k:=⟨_,rfl⟩;rw [hk] at hK hkr;rw [hk];obtain ⟨n,hn⟩:∃n,(Ag A i).length=n:=⟨_,rfl⟩;rw [hn] at hK hyl hfl hcl;obtain ⟨most,hm⟩:∃most,(if past=true then n else n-1)=most:=⟨_,rfl⟩;rw [hm] at hK;have hmn:most<=n:=(by split at hm<;>omega);refine Ae (λz W=>z=((most:Int),())/\w4=W) ?_ ?_
 ·refine Ae (λz W=>z=(decide (past=false/\0<n),())/\w4=W) ?_ ?_
  ·cases past with
   |true=>exact Ah ⟨by simp,rfl⟩
   |false=>refine Bh ⟨Az ?_,rfl⟩;simp only [iI,kG,qH];omega
  rintro _ _ ⟨rfl,rfl⟩;refine Ac (λhp=>⟨?_,rfl⟩) (λhp=>⟨?_,rfl⟩);{obtain ⟨p1,p2⟩:=cO hp;rw [aJ (by rw [p1];decide)] at hm;rw [wrap64 (by omega) (by omega)];congr 1;omega}
  ·have hp:=pW hp;congr 1;cases past with
   |true=>rw [aF rfl] at hm;omega
   |false=>rw [aJ (by decide)] at hm;have:¬0<n:=λhh=>hp ⟨rfl,hh⟩;omega
 rintro _ _ ⟨rfl,rfl⟩;have fno:∀{e:Int} {W:World},St (λ_=>False) w W [(b2,ldZ),(b1,Kr kind count arg)]->(∀w',Ext w w'->K (ldT (noP e)) w')->Aa Tryz.prog 92 #[.int .i64 e] (.tup [(.agg c83),(.one (.int .i64))]) (λz=>Ad (at0 b2) (.agg (Cells.vals c83 z.1).toArray) 3 (lds c83 (at0 b2) λy=>K (y,z.2.1,()))) W:=λS hk=>Yc λw5 e5=>Ih (S.ext e5) hk;have fland:∀{m:Nat} {kd:Int} {W:World},St (λ_=>False) w W [(b2,ldZ),(b1,Kr kind count arg)]->(∀w',Ext w w'->K (ldT (Bz A m kd)) w')->Aa Tryz.prog 93 #[.pointer (some (at0 q)),.int .i64 (m:Int),.int .i64 kd] (.tup [(.agg c83),(.one (.int .i64))]) (λz=>Ad (at0 b2) (.agg (Cells.vals c83 z.1).toArray) 3 (lds c83 (at0 b2) λy=>K (y,z.2.1,()))) W:=λS hk=>Xa (h.ext S.upd) λw5 e5=>Ih (S.ext e5) hk;refine S4.ld (off:=0) 1 rfl (x:=kind) rfl (Ac (λhk1=>?_) (λhk1=>?_));{rw [jM] at hk1;rw [aF hk1] at hK;refine Ac (λh0=>?_) (λh0=>?_);{rw [jM] at h0;rw [aF (by omega)] at hK;exact fno S4 hK};{rw [jO] at h0;rw [aJ (by omega)] at hK;have ew:W64 ((c:Int)-(k:Int))=(c:Int)-k:=wrap64 (by omega) (by omega);have em:(if (0:Int)>(c:Int)-k then (0:Int) else (c:Int)-k)=max ((c:Int)-k) 0:=(by split<;>omega);rw [ew,em];refine Iu h4 hi (by omega) ?_;rw [Bo8];exact fland S4 hK}};rw [jO] at hk1;rw [aJ hk1] at hK;refine Ac (λhk1=>?_) (λhk1=>?_);{rw [jM] at hk1;rw [aF hk1] at hK;refine Ac (λh0=>?_) (λh0=>?_);{rw [jM] at h0;rw [aF (by omega)] at hK;exact fno S4 hK};{rw [jO] at h0;rw [aJ (by omega)] at hK;have ew:W64 ((c:Int)+(k:Int))=(c:Int)+k:=wrap64 (by omega) (by omega);have em:(if (most:Int)<(c:Int)+k then (most:Int) else (c:Int)+k)=min ((c:Int)+k) most:=(by split<;>omega);rw [ew,em];exact Iu h4 hi (by omega) (fland S4 hK)}};rw [jO] at hk1;rw [aJ hk1] at hK;refine Ac (λhk1=>?_) (λhk1=>?_);{rw [jM] at hk1;rw [aF hk1] at hK;refine Iu h4 hi (by omega) ?_;rw [Nq hi];exact fland S4 hK};rw [jO] at hk1;rw [aJ hk1] at hK;refine Ac (λhk1=>?_) (λhk1=>?_);{rw [jM] at hk1;rw [aF hk1] at hK;exact Al6 h4 hi (fland S4 hK)};rw [jO] at hk1;rw [aJ hk1] at hK;refine Ac (λhk1=>?_) (λhk1=>?_);{rw [jM] at hk1;rw [aF hk1] at hK;obtain ⟨j,hj⟩:∃j,(if i<lnN A-1/\1<k then min (i+k-1) (lnN A-1) else i)=j:=⟨_,rfl⟩;rw [hj] at hK;have hjb:j<=brs A:=(by split at hj<;>omega);have ew1:W64 ((lnN A:Int)-1)=(lnN A:Int)-1:=wrap64 (by omega) (by omega);have ew2:W64 ((i:Int)+(k:Int))=(i:Int)+k:=wrap64 (by omega) (by omega);have ew3:W64 ((i:Int)+k-1)=(i:Int)+k-1:=wrap64 (by omega) (by omega);refine Ae (λz W=>z=((j:Int),())/\w4=W) (h4.Oe (Ac (λhc=>h4.Oe ⟨?_,rfl⟩) (λhc=>⟨?_,rfl⟩))) ?_;{simp only [iI] at hc;dsimp only;rw [ew1,ew2,ew3];congr 1;split<;>split at hj<;>omega};{simp only [iH] at hc;congr 1;split at hj<;>omega};rintro _ _ ⟨rfl,rfl⟩;exact Oq h4 hjb (Ih (l:=((((Aw A j (((Ag A j).length:Int)-1):Nat):Int),1,100000),0)) S4 hK)};rw [jO] at hk1;rw [aJ hk1] at hK;refine Ac (λhk1=>?_) (λhk1=>?_);{rw [jM] at hk1;rw [aF hk1] at hK;have ew:W64 ((k:Int)-1)=(k:Int)-1:=wrap64 (by omega) (by omega);have em:(if (most:Int)<(k:Int)-1 then (most:Int) else (k:Int)-1)=min ((k:Int)-1) most:=(by split<;>omega);rw [ew,em];exact Iu h4 hi (by omega) (fland S4 hK)};rw [jO] at hk1;rw [aJ hk1] at hK;refine O5 (λhk1=>?_) (λhk1=>?_)
 ·rw [aF hk1] at hK;refine S4.ld (off:=2) 1 rfl (x:=arg) rfl (Bg1 hy4 (by omega) (by omega) (by omega) hkr ?_);rw [hn];cases hsk:Hf (Ag A i) arg (upL n c) k with
  |none=>rw [hsk] at hK;exact Bh (fno S4 hK)
  |some j=>rw [hsk] at hK;dsimp only at hK;have hjb:c+1<=j/\j<n:=Bv0 hsk;rw [show Qm (some j)=(j:Int) from rfl];refine Ac (λhc=>by simp only [iI] at hc;omega) (λ_=>?_);refine Ae (λz W=>z=((if kind=9 then (j:Int)-1 else (j:Int)),())/\w4=W) (S4.ld (off:=0) 1 rfl (x:=kind) rfl (Ac (λh9=>⟨?_,rfl⟩) (λh9=>⟨?_,rfl⟩))) ?_;{rw [jM] at h9;rw [aF h9];congr 1;exact wrap64 (by omega) (by omega)};{rw [jO] at h9;rw [aJ h9]};rintro _ _ ⟨rfl,rfl⟩;exact Iu h4 hi (by dsimp only;split<;>omega) (fland S4 hK)
 rw [aJ hk1] at hK;refine O5 (λhk1=>?_) (λhk1=>?_)
 ·rw [aF hk1] at hK;refine S4.ld (off:=2) 1 rfl (x:=arg) rfl (Ba2 hy4 (by omega) (by omega) (by omega) hkr ?_);cases hsk:Hf (Ag A i) arg (Ob c) k with
  |none=>rw [hsk] at hK;exact Bh (fno S4 hK)
  |some j=>rw [hsk] at hK;dsimp only at hK;have hjb:j<c:=Bf0 hsk;rw [show Qm (some j)=(j:Int) from rfl];refine Ac (λhc=>by simp only [iI] at hc;omega) (λ_=>?_);refine Ae (λz W=>z=((if kind=10 then (j:Int)+1 else (j:Int)),())/\w4=W) (S4.ld (off:=0) 1 rfl (x:=kind) rfl (Ac (λh9=>⟨?_,rfl⟩) (λh9=>⟨?_,rfl⟩))) ?_;{rw [jM] at h9;rw [aF h9];congr 1;exact wrap64 (by omega) (by omega)};{rw [jO] at h9;rw [aJ h9]};rintro _ _ ⟨rfl,rfl⟩;exact Iu h4 hi (by dsimp only;split<;>omega) (fland S4 hK)
 rw [aJ hk1] at hK;exact fno S4 hK
theorem Ai9 {l l':Int}(h:Eo A l=Eo A l') (g:Int):Qc A l g=Qc A l' g:=by unfold Qc Yd;rw [h]
theorem Jk {l l':Int}(h:Eo A l=Eo A l'):Gf A l=Gf A l':=by unfold Gf;rw [h]
theorem Cf0 {L:Nat}(h:L<lnN A):Eo A (L:Int)=L:=by unfold Eo;omega
set_option maxHeartbeats 2000000 in
theorem I5 (h:Gq w q A){x goal kind count arg:Int}{K:LdT->Wp}(hK:∀w',Ext w w'->K (ldT (Eu A x goal kind count)) w') :
  Aa Tryz.prog 44 #[.pointer (some (at0 q)),.int .i64 x,.int .i64 goal,.agg (Cells.vals c48 (mvM kind count arg)).toArray] (.tup [(.agg c83),(.one (.int .i64))]) K w:=by refine A44 (a3:=mvM kind count arg) ?_;unfold F44;have hA:=h.len;have hbl:=Gl A;have hb:=Bc A;refine (St.start w).Af λb1 w1 S1 e1=>S1.Af λb2 w2 S2 e2=>?_;have S2:St (λ_=>False) w w2 [(b2,ldZ),(b1,Kr kind count arg)]:=S2;have h2:=h.ext S2.upd;have hle:=Y0 A x false;have hro:=U7 A x false;have hcr:=Dy A x false;have hlt:=Ah3 A x;obtain ⟨v,hv⟩:∃v,Eu A x goal kind count=v:=⟨_,rfl⟩;rw [hv] at hK;unfold Eu at hv;dsimp only at hv;rw [hcr,←hro] at hv;rw [←hro] at hlt;refine Ik h2 (Ib h2 hle (h2.Oe ?_));obtain ⟨i,hi'⟩:∃i,nb A (Ak A x false)=i:=⟨_,rfl⟩;rw [hi'] at hv hlt;rw [hi'];obtain ⟨g,hg⟩:∃g,max goal 0=g:=⟨_,rfl⟩;rw [hg] at hv;refine Ae (λz W=>z=(g,())/\w2=W) (Ac (λhc=>⟨?_,rfl⟩) (λhc=>⟨?_,rfl⟩)) ?_;{simp only [iI] at hc;rw [show g=0 by omega]};{simp only [iH] at hc;rw [show g=goal by omega]};rintro _ _ ⟨rfl,rfl⟩;have hkr:=Zo count;refine S2.lds 1 (mvM kind count arg) rfl (Px λw4 e4=>?_);have S4:=S2.ext e4;have h4:=h.ext S4.upd;obtain ⟨k,hk⟩:∃k,kOf count=k:=⟨_,rfl⟩;rw [hk] at hv hkr;rw [hk];have fno:∀{e:Int} {W:World},St (λ_=>False) w W [(b2,ldZ),(b1,Kr kind count arg)]->v=noP e->Aa Tryz.prog 92 #[.int .i64 e] (.tup [(.agg c83),(.one (.int .i64))]) (λz=>Ad (at0 b2) (.agg (Cells.vals c83 z.1).toArray) 3 (lds c83 (at0 b2) λy=>K (y,z.2.1,()))) W:=λS hk=>Yc λw5 e5=>Ih (S.ext e5) (by rw [←hk];exact hK);(have ew1:W64 ((lnN A:Int)-1)=((lnN A-1:Nat):Int):=by rw [wrap64 (by omega) (by omega)];omega);have ew2:W64 ((i:Int)+(k:Int))=(i:Int)+k:=wrap64 (by omega) (by omega);have ew3:W64 ((i:Int)-(k:Int))=(i:Int)-k:=wrap64 (by omega) (by omega);have ew4:W64 ((i:Int)+k-1)=(i:Int)+k-1:=wrap64 (by omega) (by omega);have ew5:W64 ((k:Int)-1)=(k:Int)-1:=wrap64 (by omega) (by omega);rw [ew1,ew2,ew3,ew4,ew5];refine Ae (λz W=>∃L:Nat,z=((L:Int),())/\L<lnN A/\v=(if kind=11\/kind=12 then Qc A (L:Int) g else Gf A (L:Int))/\w4=W) ?_ ?_;{refine S4.ld (off:=0) 1 rfl (x:=kind) rfl (O5 (λhk1=>?_) (λhk1=>?_));{refine Ac (λh0=>?_) (λh0=>?_);{rw [jM] at h0;refine fno S4 ?_;rw [←hv];rcases hk1 with hk1|hk1;{rw [aF hk1,aF (by omega)]};{rw [aJ (by omega),aJ (by omega),aF hk1,aF (by omega)]}};{rw [jO] at h0;(have hl:Eo A ((i:Int)+k)=Eo A ((min (i+k) (lnN A-1):Nat):Int):=by unfold Eo;omega);refine ⟨min (i+k) (lnN A-1),?_,by omega,?_,rfl⟩;{congr 1;split<;>omega};{rw [←hv];rcases hk1 with hk1|hk1;{rw [aF hk1,aJ (by omega),aF (.inl hk1),Ai9 hl]};{rw [aJ (by omega),aJ (by omega),aF hk1,aJ (by omega),aJ (by omega),Jk hl]}}}};refine O5 (λhk2=>?_) (λhk2=>?_);{refine Ac (λh0=>?_) (λh0=>?_);{rw [jM] at h0;refine fno S4 ?_;rw [←hv];rcases hk2 with hk2|hk2;{rw [aJ (by omega),aF hk2,aF (by omega)]};{rw [aJ (by omega),aJ (by omega),aJ (by omega),aF hk2,aF (by omega)]}};{rw [jO] at h0;(have hl:Eo A ((i:Int)-k)=Eo A ((i-k:Nat):Int):=by unfold Eo;omega);refine ⟨i-k,?_,by omega,?_,rfl⟩;{congr 1;split<;>omega};{rw [←hv];rcases hk2 with hk2|hk2;{rw [aJ (by omega),aF hk2,aJ (by omega),aF (.inr hk2),Ai9 hl]};{rw [aJ (by omega),aJ (by omega),aJ (by omega),aF hk2,aJ (by omega),aJ (by omega),Jk hl]}}}};rw [aJ (by omega),aJ (by omega),aJ (by omega),aJ (by omega)] at hv;refine Ac (λhk3=>?_) (λhk3=>?_);{rw [jM] at hk3;rw [aF hk3] at hv;(have hl:Eo A ((i:Int)+k-1)=Eo A ((min (i+k-1) (lnN A-1):Nat):Int):=by unfold Eo;omega);refine ⟨min (i+k-1) (lnN A-1),?_,by omega,?_,rfl⟩;{congr 1;split<;>omega};{rw [aJ (by omega),←Jk hl];exact hv.symm}};rw [jO] at hk3;rw [aJ hk3] at hv;refine Ac (λhk4=>?_) (λhk4=>?_);{rw [jM] at hk4;rw [aF hk4] at hv;refine Ac (λhct=>?_) (λhct=>?_);{have hct:=cO hct;rw [aF hct] at hv;(have hl:Eo A ((k:Int)-1)=Eo A ((min (k-1) (lnN A-1):Nat):Int):=by unfold Eo;omega);refine ⟨min (k-1) (lnN A-1),?_,by omega,?_,rfl⟩;{congr 1;split<;>omega};{rw [aJ (by omega),←Jk hl];exact hv.symm}};{have hct:=pW hct;rw [aJ hct] at hv;(have hl:Eo A (lnN A:Int)=Eo A ((lnN A-1:Nat):Int):=by unfold Eo;omega);refine ⟨lnN A-1,rfl,by omega,?_,rfl⟩;rw [aJ (by omega),←Jk hl];exact hv.symm}};rw [jO] at hk4;rw [aJ hk4] at hv;refine Ac (λhk5=>?_) (λhk5=>?_);{rw [jM] at hk5;rw [aF hk5] at hv;(have hl:Eo A ((k:Int)-1)=Eo A ((min (k-1) (lnN A-1):Nat):Int):=by unfold Eo;omega);refine ⟨min (k-1) (lnN A-1),?_,by omega,?_,rfl⟩;{congr 1;split<;>omega};{rw [aJ (by omega),←Jk hl];exact hv.symm}};rw [jO] at hk5;rw [aJ hk5] at hv;refine Ac (λhk6=>?_) (λhk6=>?_);{rw [jM] at hk6;rw [aF hk6] at hv;refine Ae (λz W=>z=(decide (count<=0\/100<k),())/\w4=W) (Ac (λhc=>⟨Az ?_,rfl⟩) (λhc=>⟨Az ?_,rfl⟩)) ?_;{simp only [dX,iH] at hc;simp only [lQ,iI];omega};{simp only [nP,iI] at hc;simp only [iI,kG];omega};rintro _ _ ⟨rfl,rfl⟩;refine Ac (λhc=>?_) (λhc=>?_);{rw [aF (cO hc)] at hv;exact fno S4 hv.symm};{have hc:=pW hc;rw [aJ hc] at hv;refine h4.Oe (Dc (by decide) ?_);have hk100:k<=100:=(by omega);have hm:k*lnN A<=100*lnN A:=fV _ hk100;obtain ⟨m,hmm⟩:∃m,k*lnN A=m:=⟨_,rfl⟩;(have hm1:lnN A<=m:=by rw [←hmm];exact Nat.le_mul_of_pos_left _ (by omega));(have hmi:(k:Int)*(lnN A:Int)=(m:Int):=by rw [←hmm];exact (jJ _ _).symm);rw [hmm] at hv hm;(have e1:W64 ((k:Int)*(lnN A:Int))=(m:Int):=by rw [hmi];exact wrap64 (by omega) (by omega));(have e2:W64 ((m:Int)+99)=((m+99:Nat):Int):=by rw [wrap64 (by omega) (by omega)];omega);(have e3:Int.tdiv ((m+99:Nat):Int) 100=(((m+99)/100:Nat):Int):=by rw [kF (by omega)];omega);have e4:W64 (((m+99)/100:Nat):Int)=(((m+99)/100:Nat):Int):=wrap64 (by omega) (by omega);(have e5:W64 ((((m+99)/100:Nat):Int)-1)=(((m+99)/100-1:Nat):Int):=by rw [wrap64 (by omega) (by omega)];omega);dsimp only;rw [e1,e2,e3,e4,e5];refine ⟨(m+99)/100-1,rfl,by omega,?_,rfl⟩;rw [aJ (by omega),←hv];refine Jk ?_;congr 1;omega}};{rw [jO] at hk6;rw [aJ hk6] at hv;exact fno S4 hv.symm}};rintro _ _ ⟨L,rfl,hL,hvv,rfl⟩;refine Ae (λz W=>z=(decide (kind=11\/kind=12),())/\w4=W) ?_ ?_;{refine S4.ld (off:=0) 1 rfl (x:=kind) rfl (Ac (λh1=>⟨Az ?_,rfl⟩) (λh1=>S4.ld (off:=0) 1 rfl (x:=kind) rfl ⟨Az ?_,rfl⟩));{rw [jM] at h1;simp only [lQ,iI];omega};{rw [jO] at h1;simp only [jM,iI];omega}};rintro _ _ ⟨rfl,rfl⟩;refine Ac (λhc=>?_) (λhc=>?_);{rw [aF (cO hc)] at hvv;rw [hvv] at hK;exact Ae2 h4 (Ih (l:=Qc A (L:Int) g) S4 hK)};{rw [aJ (pW hc)] at hvv;rw [hvv] at hK;unfold Gf at hK;rw [Cf0 hL] at hK;exact Al6 h4 (by omega) (Xa h4 λw5 e5=>Ih (S4.ext e5) hK)}
end
abbrev ldX (l:Ld):Obj:=.cells #[.int .i64 l.1.1,.int .i64 l.1.2.1,.int .i64 l.1.2.2] 83 (0,0)
section
variable {w w':World}{p q:Nat}{A:List Int}{a:Va}
theorem Bz7 (hk:a.kind=4):Zb a:=by intro w p q A K hg tx pg hK;refine A18 (a2:=Xv a) ?_;unfold F18;refine (St.start w).Af λb1 w1 S1 e1=>?_;have S1:St (λ_=>False) w w1 [(b1,Rz a)]:=S1;refine S1.ld (off:=0) 0 rfl (x:=a.kind) rfl ?_;rw [hk];refine Ah (Ah (Ah (Bh (S1.ld (off:=1) 0 rfl (x:=a.at_) rfl (Lm (S1.at_ 0 rfl) (S1.ld (off:=6) 0 rfl (x:=a.past) rfl (Yp (tx.ext S1.upd) λw2 e2=>?_)))))));obtain ⟨l,hl⟩:∃l,Dh A a.at_ a.mkd a.count a.arg a.past=l:=⟨_,rfl⟩;rw [hl];refine (S1.ext e2).Fp rfl rfl rfl λb3 w3 S3 e3=>?_;have S3:St (λ_=>False) w w3 [(b3,ldX l),(b1,Rz a)]:=S3;refine S3.ld (off:=1) 1 rfl (x:=a.at_) rfl (Lm (S3.at_ 1 rfl) (S3.ld (off:=6) 1 rfl (x:=a.past) rfl (Ae4 (pg.ext S3.upd) λw4 e4=>?_)));rw [hl];refine (S3.ext e4).Fp rfl rfl rfl λb5 w5 S5 e5=>?_;have S5:St (λ_=>False) w w5 [(b5,ldX l),(b3,ldX l),(b1,Rz a)]:=S5;exact S5.lds 1 (ldT l).1 rfl (S5.lds 0 (ldT l).1 rfl (Wv λw6 e6=>hK w6 (S5.ext e6).upd))
theorem Bz8 (hk:a.kind=5):Zb a:=by intro w p q A K hg tx pg hK;refine A18 (a2:=Xv a) ?_;unfold F18;refine (St.start w).Af λb1 w1 S1 e1=>?_;have S1:St (λ_=>False) w w1 [(b1,Rz a)]:=S1;refine S1.ld (off:=0) 0 rfl (x:=a.kind) rfl ?_;rw [hk];refine Ah (Ah (Ah (Ah (Bh (S1.ld (off:=1) 0 rfl (x:=a.at_) rfl (S1.ld (off:=2) 0 rfl (x:=a.b) rfl (Lm (S1.at_ 0 rfl) (I8 (tx.ext S1.upd) λw2 e2=>?_))))))));obtain ⟨l,hl⟩:∃l,Eu A a.at_ a.b a.mkd a.count=l:=⟨_,rfl⟩;rw [hl];refine (S1.ext e2).Fp rfl rfl rfl λb3 w3 S3 e3=>?_;have S3:St (λ_=>False) w w3 [(b3,ldX l),(b1,Rz a)]:=S3;refine S3.ld (off:=1) 1 rfl (x:=a.at_) rfl (S3.ld (off:=2) 1 rfl (x:=a.b) rfl (Lm (S3.at_ 1 rfl) (I5 (pg.ext S3.upd) λw4 e4=>?_)));rw [hl];refine (S3.ext e4).Fp rfl rfl rfl λb5 w5 S5 e5=>?_;have S5:St (λ_=>False) w w5 [(b5,ldX l),(b3,ldX l),(b1,Rz a)]:=S5;exact S5.lds 1 (ldT l).1 rfl (S5.lds 0 (ldT l).1 rfl (Wv λw6 e6=>hK w6 (S5.ext e6).upd))
end
namespace Mot
abbrev nI (l:List Nat):List Int:=l.map λ(n:Nat)=>(n:Int)
def bgM (A:List Int) (big empty:Bool) (p:Nat×Nat):Bool:=((Ag A p.1).length !=0||empty)&&Ll A big p
def enM (A:List Int) (big empty:Bool) (p:Nat×Nat):Bool:=((Ag A p.1).length !=0||empty)&&Vs A big p
theorem Ap8 (A:List Int) (big:Bool):bgM A big true=Ll A big:=by funext p;simp [bgM]
theorem Cr9 (A:List Int) (big:Bool):enM A big true=Vs A big:=by funext p;simp [enM]
theorem Aw2 (A:List Int) (big:Bool):enM A big false=Qe A big:=by funext p;simp [enM,Qe]
def mkL (A:List Int) (f:Nat×Nat->Bool) (i:Nat):List Nat:=(((List.range i).flatMap (rowP A)).filter f).map (Bo A)
def ptL (A:List Int) (f:Nat×Nat->Bool) (i j:Nat):List Nat:=if (Ag A i).length=0 then (([(i,0)]:List (Nat×Nat)).filter f).map (Bo A) else ((((List.range j).map λc=>(i,c)):List (Nat×Nat)).filter f).map (Bo A)
variable {A:List Int}{f:Nat×Nat->Bool}{i j:Nat}
theorem Am5 (A:List Int) (f:Nat×Nat->Bool) (i:Nat):mkL A f (i+1)=mkL A f i++ptL A f i (Ag A i).length:=by unfold mkL ptL;rw [mF,oD,nJ,lG];congr 1;simp only [iD,lH,kM];unfold rowP;split<;>rfl
theorem Ya (h:(Ag A i).length≠0):ptL A f i (j+1)=ptL A f i j++(if f (i,j) then [Bo A (i,j)] else []):=by unfold ptL;rw [aJ h,aJ h,mF,lG,nJ,lG];congr 1;by_cases hf:f (i,j)=true;{simp [hf]};{simp [hf]}
theorem Bf6 (h:(Ag A i).length≠0):ptL A f i 0=[]:=by unfold ptL;rw [aJ h];rfl
theorem Ba0 (A:List Int) (f:Nat×Nat->Bool) (i j:Nat):(ptL A f i j).length<=j+1:=by unfold ptL;split;{rw [gW];have:=nO f ([(i,0)]:List (Nat×Nat));simp at this;omega};{rw [gW];have:=nO f ((List.range j).map λc=>(i,c));rw [gW,lZ] at this;omega}
theorem Bw6 (hr:∀k,k<i->(Ag A k).length<=1048576):(mkL A f i).length<=i*1048577:=by
 induction i with
 |zero=>simp [mkL]
 |succ i ih=>rw [Am5,iE];have:=ih λk hk=>hr k (by omega);have:=Ba0 A f i (Ag A i).length;have:=hr i (by omega);omega
def Vo (C:List Cel) (big:Bool) (j:Nat):Nat:=if j=0 then 0 else Fg C (j-1) big
end Mot
section
variable {w w':World}{q:Nat}{A:List Int}{i:Nat}
structure Two (w:World) (N:Nat) (r z:Sl) (l m:List Nat):Prop where
 one:Ar w N r 3 1 (iv (nI l))
 two:Ar w N z 3 1 (iv (nI m))
 apart:∀k,r.blk k->¬z.blk k
theorem Two.ext {N:Nat}{r z:Sl}{l m:List Nat}(h:Two w N r z l m) (e:Ext w w'):Two w' N r z l m:=⟨h.one.ext e,h.two.ext e,h.apart⟩
theorem Cn2 {N:Nat}{r z:Sl}{l m:List Nat}{v b:Nat}{K:Sl->Wp}(h:Two w N r z l m) (hb:w.heap[b]?=some (.cells #[.int .i64 (v:Int)] 3 (0,0))) (hl:l.length<2^43) (hN:N<=w.heap.size)
  (hK:∀r' w',Two w' N r' z (l++[v]) m->(∀k,r.blk k->N<=k)->Upd r.blk w w'->K r' w') :
  Du Tryz.prog (.one (.one .sl)) (Builtin.append_ #[43,43] 43 #[.slice r.a r.len r.cap,.slice (some (at0 b)) 1 1]) K w:=by
 have hrl:=h.one.len1;rw [gW,gW] at hrl;refine En Qi Qi.ts_ (x:=⟨some (at0 b),1,1⟩) h.one (Ab6 hb) (λv hv=>by rw [iT.1 hv];rfl) (by
  show (r.len+1+(r.len+1)/4+512)*8<=2^48
  omega) hN λr' w' o l' u k=>hK r' w' ⟨?_,h.two.upd u λk hk hz hr=>h.apart k hr hz,λx hx hz=>?_⟩ (λk hk=>h.one.Fq hk) u
 {have:iv (nI (l++[v]))=iv (nI l)++[.int .i64 (v:Int)]:=(by simp);rw [this];exact o};{rcases k x hx with y|y;{exact h.apart x y hz};{have:=h.two.in.Ph hz;omega}}
theorem Cn1 {N:Nat}{r z:Sl}{l m:List Nat}{v b:Nat}{K:Sl->Wp}(h:Two w N r z l m) (hb:w.heap[b]?=some (.cells #[.int .i64 (v:Int)] 3 (0,0))) (hl:m.length<2^43) (hN:N<=w.heap.size)
  (hK:∀z' w',Two w' N r z' l (m++[v])->(∀k,z.blk k->N<=k)->Upd z.blk w w'->K z' w') :
  Du Tryz.prog (.one (.one .sl)) (Builtin.append_ #[43,43] 43 #[.slice z.a z.len z.cap,.slice (some (at0 b)) 1 1]) K w :=
 Cn2 (z:=r) ⟨h.two,h.one,λk hz hr=>h.apart k hr hz⟩ hb hl hN λz' w' t g u=>hK z' w' ⟨t.two,t.one,λk hr hz=>t.apart k hz hr⟩ g u
theorem Cy9 {big:Bool}{j:Nat}{c:Cel}(hc:(Ag A i)[j]?=some c):Fg (Ag A i) j big=if big then min c.kind 1 else c.kind:=by unfold Fg;rw [hc];rfl
set_option maxHeartbeats 2000000 in
theorem Np (h:Gq w q A) {big empty:Bool} {K:Sl×Sl×Unit->Wp} (hK:∀r z w',Bl w' r 3 1 (iv (nI (Bv A (bgM A big empty))))->Bl w' z 3 1 (iv (nI (Bv A (enM A big empty))))->Ext w w'->K (r,z,()) w') :
  Aa Tryz.prog 98 #[.pointer (some (at0 q)),.bool big,.bool empty] (.tup [(.one .sl),(.one .sl)]) K w:=by
 refine A98 ?_;unfold F98;have hA:=h.len;have hbl:=Gl A;have hb:=Bc A;have hrow:∀k,k<=brs A->(Ag A k).length<=1048576:=λk hk=>by
  have:=Ht hk
  have ok:=Cb hk
  have:=ok.tn;have:=ok.nl
  omega
 obtain ⟨f1,hf1⟩:∃f1,bgM A big empty=f1:=⟨_,rfl⟩;obtain ⟨f2,hf2⟩:∃f2,enM A big empty=f2:=⟨_,rfl⟩;rw [hf1,hf2] at hK;refine Ae (λx W=>Ext w W/\Two W w.heap.size x.1 x.2.1 (mkL A f1 (lnN A)) (mkL A f2 (lnN A))) ?_ (λx W hx=>by
  have:=hK x.1 x.2.1 W hx.2.one.in hx.2.two.in hx.1
  exact this)
 refine Ba (λx W=>∃i:Nat,x.2.2=((i:Int),())/\i<=lnN A/\Ext w W/\Two W w.heap.size x.1 x.2.1 (mkL A f1 i) (mkL A f2 i)) (λx _=>((lnN A:Int)-x.2.2.1).toNat) ⟨0,rfl,iW _,Ext.refl _,⟨Ar.nil _ _ _ _,Ar.nil _ _ _ _,λk ⟨_,hp,_⟩=>by cases hp⟩⟩ ?_;rintro ⟨r,z,_⟩ W ⟨i,rfl,hi,eW,tw⟩;dsimp only at tw ⊢;refine (h.ext eW).Oe (Ac (λhc=>?_) (λhc=>?_))
 ·simp only [iI] at hc;have hib:i<=brs A:=(by omega);have hrl:=hrow i hib;have hm1:(mkL A f1 i).length<=i*1048577:=Bw6 λk hk=>hrow k (by omega);have hm2:(mkL A f2 i).length<=i*1048577:=Bw6 λk hk=>hrow k (by omega);have hp1:=λj=>Ba0 A f1 i j;have hp2:=λj=>Ba0 A f2 i j;rw [Qy (by omega)];refine Ae (λx V=>Ext w V/\Two V w.heap.size x.1 x.2.1 (mkL A f1 (i+1)) (mkL A f2 (i+1))) ?_ (λx V hx=>⟨⟨i+1,rfl,by omega,hx.1,hx.2⟩,by omega⟩);refine h.Di3 eW hib λs p y hy hyl=>?_;have hoff:∀(j:Nat) c,(Ag A i)[j]?=some c->Bo A (i,j)=c.from_:=λj c hc=>by
   unfold Bo
   rw [Ec (fG.1 hc).1,Hg hc]
  obtain ⟨n,hn⟩:∃n,(Ag A i).length=n:=⟨_,rfl⟩;refine Ae (λx V=>Ext w V/\Two V w.heap.size x.1 x.2.1 (mkL A f1 i++ptL A f1 i 0) (mkL A f2 i++ptL A f2 i 0)) ?_ ?_
  ·refine Ae (λx V=>x=(decide (n=0/\empty=true),())/\W=V) (Ac (λh0=>⟨Az ?_,rfl⟩) (λh0=>⟨Az ?_,rfl⟩)) ?_;{rw [jM] at h0;simp only [iI];exact ⟨λhh=>⟨by omega,hh⟩,λhh=>hh.2⟩};{rw [jO] at h0;simp only [dO,iI,lS];intro hh;omega};rintro _ _ ⟨rfl,rfl⟩;refine Ac (λh0=>?_) (λh0=>?_)
   ·obtain ⟨h0,hem⟩:=cO h0;have hz:=(Q8 hib).1 (by omega);have hpl:Bo A (i,0)=(Aq A i).from_:=Nq hib;have q1:ptL A f1 i 0=[(Aq A i).from_]:=by
     unfold ptL
     rw [aF (by omega),←hf1]
     simp [bgM,Ll,hem,hn,h0,hpl]
    have q2:ptL A f2 i 0=[(Aq A i).from_]:=by
     unfold ptL
     rw [aF (by omega),←hf2]
     simp [enM,Vs,hem,hn,h0,hpl]
    rw [q1,q2];refine (h.ext eW).V8 hib λs p=>Cm λb w1 e1 n1 hb1 _=>Cn2 (tw.ext e1) n1 (by omega) (by have:=eW.size;have:=e1.size;omega) λr' w2 t2 g2 u2=>?_;have x2:Ext w w2:=(eW.trans e1).step u2 g2;refine (h.ext x2).V8 hib λs p=>Cm λb3 w3 e3 n3 hb3 _=>Cn1 (t2.ext e3) n3 (by omega) (by have:=x2.size;have:=e3.size;omega) λz' w4 t4 g4 u4=>?_;exact ⟨(x2.trans e3).step u4 g4,t4⟩
   ·have h0:=pW h0;refine ⟨eW,?_⟩;have q1:ptL A f1 i 0=[]:=by
     by_cases hz:n=0
     ·have hem:empty=false:=by cases empty with
       |false=>rfl
       |true=>exact absurd ⟨hz,rfl⟩ h0
      unfold ptL
      rw [aF (by omega),←hf1]
      simp [bgM,hem,hn,hz]
     ·exact Bf6 (by omega)
    have q2:ptL A f2 i 0=[]:=by
     by_cases hz:n=0
     ·have hem:empty=false:=by cases empty with
       |false=>rfl
       |true=>exact absurd ⟨hz,rfl⟩ h0
      unfold ptL
      rw [aF (by omega),←hf2]
      simp [enM,hem,hn,hz]
     ·exact Bf6 (by omega)
    rw [q1,q2,kM,kM];exact tw
  rintro ⟨r1,z1,_⟩ V ⟨eV,tw1⟩;dsimp only at tw1 ⊢;rw [hn] at hyl hrl;refine Ae (λx U=>x.2.2.1=(Vo (Ag A i) big n:Int)/\Ext w U/\Two U w.heap.size x.1 x.2.1 (mkL A f1 i++ptL A f1 i n) (mkL A f2 i++ptL A f2 i (n-1))) ?_ ?_
  ·refine Ba (λx U=>∃j:Nat,x.2.2=((Vo (Ag A i) big j:Int),(j:Int),())/\j<=n/\Ext w U/\Two U w.heap.size x.1 x.2.1 (mkL A f1 i++ptL A f1 i j) (mkL A f2 i++ptL A f2 i (j-1))) (λx _=>((n:Int)-x.2.2.2.1).toNat) ⟨0,rfl,iW _,eV,tw1⟩ ?_;rintro ⟨r2,z2,_⟩ U ⟨j,rfl,hj,eU,tw2⟩;dsimp only at tw2 ⊢;refine Ac (λhc2=>?_) (λhc2=>?_)
   ·simp only [iI] at hc2;have hjn:j<n:=(by omega);obtain ⟨c,hcc⟩:=Dk (C:=Ag A i) (j:=j) (by omega);have hkj:=Cy9 (big:=big) hcc;have hn0:(Ag A i).length≠0:=(by omega);have hyU:Kw U y A i:=hy.ext eU;refine Z8 hyU hcc λp=>?_;refine Ae (λx T=>x=((Fg (Ag A i) j big:Int),())/\U=T) ?_ ?_
    ·refine Ae (λx T=>x=(decide (big=true/\1<c.kind),())/\U=T) ?_ ?_
     ·cases big with
      |true=>exact Bh ⟨Az (by simp only [iI,kG,qH];omega),rfl⟩
      |false=>exact Ah ⟨Az (by simp),rfl⟩
     rintro _ _ ⟨rfl,rfl⟩;rw [hkj];refine Ac (λhb=>⟨?_,rfl⟩) (λhb=>⟨?_,rfl⟩);{obtain ⟨b1,b2⟩:=cO hb;rw [aF b1,oH (by omega)];rfl}
     ·have hb:=pW hb;congr 2;cases big with
      |true=>rw [aF rfl,gK (by have:¬1<c.kind:=λhh=>hb ⟨rfl,hh⟩;omega)]
      |false=>rw [aJ (by decide)]
    rintro _ _ ⟨rfl,rfl⟩;rw [Qy (by omega)];have endq:0<j->f2 (i,j-1)=(Fg (Ag A i) (j-1) big !=0&&Fg (Ag A i) j big !=Fg (Ag A i) (j-1) big):=λh0=>by
     rw [←hf2]
     unfold enM Vs
     dsimp only
     rw [hn,show (n !=0)=true by simp;omega,show (n==0)=false by simp;omega,show decide (j-1<n)=true by simp;omega,show j-1+1=j by omega,show (j==n)=false by simp;omega]
     simp
    have begq:f1 (i,j)=(Fg (Ag A i) j big !=0&&(j==0||Fg (Ag A i) (j-1) big !=Fg (Ag A i) j big)):=by
     rw [←hf1]
     unfold bgM Ll
     dsimp only
     rw [hn,show (n !=0)=true by simp;omega,show (n==0)=false by simp;omega]
     simp
    refine Ae (λx T=>Ext w T/\Two T w.heap.size r2 x.1 (mkL A f1 i++ptL A f1 i j) (mkL A f2 i++ptL A f2 i j)) ?_ ?_
    ·refine Ae (λx T=>x=(decide (0<j/\f2 (i,j-1)=true),())/\U=T) ?_ ?_;{have hl:Vo (Ag A i) big j=if j=0 then 0 else Fg (Ag A i) (j-1) big:=rfl;refine Ac (λh1=>⟨Az ?_,rfl⟩) (λh1=>⟨Az ?_,rfl⟩);{rw [mY] at h1;rw [mY,iI,hl];by_cases h0:j=0;{rw [aF h0];constructor;{intro hh;exact absurd rfl hh};{intro hh;omega}};{rw [aJ h0,endq (by omega),aV,mY,mY];rw [hl,aJ h0] at h1;constructor;{intro hh;exact ⟨by omega,by omega,by omega⟩};{intro hh;omega}}};{rw [mZ] at h1;simp only [dO,iI,lS];rintro ⟨h0,hh⟩;rw [endq h0,aV,mY,mY] at hh;rw [hl,aJ (by omega)] at h1;omega}};rintro _ _ ⟨rfl,rfl⟩;refine Ac (λhq=>?_) (λhq=>?_)
     ·obtain ⟨h0,hq⟩:=cO hq;obtain ⟨d,hd⟩:=Dk (C:=Ag A i) (j:=j-1) (by omega);have e2:ptL A f2 i j=ptL A f2 i (j-1)++[d.from_]:=by
       have:=Ya (A:=A) (f:=f2) (j:=j-1) hn0
       rw [show j-1+1=j by omega,aF hq,hoff _ _ hd] at this
       exact this
      rw [e2,←eG];rw [show W64 ((j:Int)-1)=((j-1:Nat):Int) by rw [wrap64 (by omega) (by omega)];omega];have:=hp2 (j-1);refine Jw hyU hd λp=>Cm λb w1 e1 n1 hb1 _=>Cn1 (tw2.ext e1) n1 (by rw [iE];omega) (by have:=eU.size;have:=e1.size;omega) λz' w2 t2 g2 u2=>⟨(eU.trans e1).step u2 g2,t2⟩
     ·have hq:=pW hq;refine ⟨eU,?_⟩;have e2:ptL A f2 i j=ptL A f2 i (j-1):=by
       by_cases h0:j=0
       ·rw [h0]
       ·have:=Ya (A:=A) (f:=f2) (j:=j-1) hn0
        rw [show j-1+1=j by omega,aJ (λhh=>hq ⟨by omega,hh⟩),kM] at this
        exact this
      rw [e2];exact tw2
    rintro ⟨z3,_⟩ T ⟨eT,tw3⟩;dsimp only at tw3 ⊢;refine Ae (λx T'=>Ext w T'/\Two T' w.heap.size x.1 z3 (mkL A f1 i++ptL A f1 i (j+1)) (mkL A f2 i++ptL A f2 i j)) ?_ (λx T' hx=>⟨⟨j+1,?_,by omega,hx.1,by rw [nR];exact hx.2⟩,by omega⟩);{refine Ae (λx T'=>x=(f1 (i,j),())/\T=T') ?_ ?_;{have hl:Vo (Ag A i) big j=if j=0 then 0 else Fg (Ag A i) (j-1) big:=rfl;refine Ac (λh1=>⟨Az ?_,rfl⟩) (λh1=>⟨Az ?_,rfl⟩);{rw [mY] at h1;rw [mY,begq,aV,bM,mY,mY,jM];constructor;{intro hh;refine ⟨by omega,?_⟩;by_cases h0:j=0;{exact .inl h0};{rw [hl,aJ h0] at h1;right;omega}};{intro hh;omega}};{rw [mZ] at h1;rw [begq,aV,bM,mY,mY,jM];simp only [dO,lS];rintro ⟨g1,g2⟩;rw [hl] at h1;by_cases h0:j=0;{rw [aF h0] at h1;omega};{rw [aJ h0] at h1;rcases g2 with g2|g2<;>omega}}};rintro _ _ ⟨rfl,rfl⟩;have hs1:=Ya (A:=A) (f:=f1) (j:=j) hn0;rw [hs1];refine Ac (λhq=>?_) (λhq=>?_);{have hq:f1 (i,j)=true:=hq;rw [aF hq,hoff _ _ hcc,←eG];have:=hp1 j;refine Jw (hy.ext eT) hcc λp=>Cm λb w1 e1 n1 hb1 _=>Cn2 (tw3.ext e1) n1 (by rw [iE];omega) (by have:=eT.size;have:=e1.size;omega) λr' w2 t2 g2 u2=>⟨(eT.trans e1).step u2 g2,t2⟩};{have hq:f1 (i,j)=false:=hq;rw [hq,aJ (by decide),kM];exact ⟨eT,tw3⟩}};{unfold Vo;rw [aJ (by omega),nR]}
   {simp only [iH] at hc2;obtain rfl:j=n:=(by omega);exact ⟨rfl,eU,tw2⟩}
  rintro ⟨r2,z2,lk,_⟩ U ⟨he,eU,tw2⟩;dsimp only at tw2 he ⊢;subst he;rw [Am5,Am5,hn];refine Ac (λhq=>?_) (λhq=>?_)
  ·rw [mY] at hq;have hn0:n≠0:=λh0=>hq (by rw [h0];rfl);obtain ⟨d,hd⟩:=Dk (C:=Ag A i) (j:=n-1) (by omega);(have hl:Vo (Ag A i) big n=Fg (Ag A i) (n-1) big:=by unfold Vo;rw [aJ hn0]);rw [hl] at hq;have hf:f2 (i,n-1)=true:=by
    rw [←hf2]
    unfold enM Vs
    dsimp only
    rw [hn,show (n !=0)=true by simp;omega,show (n==0)=false by simp;omega,show decide (n-1<n)=true by simp;omega,show n-1+1=n by omega,show (n==n)=true by simp,show (Fg (Ag A i) (n-1) big !=0)=true by rw [mY];omega]
    rfl
   have e2:ptL A f2 i n=ptL A f2 i (n-1)++[d.from_]:=by
    have:=Ya (A:=A) (f:=f2) (i:=i) (j:=n-1) (by omega)
    rw [show n-1+1=n by omega,aF hf,hoff _ _ hd] at this
    exact this
   rw [e2,←eG];rw [show W64 (((y.len:Nat):Int)-1)=((n-1:Nat):Int) by rw [wrap64 (by omega) (by omega)];omega];have:=hp2 (n-1);refine Jw (hy.ext eU) hd λp=>Cm λb w1 e1 n1 hb1 _=>Cn1 (tw2.ext e1) n1 (by rw [iE];omega) (by have:=eU.size;have:=e1.size;omega) λz' w2 t2 g2 u2=>⟨(eU.trans e1).step u2 g2,t2⟩
  ·rw [mZ] at hq;refine ⟨eU,?_⟩;have e2:ptL A f2 i n=ptL A f2 i (n-1):=by
    by_cases h0:n=0
    ·rw [h0]
    ·have hl:Vo (Ag A i) big n=Fg (Ag A i) (n-1) big:=by unfold Vo;rw [aJ h0]
     rw [hl] at hq
     have hf:f2 (i,n-1)=false:=by
      rw [←hf2]
      unfold enM Vs
      dsimp only
      rw [hn,show (n==0)=false by simp;omega,show (Fg (Ag A i) (n-1) big !=0)=false by rw [mZ];omega]
      simp
     have:=Ya (A:=A) (f:=f2) (i:=i) (j:=n-1) (by omega)
     rw [show n-1+1=n by omega,hf,aJ (by decide),kM] at this
     exact this
   rw [e2];exact tw2
 {simp only [iH] at hc;obtain rfl:i=lnN A:=(by omega);exact ⟨eW,tw⟩}
end
section
variable {w w':World}{q:Nat}{A:List Int}{i:Nat}
theorem Au9 {l:List Nat}{j x:Nat}(h:l[j]?=some x):(nI l)[((j:Int)).toNat]?=some (x:Int):=by rw [dF,gX,h];rfl
theorem Yh {s:Sl}{t:TypeId}{l:List Nat}(hs:Bl w s t 1 (iv (nI l))) (hl:l.length<2^40){m k:Nat}(hk:1<=k/\k<=9999){K:Int->Wp}(hK:K (Qm (Hl l m k)) w) :
  Aa Tryz.prog 99 #[s.v,.int .i64 (m:Int),.int .i64 (k:Int)] rI K w:=by
 refine A99 ?_;unfold F99;have hsl:=hs.len1;rw [gW,gW] at hsl;unfold Hl at hK;obtain ⟨P,hP⟩:∃P:Nat->Bool,(λx=>decide (m<=x))=P:=⟨_,rfl⟩;rw [hP] at hK;obtain ⟨tg,htg⟩:∃tg,(l.filter P)[k-1]?=tg:=⟨_,rfl⟩;rw [htg] at hK;refine Ae (λ_ W=>w=W/\tg=none) ?_ (by rintro _ _ ⟨rfl,rfl⟩;exact hK);refine Ba (λx W=>∃j k':Nat,x=((k':Int),(j:Int),())/\w=W/\j<=l.length/\1<=k'/\k'<=9999/\((l.drop j).filter P)[k'-1]?=tg) (λx _=>((l.length:Int)-x.2.1).toNat) ⟨0,k,rfl,rfl,iW _,hk.1,hk.2,htg⟩ ?_;rintro _ _ ⟨j,k',rfl,rfl,hj,hk1,hk2,hu⟩;dsimp only;refine Ac (λhc=>?_) (λhc=>?_)
 ·simp only [iI] at hc;obtain ⟨x,hx⟩:∃x,l[j]?=some x:=⟨_,jC (by omega)⟩;have hd:l.drop j=x::l.drop (j+1):=by
   rw [iZ (by omega)]
   rw [(fG.1 hx).2]
  rw [hd] at hu;have hpx:P x=decide (m<=x):=(by rw [←hP]);rw [Qy (by omega),show W64 ((k':Int)-1)=((k'-1:Nat):Int) by rw [wrap64 (by omega) (by omega)];omega];refine Ae (λz W=>z=(((if m<=x then k'-1 else k':Nat):Int),())/\w=W/\(m<=x->k'≠1)) ?_ ?_;{refine Ew (c:=.int .i64) (xs:=nI l) hs (kQ j) (Au9 hx) λp=>Ac (λhe=>?_) (λhe=>?_);{simp only [iI,jT] at he;have he:m<=x:=(by omega);rw [jP he] at hpx;rw [nH hpx] at hu;refine Ac (λh1=>?_) (λh1=>⟨by rw [aF he],rfl,λ_=>?_⟩);{rw [jM] at h1;obtain rfl:k'=1:=(by omega);refine Ew (c:=.int .i64) (xs:=nI l) hs (kQ j) (Au9 hx) λp=>?_;have hu:some x=tg:=hu;rw [←hu] at hK;exact hK};{rw [jO] at h1;omega}};{simp only [iH,jT] at he;exact ⟨by rw [aJ (by omega)],rfl,λhh=>absurd hh (by omega)⟩}};rintro _ _ ⟨rfl,rfl,h1⟩;refine ⟨⟨j+1,if m<=x then k'-1 else k',rfl,rfl,by omega,by split<;>omega,by split<;>omega,?_⟩,by omega⟩;by_cases he:m<=x;{have:=h1 he;rw [jP he] at hpx;rw [nH hpx] at hu;rw [aF he];obtain ⟨k2,rfl⟩:∃k2,k'=k2+2:=⟨k'-2,by omega⟩;exact hu};{rw [jQ he] at hpx;rw [nK (by rw [hpx];decide)] at hu;rw [aJ he];exact hu}
 {simp only [iH] at hc;refine ⟨rfl,?_⟩;rw [←hu,iY (by omega)];rfl}
theorem U4 {s:Sl}{t:TypeId}{l:List Nat}(hs:Bl w s t 1 (iv (nI l))) (hl:l.length<2^40){m k:Nat}(hk:1<=k/\k<=9999){K:Int->Wp}(hK:K (Qm (beforeL l m k)) w) :
  Aa Tryz.prog 100 #[s.v,.int .i64 (m:Int),.int .i64 (k:Int)] rI K w:=by refine Eq2 ?_;unfold F100;have hsl:=hs.len1;rw [gW,gW] at hsl;unfold beforeL at hK;obtain ⟨P,hP⟩:∃P:Nat->Bool,(λx=>decide (x<m))=P:=⟨_,rfl⟩;rw [hP] at hK;obtain ⟨tg,htg⟩:∃tg,(l.filter P).reverse[k-1]?=tg:=⟨_,rfl⟩;rw [htg] at hK;refine Ae (λ_ W=>w=W/\tg=none) ?_ (by rintro _ _ ⟨rfl,rfl⟩;exact hK);rw [show W64 (((s.len:Nat):Int)-1)=(l.length:Int)-1 by rw [wrap64 (by omega) (by omega)];omega];refine Ba (λx W=>∃n k':Nat,x=((k':Int),(n:Int)-1,())/\w=W/\n<=l.length/\1<=k'/\k'<=9999/\((l.take n).filter P).reverse[k'-1]?=tg) (λx _=>(x.2.1+1).toNat) ⟨l.length,k,rfl,rfl,fJ _,hk.1,hk.2,by rw [jR];exact htg⟩ ?_;rintro _ _ ⟨n,k',rfl,rfl,hj,hk1,hk2,hu⟩;dsimp only;refine Ac (λhc=>?_) (λhc=>?_);{simp only [iI,jT] at hc;obtain ⟨j,rfl⟩:∃j,n=j+1:=⟨n-1,by omega⟩;rw [show ((j+1:Nat):Int)-1=(j:Int) by omega];obtain ⟨x,hx⟩:∃x,l[j]?=some x:=⟨_,jC (by omega)⟩;(have hd:l.take (j+1)=l.take j++[x]:=by rw [kT,hx];rfl);rw [hd,nJ,nX] at hu;have hpx:P x=decide (x<m):=(by rw [←hP]);rw [show W64 ((j:Int)-1)=(j:Int)-1 by rw [wrap64 (by omega) (by omega)],show W64 ((k':Int)-1)=((k'-1:Nat):Int) by rw [wrap64 (by omega) (by omega)];omega];refine Ae (λz W=>z=(((if x<m then k'-1 else k':Nat):Int),())/\w=W/\(x<m->k'≠1)) ?_ ?_;{refine Ew (c:=.int .i64) (xs:=nI l) hs (kQ j) (Au9 hx) λp=>Ac (λhe=>?_) (λhe=>?_);{simp only [iI] at he;have he:x<m:=(by omega);rw [jP he] at hpx;rw [nH hpx] at hu;refine Ac (λh1=>?_) (λh1=>⟨by rw [aF he],rfl,λ_=>?_⟩);{rw [jM] at h1;obtain rfl:k'=1:=(by omega);refine Ew (c:=.int .i64) (xs:=nI l) hs (kQ j) (Au9 hx) λp=>?_;have hu:some x=tg:=hu;rw [←hu] at hK;exact hK};{rw [jO] at h1;omega}};{simp only [iH] at he;exact ⟨by rw [aJ (by omega)],rfl,λhh=>absurd hh (by omega)⟩}};rintro _ _ ⟨rfl,rfl,h1⟩;refine ⟨⟨j,if x<m then k'-1 else k',rfl,rfl,by omega,by split<;>omega,by split<;>omega,?_⟩,by omega⟩;by_cases he:x<m;{have:=h1 he;rw [jP he] at hpx;rw [nH hpx] at hu;rw [aF he];obtain ⟨k2,rfl⟩:∃k2,k'=k2+2:=⟨k'-2,by omega⟩;exact hu};{rw [jQ he] at hpx;rw [nK (by rw [hpx];decide)] at hu;rw [aJ he];exact hu}};{simp only [iH,jT] at hc;refine ⟨rfl,?_⟩;rw [←hu,show n=0 by omega];rfl}
theorem Zm (hA:A.length<=1048576) (f:Nat×Nat->Bool):(Bv A f).length<2^40/\∀x∈Bv A f,x<=A.length:=by
 have hm:∀x∈Bv A f,x<=A.length:=λx hx=>(Md hx true).len;refine ⟨?_,hm⟩;have hr:=Bp9 A f;have key:∀(l:List Nat) (n:Nat),l.Pairwise (·<·)->(∀x∈l,n<=x/\x<=A.length)->l.length+n<=A.length+1\/l=[]:=by
  intro l
  induction l with
  |nil=>intro n _ _;exact .inr rfl
  |cons a l ih=>intro n hp hb;left;rw [pK] at hp;have ha:=hb a aH;rcases ih (a+1) hp.2 (λx hx=>⟨hp.1 x hx,(hb x (aI _ hx)).2⟩) with h|h;{rw [dB];omega};{rw [h];simp;omega}
 rcases key (Bv A f) 0 hr (λx hx=>⟨iW _,hm x hx⟩) with h|h;{omega};{rw [h];simp}
theorem Zw {l:List Nat}{m k x:Nat}(h:beforeL l m k=some x):x<m:=by have:=eY h;rw [oC,nM,iI] at this;exact this.2
set_option maxHeartbeats 2000000 in
theorem Ae0 (h:Gq w q A){x kind count arg:Int}{past:Bool}{K:LdT->Wp}(hK:∀w',Ext w w'->K (ldT (Uk A x kind count past)) w') :
  Aa Tryz.prog 46 #[.pointer (some (at0 q)),.int .i64 x,.agg (Cells.vals c48 (mvM kind count arg)).toArray,.bool past] (.tup [(.agg c83),(.one (.int .i64))]) K w:=by
 refine A46 (a2:=mvM kind count arg) ?_;unfold F46;have hA:=h.len;have hbl:=Gl A;have hb:=Bc A;refine (St.start w).Af λb1 w1 S1 e1=>S1.Af λb2 w2 S2 e2=>?_;have S2:St (λ_=>False) w w2 [(b2,ldZ),(b1,Kr kind count arg)]:=S2;have h2:=h.ext S2.upd;obtain ⟨v,hv⟩:∃v,Uk A x kind count past=v:=⟨_,rfl⟩;rw [hv] at hK;unfold Uk at hv;dsimp only at hv;have hle:=Y0 A x past;refine Ik h2 ?_;obtain ⟨s,hs⟩:∃s,Ak A x past=s:=⟨_,rfl⟩;rw [hs] at hv hle;rw [hs];have hkr:=Zo count;refine S2.lds 1 (mvM kind count arg) rfl (Px λw4 e4=>?_);have S4:=S2.ext e4;have h4:=h.ext S4.upd;obtain ⟨k,hk⟩:∃k,kOf count=k:=⟨_,rfl⟩;rw [hk] at hv hkr;rw [hk];obtain ⟨big,hbig⟩:∃big,decide ((25<=kind/\kind<=28)\/kind=30)=big:=⟨_,rfl⟩;rw [hbig] at hv;refine Ae (λz W=>z=(big,())/\w4=W) ?_ ?_;{rw [←hbig];refine S4.ld (off:=0) 1 rfl (x:=kind) rfl (Ac (λh1=>S4.ld (off:=0) 1 rfl (x:=kind) rfl (Ac (λh2=>⟨Az ?_,rfl⟩) (λh2=>S4.ld (off:=0) 1 rfl (x:=kind) rfl ⟨Az ?_,rfl⟩))) (λh1=>S4.ld (off:=0) 1 rfl (x:=kind) rfl ⟨Az ?_,rfl⟩));(all_goals simp only [iI,iH,jT,jM,lQ] at *);all_goals omega};rintro _ _ ⟨rfl,rfl⟩;(have ewl:W64 ((lnN A:Int)-1)=((lnN A-1:Nat):Int):=by rw [wrap64 (by omega) (by omega)];omega);refine h4.Oe ?_;rw [ewl];refine Oq h4 (by omega) ?_;have hlast:Aw A (lnN A-1) (((Ag A (lnN A-1)).length:Int)-1)=Dv A:=rfl;rw [hlast];obtain ⟨m1,m2⟩:=Zm hA (Ll A big);obtain ⟨m3,m4⟩:=Zm hA (Vs A big);obtain ⟨m5,m6⟩:=Zm hA (Qe A big);have es:W64 ((s:Int)+1)=((s+1:Nat):Int):=Qy (by omega);have fno:∀{e:Int} {W:World},St (λ_=>False) w W [(b2,ldZ),(b1,Kr kind count arg)]->v=noP e->Aa Tryz.prog 92 #[.int .i64 e] (.tup [(.agg c83),(.one (.int .i64))]) (λz=>Ad (at0 b2) (.agg (Cells.vals c83 z.1).toArray) 3 (lds c83 (at0 b2) λy=>K (y,z.2.1,()))) W:=λS hk=>Yc λw5 e5=>Ih (S.ext e5) (by rw [←hk];exact hK);have fland:∀{m:Nat} {kd:Int} {W:World},St (λ_=>False) w W [(b2,ldZ),(b1,Kr kind count arg)]->v=Bz A m kd->Aa Tryz.prog 93 #[.pointer (some (at0 q)),.int .i64 (m:Int),.int .i64 kd] (.tup [(.agg c83),(.one (.int .i64))]) (λz=>Ad (at0 b2) (.agg (Cells.vals c83 z.1).toArray) 3 (lds c83 (at0 b2) λy=>K (y,z.2.1,()))) W:=λS hk=>Xa (h.ext S.upd) λw5 e5=>Ih (S.ext e5) (by rw [←hk];exact hK);refine Ae (λz W=>∃(T:Nat) (kd:Int),z=((T:Int),kd,())/\v=(if T=s\/((kind=21\/kind=25\/kind=23\/kind=27)/\T<s) then noP 80 else Bz A T kd)/\St (λ_=>False) w W [(b2,ldZ),(b1,Kr kind count arg)]) ?_ ?_
 ·refine S4.ld (off:=0) 1 rfl (x:=kind) rfl (O5 (λhk1=>?_) (λhk1=>?_))
  ·rw [aF hk1] at hv;refine Np h4 λr z w5 o1 o2 e5=>?_;rw [Ap8] at o1;have S5:=S4.ext e5;have h5:=h4.ext e5;rw [es];refine Yh o1 m1 hkr ?_;have fin:∀T:Nat,(Hl (Bv A (Ll A big)) (s+1) k).getD (if past=true then (Aq A (lnN A-1)).to_ else Dv A)=T->v=(if T=s\/((kind=21\/kind=25\/kind=23\/kind=27)/\T<s) then noP 80 else Bz A T 0):=λT hT=>by
    rw [hT] at hv
    rw [←hv]
    by_cases hc:T<=s
    ·rw [aF hc,aF (by omega)]
    ·rw [aJ hc,aJ (by omega)]
   cases ha:Hl (Bv A (Ll A big)) (s+1) k with
   |none=>rw [ha] at fin;refine Bh (Ac (λhp=>?_) (λhp=>?_));{rw [hp] at fin;refine S5.drew λw6 S6 e6 _=>(h5.ext e6).Ur λsl hsl _=>(h5.ext e6).Oe ?_;rw [ewl];exact Am7 hsl (by omega) λp=>⟨_,0,rfl,fin _ rfl,S6⟩};{rw [hp] at fin;exact ⟨_,0,rfl,fin _ rfl,S5⟩}
   |some T=>rw [ha] at fin;rw [show Qm (some T)=(T:Int) from rfl];refine Ac (λhc=>by simp only [iI] at hc;omega) (λ_=>⟨T,0,rfl,fin T rfl,S5⟩)
  rw [aJ hk1] at hv;refine O5 (λhk2=>?_) (λhk2=>?_)
  ·rw [aF hk2] at hv;refine Np h4 λr z w5 o1 o2 e5=>?_;rw [Ap8] at o1;have S5:=S4.ext e5;refine U4 o1 m1 hkr ?_;refine ⟨(beforeL (Bv A (Ll A big)) s k).getD 0,0,?_,?_,S5⟩
   ·cases hbf:beforeL (Bv A (Ll A big)) s k with
    |none=>rfl
    |some T=>rw [show Qm (some T)=(T:Int) from rfl,aJ (by omega)];rfl
   ·rw [←hv];by_cases h0:s=0
    ·have:beforeL (Bv A (Ll A big)) s k=none:=by
      cases hbf:beforeL (Bv A (Ll A big)) s k with
      |none=>rfl
      |some T=>have:=Zw hbf;omega
     rw [aF h0,this,aF (.inl (by rw [h0];rfl))]
    ·rw [aJ h0,aJ];intro hh;cases hbf:beforeL (Bv A (Ll A big)) s k with
     |none=>rw [hbf] at hh;have:(none:Option Nat).getD 0=0:=rfl;omega
     |some T=>rw [hbf] at hh;have:=Zw hbf;have:(some T).getD 0=T:=rfl;omega
  rw [aJ hk2] at hv;refine O5 (λhk3=>?_) (λhk3=>?_)
  ·rw [aF hk3] at hv;refine Np h4 λr z w5 o1 o2 e5=>?_;rw [Aw2] at o2;have S5:=S4.ext e5;rw [es];refine Yh o2 m5 hkr ?_;have fin:∀T:Nat,(Hl (Bv A (Qe A big)) (s+1) k).getD (Dv A)=T->v=(if T=s\/((kind=21\/kind=25\/kind=23\/kind=27)/\T<s) then noP 80 else Bz A T 1):=λT hT=>by
    rw [hT] at hv
    rw [←hv]
    by_cases hc:T<=s
    ·rw [aF hc,aF (by omega)]
    ·rw [aJ hc,aJ (by omega)]
   cases ha:Hl (Bv A (Qe A big)) (s+1) k with
   |none=>rw [ha] at fin;exact Bh ⟨_,1,rfl,fin _ rfl,S5⟩
   |some T=>rw [ha] at fin;rw [show Qm (some T)=(T:Int) from rfl];exact Ac (λhc=>by simp only [iI] at hc;omega) (λ_=>⟨T,1,rfl,fin T rfl,S5⟩)
  rw [aJ hk3] at hv;refine O5 (λhk4=>?_) (λhk4=>?_)
  ·rw [aF hk4] at hv;refine Np h4 λr z w5 o1 o2 e5=>?_;rw [Cr9] at o2;have S5:=S4.ext e5;refine U4 o2 m3 hkr ?_;refine ⟨(beforeL (Bv A (Vs A big)) s k).getD 0,1,?_,?_,S5⟩
   ·cases hbf:beforeL (Bv A (Vs A big)) s k with
    |none=>rfl
    |some T=>rw [show Qm (some T)=(T:Int) from rfl,aJ (by omega)];rfl
   ·rw [←hv];by_cases h0:s=0
    ·have:beforeL (Bv A (Vs A big)) s k=none:=by
      cases hbf:beforeL (Bv A (Vs A big)) s k with
      |none=>rfl
      |some T=>have:=Zw hbf;omega
     rw [aF h0,this,aF (.inl (by rw [h0];rfl))]
    ·rw [aJ h0,aJ];intro hh;cases hbf:beforeL (Bv A (Vs A big)) s k with
     |none=>rw [hbf] at hh;have:(none:Option Nat).getD 0=0:=rfl;omega
     |some T=>rw [hbf] at hh;have:=Zw hbf;have:(some T).getD 0=T:=rfl;omega
  rw [aJ hk4] at hv;refine O5 (λhk5=>?_) (λhk5=>?_)
  ·rw [aF hk5] at hv;refine Np h4 λr z w5 o1 o2 e5=>?_;rw [Aw2] at o2;have S5:=S4.ext e5;refine Yh o2 m5 hkr ?_;refine Ae (λz W=>z=((((Hl (Bv A (Qe A big)) s k).getD (max (Dv A) s):Nat):Int),())/\w5=W) ?_ ?_
   ·cases ha:Hl (Bv A (Qe A big)) s k with
    |none=>refine Bh ⟨?_,rfl⟩;congr 1;show _=((max (Dv A) s:Nat):Int);split<;>omega
    |some T=>rw [show Qm (some T)=(T:Int) from rfl];exact Ac (λhc=>by simp only [iI] at hc;omega) (λ_=>⟨rfl,rfl⟩)
   rintro _ _ ⟨rfl,rfl⟩;exact fland S5 hv.symm
  rw [aJ hk5] at hv;exact fno S4 hv.symm
 rintro _ w6 ⟨T,kd,rfl,hvv,S6⟩;refine Ae (λz W=>z=(decide (kind=21\/kind=25\/kind=23\/kind=27),())/\w6=W) ?_ ?_;{refine S6.ld (off:=0) 1 rfl (x:=kind) rfl (Ac (λh1=>⟨Az ?_,rfl⟩) (λh1=>S6.ld (off:=0) 1 rfl (x:=kind) rfl (Ac (λh2=>⟨Az ?_,rfl⟩) (λh2=>S6.ld (off:=0) 1 rfl (x:=kind) rfl (Ac (λh3=>⟨Az ?_,rfl⟩) (λh3=>S6.ld (off:=0) 1 rfl (x:=kind) rfl ⟨Az ?_,rfl⟩))))));(all_goals simp only [iI,jM,jO,ne_eq,lQ] at *);all_goals omega};rintro _ _ ⟨rfl,rfl⟩;refine Ae (λz W=>z=(decide (T=s\/((kind=21\/kind=25\/kind=23\/kind=27)/\T<s)),())/\w6=W) ?_ ?_;{refine Ac (λh1=>⟨Az ?_,rfl⟩) (λh1=>Ac (λh2=>⟨Az ?_,rfl⟩) (λh2=>⟨Az ?_,rfl⟩));{rw [jM] at h1;simp only [lQ,iI];omega};{rw [jO] at h1;have h2:=cO h2;simp only [iI];omega};{rw [jO] at h1;have h2:=pW h2;simp only [dO,lS,iI];omega}};rintro _ _ ⟨rfl,rfl⟩;refine Ac (λhc=>?_) (λhc=>?_);{rw [aF (cO hc)] at hvv;exact fno S6 hvv};{rw [aJ (pW hc)] at hvv;exact fland S6 hvv}
end
section
variable {w w':World}{p q:Nat}{A:List Int}{a:Va}
theorem Cj8 (hk:a.kind=6):Zb a:=by intro w p q A K hg tx pg hK;refine A18 (a2:=Xv a) ?_;unfold F18;refine (St.start w).Af λb1 w1 S1 e1=>?_;have S1:St (λ_=>False) w w1 [(b1,Rz a)]:=S1;refine S1.ld (off:=0) 0 rfl (x:=a.kind) rfl ?_;rw [hk];refine Ah (Ah (Ah (Ah (Ah (Bh (S1.ld (off:=1) 0 rfl (x:=a.at_) rfl (Lm (S1.at_ 0 rfl) (S1.ld (off:=6) 0 rfl (x:=a.past) rfl (Ae8 (tx.ext S1.upd) λw2 e2=>?_)))))))));obtain ⟨l,hl⟩:∃l,Uk A a.at_ a.mkd a.count a.past=l:=⟨_,rfl⟩;rw [hl];refine (S1.ext e2).Fp rfl rfl rfl λb3 w3 S3 e3=>?_;have S3:St (λ_=>False) w w3 [(b3,ldX l),(b1,Rz a)]:=S3;refine S3.ld (off:=1) 1 rfl (x:=a.at_) rfl (Lm (S3.at_ 1 rfl) (S3.ld (off:=6) 1 rfl (x:=a.past) rfl (Ae0 (pg.ext S3.upd) λw4 e4=>?_)));rw [hl];refine (S3.ext e4).Fp rfl rfl rfl λb5 w5 S5 e5=>?_;have S5:St (λ_=>False) w w5 [(b5,ldX l),(b3,ldX l),(b1,Rz a)]:=S5;exact S5.lds 1 (ldT l).1 rfl (S5.lds 0 (ldT l).1 rfl (Wv λw6 e6=>hK w6 (S5.ext e6).upd))
end
end
section
open Trx Gly Clu Lns Obx
namespace Mot
def bkF (A:List Int) (p:Nat×Nat):Option ((Nat×Nat)×Nat):=(Uy A p).map λb=>(p,b)
def bkL (A:List Int) (i:Nat):List ((Nat×Nat)×Nat):=((List.range i).flatMap (rowP A)).filterMap (bkF A)
def bkR (A:List Int) (i j:Nat):List ((Nat×Nat)×Nat):=((List.range j).map λc=>(i,c)).filterMap (bkF A)
def Ci9 (A:List Int) (p:Nat×Nat):Cel:=((Ag A p.1)[p.2]?).getD { from_:=0,to_:=0,atom:=0,alone:=false,kind:=0 }
variable {A:List Int}{i j:Nat}
theorem Bz1 (A:List Int):bkL A (lnN A)=Gy A:=rfl
theorem Cu4 (A:List Int):bkL A 0=[]:=rfl
theorem Bk6 (A:List Int) (i:Nat):bkR A i 0=[]:=rfl
theorem Ap7 (A:List Int) (i:Nat):bkL A (i+1)=bkL A i++bkR A i (Ag A i).length:=by
 unfold bkL bkR;rw [mF,oD,pF];congr 1;simp only [iD,lH,kM];unfold rowP;split
 ·rename_i h0;have h1:bkF A (i,0)=none:=by
   unfold bkF Uy
   have:(Ag A i)[0]?=none:=kL (by omega)
   dsimp only;rw [this];rfl
  rw [h0];simp [h1]
 {rfl}
theorem Cu3 {x:(Nat×Nat)×Nat}(h:bkF A (i,j)=some x):bkR A i (j+1)=bkR A i j++[x]:=by unfold bkR;rw [mF,lG,pF];congr 1;simp [h]
theorem Bk7 (h:bkF A (i,j)=none):bkR A i (j+1)=bkR A i j:=by unfold bkR;rw [mF,lG,pF];simp [h]
theorem Dh2 {c:Cel}(hc:(Ag A i)[j]?=some c):bkF A (i,j)=(sortB c).map λb=>((i,j),b):=by unfold bkF Uy;dsimp only;rw [hc];rfl
theorem By5 {c:Cel}(hc:(Ag A i)[j]?=some c):Ci9 A (i,j)=c:=by unfold Ci9;dsimp only;rw [hc];rfl
theorem Db3 {x:(Nat×Nat)×Nat}(h:x∈Gy A):∃c,(Ag A x.1.1)[x.1.2]?=some c/\sortB c=some x.2/\Ci9 A x.1=c/\Bo A x.1=c.from_:=by unfold Gy at h;rw [oO] at h;obtain ⟨p,_,hp⟩:=h;obtain ⟨b,hb,rfl⟩:=mP.1 hp;unfold Uy at hb;obtain ⟨c,hc,hs⟩:=mD.1 hb;refine ⟨c,hc,hs,By5 hc,?_⟩;unfold Bo;rw [Ec (fG.1 hc).1,Hg hc]
theorem Be7 {c:Cel}{b:Nat}(h:sortB c=some b):b<6:=by unfold sortB at h;(repeat' split at h);all_goals first|cases h;omega|cases h
theorem Bd0 (A:List Int) (i j:Nat):(bkR A i j).length<=j:=by
 unfold bkR
 have:=List.length_filterMap_le (bkF A) ((List.range j).map λc=>(i,c))
 rwa [gW,lZ] at this
theorem Bz0 (h:i<=brs A):(bkL A i).length<=(Aq A i).from_:=by
 induction i with
 |zero=>rw [Cu4];exact iW _
 |succ i ih=>rw [Ap7,iE];have h1:=ih (by omega);have h2:=Bd0 A i (Ag A i).length;have h3:=Ht (A:=A) (i:=i) (by omega);have h4:=Nw (A:=A) (i:=i) (j:=i+1) (by omega) h;have ok:=Cb (A:=A) (i:=i) (by omega);have:=ok.ft;have:=ok.tn;omega
theorem Ct8 (A:List Int):(Gy A).length<=A.length:=by obtain ⟨k,hk⟩:∃k,lnN A=k+1:=⟨lnN A-1,by have:=Bc A;omega⟩;have hb:=Bc A;rw [←Bz1,hk,Ap7,iE];have h1:=Bz0 (A:=A) (i:=k) (by omega);have h2:=Bd0 A k (Ag A k).length;have h3:=Ht (A:=A) (i:=k) (by omega);have ok:=Cb (A:=A) (i:=k) (by omega);have:=ok.ft;have:=ok.tn;have:=ok.nl;omega
def Df9 (A:List Int) (s:Nat) (q:(Nat×Nat)×Nat):Bool:=q.1.1==nb A s&&decide (s<=Bo A q.1)
theorem Cy4 {s:Nat}(hs:s<=A.length) (hi:i<=brs A){c:Cel}(hc:(Ag A i)[j]?=some c) (b:Nat):Df9 A s ((i,j),b)=decide (s<=c.from_/\c.from_<(Aq A (nb A s)).to_):=by
 have ho:Bo A (i,j)=c.from_:=by
  unfold Bo
  rw [Ec (fG.1 hc).1,Hg hc]
 have hn:=Ho A s;have hr:=row_of hs;have hcl:=Tf hi hc;have ok:=Cb hi;have okn:=Cb hn;have:=ok.ft;have:=ok.tn;have:=okn.ft;have:=okn.tn;unfold Df9;dsimp only;rw [ho,gV,aV,iI,iI,jM];constructor;{rintro ⟨h1,h2⟩;refine ⟨h2,?_⟩;rw [←h1];omega};{rintro ⟨h1,h2⟩;refine ⟨?_,h1⟩;rcases qF i (nb A s) with h|h|h;{have:=Nw h hn;omega};{exact h};{have:=Nw h hi;omega}}
theorem Cr4 {β:Type}(l:List β) (x:β) (P:β->Bool):(l++[x]).findIdx? P=match l.findIdx? P with|some m=>some m|none=>if P x then some l.length else none:=by
 rw [List.findIdx?_append];cases l.findIdx? P with
 |some m=>rfl
 |none=>by_cases h:P x=true;{simp [h]};{simp [h]}
def Rest {β:Type}(L:List β) (up:Bool) (x:Int) (R:List β):Prop:=if up then ∃j:Nat,x=(j:Int)/\j<=L.length/\R=L.drop j else ∃n:Nat,x=(n:Int)-1/\n<=L.length/\R=(L.take n).reverse
theorem Rest.nil {β:Type}{L:List β}{up:Bool}{x:Int}(h:Rest L up x []):¬(0<=x/\x<(L.length:Int)):=by
 cases up with
 |true=>obtain ⟨j,rfl,hj,hr⟩:=h;have:=fC List.length hr;rw [gJ,dR] at this;omega
 |false=>obtain ⟨n,rfl,hn,hr⟩:=h;have:=fC List.length hr;rw [pY,gI,dR] at this;omega
theorem Rest.cons {β:Type}{L R:List β}{r:β}{up:Bool}{x:Int}(h:Rest L up x (r::R)):0<=x/\x<(L.length:Int)/\L[x.toNat]?=some r/\Rest L up (if up then x+1 else x-1) R:=by
 cases up with
 |true=>obtain ⟨j,rfl,hj,hr⟩:=h;have hl:=fC List.length hr;rw [gJ,dB] at hl;have hd:=iZ (l:=L) (i:=j) (by omega);rw [hd] at hr;injection hr with h1 h2;refine ⟨by omega,by omega,?_,j+1,?_,by omega,h2⟩;{rw [dF,jC (by omega),h1]};{rw [aF rfl];omega}
 |false=>obtain ⟨n,rfl,hn,hr⟩:=h;have hl:=fC List.length hr;rw [pY,gI,dB] at hl;obtain ⟨m,rfl⟩:∃m,n=m+1:=⟨n-1,by omega⟩;have hm:L[m]?=some L[m]:=jC (by omega);rw [kT,hm,lU,nX] at hr;injection hr with h1 h2;refine ⟨by omega,by omega,?_,m,?_,by omega,h2⟩;{rw [show (((m+1:Nat):Int)-1).toNat=m by omega,hm,h1]};{rw [aJ (by decide)];omega}
theorem Cx6 {β:Type}{L:List β}{m:Nat}{q:β}(h:L[m]?=some q):Rest L true (m:Int) (q::L.drop (m+1)):=by have hm:=(fG.1 h);refine ⟨m,rfl,by have:=hm.1;omega,?_⟩;rw [iZ hm.1,hm.2]
theorem Cx9 {β:Type}{L:List β}{m:Nat}{q:β}(h:L[m]?=some q):Rest L false (m:Int) (q::(L.take m).reverse):=by have hm:=(fG.1 h).1;refine ⟨m+1,by omega,by omega,?_⟩;rw [kT,h,lU,nX];rfl
theorem Rest.len {β:Type}{L R:List β}{up:Bool}{x:Int}(h:Rest L up x R):R.length<=L.length:=by
 cases up with
 |true=>obtain ⟨j,_,_,rfl⟩:=h;rw [gJ];omega
 |false=>obtain ⟨n,_,_,rfl⟩:=h;rw [pY,gI];omega
theorem Be9 {own:Nat}{p:Nat×Nat}{R:List ((Nat×Nat)×Nat)}{d:Nat}:Dt own ((p,own)::R) d=Dt own R (d+1):=by rw [Dt,aJ (λh=>h rfl),aF rfl]
theorem Bn2 {own b:Nat}{p:Nat×Nat}{R:List ((Nat×Nat)×Nat)}{d:Nat}(h:b%3≠own%3):Dt own ((p,b)::R) d=Dt own R d:=by rw [Dt,aF h]
theorem Cb4 {own b:Nat}{p:Nat×Nat}{R:List ((Nat×Nat)×Nat)}(h:b%3=own%3) (hb:b≠own):Dt own ((p,b)::R) 1=some p:=by rw [Dt,aJ (λhh=>hh h),aJ hb,aF rfl]
theorem Cb3 {own b:Nat}{p:Nat×Nat}{R:List ((Nat×Nat)×Nat)}{d:Nat}(h:b%3=own%3) (hb:b≠own) (hd:d≠1):Dt own ((p,b)::R) d=Dt own R (d-1):=by rw [Dt,aJ (λhh=>hh h),aJ hb,aJ hd]
end Mot
namespace Mot
variable {A:List Int}{i j:Nat}
theorem Df1 {s:Nat}(hj:j<=brs A) (h:j≠nb A s):(Aq A j).from_≠s:=by intro he;have ok:=Cb hj;have:=Bw2 hj (n:=s) (by omega) (by have:=ok.ft;omega);omega
theorem Dj6 {lo hi:Nat}(hlo:lo<=A.length) (hi':hi<=A.length) (he:hi=(Aq A (nb A hi)).from_) (hlt:lo<hi):nb A lo<nb A hi:=by have h1:=row_of hlo;have hb1:=Ho A lo;have hb2:=Ho A hi;have ok:=Cb hb2;have:=ok.ft;have:=ok.tn;rcases qF (nb A lo) (nb A hi) with h|h|h;{exact h};{rw [h] at h1;omega};{have:=Nw h hb1;omega}
theorem Db1 {lo hi:Nat}(hlo:lo<=A.length) (hi':hi<=A.length) (hle:lo<=hi):(hi=(Aq A (nb A hi)).from_/\nb A lo<nb A hi)↔(hi=(Aq A (nb A hi)).from_/\lo<hi/\0<nb A hi):=by constructor;{rintro ⟨h1,h2⟩;refine ⟨h1,?_,by omega⟩;rcases lT lo hi with h|h;{exact h};{have:lo=hi:=(by omega);rw [this] at h2;omega}};{rintro ⟨h1,h2,_⟩;exact ⟨h1,Dj6 hlo hi' h1 h2⟩}
theorem Dg9 {lo hi:Nat}(hlo:Stand A lo true) (h:nb A lo<nb A hi):lo<=(Aq A (nb A hi-1)).to_:=by have hb2:=Ho A hi;obtain ⟨⟨k,c⟩,⟨h1,h2⟩,rfl,_⟩:=hlo;dsimp only at h1 h2;have hp:=Jb h1 (c:Int);have ho:Bo A (k,c)=Aw A k (c:Int):=rfl;rw [ho] at h ⊢;rw [Bw2 h1 hp.1 hp.2] at h;by_cases he:k=nb A hi-1;{rw [←he];exact hp.2};{have hn:=Nw (A:=A) (i:=k) (j:=nb A hi-1) (by omega) (by omega);have ok1:=Cb h1;have ok2:=Cb (A:=A) (i:=nb A hi-1) (by omega);have:=ok1.tn;have:=ok2.ft;omega}
theorem Db0 {hi:Nat}(h:Stand A hi true):(∃(m:Nat) (cc:Cel),(Ag A (nb A hi))[m]?=some cc/\cc.from_=hi/\hi<(Aq A (nb A hi)).to_/\Aw A (nb A hi) ((Dj (Ag A (nb A hi)) (hi:Int):Nat)+1)=cc.to_/\∀(j:Nat) (x:Cel),(Ag A (nb A hi))[j]?=some x->x.from_=hi->x=cc)\/(hi=(Aq A (nb A hi)).to_/\∀(j:Nat) (x:Cel),(Ag A (nb A hi))[j]?=some x->x.from_≠hi):=by
 obtain ⟨⟨k,c⟩,⟨h1,h2⟩,ho,_⟩:=h;dsimp only at h1 h2;have ho:Aw A k (c:Int)=hi:=ho;have hp:=Jb h1 (c:Int);(have hk:nb A hi=k:=by rw [←ho];exact Bw2 h1 hp.1 hp.2);rw [hk];have hcp:=Vt h1 h2;rw [ho] at hcp;rcases lT c (Ag A k).length with hc|hc
 ·obtain ⟨cc,hcc⟩:=Dk hc;have hf:cc.from_=hi:=(by rw [←ho,Ec hc,Hg hcc]);have hr:=Tf h1 hcc;refine .inl ⟨c,cc,hcc,hf,by omega,?_,λj x hx hxf=>?_⟩;{rw [hcp];exact (Bc4 h1 hcc).symm}
  ·have hj:j=c:=by
    rcases qF j c with g|g|g
    ·have:=(Gi A k).lt g hx hcc;have:=(Gi A k).pos _ x hx;omega
    ·exact g
    ·have:=(Gi A k).lt g hcc hx;have:=(Gi A k).pos _ cc hcc;omega
   subst hj;rw [hcc] at hx;cases hx;rfl
 {have he:hi=(Aq A k).to_:=(by rw [←ho,Ej (by omega)]);refine .inr ⟨he,λj x hx hxf=>?_⟩;have:=Tf h1 hx;omega}
def Yf (l:List Nat) (s n f:Nat):Nat:=(((l.filter λx=>decide (s+1<=x)).take n).getLast?).getD f
theorem Bo9 (l:List Nat) (s f:Nat):Yf l s 0 f=f:=rfl
theorem Cd7 (s n f:Nat):Yf [] s n f=f:=by unfold Yf;simp
theorem Cn7 {x s n f:Nat}{l:List Nat}(h:¬s<x):Yf (x::l) s n f=Yf l s n f:=by unfold Yf;rw [nK (by simp only [iI];omega)]
theorem Cd6 {x s n f:Nat}{l:List Nat}(h:s<x) (hn:0<n):Yf (x::l) s n f=Yf l s (n-1) x:=by obtain ⟨m,rfl⟩:∃m,n=m+1:=⟨n-1,by omega⟩;unfold Yf;rw [nH (by simp only [iI];omega),iK,List.getLast?_cons,nR];rfl
theorem Cn8 (A:List Int) (s:Nat) (big:Bool) (k:Nat):Mc A s big k=Yf (Bv A (Ll A big)) s (k-1) s:=rfl
end Mot
end
end Go.Proofs.YtolhlldgnfbemaaGreatDoor
