/- YtolhlldgnfbemaaGreatDoorXRe8: parts of the proof, put together by program. -/
import Derived.Test.YtolhlldgnfbemaaGreatDoorXRe7
set_option linter.unusedVariables false
set_option linter.defProp false
set_option linter.unusedSimpArgs false
set_option linter.unusedSectionVars false
noncomputable section
set_option maxRecDepth 100000
namespace Go.Proofs.YtolhlldgnfbemaaGreatDoor
section
open Go Go.Vx Cdc Gly
namespace Rgl
def Ul (a:Int) (J:Bool×Unit->Wp):List (Bool×Int×Int)->World->Prop
 |[]=>J (false,())
 |[(true,v,_)]=>J ((a==v),())
 |[(false,l,h)]=>sif (decide (a>=l)) (J ((decide (a<=h)),())) (J (false,()))
 |(true,v,_)::x::r=>sif (a==v) (J ((a==v),())) (Ul a J (x::r))
 |(false,l,h)::x::r=>join (S:=Bool×Unit) (λJ3=>sif (decide (a>=l)) (J3 ((decide (a<=h)),())) (J3 (false,()))) λs=>sif s.1 (J (s.1,())) (Ul a J (x::r))
def Aq1 (a:Int) (K:Int->Wp) (d:Int):List (List (Bool×Int×Int)×Int)->World->Prop
 |[]=>K d
 |([(true,v,_)],n)::r=>sif (a==v) (K n) (Aq1 a K d r)
 |(ch,n)::r=>join (S:=Bool×Unit) (λJ=>Ul a J ch) λs=>sif s.1 (K n) (Aq1 a K d r)
def inR (a:Int) (x:Bool×Int×Int):Bool:=if x.1 then a==x.2.1 else decide (x.2.1<=a)&&decide (a<=x.2.2)
def Ic (a:Int) (ch:List (Bool×Int×Int)):Bool:=ch.any (inR a)
def V8 (a d:Int):List (List (Bool×Int×Int)×Int)->Int
 |[]=>d
 |(ch,n)::r=>if Ic a ch then n else V8 a d r
variable {w:World}
theorem Ag4 {a:Int}{J:Bool×Unit->Wp}:∀{ch:List (Bool×Int×Int)},J (Ic a ch,()) w->Ul a J ch w
 |[],h=>h
 |[(true,v,_)],h=>by
  have e:Ic a [(true,v,‹Int›)]=(a==v):=by simp [Ic,inR]
  rw [e] at h;exact h
 | [(false,l,u)],h=>by
  have e:Ic a [(false,l,u)]=(decide (l<=a)&&decide (a<=u)):=by simp [Ic,inR]
  rw [e] at h
  refine Ac (λh1=>?_) (λh1=>?_)
  ·simp only [iI,jT] at h1
   rw [jP h1,lD] at h;exact h
  ·simp only [iH,jT] at h1
   rw [jQ h1,lW] at h;exact h
 | (true,v,u)::x::r,h=>by
  have e:Ic a ((true,v,u)::x::r)=((a==v)||Ic a (x::r)):=by simp [Ic,inR]
  rw [e] at h
  refine Ac (λh1=>?_) (λh1=>?_)
  ·have h1:(a==v)=true:=h1
   rw [h1,fB] at h
   rw [h1];exact h
  ·have h1:(a==v)=false:=h1
   rw [h1,bD] at h
   exact Ag4 h
 | (false,l,u)::x::r,h=>by
  have e:Ic a ((false,l,u)::x::r)=((decide (l<=a)&&decide (a<=u))||Ic a (x::r)):=by simp [Ic,inR]
  rw [e] at h
  refine Ae (λy W=>y=((decide (l<=a)&&decide (a<=u)),())/\w=W) (Ac (λh1=>?_) (λh1=>?_)) ?_
  ·simp only [iI,jT] at h1
   rw [jP h1,lD];exact ⟨rfl,rfl⟩
  ·simp only [iH,jT] at h1
   rw [jQ h1,lW];exact ⟨rfl,rfl⟩
  rintro _ _ ⟨rfl,rfl⟩
  refine Ac (λh1=>?_) (λh1=>?_)
  ·have h1:(decide (l<=a)&&decide (a<=u))=true:=h1
   rw [h1,fB] at h
   show J ((decide (l<=a)&&decide (a<=u)),()) w
   rw [h1];exact h
  ·have h1:(decide (l<=a)&&decide (a<=u))=false:=h1
   rw [h1,bD] at h
   exact Ag4 h
theorem An4 {a d n:Int}{K:Int->Wp}{ch:List (Bool×Int×Int)}{r:List (List (Bool×Int×Int)×Int)}(ih:K (V8 a d r) w->Aq1 a K d r w) (h:K (V8 a d ((ch,n)::r)) w) :
  join (S:=Bool×Unit) (λJ=>Ul a J ch) (λs=>sif s.1 (K n) (Aq1 a K d r)) w:=by refine Ae (λx W=>x=(Ic a ch,())/\w=W) (Ag4 ⟨rfl,rfl⟩) ?_;rintro _ _ ⟨rfl,rfl⟩;rw [V8] at h;refine Ac (λh1=>?_) (λh1=>?_);{have h1:Ic a ch=true:=h1;rw [aF h1] at h;exact h};{have h1:Ic a ch=false:=h1;rw [aJ (by rw [h1];decide)] at h;exact ih h}
theorem An3 {a d:Int}{K:Int->Wp}:∀{T:List (List (Bool×Int×Int)×Int)},K (V8 a d T) w->Aq1 a K d T w
 |[],h=>h
 | ([(true,v,u)],n)::r,h=>by
  rw [V8] at h
  have e:Ic a [(true,v,u)]=(a==v):=by simp [Ic,inR]
  rw [e] at h
  refine Ac (λh1=>?_) (λh1=>?_)
  ·have h1:(a==v)=true:=h1
   rw [aF h1] at h;exact h
  ·have h1:(a==v)=false:=h1
   rw [aJ (by rw [h1];decide)] at h;exact An3 h
 |([],n)::r,h=>An4 An3 h
 |([(false,l,u)],n)::r,h=>An4 An3 h
 | (x::y::z,n)::r,h=>by
  have:Aq1 a K d ((x::y::z,n)::r)=join (S:=Bool×Unit) (λJ=>Ul a J (x::y::z)) λs=>sif s.1 (K n) (Aq1 a K d r):=by
   obtain ⟨b,l,u⟩:=x
   cases b<;>rfl
  rw [this]
  exact An4 An3 h
def rr2:List Nat->List (Bool×Int×Int)
  |a::b::r=>(Nat.beq a b,a,b)::rr2 r
  |_=>[]
def rC1:List (List (Bool×Int×Int)×Int):=[(rr2 [13,13],1),(rr2 [10,10],2),(rr2 [0,9,11,12,14,31,127,159,173,173,1564,1564],3),(rr2 [768,879,1155,1161,1425,1469,1471,1471,1473,1474,1476,1477,1479,1479,1552,1562,1611,1631,1648,1648,1750,1756,1759,1764,1767,1768,1770,1773,1809,1809,1840,1866,1958,1968,2027,2035,2045,2045,2070,2073,2075,2083,2085,2087,2089,2093,2137,2139,2200,2207,2250,2273,2275,2306,2362,2362,2364,2364,2369,2376,2381,2381,2385,2391,2402,2403,2433,2433,2492,2492,2494,2494,2497,2500,2509,2509,2519,2519,2530,2531,2558,2558,2561,2562,2620,2620,2625,2626,2631,2632,2635,2637,2641,2641,2672,2673,2677,2677,2689,2690,2748,2748,2753,2757,2759,2760,2765,2765,2786,2787,2810,2815,2817,2817,2876,2876,2878,2879,2881,2884,2893,2893,2901,2903,2914,2915,2946,2946,3006,3006,3008,3008,3021,3021,3031,3031,3072,3072],4),(rr2 [1536,1541,1757,1757,1807,1807,2192,2193,2274,2274],7),(rr2 [2307,2307,2363,2363,2366,2368,2377,2380,2382,2383,2434,2435,2495,2496,2503,2504,2507,2508,2563,2563,2622,2624,2691,2691,2750,2752,2761,2761,2763,2764,2818,2819,2880,2880,2887,2888,2891,2892,3007,3007,3009,3010,3014,3016,3018,3020,3073,3075],8),(rr2 [169,169,174,174],14)]
def rC2:List (List (Bool×Int×Int)×Int):=[(rr2 [6158,6158,8203,8203,8206,8207,8232,8238,8288,8303],3),(rr2 [3076,3076,3132,3132,3134,3136,3142,3144,3146,3149,3157,3158,3170,3171,3201,3201,3260,3260,3263,3263,3266,3266,3270,3270,3276,3277,3285,3286,3298,3299,3328,3329,3387,3388,3390,3390,3393,3396,3405,3405,3415,3415,3426,3427,3457,3457,3530,3530,3535,3535,3538,3540,3542,3542,3551,3551,3633,3633,3636,3642,3655,3662,3761,3761,3764,3772,3784,3790,3864,3865,3893,3893,3895,3895,3897,3897,3953,3966,3968,3972,3974,3975,3981,3991,3993,4028,4038,4038,4141,4144,4146,4151,4153,4154,4157,4158,4184,4185,4190,4192,4209,4212,4226,4226,4229,4230,4237,4237,4253,4253,4957,4959,6068,6069,6071,6077,6086,6086,6089,6099,6109,6109,6155,6157,6159,6159,6313,6313,6832,6862,7616,7679,8204,8204,8400,8432],4),(rr2 [8205,8205],5),(rr2 [3406,3406],7),(rr2 [3137,3140,3202,3203,3262,3262,3264,3265,3267,3268,3271,3272,3274,3275,3315,3315,3330,3331,3391,3392,3398,3400,3402,3404,3458,3459,3536,3537,3544,3550,3570,3571,3635,3635,3763,3763,3902,3903,3967,3967,4145,4145,4155,4156,4182,4183,4228,4228,6070,6070,6078,6085,6087,6088],8),(rr2 [4352,4447],9),(rr2 [4448,4519],10),(rr2 [4520,4607],11),(rr2 [8252,8252,8265,8265,8482,8482],14)]
def rC3:List (List (Bool×Int×Int)×Int):=[(rr2 [65279,65279,65520,65531,78896,78911,113824,113827,119155,119162,917504,917535,917632,917759,918000,921599],3),(rr2 [12330,12335,12441,12442,42607,42610,42612,42621,42654,42655,42736,42737,64286,64286,65024,65039,65056,65071,65438,65439,66045,66045,119141,119141,119143,119145,119150,119154,119163,119170,119173,119179,119210,119213,127995,127999,917536,917631,917760,917999],4),(rr2 [127462,127487],6),(rr2 [69821,69821,69837,69837,70082,70083],7),(rr2 [43360,43388],9),(rr2 [55216,55238],10),(rr2 [55243,55291],11),(rr2 [8505,8505,8596,8601,8617,8618,8986,8987,9000,9000,9096,9096,9167,9167,9193,9203,9208,9210,9410,9410,9642,9643,9654,9654,9664,9664,9723,9726,9728,9733,9735,9746,9748,9861,9872,9989,9992,10002,10004,10004,10006,10006,10013,10013,10017,10017,10024,10024,10035,10036,10052,10052,10055,10055,10060,10060,10062,10062,10067,10069,10071,10071,10083,10087,10133,10135,10145,10145,10160,10160,10175,10175,10548,10549,11013,11015,11035,11036,11088,11088,11093,11093,12336,12336,12349,12349,12951,12951,12953,12953,126976,127231,127245,127247,127279,127279,127340,127345,127358,127359,127374,127374,127377,127386,127405,127461,127489,127503,127514,127514,127535,127535,127538,127546,127548,127551,127561,127994,128000,128317,128326,128591,128640,128767,128884,128895,128981,129023,129036,129039,129096,129103,129114,129119,129160,129167,129198,129279,129292,129338,129340,129349,129351,129791,130048,131069],14)]
def Y9:List (Bool×Int×Int):=rr2 [2325,2361,2392,2399,2424,2431,2453,2472,2474,2480,2482,2482,2486,2489,2524,2525,2527,2527,2544,2545,2709,2728,2730,2736,2738,2739,2741,2745,2809,2809,2837,2856,2858,2864,2866,2867,2869,2873,2908,2909,2911,2911,2929,2929,3093,3112,3114,3129,3160,3162,3349,3386]
def Ae3:List (Bool×Int×Int):=[(false,9,13),(true,32,32),(true,133,133),(true,160,160),(true,5760,5760),(false,8192,8202),(false,8232,8233),(true,8239,8239),(true,8287,8287),(true,12288,12288)]
def Y8:List (Bool×Int×Int):=rr2 [48,57,65,90,95,95,97,122,170,170,181,181,186,186,192,214,216,246,248,705,768,884,886,893,895,895,902,902,904,1013,1015,1153,1155,1327,1329,1366,1376,1416,1425,1469,1488,1514,1552,1562,1568,1641,1646,1747,1749,1756,1759,1768,1770,1788,1808,1866,2304,2403,2406,2415,2417,3571,3585,3642,3648,3662,3664,3673,3713,3807,3864,3897,3904,3972,3984,4028,4096,4169,4176,4253,4256,4346,4348,4607,4608,4959,6016,6099,7680,8188,8486,8486,8490,8491,8544,8584,12293,12295,12321,12335,12353,12438,12441,12442,12445,12447,12449,12538,12540,12543,12549,12591,12593,12686,13312,19903,19968,40959,43360,43388,44032,55203,55216,55291,63744,64255,64285,64335,65296,65305,65313,65338,65345,65370,65382,65500,66560,66639,131072,195103,196608,205743]
def slN:List (Bool×Int×Int)->Nat
 |[]=>0
 |x::r=>(if x.1 then 2 else 6)+slN r
def rgH (b:Nat):Hint:=.region [] (.ops 3 (.split (b+2) (.ops 4 .done) (.skips 2 (.ops 2 .done))))
def sgH:Hint:=.region [] (.ops 3 .done)
def chH (o:Nat):List (Bool×Int×Int)->Nat->Hint
 |[],_=>.leaf
 |[x],b=>if x.1 then sgH else rgH b
 |x::y::r,b=>if x.1 then .seq none sgH (.cond none .leaf (chH o (y::r) (b+2))) else .seq (some (2^(b+6)-2^b+2^o,[(o,.one .bool)])) (rgH b) (.cond none .leaf (chH o (y::r) (b+6)))
def rtH:Hint:=.seq none (.region [] (.ops 1 .done)) .leaf
def csH:List (List (Bool×Int×Int)×Int)->Nat->Hint
 |[],_=>.leaf
 |([(true,_)],_)::r,o=>.seq none sgH (.cond none rtH (csH r (o+3)))
 |(ch,_)::r,o=>.seq (some (2^(o+1+slN ch)-2^o,[(o,.one .bool)])) (chH o ch (o+1)) (.cond none rtH (csH r (o+1+slN ch)))
def tbH (T:List (List (Bool×Int×Int)×Int)):Hint:=.seq none (.region [] (.ops 1 .done)) (.seq none (.block (csH T 3)) rtH)
theorem Cx9 {a:Int}{K:Int->Wp}(h:K (V8 a 0 rC1) w):Aa Tryz.prog 173 #[.int .i64 a] rI K w:=by have e:Av9 tab Tryz.prog Tryz.f173 (tbH rC1) [.int .i64 a] (.one (.one (.int .i64))) K=Aq1 a K 0 rC1:=(by kernel_rfl);exact Je Ah Tryz.func173 (tbH rC1) [.int .i64 a] (.one (.one (.int .i64))) K w (by rw [e];exact An3 h)
theorem Cx8 {a:Int}{K:Int->Wp}(h:K (V8 a 0 rC2) w):Aa Tryz.prog 174 #[.int .i64 a] rI K w:=by have e:Av9 tab Tryz.prog Tryz.f174 (tbH rC2) [.int .i64 a] (.one (.one (.int .i64))) K=Aq1 a K 0 rC2:=(by kernel_rfl);exact Je Ah Tryz.func174 (tbH rC2) [.int .i64 a] (.one (.one (.int .i64))) K w (by rw [e];exact An3 h)
theorem Cx7 {a:Int}{K:Int->Wp}(h:K (V8 a 0 rC3) w):Aa Tryz.prog 175 #[.int .i64 a] rI K w:=by have e:Av9 tab Tryz.prog Tryz.f175 (tbH rC3) [.int .i64 a] (.one (.one (.int .i64))) K=Aq1 a K 0 rC3:=(by kernel_rfl);exact Je Ah Tryz.func175 (tbH rC3) [.int .i64 a] (.one (.one (.int .i64))) K w (by rw [e];exact An3 h)
theorem Bs2 {a:Int}{K:Bool->Wp}{ch:List (Bool×Int×Int)}(h:K (Ic a ch) w):join (S:=Bool×Unit) (λJ=>Ul a J ch) (λs=>sif s.1 (K true) (K false)) w:=by refine Ae (λx W=>x=(Ic a ch,())/\w=W) (Ag4 ⟨rfl,rfl⟩) ?_;rintro _ _ ⟨rfl,rfl⟩;refine Ac (λh1=>?_) (λh1=>?_);{have h1:Ic a ch=true:=h1;rw [h1] at h;exact h};{have h1:Ic a ch=false:=h1;rw [h1] at h;exact h}
theorem Ce7 {a:Int}{K:Bool->Wp}(h:K (Ic a Y9) w):Aa Tryz.prog 200 #[.int .i64 a] rB K w:=by have e:Av9 tab Tryz.prog Tryz.f200 (tbH [(Y9,1)]) [.int .i64 a] (.one (.one .bool)) K=join (S:=Bool×Unit) (λJ=>Ul a J Y9) λs=>sif s.1 (K true) (K false):=(by kernel_rfl);exact Je Ah Tryz.func200 (tbH [(Y9,1)]) [.int .i64 a] (.one (.one .bool)) K w (by rw [e];exact Bs2 h)
theorem Ce8 {a:Int}{K:Bool->Wp}(h:K (Ic a Ae3) w):Aa Tryz.prog 76 #[.int .i64 a] rB K w:=by have e:Av9 tab Tryz.prog Tryz.f76 (tbH [(Ae3,1)]) [.int .i64 a] (.one (.one .bool)) K=join (S:=Bool×Unit) (λJ=>Ul a J Ae3) λs=>sif s.1 (K true) (K false):=(by kernel_rfl);exact Je Ah Tryz.func76 (tbH [(Ae3,1)]) [.int .i64 a] (.one (.one .bool)) K w (by rw [e];exact Bs2 h)
theorem Ce6 {a:Int}{K:Bool->Wp}(h:K (Ic a Y8) w):Aa Tryz.prog 77 #[.int .i64 a] rB K w:=by have e:Av9 tab Tryz.prog Tryz.f77 (tbH [(Y8,1)]) [.int .i64 a] (.one (.one .bool)) K=join (S:=Bool×Unit) (λJ=>Ul a J Y8) λs=>sif s.1 (K true) (K false):=(by kernel_rfl);exact Je Ah Tryz.func77 (tbH [(Y8,1)]) [.int .i64 a] (.one (.one .bool)) K w (by rw [e];exact Bs2 h)
end Rgl
end
section
open Cdc Gly
namespace Rgl
def rl3:List Nat->List Row
  |a::b::c::r=>⟨a,b,c⟩::rl3 r
  |_=>[]
def Aq0:List Row:=rl3 [0,9,3,10,10,2,11,12,3,13,13,1,14,31,3,127,159,3,169,169,14,173,173,3,174,174,14,768,879,4,1155,1161,4,1425,1469,4,1471,1471,4,1473,1474,4,1476,1477,4,1479,1479,4,1536,1541,7,1552,1562,4,1564,1564,3,1611,1631,4,1648,1648,4,1750,1756,4,1757,1757,7,1759,1764,4,1767,1768,4,1770,1773,4,1807,1807,7,1809,1809,4,1840,1866,4,1958,1968,4,2027,2035,4,2045,2045,4,2070,2073,4,2075,2083,4,2085,2087,4,2089,2093,4,2137,2139,4,2192,2193,7,2200,2207,4,2250,2273,4,2274,2274,7,2275,2306,4,2307,2307,8,2362,2362,4,2363,2363,8,2364,2364,4,2366,2368,8,2369,2376,4,2377,2380,8,2381,2381,4,2382,2383,8,2385,2391,4,2402,2403,4,2433,2433,4,2434,2435,8,2492,2492,4,2494,2494,4,2495,2496,8,2497,2500,4,2503,2504,8,2507,2508,8,2509,2509,4,2519,2519,4,2530,2531,4,2558,2558,4,2561,2562,4,2563,2563,8,2620,2620,4,2622,2624,8,2625,2626,4,2631,2632,4,2635,2637,4,2641,2641,4,2672,2673,4,2677,2677,4,2689,2690,4,2691,2691,8,2748,2748,4,2750,2752,8,2753,2757,4,2759,2760,4,2761,2761,8,2763,2764,8,2765,2765,4,2786,2787,4,2810,2815,4,2817,2817,4,2818,2819,8,2876,2876,4,2878,2879,4,2880,2880,8,2881,2884,4,2887,2888,8,2891,2892,8,2893,2893,4,2901,2903,4,2914,2915,4,2946,2946,4,3006,3006,4,3007,3007,8,3008,3008,4,3009,3010,8,3014,3016,8,3018,3020,8,3021,3021,4,3031,3031,4,3072,3072,4,3073,3075,8,3076,3076,4,3132,3132,4,3134,3136,4,3137,3140,8,3142,3144,4,3146,3149,4,3157,3158,4,3170,3171,4,3201,3201,4,3202,3203,8,3260,3260,4,3262,3262,8,3263,3263,4,3264,3265,8,3266,3266,4,3267,3268,8,3270,3270,4,3271,3272,8,3274,3275,8,3276,3277,4,3285,3286,4,3298,3299,4,3315,3315,8,3328,3329,4,3330,3331,8,3387,3388,4,3390,3390,4,3391,3392,8,3393,3396,4,3398,3400,8,3402,3404,8,3405,3405,4,3406,3406,7,3415,3415,4,3426,3427,4,3457,3457,4,3458,3459,8,3530,3530,4,3535,3535,4,3536,3537,8,3538,3540,4,3542,3542,4,3544,3550,8,3551,3551,4,3570,3571,8,3633,3633,4,3635,3635,8,3636,3642,4,3655,3662,4,3761,3761,4,3763,3763,8,3764,3772,4,3784,3790,4,3864,3865,4,3893,3893,4,3895,3895,4,3897,3897,4,3902,3903,8,3953,3966,4,3967,3967,8,3968,3972,4,3974,3975,4,3981,3991,4,3993,4028,4,4038,4038,4,4141,4144,4,4145,4145,8,4146,4151,4,4153,4154,4,4155,4156,8,4157,4158,4,4182,4183,8,4184,4185,4,4190,4192,4,4209,4212,4,4226,4226,4,4228,4228,8,4229,4230,4,4237,4237,4,4253,4253,4,4352,4447,9,4448,4519,10,4520,4607,11,4957,4959,4,6068,6069,4,6070,6070,8,6071,6077,4,6078,6085,8,6086,6086,4,6087,6088,8,6089,6099,4,6109,6109,4,6155,6157,4,6158,6158,3,6159,6159,4,6313,6313,4,6832,6862,4,7616,7679,4,8203,8203,3,8204,8204,4,8205,8205,5,8206,8207,3,8232,8238,3,8252,8252,14,8265,8265,14,8288,8303,3,8400,8432,4,8482,8482,14,8505,8505,14,8596,8601,14,8617,8618,14,8986,8987,14,9000,9000,14,9096,9096,14,9167,9167,14,9193,9203,14,9208,9210,14,9410,9410,14,9642,9643,14,9654,9654,14,9664,9664,14,9723,9726,14,9728,9733,14,9735,9746,14,9748,9861,14,9872,9989,14,9992,10002,14,10004,10004,14,10006,10006,14,10013,10013,14,10017,10017,14,10024,10024,14,10035,10036,14,10052,10052,14,10055,10055,14,10060,10060,14,10062,10062,14,10067,10069,14,10071,10071,14,10083,10087,14,10133,10135,14,10145,10145,14,10160,10160,14,10175,10175,14,10548,10549,14,11013,11015,14,11035,11036,14,11088,11088,14,11093,11093,14,12330,12335,4,12336,12336,14,12349,12349,14,12441,12442,4,12951,12951,14,12953,12953,14,42607,42610,4,42612,42621,4,42654,42655,4,42736,42737,4,43360,43388,9,55216,55238,10,55243,55291,11,64286,64286,4,65024,65039,4,65056,65071,4,65279,65279,3,65438,65439,4,65520,65531,3,66045,66045,4,69821,69821,7,69837,69837,7,70082,70083,7,78896,78911,3,113824,113827,3,119141,119141,4,119143,119145,4,119150,119154,4,119155,119162,3,119163,119170,4,119173,119179,4,119210,119213,4,126976,127231,14,127245,127247,14,127279,127279,14,127340,127345,14,127358,127359,14,127374,127374,14,127377,127386,14,127405,127461,14,127462,127487,6,127489,127503,14,127514,127514,14,127535,127535,14,127538,127546,14,127548,127551,14,127561,127994,14,127995,127999,4,128000,128317,14,128326,128591,14,128640,128767,14,128884,128895,14,128981,129023,14,129036,129039,14,129096,129103,14,129114,129119,14,129160,129167,14,129198,129279,14,129292,129338,14,129340,129349,14,129351,129791,14,130048,131069,14,917504,917535,3,917536,917631,4,917632,917759,3,917760,917999,4,918000,921599,3]
def Bp4:List Row:=rl3 [2325,2361,1,2392,2399,1,2424,2431,1,2453,2472,1,2474,2480,1,2482,2482,1,2486,2489,1,2524,2525,1,2527,2527,1,2544,2545,1,2709,2728,1,2730,2736,1,2738,2739,1,2741,2745,1,2809,2809,1,2837,2856,1,2858,2864,1,2866,2867,1,2869,2873,1,2908,2909,1,2911,2911,1,2929,2929,1,3093,3112,1,3114,3129,1,3160,3162,1,3349,3386,1]
def Di8:List Row:=rl3 [9,13,1,32,32,1,48,57,2,65,90,2,95,95,2,97,122,2,133,133,1,160,160,1,170,170,2,181,181,2,186,186,2,192,214,2,216,246,2,248,705,2,768,884,2,886,893,2,895,895,2,902,902,2,904,1013,2,1015,1153,2,1155,1327,2,1329,1366,2,1376,1416,2,1425,1469,2,1488,1514,2,1552,1562,2,1568,1641,2,1646,1747,2,1749,1756,2,1759,1768,2,1770,1788,2,1808,1866,2,2304,2403,2,2406,2415,2,2417,3571,2,3585,3642,2,3648,3662,2,3664,3673,2,3713,3807,2,3864,3897,2,3904,3972,2,3984,4028,2,4096,4169,2,4176,4253,2,4256,4346,2,4348,4607,2,4608,4959,2,5760,5760,1,6016,6099,2,7680,8188,2,8192,8202,1,8232,8233,1,8239,8239,1,8287,8287,1,8486,8486,2,8490,8491,2,8544,8584,2,12288,12288,1,12293,12295,2,12321,12335,2,12353,12438,2,12441,12442,2,12445,12447,2,12449,12538,2,12540,12543,2,12549,12591,2,12593,12686,2,13312,19903,2,19968,40959,2,43360,43388,2,44032,55203,2,55216,55291,2,63744,64255,2,64285,64335,2,65296,65305,2,65313,65338,2,65345,65370,2,65382,65500,2,66560,66639,2,131072,195103,2,196608,205743,2]
theorem Bx5:Df1=Aq0:=by kernel_rfl
theorem Bx4:Cy9=Bp4:=by kernel_rfl
theorem Cu5:By8=Di8:=by kernel_rfl
theorem greatest:∀(L:List Nat) (s n:Nat),s<=n->∃b,(b=s\/b∈L)/\s<=b/\b<=n/\∀c∈L,c<=n->c<=b
 |[],s,n,h=>⟨s,.inl rfl,fJ _,h,λc hc=>by cases hc⟩
 |x::L,s,n,h=>by
  obtain ⟨b,h1,h2,h3,h4⟩:=greatest L s n h
  by_cases hx:x<=n/\b<x
  ·exact ⟨x,.inr aH,by omega,hx.1,λc hc hcn=>by
    rcases aG.1 hc with rfl|hc
    ·exact fJ _
    ·have:=h4 c hc hcn;omega⟩
  ·exact ⟨b,h1.imp id (aI _),h2,h3,λc hc hcn=>by
    rcases aG.1 hc with rfl|hc
    ·omega
    ·exact h4 c hc hcn⟩
def ends (T:List Row):List Nat:=T.flatMap λr=>[r.lo,r.hi+1]
theorem Va:∀{T:List Row}{b n:Nat},b<=n->(∀c∈ends T,c<=n->c<=b)->La T n=La T b
 |[],_,_,_,_=>rfl
 | r::T,b,n,hb,h=>by
  have h1:r.lo<=n->r.lo<=b:=h r.lo (by simp [ends])
  have h2:r.hi+1<=n->r.hi+1<=b:=h (r.hi+1) (by simp [ends])
  have ih:=Va (T:=T) hb λc hc=>h c (by
   unfold ends at hc ⊢
   rw [iD]
   exact bY _ hc)
  have e:(Nat.ble r.lo n&&Nat.ble n r.hi)=(Nat.ble r.lo b&&Nat.ble b r.hi):=by
   rw [gV]
   simp only [aV,nD]
   omega
  rw [La,La,e,ih]
def chk (A B:List Row) (s e:Nat):Bool:=(s::(ends A++ends B)).all λb=>!(Nat.ble s b&&Nat.ble (b+1) e)||Nat.beq (La A b) (La B b)
theorem O7 {A B:List Row}{s e:Nat}(h:chk A B s e=true){n:Nat}(h1:s<=n) (h2:n<e):La A n=La B n:=by
 obtain ⟨b,hb,g1,g2,g3⟩:=greatest (ends A++ends B) s n h1;have hm:b∈s::(ends A++ends B):=by
  rcases hb with rfl|hb
  ·exact aH
  ·exact aI _ hb
 have:=aS.1 h b hm;simp only [bM,dX,oU,Nat.beq_eq_true_eq] at this;rw [Va g2 λc hc=>g3 c (bQ _ hc),Va g2 λc hc=>g3 c (bY _ hc)];rcases this with (h|h)|h;{(have:Nat.ble s b=true:=by rw [nD];exact g1);rw [this] at h;cases h};{(have:Nat.ble (b+1) e=true:=by rw [nD];omega);rw [this] at h;cases h};{exact bP h}
def O9 (ch:List (Bool×Int×Int)) (n:Nat):List Row:=ch.map λx=>⟨x.2.1.toNat,x.2.2.toNat,n⟩
def Ai8 (T:List (List (Bool×Int×Int)×Int)):List Row:=T.flatMap λp=>O9 p.1 p.2.toNat
def Cd0 (ch:List (Bool×Int×Int)):Bool:=ch.all λx=>decide (0<=x.2.1)&&decide (0<=x.2.2)&&(!x.1||x.2.1==x.2.2)
def Cm6 (T:List (List (Bool×Int×Int)×Int)):Bool:=T.all λp=>decide (0<=p.2)&&Cd0 p.1
theorem Cx3 {a:Int}(ha:0<=a){x:Bool×Int×Int}(h:(decide (0<=x.2.1)&&decide (0<=x.2.2)&&(!x.1||x.2.1==x.2.2))=true):inR a x=(Nat.ble x.2.1.toNat a.toNat&&Nat.ble a.toNat x.2.2.toNat):=by
 obtain ⟨b,l,u⟩:=x;simp only [aV,iI,bM,dX,jM] at h;unfold inR;rw [gV];cases b with
 |true=>simp only [aP,jM,aV,nD];(have:l=u:=by rcases h.2 with h|h;cases h;exact h);omega
 |false=>simp only [dO,dP,aV,iI,nD];omega
theorem Rf {a:Int}(ha:0<=a) (n:Nat) (R:List Row):∀{ch:List (Bool×Int×Int)},Cd0 ch=true->La (O9 ch n++R) a.toNat=if Ic a ch then n else La R a.toNat
 |[],_=>rfl
 |x::ch,h=>by
  unfold Cd0 at h
  rw [aY,aV] at h
  have e:=Cx3 ha h.1
  have ih:=Rf ha n R (ch:=ch) h.2
  have e2:O9 (x::ch) n++R=⟨x.2.1.toNat,x.2.2.toNat,n⟩::(O9 ch n++R):=rfl
  have e3:Ic a (x::ch)=(inR a x||Ic a ch):=rfl
  rw [e2,La,ih,e3,←e]
  cases inR a x<;>simp
theorem V7 {a:Int}(ha:0<=a):∀{T:List (List (Bool×Int×Int)×Int)},Cm6 T=true->V8 a 0 T=(La (Ai8 T) a.toNat:Nat)
 |[],_=>rfl
 |(ch,n)::T,h=>by
  unfold Cm6 at h
  rw [aY,aV,aV,iI] at h
  have ih:=V7 ha (T:=T) h.2
  have e2:Ai8 ((ch,n)::T)=O9 ch n.toNat++Ai8 T:=rfl
  rw [V8,e2,Rf ha n.toNat (Ai8 T) h.1.2,ih]
  split
  ·have:=h.1.1;dsimp only at this;omega
  ·rfl
theorem ok1:Cm6 rC1=true:=by kernel_rfl
theorem ok2:Cm6 rC2=true:=by kernel_rfl
theorem ok3:Cm6 rC3=true:=by kernel_rfl
theorem Dh8:Cd0 Y9=true:=by kernel_rfl
theorem Dh9:Cd0 Ae3=true:=by kernel_rfl
theorem Dh7:Cd0 Y8=true:=by kernel_rfl
theorem Dz1:chk Aq0 (Ai8 rC1) 0 3076=true:=by kernel_rfl
theorem Dz0:chk Aq0 (Ai8 rC2) 3076 8505=true:=by kernel_rfl
theorem Dy9:chk Aq0 (Ai8 rC3) 8505 1114112=true:=by kernel_rfl
theorem Df3:chk Bp4 (O9 Y9 1) 0 1114112=true:=by kernel_rfl
theorem Df2:chk Di8 (O9 Ae3 1++O9 Y8 2) 0 1114112=true:=by kernel_rfl
end Rgl
end
section
open Go Go.Vx Cdc Gly Rgl
namespace Rgl
theorem Cz0 {a:Int}(hs:Scalar a) (hh:¬(44032<=a/\a<55204)):(cls a:Int)=if a<3076 then V8 a 0 rC1 else if a<8505 then V8 a 0 rC2 else V8 a 0 rC3:=by have ha:0<=a:=(by rcases hs with h|h<;>omega);have hb:a.toNat<1114112:=(by rcases hs with h|h<;>omega);(have e:cls a=La Aq0 a.toNat:=by unfold cls;rw [aF hs,aJ hh,Bx5]);rw [e];split;{rw [V7 ha ok1,O7 Dz1 (iW _) (by omega)]};{split;{rw [V7 ha ok2,O7 Dz0 (by omega) (by omega)]};{rw [V7 ha ok3,O7 Dy9 (by omega) (by omega)]}}
theorem Ba3 {a:Int}(hs:Scalar a):La Cy9 a.toNat=if Ic a Y9 then 1 else 0:=by have ha:0<=a:=(by rcases hs with h|h<;>omega);have hb:a.toNat<1114112:=(by rcases hs with h|h<;>omega);rw [Bx4,O7 Df3 (iW _) hb];have:=Rf ha 1 [] Dh8;rw [kM] at this;exact this
theorem Cy8:(Y9.all λx=>decide (0<=x.2.1)&&decide (x.2.2<44032)&&(!x.1||x.2.1==x.2.2))=true:=by kernel_rfl
theorem Df0 {a:Int}(h:Ic a Y9=true):0<=a/\a<44032:=by
 obtain ⟨x,hx,h⟩:=bK.1 h;have:=aS.1 Cy8 x hx;obtain ⟨b,l,u⟩:=x;simp only [aV,iI,bM,dX,jM] at this;unfold inR at h;cases b with
 |true=>simp at h this;omega
 |false=>simp at h;omega
def Dj6:Bool:=(0::(ends Bp4++ends Aq0)).all λb=>Nat.beq (La Bp4 b) 0||Nat.beq (La Aq0 b) 0
theorem Cr3:Dj6=true:=by kernel_rfl
theorem Cg0 {n:Nat}(h:La Bp4 n≠0):La Aq0 n=0:=by
 obtain ⟨b,hb,g1,g2,g3⟩:=greatest (ends Bp4++ends Aq0) 0 n (iW _);have hm:b∈0::(ends Bp4++ends Aq0):=by
  rcases hb with rfl|hb
  ·exact aH
  ·exact aI _ hb
 have:=aS.1 Cr3 b hm;simp only [bM] at this;rw [Va g2 λc hc=>g3 c (bQ _ hc)] at h;rw [Va g2 λc hc=>g3 c (bY _ hc)];rcases this with q|q;{exact absurd (bP q) h};{exact bP q}
theorem Bx3 {a:Int}(h:Ic a Y9=true):Scalar a/\cls a=0:=by obtain ⟨h1,h2⟩:=Df0 h;have hs:Scalar a:=.inl ⟨h1,by omega⟩;refine ⟨hs,?_⟩;have:=Ba3 hs;rw [h,aF rfl,Bx4] at this;unfold cls;rw [aF hs,aJ (by omega),Bx5];exact Cg0 (by omega)
theorem Cq8:Ic 8204 Y9=false:=by kernel_rfl
theorem V6 (a:Int):cnj a=if a=2381\/a=2509\/a=2765\/a=2893\/a=3149\/a=3405 then 3 else if (cls a=4\/cls a=5)/\a≠8204 then 2 else if Ic a Y9 then 1 else 0:=by
 unfold cnj;split;{rfl};by_cases h2:a=8204;{subst h2;rw [aF rfl,aJ (λh=>h.2 rfl),Cq8];rfl}
 ·rw [aJ h2];by_cases h3:cls a=4\/cls a=5;{rw [aF h3,aF ⟨h3,h2⟩]}
  ·rw [aJ h3,aJ (show ¬((cls a=4\/cls a=5)/\a≠8204) from λh=>h3 h.1)];cases h4:Ic a Y9 with
   |true=>obtain ⟨g1,g2⟩:=Bx3 h4;rw [aF ⟨g2,g1⟩,Ba3 g1,h4]
   |false=>split;{rename_i h5;rw [Ba3 h5.2,h4]};{rfl}
theorem Cu4:((Ae3++Y8).all λx=>decide (0<=x.2.1)&&(decide (x.2.2<55296)||(decide (57343<x.2.1)&&decide (x.2.2<1114112)))&&(!x.1||x.2.1==x.2.2))=true:=by kernel_rfl
theorem Ci3 {a:Int}(h:Ic a Ae3=true\/Ic a Y8=true):Scalar a:=by
 obtain ⟨x,hx,h⟩:∃x∈Ae3++Y8,inR a x=true:=by
  rcases h with h|h
  ·obtain ⟨x,hx,h⟩:=bK.1 h;exact ⟨x,bQ _ hx,h⟩
  ·obtain ⟨x,hx,h⟩:=bK.1 h;exact ⟨x,bY _ hx,h⟩
 have:=aS.1 Cu4 x hx;obtain ⟨b,l,u⟩:=x;simp only [aV,iI,bM,dX,jM] at this;unfold inR at h;unfold Scalar;cases b with
 |true=>simp at h this;omega
 |false=>simp at h;omega
theorem Cu3 (a:Int):wrd a=if Ic a Ae3 then 0 else if Ic a Y8 then 2 else 1:=by
 by_cases hs:Scalar a;{have ha:0<=a:=(by rcases hs with h|h<;>omega);have hb:a.toNat<1114112:=(by rcases hs with h|h<;>omega);have e1:=Rf ha 1 (O9 Y8 2) Dh9;have e2:=Rf ha 2 [] Dh7;rw [kM] at e2;rw [e2] at e1;unfold wrd;rw [aF hs,Cu5,O7 Df2 (iW _) hb,e1];cases Ic a Ae3<;>cases Ic a Y8<;>rfl}
 ·unfold wrd;rw [aJ hs];cases h1:Ic a Ae3 with
  |true=>exact absurd (Ci3 (.inl h1)) hs
  |false =>
   cases h2:Ic a Y8 with
   |true=>exact absurd (Ci3 (.inr h2)) hs
   |false=>rfl
end Rgl
section
variable {w:World}
theorem Ap7 {a:Int}{K:Bool->Wp}(h:K (decide (Scalar a)) w):Aa Tryz.prog 172 #[.int .i64 a] rB K w:=by
 refine Ei3 ?_;unfold F172;have g:∀{b:Bool},(b=true↔Scalar a)->K b w:=λ{b} hb=>by
  have e:decide (Scalar a)=b:=by
   rw [gV,iI];exact hb.symm
  rw [e] at h;exact h
 refine Ac (λh1=>Ac (λh2=>Ac (λh3=>g ?_) (λh3=>g ?_)) (λh2=>g ?_)) (λh1=>g ?_);(all_goals simp only [iI,iH,jT,kG,dO,lQ,lS] at *);(all_goals unfold Scalar);all_goals omega
theorem Ih {a:Int}{K:Int->Wp}(h:K ((cls a:Nat):Int) w):Aa Tryz.prog 125 #[.int .i64 a] rI K w:=by refine Em9 ?_;unfold F125;refine Ap7 ?_;refine Ac (λhn=>?_) (λhn=>?_);{simp only [dX,iH] at hn;(have:cls a=3:=by unfold cls;rw [aJ hn]);rw [this] at h;exact h};{simp only [nO,iI] at hn;have h0:0<=a:=(by rcases hn with q|q<;>omega);refine Ae (λx W=>x=(decide (44032<=a/\a<55204),())/\w=W) (Ac (λh1=>⟨Az ?_,rfl⟩) (λh1=>⟨Az ?_,rfl⟩)) ?_;{simp only [iI,jT] at *;omega};{simp only [iI,iH,jT,dO,lS] at *;omega};rintro _ _ ⟨rfl,rfl⟩;refine Ac (λhh=>?_) (λhh=>?_);{simp only [iI] at hh;refine Dc (by decide) ?_;(have e:cls a=if (a.toNat-44032)%28=0 then 12 else 13:=by unfold cls;rw [aF hn,aF hh]);rw [e] at h;rw [wrap64 (by omega) (by omega),mV (by omega)];refine Ac (λh1=>?_) (λh1=>?_);{simp only [jM] at h1;rw [aF (by omega)] at h;exact h};{simp only [jO,ne_eq] at h1;rw [aJ (by omega)] at h;exact h}};{simp only [iH] at hh;rw [Cz0 hn hh] at h;refine Ac (λh1=>?_) (λh1=>?_);{simp only [iI] at h1;rw [aF h1] at h;exact Cx9 h};{simp only [iH] at h1;rw [aJ h1] at h;refine Ac (λh2=>?_) (λh2=>?_);{simp only [iI] at h2;rw [aF h2] at h;exact Cx8 h};{simp only [iH] at h2;rw [aJ h2] at h;exact Cx7 h}}}}
theorem Aj3 {a:Int}{K:Int->Wp}(h:K ((cnj a:Nat):Int) w):Aa Tryz.prog 176 #[.int .i64 a] rI K w:=by refine Ei2 ?_;unfold F176;rw [V6] at h;refine Ae (λx W=>x=(decide (a=2381\/a=2509\/a=2765\/a=2893\/a=3149\/a=3405),())/\w=W) ?_ ?_;{refine Ac (λh1=>⟨Az ?_,rfl⟩) λh1=>Ac (λh2=>⟨Az ?_,rfl⟩) λh2=>Ac (λh3=>⟨Az ?_,rfl⟩) λh3=>Ac (λh4=>⟨Az ?_,rfl⟩) λh4=>Ac (λh5=>⟨Az ?_,rfl⟩) λh5=>⟨Az ?_,rfl⟩;(all_goals simp only [jM,jO,ne_eq,iI,lQ] at *);all_goals omega};rintro _ _ ⟨rfl,rfl⟩;refine Ac (λh1=>?_) (λh1=>?_);{simp only [iI] at h1;rw [aF h1] at h;exact h};simp only [iH] at h1;rw [aJ h1] at h;refine Ih ?_;refine Ae (λx W=>x=(decide ((cls a=4\/cls a=5)/\a≠8204),())/\w=W) ?_ ?_;{refine Ac (λh1=>⟨Az ?_,rfl⟩) λh1=>Ac (λh2=>⟨Az ?_,rfl⟩) λh2=>⟨Az ?_,rfl⟩;(all_goals simp only [jM,jO,mX,ne_eq,iI,dO,lS] at *);all_goals omega};rintro _ _ ⟨rfl,rfl⟩;refine Ac (λh1=>?_) (λh1=>?_);{simp only [iI] at h1;rw [aF h1] at h;exact h};simp only [iH] at h1;rw [aJ h1] at h;refine Ce7 (Ac (λh2=>?_) (λh2=>?_));{rw [h2] at h;exact h};{rw [h2] at h;exact h}
theorem Bm7 {a:Int}{K:Int->Wp}(h:K ((wrd a:Nat):Int) w):Aa Tryz.prog 33 #[.int .i64 a] rI K w:=by refine A33 ?_;unfold F33;rw [Cu3] at h;refine Ce8 (Ac (λh1=>?_) (λh1=>Ce6 (Ac (λh2=>?_) (λh2=>?_))));{rw [h1] at h;exact h};{rw [h1,h2] at h;exact h};{rw [h1,h2] at h;exact h}
end
end
section
open Gly Clu Rgl
namespace Clu
def sN (l:List Int):Sc:=l.foldl (λs a=>s.note (cls a) (cnj a)) Sc.zero
theorem Qe (l:List Int) (a:Int):sN (l++[a])=(sN l).note (cls a) (cnj a):=by simp [sN]
theorem Cw9:(([2381,2509,2765,2893,3149,3405]:List Int).all λa=>cls a==4)=true:=by kernel_rfl
theorem Dj3 {a:Int}(h:cnj a=3):cls a=4:=by rw [V6] at h;split at h;{rename_i hl;have:=aS.1 Cw9 a (by simp;omega);simpa using this};{split at h;{omega};{split at h<;>omega}}
theorem Dj4 {a:Int}(h:cnj a=2):cls a=4\/cls a=5:=by rw [V6] at h;split at h;{omega};{split at h;{rename_i hx;exact hx.1};{split at h<;>omega}}
theorem Dy8 {a:Int}(h:cnj a=1):cls a=0:=by rw [V6] at h;split at h;{omega};{split at h;{omega};{split at h;{rename_i hx;exact (Bx3 hx).2};{omega}}}
theorem Cr0 (a:Int):cnj a<=3:=by rw [V6];split;{omega};{split;{omega};{split<;>omega}}
structure NOk (s:Sc):Prop where
 fl:0<s.flags->s.last=6
 pi:0<s.pict->s.last=14\/s.last=4\/s.last=5
 co:0<s.conj->s.last=0\/s.last=4\/s.last=5
theorem Cn1 {s:Sc}(a:Int):NOk (s.note (cls a) (cnj a)):=by
 refine ⟨λh=>?_,λh=>?_,λh=>?_⟩
 ·simp only [Sc.note] at h ⊢
  split at h
  ·assumption
  ·omega
 ·simp only [Sc.note] at h ⊢
  split at h
  ·omega
  ·split at h
   ·omega
   ·split at h<;>omega
 ·simp only [Sc.note] at h ⊢
  split at h
  ·exact .inl (Dy8 ‹_›)
  ·split at h
   ·exact .inr (.inl (Dj3 (by omega)))
   ·split at h
    ·exact .inr (Dj4 (by omega))
    ·omega
theorem nok (l:List Int):NOk (sN l):=by rcases qA l with rfl|⟨m,a,rfl⟩;{exact ⟨λh=>by simp [sN,Sc.zero] at h,λh=>by simp [sN,Sc.zero] at h,λh=>by simp [sN,Sc.zero] at h⟩};{rw [qB,Qe];exact Cn1 a}
structure Alike (s t:Sc):Prop where
 la:s.last=t.last
 fl:s.flags%2=t.flags%2
 pi:s.pict=t.pict
 co:s.conj=t.conj
theorem Bt0 {s t:Sc}(h:Alike s t) (c p:Nat):Alike (s.note c p) (t.note c p):=by obtain ⟨h1,h2,h3,h4⟩:=h;refine ⟨rfl,?_,?_,?_⟩;{simp only [Sc.note];split<;>omega};{simp only [Sc.note,h3]};{simp only [Sc.note,h4]}
theorem Ae2 {s t:Sc}(h:Alike s t) (c p:Nat):joins s c p=joins t c p:=by obtain ⟨h1,h2,h3,h4⟩:=h;unfold joins;rw [h1,h2,h3,h4]
theorem Cd2 (s:Sc) (c p:Nat):(s.note c p).conj=(if p=1 then 1 else if 0<s.conj/\p=3 then 2 else if 0<s.conj/\p=2 then s.conj else 0):=rfl
theorem As5 (s:Sc) (c p:Nat):(s.note c p).pict=(if c=14 then 1 else if s.pict=1/\c=5 then 2 else if s.pict=1/\c=4 then s.pict else 0):=rfl
theorem Cd1 (c p:Nat):(Sc.zero.note c p).flags=(if c=6 then 1 else 0)/\(Sc.zero.note c p).pict=(if c=14 then 1 else 0)/\(Sc.zero.note c p).conj=(if p=1 then 1 else 0):=by simp [Sc.note,Sc.zero]
theorem alike (l:List Int):Alike (sc l) (sN l):=by
 have key : ∀n (l:List Int),l.length=n->Alike (sc l) (sN l):=by
  intro n
  induction n with
  |zero=>intro l hl;obtain rfl:=bF.1 hl;exact ⟨rfl,rfl,rfl,rfl⟩
  | succ n ih =>
   intro l hl;rcases qA l with rfl|⟨m,a,rfl⟩;{simp at hl};rw [qB] at hl ⊢;have ih:=ih m (by rw [iE] at hl;simpa using hl);rw [O6,Qe];cases hj:joins (sc m) (cls a) (cnj a) with
   |true=>rw [Ar0 hj];exact Bt0 ih _ _
   | false =>
    rw [Bt5 hj,Ah4];have hN:=nok m;rw [Ae2 ih] at hj;obtain ⟨n1,n2,n3⟩:=hN;generalize sN m=t at *;have c3:=Dj3 (a:=a);have c2:=Dj4 (a:=a);have hle:=Cr0 a;generalize cls a=c at *;generalize cnj a=p at *;have hap:c=4\/c=5->apart t.last=true:=by
     intro hc
     unfold joins at hj
     split at hj
     ·cases hj
     ·split at hj
      ·rename_i hap
       rcases hap with h|h
       ·exact h
       ·simp only [apart,iI] at h;omega
      ·rw [aF (by omega)] at hj;cases hj
    have hap2:apart t.last=true->t.flags=0/\t.pict=0/\t.conj=0:=by
     intro h
     simp only [apart,iI] at h
     refine ⟨?_,?_,?_⟩
     ·rcases lC t.flags with q|q
      ·exact q
      ·have:=n1 q;omega
     ·rcases lC t.pict with q|q
      ·exact q
      ·have:=n2 q;omega
     ·rcases lC t.conj with q|q
      ·exact q
      ·have:=n3 q;omega
    obtain ⟨z1,z2,z3⟩:=Cd1 c p;refine ⟨rfl,?_,?_,?_⟩
    ·rw [z1];simp only [Sc.note];by_cases hc:c=6
     ·have : t.flags%2=0:=by
       subst hc
       unfold joins at hj
       split at hj
       ·cases hj
       ·split at hj
        ·rename_i hap'
         rcases hap' with h|h
         ·rw [(hap2 h).1]
         ·simp [apart] at h
        ·split at hj
         ·cases hj
         ·split at hj
          ·cases hj
          ·split at hj
           ·cases hj
           ·simp at hj;omega
      rw [aF hc,aF hc];omega
     {rw [aJ hc,aJ hc]}
    {rw [z2];simp only [Sc.note];by_cases h14:c=14;{rw [aF h14,aF h14]};{rw [aJ h14,aJ h14];by_cases hc:c=4\/c=5;{have:=(hap2 (hap hc)).2.1;rw [aJ (λq=>by have:=q.1;omega),aJ (λq=>by have:=q.1;omega)]};{rw [aJ (λq=>by have:=q.2;omega),aJ (λq=>by have:=q.2;omega)]}}}
    ·rw [z3];simp only [Sc.note];by_cases h1:p=1;{rw [aF h1,aF h1]}
     ·rw [aJ h1,aJ h1];by_cases hp:p=3\/p=2
      ·have h45:c=4\/c=5:=by
        rcases hp with h|h
        ·exact .inl (c3 h)
        ·exact c2 h
       have:=(hap2 (hap h45)).2.2;rw [aJ (λq=>by have:=q.1;omega),aJ (λq=>by have:=q.1;omega)]
      {rw [aJ (λq=>by have:=q.2;omega),aJ (λq=>by have:=q.2;omega)]}
 exact key _ l rfl
def Xk:List Int->Nat->Bool
 |[],_=>false
 |a::r,n=>if cnj a≠3/\cnj a≠2 then decide (0<n)&&(cnj a==1) else Xk r (if cnj a=3 then n+1 else n)
def Uu:List Int->Bool
 |[]=>false
 |a::r=>if cls a≠4 then cls a==14 else Uu r
def Vf:List Int->Nat
 |[]=>0
 |a::r=>if cls a≠6 then 0 else Vf r+1
theorem Bi5:∀(r:List Int) (n:Nat),Xk r n=((sN r.reverse).conj==2||((sN r.reverse).conj==1&&decide (0<n)))
 |[],n=>by simp [Xk,sN,Sc.zero]
 | a :: r,n=>by
  rw [qC,Qe,Xk]
  have hle:=Cr0 a
  rw [Cd2]
  by_cases h:cnj a≠3/\cnj a≠2
  ·rw [aF h]
   by_cases h1:cnj a=1
   ·rw [h1];simp
   ·have h0:cnj a=0:=by omega
    rw [h0];simp
  ·rw [aJ h,Bi5 r]
   have c2:(sN r.reverse).conj<=2:=by
    have key:∀l:List Int,(sN l).conj<=2:=by
     intro l
     have:∀n (l:List Int),l.length=n->(sN l).conj<=2:=by
      intro n
      induction n with
      |zero=>intro l hl;rw [bF.1 hl];simp [sN,Sc.zero]
      | succ n ih =>
       intro l hl
       rcases qA l with rfl|⟨m,b,rfl⟩
       ·simp at hl
       rw [qB] at hl ⊢
       have:=ih m (by rw [iE] at hl;simpa using hl)
       rw [Qe]
       simp only [Sc.note]
       split
       ·omega
       ·split
        ·omega
        ·split<;>omega
     exact this _ l rfl
    exact key _
   generalize (sN r.reverse).conj=t at *
   by_cases h3:cnj a=3
   ·rw [h3]
    match t,c2 with
    |0,_=>simp
    |1,_=>simp
    |2,_=>simp
   ·have h2:cnj a=2:=by omega
    rw [h2]
    match t,c2 with
    |0,_=>simp
    |1,_=>simp
    |2,_=>simp
theorem Be5:∀(r:List Int),Uu r=((sN r.reverse).pict==1)
 |[]=>by simp [Uu,sN,Sc.zero]
 | a::r=>by
  rw [qC,Qe,Uu,As5]
  by_cases h:cls a≠4
  ·rw [aF h]
   by_cases h14:cls a=14
   ·rw [h14];simp
   ·have:(cls a==14)=false:=by rw [jO];exact h14
    rw [this,aJ h14]
    split
    ·rfl
    ·rw [aJ (λq=>h q.2)];rfl
  ·rw [aJ h,Be5 r]
   have h4:cls a=4:=by omega
   rw [h4,aJ (by decide),aJ (by omega)]
   by_cases hp:(sN r.reverse).pict=1
   ·rw [aF ⟨hp,rfl⟩]
   ·rw [aJ (λq=>hp q.1)];simp [hp]
theorem Bg9:∀(r:List Int),Vf r=(sN r.reverse).flags
 |[]=>rfl
 |a::r=>by
  rw [qC,Qe,Vf,Bg9 r]
  simp only [Sc.note]
  by_cases h:cls a=6
  ·rw [aJ (by omega),aF h]
  ·rw [aF h,aJ h]
def Az4 (r:List Int) (l:Nat) (c p:Nat):Bool :=
 if l=1/\c=2 then true else if apart l=true\/apart c=true then false else
  Me l c||decide (c=4\/c=5\/c=8\/l=7)||(decide (p=1)&&Xk r 0)||(decide (c=14/\l=5)&&Uu r.tail)||(decide (c=6)&&Vf r%2==1)
theorem Bp6 {b:Int}(r:List Int) (c p:Nat):joins (sc (r.reverse++[b])) c p=Az4 (b::r) (cls b) c p:=by
 have ha:=alike (r.reverse++[b]);rw [Ae2 ha];(have hl:(sN (r.reverse++[b])).last=cls b:=by rw [Qe];rfl);have hc:Xk (b::r) 0=((sN (r.reverse++[b])).conj==2):=by
  rw [Bi5,qC];simp
 have hf:Vf (b::r)=(sN (r.reverse++[b])).flags:=(by rw [Bg9,qC]);have hp:(decide (cls b=5)&&Uu r)=((sN (r.reverse++[b])).pict==2):=by
  rw [Be5,Qe,As5]
  have p2:(sN r.reverse).pict<=2:=by
   rcases qA r.reverse with h|⟨m,x,h⟩
   ·rw [h];simp [sN,Sc.zero]
   ·rw [h,qB,Qe]
    simp only [Sc.note]
    split
    ·omega
    ·split
     ·omega
     ·split<;>omega
  by_cases h5:cls b=5
  ·rw [h5]
   by_cases h1:(sN r.reverse).pict=1
   ·simp [h1]
   ·simp [h1]
  ·by_cases h14:cls b=14
   ·simp [h5,h14]
   ·rw [aJ h14,aJ (λh=>h5 h.2)]
    by_cases h4:(sN r.reverse).pict=1/\cls b=4
    ·rw [aF h4];simp [h5,h4.1]
    ·rw [aJ h4];simp [h5]
 unfold joins Az4;rw [hl];have:(b::r).tail=r:=rfl;rw [this,hc,hf];split;{rfl}
 ·split;{rfl}
  ·have e2:(decide (c=14/\cls b=5)&&Uu r)=(decide (c=14)&&((sN (r.reverse++[b])).pict==2)):=by
    rw [←hp,←Bool.and_assoc]
    congr 1
    simp
   rw [e2];generalize sN (r.reverse++[b])=t at *;by_cases g1:c=4\/c=5\/c=8\/cls b=7;{rw [aF g1];simp [g1]}
   ·rw [aJ g1];cases g2:Me (cls b) c with
    |true=>simp
    | false =>
     simp only [dO,dP,g1,decide_false,bD];by_cases g3:p=1/\t.conj=2;{rw [aF g3];simp [g3.1,g3.2]}
     ·rw [aJ g3];have e3:(decide (p=1)&&(t.conj==2))=false:=by
       rw [lX];intro q;simp at q;exact g3 q
      rw [e3,bD];by_cases g4:c=14;{rw [aF g4,g4];simp};{rw [aJ g4];by_cases g5:c=6;{rw [aF g5,g5];simp};{rw [aJ g5];simp [g4,g5]}}
end Clu
end
section
open Go Go.Vx Gly Clu Rgl
section
variable {w w':World}
theorem Ax1 {l r:Nat}{K:Bool->Wp}(h:K (Me l r) w):Aa Tryz.prog 126 #[.int .i64 (l:Int),.int .i64 (r:Int)] rB K w:=by
 refine Em8 ?_;unfold F126;have g:∀{b:Bool},(b=true↔Me l r=true)->K b w:=λ{b} hb=>by
  have:Me l r=b:=gV.2 hb.symm
  rw [this] at h;exact h
 (have hx:∀{n m:Nat},(((n:Int)==(m:Int))=true)=(n=m):=by intro n m;simp;omega);refine Ae (λx W=>x=(decide (l=9/\(r=9\/r=10\/r=12\/r=13)),())/\w=W) ?_ ?_;{refine Ac (λh1=>Ac (λh2=>⟨Az ?_,rfl⟩) λh2=>Ac (λh3=>⟨Az ?_,rfl⟩) λh3=>Ac (λh4=>⟨Az ?_,rfl⟩) λh4=>⟨Az ?_,rfl⟩) λh1=>⟨Az ?_,rfl⟩;(all_goals simp only [jM,jO,ne_eq,iI,lQ,dO,lS] at *);all_goals omega};rintro _ _ ⟨rfl,rfl⟩;refine Ac (λh1=>?_) (λh1=>?_);{simp only [iI] at h1;refine g ?_;unfold Me;simp only [iI,lQ];exact .inl h1};simp only [iH] at h1;refine Ae (λx W=>x=(decide ((l=12\/l=10)/\(r=10\/r=11)),())/\w=W) ?_ ?_;{refine Ac (λh1=>Ac (λh2=>⟨Az ?_,rfl⟩) λh2=>⟨Az ?_,rfl⟩) λh1=>Ac (λh2=>Ac (λh3=>⟨Az ?_,rfl⟩) λh3=>⟨Az ?_,rfl⟩) λh2=>⟨Az ?_,rfl⟩;(all_goals simp only [jM,jO,ne_eq,iI,lQ,dO,lS] at *);all_goals omega};rintro _ _ ⟨rfl,rfl⟩;refine Ac (λh2=>?_) (λh2=>?_);{simp only [iI] at h2;refine g ?_;unfold Me;simp only [iI,lQ];exact .inr (.inl h2)};simp only [iH] at h2;refine Ac (λh3=>g ?_) (λh3=>Ac (λh4=>g ?_) (λh4=>g ?_));(all_goals unfold Me);(all_goals simp only [jM,jO,ne_eq,iI,dO,lS] at *);all_goals omega
variable {A:List Int}{s:Sl}{t:TypeId}
theorem N7 {A:List Int}{j:Nat}{a:Int}(h:A[j]?=some a):(A.take (j+1)).reverse=a::(A.take j).reverse:=by rw [kT,h];simp
theorem rdA (hs:Bl w s t 1 (iv A)){j:Nat}{a:Int}(h:A[j]?=some a){K:Addr->Int->Wp}(hK:∀q,K q a w):ix s.a s.len (j:Int) (λq=>ld (.int .i64) (q.add (scaled (Int.toNat (j:Int)) 1)) (K q)) w :=
 Fh (c:=.int .i64) (xs:=A) hs (by omega) (by rw [dF];exact h) hK
theorem Aj2 (hs:Bl w s t 1 (iv A)) (hl:A.length<2^40){k:Nat}{a:Int}(ha:A[k]?=some a){K:Bool->Wp}(h:K (decide (cnj a=1)&&Xk (A.take k).reverse 0) w) :
  Aa Tryz.prog 127 #[s.v,.int .i64 (k:Int)] rB K w:=by refine Em7 ?_;unfold F127;have hk:=(fG.1 ha).1;refine rdA hs ha λq=>Aj3 (Ac (λh1=>?_) (λh1=>?_));{simp only [mX,ne_eq] at h1;rw [jQ (by omega),lW] at h;exact h};simp only [mY] at h1;rw [jP (by omega),lD] at h;have ew:W64 ((k:Int)-1)=(k:Int)-1:=wrap64 (by omega) (by omega);rw [ew];refine Ae (λ_ W=>w=W/\Xk (A.take k).reverse 0=false) ?_ (λ_ W hW=>by obtain ⟨rfl,hf⟩:=hW;rw [hf] at h;exact h);refine Ba (λx W=>∃n j:Nat,x=((n:Int),(j:Int)-1,())/\j<=k/\n+j<=k/\w=W/\Xk (A.take k).reverse 0=Xk (A.take j).reverse n) (λx _=>(x.2.1+1).toNat) ⟨0,k,rfl,fJ _,by omega,rfl,rfl⟩ ?_;rintro _ _ ⟨n,j,rfl,hj,hnj,rfl,he⟩;dsimp only;refine Ac (λhc=>?_) (λhc=>?_);{simp only [iI,jT] at hc;obtain ⟨i,rfl⟩:∃i,j=i+1:=⟨j-1,by omega⟩;obtain ⟨b,hb⟩:∃b,A[i]?=some b:=⟨_,jC (by omega)⟩;have e1:((i+1:Nat):Int)-1=(i:Int):=(by omega);rw [N7 hb,Xk] at he;rw [e1];have ewi:W64 ((i:Int)-1)=(i:Int)-1:=wrap64 (by omega) (by omega);(have ewn:W64 ((n:Int)+1)=((n+1:Nat):Int):=by rw [wrap64 (by omega) (by omega)];omega);rw [ewi,ewn];refine rdA hs hb λq=>Aj3 ?_;refine Ae (λx W=>x=(((if cnj b=3 then n+1 else n:Nat):Int),())/\w=W) (Ac (λh3=>⟨?_,rfl⟩) (λh3=>⟨?_,rfl⟩)) ?_;{simp only [jM] at h3;rw [aF (by omega)]};{simp only [jO,ne_eq] at h3;rw [aJ (by omega)]};rintro _ _ ⟨rfl,rfl⟩;refine Ae (λx W=>x=(decide (cnj b≠3/\cnj b≠2),())/\w=W) (Ac (λh3=>⟨Az ?_,rfl⟩) (λh3=>⟨Az ?_,rfl⟩)) ?_;{simp only [mX,ne_eq,iI] at *;omega};{simp only [mY,ne_eq,iI,dO,lS] at *;omega};rintro _ _ ⟨rfl,rfl⟩;refine Ac (λh3=>?_) (λh3=>?_);{simp only [iI] at h3;rw [aF h3] at he;rw [aJ h3.1];refine Ac (λh4=>?_) (λh4=>?_);{simp only [iI,kG] at h4;rw [he,jP (by omega),lD] at h;(have:(((cnj b:Nat):Int)==(1:Int))=(cnj b==1):=by rw [gV,jM,jM];omega);rw [this];exact h};{simp only [iH,kG] at h4;rw [he,jQ (by omega),lW] at h;exact h}};{simp only [iH] at h3;rw [aJ h3] at he;exact ⟨⟨_,i,rfl,by omega,by split<;>omega,rfl,he⟩,by omega⟩}};{simp only [iH,jT] at hc;obtain rfl:j=0:=(by omega);exact ⟨rfl,he⟩}
theorem Ax0 (hs:Bl w s t 1 (iv A)) (hl:A.length<2^40){k:Nat}{a b:Int}(ha:A[k+1]?=some a) (hb:A[k]?=some b){K:Bool->Wp}(h:K (decide (cls a=14/\cls b=5)&&Uu (A.take k).reverse) w) :
  Aa Tryz.prog 128 #[s.v,.int .i64 ((k+1:Nat):Int)] rB K w:=by refine Em6 ?_;unfold F128;have hk:=(fG.1 ha).1;(have ew1:W64 (((k+1:Nat):Int)-1)=(k:Int):=by rw [wrap64 (by omega) (by omega)];omega);(have ew2:W64 (((k+1:Nat):Int)-2)=(k:Int)-1:=by rw [wrap64 (by omega) (by omega)];omega);rw [ew1,ew2];refine Ae (λx W=>x=(decide (¬(cls a=14/\cls b=5)),())/\w=W) ?_ ?_;{refine rdA hs ha λq=>Ih (Ac (λh1=>⟨Az ?_,rfl⟩) (λh1=>rdA hs hb λq=>Ih ⟨Az ?_,rfl⟩));{simp only [mX,ne_eq,iI,lQ] at *;omega};{simp only [mY,mX,ne_eq,iI] at *;omega}};rintro _ _ ⟨rfl,rfl⟩;refine Ac (λh1=>?_) (λh1=>?_);{simp only [iI] at h1;rw [jQ h1,lW] at h;exact h};simp only [iH,Decidable.not_not] at h1;rw [jP h1,lD] at h;refine Ae (λ_ W=>w=W/\Uu (A.take k).reverse=false) ?_ (λ_ W hW=>by obtain ⟨rfl,hf⟩:=hW;rw [hf] at h;exact h);refine Ba (λx W=>∃j:Nat,x=((j:Int)-1,())/\j<=k/\w=W/\Uu (A.take k).reverse=Uu (A.take j).reverse) (λx _=>(x.1+1).toNat) ⟨k,rfl,fJ _,rfl,rfl⟩ ?_;rintro _ _ ⟨j,rfl,hj,rfl,he⟩;dsimp only;refine Ac (λhc=>?_) (λhc=>?_);{simp only [iI,jT] at hc;obtain ⟨i,rfl⟩:∃i,j=i+1:=⟨j-1,by omega⟩;obtain ⟨c,hcc⟩:∃b,A[i]?=some b:=⟨_,jC (by omega)⟩;have e1:((i+1:Nat):Int)-1=(i:Int):=(by omega);rw [N7 hcc,Uu] at he;rw [e1];have ewi:W64 ((i:Int)-1)=(i:Int)-1:=wrap64 (by omega) (by omega);rw [ewi];refine rdA hs hcc λq=>Ih (Ac (λh3=>?_) (λh3=>?_));{simp only [mX,ne_eq] at h3;rw [aF (by omega)] at he;rw [he] at h;(have:(((cls c:Nat):Int)==(14:Int))=(cls c==14):=by rw [gV,jM,jM];omega);rw [this];exact h};{simp only [mY] at h3;rw [aJ (by omega)] at he;exact ⟨⟨i,rfl,by omega,rfl,he⟩,by omega⟩}};{simp only [iH,jT] at hc;obtain rfl:j=0:=(by omega);exact ⟨rfl,he⟩}
theorem Bn2 (hs:Bl w s t 1 (iv A)) (hl:A.length<2^40){k:Nat}{a:Int}(ha:A[k]?=some a){K:Bool->Wp}(h:K (decide (cls a=6)&&Vf (A.take k).reverse%2==1) w) :
  Aa Tryz.prog 129 #[s.v,.int .i64 (k:Int)] rB K w:=by refine Em5 ?_;unfold F129;have hk:=(fG.1 ha).1;refine rdA hs ha λq=>Ih (Ac (λh1=>?_) (λh1=>?_));{simp only [mX,ne_eq] at h1;rw [jQ (by omega),lW] at h;exact h};simp only [mY] at h1;rw [jP (by omega),lD] at h;have ew:W64 ((k:Int)-1)=(k:Int)-1:=wrap64 (by omega) (by omega);rw [ew];refine Ae (λx W=>x=(((Vf (A.take k).reverse:Nat):Int),())/\w=W) ?_ ?_;{refine Ba (λx W=>∃n j:Nat,x=((n:Int),(j:Int)-1,())/\j<=k/\n+j<=k/\w=W/\Vf (A.take k).reverse=n+Vf (A.take j).reverse) (λx _=>(x.2.1+1).toNat) ⟨0,k,rfl,fJ _,by omega,rfl,by omega⟩ ?_;rintro _ _ ⟨n,j,rfl,hj,hnj,rfl,he⟩;dsimp only;refine Ac (λhc=>?_) (λhc=>?_);{simp only [iI,jT] at hc;obtain ⟨i,rfl⟩:∃i,j=i+1:=⟨j-1,by omega⟩;obtain ⟨c,hcc⟩:∃b,A[i]?=some b:=⟨_,jC (by omega)⟩;have e1:((i+1:Nat):Int)-1=(i:Int):=(by omega);rw [N7 hcc,Vf] at he;rw [e1];have ewi:W64 ((i:Int)-1)=(i:Int)-1:=wrap64 (by omega) (by omega);(have ewn:W64 ((n:Int)+1)=((n+1:Nat):Int):=by rw [wrap64 (by omega) (by omega)];omega);rw [ewi,ewn];refine rdA hs hcc λq=>Ih (Ac (λh3=>⟨?_,rfl⟩) (λh3=>?_));{simp only [mX,ne_eq] at h3;rw [aF (by omega)] at he;rw [he,Nat.add_zero]};{simp only [mY] at h3;rw [aJ (by omega)] at he;exact ⟨⟨n+1,i,rfl,by omega,by omega,rfl,by omega⟩,by omega⟩}};{simp only [iH,jT] at hc;obtain rfl:j=0:=(by omega);refine ⟨?_,rfl⟩;rw [he];rfl}};rintro _ _ ⟨rfl,rfl⟩;refine Dc (by decide) ?_;rw [mV (by omega)];(have:((((Vf (A.take k).reverse:Nat):Int)%2)==(1:Int))=(Vf (A.take k).reverse%2==1):=by rw [gV,jM,jM];omega);rw [this];exact h
theorem Ap6 (hs:Bl w s t 1 (iv A)) (hl:A.length<2^40){k:Nat}(hk:k<=A.length){K:Bool->Wp}(h:K (bk A k) w) :
  Aa Tryz.prog 75 #[s.v,.int .i64 (k:Int)] rB K w:=by
 refine A75 ?_;unfold F75;(have hlen:A.length=s.len:=by have:=hs.len1;rwa [gW] at this);refine Ae (λx W=>x=(false,())/\w=W) (Ac (λhc=>?_) (λhc=>⟨Az ?_,rfl⟩)) ?_;{simp only [iI] at hc;omega};{simp only [iI,kG,dO,iff_false];omega};rintro _ _ ⟨rfl,rfl⟩;refine Aj ?_;refine Ae (λx W=>x=(decide (k=0\/k=A.length),())/\w=W) (Ac (λhc=>⟨Az ?_,rfl⟩) (λhc=>⟨Az ?_,rfl⟩)) ?_;{simp only [jM,iI,lQ] at *;omega};{simp only [jO,ne_eq,jM,iI] at *;omega};rintro _ _ ⟨rfl,rfl⟩;refine Ac (λhc=>?_) (λhc=>?_)
 ·simp only [iI] at hc;have:bk A k=true:=by
   rcases hc with rfl|rfl
   ·exact X8 A
   ·exact Bb1 A
  rw [this] at h;exact h
 simp only [iH,not_or] at hc;obtain ⟨j,rfl⟩:∃j,k=j+1:=⟨k-1,by omega⟩;have ha:A[j+1]?=some A[j+1]:=jC (by omega);have hb:A[j]?=some A[j]:=jC (by omega);generalize A[j+1]=a at *;generalize A[j]=b at *;have hbk:bk A (j+1) = !Az4 (b::(A.take j).reverse) (cls b) (cls a) (cnj a):=by
  rw [By1 ha (by omega),kT,hb]
  have:=Bp6 (b:=b) (A.take j).reverse (cls a) (cnj a)
  rw [oD] at this
  show (!joins (sc (A.take j++[b])) _ _)=_
  rw [this]
 rw [hbk] at h;(have ew1:W64 (((j+1:Nat):Int)-1)=(j:Int):=by rw [wrap64 (by omega) (by omega)];omega);rw [ew1];refine rdA hs hb λq=>Ih (rdA hs ha λq=>Ih ?_);unfold Az4 at h;refine Ae (λx W=>x=(decide (cls b=1/\cls a=2),())/\w=W) (Ac (λh1=>⟨Az ?_,rfl⟩) (λh1=>⟨Az ?_,rfl⟩)) ?_;{simp only [jM,iI] at *;omega};{simp only [jO,ne_eq,iI,dO,lS] at *;omega};rintro _ _ ⟨rfl,rfl⟩;refine Ac (λh1=>?_) (λh1=>?_);{simp only [iI] at h1;rw [aF h1] at h;exact h};simp only [iH] at h1;rw [aJ h1] at h;refine Ae (λx W=>x=(decide (apart (cls b)=true\/apart (cls a)=true),())/\w=W) ?_ ?_;{refine Ac (λg1=>⟨Az ?_,rfl⟩) λg1=>Ac (λg2=>⟨Az ?_,rfl⟩) λg2=>Ac (λg3=>⟨Az ?_,rfl⟩) λg3=>Ac (λg4=>⟨Az ?_,rfl⟩) λg4=>Ac (λg5=>⟨Az ?_,rfl⟩) λg5=>⟨Az ?_,rfl⟩;(all_goals unfold apart);(all_goals simp only [jM,jO,ne_eq,iI,lQ] at *);all_goals omega};rintro _ _ ⟨rfl,rfl⟩;refine Ac (λh2=>?_) (λh2=>?_);{simp only [iI] at h2;rw [aF h2] at h;exact h};simp only [iH] at h2;rw [aJ h2] at h;refine Ax1 ?_;refine Ae (λx W=>x=((Me (cls b) (cls a)||decide (cls a=4\/cls a=5\/cls a=8\/cls b=7)),())/\w=W) ?_ ?_;{refine Ac (λg1=>⟨Az ?_,rfl⟩) λg1=>Ac (λg2=>⟨Az ?_,rfl⟩) λg2=>Ac (λg3=>⟨Az ?_,rfl⟩) λg3=>Ac (λg4=>⟨Az ?_,rfl⟩) λg4=>⟨Az ?_,rfl⟩;(all_goals simp only [g1,fB,bD,jM,jO,ne_eq,iI,lQ] at *);all_goals omega};rintro _ _ ⟨rfl,rfl⟩;refine Ac (λh3=>?_) (λh3=>?_);{have h3:(Me (cls b) (cls a)||decide (cls a=4\/cls a=5\/cls a=8\/cls b=7))=true:=h3;rw [h3,fB,fB,fB] at h;exact h};have h3:(Me (cls b) (cls a)||decide (cls a=4\/cls a=5\/cls a=8\/cls b=7))=false:=h3;rw [h3,bD] at h;refine Aj2 hs hl ha (Ax0 hs hl ha hb (Bn2 hs hl ha ?_));rw [N7 hb];have ht:(b::(A.take j).reverse).tail=(A.take j).reverse:=rfl;rw [ht] at h;generalize (decide (cnj a=1)&&Xk (b::(A.take j).reverse) 0)=x at *;generalize (decide (cls a=14/\cls b=5)&&Uu (A.take j).reverse)=y at *;generalize (decide (cls a=6)&&Vf (b::(A.take j).reverse)%2==1)=z at *;cases x;{cases y;{refine Ac (λ_=>Ac (λ_=>?_) (λq=>by cases q)) (λq=>by cases q);exact h};{exact Bh (Aj h)}};{exact Aj h}
end
end
section
open Go Go.Vx Gly Clu Rgl Lns Trx Obx
section
variable {w w':World}{A:List Int}{s:Sl}{t:TypeId}
theorem Ax8 (hs:Bl w s t 1 (iv A)) (hl:A.length<2^40){K:Sl->Wp}(hK:∀s' w',Au w' w.heap.size s' 3 1 (nv (cuts A))->Ext w w'->K s' w') :
  Aa Tryz.prog 32 #[s.v] rS K w:=by refine A32 ?_;unfold F32;(have hlen:A.length=s.len:=by have:=hs.len1;rwa [gW] at this);(have nvi:∀l:List Nat,nv l=iv (l.map λ(n:Nat)=>(n:Int)):=λl=>by show l.map _=(l.map _).map _;rw [jL];rfl);have full:(List.range (A.length+1)).filter (bk A)=cuts A:=rfl;refine Ae (λx W=>Au W w.heap.size x.1 3 1 (nv (cuts A))/\Ext w W) ?_ (λx W h=>hK _ _ h.1 h.2);refine Ba (λx W=>∃i:Nat,i<=A.length+1/\x.2=((i:Int),())/\Au W w.heap.size x.1 3 1 (nv ((List.range i).filter (bk A)))/\Ext w W) (λx _=>((A.length:Int)+1-x.2.1).toNat) ⟨0,iW _,rfl,Au.nil _ _ _ _,Ext.refl w⟩ ?_;rintro ⟨r,_⟩ W ⟨i,hi,rfl,hr,eW⟩;dsimp only at hr ⊢;refine Ac (λhc=>?_) (λhc=>?_);{simp only [iI] at hc;(have ew:W64 ((i:Int)+1)=((i+1:Nat):Int):=by rw [wrap64 (by omega) (by omega)];omega);rw [ew];(have fl:((List.range i).filter (bk A)).length<=i:=by have:=nN (bk A) (List.range i);rwa [lZ] at this);refine Ae (λx W'=>Au W' w.heap.size x.1 3 1 (nv ((List.range (i+1)).filter (bk A)))/\Ext w W') ?_ (λx W' h=>⟨⟨i+1,by omega,rfl,h.1,h.2⟩,by omega⟩);refine Ap6 (hs.ext eW) hl (by omega) ?_;rw [mF,nH];refine Ac (λhb=>?_) (λhb=>?_);{rw [nG hb];rw [nvi] at hr;refine Df λb8 w4 e4 n4 hb4 _=>push (hr.ext e4) n4 (by rw [gW];omega) (by have:=eW.size;have:=e4.size;omega) λr' w5 o5 u5=>?_;refine ⟨?_,(eW.trans e4).step u5 λk hk=>hr.Fp hk⟩;rw [nvi,lG];exact o5};{rw [nJ (by rw [hb];decide)];rw [show ([]:List Nat).filter (bk A)=[] from rfl,kM];exact ⟨hr,eW⟩}};{simp only [iH] at hc;have:i=A.length+1:=(by omega);subst this;rw [full] at hr;exact ⟨hr,eW⟩}
def lnF (A:List Int):List Ln:=(List.range (brs A+1)).map λi=>(Ou A i).getD ⟨0,0,0,0⟩
theorem Bw0 (A:List Int):(lnF A).length=brs A+1:=by unfold lnF;simp
theorem Cn9 {A:List Int}{i:Nat}{l:Ln}(h:Ou A i=some l):(lnF A)[i]?=some l:=by have:=(Qm h).1;unfold lnF;rw [gX,oW (by omega),bI,h];rfl
abbrev lnR (l:Ln):Cells.T c71:=((l.from_:Int),(l.to_:Int),(l.next:Int),(l.kind:Int),())
theorem eR6:Jb Tryz.prog 60 71 4 32:=Jb.of (z:=.agg #[.int .i64 0,.int .i64 0,.int .i64 0,.int .i64 0]) C60 C71 rfl rfl rfl (by decide)
theorem Dd2 (l:Ln):∀v∈flat c71 [lnR l],Gl v=true:=by intro v hv;rw [U7] at hv;have h:v∈[_,_,_,_]:=hv;simp only [aG,kW,kX] at h;rcases h with rfl|rfl|rfl|rfl<;>rfl
theorem Bu7 {r:Sl}{L:List Ln}{l:Ln}{b N:Nat}{K:Sl->Wp}(hr:Au w N r 71 4 (flat c71 (L.map lnR))) (hb:w.heap[b]?=some (.cells #[.int .i64 (l.from_:Int),.int .i64 (l.to_:Int),.int .i64 (l.next:Int),.int .i64 (l.kind:Int)] 71 (0,0))) (hl:L.length<2^40) (hN:N<=w.heap.size)
  (hK:∀r' w',Au w' N r' 71 4 (flat c71 ((L++[l]).map lnR))->r'.len=L.length+1->Upd r.blk w w'->K r' w') :
  Ef Tryz.prog (.one (.one .sl)) (Builtin.append_ #[60,60] 60 #[.slice r.a r.len r.cap,.slice (some (at0 b)) 1 1]) K w:=by
 have hrl:=Au.Md (cs:=c71) hr (by decide);rw [gW] at hrl;have hbox:SlX w ⟨some (at0 b),1,1⟩ 4 (flat c71 [lnR l]):=(Bl.Kr hb (n:=1) (sz:=4) rfl).x;refine Ey eR6 eR6.ts_ (x:=⟨some (at0 b),1,1⟩) hr hbox (Dd2 l) (by
  show (r.len+1+(r.len+1)/4+512)*32<=2^48
  omega) hN λr' w' o l' u k=>hK r' w' ?_ (by rw [l',hrl]) u
 rw [lG,Nq];exact o
set_option maxHeartbeats 1000000 in
theorem Cb5 (hs:Bl w s t 1 (iv A)) (hl:A.length<2^39) {K:Sl×Int×Unit->Wp} (hK:∀s' w',Au w' w.heap.size s' 71 4 (flat c71 ((lnF A).map lnR))->Ext w w'->K (s',((lnN A:Nat):Int),()) w') :
  Aa Tryz.prog 31 #[s.v] (.tup [(.one .sl),(.one (.int .i64))]) K w:=by
 refine A31 ?_;unfold F31;(have hlen:A.length=s.len:=by have:=hs.len1;rwa [gW] at this);(have hbr:brs A<=A.length:=by rw [Nb];exact Bf1 _ _);have hF:=Bw0 A;have grow:∀{i m:Nat} {l:Ln},i=m->Ou A i=some l->(lnF A).take (m+1)=(lnF A).take m++[l]:=λ{i m l} e h=>by
  subst e;rw [kT,Cn9 h];rfl
 refine Ae (λx W=>∃f:Nat,Au W w.heap.size x.1 71 4 (flat c71 (((lnF A).take (brs A)).map lnR))/\x.2=((f:Int),())/\sk A (brs A)=some f/\Ext w W) ?_ ?_
 ·refine Ba (λx W=>∃i f:Nat,i<=A.length/\x.2=((f:Int),(i:Int),())/\sk A (nb A i)=some f/\f<=i/\(f<i->A[i]?=some 10->A[i-1]?≠some 13)/\Au W w.heap.size x.1 71 4 (flat c71 (((lnF A).take (nb A i)).map lnR))/\Ext w W) (λx _=>((A.length:Int)-x.2.2.1).toNat) ⟨0,0,iW _,rfl,by rw [Oz,Af3],fJ _,(λh=>by omega),by rw [Oz];exact Au.nil _ _ _ _,Ext.refl w⟩ ?_;rintro ⟨r,_⟩ W ⟨i,f,hi,rfl,hsk,hfi,hmid,hr,eW⟩;dsimp only at hr ⊢;(have hnb:nb A i<=brs A:=by rw [Nb];exact Nu A _ _ hi);(have tkl:((lnF A).take (nb A i)).length<2^40:=by rw [gI];omega);refine Ac (λhc=>?_) (λhc=>?_)
  ·simp only [iI] at hc;have hil:i<A.length:=(by omega);obtain ⟨v,hv⟩:∃v,A[i]?=some v:=⟨_,jC hil⟩;have hsW:=hs.ext eW;(have ew1:W64 ((i:Int)+1)=((i+1:Nat):Int):=by rw [wrap64 (by omega) (by omega)];omega);(have ew2:W64 ((i:Int)+2)=((i+2:Nat):Int):=by rw [wrap64 (by omega) (by omega)];omega);(have ewk:∀k:Nat,k<=A.length->W64 ((k:Int)+1)=((k+1:Nat):Int):=λk hk=>by rw [wrap64 (by omega) (by omega)];omega);rw [ew1,ew2];refine Ae (λx W'=>∃j f:Nat,i<=j/\j<A.length/\x.2=((f:Int),(j:Int),())/\sk A (nb A (j+1))=some f/\f<=j+1/\(f<j+1->A[j+1]?=some 10->A[j]?≠some 13)/\Au W' w.heap.size x.1 71 4 (flat c71 (((lnF A).take (nb A (j+1))).map lnR))/\Ext w W') ?_ ?_
   ·refine rdA hsW hv λq=>Ac (λh10=>?_) (λh10=>?_)
    ·simp only [jM] at h10;subst h10;obtain ⟨g1,g2⟩:=Bm0 ((Jz hv).2 (.inl rfl));have hln:Ou A (nb A i)=some ⟨f,i,i+1,1⟩:=by
      unfold Ou
      rw [hsk,g1]
      simp only [lnC,nP,hv,dN]
      rw [aJ (by decide)]
      rw [aJ (λh=>hmid (by omega) hv (by have:=h.2;rwa [show i+1-2=i-1 by omega] at this))]
     refine Df λb9 w4 e4 n4 hb4 _=>Bu7 (l:=⟨f,i,i+1,1⟩) (hr.ext e4) n4 tkl (by have:=eW.size;have:=e4.size;omega) λr' w5 o5 _ u5=>?_;rw [←grow rfl hln] at o5;refine ⟨i,i+1,fJ _,hil,rfl,by rw [g2];exact g1,fJ _,(λh=>by omega),by rw [g2];exact o5,(eW.trans e4).step u5 λk hk=>hr.Fp hk⟩
    ·simp only [jO,ne_eq] at h10;refine Ae (λx W'=>x=(decide (v=13/\A[i+1]?=some 10),())/\W=W') ?_ ?_;{refine rdA hsW hv λq=>Ac (λh13=>?_) (λh13=>⟨Az ?_,rfl⟩);{simp only [jM] at h13;refine Ac (λhlt=>?_) (λhlt=>⟨Az ?_,rfl⟩);{simp only [iI] at hlt;obtain ⟨u,hu⟩:∃u,A[i+1]?=some u:=⟨_,jC (by omega)⟩;refine rdA hsW hu λq=>⟨Az ?_,rfl⟩;rw [hu];simp [h13]};{simp only [iH] at hlt;rw [kL (by omega)];simp}};{simp only [jO,ne_eq] at h13;simp [h13]}};rintro _ _ ⟨rfl,rfl⟩;refine Ac (λhcl=>?_) (λhcl=>?_)
     ·simp only [iI] at hcl;obtain ⟨rfl,hu⟩:=hcl;have hil2:=(fG.1 hu).1;have hno:isb A i=false:=by
       cases hb:isb A i with
       |false=>rfl
       |true=>rcases (Jz hv).1 hb with h|h;{exact absurd h h10};{exact absurd hu h.2}
      (have hn1:nb A (i+1)=nb A i:=by rw [Sv,hno];simp);obtain ⟨g1,g2⟩:=Bm0 ((Jz hu).2 (.inl rfl));rw [hn1] at g1 g2;have hln:Ou A (nb A i)=some ⟨f,i,i+2,2⟩:=by
       unfold Ou
       rw [hsk,g1]
       simp only [lnC,dN]
       rw [show i+1+1-1=i+1 by omega,hu,aJ (by decide),show i+1+1-2=i by omega,aF ⟨by omega,hv⟩]
      refine Df λb9 w4 e4 n4 hb4 _=>Bu7 (l:=⟨f,i,i+2,2⟩) (hr.ext e4) n4 tkl (by have:=eW.size;have:=e4.size;omega) λr' w5 o5 _ u5=>?_;rw [←grow rfl hln] at o5;refine ⟨i+1,i+2,by omega,hil2,rfl,by rw [g2];exact g1,fJ _,(λh=>by omega),by rw [g2];exact o5,(eW.trans e4).step u5 λk hk=>hr.Fp hk⟩
     ·simp only [iH] at hcl;refine rdA hsW hv λq=>Ac (λh13=>?_) (λh13=>?_)
      ·simp only [jM] at h13;subst h13;have hu:A[i+1]?≠some 10:=λh=>hcl ⟨rfl,h⟩;obtain ⟨g1,g2⟩:=Bm0 ((Jz hv).2 (.inr ⟨rfl,hu⟩));have hln:Ou A (nb A i)=some ⟨f,i,i+1,3⟩:=by
        unfold Ou
        rw [hsk,g1]
        simp only [lnC,nP,hv,dN]
        rw [aF trivial]
       refine Df λb9 w4 e4 n4 hb4 _=>Bu7 (l:=⟨f,i,i+1,3⟩) (hr.ext e4) n4 tkl (by have:=eW.size;have:=e4.size;omega) λr' w5 o5 _ u5=>?_;rw [←grow rfl hln] at o5;refine ⟨i,i+1,fJ _,hil,rfl,by rw [g2];exact g1,fJ _,(λh=>by omega),by rw [g2];exact o5,(eW.trans e4).step u5 λk hk=>hr.Fp hk⟩
      ·simp only [jO,ne_eq] at h13;have hno:isb A i=false:=by
        cases hb:isb A i with
        |false=>rfl
        |true=>rcases (Jz hv).1 hb with h|h;{exact absurd h h10};{exact absurd h.1 h13}
       (have hn1:nb A (i+1)=nb A i:=by rw [Sv,hno];simp);refine ⟨i,f,fJ _,hil,rfl,by rw [hn1];exact hsk,by omega,(λ_ _ h=>by rw [hv] at h;cases h;exact h13 rfl),by rw [hn1];exact hr,eW⟩
   {rintro ⟨r',_⟩ W' ⟨j,f',hij,hjl,rfl,g1,g2,g3,g4,g5⟩;dsimp only at g4 ⊢;rw [ewk j (by omega)];exact ⟨⟨j+1,f',by omega,rfl,g1,g2,(by rw [nP];exact g3),g4,g5⟩,by omega⟩}
  {simp only [iH] at hc;obtain rfl:i=A.length:=(by omega);rw [←Nb] at hsk hr;exact ⟨f,hr,rfl,hsk,eW⟩}
 ·rintro ⟨r,_⟩ W ⟨f,hr,rfl,hsk,eW⟩;dsimp only at hr ⊢;have hrl:=Au.Md (cs:=c71) hr (by decide);rw [gW,gI] at hrl;have hfl:=(Qu hsk).2.1;have hln:Ou A (brs A)=some ⟨f,A.length,A.length,0⟩:=by
   unfold Ou
   rw [hsk,Yz A _ (by omega)]
  rw [←hlen];refine Df λb23 w4 e4 n4 hb4 _=>Bu7 (l:=⟨f,A.length,A.length,0⟩) (hr.ext e4) n4 (by rw [gI];omega) (by have:=eW.size;have:=e4.size;omega) λr' w5 o5 l5 u5=>?_;rw [←grow rfl hln,jE (by omega)] at o5;rw [gI] at l5;have x5:Ext w w5:=(eW.trans e4).step u5 λk hk=>hr.Fp hk;have hN:lnN A=if A.length=0\/f<A.length then brs A+1 else brs A:=by
   unfold lnN ended
   rw [hsk]
   by_cases h0:A.length=0\/f<A.length
   ·rw [aF h0]
    have:(decide (0<A.length)&&(some f==some A.length))=false:=by
     rw [lX];intro h;simp at h;omega
    rw [this];simp
   ·rw [aJ h0]
    have:(decide (0<A.length)&&(some f==some A.length))=true:=by simp;omega
    rw [this];simp
  refine Ae (λx W'=>x=(((lnN A:Nat):Int),())/\w5=W') ?_ ?_;{refine Ae (λx W'=>x=(decide (A.length=0\/f<A.length),())/\w5=W') (Ac (λh0=>⟨Az ?_,rfl⟩) (λh0=>⟨Az ?_,rfl⟩)) ?_;{simp only [jM,iI,lQ] at *;omega};{simp only [jO,ne_eq,iI] at *;omega};rintro _ _ ⟨rfl,rfl⟩;refine Ac (λh0=>⟨?_,rfl⟩) (λh0=>⟨?_,rfl⟩);{simp only [iI] at h0;rw [hN,aF h0,l5];congr 1;omega};{simp only [iH] at h0;rw [hN,aJ h0,←hrl];congr 1;omega}};rintro _ _ ⟨rfl,rfl⟩;exact hK r' w5 o5 x5
end
end
section
open Go Go.Vx Cdc Trx Gly Clu Lns Obx Mot
abbrev spT (c:Cel):Cells.T c76:=((c.from_:Int),(c.to_:Int),c.atom,c.alone,(c.kind:Int),())
abbrev pgO (sa sl:Sl) (n:Int) (ss:Sl):Obj:=.cells #[.slice sa.a sa.len sa.cap,.slice sl.a sl.len sl.cap,.int .i64 n,.slice ss.a ss.len ss.cap] 63 (0,0)
abbrev r6O (l:Ln):Obj:=.cells #[.int .i64 (l.from_:Int),.int .i64 (l.to_:Int),.int .i64 (l.next:Int),.int .i64 (l.kind:Int)] 71 (0,0)
abbrev Ql (w:World) (s:Sl) (A:List Int):Prop:=Bl w s 71 4 (flat c71 ((lnF A).map lnR))
abbrev Kq (w:World) (s:Sl) (A:List Int) (i:Nat):Prop:=Bl w s 76 5 (flat c76 ((Ag A i).map spT))
structure Gu (w:World) (q:Nat) (A:List Int):Prop where
 ex:∃(sa sl ss:Sl) (t0:TypeId) (xs:List Sl),w.heap[q]?=some (pgO sa sl (lnN A:Int) ss)/\Bl w sa t0 1 (iv A)/\Ql w sl A/\Bl w ss 73 1 (xs.map Cell.sl.val)/\xs.length=brs A+1/\∀(i:Nat) x,xs[i]?=some x->Kq w x A i
 len:A.length<=1048576
theorem Cq4:Jb Tryz.prog 73 76 5 40:=Jb.of (z:=.agg #[.int .i64 0,.int .i64 0,.int .i64 0,.bool false,.int .i64 0]) C73 C76 rfl rfl rfl (by decide)
theorem Bx1:Jb Tryz.prog 61 73 1 24:=Jb.of (z:=.slice none 0 0) C61 C73 rfl rfl rfl (by decide)
section
variable {w w':World}{q:Nat}{A:List Int}{i:Nat}
theorem Gu.ext (h:Gu w q A) (e:Ext w w'):Gu w' q A:=by obtain ⟨sa,sl,ss,t0,xs,h1,h2,h3,h4,h5,h6⟩:=h.ex;exact ⟨⟨sa,sl,ss,t0,xs,e.ext_get h1,h2.ext e,h3.ext e,h4.ext e,h5,λi x hx=>(h6 i x hx).ext e⟩,h.len⟩
theorem Gu.Oa (h:Gu w q A){K:Addr->Int->Wp}(hK:K (at0 q) (lnN A:Int) w):nn (some (at0 q)) (λp=>ld (.int .i64) (p.add 2) (K p)) w:=by obtain ⟨sa,sl,ss,t0,xs,h1,h2,h3,h4,h5,h6⟩:=h.ex;exact Am (Cm (off:=2) (x:=(lnN A:Int)) h1 rfl hK)
theorem Gu.Uo (h:Gu w q A){K:Addr->Sl->Wp}(hK:∀s t,Bl w s t 1 (iv A)->K (at0 q) s w):nn (some (at0 q)) (λp=>ld .sl p (K p)) w:=by obtain ⟨sa,sl,ss,t0,xs,h1,h2,h3,h4,h5,h6⟩:=h.ex;exact Am (Cm (off:=0) (x:=sa) h1 rfl (hK sa t0 h2))
theorem Gu.Ug (h:Gu w q A){K:Addr->Sl->Wp}(hK:∀s,Ql w s A->(∀w',Ext w w'->w'.cell? ((at0 q).add 1)=some (Cell.val .sl s))->K (at0 q) s w):nn (some (at0 q)) (λp=>ld .sl (p.add 1) (K p)) w:=by obtain ⟨sa,sl,ss,t0,xs,h1,h2,h3,h4,h5,h6⟩:=h.ex;exact Am (Cm (off:=1) (x:=sl) h1 rfl (hK sl h3 λw' e=>cell_of (off:=1) (e.ext_get h1) rfl))
theorem Zh (hi:i<=brs A):((lnF A).map lnR)[((i:Int)).toNat]?=some (lnR (Aq A i)):=by rw [dF,gX,Cn9 (Vy hi)];rfl
theorem Aa3 {s:Sl}(hs:Ql w s A):s.len=brs A+1:=by have:=Bl.Md (cs:=c71) hs (by decide);rw [gW,Bw0] at this;exact this.symm
theorem Dj0 {c:Cell}{cs:List Cell}{s:Sl}{t:TypeId}{xs:List (Cells.T cs)}{n:Int}{K:Addr->c.T->Wp}(h:Bl w s t cs.length (flat cs xs)) (h0:0<=n){x:Cells.T cs}{y:c.T}(hx:xs[n.toNat]?=some x) (hy:(Cells.vals cs x)[0]?=some (c.val y))
  (hK:∀p,(∀w',Ext w w'->w'.cell? (p.add (scaled (Int.toNat n) cs.length))=some (c.val y))->K p y w) :
  ix s.a s.len n (λp=>ld c (p.add (scaled (Int.toNat n) cs.length)) (K p)) w:=by
 have hlt:=(fG.1 hx).1;have hjl:0<cs.length:=by
  have:=(fG.1 hy).1
  rwa [Gj] at this
 have hl:=h.Md (by omega);refine h.ix h0 (by omega) (by omega) λb off ha hv=>?_;have hc:w.cell? ((⟨b,off,none⟩:Addr).add (scaled (Int.toNat n) cs.length))=some (c.val y):=by
  rw [addr_add]
  have:=hv 0 (c.val y) (by rw [flat_get cs xs _ 0 x hx hjl];exact hy)
  simpa [Ep] using this
 exact D7 (x:=y) hc (hK _ λw' x'=>Vl hc x')
theorem Al1 {s:Sl}(hs:Ql w s A) (hi:i<=brs A){K:Addr->Int->Wp}(hK:∀p,(∀w',Ext w w'->w'.cell? (p.add (scaled (Int.toNat (i:Int)) 4))=some (Cell.val (.int .i64) ((Aq A i).from_:Int)))->K p ((Aq A i).from_:Int) w):ix s.a s.len (i:Int) (λp=>ld (.int .i64) (p.add (scaled (Int.toNat (i:Int)) 4)) (K p)) w :=
 Dj0 (c:=.int .i64) (cs:=c71) hs (kQ i) (Zh hi) rfl hK
theorem Ak9 {s:Sl}(hs:Ql w s A) (hi:i<=brs A){K:Addr->Int->Wp}(hK:∀p,K p ((Aq A i).to_:Int) w):ix s.a s.len (i:Int) (λp=>ld (.int .i64) ((p.add (scaled (Int.toNat (i:Int)) 4)).add 1) (K p)) w :=
 Al6 (c:=.int .i64) (cs:=c71) (j:=1) hs (kQ i) (Zh hi) rfl hK
theorem Al0 {s:Sl}(hs:Ql w s A) (hi:i<=brs A){K:Addr->Int->Wp}(hK:∀p,K p ((Aq A i).next:Int) w):ix s.a s.len (i:Int) (λp=>ld (.int .i64) ((p.add (scaled (Int.toNat (i:Int)) 4)).add 2) (K p)) w :=
 Al6 (c:=.int .i64) (cs:=c71) (j:=2) hs (kQ i) (Zh hi) rfl hK
theorem Gu.U6 (h:Gu w q A) (hi:i<=brs A){K:Addr->Sl->Addr->Int->Wp}(hK:∀s p,K (at0 q) s p ((Aq A i).from_:Int) w) :
  nn (some (at0 q)) (λr=>ld .sl (r.add 1) λs=>ix s.a s.len (i:Int) λp=>ld (.int .i64) (p.add (scaled (Int.toNat (i:Int)) 4)) (K r s p)) w :=
 h.Ug λs hs _=>Al1 hs hi λp _=>hK s p
theorem Gu.toK (h:Gu w q A) (hi:i<=brs A){K:Addr->Sl->Addr->Int->Wp}(hK:∀s p,K (at0 q) s p ((Aq A i).to_:Int) w) :
  nn (some (at0 q)) (λr=>ld .sl (r.add 1) λs=>ix s.a s.len (i:Int) λp=>ld (.int .i64) ((p.add (scaled (Int.toNat (i:Int)) 4)).add 1) (K r s p)) w :=
 h.Ug λs hs _=>Ak9 hs hi λp=>hK s p
theorem Gu.nextK (h:Gu w q A) (hi:i<=brs A){K:Addr->Sl->Addr->Int->Wp}(hK:∀s p,K (at0 q) s p ((Aq A i).next:Int) w) :
  nn (some (at0 q)) (λr=>ld .sl (r.add 1) λs=>ix s.a s.len (i:Int) λp=>ld (.int .i64) ((p.add (scaled (Int.toNat (i:Int)) 4)).add 2) (K r s p)) w :=
 h.Ug λs hs _=>Al0 hs hi λp=>hK s p
theorem Gu.Xi (h:Gu w q A) (hi:i<=brs A){K:Addr->Sl->Addr->Sl->Wp}(hK:∀s p y,Kq w y A i->y.len=(Ag A i).length->K (at0 q) s p y w) :
  nn (some (at0 q)) (λr=>ld .sl (r.add 3) λs=>ix s.a s.len (i:Int) λp=>ld .sl (p.add (scaled (Int.toNat (i:Int)) 1)) (K r s p)) w:=by obtain ⟨sa,sl,ss,t0,xs,h1,h2,h3,h4,h5,h6⟩:=h.ex;obtain ⟨y,hy⟩:∃y,xs[i]?=some y:=⟨_,jC (by omega)⟩;have hy2:=h6 i y hy;have hl:=Bl.Md (cs:=c76) hy2 (by decide);rw [gW] at hl;exact Am (Cm (off:=3) (x:=ss) h1 rfl (Fh (c:=.sl) (xs:=xs) h4 (kQ i) (by rw [dF];exact hy) λp=>hK ss p y hy2 hl.symm))
theorem Gu.Dh0 {W:World}(h:Gu w q A) (e:Ext w W) (hi:i<=brs A){K:Addr->Sl->Addr->Sl->Wp}(hK:∀s p y,Kq w y A i->y.len=(Ag A i).length->K (at0 q) s p y W) :
  nn (some (at0 q)) (λr=>ld .sl (r.add 3) λs=>ix s.a s.len (i:Int) λp=>ld .sl (p.add (scaled (Int.toNat (i:Int)) 1)) (K r s p)) W:=by obtain ⟨sa,sl,ss,t0,xs,h1,h2,h3,h4,h5,h6⟩:=h.ex;obtain ⟨y,hy⟩:∃y,xs[i]?=some y:=⟨_,jC (by omega)⟩;have hy2:=h6 i y hy;have hl:=Bl.Md (cs:=c76) hy2 (by decide);rw [gW] at hl;exact Am (Cm (off:=3) (x:=ss) (e.ext_get h1) rfl (Fh (c:=.sl) (xs:=xs) (h4.ext e) (kQ i) (by rw [dF];exact hy) λp=>hK ss p y hy2 hl.symm))
theorem Gu.Dh1 (h:Gu w q A){K:Addr->Sl->Wp}(hK:∀s,(∀w',Ext w w'->w'.cell? ((at0 q).add 3)=some (Cell.val .sl s))->(∀(j:Nat) (w':World) (K':Addr->Sl->Wp),j<=brs A->Ext w w'->(∀p y,Kq w' y A j->y.len=(Ag A j).length->K' p y w')->ix s.a s.len (j:Int) (λp=>ld .sl (p.add (scaled (Int.toNat (j:Int)) 1)) (K' p)) w')->K (at0 q) s w) :
  nn (some (at0 q)) (λr=>ld .sl (r.add 3) (K r)) w:=by obtain ⟨sa,sl,ss,t0,xs,h1,h2,h3,h4,h5,h6⟩:=h.ex;refine Am (Cm (off:=3) (x:=ss) h1 rfl (hK ss (λw' e=>cell_of (off:=3) (e.ext_get h1) rfl) λj w' K' hj e hK'=>?_));obtain ⟨y,hy⟩:∃y,xs[j]?=some y:=⟨_,jC (by omega)⟩;have hy2:=(h6 j y hy).ext e;have hl:=Bl.Md (cs:=c76) hy2 (by decide);rw [gW] at hl;exact Fh (c:=.sl) (xs:=xs) (h4.ext e) (kQ j) (by rw [dF];exact hy) λp=>hK' p y hy2 hl.symm
theorem N8 {j:Nat}{c:Cel}(hc:(Ag A i)[j]?=some c):((Ag A i).map spT)[((j:Int)).toNat]?=some (spT c):=by rw [dF,gX,hc];rfl
theorem Jr {y:Sl}(hy:Kq w y A i){j:Nat}{c:Cel}(hc:(Ag A i)[j]?=some c){K:Addr->Int->Wp}(hK:∀p,K p (c.from_:Int) w):ix y.a y.len (j:Int) (λp=>ld (.int .i64) (p.add (scaled (Int.toNat (j:Int)) 5)) (K p)) w :=
 Bw8 (c:=.int .i64) (cs:=c76) hy (kQ j) (N8 hc) rfl hK
theorem Bt6 {y:Sl}(hy:Kq w y A i){j:Nat}{c:Cel}(hc:(Ag A i)[j]?=some c){K:Addr->Int->Wp}(hK:∀p,K p (c.to_:Int) w):ix y.a y.len (j:Int) (λp=>ld (.int .i64) ((p.add (scaled (Int.toNat (j:Int)) 5)).add 1) (K p)) w :=
 Al6 (c:=.int .i64) (cs:=c76) (j:=1) hy (kQ j) (N8 hc) rfl hK
theorem Ar2 {y:Sl}(hy:Kq w y A i){j:Nat}{c:Cel}(hc:(Ag A i)[j]?=some c){K:Addr->Int->Wp}(hK:∀p,K p c.atom w):ix y.a y.len (j:Int) (λp=>ld (.int .i64) ((p.add (scaled (Int.toNat (j:Int)) 5)).add 2) (K p)) w :=
 Al6 (c:=.int .i64) (cs:=c76) (j:=2) hy (kQ j) (N8 hc) rfl hK
theorem Y4 {y:Sl}(hy:Kq w y A i){j:Nat}{c:Cel}(hc:(Ag A i)[j]?=some c){K:Addr->Int->Wp}(hK:∀p,K p (c.kind:Int) w):ix y.a y.len (j:Int) (λp=>ld (.int .i64) ((p.add (scaled (Int.toNat (j:Int)) 5)).add 4) (K p)) w :=
 Al6 (c:=.int .i64) (cs:=c76) (j:=4) hy (kQ j) (N8 hc) rfl hK
theorem Dc4 (c:Cel):∀v∈flat c76 [spT c],Gl v=true:=by intro v hv;rw [U7] at hv;have h:v∈[_,_,_,_,_]:=hv;simp only [aG,kW,kX] at h;rcases h with rfl|rfl|rfl|rfl|rfl<;>rfl
theorem Da8 {r:Sl}{L:List Cel}{c:Cel}{b N:Nat}{K:Sl->Wp}(hr:Au w N r 76 5 (flat c76 (L.map spT))) (hb:w.heap[b]?=some (.cells #[.int .i64 (c.from_:Int),.int .i64 (c.to_:Int),.int .i64 c.atom,.bool c.alone,.int .i64 (c.kind:Int)] 76 (0,0))) (hl:L.length<2^40) (hN:N<=w.heap.size)
  (hK:∀r' w',Au w' N r' 76 5 (flat c76 ((L++[c]).map spT))->r'.len=L.length+1->Upd r.blk w w'->K r' w') :
  Ef Tryz.prog (.one (.one .sl)) (Builtin.append_ #[73,73] 73 #[.slice r.a r.len r.cap,.slice (some (at0 b)) 1 1]) K w:=by
 have hrl:=Au.Md (cs:=c76) hr (by decide);rw [gW] at hrl;have hbox:SlX w ⟨some (at0 b),1,1⟩ 5 (flat c76 [spT c]):=(Bl.Kr hb (n:=1) (sz:=5) rfl).x;refine Ey Cq4 Cq4.ts_ (x:=⟨some (at0 b),1,1⟩) hr hbox (Dc4 c) (by
  show (r.len+1+(r.len+1)/4+512)*40<=2^48
  omega) hN λr' w' o l' u k=>hK r' w' ?_ (by rw [l',hrl]) u
 rw [lG,Nq];exact o
set_option maxHeartbeats 2000000 in
theorem Co1 {s:Sl}{t:TypeId}(hs:Bl w s t 1 (iv A)) (hl:A.length<=1048576){K:Option Addr->Wp}(hK:∀q w',Gu w' q A->w.heap.size<=q->Ext w w'->K (some (at0 q)) w') :
  Aa Tryz.prog 17 #[s.v] rP K w:=by
 refine A17 ?_;unfold F17;(have hlen:A.length=s.len:=by have:=hs.len1;rwa [gW] at this);have hcap:=hs.le;have hbl:=Gi A;refine (St.start w).Af λb1 w1 S1 e1=>Cb5 (hs.ext e1) (by omega) λsl w2 o2 e2=>?_;have S2:=S1.ext e2;have S2:St (λ_=>False) w w2 [(b1,pgO s ⟨none,0,0⟩ 0 ⟨none,0,0⟩)]:=S2;refine Am (S2.stC (off:=1) 0 rfl (by show 1<4;decide) λw3 S3 u3=>Am (S3.stC (off:=2) 0 rfl (by show 2<4;decide) λw4 S4 u4=>?_));have S4:St (λ_=>False) w w4 [(b1,pgO s sl (lnN A:Int) ⟨none,0,0⟩)]:=S4;have o4:Ql w4 sl A:=(o2.in.box (S2.at_ 0 rfl) (by decide) u3).box (S3.at_ 0 rfl) (by decide) u4;have hll:=Aa3 o4;refine Ae (λ_ V=>∃(so:Sl) (xs:List Sl),St (λ_=>False) w V [(b1,pgO s sl (lnN A:Int) so)]/\Ql V sl A/\Bl V so 73 1 (xs.map Cell.sl.val)/\xs.length=brs A+1/\∀(i:Nat) x,xs[i]?=some x->Kq V x A i) ?_ ?_
 ·refine Ba (λx V=>∃(i:Nat) (so:Sl) (xs:List Sl),x=((i:Int),())/\i<=brs A+1/\xs.length=i/\St (λ_=>False) w V [(b1,pgO s sl (lnN A:Int) so)]/\Ql V sl A/\Au V w4.heap.size so 73 1 (xs.map Cell.sl.val)/\w4.heap.size<=V.heap.size/\∀(j:Nat) x,xs[j]?=some x->Kq V x A j) (λx _=>((brs A:Int)+1-x.1).toNat) ⟨0,⟨none,0,0⟩,[],rfl,iW _,rfl,S4,o4,Au.nil _ _ _ _,fJ _,λj x hx=>by simp at hx⟩ ?_;rintro _ V ⟨i,so,xs,rfl,hi,hxs,SV,oV,ho,hsz,hsp⟩;dsimp only;refine Am (SV.ld (off:=1) 0 rfl (x:=sl) rfl (Ac (λhc=>?_) (λhc=>?_)))
  ·simp only [iI] at hc;have hib:i<=brs A:=(by omega);have ok:=Cb hib;have ft:=ok.ft;have tn:=ok.tn;have nl:=ok.nl;have hrl:=Rz hib;have hcl:=Hq hib;refine Am (SV.ld (off:=1) 0 rfl (x:=sl) rfl (Ws (cs:=c71) (xs:=(lnF A).map lnR) oV (by decide) (kQ i) (Zh hib) λp13=>?_));refine SV.Ir rfl rfl rfl λb15 w5 S5 e5=>?_;have S5:St (λ_=>False) w w5 [(b15,r6O (Aq A i)),(b1,pgO s sl (lnN A:Int) so)]:=S5;refine S5.ld (off:=0) 0 rfl (x:=((Aq A i).from_:Int)) rfl (S5.ld (off:=1) 0 rfl (x:=((Aq A i).to_:Int)) rfl ?_);refine Bd0 (hs.ext S5.upd) (by omega) (by omega) (by omega) (by omega) (by omega) λy hy _ _ _=>?_;have hy:Bl w5 y t 1 (iv (rowB A i)):=by
    rw [dS,dS,dF,dF,←kD,←kE] at hy
    exact hy
   refine Ax8 hy (by omega) λsb w6 ob e6=>?_;have S6:=S5.ext e6;(have nvi:nv (cuts (rowB A i))=((cuts (rowB A i)).map λ(n:Nat)=>(n:Int)).map (Cell.int .i64).val:=by rw [jL];rfl);rw [nvi] at ob;have hbl2:=ob.len1;rw [gW,gW] at hbl2;have hcuts:=Ar8 A i;have hcnt:(Ag A i).length=(cuts (rowB A i)).length-1:=(by omega);have hcp:=An0 (rowB A i);refine Ae (λx W=>Ext w6 W/\Au W w6.heap.size x.1 76 5 (flat c76 ((Ag A i).map spT))) ?_ ?_
   ·refine Ba (λx W=>∃j:Nat,x.2=((j:Int),())/\j<=(Ag A i).length/\Ext w6 W/\Au W w6.heap.size x.1 76 5 (flat c76 (((Ag A i).take j).map spT))) (λx _=>(((Ag A i).length:Int)-x.2.1).toNat) ⟨0,rfl,iW _,Ext.refl _,Au.nil _ _ _ _⟩ ?_;rintro ⟨r,_⟩ W ⟨j,rfl,hj,eW,hr⟩;dsimp only at hr ⊢;(have ew1:W64 ((j:Int)+1)=((j+1:Nat):Int):=by rw [wrap64 (by omega) (by omega)];omega);rw [ew1];refine Ac (λhc2=>?_) (λhc2=>?_)
    ·simp only [iI] at hc2;obtain ⟨c,hcc⟩:∃c,(Ag A i)[j]?=some c:=⟨_,jC (by omega)⟩;have hcc':(Xb (rowB A i) (Aq A i).from_)[j]?=some c:=hcc;obtain ⟨ci,cj,g1,g2,g3,g4,g5,g6,_,_,g7,g8,g9⟩:=(Tq hcc').ex;(have m1:((cuts (rowB A i)).map λ(n:Nat)=>(n:Int))[((j:Int)).toNat]?=some (ci:Int):=by rw [dF,gX,g1];rfl);(have m2:((cuts (rowB A i)).map λ(n:Nat)=>(n:Int))[(((j+1:Nat):Int)).toNat]?=some (cj:Int):=by rw [dF,gX,g2];rfl);have SW:=S6.ext eW;refine Fh (c:=.int .i64) (xs:=(cuts (rowB A i)).map λ(n:Nat)=>(n:Int)) (ob.ext eW).in (kQ j) m1 λp24=>rdA ((hy.ext e6).ext eW) g7 λp26=>SW.drew λw7 S7 e7 _=>S7.ld (off:=0) 0 rfl (x:=((Aq A i).from_:Int)) rfl ?_;have ob7:=(ob.ext (eW.trans e7)).in;refine Az6 (c:=.int .i64) (xs:=(cuts (rowB A i)).map λ(n:Nat)=>(n:Int)) ob7 (kQ j) m1 λp29 k29=>S7.ld (off:=0) 0 rfl (x:=((Aq A i).from_:Int)) rfl ?_;refine Az6 (c:=.int .i64) (xs:=(cuts (rowB A i)).map λ(n:Nat)=>(n:Int)) ob7 (kQ _) m2 λp32 k32=>?_;refine Az6 (c:=.int .i64) (xs:=(cuts (rowB A i)).map λ(n:Nat)=>(n:Int)) ob7 (kQ _) m2 λp34 k34=>?_;refine Az6 (c:=.int .i64) (xs:=(cuts (rowB A i)).map λ(n:Nat)=>(n:Int)) ob7 (kQ j) m1 λp36 k36=>?_;refine Bm7 ?_;refine Bg (k36 w7 (Ext.refl _)) (Bg (k34 w7 (Ext.refl _)) (Bg (k32 w7 (Ext.refl _)) (S7.keep (off:=0) 0 rfl (v:=.int .i64 ((Aq A i).from_:Int)) rfl (Bg (k29 w7 (Ext.refl _)) (S7.keep (off:=0) 0 rfl (v:=.int .i64 ((Aq A i).from_:Int)) rfl ?_)))));(have q1:W64 (((Aq A i).from_:Int)+(ci:Int))=(c.from_:Int):=by rw [wrap64 (by omega) (by omega)];omega);(have q2:W64 (((Aq A i).from_:Int)+(cj:Int))=(c.to_:Int):=by rw [wrap64 (by omega) (by omega)];omega);have q3:(W64 ((cj:Int)-(ci:Int))==(1:Int))=c.alone:=by
      rw [wrap64 (by omega) (by omega),gV,jM,g9];omega
     rw [q1,q2,q3,←g8];refine Df λb39 w8 e8 n8 hb8 _=>Da8 (c:=c) (hr.ext (e7.trans e8)) n8 (by rw [gI];omega) (by have:=eW.size;have:=e7.size;have:=e8.size;omega) λr' w9 o9 _ u9=>?_;refine ⟨⟨j+1,rfl,by omega,((eW.trans e7).trans e8).step u9 λk hk=>hr.Fp hk,?_⟩,by omega⟩;rw [kT,hcc];exact o9
    {simp only [iH] at hc2;obtain rfl:j=(Ag A i).length:=(by omega);rw [jR] at hr;exact ⟨eW,hr⟩}
   rintro ⟨sp,_⟩ W ⟨eW,hr⟩;have eVW:Ext V W:=(e5.trans e6).trans eW;have SW:=(S6.ext eW).tail;have hoW:=ho.ext eVW;refine Am (SW.ld (off:=3) 0 rfl (x:=so) rfl (SW.Ak2 λb43 w7 S7 e7 hb43=>?_));have hsol:=hoW.len1;rw [gW] at hsol;have ho7:=hoW.ext e7;(have hsz7:w4.heap.size<=w7.heap.size:=by have:=eVW.size;have:=e7.size;omega);have hbox:SlX w7 ⟨some (at0 b43),1,1⟩ 1 ([sp].map Cell.sl.val):=(Bl.Kr (S7.at_ 0 rfl) (n:=1) (sz:=1) rfl).x;have hb1:b1<w4.heap.size:=lt_of_heap (S4.at_ 0 rfl);have hw4:w.heap.size<=w4.heap.size:=S4.upd.size;refine Ey Bx1 Bx1.ts_ (x:=⟨some (at0 b43),1,1⟩) ho7 hbox (λv hv=>by rw [iT.1 hv];rfl) (by
    show (so.len+1+(so.len+1)/4+512)*24<=2^48
    omega) hsz7 λso' w8 o8 l8 u8 _=>?_
   have nty1:Gn w7 so.blk 71:=λk hk c fr hn=>by
    obtain ⟨c',fr',hc'⟩:=ho7.in.Fz hk
    rw [hn] at hc';cases hc'
   have nty2:Gn w7 so.blk 76:=λk hk c fr hn=>by
    obtain ⟨c',fr',hc'⟩:=ho7.in.Fz hk
    rw [hn] at hc';cases hc'
   have S8:St (λ_=>False) w w8 [(b1,pgO s sl (lnN A:Int) so)]:=S7.tail.fresh u8 (λk hk=>.inr (by have:=ho7.Fp hk;omega)) (λz hz hk=>by
    rw [iT.1 hz] at hk
    have:=ho7.Fp hk
    dsimp only at this
    omega)
   refine Am (S8.stC (off:=3) 0 rfl (by show 3<4;decide) λw9 S9 u9=>?_);(have ewi:W64 ((i:Int)+1)=((i+1:Nat):Int):=by rw [wrap64 (by omega) (by omega)];omega);rw [ewi];refine ⟨⟨i+1,so',xs++[sp],rfl,by omega,by simp [hxs],S9,?_,?_,?_,?_⟩,by omega⟩;{exact ((oV.ext (eVW.trans e7)).ty u8 nty1).box (S8.at_ 0 rfl) (by decide) u9};{rw [lG];exact o8.box (S8.at_ 0 rfl) (by decide) u9};{have:=u8.size;have:=u9.size;omega}
   ·intro j x hx;refine Bl.box ?_ (S8.at_ 0 rfl) (by decide) u9;by_cases hj:j<xs.length;{rw [fZ hj] at hx;exact ((hsp j x hx).ext (eVW.trans e7)).ty u8 nty2}
    ·have hje:j=xs.length:=by
      have:=(fG.1 hx).1
      simp at this;omega
     subst hje;rw [pY] at hx;cases hx;rw [hxs];exact (hr.in.ext e7).ty u8 nty2
  {simp only [iH] at hc;exact ⟨so,xs,SV,oV,ho.in,by omega,hsp⟩}
 rintro _ V ⟨so,xs,SV,oV,ho,hxs,hsp⟩;exact hK b1 V ⟨⟨s,sl,so,t,xs,SV.at_ 0 rfl,hs.ext SV.upd,oV,ho,hxs,hsp⟩,hl⟩ (SV.ge 0 rfl) SV.upd
end
section
variable {w w':World}{q:Nat}{A:List Int}{i:Nat}
theorem Ub {n:Nat}(h:n<=2^40):W64 ((n:Int)+1)=((n+1:Nat):Int):=by rw [wrap64 (by omega) (by omega)];omega
theorem P9 (h:Gu w q A){x:Int}{K:Int->Wp}(hK:K (inT A x:Int) w):Aa Tryz.prog 82 #[.pointer (some (at0 q)),.int .i64 x] rI K w:=by refine A82 ?_;unfold F82;(have e:(inT A x:Int)=min (max x 0) (A.length:Int):=by unfold inT;omega);rw [e] at hK;refine Ac (λhc=>?_) (λhc=>h.Uo λs t hs=>?_);{simp only [iI] at hc;rw [show min (max x 0) (A.length:Int)=0 by omega] at hK;exact hK};{simp only [iH] at hc;have hl:=hs.len1;rw [gW] at hl;refine Ac (λhc2=>h.Uo λs2 t2 hs2=>?_) (λhc2=>?_);{simp only [iI,kG] at hc2;have hl2:=hs2.len1;rw [gW] at hl2;rw [show min (max x 0) (A.length:Int)=(A.length:Int) by omega] at hK;rw [←hl2];exact hK};{simp only [iH,kG] at hc2;rw [show min (max x 0) (A.length:Int)=x by omega] at hK;exact hK}}
theorem Hz (h:Gu w q A){n:Nat}(hn:n<=A.length){K:Int->Wp}(hK:K (nb A n:Int) w):Aa Tryz.prog 83 #[.pointer (some (at0 q)),.int .i64 (n:Int)] rI K w:=by
 refine A83 ?_;unfold F83;have hA:=h.len;have hbl:=Gi A;have hnb:=Hg A n;obtain ⟨r1,r2⟩:=row_of (A:=A) hn;refine Ae (λ_ W=>w=W/\nb A n=brs A) ?_ ?_
 ·refine Ba (λx W=>∃i:Nat,x=((i:Int),())/\w=W/\i<=brs A+1/\(i<=nb A n\/nb A n=brs A)) (λx _=>((brs A+1:Nat)-x.1).toNat) ⟨0,rfl,rfl,by omega,.inl (iW _)⟩ ?_;rintro _ _ ⟨i,rfl,rfl,hi,hin⟩;dsimp only;refine h.Ug λs hs _=>?_;have hl:=Aa3 hs;refine Ac (λhc=>?_) (λhc=>?_)
  ·simp only [iI] at hc;have hib:i<=brs A:=(by omega);have ok:=Cb hib;have ft:=ok.ft;have tn:=ok.tn;rw [Ub (by omega)];refine h.nextK hib λs p=>?_;refine Ac (λhlt=>?_) (λhlt=>?_)
   ·simp only [iI] at hlt;have:nb A n=i:=by
     by_cases hq:(Aq A i).from_<=n
     ·exact ok.nbf n hq (by omega)
     ·exfalso
      rcases qE i (nb A n) with u|u|u
      ·have:=Ns (A:=A) u hnb;omega
      ·rw [u] at hq;exact hq r1
      ·rcases hin with v|v<;>omega
    rw [this] at hK;exact hK
   {simp only [iH] at hlt;refine ⟨⟨i+1,rfl,rfl,by omega,?_⟩,by omega⟩;rcases hin with v|v;{rcases lT i (nb A n) with u|u;{exact .inl u};{right;have e:i=nb A n:=(by omega);rw [e] at hlt;rcases r2 with r2|r2;{omega};{exact r2.1}}};{exact .inr v}}
  {simp only [iH] at hc;refine ⟨rfl,?_⟩;rcases hin with v|v<;>omega}
 rintro _ _ ⟨rfl,hb⟩;refine h.Ug λs hs _=>?_;have hl:=Aa3 hs;rw [hl,show W64 (((brs A+1:Nat):Int)-1)=(nb A n:Int) by rw [wrap64 (by omega) (by omega)];omega];exact hK
theorem Be3 (h:Gu w q A){n:Nat}(hn:n<=A.length){K:Int->Wp}(hK:K (Cc A (n:Int) false:Int) w):Aa Tryz.prog 84 #[.pointer (some (at0 q)),.int .i64 (n:Int)] rI K w:=by refine A84 ?_;unfold F84;have hb:=Bc A;have hA:=h.len;have hbl:=Gi A;(have e:Cc A (n:Int) false=min (nb A n) (lnN A-1):=by unfold Cc ofI;rw [aJ (by decide),Ui hn]);rw [e] at hK;refine Hz h hn (h.Oa (Ac (λhc=>h.Oa ?_) (λhc=>?_)));{simp only [iI,jT] at hc;rw [show W64 ((lnN A:Int)-1)=((min (nb A n) (lnN A-1):Nat):Int) by rw [wrap64 (by omega) (by omega)];omega];exact hK};{simp only [iH,jT] at hc;rw [show min (nb A n) (lnN A-1)=nb A n by omega] at hK;exact hK}
theorem Ol (h:Gu w q A) (hi:i<=brs A){K:Int->Wp}(hK:K (Aw A i (((Ag A i).length:Int)-1):Int) w):Aa Tryz.prog 85 #[.pointer (some (at0 q)),.int .i64 (i:Int)] rI K w:=by refine A85 ?_;unfold F85;have hA:=h.len;have hcl:=Hq hi;have ok:=Cb hi;have tn:=ok.tn;have nl:=ok.nl;refine h.Xi hi λs p y hy hyl=>?_;refine Ac (λhc=>h.U6 hi λs p=>?_) (λhc=>?_);{rw [jM] at hc;rw [Ht (by omega),Nl hi] at hK;exact hK};{rw [jO] at hc;(have ew:W64 (((y.len:Nat):Int)-1)=(((Ag A i).length-1:Nat):Int):=by rw [wrap64 (by omega) (by omega)];omega);rw [ew];obtain ⟨c,hcc⟩:=Dk (C:=Ag A i) (j:=(Ag A i).length-1) (by omega);rw [show ((Ag A i).length:Int)-1=(((Ag A i).length-1:Nat):Int) by omega,Eb (by omega),Gz hcc] at hK;exact Jr hy hcc λp=>hK}
theorem Aj6 (h:Gu w q A) (hi:i<=brs A){K:Int->Wp}(hK:K (Aw A i (Pj A i:Int):Int) w):Aa Tryz.prog 94 #[.pointer (some (at0 q)),.int .i64 (i:Int)] rI K w:=by
 refine A94 ?_;unfold F94;have hA:=h.len;have hcl:=Hq hi;have ok:=Cb hi;have tn:=ok.tn;have nl:=ok.nl;refine h.Xi hi λs p y hy hyl=>?_;refine Ae (λ_ W=>w=W/\∀(j:Nat) c,(Ag A i)[j]?=some c->c.kind=0) ?_ ?_
 ·refine Ba (λx W=>∃j:Nat,x=((j:Int),())/\w=W/\j<=(Ag A i).length/\∀(m:Nat) c,m<j->(Ag A i)[m]?=some c->c.kind=0) (λx _=>(((Ag A i).length:Int)-x.1).toNat) ⟨0,rfl,rfl,iW _,λm c hm=>by omega⟩ ?_;rintro _ _ ⟨j,rfl,rfl,hj,hz⟩;dsimp only;refine Ac (λhc=>?_) (λhc=>?_)
  ·simp only [iI] at hc;obtain ⟨c,hcc⟩:=Dk (C:=Ag A i) (j:=j) (by omega);rw [Ub (by omega)];refine Y4 hy hcc λp=>Ac (λhk=>Jr hy hcc λp=>?_) (λhk=>⟨⟨j+1,rfl,rfl,by omega,λm d hm hd=>?_⟩,by omega⟩)
   ·have hk:c.kind≠0:=by
     rw [mX] at hk
     intro h0;exact hk (by rw [h0];rfl)
    have:=Bu0 (A:=A) (i:=i) hcc hk λm d hm hd=>hz m d hm hd;rw [this,Eb (by omega),Gz hcc] at hK;exact hK
   {by_cases hmj:m=j;{subst hmj;rw [hcc] at hd;cases hd;rw [mY] at hk;omega};{exact hz m d (by omega) hd}}
  {simp only [iH] at hc;exact ⟨rfl,λm c hm=>hz m c (by have:=(fG.1 hm).1;omega) hm⟩}
 rintro _ _ ⟨rfl,hz⟩;refine Ol h hi ?_;have:=Y5 (A:=A) (i:=i) hz;rw [this] at hK;rcases lC (Ag A i).length with u|u;{rw [u] at hK ⊢;rw [Ht (by omega)];exact hK};{rw [show ((Ag A i).length:Int)-1=(((Ag A i).length-1:Nat):Int) by omega];exact hK}
theorem Sj (h:Gu w q A) (hi:i<=brs A){K:Bool->Wp}(hK:K (Ew A i) w):Aa Tryz.prog 102 #[.pointer (some (at0 q)),.int .i64 (i:Int)] rB K w:=by
 refine Eo9 ?_;unfold F102;have hA:=h.len;have hcl:=Hq hi;have ok:=Cb hi;have tn:=ok.tn;have nl:=ok.nl;refine h.Xi hi λs p y hy hyl=>?_;refine Ae (λ_ W=>w=W/\Ew A i=true) ?_ ?_
 ·refine Ba (λx W=>∃j:Nat,x=((j:Int),())/\w=W/\j<=(Ag A i).length/\∀(m:Nat) c,m<j->(Ag A i)[m]?=some c->c.kind=0) (λx _=>(((Ag A i).length:Int)-x.1).toNat) ⟨0,rfl,rfl,iW _,λm c hm=>by omega⟩ ?_;rintro _ _ ⟨j,rfl,rfl,hj,hz⟩;dsimp only;refine Ac (λhc=>?_) (λhc=>?_)
  ·simp only [iI] at hc;obtain ⟨c,hcc⟩:=Dk (C:=Ag A i) (j:=j) (by omega);rw [Ub (by omega)];refine Y4 hy hcc λp=>Ac (λhk=>?_) (λhk=>⟨⟨j+1,rfl,rfl,by omega,λm d hm hd=>?_⟩,by omega⟩)
   ·have hk:c.kind≠0:=by
     rw [mX] at hk
     intro h0;exact hk (by rw [h0];rfl)
    have:Ew A i=false:=by
     unfold Ew
     rw [pU]
     exact ⟨c,eY hcc,by simpa using hk⟩
    rw [this] at hK;exact hK
   {by_cases hmj:m=j;{subst hmj;rw [hcc] at hd;cases hd;rw [mY] at hk;omega};{exact hz m d (by omega) hd}}
  {simp only [iH] at hc;refine ⟨rfl,?_⟩;unfold Ew;rw [aS];intro c hm;obtain ⟨m,hm⟩:=gZ hm;have:=hz m c (by have:=(fG.1 hm).1;omega) hm;simpa using this}
 rintro _ _ ⟨rfl,hz⟩;rw [hz] at hK;exact hK
theorem Jj (h:Gu w q A) {x:Int} {past:Bool} {K:Int->Wp} (hK:K (Ak A x past:Int) w):Aa Tryz.prog 35 #[.pointer (some (at0 q)),.int .i64 x,.bool past] rI K w:=by
 refine A35 ?_;unfold F35;have hA:=h.len;have hi:=Rx A x past;have hin:=Bp9 A x;have ok:=Cb hi;have ft:=ok.ft;have tn:=ok.tn;have nl:=ok.nl;have hcl:=Hq hi;refine P9 h (Hz h hin (Ae (λy W=>y=((Cc A x past:Int),())/\w=W) ?_ ?_))
 ·cases past with
  |true=>exact Aj ⟨rfl,rfl⟩
  |false=>refine Bh (Be3 h hin ⟨?_,rfl⟩);(have:Cc A (inT A x:Int) false=Cc A x false:=by unfold Cc ofI;rw [Ui hin]);rw [this]
 rintro _ _ ⟨rfl,rfl⟩;unfold Ak at hK;obtain ⟨n,hn⟩:∃n,inT A x=n:=⟨_,rfl⟩;have hro:=row_of (A:=A) hin;have hrow:past=true/\Cc A x past=nb A n\/past=false/\Cc A x past=min (nb A n) (lnN A-1):=by
  cases past with
  |true=>left;refine ⟨rfl,?_⟩;unfold Cc ofI;rw [aF rfl,hn]
  |false=>right;refine ⟨rfl,?_⟩;unfold Cc ofI;rw [aJ (by decide),hn]
 rw [hn] at hro hin hK;rw [hn];obtain ⟨i,hi'⟩:∃i,Cc A x past=i:=⟨_,rfl⟩;rw [hi'] at hi ok ft tn nl hcl hrow hK;rw [hi'];refine h.toK hi λs p=>Ac (λhc=>?_) (λhc=>?_);{simp only [iI,jT] at hc;rw [aF (by omega)] at hK;refine Ac (λhp=>h.toK hi λs p=>?_) (λhp=>Ol h hi ?_);{rw [aF hp] at hK;exact hK};{rw [aJ (by rw [hp];decide)] at hK;exact hK}}
 ·simp only [iH,jT] at hc;rw [aJ (by omega)] at hK;have hf:(Aq A i).from_<=n:=by
   rcases hrow with ⟨_,hr⟩|⟨_,hr⟩
   ·rw [hr];exact hro.1
   ·rcases lT (lnN A-1) (nb A n) with u|u
    ·exfalso
     have hb:=Bc A
     have hnb:=Hg A n
     have:=Ns (A:=A) (i:=i) (j:=nb A n) (by omega) hnb
     omega
    ·rw [show i=nb A n by omega];exact hro.1
  obtain ⟨g1,g2⟩:=Bh0 hi hf (by omega);obtain ⟨m,hm⟩:∃m,Dj (Ag A i) (n:Int)=m:=⟨_,rfl⟩;obtain ⟨s1,s2⟩:=Tn (C:=Ag A i) (at_:=(n:Int));rw [hm] at g1 g2 hK s1 s2;rw [Eb g1] at hK g2;obtain ⟨cm,hcm⟩:=Dk g1;rw [Gz hcm] at hK g2;have hto:=s2 cm hcm;have hch:=Gg A i;refine h.U6 hi λs p=>h.Xi hi λs2 p2 y hy hyl=>?_;refine Ae (λx W=>x=((cm.from_:Int),())/\w=W) ?_ (by rintro _ _ ⟨rfl,rfl⟩;exact hK);refine Ba (λx W=>∃j:Nat,x=(((if j=0 then (Aq A i).from_ else frm (Ag A i) (min (j-1) m):Nat):Int),(j:Int),())/\w=W/\j<=(Ag A i).length) (λx _=>(((Ag A i).length:Int)-x.2.1).toNat) ⟨0,rfl,rfl,iW _⟩ ?_;rintro _ _ ⟨j,rfl,rfl,hj⟩;dsimp only;refine Ac (λhc2=>?_) (λhc2=>?_)
  ·simp only [iI] at hc2;obtain ⟨c,hcc⟩:=Dk (C:=Ag A i) (j:=j) (by omega);refine Ae (λx W=>x=(((frm (Ag A i) (min j m):Nat):Int),())/\w=W) ?_ ?_
   ·refine Jr hy hcc λp=>Ac (λhle=>Jr hy hcc λp=>⟨?_,rfl⟩) (λhle=>⟨?_,rfl⟩)
    ·simp only [iI] at hle;have:j<=m:=by
      rcases lT m j with u|u
      ·have:=hch.lt u hcm hcc;omega
      ·exact u
     rw [gK this,Gz hcc]
    ·simp only [iH] at hle;have hmj:m<j:=by
      rcases lT m j with u|u
      ·exact u
      ·exfalso
       rcases lT j m with v|v
       ·have:=hch.lt v hcc hcm;have:=hch.pos _ c hcc;omega
       ·have:j=m:=by omega
        subst this
        rw [hcm] at hcc;cases hcc
        omega
     rw [aJ (by omega),oG (by omega),oG (by omega)]
   rintro _ _ ⟨rfl,rfl⟩;rw [Ub (by omega)];refine ⟨⟨j+1,?_,rfl,by omega⟩,by omega⟩;rw [aJ (by omega),nP]
  {simp only [iH] at hc2;refine ⟨?_,rfl⟩;rw [aJ (by omega),oG (by omega),Gz hcm]}
theorem Cf2 (A:List Int) (x:Int):Dj (Ag A (ofI A x)) x=Dj (Ag A (ofI A x)) (inT A x:Int):=by have hi:=Aa0 A x;have ok:=Cb hi;have tn:=ok.tn;have nl:=ok.nl;obtain ⟨s1,s2⟩:=Tn (C:=Ag A (ofI A x)) (at_:=x);refine (Ab0 (Qn _ _) (λj c hj hc=>?_) λc hc=>?_).symm;{have:=s1 j c hj hc;have:=Ry hi hc;unfold inT;omega};{have:=s2 c hc;have:=Ry hi hc;unfold inT;omega}
theorem Zd (h:Gu w q A){x:Int}{K:Int->Wp}(hK:∀w',Ext w w'->K (Wy A x:Int) w'):Aa Tryz.prog 39 #[.pointer (some (at0 q)),.int .i64 x] rI K w:=by
 refine A39 ?_;unfold F39;have hA:=h.len;have hi:=Aa0 A x;have hin:=Bp9 A x;unfold Wy at hK;rw [Cf2] at hK;have ok:=Cb hi;have tn:=ok.tn;have nl:=ok.nl;have hcl:=Hq hi;have hofn:ofI A x=nb A (inT A x):=rfl;refine P9 h (Ci λw1 e1 _=>?_);have h1:=h.ext e1;refine h1.Dh1 λs ks kr=>Hz h1 hin (Bg (ks w1 (Ext.refl _)) ?_);rw [←hofn];refine kr _ w1 _ hi (Ext.refl _) λp y hy hyl=>?_;have hK:=hK w1 e1;obtain ⟨i,hi'⟩:∃i,ofI A x=i:=⟨_,rfl⟩;obtain ⟨n,hn⟩:∃n,inT A x=n:=⟨_,rfl⟩;rw [hi'] at hK hi hcl hy hyl tn nl;rw [hn] at hK;rw [hn];obtain ⟨s1,s2⟩:=Tn (C:=Ag A i) (at_:=(n:Int));have hfl:=Qn (Ag A i) (n:Int);obtain ⟨m,hm⟩:∃m,Dj (Ag A i) (n:Int)=m:=⟨_,rfl⟩;rw [hm] at hK s1 s2 hfl;have hch:=Gg A i;refine Ae (λx W=>x=((m:Int),())/\w1=W) ?_ (by rintro _ _ ⟨rfl,rfl⟩;exact hK);refine Ba (λx W=>∃j:Nat,x=(((min j m:Nat):Int),(j:Int),())/\w1=W/\j<=(Ag A i).length) (λx _=>(((Ag A i).length:Int)-x.2.1).toNat) ⟨0,by simp,rfl,iW _⟩ ?_;rintro _ _ ⟨j,rfl,rfl,hj⟩;dsimp only;refine Ac (λhc2=>?_) (λhc2=>?_)
 ·simp only [iI] at hc2;obtain ⟨c,hcc⟩:=Dk (C:=Ag A i) (j:=j) (by omega);refine Ae (λx W=>x=(((min (j+1) m:Nat):Int),())/\w1=W) ?_ ?_
  ·refine Bt6 hy hcc λp=>Ac (λhle=>⟨?_,rfl⟩) (λhle=>⟨?_,rfl⟩)
   ·simp only [iI] at hle;have:j<m:=by
     rcases lT j m with u|u
     ·exact u
     ·exfalso
      rcases lT m j with v|v
      ·obtain ⟨cm,hcm⟩:=Dk (C:=Ag A i) (j:=m) (by omega)
       have:=hch.lt v hcm hcc;have:=hch.pos _ c hcc;have:=s2 cm hcm;omega
      ·have:j=m:=by omega
       subst this
       have:=s2 c hcc;omega
    rw [gK (by omega),gK (by omega),Ub (by omega)]
   ·simp only [iH] at hle;have:m<=j:=by
     rcases lT j m with u|u
     ·exfalso
      exact hle (s1 j c u hcc)
     ·exact u
    rw [oG (by omega),oG (by omega)]
  rintro _ _ ⟨rfl,rfl⟩;rw [Ub (by omega)];exact ⟨⟨j+1,rfl,rfl,by omega⟩,by omega⟩
 {simp only [iH] at hc2;refine ⟨?_,rfl⟩;rw [oG (by omega)]}
theorem Iq (h:Gu w q A) (hi:i<=brs A){x:Int}(hx:0<=x){K:Int->Wp}(hK:K (Aw A i x:Int) w):Aa Tryz.prog 88 #[.pointer (some (at0 q)),.int .i64 (i:Int),.int .i64 x] rI K w:=by refine A88 ?_;unfold F88;obtain ⟨n,rfl⟩:∃n:Nat,x=(n:Int):=⟨x.toNat,by omega⟩;refine h.Xi hi λs p y hy hyl=>Ac (λhc=>?_) (λhc=>h.toK hi λs p=>?_);{simp only [iI] at hc;obtain ⟨c,hcc⟩:=Dk (C:=Ag A i) (j:=n) (by omega);rw [Eb (by omega),Gz hcc] at hK;exact Jr hy hcc λp=>hK};{simp only [iH] at hc;rw [Ei (by omega)] at hK;exact hK}
theorem Be1 (h:Gu w q A){line col:Int}{past:Bool}{K:Int->Wp}(hK:K (Xx A line col past:Int) w):Aa Tryz.prog 37 #[.pointer (some (at0 q)),.int .i64 line,.int .i64 col,.bool past] rI K w:=by
 refine A37 ?_;unfold F37;have hA:=h.len;have hbl:=Gi A;have hb:=Bc A;obtain ⟨l1,l2⟩:=Rh A line;(have el:(Em A line:Int)=max (min line ((lnN A:Int)-1)) 0:=by unfold Em;omega);unfold Xx at hK;obtain ⟨i,hi'⟩:∃i,Em A line=i:=⟨_,rfl⟩;rw [hi'] at hK l1 l2 el;refine Ae (λx W=>x=(max line 0,())/\w=W) (Ac (λhc=>⟨?_,rfl⟩) (λhc=>⟨?_,rfl⟩)) ?_;{simp only [iI] at hc;rw [show max line 0=0 by omega]};{simp only [iH] at hc;rw [show max line 0=line by omega]};rintro _ _ ⟨rfl,rfl⟩;refine Ae (λx W=>x=((i:Int),())/\w=W) (h.Oa (Ac (λhc=>h.Oa ⟨?_,rfl⟩) (λhc=>⟨?_,rfl⟩))) ?_;{simp only [iI,jT] at hc;rw [wrap64 (by omega) (by omega),show (lnN A:Int)-1=(i:Int) by omega]};{simp only [iH,jT] at hc;rw [show max line 0=(i:Int) by omega]};rintro _ _ ⟨rfl,rfl⟩;refine Ae (λx W=>x=(max col 0,())/\w=W) (Ac (λhc=>⟨?_,rfl⟩) (λhc=>⟨?_,rfl⟩)) ?_;{simp only [iI] at hc;rw [show max col 0=0 by omega]};{simp only [iH] at hc;rw [show max col 0=col by omega]};rintro _ _ ⟨rfl,rfl⟩;have hmx:Aw A i (max col 0)=Aw A i col:=by
  unfold Aw
  rw [show (max col 0).toNat=col.toNat by omega]
 refine Ae (λx W=>x=(decide (((Ag A i).length:Int)<=max col 0/\past=false),())/\w=W) (h.Xi l2 λs p y hy hyl=>Ac (λhc=>⟨Az ?_,rfl⟩) (λhc=>⟨Az ?_,rfl⟩)) ?_;{simp only [iI,jT] at hc;cases past<;>simp<;>omega};{simp only [iH,jT] at hc;simp only [dO,iI,lS];omega};rintro _ _ ⟨rfl,rfl⟩;refine Ac (λhc=>Ol h l2 ?_) (λhc=>Iq h l2 (by omega) ?_);{obtain ⟨hc1,hc2⟩:=cO hc;by_cases hcc:((Ag A i).length:Int)<=col;{rw [aF ⟨hcc,hc2⟩] at hK;exact hK};{rw [aJ (λhh=>hcc hh.1),Ht (by omega)] at hK;rw [Ht (by omega)];exact hK}};{have hc:=pV hc;rw [hmx];rw [aJ (λhh=>hc ⟨by omega,hh.2⟩)] at hK;exact hK}
theorem Pm {kind count arg:Int}{K:Int×Bool×Unit->Wp}(hK:∀w',Ext w w'->K ((kOf count:Int),decide (0<count),()) w'):Aa Tryz.prog 91 #[.agg (Cells.vals c48 (mvM kind count arg)).toArray] (.tup [(.one (.int .i64)),(.one .bool)]) K w:=by refine A91 (a0:=mvM kind count arg) ?_;unfold F91;(have ek:(kOf count:Int)=if 0<count then min count 9999 else 1:=by unfold kOf;split<;>omega);rw [ek] at hK;refine (St.start w).Af λb1 w1 S1 e1=>?_;have S1:St (λ_=>False) w w1 [(b1,Jw kind count arg)]:=S1;have hK:=hK w1 e1;refine S1.ld (off:=1) 0 rfl (x:=count) rfl (Ac (λhc=>?_) (λhc=>S1.ld (off:=1) 0 rfl (x:=count) rfl (Ac (λhc2=>?_) (λhc2=>S1.ld (off:=1) 0 rfl (x:=count) rfl ?_))));(all_goals simp only [iI,iH,kG] at *);{rw [aJ (by omega),jQ (by omega)] at hK;exact hK};{rw [aF (by omega),jP (by omega),show min count 9999=9999 by omega] at hK;exact hK};{rw [aF (by omega),jP (by omega),show min count 9999=count by omega] at hK;exact hK}
theorem Xw {e:Int}{K:LdT->Wp}(hK:∀w',Ext w w'->K (ldT (noP e)) w'):Aa Tryz.prog 92 #[.int .i64 e] (.tup [(.agg c83),(.one (.int .i64))]) K w:=by refine A92 ?_;unfold F92;exact (St.start w).Af λb1 w1 S1 e1=>S1.Ad 0 rfl rfl rfl rfl λw2 S2 _=>S2.lds 0 (ldT (noP e)).1 rfl (hK w2 S2.upd)
theorem Wh (h:Gu w q A){n:Nat}{kind:Int}{K:LdT->Wp}(hK:∀w',Ext w w'->K (ldT (Bz A n kind)) w'):Aa Tryz.prog 93 #[.pointer (some (at0 q)),.int .i64 (n:Int),.int .i64 kind] (.tup [(.agg c83),(.one (.int .i64))]) K w:=by refine A93 ?_;unfold F93;exact (St.start w).Af λb1 w1 S1 e1=>Zd (h.ext e1) λw2 e2=>(S1.ext e2).Ad 0 rfl rfl rfl rfl λw3 S3 _=>S3.lds 0 (ldT (Bz A n kind)).1 rfl (hK w3 S3.upd)
end
section
variable {w w':World}
theorem Cx2 {w0:World}{c:Cell}{s:Sl}{xs:List c.T}{n:Int}{K:Addr->c.T->Wp}(h:SlX w0 s 1 (xs.map c.val)) (x0:Ext w0 w) (h0:0<=n){x:c.T}(hx:xs[n.toNat]?=some x)
  (hK:∀p,(∀w',Ext w0 w'->w'.cell? (p.add (scaled (Int.toNat n) 1))=some (c.val x))->K p x w):ix s.a s.len n (λp=>ld c (p.add (scaled (Int.toNat n) 1)) (K p)) w:=by
 have hlt:=(fG.1 hx).1;have hl:=h.len1;rw [gW] at hl;obtain ⟨t,h⟩:=h.At7 (by omega);rcases h.at_ with ⟨_,hc⟩|⟨b,off,cc,fr,ha,hb,_,hv⟩;{have:=h.le;omega}
 ·have hcell:∀w',Ext w0 w'->w'.cell? ((⟨b,off,none⟩:Addr).add (scaled (Int.toNat n) 1))=some (c.val x):=λw' e=>by
   rw [addr_add,Ep]
   exact cell_of (e.ext_get hb) (hv _ _ (by rw [dS,gX,hx];rfl))
  exact ⟨⟨b,off,none⟩,⟨ha,h0,by omega⟩,D7 (x:=x) (hcell w x0) (hK _ hcell)⟩
structure Bt (w0 w:World) (e:Enc) (p r:Nat) (A:As) (na:Nat):Prop where
 ex:∃O M F na',na'<=na/\Txt w p e 65536 na' O M/\aOf e M=A/\Rn w r e (atoms A) F/\(∀k,F k->¬O k)/\(∀k,O k->w0.heap.size<=k)/\(∀k,F k->w0.heap.size<=k)
 ok:A=prs e (atoms A)
 sz:szs A<=65536
theorem Bt.tx {w0:World}{e:Enc}{p r:Nat}{A:As}{na:Nat}(h:Bt w0 w e p r A na):TxA w p (atoms A):=by obtain ⟨O,M,F,na',_,h1,h2,_⟩:=h.ex;exact ⟨e,65536,na',O,M,h1,by rw [h2]⟩
theorem Bt.ext {w0:World}{e:Enc}{p r:Nat}{A:As}{na:Nat}(h:Bt w0 w e p r A na) (x:Ext w w'):Bt w0 w' e p r A na:=by obtain ⟨O,M,F,na',h0,h1,h2,h3,h4,h5,h6⟩:=h.ex;exact ⟨⟨O,M,F,na',h0,h1.ext x,h2,h3.ext x,h4,h5,h6⟩,h.ok,h.sz⟩
set_option maxHeartbeats 1000000 in
theorem Cf5 {w0:World}{e:Enc}{p r:Nat}{A:As}{na:Nat}{s:Sl}{es:List LEd}(x0:Ext w0 w) (hB:Bt w0 w e p r A na) (hE:EdX w0 s es) (hna:na+200000<2^40){P1 P2:World->Prop}(hP:∀w',Ext w0 w'->P1 w'/\P2 w'){R:Int->Int->Wp}(hR:∀v A' w',Ext w0 w'->Bt w0 w' e p r A' (na+65536)->R v v w') :
  Aa Tryz.prog 15 #[s.v] rS (λx23=>keep P1 (keep P2 (Aa Tryz.prog 14 #[.pointer (some (at0 p)),x23.v] rI λx24=>keep P1 (keep P2 (Aa Tryz.prog 16 #[.pointer (some (at0 r)),s.v] rI λx25=>R x24 x25))))) w:=by
 obtain ⟨O,M,F,na',h0,h1,h2,h3,h4,h5,h6⟩:=hB.ex;have hok:=hB.ok;have hsz:=hB.sz;subst h2;refine Cm4 (hE.ext x0) λq zs w6 hEd hr hz e6=>?_;have x6:=x0.trans e6;refine Bg (hP w6 x6).1 (Bg (hP w6 x6).2 ?_);have t6:=h1.ext e6;obtain ⟨ys,hER⟩:=hE.toR;refine Ba5 t6 hEd hsz (λk hk hOk=>?_) (λj z hj k hk hOk=>?_) (by omega) (λc w7 hc0 hc e7=>?_) λhc O' M' w7 t7 ha7 hs7 u7 _ o2=>?_;{have:=hr k hk;have:=h1.own k hOk;omega};{have:=hz j z hj k hk;have:=h1.own k hOk;omega};{have x7:=x6.trans e7;refine Bg (hP w7 x7).1 (Bg (hP w7 x7).2 ?_);refine P8 (h3.ext (e6.trans e7)) hok (hER.ext x7) hsz (λhne w8 e8=>?_) (λheq=>by rw [heq] at hc;exact absurd hc.symm hc0);rw [hc];exact hR c _ w8 (x7.trans e8) ⟨⟨O,M,F,na',by omega,((h1.ext e6).ext e7).ext e8,rfl,((h3.ext e6).ext e7).ext e8,h4,h5,h6⟩,hok,hsz⟩}
 ·have x7:Ext w0 w7:=x6.step u7 λk hk=>h5 k hk.1;refine Bg (hP w7 x7).1 (Bg (hP w7 x7).2 ?_);have hps:=Bn3 hc;have r7:Rn w7 r e (atoms (aOf e M)) F:=(h3.ext e6).upd u7 λk hk hw=>h4 k hk hw.1;refine P8 r7 hok (hER.ext x7) hsz (λhne=>absurd hc hne) (λ_ F' w8 r8 u8 f8=>?_);have hrO:¬O' r:=λhO=>by
   rcases o2 r hO with q1|q1
   ·exact h4 r h3.root q1
   ·have:=h3.own r h3.root;have:=e6.size;omega
  obtain ⟨sa0,st0,T0,hr0,_⟩:=r7.ex;have t8:Txt w8 p e 65536 _ O' M':=t7.upd u8 (λk hk hkr=>by subst hkr;exact hrO hk) (λk hk c fr hn=>by
   subst hk
   rw [hr0] at hn
   cases hn)
  (have x8:Ext w0 w8:=x7.step u8 λk hk=>by subst hk;exact h6 _ h3.root);have hok':Dq e (aOf e M) es=prs e (atoms (Dq e (aOf e M) es)):=(Ao6 (e:=e) (by rw [hok];exact Bn7 e _) es).prs;refine hR 0 (Dq e (aOf e M) es) w8 x8 ⟨⟨O',M',F',_,by omega,t8,ha7,r8,λk hk hO=>?_,λk hk=>?_,λk hk=>?_⟩,hok',by rw [←ha7];exact hs7⟩;{rcases f8 k hk with q1|q1;{rcases o2 k hO with q2|q2;{exact h4 k q1 q2};{have:=h3.own k q1;have:=e6.size;omega}};{have:=t7.own k hO;omega}};{rcases o2 k hk with q1|q1;{exact h5 k q1};{have:=x6.size;omega}};{rcases f8 k hk with q1|q1;{exact h6 k q1};{have:=x7.size;omega}}
theorem Ck6 {c:Int}{s:Sl}{n:Nat}(hl:s.len=n) (hc:¬(1<=c/\c<=4/\n<=65536)){K:Option Addr×Int×Unit->Wp}(hK:∀v,v≠0->K (none,v,()) w) :
  Aa Tryz.prog 12 #[.int .i64 c,s.v,.int .i64 65536] (.tup [(.one .ptr),(.one (.int .i64))]) K w:=by refine A12 ?_;unfold F12;refine Ae (λx W=>x=(decide (¬(1<=c/\c<=4)),())/\w=W) (Ac (λhc=>⟨Az ?_,rfl⟩) (λhc=>⟨Az ?_,rfl⟩)) ?_;{simp only [iI,lQ] at hc ⊢;omega};{simp only [iH,iI,kG] at hc ⊢;omega};rintro _ _ ⟨rfl,rfl⟩;refine Ac (λ_=>hK 10 (by decide)) (λhc2=>?_);have hc2:=lJ λhn=>(pV hc2) hn;refine Ae (λx W=>x=(false,())/\w=W) (Aj ⟨rfl,rfl⟩) ?_;rintro _ _ ⟨rfl,rfl⟩;refine Aj (Ac (λ_=>hK 50 (by decide)) (λhc3=>?_));simp only [iH,kG] at hc3;omega
set_option maxHeartbeats 2000000 in
theorem Bb6 {y:Cells.T c26}{c:Int}{l:List UInt8}{L:List (List LEd)}{al:List Yt}(h:Xm w y c l L al){K:Option Addr×Option Addr×Bool×Unit->Wp}(hN:∀w',Ext w w'->K (none,none,true,()) w')
  (hS:∀p q e A w',l.length<=65536->e.num=c->(∃w1,Ext w w1/\∃r,Bt w1 w' e p r A (65536*L.length))->Gu w' q (atoms A)->Ext w w'->K (some (at0 p),some (at0 q),true,()) w') :
  Aa Tryz.prog 11 #[.agg (Cells.vals c26 y).toArray] (.tup [(.one .ptr),(.one .ptr),(.one .bool)]) K w:=by
 refine A11 (a0:=y) ?_;unfold F11;(have hbl:l.length=y.2.1.len:=by have:=h.bytes.len1;rwa [gW] at this);obtain ⟨ys,hys,hyl,hye⟩:=h.edits.ex;have few:=h.edits.few;(have hsl:ys.length=y.2.2.1.len:=by have:=hys.len1;rwa [gW] at this);have he:(some (Value.int .i64 y.1):Option Value)=some (Value.int .i64 c):=fC (λ(n:Int)=>some (Value.int .i64 n)) h.e;refine (St.start w).Af λb1 w1 S1 e1=>Ci2 λw2 e2=>Aj ?_;have S2:=S1.ext e2;have S2:St (λ_=>False) w w2 [(b1,lkO y)]:=S2;refine S2.ld (off:=0) 0 rfl (x:=c) he (S2.ld (off:=1) 0 rfl (x:=y.2.1) rfl ?_);by_cases hc:¬(1<=c/\c<=4/\l.length<=65536);{exact Ck6 hbl.symm hc λv hv=>Ac (λ_=>hN w2 S2.upd) (λhh=>absurd (by simpa using hh) hv)};have hc:=lJ hc;obtain ⟨e,hen⟩:=Cy5 (c:=c) ⟨hc.1,hc.2.1⟩;rw [←hen];refine Bm9 (h.bytes.ext S2.upd) hc.2.2 λr w3 F hR hF e3=>Aj ?_;have S3:=S2.ext e3;refine S3.drew λw4 S4 e4 _=>S4.ld (off:=0) 0 rfl (x:=e.num) (by rw [hen];exact he) (S4.ld (off:=1) 0 rfl (x:=y.2.1) rfl ?_);refine Ct7 (s:=⟨none,0,0⟩) (l:=[]) (m:=l) (B:=w.heap.size) (Au.nil w4 w.heap.size 5 1) (h.bytes.ext S4.upd) (by
  show 0+y.2.1.len+(0+y.2.1.len)/4+512<=2^48
  omega) S4.upd.size λs8 w5 o5 l5 u5 b5 _=>?_
 (have e5:Ext w4 w5:=(Ext.refl w4).step u5 λk hk=>by obtain ⟨_,hp,_⟩:=hk;cases hp);have S5:=S4.ext e5;rw [aU] at o5;refine S5.keep (off:=0) 0 rfl (v:=.int .i64 e.num) (by rw [hen];exact he) ?_;have hB5:By w5 s8 l:=o5.in;refine As1 (e:=e) (lim:=65536) hB5 hc.2.2 (fJ _) λp O M w6 tx hA _ e6 hnew=>?_;have S6:=S5.ext e6;refine Ae (λx W=>x=(false,())/\w6=W) (Aj ⟨rfl,rfl⟩) ?_;rintro _ _ ⟨rfl,rfl⟩;refine Aj ?_;have x26:Ext w2 w6:=((e3.trans e4).trans e5).trans e6;(have hsz:szs (ats e l)<=65536:=by rw [Il];exact hc.2.2);have B6:Bt w2 w6 e p r (ats e l) 0:=⟨⟨O,M,F,0,fJ _,tx,hA,((hR.ext e4).ext e5).ext e6,λk hk hO=>by
  have:=hR.own k hk;have:=hnew k hO;have:=e4.size;have:=e5.size;omega,λk hO=>by
  have:=hnew k hO;have:=e3.size;have:=e4.size;have:=e5.size;omega,hF⟩,(Bs8 e _ l (fJ _)).prs,hsz⟩
 have hb1:b1<w2.heap.size:=lt_of_heap (S2.at_ 0 rfl);have hob:w2.heap[b1]?=some (lkO y):=S2.at_ 0 rfl;have hw2:Ext w w2:=S2.upd;refine Ae (λ_ W=>∃A,Ext w2 W/\Bt w2 W e p r A (65536*L.length)) ?_ ?_;{refine Ba (λx W=>∃(i:Nat) (A:As),x=((i:Int),())/\i<=L.length/\Ext w2 W/\Bt w2 W e p r A (65536*i)) (λx _=>((L.length:Int)-x.1).toNat) ⟨0,_,rfl,iW _,x26,B6⟩ ?_;rintro _ W ⟨i,A,rfl,hi,xW,hB⟩;dsimp only;have hobW:=xW.ext_get hob;refine Cm (off:=2) (x:=y.2.2.1) hobW rfl (Ac (λhc2=>?_) (λhc2=>?_));{simp only [iI] at hc2;(have ew:W64 ((i:Int)+1)=((i+1:Nat):Int):=by rw [wrap64 (by omega) (by omega)];omega);rw [ew];obtain ⟨q,hq⟩:∃q,ys[i]?=some q:=⟨_,jC (by omega)⟩;obtain ⟨es,hes⟩:∃es,L[i]?=some es:=⟨_,jC (by omega)⟩;(have hqn:ys[((i:Int)).toNat]?=some q:=by rw [dF];exact hq);refine Ci λw7 e7 _=>?_;have x7:=xW.trans e7;have ob7:=x7.ext_get hob;refine Cm (off:=2) (x:=y.2.2.1) ob7 rfl ?_;refine Az5 (c:=.sl) (xs:=ys) (hys.ext (hw2.trans x7)) (kQ i) hqn λp1=>?_;refine Cm (off:=2) (x:=y.2.2.1) ob7 rfl ?_;refine Cx2 (c:=.sl) (xs:=ys) (hys.ext hw2) x7 (kQ i) hqn λp2 k2=>?_;refine Cf5 x7 (hB.ext e7) ((hye i q es hq hes).ext hw2) (by omega) (λw' x'=>⟨k2 w' x',cell_of (off:=2) (x'.ext_get hob) rfl⟩) λv A' w8 x8 B8=>?_;rw [bne_self_eq_false];exact Aj ⟨⟨i+1,A',rfl,by omega,x8,by rw [Nat.mul_succ];exact B8⟩,by omega⟩};{simp only [iH] at hc2;obtain rfl:i=L.length:=(by omega);exact ⟨A,xW,hB⟩}};rintro _ W ⟨A,xW,hB⟩;obtain ⟨O',M',F',na',_,_,_,hR',_,_,_⟩:=hB.ex;refine hR'.Uo λsa hsa=>Co1 hsa hR'.len λq w8 hq _ e8=>?_;exact hS p q e A w8 hc.2.2 hen ⟨w2,hw2,r,hB.ext e8⟩ hq ((hw2.trans xW).trans e8)
end
section
variable {w w':World}{p:Nat}{A:List Int}
abbrev Bj9 (a:Yt):Obj:=.cells #[.int .i64 a.kind,.int .i64 a.at_,.int .i64 a.b,.int .i64 a.mkd,.int .i64 a.count,.int .i64 a.arg,.bool a.past] 50 (0,0)
theorem Bj8 {W:World}{b:Nat}{a:Yt}{K:Cells.T c48->Wp}(hb:W.heap[b]?=some (Bj9 a)) (hK:K (mvM a.mkd a.count a.arg) W):lds c48 ⟨b,3,none⟩ K W :=
 Qc (x:=mvM a.mkd a.count a.arg) hb (λj v hv=>by
  match j with
  |0=>exact hv
  |1=>exact hv
  |2=>exact hv
  |j+3=>cases hv) hK
end
def Brk (w:World):Prop:=∀j,j<6->w.cell? ⟨0,j,none⟩=some (.int .i64 (X5.getD j 0))
section
variable {w w':World}{p q:Nat}{A:List Int}{a:Yt}
theorem Brk.ext (h:Brk w) (x:Ext w w'):Brk w':=λj hj=>Vl (h j hj) x
def Cu1 (a:Yt):Prop:=∀(w:World) (p q:Nat) (A:List Int) (K:Bool->Wp),Brk w->TxA w p A->Gu w q A->(∀w',Ext w w'->K true w')->Aa Tryz.prog 18 #[.pointer (some (at0 p)),.pointer (some (at0 q)),.agg (Cells.vals c50 (Aq4 a)).toArray] rB K w
section
variable {y:Cells.T c26}{c:Int}{l:List UInt8}{L:List (List LEd)}{al:List Yt}
theorem Xm.Dg3 {W:World}(h:Xm w y c l L al) (e:Ext w W):Xm W y c l L al :=
 ⟨h.e,h.i64,h.bytes.ext e,h.blen,⟨by obtain ⟨ys,g1,g2,g3⟩:=h.edits.ex;exact ⟨ys,g1.ext e,g2,λi q es hq he=>(g3 i q es hq he).ext e⟩,h.edits.few⟩,⟨h.asks.row.ext e,h.asks.few,h.asks.i64⟩⟩
theorem Xm.Dl7 (h:Xm w y c l L al){W:World}(x:Ext w W){i:Nat}{a:Yt}(ha:al[i]?=some a){K:Addr->Cells.T c50->Wp}(hK:∀q,K q (Aq4 a) W) :
  ix y.2.2.2.1.a y.2.2.2.1.len (i:Int) (λq=>lds c50 (q.add (scaled (Int.toNat (i:Int)) 7)) (K q)) W :=
 Bw7 (cs:=c50) (xs:=al.map Aq4) (h.asks.row.ext x) (by decide) (kQ i) (by rw [dF,gX,ha];rfl) hK
theorem Xm.Dg4 (h:Xm w y c l L al):al.length=y.2.2.2.1.len:=by
 have:=SlX.Md (cs:=c50) h.asks.row (by decide)
 rwa [gW] at this
set_option maxHeartbeats 1000000 in
theorem Bk7 (h:Xm w y c l L al) (hg:Brk w){lo hi:Int}(hask:∀a,lo<=a.kind->a.kind<=hi->Cu1 a){K:Bool->Wp}(hK:∀w',Ext w w'->K true w') :
  Aa Tryz.prog 10 #[.agg (Cells.vals c26 y).toArray,.int .i64 lo,.int .i64 hi] rB K w:=by refine A10 (a0:=y) ?_;unfold F10;have hal:=h.Dg4;have hfew:=h.asks.few;refine (St.start w).Af λb1 w1 S1 e1=>?_;have S1:St (λ_=>False) w w1 [(b1,lkO y)]:=S1;refine S1.lds 0 y rfl (Bb6 (h.Dg3 e1) (λw2 e2=>?_) λp q e A w2 _ _ hB pg e2=>?_);{refine Ae (λs W=>s=(true,())/\w2=W) (Aj ⟨rfl,rfl⟩) ?_;rintro _ _ ⟨rfl,rfl⟩;exact Bh (hK w2 (S1.ext e2).upd)};obtain ⟨w0,_,r,hB⟩:=hB;have tx2:=hB.tx;refine Ae (λs W=>s=(false,())/\w2=W) (Aj ⟨rfl,rfl⟩) ?_;rintro _ _ ⟨rfl,rfl⟩;refine Aj ?_;have S2:=S1.ext e2;refine Ae (λ_ W=>Ext w W) ?_ (λ_ W hW=>hK W hW);refine Ba (λx W=>∃i:Nat,x=((i:Int),())/\i<=al.length/\TxA W p (atoms A)/\Gu W q (atoms A)/\St (λ_=>False) w W [(b1,lkO y)]) (λx _=>((al.length:Int)-x.1).toNat) ⟨0,rfl,iW _,tx2,pg,S2⟩ ?_;rintro _ W ⟨i,rfl,hi,tx,pg,SW⟩;dsimp only;refine SW.ld (off:=3) 0 rfl (x:=y.2.2.2.1) rfl (Ac (λhc=>?_) (λhc=>SW.upd));simp only [iI] at hc;obtain ⟨a,ha⟩:∃a,al[i]?=some a:=⟨_,jC (by omega)⟩;(have ewi:W64 ((i:Int)+1)=((i+1:Nat):Int):=by rw [wrap64 (by omega) (by omega)];omega);rw [ewi];refine SW.ld (off:=3) 0 rfl (x:=y.2.2.2.1) rfl (h.Dl7 SW.upd ha λq1=>?_);refine (St.start W).Ir rfl rfl rfl λbA w4 T4 _=>?_;have T4:St (λ_=>False) W w4 [(bA,Bj9 a)]:=T4;refine Ae (λx V=>x=(false,())/\Ext W V) ?_ ?_;{refine T4.ld (off:=0) 0 rfl (x:=a.kind) rfl (Ac (λh1=>T4.ld (off:=0) 0 rfl (x:=a.kind) rfl (Ac (λh2=>?_) (λ_=>⟨rfl,T4.upd⟩))) (λ_=>⟨rfl,T4.upd⟩));simp only [iI,jT] at h1 h2;exact T4.lds 0 (Aq4 a) rfl (hask a h1 h2 w4 p q _ _ (hg.ext (SW.upd.trans T4.upd)) (tx.ext T4.upd) (pg.ext T4.upd) λw5 e5=>⟨rfl,(T4.ext e5).upd⟩)};rintro _ V ⟨rfl,xV⟩;exact Aj ⟨⟨i+1,rfl,by omega,tx.ext xV,pg.ext xV,SW.ext xV⟩,by omega⟩
end
end
end
section
open Go Go.Vx Go.ChangeShapes Go.WideShapes Go.RowKit Cdc Mot
theorem Dy7:Tryz.prog.globalNamed "copyist/copyistref8.brackets" = some 0:=by kernel_rfl
theorem Dl9:(Tryz.prog.globals[0]?).map (·.type)=some 202:=by kernel_rfl
theorem Dl8:Tryz.prog.underlying 202=some (.array 6 3):=by kernel_rfl
theorem Dz5:Tryz.prog.cellsOf 3=1:=by kernel_rfl
abbrev laidB:List (String×DataW Unit):=[("copyist/copyistref8.brackets",Rows.laid_copyist_copyistref8_brackets)]
theorem Bj2 {W:World}(h:laidMetH Tryz.prog laidB W):Brk W:=by
 rw [qF _ _ _ (by kernel_rfl)] at h;obtain ⟨ps,⟨g0,t0,cs0,f0,p0,q0,hg0,ht0,hv0,hd0,_,_⟩,_,_⟩:=h;obtain rfl:=kS (Dy7.symm.trans hg0);obtain rfl:=kS (Dl9.symm.trans ht0);obtain ⟨xs,m1,rfl,hx1,hlen,hn6,hel⟩:=DataW.trod_array Dl8 hd0;have hm:xs.map (·.1)=[.lit (.int .i64 40),.lit (.int .i64 91),.lit (.int .i64 123),.lit (.int .i64 41),.lit (.int .i64 93),.lit (.int .i64 125)]:=by
  have:=(Prod.mk.inj hx1).1
  unfold Rows.laid_copyist_copyistref8_brackets at this
  exact (DataW.agg.inj this).symm
 intro j hj;have h0:=hel j hj;rw [Dz5,dS] at h0;obtain ⟨x,hx⟩:∃x,xs[j]?=some x:=⟨_,jC (by omega)⟩;rw [hx] at h0;obtain ⟨n,e1,e2,_⟩:=DataW.trod_int ui h0;have hcs:cs0[j]?=some (.int .i64 n):=by
  have:=fC (λl:List Value=>l[0]?) e1
  simp only [gQ,gU,Nat.add_zero] at this
  simpa using this
 (have hx1:(xs.map (·.1))[j]?=some (.lit (.int .i64 n)):=by rw [gX,hx,e2];rfl);rw [hm] at hx1;rw [World.var?_cell hg0 hv0 j,hcs];have hn:n=X5.getD j 0:=by
  rcases (by omega:j=0\/j=1\/j=2\/j=3\/j=4\/j=5) with rfl|rfl|rfl|rfl|rfl|rfl
  all_goals
   have:=kS hx1
   have:=Lit.int.inj (DataW.lit.inj this)
   exact this.2.symm
 rw [hn]
def laidWorld (os:Os):World :=
 let w0:=World.holding Tryz.prog os ⟨#[],#[],[]⟩
 { w0 with heap:=w0.heap.modify 0 λ
  |.cells _ t frozen=>.cells #[.int .i64 40,.int .i64 91,.int .i64 123,.int .i64 41,.int .i64 93,.int .i64 125] t frozen
  |o=>o }
abbrev look0:Value:=.agg #[.int .i64 0,.slice none 0 0,.slice none 0 0,.slice none 0 0]
theorem laid_met (os:Os) (args:Array Value):laidMetH Tryz.prog laidB ((laidWorld os).forCall (λ_ _=>0) ⟨#[],args,[]⟩).memory:=by rw [qF _ _ _ (by kernel_rfl)];exact (LaidIn.of_run [0] 8 (by kernel_rfl) (by kernel_rfl) (by kernel_rfl) (by kernel_rfl)).met
end
section
open Go Go.Vx Cdc Trx Gly Clu Lns Obx Mot
abbrev Jd (l:Ld):Obj:=.cells #[.int .i64 l.1.1,.int .i64 l.1.2.1,.int .i64 l.1.2.2] 94 (0,0)
abbrev SpT:=Cells.T c94×Int×Unit
abbrev N9 (l:Ld):SpT:=((l.1.1,l.1.2.1,l.1.2.2,()),l.2,())
abbrev Cd9 (l:Ld):Obj:=.cells #[.int .i64 l.1.1,.int .i64 l.1.2.1,.int .i64 l.1.2.2] 83 (0,0)
theorem Dm5 (c:Int):(if (9999:Int)<(if (1:Int)>c then (1:Int) else c) then (9999:Int) else (if (1:Int)>c then (1:Int) else c))=(kOf c:Int):=by unfold kOf;split<;>split at * <;> split<;>omega
theorem Zi (c:Int):1<=kOf c/\kOf c<=9999:=by unfold kOf;split<;>omega
section
variable {w w':World}{p:Nat}{A:List Int}
set_option maxHeartbeats 1000000 in
theorem Az3 (h:TxA w p A){s:Nat}(hs:Ak A (s:Int) true=s){to_ kind count arg:Int}{K:Int×Bool×Unit->Wp}
  (hK:∀w',Ext w w'->K (((Aq A (ofI A (Lr A s (decide (kind=25)) (kOf count):Int))).to_:Int),decide (ofI A (Lr A s (decide (kind=25)) (kOf count):Int)<ofI A to_),()) w') :
  Aa Tryz.prog 104 #[.pointer (some (at0 p)),.int .i64 (s:Int),.int .i64 to_,.agg (Cells.vals c48 (mvM kind count arg)).toArray] (.tup [(.one (.int .i64)),(.one .bool)]) K w:=by
 refine Eo7 (a3:=mvM kind count arg) ?_;unfold F104;have eb:(kind==25)=decide (kind=25):=(by rw [gV,jM,iI]);obtain ⟨big,hbig⟩:∃big,decide (kind=25)=big:=⟨_,rfl⟩;rw [hbig] at hK eb;have hkr:=Zi count;obtain ⟨kk,hkk⟩:∃kk,kOf count=kk:=⟨_,rfl⟩;rw [hkk] at hK hkr;refine (St.start w).Af λb1 w1 S1 e1=>?_;have S1:St (λ_=>False) w w1 [(b1,Jw kind count arg)]:=S1;refine S1.ld (off:=0) 0 rfl (x:=kind) rfl ?_;rw [eb];refine U1 (h.ext S1.upd) hs λbw r0 w2 hw hbw e2=>?_;have S2:=S1.ext e2;have hon:=(Qx A (s:Int) true).1;have hoff:Bo A (Ar A (s:Int) true)=s:=(by rw [(Qx A (s:Int) true).2.1,hs]);have hpass:Lr A s big kk=((((((aft A (Ar A (s:Int) true)).filter (Lj A big)).map (Bo A)).take (kk-1)).getLast?).getD s):=by
  unfold Lr
  have:=At4 (Lj A big) hon
  rw [hoff] at this
  rw [this]
 rw [hpass] at hK;obtain ⟨f,hf⟩:∃f,(((((aft A (Ar A (s:Int) true)).filter (Lj A big)).map (Bo A)).take (kk-1)).getLast?).getD s=f:=⟨_,rfl⟩;rw [hf] at hK;have fin:∀{W:World},Ext w W->(Aa Tryz.prog 78 #[.pointer (some (at0 p)),.int .i64 (f:Int),.bool true] (.one (.agg Bf)) λx14=>Af (.cells #[(.int .i64 (0:Int)),(.int .i64 (0:Int)),(.int .i64 (0:Int)),(.int .i64 (0:Int)),(.int .i64 (0:Int)),(.slice none 0 0),(.slice none 0 0)] 135) λb15 =>
   Ad (at0 b15) (.agg (Cells.vals Bf x14).toArray) 7<|drew<|ld (.int .i64) (⟨b15,1,none⟩:Addr) λ(x16:Int)=>ld (.int .i64) (⟨b15,4,none⟩:Addr) λ(x17:Int) =>
   Aa Tryz.prog 130 #[(.pointer (some (at0 p))),(.int .i64 to_)] rI λ(x18:Int)=>keep (λw=>w.cell? (⟨b15,4,none⟩:Addr)=some (Cell.val (.int .i64) x17))<|keep (λw=>w.cell? (⟨b15,1,none⟩:Addr)=some (Cell.val (.int .i64) x16)) <|
   K (x16,(decide (x18>x17)),())) W:=λ{W} eW=>by
  refine Ji (h.ext eW) λr w3 hr e3=>?_
  have er:Cc A (f:Int) true=ofI A (f:Int):=by unfold Cc;rw [aF rfl]
  rw [er] at hr
  refine ((St.start w).ext (eW.trans e3)).Ir rfl rfl rfl λb15 w4 S4 e4=>?_
  have S4:St (λ_=>False) w w4 [(b15,rwO r)]:=S4
  have ht:=hr.t;have hn:=hr.num
  refine S4.drew λw5 S5 e5 _=>S5.ld (off:=1) 0 rfl (x:=r.2.1) rfl (S5.ld (off:=4) 0 rfl (x:=r.2.2.2.2.1) rfl ((h.ext S5.upd).of λw6 e6=>?_))
  have S6:=S5.ext e6
  refine S6.keep (off:=4) 0 rfl (v:=.int .i64 r.2.2.2.2.1) rfl (S6.keep (off:=1) 0 rfl (v:=.int .i64 r.2.1) rfl ?_)
  rw [ht,hn]
  have:=hK w6 S6.upd
  have ed:decide (((ofI A to_:Nat):Int)>((ofI A (f:Int):Nat):Int))=decide (ofI A (f:Int)<ofI A to_):=by rw [gV,iI,iI];omega
  rw [ed];exact this
 refine Ae (λx W=>x=((f:Int),())/\Ext w W) ?_ (λx W hx=>by rw [hx.1];exact fin hx.2);refine S2.ld (off:=1) 0 rfl (x:=count) rfl ?_;rw [Dm5,hkk];(have ew0:W64 ((kk:Int)-1)=((kk-1:Nat):Int):=by rw [wrap64 (by omega) (by omega)];omega);rw [ew0];(have hbw2:w.heap.size<=bw:=by have:=S1.upd.size;omega);refine O1 (λ(g:Nat×Nat×(Nat×Nat)×RwT) x W=>x=((g.2.1:Int),(g.1:Int),())/\g.1<=9999/\Ez W bw p A big g.2.2.1 g.2.2.2/\Ext w W/\((((aft A g.2.2.1).filter (Lj A big)).map (Bo A)).take g.1).getLast?.getD g.2.1=f) (λg=>(aft A g.2.2.1).length) (kk-1,s,Ar A (s:Int) true,r0) ⟨rfl,by dsimp only;omega,hw,S2.upd,hf⟩ ?_;rintro ⟨k,v,q,r⟩ _ W R ⟨rfl,hk,hW,eW,hv⟩ hR;dsimp only at hk hW hv hR ⊢;refine Ae (λx V=>(x=(false,())/\v=f/\Ext w V)\/(x=(true,())/\0<k/\∃q2 r2,Ii A q=some q2/\Ez V bw p A big q2 r2/\Ext w V)) ?_ ?_;{refine Ac (λhc=>?_) (λhc=>?_);{simp only [iI,kG] at hc;refine Ro hW (λhn W1 e1'=>.inl ⟨rfl,?_,eW.trans e1'⟩) (λq2 r2 W1 hn hW1 u1=>.inr ⟨rfl,by omega,q2,r2,hn,hW1,eW.step u1 λk hk=>by omega⟩);rw [Yn hn] at hv;simpa using hv};{simp only [iH,kG] at hc;refine .inl ⟨rfl,?_,eW⟩;rw [show k=0 by omega] at hv;simpa using hv}};rintro _ V (⟨rfl,rfl,eV⟩|⟨rfl,hk0,q2,r2,hn,hV,eV⟩);{exact Aj ⟨rfl,eV⟩};refine Bh (Zy hV (Aa1 hW.on hn) λV1 e1'=>?_);(have hlen:(aft A q2).length<(aft A q).length:=by rw [Jq hn];simp);rw [Jq hn] at hv;refine Ac (λhb=>?_) (λhb=>?_);{refine Oi (hV.ext e1') λV2 e2'=>?_;(have ew:W64 ((k:Int)-1)=((k-1:Nat):Int):=by rw [wrap64 (by omega) (by omega)];omega);rw [ew];refine hR (k-1,Bo A q2,q2,r2) _ V2 ⟨rfl,by dsimp only;omega,(hV.ext e1').ext e2',(eV.trans e1').trans e2',?_⟩ hlen;dsimp only;rw [nG hb,dQ,show k=k-1+1 by omega,iK,List.getLast?_cons] at hv;simpa using hv};{refine hR (k,v,q2,r2) _ V1 ⟨rfl,hk,hV.ext e1',eV.trans e1',?_⟩ hlen;dsimp only;rw [nJ (by rw [hb];decide)] at hv;exact hv}
theorem Mc {W w0:World}{b1:Nat}{l:Ld}{o:Obj}{ls:List (Nat×Obj)}{K:SpT->Wp}{a b c:Int}{i:Nat}(S:St (λ_=>False) w0 W ls) (hi:ls[i]?=some (b1,Jd ((a,b,c),0))) (hK:∀w',Ext w0 w'->K (N9 l) w') :
  Ad (at0 b1) (.agg #[.int .i64 l.1.1,.int .i64 l.1.2.1,.int .i64 l.1.2.2]) 3 (lds c94 (at0 b1) λy=>K (y,l.2,())) W:=by have hlt:=(fG.1 hi).1;refine S.Ad i hi rfl rfl rfl λw1 S1 _=>S1.lds i (N9 l).1 (by rw [List.getElem?_set_self hlt];rfl) (hK w1 S1.upd)
set_option maxHeartbeats 1000000 in
theorem X9 (h:TxA w p A){a b kind:Int}{K:SpT->Wp}(hK:∀w',Ext w w'->K (N9 (Px A a b kind)) w') :
  Aa Tryz.prog 52 #[.pointer (some (at0 p)),.int .i64 a,.int .i64 b,.int .i64 kind] (.tup [(.agg c94),(.one (.int .i64))]) K w:=by refine A52 ?_;unfold F52;have hA:=h.len;unfold Px at hK;dsimp only at hK;refine (St.start w).Af λb1 w1 S1 e1=>Pq (h.ext S1.upd) λw2 e2=>Pq (h.ext (S1.ext e2).upd) λw3 e3=>?_;have S3:=(S1.ext e2).ext e3;have S3:St (λ_=>False) w w3 [(b1,Jd ((0,0,0),0))]:=S3;obtain ⟨ca,hca⟩:∃ca,Ak A a true=ca:=⟨_,rfl⟩;obtain ⟨cb,hcb⟩:∃cb,Ak A b true=cb:=⟨_,rfl⟩;rw [hca,hcb] at hK;rw [hca,hcb];have emin:(if (cb:Int)<(ca:Int) then (cb:Int) else (ca:Int))=((min ca cb:Nat):Int):=(by split<;>omega);have emax:(if (cb:Int)>(ca:Int) then (cb:Int) else (ca:Int))=((max ca cb:Nat):Int):=(by split<;>omega);rw [emin,emax];obtain ⟨lo,hlo⟩:∃lo,min ca cb=lo:=⟨_,rfl⟩;obtain ⟨hi,hhi⟩:∃hi,max ca cb=hi:=⟨_,rfl⟩;rw [hlo,hhi] at hK;rw [hlo,hhi];refine Ji (h.ext S3.upd) λr w4 hr e4=>?_;(have er:Cc A (hi:Int) true=ofI A (hi:Int):=by unfold Cc;rw [aF rfl]);rw [er] at hr;obtain ⟨i,hi'⟩:∃i,ofI A (hi:Int)=i:=⟨_,rfl⟩;rw [hi'] at hK hr;have hf:=hr.f;have ht:=hr.t;have hn:=hr.num;have fw:=hr.few;have hib:=hr.row;have hbl:=Gi A;refine (S3.ext e4).Ir rfl rfl rfl λb5 w5 S5 e5=>?_;have S5:St (λ_=>False) w w5 [(b5,rwO r),(b1,Jd ((0,0,0),0))]:=S5;have hr5:=hr.ext e5;refine Ac (λhk=>?_) (λhk=>?_);{rw [jM] at hk;rw [aF hk] at hK;refine Ae (λx V=>x=(((if hi=(Aq A i).from_/\lo<hi/\0<i then max (Aq A (i-1)).to_ lo else hi:Nat):Int),())/\∃ls,St (λ_=>False) w V ls/\ls[ls.length-1]?=some (b1,Jd ((0,0,0),0))) ?_ ?_;{refine Ae (λx V=>x=(decide (hi=(Aq A i).from_/\lo<hi/\0<i),())/\w5=V) ?_ ?_;{refine S5.ld (off:=0) 0 rfl (x:=r.1) rfl ?_;rw [hf];refine Ac (λh1=>Ac (λh2=>S5.ld (off:=4) 0 rfl (x:=r.2.2.2.2.1) rfl ⟨Az ?_,rfl⟩) (λh2=>⟨Az ?_,rfl⟩)) (λh1=>⟨Az ?_,rfl⟩);{simp only [jM,iI,kG] at h1 h2 ⊢;rw [hn];omega};{simp only [jM,iH] at h1 h2;simp only [dO,iI,lS];omega};{simp only [jO,ne_eq] at h1;simp only [dO,iI,lS];omega}};rintro _ _ ⟨rfl,rfl⟩;refine Ac (λhc=>?_) (λhc=>?_);{have hc:=cO hc;rw [aF hc];refine S5.ld (off:=4) 0 rfl (x:=r.2.2.2.2.1) rfl ?_;(have ew:W64 (r.2.2.2.2.1-1)=((i-1:Nat):Int):=by rw [hn,wrap64 (by omega) (by omega)];omega);rw [ew];refine (h.ext S5.upd).at_ (by omega) λw6 e6=>(S5.ext e6).Ir rfl rfl rfl λb14 w7 S7 _=>?_;have S7:St (λ_=>False) w w7 [(b14,.cells #[.int .i64 ((Aq A (i-1)).from_:Int),.int .i64 ((Aq A (i-1)).to_:Int),.int .i64 ((Aq A (i-1)).next:Int),.int .i64 ((Aq A (i-1)).kind:Int)] 133 (0,0)),(b5,rwO r),(b1,Jd ((0,0,0),0))]:=S7;refine S7.ld (off:=1) 0 rfl (x:=((Aq A (i-1)).to_:Int)) rfl ⟨?_,_,S7,rfl⟩;have:(if (lo:Int)>((Aq A (i-1)).to_:Int) then (lo:Int) else ((Aq A (i-1)).to_:Int))=((max (Aq A (i-1)).to_ lo:Nat):Int):=(by split<;>omega);rw [this]};{have hc:=pV hc;rw [aJ hc];exact ⟨rfl,_,S5,rfl⟩}};rintro _ V ⟨rfl,ls,SV,hls⟩;refine Mc (l:=(((lo:Int),(((if hi=(Aq A i).from_/\lo<hi/\0<i then max (Aq A (i-1)).to_ lo else hi:Nat):Int)),0),0)) (o:=Jd ((0,0,0),0)) SV hls λw' x=>?_;have:=hK w' x;split at this;{rename_i hc;rw [aF hc];exact this};{rename_i hc;rw [aJ hc];exact this}};rw [jO] at hk;rw [aJ hk] at hK;refine Ac (λhk=>?_) (λhk=>?_);{rw [jM] at hk;rw [aF hk] at hK;refine Ae (λx V=>x=(((if hi<(Aq A i).to_ then Aw A i ((Dj (Ag A i) (hi:Int):Nat)+1) else hi:Nat):Int),())/\St (λ_=>False) w V [(b5,rwO r),(b1,Jd ((0,0,0),0))]) ?_ ?_;{refine S5.ld (off:=1) 0 rfl (x:=r.2.1) rfl ?_;rw [ht];refine Ac (λhc=>?_) (λhc=>?_);{simp only [iI] at hc;rw [aF (by omega)];refine S5.drew λw6 S6 e6 _=>S6.lds 0 r rfl (S6.lds 0 r rfl (Uz (hr5.ext e6) λw7 e7=>?_));have S7:=S6.ext e7;have hfl:=Qn (Ag A i) (hi:Int);have ew:W64 ((Dj (Ag A i) (hi:Int):Int)+1)=((Dj (Ag A i) (hi:Int):Nat):Int)+1:=wrap64 (by omega) (by omega);rw [ew];exact S7.keeps 0 (x:=r) rfl (Es ((hr5.ext e6).ext e7) λw8 e8=>⟨rfl,S7.ext e8⟩)};{simp only [iH] at hc;rw [aJ (by omega)];exact ⟨rfl,S5⟩}};rintro _ V ⟨rfl,SV⟩;exact Mc (l:=(((lo:Int),(((if hi<(Aq A i).to_ then Aw A i ((Dj (Ag A i) (hi:Int):Nat)+1) else hi:Nat):Int)),0),0)) (o:=Jd ((0,0,0),0)) (i:=1) SV rfl hK};rw [jO] at hk;rw [aJ hk] at hK;refine Ac (λhk=>?_) (λhk=>?_);{rw [jM] at hk;rw [aF hk] at hK;refine Ji (h.ext S5.upd) λr1 w6 hr1 e6=>Ji (h.ext (S5.ext e6).upd) λr2 w7 hr2 e7=>?_;have S7:=(S5.ext e6).ext e7;refine S7.Af λb27 w8 S8 e8=>S8.Af λb28 w9 S9 e9=>S9.Ad 1 rfl rfl rfl rfl λw10 S10 _=>S10.Ad 0 rfl rfl rfl rfl λw11 S11 _=>?_;have S11:St (λ_=>False) w w11 [(b28,rwO r2),(b27,rwO r1),(b5,rwO r),(b1,Jd ((0,0,0),0))]:=S11;refine S11.ld (off:=0) 1 rfl (x:=r1.1) rfl (S11.ld (off:=2) 0 rfl (x:=r2.2.2.1) rfl ?_);rw [hr1.f,hr2.n];exact Mc (l:=((((Aq A (Cc A (lo:Int) false)).from_:Int),((Aq A (Cc A (hi:Int) false)).next:Int),1),0)) (o:=Jd ((0,0,0),0)) (i:=3) S11 rfl hK};{rw [jO] at hk;rw [aJ hk] at hK;exact Mc (l:=noP 1) (o:=Jd ((0,0,0),0)) (i:=1) S5 rfl hK}
set_option maxHeartbeats 2000000 in
theorem Bn4 (h:TxA w p A){x kind count arg:Int}{K:SpT->Wp}(hK:∀w',Ext w w'->K (N9 (Y7 A x kind count arg)) w') :
  Aa Tryz.prog 49 #[.pointer (some (at0 p)),.int .i64 x,.agg (Cells.vals c48 (mvM kind count arg)).toArray] (.tup [(.agg c94),(.one (.int .i64))]) K w:=by
 refine A49 (a2:=mvM kind count arg) ?_;unfold F49;refine (St.start w).Af λb1 w1 S1 e1=>S1.Af λb2 w2 S2 e2=>Pq (h.ext S2.upd) λw3 e3=>(S2.ext e3).Af λb4 w4 S4 e4=>?_;have S4:St (λ_=>False) w w4 [(b4,Cd9 (noP 1)),(b2,Jd ((0,0,0),0)),(b1,Jw kind count arg)]:=S4;have ss:=Vu (Nj A x false);unfold Y7 at hK;dsimp only at hK;obtain ⟨s,hs⟩:∃s,Ak A x false=s:=⟨_,rfl⟩;rw [hs] at hK ss;rw [hs];have hsc:=ss.clamp;obtain ⟨l,hl⟩:∃l,goP A (s:Int) kind count arg=l:=⟨_,rfl⟩;rw [hl] at hK;unfold goP at hl;refine Ae (λy V=>y=(l.2,())/\∃kd,(kd=kind\/(kind=60/\kd=15))/\St (λ_=>False) w V [(b4,Cd9 l),(b2,Jd ((0,0,0),0)),(b1,Jw kd count arg)]) ?_ ?_
 ·refine S4.ld (off:=0) 2 rfl (x:=kind) rfl ?_;have two:∀{lo hi:Int} {V:World},join (S:=Bool×Unit) (λJ8=>sif (decide (kind>=lo)) (J8 (decide (kind<=hi),())) (J8 (false,())))=join (S:=Bool×Unit) (λJ8=>sif (decide (kind>=lo)) (J8 (decide (kind<=hi),())) (J8 (false,()))):=rfl;have rng:∀{lo hi:Int} {V:World} {B C:World->Prop},(lo<=kind/\kind<=hi->B V)->(¬(lo<=kind/\kind<=hi)->C V)->join (S:=Bool×Unit) (λJ8=>sif (decide (kind>=lo)) (J8 (decide (kind<=hi),())) (J8 (false,()))) (λs9=>sif s9.1 B C) V:=λ{lo hi V B C} hB hC=>by
   refine Ae (λy V'=>y=(decide (lo<=kind/\kind<=hi),())/\V=V') ?_ ?_
   ·refine Ac (λh1=>⟨Az ?_,rfl⟩) (λh1=>⟨Az ?_,rfl⟩)
    ·simp only [iI,jT] at h1 ⊢
     exact ⟨λhh=>⟨h1,hh⟩,λhh=>hh.2⟩
    ·simp only [iH,jT] at h1
     simp only [dO,iI,lS]
     exact λhh=>h1 hh.1
   ·rintro _ _ ⟨rfl,rfl⟩
    exact Ac (λhc=>hB (cO hc)) (λhc=>hC (pV hc))
  refine rng (λhc=>?_) (λhc=>?_);{rw [aF hc] at hl;refine S4.lds 2 (mvM kind count arg) rfl (Ad3 (h.ext S4.upd) λw5 e5=>?_);rw [hl];exact (S4.ext e5).Ad 0 rfl rfl rfl rfl λw6 S6 _=>⟨rfl,kind,.inl rfl,S6⟩};rw [aJ hc] at hl;refine rng (λhc=>?_) (λhc=>?_);{rw [aF hc] at hl;refine S4.drew λw5 S5 e5 _=>S5.lds 2 (mvM kind count arg) rfl (Wq (h.ext S5.upd) λw6 e6=>?_);have S6:=S5.ext e6;refine S6.keeps 2 (x:=mvM kind count arg) rfl (Ak6 (h.ext S6.upd) λw7 e7=>?_);rw [hl];exact (S6.ext e7).Ad 0 rfl rfl rfl rfl λw6 S6 _=>⟨rfl,kind,.inl rfl,S6⟩};rw [aJ hc] at hl;refine Ac (λhc=>?_) (λhc=>?_);{rw [jM] at hc;rw [aF hc] at hl;refine S4.stC (off:=0) 2 rfl (by show 0<3;decide) λw5 S5 _=>?_;have S5:St (λ_=>False) w w5 [(b4,Cd9 (noP 1)),(b2,Jd ((0,0,0),0)),(b1,Jw 15 count arg)]:=S5;refine S5.lds 2 (mvM 15 count arg) rfl (Ak6 (h.ext S5.upd) λw6 e6=>?_);rw [hl];exact (S5.ext e6).Ad 0 rfl rfl rfl rfl λw6 S6 _=>⟨rfl,15,.inr ⟨hc,rfl⟩,S6⟩};rw [jO] at hc;rw [aJ hc] at hl;refine rng (λhc=>?_) (λhc=>?_);{rw [aF hc] at hl;refine S4.lds 2 (mvM kind count arg) rfl (Bf2 (h.ext S4.upd) λw5 e5=>?_);rw [hl];exact (S4.ext e5).Ad 0 rfl rfl rfl rfl λw6 S6 _=>⟨rfl,kind,.inl rfl,S6⟩};rw [aJ hc] at hl;refine rng (λhc=>?_) (λhc=>?_);{rw [aF hc] at hl;refine S4.lds 2 (mvM kind count arg) rfl (Bf6 (h.ext S4.upd) λw5 e5=>?_);rw [hl];exact (S4.ext e5).Ad 0 rfl rfl rfl rfl λw6 S6 _=>⟨rfl,kind,.inl rfl,S6⟩};rw [aJ hc] at hl;rw [←hl];exact ⟨rfl,kind,.inl rfl,S4⟩
 rintro _ w5 ⟨rfl,kd,hkd,S5⟩;refine Ac (λhz=>?_) (λhz=>?_);{have hz:l.2≠0:=(by simpa using hz);rw [aF hz] at hK;exact Mc (l:=noP l.2) (o:=Jd ((0,0,0),0)) (i:=1) S5 rfl hK};have hz:l.2=0:=(by simpa using hz);rw [aJ (by omega)] at hK;refine Ae (λ_ V=>¬((kind=21\/kind=25)/\ofI A (Lr A s (decide (kind=25)) (kOf count):Int)<ofI A l.1.1)/\St (λ_=>False) w V [(b4,Cd9 l),(b2,Jd ((0,0,0),0)),(b1,Jw kd count arg)]) ?_ ?_;{refine Ae (λy V=>y=(decide (kind=21\/kind=25),())/\w5=V) ?_ ?_;{refine S5.ld (off:=0) 2 rfl (x:=kd) rfl (Ac (λh1=>⟨Az ?_,rfl⟩) (λh1=>S5.ld (off:=0) 2 rfl (x:=kd) rfl ⟨Az ?_,rfl⟩));{simp only [jM] at h1;simp only [lQ,iI];omega};{simp only [jO,ne_eq] at h1;simp only [jM,iI];omega}};rintro _ _ ⟨rfl,rfl⟩;refine Ac (λhc=>?_) (λhc=>?_);{have hc:=cO hc;have hkd:kd=kind:=(by omega);subst hkd;refine S5.ld (off:=0) 0 rfl (x:=l.1.1) rfl (S5.lds 2 (mvM kd count arg) rfl (Az3 (h.ext S5.upd) hsc λw6 e6=>?_));have S6:=S5.ext e6;refine Ac (λhd=>?_) (λhd=>?_);{have hd:=cO hd;rw [aF ⟨hc,hd⟩] at hK;exact Mc (l:=(((s:Int),((Aq A (ofI A (Lr A s (decide (kd=25)) (kOf count):Int))).to_:Int),0),0)) (o:=Jd ((0,0,0),0)) (i:=1) S6 rfl hK};{have hd:=pV hd;exact ⟨λhh=>hd hh.2,S6⟩}};{have hc:=pV hc;exact ⟨λhh=>hc hh.1,S5⟩}};rintro _ w6 ⟨hn,S6⟩;rw [aJ hn] at hK;refine S6.ld (off:=0) 0 rfl (x:=l.1.1) rfl (S6.ld (off:=1) 0 rfl (x:=l.1.2.1) rfl (X9 (h.ext S6.upd) λw7 e7=>?_));exact Mc (o:=Jd ((0,0,0),0)) (i:=1) (S6.ext e7) rfl hK
end
def Qh:Option Nat->Int
 |none=>-1
 |some j=>(j:Int)
section
variable {w w':World}{q:Nat}{A:List Int}{i:Nat}
theorem Be6 {y:Sl}(hy:Kq w y A i) (hyl:y.len=(Ag A i).length) (hs:(Ag A i).length<=1048576){c k:Nat}{a:Int}(hc:c<=(Ag A i).length) (hk:1<=k/\k<=9999){K:Int->Wp}(hK:K (Qh (Gx (Ag A i) a (upL (Ag A i).length c) k)) w) :
  Aa Tryz.prog 95 #[y.v,.int .i64 (c:Int),.int .i64 1,.int .i64 (k:Int),.int .i64 a] rI K w:=by refine A95 ?_;unfold F95;rw [Bu1] at hK;obtain ⟨n,hn⟩:∃n,(Ag A i).length=n:=⟨_,rfl⟩;rw [hn] at hyl hs hc hK;obtain ⟨tg,htg⟩:∃tg,upF (Ve A i a) (c+1) n k=tg:=⟨_,rfl⟩;rw [htg] at hK;refine Ae (λ_ W=>w=W/\tg=none) ?_ (by rintro _ _ ⟨rfl,rfl⟩;exact hK);rw [Ub (by omega)];refine Ba (λx W=>∃j k':Nat,x=((k':Int),(j:Int),())/\w=W/\j<=n+1/\1<=k'/\k'<=9999/\upF (Ve A i a) j n k'=tg) (λx _=>((n:Int)+1-x.2.1).toNat) ⟨c+1,k,rfl,rfl,by omega,hk.1,hk.2,htg⟩ ?_;rintro _ _ ⟨j,k',rfl,rfl,hj,hk1,hk2,hu⟩;dsimp only;refine Ae (λx W=>x=(decide (j<n),())/\w=W) (Ac (λ_=>⟨Az ?_,rfl⟩) (λhc=>by simp only [iH] at hc;omega)) ?_;{simp only [iI];omega};rintro _ _ ⟨rfl,rfl⟩;refine Ac (λhc=>?_) (λhc=>?_);{have hc:=cO hc;obtain ⟨x,hx⟩:=Dk (C:=Ag A i) (j:=j) (by omega);have hh:=Aa6 (a:=a) hx;rw [Ub (by omega),show W64 ((k':Int)-1)=((k'-1:Nat):Int) by rw [wrap64 (by omega) (by omega)];omega];refine Ae (λz W=>z=(((if x.atom=a then k'-1 else k':Nat):Int),())/\w=W/\(x.atom=a->k'≠1)) ?_ ?_;{refine Ar2 hy hx λp=>Ac (λhe=>?_) (λhe=>?_);{rw [jM] at he;rw [jP he] at hh;refine Ac (λh1=>?_) (λh1=>⟨by rw [aF he],rfl,λ_=>?_⟩);{rw [jM] at h1;obtain rfl:k'=1:=(by omega);rw [Ae9 hc hh] at hu;rw [←hu] at hK;exact hK};{rw [jO] at h1;omega}};{rw [jO] at he;exact ⟨by rw [aJ he],rfl,λhh=>absurd hh he⟩}};rintro _ _ ⟨rfl,rfl,h1⟩;refine ⟨⟨j+1,if x.atom=a then k'-1 else k',rfl,rfl,by omega,by split<;>omega,by split<;>omega,?_⟩,by omega⟩;by_cases he:x.atom=a;{have:=h1 he;rw [jP he] at hh;have hm:=L8 (k:=k'-1) hc hh (by omega);rw [show k'-1+1=k' by omega] at hm;rw [aF he,←hm];exact hu};{rw [jQ he] at hh;rw [aJ he,←Aw1 hc hh];exact hu}};{have hc:=pV hc;refine ⟨rfl,?_⟩;rw [←hu];exact L6 (by omega)}
theorem Ay2 {y:Sl}(hy:Kq w y A i) (hyl:y.len=(Ag A i).length) (hs:(Ag A i).length<=1048576){c k:Nat}{a:Int}(hc:c<=(Ag A i).length) (hk:1<=k/\k<=9999){K:Int->Wp}(hK:K (Qh (Gx (Ag A i) a (Ny c) k)) w) :
  Aa Tryz.prog 95 #[y.v,.int .i64 (c:Int),.int .i64 (-1),.int .i64 (k:Int),.int .i64 a] rI K w:=by refine A95 ?_;unfold F95;rw [Bu3] at hK;obtain ⟨n,hn⟩:∃n,(Ag A i).length=n:=⟨_,rfl⟩;rw [hn] at hyl hs hc;obtain ⟨tg,htg⟩:∃tg,dnF (Ve A i a) c k=tg:=⟨_,rfl⟩;rw [htg] at hK;refine Ae (λ_ W=>w=W/\tg=none) ?_ (by rintro _ _ ⟨rfl,rfl⟩;exact hK);(have e0:W64 ((c:Int)+(-1))=(c:Int)-1:=by rw [wrap64 (by omega) (by omega)];omega);rw [e0];refine Ba (λx W=>∃m k':Nat,x=((k':Int),(m:Int)-1,())/\w=W/\m<=n/\1<=k'/\k'<=9999/\dnF (Ve A i a) m k'=tg) (λx _=>(x.2.1+1).toNat) ⟨c,k,rfl,rfl,hc,hk.1,hk.2,htg⟩ ?_;rintro _ _ ⟨m,k',rfl,rfl,hj,hk1,hk2,hu⟩;dsimp only;refine Ae (λx W=>x=(decide (0<m),())/\w=W) (Ac (λhc=>⟨Az ?_,rfl⟩) (λhc=>⟨Az ?_,rfl⟩)) ?_;{simp only [iI,jT] at hc ⊢;omega};{simp only [iH,jT] at hc;simp only [dO,iI,lS];omega};rintro _ _ ⟨rfl,rfl⟩;refine Ac (λhc=>?_) (λhc=>?_);{have hc:=cO hc;obtain ⟨j,rfl⟩:∃j,m=j+1:=⟨m-1,by omega⟩;have ej:((j+1:Nat):Int)-1=(j:Int):=(by omega);rw [ej];obtain ⟨x,hx⟩:=Dk (C:=Ag A i) (j:=j) (by omega);have hh:=Aa6 (a:=a) hx;rw [show W64 ((j:Int)+(-1))=(j:Int)-1 by rw [wrap64 (by omega) (by omega)];omega,show W64 ((k':Int)-1)=((k'-1:Nat):Int) by rw [wrap64 (by omega) (by omega)];omega];refine Ae (λz W=>z=(((if x.atom=a then k'-1 else k':Nat):Int),())/\w=W/\(x.atom=a->k'≠1)) ?_ ?_;{refine Ar2 hy hx λp=>Ac (λhe=>?_) (λhe=>?_);{rw [jM] at he;rw [jP he] at hh;refine Ac (λh1=>?_) (λh1=>⟨by rw [aF he],rfl,λ_=>?_⟩);{rw [jM] at h1;obtain rfl:k'=1:=(by omega);rw [Ag2 hh] at hu;rw [←hu] at hK;exact hK};{rw [jO] at h1;omega}};{rw [jO] at he;exact ⟨by rw [aJ he],rfl,λhh=>absurd hh he⟩}};rintro _ _ ⟨rfl,rfl,h1⟩;refine ⟨⟨j,if x.atom=a then k'-1 else k',rfl,rfl,by omega,by split<;>omega,by split<;>omega,?_⟩,by omega⟩;by_cases he:x.atom=a;{have:=h1 he;rw [jP he] at hh;have hm:=V5 (k:=k'-1) hh (by omega);rw [show k'-1+1=k' by omega] at hm;rw [aF he,←hm];exact hu};{rw [jQ he] at hh;rw [aJ he,←Ba0 hh];exact hu}};{have hc:=pV hc;refine ⟨rfl,?_⟩;rw [←hu,show m=0 by omega];exact Bh8}
theorem L9 {kind a b:Int}{W:World}{B C:World->Prop}(hB:kind=a\/kind=b->B W) (hC:¬(kind=a\/kind=b)->C W):join (S:=Bool×Unit) (λJ=>sif (kind==a) (J ((kind==a),())) (J ((kind==b),()))) (λs=>sif s.1 B C) W:=by refine Ae (λx V=>x=(decide (kind=a\/kind=b),())/\W=V) (Ac (λhc=>⟨Az ?_,rfl⟩) (λhc=>⟨Az ?_,rfl⟩)) ?_;{rw [jM] at hc;simp only [jM,iI];exact ⟨λh=>.inl h,λ_=>hc⟩};{rw [jO] at hc;simp only [jM,iI];exact ⟨λh=>.inr h,λh=>h.resolve_left hc⟩};{rintro _ _ ⟨rfl,rfl⟩;exact Ac (λhc=>hB (cO hc)) (λhc=>hC (pV hc))}
theorem Bo1 (A:List Int) (i:Nat) (c:Int):Aw A i (max c 0)=Aw A i c:=by unfold Aw;rw [show (max c 0).toNat=c.toNat by omega]
set_option maxHeartbeats 2000000 in
theorem Be7 (h:Gu w q A){x kind count arg:Int}{past:Bool}{K:LdT->Wp}(hK:∀w',Ext w w'->K (ldT (Dh A x kind count arg past)) w') :
  Aa Tryz.prog 41 #[.pointer (some (at0 q)),.int .i64 x,.agg (Cells.vals c48 (mvM kind count arg)).toArray,.bool past] (.tup [(.agg c83),(.one (.int .i64))]) K w:=by
 refine A41 (a2:=mvM kind count arg) ?_;unfold F41;have hA:=h.len;have hbl:=Gi A;have hb:=Bc A;refine (St.start w).Af λb1 w1 S1 e1=>S1.Af λb2 w2 S2 e2=>?_;have S2:St (λ_=>False) w w2 [(b2,ldZ),(b1,Jw kind count arg)]:=S2;have h2:=h.ext S2.upd;have hle:=V9 A x past;have hro:=U0 A x past;have hcr:=Dx A x past;unfold Dh at hK;dsimp only at hK;rw [hcr,←hro] at hK;refine Jj h2 (Hz h2 hle ?_);have hi:=Hg A (Ak A x past);have hcol:Wy A (Ak A x past:Int)=Dj (Ag A (nb A (Ak A x past))) (Ak A x past:Int):=by
  unfold Wy ofI;rw [Ui hle]
 refine h2.Xi hi λs0 p0 y hy hyl=>Zd h2 λw3 e3=>?_;rw [hcol];obtain ⟨s,hs⟩:∃s,Ak A x past=s:=⟨_,rfl⟩;rw [hs] at hK hi hle hy hyl;rw [hs];obtain ⟨i,hi'⟩:∃i,nb A s=i:=⟨_,rfl⟩;rw [hi'] at hK hi hy hyl;rw [hi'];have hfl:=Qn (Ag A i) (s:Int);obtain ⟨c,hc⟩:∃c,Dj (Ag A i) (s:Int)=c:=⟨_,rfl⟩;rw [hc] at hK hfl;rw [hc];have hcl:=Hq hi;have ok:=Cb hi;have tn:=ok.tn;have nl:=ok.nl;have hkr:=Zi count;have S3:=S2.ext e3;refine S3.lds 1 (mvM kind count arg) rfl (Pm λw4 e4=>?_);have S4:=S3.ext e4;have h4:=h.ext S4.upd;have hy4:=(hy.ext e3).ext e4;obtain ⟨k,hk⟩:∃k,kOf count=k:=⟨_,rfl⟩;rw [hk] at hK hkr;rw [hk];obtain ⟨n,hn⟩:∃n,(Ag A i).length=n:=⟨_,rfl⟩;rw [hn] at hK hyl hfl hcl;obtain ⟨most,hm⟩:∃most,(if past=true then n else n-1)=most:=⟨_,rfl⟩;rw [hm] at hK;have hmn:most<=n:=(by split at hm<;>omega);refine Ae (λz W=>z=((most:Int),())/\w4=W) ?_ ?_
 ·refine Ae (λz W=>z=(decide (past=false/\0<n),())/\w4=W) ?_ ?_
  ·cases past with
   |true=>exact Aj ⟨by simp,rfl⟩
   |false=>refine Bh ⟨Az ?_,rfl⟩;simp only [iI,kG,qG];omega
  rintro _ _ ⟨rfl,rfl⟩;refine Ac (λhp=>⟨?_,rfl⟩) (λhp=>⟨?_,rfl⟩);{obtain ⟨p1,p2⟩:=cO hp;rw [aJ (by rw [p1];decide)] at hm;rw [wrap64 (by omega) (by omega)];congr 1;omega}
  ·have hp:=pV hp;congr 1;cases past with
   |true=>rw [aF rfl] at hm;omega
   |false=>rw [aJ (by decide)] at hm;have:¬0<n:=λhh=>hp ⟨rfl,hh⟩;omega
 rintro _ _ ⟨rfl,rfl⟩;have fno:∀{e:Int} {W:World},St (λ_=>False) w W [(b2,ldZ),(b1,Jw kind count arg)]->(∀w',Ext w w'->K (ldT (noP e)) w')->Aa Tryz.prog 92 #[.int .i64 e] (.tup [(.agg c83),(.one (.int .i64))]) (λz=>Ad (at0 b2) (.agg (Cells.vals c83 z.1).toArray) 3 (lds c83 (at0 b2) λy=>K (y,z.2.1,()))) W:=λS hk=>Xw λw5 e5=>Ie (S.ext e5) hk;have fland:∀{m:Nat} {kd:Int} {W:World},St (λ_=>False) w W [(b2,ldZ),(b1,Jw kind count arg)]->(∀w',Ext w w'->K (ldT (Bz A m kd)) w')->Aa Tryz.prog 93 #[.pointer (some (at0 q)),.int .i64 (m:Int),.int .i64 kd] (.tup [(.agg c83),(.one (.int .i64))]) (λz=>Ad (at0 b2) (.agg (Cells.vals c83 z.1).toArray) 3 (lds c83 (at0 b2) λy=>K (y,z.2.1,()))) W:=λS hk=>Wh (h.ext S.upd) λw5 e5=>Ie (S.ext e5) hk;refine S4.ld (off:=0) 1 rfl (x:=kind) rfl (Ac (λhk1=>?_) (λhk1=>?_));{rw [jM] at hk1;rw [aF hk1] at hK;refine Ac (λh0=>?_) (λh0=>?_);{rw [jM] at h0;rw [aF (by omega)] at hK;exact fno S4 hK};{rw [jO] at h0;rw [aJ (by omega)] at hK;have ew:W64 ((c:Int)-(k:Int))=(c:Int)-k:=wrap64 (by omega) (by omega);have em:(if (0:Int)>(c:Int)-k then (0:Int) else (c:Int)-k)=max ((c:Int)-k) 0:=(by split<;>omega);rw [ew,em];refine Iq h4 hi (by omega) ?_;rw [Bo1];exact fland S4 hK}};rw [jO] at hk1;rw [aJ hk1] at hK;refine Ac (λhk1=>?_) (λhk1=>?_);{rw [jM] at hk1;rw [aF hk1] at hK;refine Ac (λh0=>?_) (λh0=>?_);{rw [jM] at h0;rw [aF (by omega)] at hK;exact fno S4 hK};{rw [jO] at h0;rw [aJ (by omega)] at hK;have ew:W64 ((c:Int)+(k:Int))=(c:Int)+k:=wrap64 (by omega) (by omega);have em:(if (most:Int)<(c:Int)+k then (most:Int) else (c:Int)+k)=min ((c:Int)+k) most:=(by split<;>omega);rw [ew,em];exact Iq h4 hi (by omega) (fland S4 hK)}};rw [jO] at hk1;rw [aJ hk1] at hK;refine Ac (λhk1=>?_) (λhk1=>?_);{rw [jM] at hk1;rw [aF hk1] at hK;refine Iq h4 hi (by omega) ?_;rw [Nl hi];exact fland S4 hK};rw [jO] at hk1;rw [aJ hk1] at hK;refine Ac (λhk1=>?_) (λhk1=>?_);{rw [jM] at hk1;rw [aF hk1] at hK;exact Aj6 h4 hi (fland S4 hK)};rw [jO] at hk1;rw [aJ hk1] at hK;refine Ac (λhk1=>?_) (λhk1=>?_);{rw [jM] at hk1;rw [aF hk1] at hK;obtain ⟨j,hj⟩:∃j,(if i<lnN A-1/\1<k then min (i+k-1) (lnN A-1) else i)=j:=⟨_,rfl⟩;rw [hj] at hK;have hjb:j<=brs A:=(by split at hj<;>omega);have ew1:W64 ((lnN A:Int)-1)=(lnN A:Int)-1:=wrap64 (by omega) (by omega);have ew2:W64 ((i:Int)+(k:Int))=(i:Int)+k:=wrap64 (by omega) (by omega);have ew3:W64 ((i:Int)+k-1)=(i:Int)+k-1:=wrap64 (by omega) (by omega);refine Ae (λz W=>z=((j:Int),())/\w4=W) (h4.Oa (Ac (λhc=>h4.Oa ⟨?_,rfl⟩) (λhc=>⟨?_,rfl⟩))) ?_;{simp only [iI] at hc;dsimp only;rw [ew1,ew2,ew3];congr 1;split<;>split at hj<;>omega};{simp only [iH] at hc;congr 1;split at hj<;>omega};rintro _ _ ⟨rfl,rfl⟩;exact Ol h4 hjb (Ie (l:=((((Aw A j (((Ag A j).length:Int)-1):Nat):Int),1,100000),0)) S4 hK)};rw [jO] at hk1;rw [aJ hk1] at hK;refine Ac (λhk1=>?_) (λhk1=>?_);{rw [jM] at hk1;rw [aF hk1] at hK;have ew:W64 ((k:Int)-1)=(k:Int)-1:=wrap64 (by omega) (by omega);have em:(if (most:Int)<(k:Int)-1 then (most:Int) else (k:Int)-1)=min ((k:Int)-1) most:=(by split<;>omega);rw [ew,em];exact Iq h4 hi (by omega) (fland S4 hK)};rw [jO] at hk1;rw [aJ hk1] at hK;refine L9 (λhk1=>?_) (λhk1=>?_)
 ·rw [aF hk1] at hK;refine S4.ld (off:=2) 1 rfl (x:=arg) rfl (Be6 hy4 (by omega) (by omega) (by omega) hkr ?_);rw [hn];cases hsk:Gx (Ag A i) arg (upL n c) k with
  |none=>rw [hsk] at hK;exact Bh (fno S4 hK)
  |some j=>rw [hsk] at hK;dsimp only at hK;have hjb:c+1<=j/\j<n:=Bu2 hsk;rw [show Qh (some j)=(j:Int) from rfl];refine Ac (λhc=>by simp only [iI] at hc;omega) (λ_=>?_);refine Ae (λz W=>z=((if kind=9 then (j:Int)-1 else (j:Int)),())/\w4=W) (S4.ld (off:=0) 1 rfl (x:=kind) rfl (Ac (λh9=>⟨?_,rfl⟩) (λh9=>⟨?_,rfl⟩))) ?_;{rw [jM] at h9;rw [aF h9];congr 1;exact wrap64 (by omega) (by omega)};{rw [jO] at h9;rw [aJ h9]};rintro _ _ ⟨rfl,rfl⟩;exact Iq h4 hi (by dsimp only;split<;>omega) (fland S4 hK)
 rw [aJ hk1] at hK;refine L9 (λhk1=>?_) (λhk1=>?_)
 ·rw [aF hk1] at hK;refine S4.ld (off:=2) 1 rfl (x:=arg) rfl (Ay2 hy4 (by omega) (by omega) (by omega) hkr ?_);cases hsk:Gx (Ag A i) arg (Ny c) k with
  |none=>rw [hsk] at hK;exact Bh (fno S4 hK)
  |some j=>rw [hsk] at hK;dsimp only at hK;have hjb:j<c:=Bd2 hsk;rw [show Qh (some j)=(j:Int) from rfl];refine Ac (λhc=>by simp only [iI] at hc;omega) (λ_=>?_);refine Ae (λz W=>z=((if kind=10 then (j:Int)+1 else (j:Int)),())/\w4=W) (S4.ld (off:=0) 1 rfl (x:=kind) rfl (Ac (λh9=>⟨?_,rfl⟩) (λh9=>⟨?_,rfl⟩))) ?_;{rw [jM] at h9;rw [aF h9];congr 1;exact wrap64 (by omega) (by omega)};{rw [jO] at h9;rw [aJ h9]};rintro _ _ ⟨rfl,rfl⟩;exact Iq h4 hi (by dsimp only;split<;>omega) (fland S4 hK)
 rw [aJ hk1] at hK;exact fno S4 hK
theorem Ah1 {l l':Int}(h:Em A l=Em A l') (g:Int):Py A l g=Py A l' g:=by unfold Py Xx;rw [h]
theorem Jg {l l':Int}(h:Em A l=Em A l'):Fq A l=Fq A l':=by unfold Fq;rw [h]
theorem Cd7 {L:Nat}(h:L<lnN A):Em A (L:Int)=L:=by unfold Em;omega
set_option maxHeartbeats 2000000 in
theorem Aj7 (h:Gu w q A){x goal kind count arg:Int}{K:LdT->Wp}(hK:∀w',Ext w w'->K (ldT (Et A x goal kind count)) w') :
  Aa Tryz.prog 44 #[.pointer (some (at0 q)),.int .i64 x,.int .i64 goal,.agg (Cells.vals c48 (mvM kind count arg)).toArray] (.tup [(.agg c83),(.one (.int .i64))]) K w:=by refine A44 (a3:=mvM kind count arg) ?_;unfold F44;have hA:=h.len;have hbl:=Gi A;have hb:=Bc A;refine (St.start w).Af λb1 w1 S1 e1=>S1.Af λb2 w2 S2 e2=>?_;have S2:St (λ_=>False) w w2 [(b2,ldZ),(b1,Jw kind count arg)]:=S2;have h2:=h.ext S2.upd;have hle:=V9 A x false;have hro:=U0 A x false;have hcr:=Dx A x false;have hlt:=Af6 A x;obtain ⟨v,hv⟩:∃v,Et A x goal kind count=v:=⟨_,rfl⟩;rw [hv] at hK;unfold Et at hv;dsimp only at hv;rw [hcr,←hro] at hv;rw [←hro] at hlt;refine Jj h2 (Hz h2 hle (h2.Oa ?_));obtain ⟨i,hi'⟩:∃i,nb A (Ak A x false)=i:=⟨_,rfl⟩;rw [hi'] at hv hlt;rw [hi'];obtain ⟨g,hg⟩:∃g,max goal 0=g:=⟨_,rfl⟩;rw [hg] at hv;refine Ae (λz W=>z=(g,())/\w2=W) (Ac (λhc=>⟨?_,rfl⟩) (λhc=>⟨?_,rfl⟩)) ?_;{simp only [iI] at hc;rw [show g=0 by omega]};{simp only [iH] at hc;rw [show g=goal by omega]};rintro _ _ ⟨rfl,rfl⟩;have hkr:=Zi count;refine S2.lds 1 (mvM kind count arg) rfl (Pm λw4 e4=>?_);have S4:=S2.ext e4;have h4:=h.ext S4.upd;obtain ⟨k,hk⟩:∃k,kOf count=k:=⟨_,rfl⟩;rw [hk] at hv hkr;rw [hk];have fno:∀{e:Int} {W:World},St (λ_=>False) w W [(b2,ldZ),(b1,Jw kind count arg)]->v=noP e->Aa Tryz.prog 92 #[.int .i64 e] (.tup [(.agg c83),(.one (.int .i64))]) (λz=>Ad (at0 b2) (.agg (Cells.vals c83 z.1).toArray) 3 (lds c83 (at0 b2) λy=>K (y,z.2.1,()))) W:=λS hk=>Xw λw5 e5=>Ie (S.ext e5) (by rw [←hk];exact hK);(have ew1:W64 ((lnN A:Int)-1)=((lnN A-1:Nat):Int):=by rw [wrap64 (by omega) (by omega)];omega);have ew2:W64 ((i:Int)+(k:Int))=(i:Int)+k:=wrap64 (by omega) (by omega);have ew3:W64 ((i:Int)-(k:Int))=(i:Int)-k:=wrap64 (by omega) (by omega);have ew4:W64 ((i:Int)+k-1)=(i:Int)+k-1:=wrap64 (by omega) (by omega);have ew5:W64 ((k:Int)-1)=(k:Int)-1:=wrap64 (by omega) (by omega);rw [ew1,ew2,ew3,ew4,ew5];refine Ae (λz W=>∃L:Nat,z=((L:Int),())/\L<lnN A/\v=(if kind=11\/kind=12 then Py A (L:Int) g else Fq A (L:Int))/\w4=W) ?_ ?_;{refine S4.ld (off:=0) 1 rfl (x:=kind) rfl (L9 (λhk1=>?_) (λhk1=>?_));{refine Ac (λh0=>?_) (λh0=>?_);{rw [jM] at h0;refine fno S4 ?_;rw [←hv];rcases hk1 with hk1|hk1;{rw [aF hk1,aF (by omega)]};{rw [aJ (by omega),aJ (by omega),aF hk1,aF (by omega)]}};{rw [jO] at h0;(have hl:Em A ((i:Int)+k)=Em A ((min (i+k) (lnN A-1):Nat):Int):=by unfold Em;omega);refine ⟨min (i+k) (lnN A-1),?_,by omega,?_,rfl⟩;{congr 1;split<;>omega};{rw [←hv];rcases hk1 with hk1|hk1;{rw [aF hk1,aJ (by omega),aF (.inl hk1),Ah1 hl]};{rw [aJ (by omega),aJ (by omega),aF hk1,aJ (by omega),aJ (by omega),Jg hl]}}}};refine L9 (λhk2=>?_) (λhk2=>?_);{refine Ac (λh0=>?_) (λh0=>?_);{rw [jM] at h0;refine fno S4 ?_;rw [←hv];rcases hk2 with hk2|hk2;{rw [aJ (by omega),aF hk2,aF (by omega)]};{rw [aJ (by omega),aJ (by omega),aJ (by omega),aF hk2,aF (by omega)]}};{rw [jO] at h0;(have hl:Em A ((i:Int)-k)=Em A ((i-k:Nat):Int):=by unfold Em;omega);refine ⟨i-k,?_,by omega,?_,rfl⟩;{congr 1;split<;>omega};{rw [←hv];rcases hk2 with hk2|hk2;{rw [aJ (by omega),aF hk2,aJ (by omega),aF (.inr hk2),Ah1 hl]};{rw [aJ (by omega),aJ (by omega),aJ (by omega),aF hk2,aJ (by omega),aJ (by omega),Jg hl]}}}};rw [aJ (by omega),aJ (by omega),aJ (by omega),aJ (by omega)] at hv;refine Ac (λhk3=>?_) (λhk3=>?_);{rw [jM] at hk3;rw [aF hk3] at hv;(have hl:Em A ((i:Int)+k-1)=Em A ((min (i+k-1) (lnN A-1):Nat):Int):=by unfold Em;omega);refine ⟨min (i+k-1) (lnN A-1),?_,by omega,?_,rfl⟩;{congr 1;split<;>omega};{rw [aJ (by omega),←Jg hl];exact hv.symm}};rw [jO] at hk3;rw [aJ hk3] at hv;refine Ac (λhk4=>?_) (λhk4=>?_);{rw [jM] at hk4;rw [aF hk4] at hv;refine Ac (λhct=>?_) (λhct=>?_);{have hct:=cO hct;rw [aF hct] at hv;(have hl:Em A ((k:Int)-1)=Em A ((min (k-1) (lnN A-1):Nat):Int):=by unfold Em;omega);refine ⟨min (k-1) (lnN A-1),?_,by omega,?_,rfl⟩;{congr 1;split<;>omega};{rw [aJ (by omega),←Jg hl];exact hv.symm}};{have hct:=pV hct;rw [aJ hct] at hv;(have hl:Em A (lnN A:Int)=Em A ((lnN A-1:Nat):Int):=by unfold Em;omega);refine ⟨lnN A-1,rfl,by omega,?_,rfl⟩;rw [aJ (by omega),←Jg hl];exact hv.symm}};rw [jO] at hk4;rw [aJ hk4] at hv;refine Ac (λhk5=>?_) (λhk5=>?_);{rw [jM] at hk5;rw [aF hk5] at hv;(have hl:Em A ((k:Int)-1)=Em A ((min (k-1) (lnN A-1):Nat):Int):=by unfold Em;omega);refine ⟨min (k-1) (lnN A-1),?_,by omega,?_,rfl⟩;{congr 1;split<;>omega};{rw [aJ (by omega),←Jg hl];exact hv.symm}};rw [jO] at hk5;rw [aJ hk5] at hv;refine Ac (λhk6=>?_) (λhk6=>?_);{rw [jM] at hk6;rw [aF hk6] at hv;refine Ae (λz W=>z=(decide (count<=0\/100<k),())/\w4=W) (Ac (λhc=>⟨Az ?_,rfl⟩) (λhc=>⟨Az ?_,rfl⟩)) ?_;{simp only [dX,iH] at hc;simp only [lQ,iI];omega};{simp only [nO,iI] at hc;simp only [iI,kG];omega};rintro _ _ ⟨rfl,rfl⟩;refine Ac (λhc=>?_) (λhc=>?_);{rw [aF (cO hc)] at hv;exact fno S4 hv.symm};{have hc:=pV hc;rw [aJ hc] at hv;refine h4.Oa (Dc (by decide) ?_);have hk100:k<=100:=(by omega);have hm:k*lnN A<=100*lnN A:=fV _ hk100;obtain ⟨m,hmm⟩:∃m,k*lnN A=m:=⟨_,rfl⟩;(have hm1:lnN A<=m:=by rw [←hmm];exact Nat.le_mul_of_pos_left _ (by omega));(have hmi:(k:Int)*(lnN A:Int)=(m:Int):=by rw [←hmm];exact (jJ _ _).symm);rw [hmm] at hv hm;(have e1:W64 ((k:Int)*(lnN A:Int))=(m:Int):=by rw [hmi];exact wrap64 (by omega) (by omega));(have e2:W64 ((m:Int)+99)=((m+99:Nat):Int):=by rw [wrap64 (by omega) (by omega)];omega);(have e3:Int.tdiv ((m+99:Nat):Int) 100=(((m+99)/100:Nat):Int):=by rw [kF (by omega)];omega);have e4:W64 (((m+99)/100:Nat):Int)=(((m+99)/100:Nat):Int):=wrap64 (by omega) (by omega);(have e5:W64 ((((m+99)/100:Nat):Int)-1)=(((m+99)/100-1:Nat):Int):=by rw [wrap64 (by omega) (by omega)];omega);dsimp only;rw [e1,e2,e3,e4,e5];refine ⟨(m+99)/100-1,rfl,by omega,?_,rfl⟩;rw [aJ (by omega),←hv];refine Jg ?_;congr 1;omega}};{rw [jO] at hk6;rw [aJ hk6] at hv;exact fno S4 hv.symm}};rintro _ _ ⟨L,rfl,hL,hvv,rfl⟩;refine Ae (λz W=>z=(decide (kind=11\/kind=12),())/\w4=W) ?_ ?_;{refine S4.ld (off:=0) 1 rfl (x:=kind) rfl (Ac (λh1=>⟨Az ?_,rfl⟩) (λh1=>S4.ld (off:=0) 1 rfl (x:=kind) rfl ⟨Az ?_,rfl⟩));{rw [jM] at h1;simp only [lQ,iI];omega};{rw [jO] at h1;simp only [jM,iI];omega}};rintro _ _ ⟨rfl,rfl⟩;refine Ac (λhc=>?_) (λhc=>?_);{rw [aF (cO hc)] at hvv;rw [hvv] at hK;exact Be1 h4 (Ie (l:=Py A (L:Int) g) S4 hK)};{rw [aJ (pV hc)] at hvv;rw [hvv] at hK;unfold Fq at hK;rw [Cd7 hL] at hK;exact Aj6 h4 (by omega) (Wh h4 λw5 e5=>Ie (S4.ext e5) hK)}
end
namespace Mot
abbrev nI (l:List Nat):List Int:=l.map λ(n:Nat)=>(n:Int)
def bgM (A:List Int) (big empty:Bool) (p:Nat×Nat):Bool:=((Ag A p.1).length !=0||empty)&&Lj A big p
def enM (A:List Int) (big empty:Bool) (p:Nat×Nat):Bool:=((Ag A p.1).length !=0||empty)&&Vg A big p
theorem Ao1 (A:List Int) (big:Bool):bgM A big true=Lj A big:=by funext p;simp [bgM]
theorem Cq3 (A:List Int) (big:Bool):enM A big true=Vg A big:=by funext p;simp [enM]
theorem Au3 (A:List Int) (big:Bool):enM A big false=Qa A big:=by funext p;simp [enM,Qa]
def mkL (A:List Int) (f:Nat×Nat->Bool) (i:Nat):List Nat:=(((List.range i).flatMap (rowP A)).filter f).map (Bo A)
def ptL (A:List Int) (f:Nat×Nat->Bool) (i j:Nat):List Nat:=if (Ag A i).length=0 then (([(i,0)]:List (Nat×Nat)).filter f).map (Bo A) else ((((List.range j).map λc=>(i,c)):List (Nat×Nat)).filter f).map (Bo A)
variable {A:List Int}{f:Nat×Nat->Bool}{i j:Nat}
theorem Ak7 (A:List Int) (f:Nat×Nat->Bool) (i:Nat):mkL A f (i+1)=mkL A f i++ptL A f i (Ag A i).length:=by unfold mkL ptL;rw [mF,oC,nH,lG];congr 1;simp only [iD,lH,kM];unfold rowP;split<;>rfl
theorem Xu (h:(Ag A i).length≠0):ptL A f i (j+1)=ptL A f i j++(if f (i,j) then [Bo A (i,j)] else []):=by unfold ptL;rw [aJ h,aJ h,mF,lG,nH,lG];congr 1;by_cases hf:f (i,j)=true;{simp [hf]};{simp [hf]}
theorem Bd9 (h:(Ag A i).length≠0):ptL A f i 0=[]:=by unfold ptL;rw [aJ h];rfl
theorem Ay0 (A:List Int) (f:Nat×Nat->Bool) (i j:Nat):(ptL A f i j).length<=j+1:=by unfold ptL;split;{rw [gW];have:=nN f ([(i,0)]:List (Nat×Nat));simp at this;omega};{rw [gW];have:=nN f ((List.range j).map λc=>(i,c));rw [gW,lZ] at this;omega}
theorem Bv8 (hr:∀k,k<i->(Ag A k).length<=1048576):(mkL A f i).length<=i*1048577:=by
 induction i with
 |zero=>simp [mkL]
 |succ i ih=>rw [Ak7,iE];have:=ih λk hk=>hr k (by omega);have:=Ay0 A f i (Ag A i).length;have:=hr i (by omega);omega
def Vb (C:List Cel) (big:Bool) (j:Nat):Nat:=if j=0 then 0 else Fe C (j-1) big
end Mot
section
variable {w w':World}{q:Nat}{A:List Int}{i:Nat}
structure Two (w:World) (N:Nat) (r z:Sl) (l m:List Nat):Prop where
 one:Au w N r 3 1 (iv (nI l))
 two:Au w N z 3 1 (iv (nI m))
 apart:∀k,r.blk k->¬z.blk k
theorem Two.ext {N:Nat}{r z:Sl}{l m:List Nat}(h:Two w N r z l m) (e:Ext w w'):Two w' N r z l m:=⟨h.one.ext e,h.two.ext e,h.apart⟩
theorem Cl4 {N:Nat}{r z:Sl}{l m:List Nat}{v b:Nat}{K:Sl->Wp}(h:Two w N r z l m) (hb:w.heap[b]?=some (.cells #[.int .i64 (v:Int)] 3 (0,0))) (hl:l.length<2^43) (hN:N<=w.heap.size)
  (hK:∀r' w',Two w' N r' z (l++[v]) m->(∀k,r.blk k->N<=k)->Upd r.blk w w'->K r' w') :
  Ef Tryz.prog (.one (.one .sl)) (Builtin.append_ #[43,43] 43 #[.slice r.a r.len r.cap,.slice (some (at0 b)) 1 1]) K w:=by
 have hrl:=h.one.len1;rw [gW,gW] at hrl;refine Ey Xj Xj.ts_ (x:=⟨some (at0 b),1,1⟩) h.one (Al7 hb) (λv hv=>by rw [iT.1 hv];rfl) (by
  show (r.len+1+(r.len+1)/4+512)*8<=2^48
  omega) hN λr' w' o l' u k=>hK r' w' ⟨?_,h.two.upd u λk hk hz hr=>h.apart k hr hz,λx hx hz=>?_⟩ (λk hk=>h.one.Fp hk) u
 {have:iv (nI (l++[v]))=iv (nI l)++[.int .i64 (v:Int)]:=(by simp);rw [this];exact o};{rcases k x hx with y|y;{exact h.apart x y hz};{have:=h.two.in.Oy hz;omega}}
theorem Cl3 {N:Nat}{r z:Sl}{l m:List Nat}{v b:Nat}{K:Sl->Wp}(h:Two w N r z l m) (hb:w.heap[b]?=some (.cells #[.int .i64 (v:Int)] 3 (0,0))) (hl:m.length<2^43) (hN:N<=w.heap.size)
  (hK:∀z' w',Two w' N r z' l (m++[v])->(∀k,z.blk k->N<=k)->Upd z.blk w w'->K z' w') :
  Ef Tryz.prog (.one (.one .sl)) (Builtin.append_ #[43,43] 43 #[.slice z.a z.len z.cap,.slice (some (at0 b)) 1 1]) K w :=
 Cl4 (z:=r) ⟨h.two,h.one,λk hz hr=>h.apart k hr hz⟩ hb hl hN λz' w' t g u=>hK z' w' ⟨t.two,t.one,λk hr hz=>t.apart k hz hr⟩ g u
theorem Cx0 {big:Bool}{j:Nat}{c:Cel}(hc:(Ag A i)[j]?=some c):Fe (Ag A i) j big=if big then min c.kind 1 else c.kind:=by unfold Fe;rw [hc];rfl
set_option maxHeartbeats 2000000 in
theorem Nk (h:Gu w q A) {big empty:Bool} {K:Sl×Sl×Unit->Wp} (hK:∀r z w',Bl w' r 3 1 (iv (nI (Bq A (bgM A big empty))))->Bl w' z 3 1 (iv (nI (Bq A (enM A big empty))))->Ext w w'->K (r,z,()) w') :
  Aa Tryz.prog 98 #[.pointer (some (at0 q)),.bool big,.bool empty] (.tup [(.one .sl),(.one .sl)]) K w:=by
 refine A98 ?_;unfold F98;have hA:=h.len;have hbl:=Gi A;have hb:=Bc A;have hrow:∀k,k<=brs A->(Ag A k).length<=1048576:=λk hk=>by
  have:=Hq hk
  have ok:=Cb hk
  have:=ok.tn;have:=ok.nl
  omega
 obtain ⟨f1,hf1⟩:∃f1,bgM A big empty=f1:=⟨_,rfl⟩;obtain ⟨f2,hf2⟩:∃f2,enM A big empty=f2:=⟨_,rfl⟩;rw [hf1,hf2] at hK;refine Ae (λx W=>Ext w W/\Two W w.heap.size x.1 x.2.1 (mkL A f1 (lnN A)) (mkL A f2 (lnN A))) ?_ (λx W hx=>by
  have:=hK x.1 x.2.1 W hx.2.one.in hx.2.two.in hx.1
  exact this)
 refine Ba (λx W=>∃i:Nat,x.2.2=((i:Int),())/\i<=lnN A/\Ext w W/\Two W w.heap.size x.1 x.2.1 (mkL A f1 i) (mkL A f2 i)) (λx _=>((lnN A:Int)-x.2.2.1).toNat) ⟨0,rfl,iW _,Ext.refl _,⟨Au.nil _ _ _ _,Au.nil _ _ _ _,λk ⟨_,hp,_⟩=>by cases hp⟩⟩ ?_;rintro ⟨r,z,_⟩ W ⟨i,rfl,hi,eW,tw⟩;dsimp only at tw ⊢;refine (h.ext eW).Oa (Ac (λhc=>?_) (λhc=>?_))
 ·simp only [iI] at hc;have hib:i<=brs A:=(by omega);have hrl:=hrow i hib;have hm1:(mkL A f1 i).length<=i*1048577:=Bv8 λk hk=>hrow k (by omega);have hm2:(mkL A f2 i).length<=i*1048577:=Bv8 λk hk=>hrow k (by omega);have hp1:=λj=>Ay0 A f1 i j;have hp2:=λj=>Ay0 A f2 i j;rw [Ub (by omega)];refine Ae (λx V=>Ext w V/\Two V w.heap.size x.1 x.2.1 (mkL A f1 (i+1)) (mkL A f2 (i+1))) ?_ (λx V hx=>⟨⟨i+1,rfl,by omega,hx.1,hx.2⟩,by omega⟩);refine h.Dh0 eW hib λs p y hy hyl=>?_;have hoff:∀(j:Nat) c,(Ag A i)[j]?=some c->Bo A (i,j)=c.from_:=λj c hc=>by
   unfold Bo
   rw [Eb (fG.1 hc).1,Gz hc]
  obtain ⟨n,hn⟩:∃n,(Ag A i).length=n:=⟨_,rfl⟩;refine Ae (λx V=>Ext w V/\Two V w.heap.size x.1 x.2.1 (mkL A f1 i++ptL A f1 i 0) (mkL A f2 i++ptL A f2 i 0)) ?_ ?_
  ·refine Ae (λx V=>x=(decide (n=0/\empty=true),())/\W=V) (Ac (λh0=>⟨Az ?_,rfl⟩) (λh0=>⟨Az ?_,rfl⟩)) ?_;{rw [jM] at h0;simp only [iI];exact ⟨λhh=>⟨by omega,hh⟩,λhh=>hh.2⟩};{rw [jO] at h0;simp only [dO,iI,lS];intro hh;omega};rintro _ _ ⟨rfl,rfl⟩;refine Ac (λh0=>?_) (λh0=>?_)
   ·obtain ⟨h0,hem⟩:=cO h0;have hz:=(P5 hib).1 (by omega);have hpl:Bo A (i,0)=(Aq A i).from_:=Nl hib;have q1:ptL A f1 i 0=[(Aq A i).from_]:=by
     unfold ptL
     rw [aF (by omega),←hf1]
     simp [bgM,Lj,hem,hn,h0,hpl]
    have q2:ptL A f2 i 0=[(Aq A i).from_]:=by
     unfold ptL
     rw [aF (by omega),←hf2]
     simp [enM,Vg,hem,hn,h0,hpl]
    rw [q1,q2];refine (h.ext eW).U6 hib λs p=>Df λb w1 e1 n1 hb1 _=>Cl4 (tw.ext e1) n1 (by omega) (by have:=eW.size;have:=e1.size;omega) λr' w2 t2 g2 u2=>?_;have x2:Ext w w2:=(eW.trans e1).step u2 g2;refine (h.ext x2).U6 hib λs p=>Df λb3 w3 e3 n3 hb3 _=>Cl3 (t2.ext e3) n3 (by omega) (by have:=x2.size;have:=e3.size;omega) λz' w4 t4 g4 u4=>?_;exact ⟨(x2.trans e3).step u4 g4,t4⟩
   ·have h0:=pV h0;refine ⟨eW,?_⟩;have q1:ptL A f1 i 0=[]:=by
     by_cases hz:n=0
     ·have hem:empty=false:=by cases empty with
       |false=>rfl
       |true=>exact absurd ⟨hz,rfl⟩ h0
      unfold ptL
      rw [aF (by omega),←hf1]
      simp [bgM,hem,hn,hz]
     ·exact Bd9 (by omega)
    have q2:ptL A f2 i 0=[]:=by
     by_cases hz:n=0
     ·have hem:empty=false:=by cases empty with
       |false=>rfl
       |true=>exact absurd ⟨hz,rfl⟩ h0
      unfold ptL
      rw [aF (by omega),←hf2]
      simp [enM,hem,hn,hz]
     ·exact Bd9 (by omega)
    rw [q1,q2,kM,kM];exact tw
  rintro ⟨r1,z1,_⟩ V ⟨eV,tw1⟩;dsimp only at tw1 ⊢;rw [hn] at hyl hrl;refine Ae (λx U=>x.2.2.1=(Vb (Ag A i) big n:Int)/\Ext w U/\Two U w.heap.size x.1 x.2.1 (mkL A f1 i++ptL A f1 i n) (mkL A f2 i++ptL A f2 i (n-1))) ?_ ?_
  ·refine Ba (λx U=>∃j:Nat,x.2.2=((Vb (Ag A i) big j:Int),(j:Int),())/\j<=n/\Ext w U/\Two U w.heap.size x.1 x.2.1 (mkL A f1 i++ptL A f1 i j) (mkL A f2 i++ptL A f2 i (j-1))) (λx _=>((n:Int)-x.2.2.2.1).toNat) ⟨0,rfl,iW _,eV,tw1⟩ ?_;rintro ⟨r2,z2,_⟩ U ⟨j,rfl,hj,eU,tw2⟩;dsimp only at tw2 ⊢;refine Ac (λhc2=>?_) (λhc2=>?_)
   ·simp only [iI] at hc2;have hjn:j<n:=(by omega);obtain ⟨c,hcc⟩:=Dk (C:=Ag A i) (j:=j) (by omega);have hkj:=Cx0 (big:=big) hcc;have hn0:(Ag A i).length≠0:=(by omega);have hyU:Kq U y A i:=hy.ext eU;refine Y4 hyU hcc λp=>?_;refine Ae (λx T=>x=((Fe (Ag A i) j big:Int),())/\U=T) ?_ ?_
    ·refine Ae (λx T=>x=(decide (big=true/\1<c.kind),())/\U=T) ?_ ?_
     ·cases big with
      |true=>exact Bh ⟨Az (by simp only [iI,kG,qG];omega),rfl⟩
      |false=>exact Aj ⟨Az (by simp),rfl⟩
     rintro _ _ ⟨rfl,rfl⟩;rw [hkj];refine Ac (λhb=>⟨?_,rfl⟩) (λhb=>⟨?_,rfl⟩);{obtain ⟨b1,b2⟩:=cO hb;rw [aF b1,oG (by omega)];rfl}
     ·have hb:=pV hb;congr 2;cases big with
      |true=>rw [aF rfl,gK (by have:¬1<c.kind:=λhh=>hb ⟨rfl,hh⟩;omega)]
      |false=>rw [aJ (by decide)]
    rintro _ _ ⟨rfl,rfl⟩;rw [Ub (by omega)];have endq:0<j->f2 (i,j-1)=(Fe (Ag A i) (j-1) big !=0&&Fe (Ag A i) j big !=Fe (Ag A i) (j-1) big):=λh0=>by
     rw [←hf2]
     unfold enM Vg
     dsimp only
     rw [hn,show (n !=0)=true by simp;omega,show (n==0)=false by simp;omega,show decide (j-1<n)=true by simp;omega,show j-1+1=j by omega,show (j==n)=false by simp;omega]
     simp
    have begq:f1 (i,j)=(Fe (Ag A i) j big !=0&&(j==0||Fe (Ag A i) (j-1) big !=Fe (Ag A i) j big)):=by
     rw [←hf1]
     unfold bgM Lj
     dsimp only
     rw [hn,show (n !=0)=true by simp;omega,show (n==0)=false by simp;omega]
     simp
    refine Ae (λx T=>Ext w T/\Two T w.heap.size r2 x.1 (mkL A f1 i++ptL A f1 i j) (mkL A f2 i++ptL A f2 i j)) ?_ ?_
    ·refine Ae (λx T=>x=(decide (0<j/\f2 (i,j-1)=true),())/\U=T) ?_ ?_;{have hl:Vb (Ag A i) big j=if j=0 then 0 else Fe (Ag A i) (j-1) big:=rfl;refine Ac (λh1=>⟨Az ?_,rfl⟩) (λh1=>⟨Az ?_,rfl⟩);{rw [mX] at h1;rw [mX,iI,hl];by_cases h0:j=0;{rw [aF h0];constructor;{intro hh;exact absurd rfl hh};{intro hh;omega}};{rw [aJ h0,endq (by omega),aV,mX,mX];rw [hl,aJ h0] at h1;constructor;{intro hh;exact ⟨by omega,by omega,by omega⟩};{intro hh;omega}}};{rw [mY] at h1;simp only [dO,iI,lS];rintro ⟨h0,hh⟩;rw [endq h0,aV,mX,mX] at hh;rw [hl,aJ (by omega)] at h1;omega}};rintro _ _ ⟨rfl,rfl⟩;refine Ac (λhq=>?_) (λhq=>?_)
     ·obtain ⟨h0,hq⟩:=cO hq;obtain ⟨d,hd⟩:=Dk (C:=Ag A i) (j:=j-1) (by omega);have e2:ptL A f2 i j=ptL A f2 i (j-1)++[d.from_]:=by
       have:=Xu (A:=A) (f:=f2) (j:=j-1) hn0
       rw [show j-1+1=j by omega,aF hq,hoff _ _ hd] at this
       exact this
      rw [e2,←eG];rw [show W64 ((j:Int)-1)=((j-1:Nat):Int) by rw [wrap64 (by omega) (by omega)];omega];have:=hp2 (j-1);refine Jr hyU hd λp=>Df λb w1 e1 n1 hb1 _=>Cl3 (tw2.ext e1) n1 (by rw [iE];omega) (by have:=eU.size;have:=e1.size;omega) λz' w2 t2 g2 u2=>⟨(eU.trans e1).step u2 g2,t2⟩
     ·have hq:=pV hq;refine ⟨eU,?_⟩;have e2:ptL A f2 i j=ptL A f2 i (j-1):=by
       by_cases h0:j=0
       ·rw [h0]
       ·have:=Xu (A:=A) (f:=f2) (j:=j-1) hn0
        rw [show j-1+1=j by omega,aJ (λhh=>hq ⟨by omega,hh⟩),kM] at this
        exact this
      rw [e2];exact tw2
    rintro ⟨z3,_⟩ T ⟨eT,tw3⟩;dsimp only at tw3 ⊢;refine Ae (λx T'=>Ext w T'/\Two T' w.heap.size x.1 z3 (mkL A f1 i++ptL A f1 i (j+1)) (mkL A f2 i++ptL A f2 i j)) ?_ (λx T' hx=>⟨⟨j+1,?_,by omega,hx.1,by rw [nP];exact hx.2⟩,by omega⟩);{refine Ae (λx T'=>x=(f1 (i,j),())/\T=T') ?_ ?_;{have hl:Vb (Ag A i) big j=if j=0 then 0 else Fe (Ag A i) (j-1) big:=rfl;refine Ac (λh1=>⟨Az ?_,rfl⟩) (λh1=>⟨Az ?_,rfl⟩);{rw [mX] at h1;rw [mX,begq,aV,bM,mX,mX,jM];constructor;{intro hh;refine ⟨by omega,?_⟩;by_cases h0:j=0;{exact .inl h0};{rw [hl,aJ h0] at h1;right;omega}};{intro hh;omega}};{rw [mY] at h1;rw [begq,aV,bM,mX,mX,jM];simp only [dO,lS];rintro ⟨g1,g2⟩;rw [hl] at h1;by_cases h0:j=0;{rw [aF h0] at h1;omega};{rw [aJ h0] at h1;rcases g2 with g2|g2<;>omega}}};rintro _ _ ⟨rfl,rfl⟩;have hs1:=Xu (A:=A) (f:=f1) (j:=j) hn0;rw [hs1];refine Ac (λhq=>?_) (λhq=>?_);{have hq:f1 (i,j)=true:=hq;rw [aF hq,hoff _ _ hcc,←eG];have:=hp1 j;refine Jr (hy.ext eT) hcc λp=>Df λb w1 e1 n1 hb1 _=>Cl4 (tw3.ext e1) n1 (by rw [iE];omega) (by have:=eT.size;have:=e1.size;omega) λr' w2 t2 g2 u2=>⟨(eT.trans e1).step u2 g2,t2⟩};{have hq:f1 (i,j)=false:=hq;rw [hq,aJ (by decide),kM];exact ⟨eT,tw3⟩}};{unfold Vb;rw [aJ (by omega),nP]}
   {simp only [iH] at hc2;obtain rfl:j=n:=(by omega);exact ⟨rfl,eU,tw2⟩}
  rintro ⟨r2,z2,lk,_⟩ U ⟨he,eU,tw2⟩;dsimp only at tw2 he ⊢;subst he;rw [Ak7,Ak7,hn];refine Ac (λhq=>?_) (λhq=>?_)
  ·rw [mX] at hq;have hn0:n≠0:=λh0=>hq (by rw [h0];rfl);obtain ⟨d,hd⟩:=Dk (C:=Ag A i) (j:=n-1) (by omega);(have hl:Vb (Ag A i) big n=Fe (Ag A i) (n-1) big:=by unfold Vb;rw [aJ hn0]);rw [hl] at hq;have hf:f2 (i,n-1)=true:=by
    rw [←hf2]
    unfold enM Vg
    dsimp only
    rw [hn,show (n !=0)=true by simp;omega,show (n==0)=false by simp;omega,show decide (n-1<n)=true by simp;omega,show n-1+1=n by omega,show (n==n)=true by simp,show (Fe (Ag A i) (n-1) big !=0)=true by rw [mX];omega]
    rfl
   have e2:ptL A f2 i n=ptL A f2 i (n-1)++[d.from_]:=by
    have:=Xu (A:=A) (f:=f2) (i:=i) (j:=n-1) (by omega)
    rw [show n-1+1=n by omega,aF hf,hoff _ _ hd] at this
    exact this
   rw [e2,←eG];rw [show W64 (((y.len:Nat):Int)-1)=((n-1:Nat):Int) by rw [wrap64 (by omega) (by omega)];omega];have:=hp2 (n-1);refine Jr (hy.ext eU) hd λp=>Df λb w1 e1 n1 hb1 _=>Cl3 (tw2.ext e1) n1 (by rw [iE];omega) (by have:=eU.size;have:=e1.size;omega) λz' w2 t2 g2 u2=>⟨(eU.trans e1).step u2 g2,t2⟩
  ·rw [mY] at hq;refine ⟨eU,?_⟩;have e2:ptL A f2 i n=ptL A f2 i (n-1):=by
    by_cases h0:n=0
    ·rw [h0]
    ·have hl:Vb (Ag A i) big n=Fe (Ag A i) (n-1) big:=by unfold Vb;rw [aJ h0]
     rw [hl] at hq
     have hf:f2 (i,n-1)=false:=by
      rw [←hf2]
      unfold enM Vg
      dsimp only
      rw [hn,show (n==0)=false by simp;omega,show (Fe (Ag A i) (n-1) big !=0)=false by rw [mY];omega]
      simp
     have:=Xu (A:=A) (f:=f2) (i:=i) (j:=n-1) (by omega)
     rw [show n-1+1=n by omega,hf,aJ (by decide),kM] at this
     exact this
   rw [e2];exact tw2
 {simp only [iH] at hc;obtain rfl:i=lnN A:=(by omega);exact ⟨eW,tw⟩}
end
section
variable {w w':World}{q:Nat}{A:List Int}{i:Nat}
theorem As8 {l:List Nat}{j x:Nat}(h:l[j]?=some x):(nI l)[((j:Int)).toNat]?=some (x:Int):=by rw [dF,gX,h];rfl
theorem Yb {s:Sl}{t:TypeId}{l:List Nat}(hs:Bl w s t 1 (iv (nI l))) (hl:l.length<2^40){m k:Nat}(hk:1<=k/\k<=9999){K:Int->Wp}(hK:K (Qh (He l m k)) w) :
  Aa Tryz.prog 99 #[s.v,.int .i64 (m:Int),.int .i64 (k:Int)] rI K w:=by
 refine A99 ?_;unfold F99;have hsl:=hs.len1;rw [gW,gW] at hsl;unfold He at hK;obtain ⟨P,hP⟩:∃P:Nat->Bool,(λx=>decide (m<=x))=P:=⟨_,rfl⟩;rw [hP] at hK;obtain ⟨tg,htg⟩:∃tg,(l.filter P)[k-1]?=tg:=⟨_,rfl⟩;rw [htg] at hK;refine Ae (λ_ W=>w=W/\tg=none) ?_ (by rintro _ _ ⟨rfl,rfl⟩;exact hK);refine Ba (λx W=>∃j k':Nat,x=((k':Int),(j:Int),())/\w=W/\j<=l.length/\1<=k'/\k'<=9999/\((l.drop j).filter P)[k'-1]?=tg) (λx _=>((l.length:Int)-x.2.1).toNat) ⟨0,k,rfl,rfl,iW _,hk.1,hk.2,htg⟩ ?_;rintro _ _ ⟨j,k',rfl,rfl,hj,hk1,hk2,hu⟩;dsimp only;refine Ac (λhc=>?_) (λhc=>?_)
 ·simp only [iI] at hc;obtain ⟨x,hx⟩:∃x,l[j]?=some x:=⟨_,jC (by omega)⟩;have hd:l.drop j=x::l.drop (j+1):=by
   rw [iZ (by omega)]
   rw [(fG.1 hx).2]
  rw [hd] at hu;have hpx:P x=decide (m<=x):=(by rw [←hP]);rw [Ub (by omega),show W64 ((k':Int)-1)=((k'-1:Nat):Int) by rw [wrap64 (by omega) (by omega)];omega];refine Ae (λz W=>z=(((if m<=x then k'-1 else k':Nat):Int),())/\w=W/\(m<=x->k'≠1)) ?_ ?_;{refine Fh (c:=.int .i64) (xs:=nI l) hs (kQ j) (As8 hx) λp=>Ac (λhe=>?_) (λhe=>?_);{simp only [iI,jT] at he;have he:m<=x:=(by omega);rw [jP he] at hpx;rw [nG hpx] at hu;refine Ac (λh1=>?_) (λh1=>⟨by rw [aF he],rfl,λ_=>?_⟩);{rw [jM] at h1;obtain rfl:k'=1:=(by omega);refine Fh (c:=.int .i64) (xs:=nI l) hs (kQ j) (As8 hx) λp=>?_;have hu:some x=tg:=hu;rw [←hu] at hK;exact hK};{rw [jO] at h1;omega}};{simp only [iH,jT] at he;exact ⟨by rw [aJ (by omega)],rfl,λhh=>absurd hh (by omega)⟩}};rintro _ _ ⟨rfl,rfl,h1⟩;refine ⟨⟨j+1,if m<=x then k'-1 else k',rfl,rfl,by omega,by split<;>omega,by split<;>omega,?_⟩,by omega⟩;by_cases he:m<=x;{have:=h1 he;rw [jP he] at hpx;rw [nG hpx] at hu;rw [aF he];obtain ⟨k2,rfl⟩:∃k2,k'=k2+2:=⟨k'-2,by omega⟩;exact hu};{rw [jQ he] at hpx;rw [nJ (by rw [hpx];decide)] at hu;rw [aJ he];exact hu}
 {simp only [iH] at hc;refine ⟨rfl,?_⟩;rw [←hu,iY (by omega)];rfl}
theorem Q7 {s:Sl}{t:TypeId}{l:List Nat}(hs:Bl w s t 1 (iv (nI l))) (hl:l.length<2^40){m k:Nat}(hk:1<=k/\k<=9999){K:Int->Wp}(hK:K (Qh (beforeL l m k)) w) :
  Aa Tryz.prog 100 #[s.v,.int .i64 (m:Int),.int .i64 (k:Int)] rI K w:=by refine Ep1 ?_;unfold F100;have hsl:=hs.len1;rw [gW,gW] at hsl;unfold beforeL at hK;obtain ⟨P,hP⟩:∃P:Nat->Bool,(λx=>decide (x<m))=P:=⟨_,rfl⟩;rw [hP] at hK;obtain ⟨tg,htg⟩:∃tg,(l.filter P).reverse[k-1]?=tg:=⟨_,rfl⟩;rw [htg] at hK;refine Ae (λ_ W=>w=W/\tg=none) ?_ (by rintro _ _ ⟨rfl,rfl⟩;exact hK);rw [show W64 (((s.len:Nat):Int)-1)=(l.length:Int)-1 by rw [wrap64 (by omega) (by omega)];omega];refine Ba (λx W=>∃n k':Nat,x=((k':Int),(n:Int)-1,())/\w=W/\n<=l.length/\1<=k'/\k'<=9999/\((l.take n).filter P).reverse[k'-1]?=tg) (λx _=>(x.2.1+1).toNat) ⟨l.length,k,rfl,rfl,fJ _,hk.1,hk.2,by rw [jR];exact htg⟩ ?_;rintro _ _ ⟨n,k',rfl,rfl,hj,hk1,hk2,hu⟩;dsimp only;refine Ac (λhc=>?_) (λhc=>?_);{simp only [iI,jT] at hc;obtain ⟨j,rfl⟩:∃j,n=j+1:=⟨n-1,by omega⟩;rw [show ((j+1:Nat):Int)-1=(j:Int) by omega];obtain ⟨x,hx⟩:∃x,l[j]?=some x:=⟨_,jC (by omega)⟩;(have hd:l.take (j+1)=l.take j++[x]:=by rw [kT,hx];rfl);rw [hd,nH,nV] at hu;have hpx:P x=decide (x<m):=(by rw [←hP]);rw [show W64 ((j:Int)-1)=(j:Int)-1 by rw [wrap64 (by omega) (by omega)],show W64 ((k':Int)-1)=((k'-1:Nat):Int) by rw [wrap64 (by omega) (by omega)];omega];refine Ae (λz W=>z=(((if x<m then k'-1 else k':Nat):Int),())/\w=W/\(x<m->k'≠1)) ?_ ?_;{refine Fh (c:=.int .i64) (xs:=nI l) hs (kQ j) (As8 hx) λp=>Ac (λhe=>?_) (λhe=>?_);{simp only [iI] at he;have he:x<m:=(by omega);rw [jP he] at hpx;rw [nG hpx] at hu;refine Ac (λh1=>?_) (λh1=>⟨by rw [aF he],rfl,λ_=>?_⟩);{rw [jM] at h1;obtain rfl:k'=1:=(by omega);refine Fh (c:=.int .i64) (xs:=nI l) hs (kQ j) (As8 hx) λp=>?_;have hu:some x=tg:=hu;rw [←hu] at hK;exact hK};{rw [jO] at h1;omega}};{simp only [iH] at he;exact ⟨by rw [aJ (by omega)],rfl,λhh=>absurd hh (by omega)⟩}};rintro _ _ ⟨rfl,rfl,h1⟩;refine ⟨⟨j,if x<m then k'-1 else k',rfl,rfl,by omega,by split<;>omega,by split<;>omega,?_⟩,by omega⟩;by_cases he:x<m;{have:=h1 he;rw [jP he] at hpx;rw [nG hpx] at hu;rw [aF he];obtain ⟨k2,rfl⟩:∃k2,k'=k2+2:=⟨k'-2,by omega⟩;exact hu};{rw [jQ he] at hpx;rw [nJ (by rw [hpx];decide)] at hu;rw [aJ he];exact hu}};{simp only [iH,jT] at hc;refine ⟨rfl,?_⟩;rw [←hu,show n=0 by omega];rfl}
theorem Zg (hA:A.length<=1048576) (f:Nat×Nat->Bool):(Bq A f).length<2^40/\∀x∈Bq A f,x<=A.length:=by
 have hm:∀x∈Bq A f,x<=A.length:=λx hx=>(Lu hx true).len;refine ⟨?_,hm⟩;have hr:=Bp2 A f;have key:∀(l:List Nat) (n:Nat),l.Pairwise (·<·)->(∀x∈l,n<=x/\x<=A.length)->l.length+n<=A.length+1\/l=[]:=by
  intro l
  induction l with
  |nil=>intro n _ _;exact .inr rfl
  |cons a l ih=>intro n hp hb;left;rw [pJ] at hp;have ha:=hb a aH;rcases ih (a+1) hp.2 (λx hx=>⟨hp.1 x hx,(hb x (aI _ hx)).2⟩) with h|h;{rw [dB];omega};{rw [h];simp;omega}
 rcases key (Bq A f) 0 hr (λx hx=>⟨iW _,hm x hx⟩) with h|h;{omega};{rw [h];simp}
theorem Zn {l:List Nat}{m k x:Nat}(h:beforeL l m k=some x):x<m:=by have:=eY h;rw [nZ,nK,iI] at this;exact this.2
set_option maxHeartbeats 2000000 in
theorem Bd8 (h:Gu w q A){x kind count arg:Int}{past:Bool}{K:LdT->Wp}(hK:∀w',Ext w w'->K (ldT (Vp A x kind count past)) w') :
  Aa Tryz.prog 46 #[.pointer (some (at0 q)),.int .i64 x,.agg (Cells.vals c48 (mvM kind count arg)).toArray,.bool past] (.tup [(.agg c83),(.one (.int .i64))]) K w:=by
 refine A46 (a2:=mvM kind count arg) ?_;unfold F46;have hA:=h.len;have hbl:=Gi A;have hb:=Bc A;refine (St.start w).Af λb1 w1 S1 e1=>S1.Af λb2 w2 S2 e2=>?_;have S2:St (λ_=>False) w w2 [(b2,ldZ),(b1,Jw kind count arg)]:=S2;have h2:=h.ext S2.upd;obtain ⟨v,hv⟩:∃v,Vp A x kind count past=v:=⟨_,rfl⟩;rw [hv] at hK;unfold Vp at hv;dsimp only at hv;have hle:=V9 A x past;refine Jj h2 ?_;obtain ⟨s,hs⟩:∃s,Ak A x past=s:=⟨_,rfl⟩;rw [hs] at hv hle;rw [hs];have hkr:=Zi count;refine S2.lds 1 (mvM kind count arg) rfl (Pm λw4 e4=>?_);have S4:=S2.ext e4;have h4:=h.ext S4.upd;obtain ⟨k,hk⟩:∃k,kOf count=k:=⟨_,rfl⟩;rw [hk] at hv hkr;rw [hk];obtain ⟨big,hbig⟩:∃big,decide ((25<=kind/\kind<=28)\/kind=30)=big:=⟨_,rfl⟩;rw [hbig] at hv;refine Ae (λz W=>z=(big,())/\w4=W) ?_ ?_;{rw [←hbig];refine S4.ld (off:=0) 1 rfl (x:=kind) rfl (Ac (λh1=>S4.ld (off:=0) 1 rfl (x:=kind) rfl (Ac (λh2=>⟨Az ?_,rfl⟩) (λh2=>S4.ld (off:=0) 1 rfl (x:=kind) rfl ⟨Az ?_,rfl⟩))) (λh1=>S4.ld (off:=0) 1 rfl (x:=kind) rfl ⟨Az ?_,rfl⟩));(all_goals simp only [iI,iH,jT,jM,lQ] at *);all_goals omega};rintro _ _ ⟨rfl,rfl⟩;(have ewl:W64 ((lnN A:Int)-1)=((lnN A-1:Nat):Int):=by rw [wrap64 (by omega) (by omega)];omega);refine h4.Oa ?_;rw [ewl];refine Ol h4 (by omega) ?_;have hlast:Aw A (lnN A-1) (((Ag A (lnN A-1)).length:Int)-1)=Du A:=rfl;rw [hlast];obtain ⟨m1,m2⟩:=Zg hA (Lj A big);obtain ⟨m3,m4⟩:=Zg hA (Vg A big);obtain ⟨m5,m6⟩:=Zg hA (Qa A big);have es:W64 ((s:Int)+1)=((s+1:Nat):Int):=Ub (by omega);have fno:∀{e:Int} {W:World},St (λ_=>False) w W [(b2,ldZ),(b1,Jw kind count arg)]->v=noP e->Aa Tryz.prog 92 #[.int .i64 e] (.tup [(.agg c83),(.one (.int .i64))]) (λz=>Ad (at0 b2) (.agg (Cells.vals c83 z.1).toArray) 3 (lds c83 (at0 b2) λy=>K (y,z.2.1,()))) W:=λS hk=>Xw λw5 e5=>Ie (S.ext e5) (by rw [←hk];exact hK);have fland:∀{m:Nat} {kd:Int} {W:World},St (λ_=>False) w W [(b2,ldZ),(b1,Jw kind count arg)]->v=Bz A m kd->Aa Tryz.prog 93 #[.pointer (some (at0 q)),.int .i64 (m:Int),.int .i64 kd] (.tup [(.agg c83),(.one (.int .i64))]) (λz=>Ad (at0 b2) (.agg (Cells.vals c83 z.1).toArray) 3 (lds c83 (at0 b2) λy=>K (y,z.2.1,()))) W:=λS hk=>Wh (h.ext S.upd) λw5 e5=>Ie (S.ext e5) (by rw [←hk];exact hK);refine Ae (λz W=>∃(T:Nat) (kd:Int),z=((T:Int),kd,())/\v=(if T=s\/((kind=21\/kind=25\/kind=23\/kind=27)/\T<s) then noP 80 else Bz A T kd)/\St (λ_=>False) w W [(b2,ldZ),(b1,Jw kind count arg)]) ?_ ?_
 ·refine S4.ld (off:=0) 1 rfl (x:=kind) rfl (L9 (λhk1=>?_) (λhk1=>?_))
  ·rw [aF hk1] at hv;refine Nk h4 λr z w5 o1 o2 e5=>?_;rw [Ao1] at o1;have S5:=S4.ext e5;have h5:=h4.ext e5;rw [es];refine Yb o1 m1 hkr ?_;have fin:∀T:Nat,(He (Bq A (Lj A big)) (s+1) k).getD (if past=true then (Aq A (lnN A-1)).to_ else Du A)=T->v=(if T=s\/((kind=21\/kind=25\/kind=23\/kind=27)/\T<s) then noP 80 else Bz A T 0):=λT hT=>by
    rw [hT] at hv
    rw [←hv]
    by_cases hc:T<=s
    ·rw [aF hc,aF (by omega)]
    ·rw [aJ hc,aJ (by omega)]
   cases ha:He (Bq A (Lj A big)) (s+1) k with
   |none=>rw [ha] at fin;refine Bh (Ac (λhp=>?_) (λhp=>?_));{rw [hp] at fin;refine S5.drew λw6 S6 e6 _=>(h5.ext e6).Ug λsl hsl _=>(h5.ext e6).Oa ?_;rw [ewl];exact Ak9 hsl (by omega) λp=>⟨_,0,rfl,fin _ rfl,S6⟩};{rw [hp] at fin;exact ⟨_,0,rfl,fin _ rfl,S5⟩}
   |some T=>rw [ha] at fin;rw [show Qh (some T)=(T:Int) from rfl];refine Ac (λhc=>by simp only [iI] at hc;omega) (λ_=>⟨T,0,rfl,fin T rfl,S5⟩)
  rw [aJ hk1] at hv;refine L9 (λhk2=>?_) (λhk2=>?_)
  ·rw [aF hk2] at hv;refine Nk h4 λr z w5 o1 o2 e5=>?_;rw [Ao1] at o1;have S5:=S4.ext e5;refine Q7 o1 m1 hkr ?_;refine ⟨(beforeL (Bq A (Lj A big)) s k).getD 0,0,?_,?_,S5⟩
   ·cases hbf:beforeL (Bq A (Lj A big)) s k with
    |none=>rfl
    |some T=>rw [show Qh (some T)=(T:Int) from rfl,aJ (by omega)];rfl
   ·rw [←hv];by_cases h0:s=0
    ·have:beforeL (Bq A (Lj A big)) s k=none:=by
      cases hbf:beforeL (Bq A (Lj A big)) s k with
      |none=>rfl
      |some T=>have:=Zn hbf;omega
     rw [aF h0,this,aF (.inl (by rw [h0];rfl))]
    ·rw [aJ h0,aJ];intro hh;cases hbf:beforeL (Bq A (Lj A big)) s k with
     |none=>rw [hbf] at hh;have:(none:Option Nat).getD 0=0:=rfl;omega
     |some T=>rw [hbf] at hh;have:=Zn hbf;have:(some T).getD 0=T:=rfl;omega
  rw [aJ hk2] at hv;refine L9 (λhk3=>?_) (λhk3=>?_)
  ·rw [aF hk3] at hv;refine Nk h4 λr z w5 o1 o2 e5=>?_;rw [Au3] at o2;have S5:=S4.ext e5;rw [es];refine Yb o2 m5 hkr ?_;have fin:∀T:Nat,(He (Bq A (Qa A big)) (s+1) k).getD (Du A)=T->v=(if T=s\/((kind=21\/kind=25\/kind=23\/kind=27)/\T<s) then noP 80 else Bz A T 1):=λT hT=>by
    rw [hT] at hv
    rw [←hv]
    by_cases hc:T<=s
    ·rw [aF hc,aF (by omega)]
    ·rw [aJ hc,aJ (by omega)]
   cases ha:He (Bq A (Qa A big)) (s+1) k with
   |none=>rw [ha] at fin;exact Bh ⟨_,1,rfl,fin _ rfl,S5⟩
   |some T=>rw [ha] at fin;rw [show Qh (some T)=(T:Int) from rfl];exact Ac (λhc=>by simp only [iI] at hc;omega) (λ_=>⟨T,1,rfl,fin T rfl,S5⟩)
  rw [aJ hk3] at hv;refine L9 (λhk4=>?_) (λhk4=>?_)
  ·rw [aF hk4] at hv;refine Nk h4 λr z w5 o1 o2 e5=>?_;rw [Cq3] at o2;have S5:=S4.ext e5;refine Q7 o2 m3 hkr ?_;refine ⟨(beforeL (Bq A (Vg A big)) s k).getD 0,1,?_,?_,S5⟩
   ·cases hbf:beforeL (Bq A (Vg A big)) s k with
    |none=>rfl
    |some T=>rw [show Qh (some T)=(T:Int) from rfl,aJ (by omega)];rfl
   ·rw [←hv];by_cases h0:s=0
    ·have:beforeL (Bq A (Vg A big)) s k=none:=by
      cases hbf:beforeL (Bq A (Vg A big)) s k with
      |none=>rfl
      |some T=>have:=Zn hbf;omega
     rw [aF h0,this,aF (.inl (by rw [h0];rfl))]
    ·rw [aJ h0,aJ];intro hh;cases hbf:beforeL (Bq A (Vg A big)) s k with
     |none=>rw [hbf] at hh;have:(none:Option Nat).getD 0=0:=rfl;omega
     |some T=>rw [hbf] at hh;have:=Zn hbf;have:(some T).getD 0=T:=rfl;omega
  rw [aJ hk4] at hv;refine L9 (λhk5=>?_) (λhk5=>?_)
  ·rw [aF hk5] at hv;refine Nk h4 λr z w5 o1 o2 e5=>?_;rw [Au3] at o2;have S5:=S4.ext e5;refine Yb o2 m5 hkr ?_;refine Ae (λz W=>z=((((He (Bq A (Qa A big)) s k).getD (max (Du A) s):Nat):Int),())/\w5=W) ?_ ?_
   ·cases ha:He (Bq A (Qa A big)) s k with
    |none=>refine Bh ⟨?_,rfl⟩;congr 1;show _=((max (Du A) s:Nat):Int);split<;>omega
    |some T=>rw [show Qh (some T)=(T:Int) from rfl];exact Ac (λhc=>by simp only [iI] at hc;omega) (λ_=>⟨rfl,rfl⟩)
   rintro _ _ ⟨rfl,rfl⟩;exact fland S5 hv.symm
  rw [aJ hk5] at hv;exact fno S4 hv.symm
 rintro _ w6 ⟨T,kd,rfl,hvv,S6⟩;refine Ae (λz W=>z=(decide (kind=21\/kind=25\/kind=23\/kind=27),())/\w6=W) ?_ ?_;{refine S6.ld (off:=0) 1 rfl (x:=kind) rfl (Ac (λh1=>⟨Az ?_,rfl⟩) (λh1=>S6.ld (off:=0) 1 rfl (x:=kind) rfl (Ac (λh2=>⟨Az ?_,rfl⟩) (λh2=>S6.ld (off:=0) 1 rfl (x:=kind) rfl (Ac (λh3=>⟨Az ?_,rfl⟩) (λh3=>S6.ld (off:=0) 1 rfl (x:=kind) rfl ⟨Az ?_,rfl⟩))))));(all_goals simp only [iI,jM,jO,ne_eq,lQ] at *);all_goals omega};rintro _ _ ⟨rfl,rfl⟩;refine Ae (λz W=>z=(decide (T=s\/((kind=21\/kind=25\/kind=23\/kind=27)/\T<s)),())/\w6=W) ?_ ?_;{refine Ac (λh1=>⟨Az ?_,rfl⟩) (λh1=>Ac (λh2=>⟨Az ?_,rfl⟩) (λh2=>⟨Az ?_,rfl⟩));{rw [jM] at h1;simp only [lQ,iI];omega};{rw [jO] at h1;have h2:=cO h2;simp only [iI];omega};{rw [jO] at h1;have h2:=pV h2;simp only [dO,lS,iI];omega}};rintro _ _ ⟨rfl,rfl⟩;refine Ac (λhc=>?_) (λhc=>?_);{rw [aF (cO hc)] at hvv;exact fno S6 hvv};{rw [aJ (pV hc)] at hvv;exact fland S6 hvv}
end
end
section
open Trx Gly Clu Lns Obx
namespace Mot
def bkF (A:List Int) (p:Nat×Nat):Option ((Nat×Nat)×Nat):=(Um A p).map λb=>(p,b)
def bkL (A:List Int) (i:Nat):List ((Nat×Nat)×Nat):=((List.range i).flatMap (rowP A)).filterMap (bkF A)
def bkR (A:List Int) (i j:Nat):List ((Nat×Nat)×Nat):=((List.range j).map λc=>(i,c)).filterMap (bkF A)
def Cg8 (A:List Int) (p:Nat×Nat):Cel:=((Ag A p.1)[p.2]?).getD { from_:=0,to_:=0,atom:=0,alone:=false,kind:=0 }
variable {A:List Int}{i j:Nat}
theorem By3 (A:List Int):bkL A (lnN A)=Gt A:=rfl
theorem Cs6 (A:List Int):bkL A 0=[]:=rfl
theorem Bj4 (A:List Int) (i:Nat):bkR A i 0=[]:=rfl
theorem Ao0 (A:List Int) (i:Nat):bkL A (i+1)=bkL A i++bkR A i (Ag A i).length:=by
 unfold bkL bkR;rw [mF,oC,oZ];congr 1;simp only [iD,lH,kM];unfold rowP;split
 ·rename_i h0;have h1:bkF A (i,0)=none:=by
   unfold bkF Um
   have:(Ag A i)[0]?=none:=kL (by omega)
   dsimp only;rw [this];rfl
  rw [h0];simp [h1]
 {rfl}
theorem Cs5 {x:(Nat×Nat)×Nat}(h:bkF A (i,j)=some x):bkR A i (j+1)=bkR A i j++[x]:=by unfold bkR;rw [mF,lG,oZ];congr 1;simp [h]
theorem Bj5 (h:bkF A (i,j)=none):bkR A i (j+1)=bkR A i j:=by unfold bkR;rw [mF,lG,oZ];simp [h]
theorem Df8 {c:Cel}(hc:(Ag A i)[j]?=some c):bkF A (i,j)=(sortB c).map λb=>((i,j),b):=by unfold bkF Um;dsimp only;rw [hc];rfl
theorem Bx7 {c:Cel}(hc:(Ag A i)[j]?=some c):Cg8 A (i,j)=c:=by unfold Cg8;dsimp only;rw [hc];rfl
theorem Cz5 {x:(Nat×Nat)×Nat}(h:x∈Gt A):∃c,(Ag A x.1.1)[x.1.2]?=some c/\sortB c=some x.2/\Cg8 A x.1=c/\Bo A x.1=c.from_:=by unfold Gt at h;rw [oN] at h;obtain ⟨p,_,hp⟩:=h;obtain ⟨b,hb,rfl⟩:=mO.1 hp;unfold Um at hb;obtain ⟨c,hc,hs⟩:=mD.1 hb;refine ⟨c,hc,hs,Bx7 hc,?_⟩;unfold Bo;rw [Eb (fG.1 hc).1,Gz hc]
theorem Bc9 {c:Cel}{b:Nat}(h:sortB c=some b):b<6:=by unfold sortB at h;(repeat' split at h);all_goals first|cases h;omega|cases h
theorem Bb2 (A:List Int) (i j:Nat):(bkR A i j).length<=j:=by
 unfold bkR
 have:=List.length_filterMap_le (bkF A) ((List.range j).map λc=>(i,c))
 rwa [gW,lZ] at this
theorem By2 (h:i<=brs A):(bkL A i).length<=(Aq A i).from_:=by
 induction i with
 |zero=>rw [Cs6];exact iW _
 |succ i ih=>rw [Ao0,iE];have h1:=ih (by omega);have h2:=Bb2 A i (Ag A i).length;have h3:=Hq (A:=A) (i:=i) (by omega);have h4:=Ns (A:=A) (i:=i) (j:=i+1) (by omega) h;have ok:=Cb (A:=A) (i:=i) (by omega);have:=ok.ft;have:=ok.tn;omega
theorem Cs0 (A:List Int):(Gt A).length<=A.length:=by obtain ⟨k,hk⟩:∃k,lnN A=k+1:=⟨lnN A-1,by have:=Bc A;omega⟩;have hb:=Bc A;rw [←By3,hk,Ao0,iE];have h1:=By2 (A:=A) (i:=k) (by omega);have h2:=Bb2 A k (Ag A k).length;have h3:=Hq (A:=A) (i:=k) (by omega);have ok:=Cb (A:=A) (i:=k) (by omega);have:=ok.ft;have:=ok.tn;have:=ok.nl;omega
def De3 (A:List Int) (s:Nat) (q:(Nat×Nat)×Nat):Bool:=q.1.1==nb A s&&decide (s<=Bo A q.1)
theorem Cw5 {s:Nat}(hs:s<=A.length) (hi:i<=brs A){c:Cel}(hc:(Ag A i)[j]?=some c) (b:Nat):De3 A s ((i,j),b)=decide (s<=c.from_/\c.from_<(Aq A (nb A s)).to_):=by
 have ho:Bo A (i,j)=c.from_:=by
  unfold Bo
  rw [Eb (fG.1 hc).1,Gz hc]
 have hn:=Hg A s;have hr:=row_of hs;have hcl:=Ry hi hc;have ok:=Cb hi;have okn:=Cb hn;have:=ok.ft;have:=ok.tn;have:=okn.ft;have:=okn.tn;unfold De3;dsimp only;rw [ho,gV,aV,iI,iI,jM];constructor;{rintro ⟨h1,h2⟩;refine ⟨h2,?_⟩;rw [←h1];omega};{rintro ⟨h1,h2⟩;refine ⟨?_,h1⟩;rcases qE i (nb A s) with h|h|h;{have:=Ns h hn;omega};{exact h};{have:=Ns h hi;omega}}
theorem Cp7 {β:Type}(l:List β) (x:β) (P:β->Bool):(l++[x]).findIdx? P=match l.findIdx? P with|some m=>some m|none=>if P x then some l.length else none:=by
 rw [List.findIdx?_append];cases l.findIdx? P with
 |some m=>rfl
 |none=>by_cases h:P x=true;{simp [h]};{simp [h]}
def Rest {β:Type}(L:List β) (up:Bool) (x:Int) (R:List β):Prop:=if up then ∃j:Nat,x=(j:Int)/\j<=L.length/\R=L.drop j else ∃n:Nat,x=(n:Int)-1/\n<=L.length/\R=(L.take n).reverse
theorem Rest.nil {β:Type}{L:List β}{up:Bool}{x:Int}(h:Rest L up x []):¬(0<=x/\x<(L.length:Int)):=by
 cases up with
 |true=>obtain ⟨j,rfl,hj,hr⟩:=h;have:=fC List.length hr;rw [gJ,dR] at this;omega
 |false=>obtain ⟨n,rfl,hn,hr⟩:=h;have:=fC List.length hr;rw [pX,gI,dR] at this;omega
theorem Rest.cons {β:Type}{L R:List β}{r:β}{up:Bool}{x:Int}(h:Rest L up x (r::R)):0<=x/\x<(L.length:Int)/\L[x.toNat]?=some r/\Rest L up (if up then x+1 else x-1) R:=by
 cases up with
 |true=>obtain ⟨j,rfl,hj,hr⟩:=h;have hl:=fC List.length hr;rw [gJ,dB] at hl;have hd:=iZ (l:=L) (i:=j) (by omega);rw [hd] at hr;injection hr with h1 h2;refine ⟨by omega,by omega,?_,j+1,?_,by omega,h2⟩;{rw [dF,jC (by omega),h1]};{rw [aF rfl];omega}
 |false=>obtain ⟨n,rfl,hn,hr⟩:=h;have hl:=fC List.length hr;rw [pX,gI,dB] at hl;obtain ⟨m,rfl⟩:∃m,n=m+1:=⟨n-1,by omega⟩;have hm:L[m]?=some L[m]:=jC (by omega);rw [kT,hm,lU,nV] at hr;injection hr with h1 h2;refine ⟨by omega,by omega,?_,m,?_,by omega,h2⟩;{rw [show (((m+1:Nat):Int)-1).toNat=m by omega,hm,h1]};{rw [aJ (by decide)];omega}
theorem Cv7 {β:Type}{L:List β}{m:Nat}{q:β}(h:L[m]?=some q):Rest L true (m:Int) (q::L.drop (m+1)):=by have hm:=(fG.1 h);refine ⟨m,rfl,by have:=hm.1;omega,?_⟩;rw [iZ hm.1,hm.2]
theorem Cw0 {β:Type}{L:List β}{m:Nat}{q:β}(h:L[m]?=some q):Rest L false (m:Int) (q::(L.take m).reverse):=by have hm:=(fG.1 h).1;refine ⟨m+1,by omega,by omega,?_⟩;rw [kT,h,lU,nV];rfl
theorem Rest.len {β:Type}{L R:List β}{up:Bool}{x:Int}(h:Rest L up x R):R.length<=L.length:=by
 cases up with
 |true=>obtain ⟨j,_,_,rfl⟩:=h;rw [gJ];omega
 |false=>obtain ⟨n,_,_,rfl⟩:=h;rw [pX,gI];omega
theorem Bd1 {own:Nat}{p:Nat×Nat}{R:List ((Nat×Nat)×Nat)}{d:Nat}:Dt own ((p,own)::R) d=Dt own R (d+1):=by rw [Dt,aJ (λh=>h rfl),aF rfl]
theorem Bm3 {own b:Nat}{p:Nat×Nat}{R:List ((Nat×Nat)×Nat)}{d:Nat}(h:b%3≠own%3):Dt own ((p,b)::R) d=Dt own R d:=by rw [Dt,aF h]
theorem Ca0 {own b:Nat}{p:Nat×Nat}{R:List ((Nat×Nat)×Nat)}(h:b%3=own%3) (hb:b≠own):Dt own ((p,b)::R) 1=some p:=by rw [Dt,aJ (λhh=>hh h),aJ hb,aF rfl]
theorem Bz9 {own b:Nat}{p:Nat×Nat}{R:List ((Nat×Nat)×Nat)}{d:Nat}(h:b%3=own%3) (hb:b≠own) (hd:d≠1):Dt own ((p,b)::R) d=Dt own R (d-1):=by rw [Dt,aJ (λhh=>hh h),aJ hb,aJ hd]
end Mot
namespace Mot
variable {A:List Int}{i j:Nat}
theorem Dd5 {s:Nat}(hj:j<=brs A) (h:j≠nb A s):(Aq A j).from_≠s:=by intro he;have ok:=Cb hj;have:=Bv4 hj (n:=s) (by omega) (by have:=ok.ft;omega);omega
theorem Di3 {lo hi:Nat}(hlo:lo<=A.length) (hi':hi<=A.length) (he:hi=(Aq A (nb A hi)).from_) (hlt:lo<hi):nb A lo<nb A hi:=by have h1:=row_of hlo;have hb1:=Hg A lo;have hb2:=Hg A hi;have ok:=Cb hb2;have:=ok.ft;have:=ok.tn;rcases qE (nb A lo) (nb A hi) with h|h|h;{exact h};{rw [h] at h1;omega};{have:=Ns h hb1;omega}
theorem Cz3 {lo hi:Nat}(hlo:lo<=A.length) (hi':hi<=A.length) (hle:lo<=hi):(hi=(Aq A (nb A hi)).from_/\nb A lo<nb A hi)↔(hi=(Aq A (nb A hi)).from_/\lo<hi/\0<nb A hi):=by constructor;{rintro ⟨h1,h2⟩;refine ⟨h1,?_,by omega⟩;rcases lT lo hi with h|h;{exact h};{have:lo=hi:=(by omega);rw [this] at h2;omega}};{rintro ⟨h1,h2,_⟩;exact ⟨h1,Di3 hlo hi' h1 h2⟩}
theorem Df5 {lo hi:Nat}(hlo:Stand A lo true) (h:nb A lo<nb A hi):lo<=(Aq A (nb A hi-1)).to_:=by have hb2:=Hg A hi;obtain ⟨⟨k,c⟩,⟨h1,h2⟩,rfl,_⟩:=hlo;dsimp only at h1 h2;have hp:=Iz h1 (c:Int);have ho:Bo A (k,c)=Aw A k (c:Int):=rfl;rw [ho] at h ⊢;rw [Bv4 h1 hp.1 hp.2] at h;by_cases he:k=nb A hi-1;{rw [←he];exact hp.2};{have hn:=Ns (A:=A) (i:=k) (j:=nb A hi-1) (by omega) (by omega);have ok1:=Cb h1;have ok2:=Cb (A:=A) (i:=nb A hi-1) (by omega);have:=ok1.tn;have:=ok2.ft;omega}
theorem Cz2 {hi:Nat}(h:Stand A hi true):(∃(m:Nat) (cc:Cel),(Ag A (nb A hi))[m]?=some cc/\cc.from_=hi/\hi<(Aq A (nb A hi)).to_/\Aw A (nb A hi) ((Dj (Ag A (nb A hi)) (hi:Int):Nat)+1)=cc.to_/\∀(j:Nat) (x:Cel),(Ag A (nb A hi))[j]?=some x->x.from_=hi->x=cc)\/(hi=(Aq A (nb A hi)).to_/\∀(j:Nat) (x:Cel),(Ag A (nb A hi))[j]?=some x->x.from_≠hi):=by
 obtain ⟨⟨k,c⟩,⟨h1,h2⟩,ho,_⟩:=h;dsimp only at h1 h2;have ho:Aw A k (c:Int)=hi:=ho;have hp:=Iz h1 (c:Int);(have hk:nb A hi=k:=by rw [←ho];exact Bv4 h1 hp.1 hp.2);rw [hk];have hcp:=Vh h1 h2;rw [ho] at hcp;rcases lT c (Ag A k).length with hc|hc
 ·obtain ⟨cc,hcc⟩:=Dk hc;have hf:cc.from_=hi:=(by rw [←ho,Eb hc,Gz hcc]);have hr:=Ry h1 hcc;refine .inl ⟨c,cc,hcc,hf,by omega,?_,λj x hx hxf=>?_⟩;{rw [hcp];exact (Ba6 h1 hcc).symm}
  ·have hj:j=c:=by
    rcases qE j c with g|g|g
    ·have:=(Gg A k).lt g hx hcc;have:=(Gg A k).pos _ x hx;omega
    ·exact g
    ·have:=(Gg A k).lt g hcc hx;have:=(Gg A k).pos _ cc hcc;omega
   subst hj;rw [hcc] at hx;cases hx;rfl
 {have he:hi=(Aq A k).to_:=(by rw [←ho,Ei (by omega)]);refine .inr ⟨he,λj x hx hxf=>?_⟩;have:=Ry h1 hx;omega}
def Xz (l:List Nat) (s n f:Nat):Nat:=(((l.filter λx=>decide (s+1<=x)).take n).getLast?).getD f
theorem Bo2 (l:List Nat) (s f:Nat):Xz l s 0 f=f:=rfl
theorem Cc4 (s n f:Nat):Xz [] s n f=f:=by unfold Xz;simp
theorem Cl9 {x s n f:Nat}{l:List Nat}(h:¬s<x):Xz (x::l) s n f=Xz l s n f:=by unfold Xz;rw [nJ (by simp only [iI];omega)]
theorem Cc3 {x s n f:Nat}{l:List Nat}(h:s<x) (hn:0<n):Xz (x::l) s n f=Xz l s (n-1) x:=by obtain ⟨m,rfl⟩:∃m,n=m+1:=⟨n-1,by omega⟩;unfold Xz;rw [nG (by simp only [iI];omega),iK,List.getLast?_cons,nP];rfl
theorem Cm0 (A:List Int) (s:Nat) (big:Bool) (k:Nat):Lr A s big k=Xz (Bq A (Lj A big)) s (k-1) s:=rfl
end Mot
end
end Go.Proofs.YtolhlldgnfbemaaGreatDoor
